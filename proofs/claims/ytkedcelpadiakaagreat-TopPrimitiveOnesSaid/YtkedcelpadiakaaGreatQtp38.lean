/- Of the law: texts of its proof, joined (part 38). -/
import Derived.Test.YtkedcelpadiakaaGreatQtp37
set_option linter.all false
namespace Go.Proofs.YtkedcelpadiakaaGreat
open Go Go.Abs Go.Num
theorem comm_all : (L5.all fun r => (permsP 5).contains r && (permsP 5).all fun u => (permsP 5).contains (commP r u) && Nat.ble (kindP r u).length 1000) = true := by kernel_rfl
theorem comm5 {r u : List Int} (hr : r ∈ L5) (hu : u ∈ permsP 5) : r ∈ permsP 5 ∧ commP r u ∈ permsP 5 ∧ (kindP r u).length ≤ 1000 := by
  have h := List.all_eq_true.1 comm_all r hr
  rw [Bool.and_eq_true] at h
  have h2 := List.all_eq_true.1 h.2 u hu
  rw [Bool.and_eq_true] at h2
  exact ⟨by simpa using h.1, by simpa using h2.1, Nat.le_of_ble_eq_true h2.2⟩
end Go.Proofs.YtkedcelpadiakaaGreat
