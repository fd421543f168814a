/- Of the law: texts of its proof, joined (part 5). -/
import Derived.Test.YtkedcelpadiakaaGreatQwg4
set_option linter.all false
namespace Go.Num
def ptn : Nat → Nat → Nat → List (List Int)
  | 0, _, n => if n = 0 then [[]] else []
  | f + 1, m, n => if n = 0 then [[]] else (List.range (min m n)).flatMap fun x => (ptn f (x + 1) (n - (x + 1))).map (((x + 1 : Nat) : Int) :: ·)
theorem ptn_mem : ∀ {l : List Int} {f m n : Nat}, l.length ≤ f → (∀ x ∈ l, 1 ≤ x ∧ x ≤ m) → l.Pairwise (fun a b => b ≤ a) → l.sum = n → l ∈ ptn f m n := by
  intro l
  induction l with
  | nil =>
    intro f m n _ _ _ hs
    have : n = 0 := by simp at hs; omega
    subst this
    cases f <;> simp [ptn]
  | cons y l ih =>
    intro f m n hf hm hd hs
    have hy := hm y (by simp)
    have hp := List.pairwise_cons.1 hd
    have h0 : 0 ≤ l.sum := sum_nonneg fun x hx => by have := hm x (by simp [hx]); omega
    rw [List.sum_cons] at hs
    cases f with
    | zero => simp at hf
    | succ f =>
      unfold ptn
      rw [if_neg (by omega)]
      refine List.mem_flatMap.2 ⟨y.toNat - 1, List.mem_range.2 (by omega), List.mem_map.2 ⟨l, ?_, ?_⟩⟩
      · refine ih (by simpa using hf) (fun x hx => ⟨(hm x (by simp [hx])).1, ?_⟩) hp.2 (by omega)
        have := hp.1 x hx
        omega
      · have : ((y.toNat - 1 + 1 : Nat) : Int) = y := by omega
        rw [this]
theorem part_ptn {l : List Int} (hp : Part l) : ∃ n : Nat, l.sum = n ∧ n ≤ 20 ∧ l ∈ ptn 20 20 n := by
  have h0 : 0 ≤ l.sum := sum_nonneg fun x hx => by have := hp.mem x hx; omega
  have h1 := hp.sum
  exact ⟨l.sum.toNat, by omega, by omega, ptn_mem hp.len (fun x hx => by have := hp.mem x hx; omega) hp.desc (by omega)⟩
end Go.Num
