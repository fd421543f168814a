/- Of the law: texts of its proof, joined (part 7). -/
import Derived.Test.YtmmgdgmjkhcfaaaQst6
set_option linter.all false
namespace Go.Proofs.Ytmmgdgmjkhcfaaa
open Go Go.Abs
def repR (k : Nat) : Res := (sliceA 0 0 k 1, [ints (List.replicate k 1)])
def repL (l : List Nat) : List Line := l.map fun (k : Nat) => ([.li (ints [1]), .imm (vi k)], repR k)
theorem rep_all : ∀ x ∈ repL (List.range 21), LineOK Try.prog 95 x.1 x.2 := ok_of (noSpec_good _) (show Seen noSpec 95 _ from by unfold Seen; kernel_rfl)
theorem rep_line {k : Nat} (h : k ≤ 20) : LineOK Try.prog 95 [.li (ints [1]), .imm (vi k)] (repR k) := rep_all _ (List.mem_map.2 ⟨k, List.mem_range.2 (by omega), rfl⟩)
open Classical in
noncomputable def repS : Nat → List Arg → Option Res := fun f xs => if f = 95 then (match xs with
  | [.li vs, .imm (.int .i64 z)] => if vs = ints [1] ∧ 0 ≤ z ∧ z ≤ 20 then some (repR z.toNat) else none
  | _ => none) else none
open Classical in
theorem repS_li {k : Nat} (hk : k ≤ 20) : repS 95 [.li (ints [1]), .imm (vi k)] = some (repR k) := by
  unfold repS
  rw [if_pos rfl]
  show (if ints [1] = ints [1] ∧ 0 ≤ (k : Int) ∧ (k : Int) ≤ 20 then some (repR (k : Int).toNat) else none) = _
  rw [if_pos ⟨rfl, by omega, by omega⟩, Int.toNat_natCast]
theorem repS_ok : ∀ f xs r, repS f xs = some r → LineOK Try.prog f xs r := by
  intro f xs r h
  unfold repS at h
  split at h
  · rename_i hf
    subst hf
    split at h
    · split at h
      · rename_i z hp
        cases h
        obtain ⟨rfl, h0, h1⟩ := hp
        have e : z = ((z.toNat : Nat) : Int) := by omega
        have := rep_line (k := z.toNat) (by omega)
        rw [← e] at this
        exact this
      · cases h
    · cases h
  · cases h
end Go.Proofs.Ytmmgdgmjkhcfaaa
