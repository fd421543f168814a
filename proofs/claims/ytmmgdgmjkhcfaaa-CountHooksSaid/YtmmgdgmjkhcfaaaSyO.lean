/- Integers of the program: greatest common divisors, exported quotients. -/
import Derived.Test.YtmmgdgmjkhcfaaaSyN
set_option linter.all false
namespace Go.Proofs.Ytmmgdgmjkhcfaaa
open Go Go.Abs Go.Num
set_option maxRecDepth 10000
attribute [local congr] bindO_congr bindF_congr bindX_congr condX_congr iteB_congr binS_congr pickS_congr eqB_congr nilS_congr clsW_congr
/-- A list that stands while only the blocks from B to C are written. -/
def Held (B C : Nat) (H : Heap) (v : Value) (l : List Value) : Prop := ∀ G, Old B H G → Kept C H G → R G v l
theorem Held.R {B C : Nat} {H : Heap} {v : Value} {l : List Value} (h : Held B C H v l) : R H v l := h H (Old.refl _ _) (Kept.refl _ _)
theorem Held.go {B C : Nat} {H G : Heap} {v : Value} {l : List Value} (h : Held B C H v l) (ho : Old B H G) (hk : Kept C H G) : Held B C G v l := fun G' h1 h2 => h G' (ho.trans h1) (Kept.trans hk h2)
theorem Old.kept {C : Nat} {H H' : Heap} (h : Old H.length H H') : Kept C H H' := fun b f o cs _ _ hb => by rw [h.2 b (lt_of_blk hb)]; exact hb
theorem RO.held {B C : Nat} {H : Heap} {v : Value} {l : List Value} (h : RO C H v l) : Held B C H v l := fun _ _ hk => (h.kept hk).R
theorem R.held {C : Nat} {H G : Heap} {v : Value} {l : List Value} (h : R H v l) (ho : Old H.length H G) : Held H.length C G v l := fun _ h1 _ => h.mono (ho.trans h1)
theorem wh_of {H : Heap} {v : Value} {z : Int} (z0 : 0 ≤ z) (h : R H v (ints (nf z))) : Wh 0 H (.agg #[.bool false, v]) z := ⟨v, by rw [show decide (z < 0) = false from by simp; omega], by rw [natAbs_pos z0]; exact h.RO⟩
def LongAll (F : Nat) : Prop := ∀ x y : Int, 0 ≤ x → 0 < y → y ≤ x → (nf x).length ≤ 390 → 2 ≤ (nf y).length → LongOK F x y
/-- What 'read' makes of a number that is not negative. -/
theorem read_pos {H : Heap} {v : Value} {z : Int} (hw : WF H) (hv : NumV H v z) (z0 : 0 ≤ z) (n : Nat) (hn : 2001 ≤ n) :
    ∃ d H', evB Try.prog noC n (.func (.func 83) #[] #[]) [v] H = some (.agg #[.bool false, d], H') ∧ R H' d (ints (nf z)) ∧ Old H.length H H' ∧ WF H' := by
  obtain ⟨w, H', e, ⟨d, rfl, hd⟩, ho, hw'⟩ := read_run hw hv n hn
  rw [show decide (z < 0) = false from by simp; omega] at e
  rw [natAbs_pos z0] at hd
  exact ⟨d, H', e, hd.R, ho, hw'⟩
end Go.Proofs.Ytmmgdgmjkhcfaaa
