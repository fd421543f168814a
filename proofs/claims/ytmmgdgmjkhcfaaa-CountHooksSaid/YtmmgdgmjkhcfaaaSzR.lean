/- A caller's lists: from the model's words to the evaluator's. -/
import Derived.Test.YtmmgdgmjkhcfaaaSyA
import Derived.Test.YtmmgdgmjkhcfaaaFaL
set_option linter.all false
namespace Go.Proofs.Ytmmgdgmjkhcfaaa
open Go Go.Abs
def Row (k : IntKind) (w : World) (a : Option Addr) (len cap : Nat) (zs : List Int) : Prop :=
  (a = none ∧ len = 0 ∧ cap = 0 ∧ zs = []) ∨
  ∃ x, a = some x ∧ len ≤ cap ∧ cap ≤ maxLen ∧ zs.length = cap ∧ (∀ i, i < zs.length → w.cell? (x.add i) = some (.int k (zs.getD i 0))) ∧ ∀ n ∈ zs, (Lit.int k n).wf = true
theorem row_at {w : World} {a : Option Addr} {len cap : Nat} {zs : List Int} (h : Row .i64 w a len cap zs) :
    ArgAt w (.imm (.slice none 0 0)) (.slice a len cap) ∨ ArgAt w (.imm lostSlice) (.slice a len cap) ∨ ∃ l : List Int, 0 < l.length ∧ ArgAt w (.li (ints l)) (.slice a len cap) := by
  rcases h with ⟨rfl, rfl, rfl, _⟩ | ⟨x, rfl, h1, h2, h3, h4, _⟩
  · exact .inl (.imm fun m => .a (.s .sliceNil))
  · by_cases h0 : len = 0
    · subst h0
      exact .inr (.inl (.imm fun m => .a (.s (.lost _ _ _ _))))
    · refine .inr (.inr ⟨zs.take len, by rw [List.length_take]; omega, ?_⟩)
      obtain ⟨g, o, s⟩ := x
      have hc0 := h4 0 (by omega)
      unfold World.cell? Addr.add at hc0
      simp only at hc0
      split at hc0
      case h_2 => cases hc0
      rename_i C el fr hh
      have hs : s = none := by
        cases s with
        | none => rfl
        | some p => simp at hc0
      subst hs
      have hG : w.heap[g]? = some (.cells C el fr) := hh
      have hcell : ∀ i, i < zs.length → C[o + i]? = some (.int .i64 (zs.getD i 0)) := fun i hi => by
        have := h4 i hi
        unfold World.cell? Addr.add at this
        by_cases hi0 : i = 0
        · subst hi0
          rw [if_pos rfl] at this
          simp only at this
          rw [hG] at this
          exact this
        · rw [if_neg hi0] at this
          simp only at this
          rw [hG] at this
          exact this
      have hlen : len = (zs.take len).length := by rw [List.length_take]; omega
      have hsz : o + cap ≤ C.size := by
        have := hcell (cap - 1) (by omega)
        have := Array.getElem?_eq_some_iff.1 this
        obtain ⟨h, _⟩ := this
        omega
      have key := ArgAt.li (w := w) (l := ints (zs.take len)) (g := g) (o := o) (cap := cap) hG (by rw [ints_len, ← hlen]; exact h1) hsz (fun i v hv => by
        unfold ints at hv
        rw [List.getElem?_map, List.getElem?_take] at hv
        split at hv
        · rename_i hi
          have h5 : i < zs.length := by omega
          rw [List.getElem?_eq_getElem h5] at hv
          cases hv
          rw [hcell i h5, List.getD_eq_getElem?_getD, List.getElem?_eq_getElem h5]
          rfl
        · cases hv) (fun v hv => by
        unfold ints at hv
        obtain ⟨z, _, rfl⟩ := List.mem_map.1 hv
        rfl)
      rw [ints_len, ← hlen] at key
      exact key
/-- One list and numbers behind it. -/
theorem row_one {w : World} {a : Option Addr} {len cap : Nat} {zs : List Int} (h : Row .i64 w a len cap zs) : ∃ (x : Arg) (l : List Int), ArgAt w x (.slice a len cap) ∧ ∀ ys : List Value, ∃ v, mkVals 0 (x :: ys.map .imm) = v :: ys ∧ R (mkHeap 0 (x :: ys.map .imm)) v (ints l) ∧ WF (mkHeap 0 (x :: ys.map .imm)) := by
  have hv : ∀ (k : Nat) (ys : List Value), mkVals k (ys.map Arg.imm) = ys := by
    intro k ys
    induction ys with
    | nil => rfl
    | cons y ys ih => rw [List.map_cons, mkVals, ih]
  have hh : ∀ (k : Nat) (ys : List Value), mkHeap k (ys.map Arg.imm) = [] := by
    intro k ys
    induction ys with
    | nil => rfl
    | cons y ys ih => rw [List.map_cons, mkHeap, ih]
  rcases row_at h with h | h | ⟨l, hl, h⟩
  · refine ⟨_, [], h, fun ys => ⟨.slice none 0 0, by rw [mkVals, hv], .inl ⟨rfl, rfl⟩, ?_⟩⟩
    rw [mkHeap, hh]; intro b f o cs hb; simp at hb
  · refine ⟨_, [], h, fun ys => ⟨lostSlice, by rw [mkVals, hv], .inr (.inl ⟨rfl, rfl⟩), ?_⟩⟩
    rw [mkHeap, hh]; intro b f o cs hb; simp at hb
  · refine ⟨_, l, h, fun ys => ⟨sliceA 0 0 l.length 1, by rw [mkVals, hv, ints_len], .inr (.inr ⟨0, 0, 0, false, ints l, by rw [ints_len], by rw [mkHeap, hh]; rfl, by simp, by simp⟩), ?_⟩⟩
    rw [mkHeap, hh]
    intro b f o cs hb
    cases b with
    | zero => simp at hb; omega
    | succ b => simp at hb
end Go.Proofs.Ytmmgdgmjkhcfaaa
