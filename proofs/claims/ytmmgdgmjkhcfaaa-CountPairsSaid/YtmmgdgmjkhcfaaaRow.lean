/- Rows of the world as arguments; the checks of lists as lines. -/
import Derived.Test.YtmmgdgmjkhcfaaaChk
import Derived.Test.YtmmgdgmjkhcfaaaNum
set_option linter.all false
namespace Go.Proofs.Ytmmgdgmjkhcfaaa
open Go Go.Abs
theorem line_of {n f : Nat} {l : List Int} {v : Value} (h : evB Try.prog noC n (.func (.func f) #[] #[]) [sliceA 0 0 l.length 1] [.cells 0 false (ints l)] = some (v, [.cells 0 false (ints l)])) (hi : immV v = true) : LineOK Try.prog f [.li (ints l)] (v, []) :=
  ⟨evB Try.prog noC n, v, [.cells 0 false (ints l)], [], evB_ok hmix noC_ok noC_grow n, by simp only [mkVals, mkHeap, ints_len]; exact h, MV_imm hi, rfl, fun j b h => by simp at h, fun i j b c f cs ds _ h => by simp at h⟩
theorem long_line (l : List Int) : LineOK Try.prog 14 [.li (ints l)] (.bool (decide (40 < l.length)), []) := line_of (long_run l 0) rfl
theorem rck_line (l : List Int) (h : l.length ≤ 40) : LineOK Try.prog 16 [.li (ints l)] (vi (chk l), []) := line_of (rck_run l h 0) rfl
theorem cck_line (l : List Int) (h : l.length ≤ 40) : LineOK Try.prog 44 [.li (ints l)] (vi (chk l), []) := line_of (cck_run l h 0) rfl
theorem rsz_line (l : List Int) (h : l.length ≤ 40) (hr : ∀ x ∈ l, 1 ≤ x ∧ x ≤ 20) : LineOK Try.prog 17 [.li (ints l)] (vi l.sum, []) := line_of (rsz_run l h hr 0) rfl
theorem csz_line (l : List Int) (h : l.length ≤ 40) (hr : ∀ x ∈ l, 1 ≤ x ∧ x ≤ 20) : LineOK Try.prog 60 [.li (ints l)] (vi l.sum, []) := line_of (csz_run l h hr 0) rfl
def Row (k : IntKind) (w : World) (a : Option Addr) (len cap : Nat) (zs : List Int) : Prop :=
  (a = none ∧ len = 0 ∧ cap = 0 ∧ zs = []) ∨
  ∃ x, a = some x ∧ len ≤ cap ∧ cap ≤ maxLen ∧ zs.length = cap ∧ (∀ i, i < zs.length → w.cell? (x.add i) = some (.int k (zs.getD i 0))) ∧ ∀ n ∈ zs, (Lit.int k n).wf = true
theorem row_at {w : World} {a : Option Addr} {len cap : Nat} {zs : List Int} (h : Row .i64 w a len cap zs) :
    ArgAt w (.imm nilV) (.slice a len cap) ∨ ArgAt w (.imm lostSlice) (.slice a len cap) ∨ ∃ l : List Int, 0 < l.length ∧ ArgAt w (.li (ints l)) (.slice a len cap) := by
  rcases h with ⟨rfl, rfl, rfl, _⟩ | ⟨x, rfl, h1, h2, h3, h4, _⟩
  · exact .inl (.imm fun m => .a (.s .sliceNil))
  · by_cases h0 : len = 0
    · subst h0
      exact .inr (.inl (.imm fun m => .a (.s (.lost _ _ _ _))))
    · refine .inr (.inr ⟨zs.take len, by rw [List.length_take]; omega, ?_⟩)
      obtain ⟨g, o, s⟩ := x
      have hc0 := h4 0 (by omega)
      unfold World.cell? Addr.add at hc0
      simp only at hc0
      split at hc0
      case h_2 => cases hc0
      rename_i C el fr hh
      have hs : s = none := by
        cases s with
        | none => rfl
        | some p => simp at hc0
      subst hs
      have hG : w.heap[g]? = some (.cells C el fr) := hh
      have hcell : ∀ i, i < zs.length → C[o + i]? = some (.int .i64 (zs.getD i 0)) := fun i hi => by
        have := h4 i hi
        unfold World.cell? Addr.add at this
        by_cases hi0 : i = 0
        · subst hi0
          rw [if_pos rfl] at this
          simp only at this
          rw [hG] at this
          exact this
        · rw [if_neg hi0] at this
          simp only at this
          rw [hG] at this
          exact this
      have hlen : len = (zs.take len).length := by rw [List.length_take]; omega
      have hsz : o + cap ≤ C.size := by
        have := hcell (cap - 1) (by omega)
        have := Array.getElem?_eq_some_iff.1 this
        obtain ⟨h, _⟩ := this
        omega
      have key := ArgAt.li (w := w) (l := ints (zs.take len)) (g := g) (o := o) (cap := cap) hG (by rw [ints_len, ← hlen]; exact h1) hsz (fun i v hv => by
        unfold ints at hv
        rw [List.getElem?_map, List.getElem?_take] at hv
        split at hv
        · rename_i hi
          have h5 : i < zs.length := by omega
          rw [List.getElem?_eq_getElem h5] at hv
          cases hv
          rw [hcell i h5, List.getD_eq_getElem?_getD, List.getElem?_eq_getElem h5]
          rfl
        · cases hv) (fun v hv => by
        unfold ints at hv
        obtain ⟨z, _, rfl⟩ := List.mem_map.1 hv
        rfl)
      rw [ints_len, ← hlen] at key
      exact key
/- The valid ones. -/
def bel : Nat → Nat → Nat → List (List Nat)
  | 0, _, _ => []
  | f + 1, m, n => if n = 0 then [[]] else if m = 0 then [] else bel f (m - 1) n ++ (if m ≤ n then (bel f m (n - m)).map (fun r => m :: r) else [])
theorem chkGo_cons {q x : Int} {r : List Int} (h : chkGo (some q) (x :: r) = none) : 1 ≤ x ∧ x ≤ 20 ∧ x ≤ q ∧ chkGo (some x) r = none := by
  unfold chkGo at h
  split at h
  · cases h
  · rename_i hb
    have h1 := bad_none hb
    unfold bad at hb
    rw [if_neg (by omega), if_neg (by omega)] at hb
    simp only at hb
    split at hb
    · cases hb
    · exact ⟨h1.1, h1.2, by omega, h⟩
theorem chkGo_le {q q' x : Int} {r : List Int} (h : chkGo (some q) (x :: r) = none) (hx : x ≤ q') : chkGo (some q') (x :: r) = none := by
  obtain ⟨h1, h2, _, h4⟩ := chkGo_cons h
  unfold chkGo
  have hb : bad (some q') x = none := by
    unfold bad
    rw [if_neg (by omega), if_neg (by omega)]
    exact if_neg (by omega)
  rw [hb]; exact h4
theorem bel_mem : ∀ (f m n : Nat) (l : List Int), chkGo (some (m : Int)) l = none → l.sum = n → m + n < f → ∃ p ∈ bel f m n, l = p.map Int.ofNat := by
  intro f
  induction f with
  | zero => intro m n l _ _ h; omega
  | succ f ih =>
    intro m n l hc hs hf
    unfold bel
    cases l with
    | nil =>
      have : n = 0 := by simp at hs; omega
      rw [if_pos this]
      exact ⟨[], List.mem_cons_self .., rfl⟩
    | cons x r =>
      obtain ⟨h1, h2, h3, h4⟩ := chkGo_cons hc
      have hr := sum_le (chkGo_none h4)
      rw [List.sum_cons] at hs
      rw [if_neg (by omega), if_neg (by omega)]
      by_cases hx : x = m
      · subst hx
        obtain ⟨p, hp, hp2⟩ := ih m (n - m) r h4 (by omega) (by omega)
        refine ⟨m :: p, List.mem_append.2 (.inr ?_), by rw [List.map_cons, ← hp2]; rfl⟩
        rw [if_pos (by omega)]
        exact List.mem_map.2 ⟨p, hp, rfl⟩
      · obtain ⟨p, hp, hp2⟩ := ih (m - 1) n (x :: r) (chkGo_le hc (by omega)) (by rw [List.sum_cons]; exact hs) (by omega)
        exact ⟨p, List.mem_append.2 (.inl hp), hp2⟩
/-- The partitions of a number. -/
def prt (n : Nat) : List (List Nat) := bel (n + n + 1) n n
theorem chk_zero {l : List Int} (h : chk l = 0) : l.length ≤ 20 ∧ chkGo none l = none ∧ l.sum ≤ 20 := by
  unfold chk at h
  split at h
  · cases h
  · rename_i h1
    split at h
    · rename_i e he
      exfalso
      have : ∀ (r : List Int) (p : Option Int) e, chkGo p r = some e → e = 2 ∨ e = 9 := by
        intro r
        induction r with
        | nil => intro p e h; cases h
        | cons x r ih =>
          intro p e h
          unfold chkGo at h
          split at h
          · rename_i e2 hb
            cases h
            unfold bad at hb
            split at hb
            · cases hb; exact .inl rfl
            · split at hb
              · cases hb; exact .inl rfl
              · split at hb
                · split at hb
                  · cases hb; exact .inr rfl
                  · cases hb
                · cases hb
          · exact ih _ e h
      rcases this l none e he with rfl | rfl <;> cases h
    · split at h
      · cases h
      · exact ⟨by omega, by assumption, by omega⟩
theorem prt_mem {l : List Int} (h : chk l = 0) : 0 ≤ l.sum ∧ l.sum ≤ 20 ∧ ∃ p ∈ prt l.sum.toNat, l = p.map Int.ofNat := by
  obtain ⟨h1, h2, h3⟩ := chk_zero h
  have hr := sum_le (chkGo_none h2)
  refine ⟨hr.1, h3, ?_⟩
  refine bel_mem _ _ _ l ?_ (by omega) (by omega)
  cases l with
  | nil => rfl
  | cons x r =>
    have hb := chkGo_none h2 x (List.mem_cons_self ..)
    have h4 : chkGo (some x) r = none := by
      unfold chkGo at h2
      split at h2
      · cases h2
      · exact h2
    have h5 : chkGo (some 20) (x :: r) = none := by
      unfold chkGo
      have hb : bad (some 20) x = none := by
        unfold bad
        rw [if_neg (by omega), if_neg (by omega)]
        exact if_neg (by omega)
      rw [hb]; exact h4
    refine chkGo_le h5 ?_
    have hr2 := sum_le (chkGo_none h4)
    rw [List.sum_cons]
    omega
theorem chk_cases (l : List Int) : chk l = 0 ∨ chk l = 2 ∨ chk l = 8 ∨ chk l = 9 := by
  by_cases h : chk l = 0
  · exact .inl h
  · right
    unfold chk at h ⊢
    split
    · exact .inr (.inl rfl)
    · split
      · rename_i e he
        have : ∀ (r : List Int) (p : Option Int) e, chkGo p r = some e → e = 2 ∨ e = 9 := by
          intro r
          induction r with
          | nil => intro p e h; cases h
          | cons x r ih =>
            intro p e h
            unfold chkGo at h
            split at h
            · rename_i e2 hb
              cases h
              unfold bad at hb
              split at hb
              · cases hb; exact .inl rfl
              · split at hb
                · cases hb; exact .inl rfl
                · split at hb
                  · split at hb
                    · cases hb; exact .inr rfl
                    · cases hb
                  · cases hb
            · exact ih _ e h
        rcases this l none e he with rfl | rfl
        · exact .inl rfl
        · exact .inr (.inr rfl)
      · split
        · exact .inr (.inl rfl)
        · rename_i h1 _ h2 h3
          rw [if_neg h1] at h
          simp only [h2, if_neg h3] at h
          exact absurd trivial h
end Go.Proofs.Ytmmgdgmjkhcfaaa
