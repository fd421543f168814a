/- Rim hooks: by beads, and by the diagram. -/
import Derived.Test.YtmmgdgmjkhcfaaaSyY
set_option linter.all false
namespace Go.Num
def bead (l : List Int) (r : Nat) : Int := l.getD r 0 + l.length - 1 - r
def beadsL (l : List Int) : List Int := (List.range l.length).map (bead l)
def jmp (l : List Int) (i : Nat) (t : Int) : Nat := i + tw ((beadsL l).drop (i + 1)) t
/-- The rows that are left when the rows from i to J are the hook's, its last one becoming what t says. -/
def pf (l : List Int) (i J : Nat) (t : Int) (r : Nat) : Int := if r < i then l.getD r 0 else if r < J then l.getD (r + 1) 0 - 1 else if r = J then t - (l.length - 1 - J) else l.getD r 0
def pfL (l : List Int) (i J : Nat) (t : Int) : List Int := (List.range l.length).map (pf l i J t)
def leftP (l : List Int) (i J : Nat) (t : Int) : List Int := (pfL l i J t).filter fun x => decide (0 < x)
/-- The hook that begins in row i, by beads. -/
def rimP (l : List Int) (k : Int) (i : Nat) : List (List Int × Int) := if bead l i - k < 0 ∨ bead l i - k ∈ beadsL l then [] else [(leftP l i (jmp l i (bead l i - k)) (bead l i - k), ((jmp l i (bead l i - k) - i : Nat) : Int))]
def rimsP (l : List Int) (k : Int) : List (List Int × Int) := (List.range l.length).flatMap (rimP l k)
/-- Not negative, and descending. -/
def OkL (q : List Int) : Prop := (∀ r, r < q.length → 0 ≤ q.getD r 0) ∧ ∀ r, r + 1 < q.length → q.getD (r + 1) 0 ≤ q.getD r 0
noncomputable instance okL_dec (q : List Int) : Decidable (OkL q) := Classical.propDecidable _
def tkn (l : List Int) (i h : Nat) : Int := l.getD i 0 - l.getD (i + h) 0 + h
noncomputable def rimR (l : List Int) (k : Int) (i h : Nat) : List (List Int × Int) := if OkL (pfL l i (i + h) (bead l i - k)) ∧ tkn l i h < k then [(trimL (pfL l i (i + h) (bead l i - k)), (h : Int))] else []
noncomputable def rimsR (l : List Int) (k : Int) : List (List Int × Int) := (List.range l.length).flatMap fun i => (List.range (l.length - i)).flatMap (rimR l k i)
theorem pfL_len (l : List Int) (i J : Nat) (t : Int) : (pfL l i J t).length = l.length := by unfold pfL; simp
theorem pfL_get {l : List Int} {i J r : Nat} {t : Int} (h : r < l.length) : (pfL l i J t).getD r 0 = pf l i J t r := by
  unfold pfL
  rw [List.getD_eq_getElem?_getD, List.getElem?_map, List.getElem?_range h]; rfl
theorem beadsL_len (l : List Int) : (beadsL l).length = l.length := by unfold beadsL; simp
theorem beadsL_get {l : List Int} {r : Nat} (h : r < l.length) : (beadsL l).getD r 0 = bead l r := by
  unfold beadsL
  rw [List.getD_eq_getElem?_getD, List.getElem?_map, List.getElem?_range h]; rfl
theorem bead_lt {l : List Int} (hd : l.Pairwise (fun a b => b ≤ a)) {r s : Nat} (hrs : r < s) (hs : s < l.length) : bead l s < bead l r := by
  have := desc_le hd (Nat.le_of_lt hrs) hs
  unfold bead; omega
theorem bead_le {l : List Int} (hd : l.Pairwise (fun a b => b ≤ a)) {r s : Nat} (hrs : r ≤ s) (hs : s < l.length) : bead l s ≤ bead l r := by
  by_cases e : r = s
  · subst e; omega
  · exact Int.le_of_lt (bead_lt hd (by omega) hs)
theorem mem_beads {l : List Int} {t : Int} : t ∈ beadsL l ↔ ∃ r, r < l.length ∧ bead l r = t := by
  unfold beadsL
  rw [List.mem_map]
  constructor
  · rintro ⟨r, hr, e⟩; exact ⟨r, List.mem_range.1 hr, e⟩
  · rintro ⟨r, hr, e⟩; exact ⟨r, List.mem_range.2 hr, e⟩
theorem drop_beads {l : List Int} {i t : Nat} (h : i + 1 + t < l.length) : ((beadsL l).drop (i + 1)).getD t 0 = bead l (i + 1 + t) := by
  rw [List.getD_eq_getElem?_getD, List.getElem?_drop, ← List.getD_eq_getElem?_getD, beadsL_get h]
/-- What the program's test says about the place where the hook ends. -/
theorem jmp_spec {l : List Int} {i : Nat} {t : Int} (hi : i < l.length) : jmp l i t < l.length ∧ i ≤ jmp l i t ∧ (∀ r, i < r → r ≤ jmp l i t → t < bead l r) ∧ (jmp l i t + 1 < l.length → bead l (jmp l i t + 1) ≤ t) := by
  have hl : ((beadsL l).drop (i + 1)).length = l.length - (i + 1) := by rw [List.length_drop, beadsL_len]
  have hle := tw_le ((beadsL l).drop (i + 1)) t
  have key : ∀ (m : List Int) (t : Int), (∀ r, r < tw m t → t < m.getD r 0) ∧ (tw m t < m.length → m.getD (tw m t) 0 ≤ t) := by
    intro m t
    unfold tw
    induction m with
    | nil => exact ⟨fun r hr => by simp at hr, fun h => by simp at h⟩
    | cons x m ih =>
      by_cases hx : t < x
      · rw [List.takeWhile_cons_of_pos (by simpa using hx), List.length_cons]
        refine ⟨fun r hr => ?_, fun h => ?_⟩
        · cases r with
          | zero => exact hx
          | succ r => exact ih.1 r (by omega)
        · exact ih.2 (by simpa using h)
      · rw [List.takeWhile_cons_of_neg (by simpa using hx)]
        exact ⟨fun r hr => by simp at hr, fun _ => by have : (x :: m).getD (List.length ([] : List Int)) 0 = x := rfl; rw [this]; omega⟩
  obtain ⟨k1, k2⟩ := key ((beadsL l).drop (i + 1)) t
  unfold jmp
  refine ⟨by omega, by omega, fun r h1 h2 => ?_, fun h => ?_⟩
  · have := k1 (r - (i + 1)) (by omega)
    rw [drop_beads (by omega), show i + 1 + (r - (i + 1)) = r from by omega] at this
    exact this
  · have := k2 (by omega)
    rw [drop_beads (by omega), show i + 1 + tw ((beadsL l).drop (i + 1)) t = i + tw ((beadsL l).drop (i + 1)) t + 1 from by omega] at this
    exact this
theorem jmp_of {l : List Int} {i h : Nat} {t : Int} (hi : i + h < l.length) (h1 : ∀ r, i < r → r ≤ i + h → t < bead l r) (h2 : i + h + 1 < l.length → bead l (i + h + 1) ≤ t) : jmp l i t = i + h := by
  have hl : ((beadsL l).drop (i + 1)).length = l.length - (i + 1) := by rw [List.length_drop, beadsL_len]
  have := tw_eq (l := (beadsL l).drop (i + 1)) (j := t) (n := h) (by omega) (fun r hr => by
    rw [drop_beads (by omega)]
    exact h1 _ (by omega) (by omega)) (by
    by_cases e : h = ((beadsL l).drop (i + 1)).length
    · exact .inl e
    · refine .inr ?_
      rw [drop_beads (by omega), show i + 1 + h = i + h + 1 from by omega]
      have := h2 (by omega)
      omega)
  unfold jmp
  omega
theorem pf_lo {l : List Int} {i J r : Nat} {t : Int} (h : r < i) : pf l i J t r = l.getD r 0 := if_pos h
theorem pf_mid {l : List Int} {i J r : Nat} {t : Int} (h1 : i ≤ r) (h2 : r < J) : pf l i J t r = l.getD (r + 1) 0 - 1 := by unfold pf; rw [if_neg (by omega), if_pos h2]
theorem pf_at {l : List Int} {i J : Nat} {t : Int} (h1 : i ≤ J) : pf l i J t J = t - (l.length - 1 - J) := by unfold pf; rw [if_neg (by omega), if_neg (by omega), if_pos rfl]
theorem pf_hi {l : List Int} {i J r : Nat} {t : Int} (h1 : i ≤ J) (h2 : J < r) : pf l i J t r = l.getD r 0 := by unfold pf; rw [if_neg (by omega), if_neg (by omega), if_neg (by omega)]
theorem rim_fwd {l : List Int} (hp : Part l) {k : Int} (hk : 1 ≤ k) {i : Nat} (hi : i < l.length) (h0 : 0 ≤ bead l i - k) (hn : bead l i - k ∉ beadsL l) : OkL (pfL l i (jmp l i (bead l i - k)) (bead l i - k)) ∧ tkn l i (jmp l i (bead l i - k) - i) < k := by
  obtain ⟨j1, j2, j3, j4⟩ := jmp_spec (t := bead l i - k) hi
  generalize hJ : jmp l i (bead l i - k) = J at *
  have hbJ : bead l i - k < bead l J := by
    by_cases e : J = i
    · rw [e]; omega
    · exact j3 J (by omega) (Nat.le_refl _)
  have hb1 : J + 1 < l.length → bead l (J + 1) < bead l i - k := fun h => by
    have h1 := j4 h
    have h2 : bead l (J + 1) ≠ bead l i - k := fun e => hn (mem_beads.2 ⟨J + 1, h, e⟩)
    omega
  have hd := hp.desc
  have hm := fun (r : Nat) (h : r < l.length) => hp.getD h
  refine ⟨⟨fun r hr => ?_, fun r hr => ?_⟩, ?_⟩
  · rw [pfL_len] at hr
    rw [pfL_get hr]
    by_cases c1 : r < i
    · rw [pf_lo c1]; have := hm r hr; omega
    · by_cases c2 : r < J
      · rw [pf_mid (by omega) c2]; have := hm (r + 1) (by omega); omega
      · by_cases c3 : r = J
        · subst c3
          rw [pf_at j2]
          by_cases c4 : r + 1 < l.length
          · have := hb1 c4
            have := hm (r + 1) c4
            unfold bead at *
            omega
          · omega
        · rw [pf_hi j2 (by omega)]; have := hm r hr; omega
  · rw [pfL_len] at hr
    rw [pfL_get (by omega), pfL_get (by omega)]
    by_cases c1 : r + 1 < i
    · rw [pf_lo c1, pf_lo (by omega)]; exact desc_le hd (by omega) (by omega)
    · by_cases c2 : r + 1 < J
      · rw [pf_mid (by omega) c2]
        have d1 := desc_le hd (show r + 1 ≤ r + 1 + 1 by omega) (by omega)
        by_cases c3 : r < i
        · rw [pf_lo c3]
          have d2 := desc_le hd (show r ≤ r + 1 + 1 by omega) (by omega)
          omega
        · rw [pf_mid (by omega) (by omega)]; omega
      · by_cases c3 : r + 1 = J
        · rw [c3, pf_at j2]
          by_cases c4 : r < i
          · rw [pf_lo c4]
            have c5 : J = i := by omega
            have d2 := desc_le hd (show r ≤ r + 1 by omega) (by omega)
            rw [c3] at d2
            unfold bead at *
            rw [c5] at *
            omega
          · rw [pf_mid (by omega) (by omega), c3]
            unfold bead at *
            omega
        · by_cases c4 : r = J
          · subst c4
            have := hb1 hr
            rw [pf_at j2, pf_hi j2 (by omega)]
            unfold bead at *
            omega
          · by_cases c5 : r < J
            · omega
            · rw [pf_hi j2 (by omega)]
              by_cases c6 : r < i
              · omega
              · rw [pf_hi j2 (by omega)]
                exact desc_le hd (by omega) (by omega)
  · unfold tkn
    rw [show i + (J - i) = J from by omega]
    unfold bead at hbJ
    omega
theorem rim_bwd {l : List Int} (hp : Part l) {k : Int} {i h : Nat} (hi : i + h < l.length) (ho : OkL (pfL l i (i + h) (bead l i - k))) (ht : tkn l i h < k) : 0 ≤ bead l i - k ∧ bead l i - k ∉ beadsL l ∧ jmp l i (bead l i - k) = i + h := by
  have hd := hp.desc
  have hbJ : bead l i - k < bead l (i + h) := by unfold tkn at ht; unfold bead; omega
  have h0 := ho.1 (i + h) (by rw [pfL_len]; exact hi)
  rw [pfL_get hi, pf_at (by omega)] at h0
  have h1 : i + h + 1 < l.length → bead l (i + h + 1) < bead l i - k := fun hlt => by
    have := ho.2 (i + h) (by rw [pfL_len]; exact hlt)
    rw [pfL_get hlt, pfL_get hi, pf_hi (by omega) (by omega), pf_at (by omega)] at this
    unfold bead at *
    omega
  refine ⟨by omega, fun hm => ?_, jmp_of hi (fun r c1 c2 => ?_) (fun hlt => Int.le_of_lt (h1 hlt))⟩
  · obtain ⟨r, hr, e⟩ := mem_beads.1 hm
    by_cases c : r ≤ i + h
    · have := bead_le hd c hi; omega
    · have c2 : i + h + 1 < l.length := by omega
      have := bead_le hd (show i + h + 1 ≤ r by omega) hr
      have := h1 c2
      omega
  · have := bead_le hd c2 hi; omega
theorem trim_filter : ∀ {q : List Int}, OkL q → trimL q = q.filter fun x => decide (0 < x) := by
  intro q
  induction q with
  | nil => intro _; rfl
  | cons x q ih =>
    intro h
    have hq : OkL q := ⟨fun r hr => h.1 (r + 1) (by simpa using hr), fun r hr => h.2 (r + 1) (by simpa using hr)⟩
    have hx := h.1 0 (by simp)
    have hx : 0 ≤ x := hx
    rw [trimL_cons, ih hq]
    by_cases h0 : x = 0
    · -- then all are 0
      have hz : ∀ r, r < q.length → q.getD r 0 ≤ 0 := by
        intro r
        induction r with
        | zero =>
          intro hr
          have := h.2 0 (by simpa using hr)
          have : q.getD 0 0 ≤ x := this
          omega
        | succ r ihr =>
          intro hr
          have h1 := ihr (by omega)
          have h2 := hq.2 r hr
          omega
      have hf : (q.filter fun x => decide (0 < x)) = [] := by
        rw [List.filter_eq_nil_iff]
        intro y hy
        obtain ⟨r, hr, e⟩ := List.getElem_of_mem hy
        have := hz r hr
        rw [List.getD_eq_getElem?_getD, List.getElem?_eq_getElem hr] at this
        simp only [Option.getD_some] at this
        rw [e] at this
        simp; omega
      rw [hf, if_pos rfl, if_pos h0, List.filter_cons_of_neg (by simp; omega), hf]
    · rw [List.filter_cons_of_pos (by simp; omega)]
      split
      · rename_i hf
        rw [hf]
      · rfl
theorem flat_one {α : Type} {n J : Nat} {f : Nat → List α} (hJ : J < n) (h : ∀ r, r < n → r ≠ J → f r = []) : (List.range n).flatMap f = f J := by
  induction n with
  | zero => omega
  | succ n ih =>
    rw [List.range_succ, List.flatMap_append, List.flatMap_cons, List.flatMap_nil, List.append_nil]
    by_cases e : J = n
    · subst e
      have : (List.range J).flatMap f = [] := by
        rw [List.flatMap_eq_nil_iff]
        intro r hr
        have := List.mem_range.1 hr
        exact h r (by omega) (by omega)
      rw [this, List.nil_append]
    · rw [ih (by omega) (fun r hr hne => h r (by omega) hne), h n (by omega) (fun e' => e e'.symm), List.append_nil]
/-- Both ways find the same hooks. -/
theorem rims_eq {l : List Int} (hp : Part l) {k : Int} (hk : 1 ≤ k) : rimsR l k = rimsP l k := by
  have key : ∀ i, i < l.length → (List.range (l.length - i)).flatMap (rimR l k i) = rimP l k i := by
    intro i hi
    unfold rimP
    by_cases hc : bead l i - k < 0 ∨ bead l i - k ∈ beadsL l
    · rw [if_pos hc, List.flatMap_eq_nil_iff]
      intro h hh
      have hh := List.mem_range.1 hh
      unfold rimR
      refine if_neg fun h2 => ?_
      obtain ⟨b1, b2, _⟩ := rim_bwd hp (by omega : i + h < l.length) h2.1 h2.2
      rcases hc with hc | hc
      · omega
      · exact b2 hc
    · rw [if_neg hc]
      have h0 : 0 ≤ bead l i - k := by
        apply Int.not_lt.1; intro h; exact hc (.inl h)
      have hn : bead l i - k ∉ beadsL l := fun h => hc (.inr h)
      obtain ⟨j1, j2, _, _⟩ := jmp_spec (t := bead l i - k) hi
      obtain ⟨f1, f2⟩ := rim_fwd hp hk hi h0 hn
      rw [flat_one (J := jmp l i (bead l i - k) - i) (by omega) (fun h hh hne => by
        unfold rimR
        refine if_neg fun h2 => hne ?_
        obtain ⟨_, _, b3⟩ := rim_bwd hp (by omega : i + h < l.length) h2.1 h2.2
        omega)]
      unfold rimR
      rw [show i + (jmp l i (bead l i - k) - i) = jmp l i (bead l i - k) from by omega, if_pos ⟨f1, f2⟩, trim_filter f1]
      rfl
  unfold rimsR rimsP
  have : ∀ m, m ≤ l.length → (List.range m).flatMap (fun i => (List.range (l.length - i)).flatMap (rimR l k i)) = (List.range m).flatMap (rimP l k) := by
    intro m
    induction m with
    | zero => intro _; rfl
    | succ m ih =>
      intro hm
      rw [List.range_succ, List.flatMap_append, List.flatMap_append, ih (by omega), List.flatMap_cons, List.flatMap_cons, key m (by omega)]
      rfl
  exact this _ (Nat.le_refl _)
end Go.Num
