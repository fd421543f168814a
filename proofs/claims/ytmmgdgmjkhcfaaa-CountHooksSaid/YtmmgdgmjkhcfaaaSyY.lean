/- Partitions: plain laws. -/
import Derived.Test.YtmmgdgmjkhcfaaaSyM
set_option linter.all false
namespace Go.Num
def bad (p : Option Int) (x : Int) : Option Int := if x < 1 then some 2 else if 20 < x then some 2 else match p with
  | some q => if q < x then some 9 else none
  | none => none
def chkGo : Option Int → List Int → Option Int
  | _, [] => none
  | p, x :: r => match bad p x with
    | some e => some e
    | none => chkGo (some x) r
/-- The error of a partition. -/
def chk (l : List Int) : Int := if 20 < l.length then 8 else match chkGo none l with
  | some e => e
  | none => if 20 < l.sum then 8 else 0
theorem bad_none {p : Option Int} {x : Int} (h : bad p x = none) : 1 ≤ x ∧ x ≤ 20 ∧ ∀ q, p = some q → x ≤ q := by
  unfold bad at h
  split at h
  · cases h
  · split at h
    · cases h
    · refine ⟨by omega, by omega, fun q hq => ?_⟩
      subst hq
      simp only at h
      split at h
      · cases h
      · omega
theorem chkGo_none : ∀ {l : List Int} {p : Option Int}, chkGo p l = none → ∀ x ∈ l, 1 ≤ x ∧ x ≤ 20 := by
  intro l
  induction l with
  | nil => intro p _ x hx; cases hx
  | cons y l ih =>
    intro p h x hx
    unfold chkGo at h
    split at h
    · cases h
    · rename_i hb
      rcases List.mem_cons.1 hx with rfl | hx
      · have := bad_none hb; exact ⟨this.1, this.2.1⟩
      · exact ih h x hx
/-- What stands before the place i. -/
def prv (l : List Int) : Nat → Option Int
  | 0 => none
  | j + 1 => some (l.getD j 0)
theorem chkGo_at {l : List Int} {i : Nat} (h : i < l.length) : chkGo (prv l i) (l.drop i) = match bad (prv l i) (l.getD i 0) with | some e => some e | none => chkGo (prv l (i + 1)) (l.drop (i + 1)) := by
  rw [drop_getD h, chkGo]; rfl
theorem chkGo_desc : ∀ {l : List Int} {p : Option Int}, chkGo p l = none → l.Pairwise (fun a b => b ≤ a) ∧ ∀ q, p = some q → ∀ x ∈ l, x ≤ q := by
  intro l
  induction l with
  | nil => intro p _; exact ⟨.nil, fun _ _ _ hx => by cases hx⟩
  | cons y l ih =>
    intro p h
    unfold chkGo at h
    split at h
    · cases h
    · rename_i hb
      obtain ⟨h1, h2⟩ := ih h
      have hy := bad_none hb
      refine ⟨.cons (fun x hx => h2 y rfl x hx) h1, fun q hq x hx => ?_⟩
      rcases List.mem_cons.1 hx with rfl | hx
      · exact hy.2.2 q hq
      · exact Int.le_trans (h2 y rfl x hx) (hy.2.2 q hq)
/-- A list that is a partition of at most 20. -/
structure Part (l : List Int) : Prop where
  len : l.length ≤ 20
  mem : ∀ x ∈ l, 1 ≤ x ∧ x ≤ 20
  desc : l.Pairwise (fun a b => b ≤ a)
  sum : l.sum ≤ 20
theorem chk_part {l : List Int} (h : chk l = 0) : Part l := by
  unfold chk at h
  split at h
  · cases h
  · split at h
    · rename_i e he
      subst h
      exfalso
      have : ∀ (l : List Int) (p : Option Int), chkGo p l ≠ some 0 := by
        intro l
        induction l with
        | nil => intro p h; cases h
        | cons x l ih =>
          intro p h
          unfold chkGo at h
          split at h
          · rename_i e hb
            injection h with h
            subst h
            unfold bad at hb
            split at hb
            · cases hb
            · split at hb
              · cases hb
              · split at hb
                · split at hb <;> cases hb
                · cases hb
          · exact ih _ h
      exact this l none he
    · rename_i hg
      split at h
      · cases h
      · exact ⟨by omega, chkGo_none hg, (chkGo_desc hg).1, by omega⟩
theorem sum_take_succ {l : List Int} {i : Nat} (h : i < l.length) : (l.take (i + 1)).sum = (l.take i).sum + l.getD i 0 := by
  have e : l.take (i + 1) = l.take i ++ [l.getD i 0] := by
    rw [List.take_succ, List.getD_eq_getElem?_getD]
    simp [List.getElem?_eq_getElem h]
  rw [e, List.sum_append]; simp
theorem sum_bd {l : List Int} {b : Int} (hb : 0 ≤ b) (h : ∀ x ∈ l, -b ≤ x ∧ x ≤ b) : -(b * l.length) ≤ l.sum ∧ l.sum ≤ b * l.length := by
  induction l with
  | nil => simp
  | cons x l ih =>
    have h1 := h x (List.mem_cons_self ..)
    have h2 := ih fun y hy => h y (List.mem_cons_of_mem _ hy)
    rw [List.sum_cons, List.length_cons, show ((l.length + 1 : Nat) : Int) = (l.length : Int) + 1 from rfl, Int.mul_add, Int.mul_one]
    omega
/-- How many elements at the beginning are greater than j. -/
def tw (l : List Int) (j : Int) : Nat := (l.takeWhile fun x => decide (j < x)).length
theorem tw_eq {l : List Int} {j : Int} {n : Nat} (h1 : n ≤ l.length) (h2 : ∀ i, i < n → j < l.getD i 0) (h3 : n = l.length ∨ ¬ j < l.getD n 0) : n = tw l j := by
  unfold tw
  induction l generalizing n with
  | nil => simpa using h1
  | cons x l ih =>
    cases n with
    | zero =>
      rcases h3 with h | h
      · simp at h
      · have : ¬ j < x := h
        simp [this]
    | succ n =>
      have hx : j < x := h2 0 (by omega)
      rw [List.takeWhile_cons_of_pos (by simpa using hx), List.length_cons]
      have := ih (n := n) (by simpa using h1) (fun i hi => h2 (i + 1) (by omega)) (by
        rcases h3 with h | h
        · exact .inl (by simpa using h)
        · exact .inr h)
      omega
theorem tw_le (l : List Int) (j : Int) : tw l j ≤ l.length := List.takeWhile_prefix _ |>.length_le
/-- How many elements are greater than j. -/
def gt (l : List Int) (j : Int) : Nat := l.countP fun x => decide (j < x)
theorem gt_take {l : List Int} {j : Int} {i : Nat} (h : i < l.length) : gt (l.take (i + 1)) j = gt (l.take i) j + if j < l.getD i 0 then 1 else 0 := by
  have e : l.take (i + 1) = l.take i ++ [l.getD i 0] := by
    rw [List.take_succ, List.getD_eq_getElem?_getD]
    simp [List.getElem?_eq_getElem h]
  unfold gt
  rw [e, List.countP_append, List.countP_cons, List.countP_nil]
  by_cases hj : j < l.getD i 0 <;> simp [hj]
theorem tw_gt {l : List Int} {j : Int} (h : l.Pairwise (fun a b => b ≤ a)) : tw l j = gt l j := by
  unfold tw gt
  induction l with
  | nil => rfl
  | cons x l ih =>
    cases h with
    | cons h1 h2 =>
      by_cases hx : j < x
      · rw [List.takeWhile_cons_of_pos (by simpa using hx), List.length_cons, ih h2, List.countP_cons_of_pos (by simpa using hx)]
      · rw [List.takeWhile_cons_of_neg (by simpa using hx), List.countP_cons_of_neg (by simpa using hx)]
        symm
        rw [List.length_nil, List.countP_eq_zero]
        intro y hy
        have := h1 y hy
        simp; omega
/-- The conjugate, as the program and as the reference make it. -/
def conjP (l : List Int) : List Int := (List.range (l.getD 0 0).toNat).map fun (j : Nat) => ((tw l (j : Int) : Nat) : Int)
def conjR (l : List Int) : List Int := (List.range (l.getD 0 0).toNat).map fun (j : Nat) => ((gt l (j : Int) : Nat) : Int)
theorem conj_eq {l : List Int} (h : l.Pairwise (fun a b => b ≤ a)) : conjP l = conjR l := by
  unfold conjP conjR
  congr 1
  funext j
  rw [tw_gt h]
end Go.Num
/- Factorials, centralizers. -/
namespace Go.Num
theorem nf_small {z : Int} (h0 : 0 < z) (h1 : z < 100000000) : nf z = [z] := by
  rw [nf_pos (by omega), digsN_pos (by omega), show z.toNat / 100000000 = 0 from by omega, digsN_zero, show z.toNat % 100000000 = z.toNat from by omega]
  congr 1
  omega
def fct : Nat → Int
  | 0 => 1
  | k + 1 => fct k * ((k + 1 : Nat) : Int)
theorem fct_bd : ∀ k : Fin 21, 1 ≤ fct k.1 ∧ fct k.1 < 10000000000000000000000 := by decide
theorem fct_le {k : Nat} (h : k ≤ 20) : 1 ≤ fct k ∧ fct k < 10000000000000000000000 := fct_bd ⟨k, by omega⟩
theorem fct_len {k : Nat} (h : k ≤ 20) : (nf (fct k)).length ≤ 3 := by
  have := fct_le h
  exact nf_len (by rw [show B ^ 3 = 1000000000000000000000000 from rfl]; omega) (by rw [show B ^ 3 = 1000000000000000000000000 from rfl]; omega)
/-- How often the last of the first i elements stands there in a row. -/
def smz (l : List Int) : Nat → Int
  | 0 => 0
  | i + 1 => if 0 < i ∧ l.getD i 0 = l.getD (i - 1) 0 then smz l i + 1 else 1
def cz (l : List Int) : Nat → Int
  | 0 => 1
  | i + 1 => cz l i * (l.getD i 0 * smz l (i + 1))
theorem smz_bd (l : List Int) : ∀ i, 0 ≤ smz l i ∧ smz l i ≤ i := by
  intro i
  induction i with
  | zero => simp [smz]
  | succ i ih => simp only [smz]; split <;> omega
theorem smz_pos (l : List Int) (i : Nat) : 1 ≤ smz l (i + 1) := by
  have := smz_bd l i
  simp only [smz]; split <;> omega
theorem Part.getD {l : List Int} (h : Part l) {i : Nat} (hi : i < l.length) : 1 ≤ l.getD i 0 ∧ l.getD i 0 ≤ 20 := by
  have : l.getD i 0 = l[i] := by simp [List.getD_eq_getElem?_getD, List.getElem?_eq_getElem hi]
  rw [this]
  exact h.mem _ (List.getElem_mem hi)
theorem cz_bd {l : List Int} (h : Part l) : ∀ i, i ≤ l.length → 1 ≤ cz l i ∧ cz l i ≤ 400 ^ i := by
  intro i
  induction i with
  | zero => intro _; simp [cz]
  | succ i ih =>
    intro hi
    obtain ⟨h1, h2⟩ := ih (by omega)
    have hg := h.getD (i := i) (by omega)
    have hs := smz_bd l (i + 1)
    have hp := smz_pos l i
    have hl := h.len
    have a1 : 1 * 1 ≤ l.getD i 0 * smz l (i + 1) := Int.mul_le_mul hg.1 hp (by omega) (by omega)
    have a2 : l.getD i 0 * smz l (i + 1) ≤ 20 * 20 := Int.mul_le_mul hg.2 (by omega) (by omega) (by omega)
    simp only [cz]
    constructor
    · have := Int.mul_le_mul h1 (by omega : (1 : Int) ≤ l.getD i 0 * smz l (i + 1)) (by omega) (by omega)
      omega
    · rw [Int.pow_succ]
      exact Int.mul_le_mul h2 (by omega) (by omega) (Int.le_of_lt (Int.pow_pos (by omega)))
theorem cz_len {l : List Int} (h : Part l) {i : Nat} (hi : i ≤ l.length) : (nf (cz l i)).length ≤ 7 := by
  have := cz_bd h i hi
  have h2 : (400 : Int) ^ i ≤ 400 ^ 20 := by
    have h3 : (400 : Nat) ^ i ≤ 400 ^ 20 := Nat.pow_le_pow_right (by omega) (by have := h.len; omega)
    have := Int.ofNat_le.2 h3
    rwa [Int.natCast_pow, Int.natCast_pow] at this
  have h4 : (400 : Int) ^ 20 < B ^ 7 := by decide
  exact nf_len (by have := pow_pos 7; omega) (by omega)
end Go.Num
/- Hooks. -/
namespace Go.Num
def hkV (l : List Int) (i j : Nat) : Int := l.getD i 0 - j + (conjP l).getD j 0 - i - 1
def hookRow (l : List Int) (i : Nat) : List Int := (List.range (l.getD i 0).toNat).map (hkV l i)
def hooksL (l : List Int) : List (List Int) := (List.range l.length).map (hookRow l)
theorem desc_le {l : List Int} (h : l.Pairwise (fun a b => b ≤ a)) {i j : Nat} (hij : i ≤ j) (hj : j < l.length) : l.getD j 0 ≤ l.getD i 0 := by
  by_cases e : i = j
  · subst e; omega
  · have := List.pairwise_iff_getElem.1 h i j (by omega) hj (by omega)
    simpa [List.getD_eq_getElem?_getD, List.getElem?_eq_getElem hj, List.getElem?_eq_getElem (show i < l.length by omega)] using this
theorem conj_len (l : List Int) : (conjP l).length = (l.getD 0 0).toNat := by unfold conjP; simp
theorem conj_getD {l : List Int} {j : Nat} (h : j < (l.getD 0 0).toNat) : (conjP l).getD j 0 = ((tw l (j : Int) : Nat) : Int) := by
  unfold conjP
  rw [List.getD_eq_getElem?_getD, List.getElem?_map, List.getElem?_range h]; rfl
/-- A cell's hook. -/
theorem hk_bd {l : List Int} (hp : Part l) {i j : Nat} (hi : i < l.length) (hj : j < (l.getD i 0).toNat) : j < (conjP l).length ∧ 0 ≤ (conjP l).getD j 0 ∧ (conjP l).getD j 0 ≤ 20 ∧ 1 ≤ hkV l i j ∧ hkV l i j ≤ 40 := by
  have hle := desc_le hp.desc (Nat.zero_le i) hi
  have hg := hp.getD hi
  have hjl : j < (l.getD 0 0).toNat := by omega
  have hc := conj_getD hjl
  have h1 := tw_le l (j : Int)
  have hl := hp.len
  have h2 : i + 1 ≤ tw l (j : Int) := by
    rw [tw_gt hp.desc]
    -- the first i + 1 rows are longer than j
    have key : ∀ k, k ≤ i + 1 → gt (l.take k) (j : Int) = k := by
      intro k
      induction k with
      | zero => intro _; rfl
      | succ k ih =>
        intro hk
        have hd := desc_le hp.desc (show k ≤ i by omega) hi
        rw [gt_take (by omega), ih (by omega), if_pos (by omega)]
    have h3 : gt (l.take (i + 1)) (j : Int) ≤ gt l (j : Int) := by
      unfold gt
      exact List.Sublist.countP_le (List.take_sublist (i + 1) l)
    rw [key (i + 1) (Nat.le_refl _)] at h3
    exact h3
  refine ⟨by rw [conj_len]; exact hjl, by rw [hc]; omega, by rw [hc]; omega, ?_, ?_⟩
  · unfold hkV; rw [hc]; omega
  · unfold hkV; rw [hc]; omega
end Go.Num
