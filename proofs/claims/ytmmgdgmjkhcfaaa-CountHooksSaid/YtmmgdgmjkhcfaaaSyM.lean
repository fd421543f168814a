/- Integers as lists of digits: plain laws. -/
set_option linter.all false
namespace Go.Num
def B : Int := 100000000
theorem B_eq : B = 100000000 := rfl
def val : List Int → Int
  | [] => 0
  | x :: l => x + B * val l
theorem val_app (l m : List Int) : val (l ++ m) = val l + B ^ l.length * val m := by
  induction l with
  | nil => simp [val]
  | cons x l ih => simp only [List.cons_append, val, ih, List.length_cons, Int.pow_succ, Int.mul_add]; rw [Int.mul_comm (B ^ l.length) B, Int.mul_assoc]; omega
theorem val_snoc (l : List Int) (x : Int) : val (l ++ [x]) = val l + B ^ l.length * x := by rw [val_app]; simp [val]
theorem val_neg (l : List Int) : val (l.map (- ·)) = - val l := by
  induction l with
  | nil => rfl
  | cons x l ih => simp only [List.map_cons, val, ih]; rw [Int.mul_neg]; omega
def Dg (l : List Int) : Prop := ∀ x ∈ l, 0 ≤ x ∧ x < B
theorem Dg.tail {x : Int} {l : List Int} (h : Dg (x :: l)) : Dg l := fun y hy => h y (List.mem_cons_of_mem _ hy)
theorem Dg.head {x : Int} {l : List Int} (h : Dg (x :: l)) : 0 ≤ x ∧ x < B := h x (List.mem_cons_self ..)
theorem Dg.app {l m : List Int} (h : Dg l) (h' : Dg m) : Dg (l ++ m) := fun y hy => (List.mem_append.1 hy).elim (h y) (h' y)
theorem Dg.one {x : Int} (h : 0 ≤ x) (h' : x < B) : Dg [x] := fun y hy => by simp at hy; subst hy; exact ⟨h, h'⟩
theorem Dg.nil : Dg [] := fun y hy => by cases hy
theorem pow_pos (n : Nat) : 0 < B ^ n := Int.pow_pos (by decide)
theorem Dg.val {l : List Int} (h : Dg l) : 0 ≤ val l ∧ val l < B ^ l.length := by
  induction l with
  | nil => simp [Num.val]
  | cons x l ih =>
    have h1 := h.head
    have h2 := ih h.tail
    simp only [Num.val, List.length_cons, Int.pow_succ]
    unfold B at *
    omega
/-- Without the zeros at the end. -/
def trimL (l : List Int) : List Int := (l.reverse.dropWhile (· == 0)).reverse
theorem trimL_snoc (l : List Int) (x : Int) : trimL (l ++ [x]) = if x = 0 then trimL l else l ++ [x] := by
  unfold trimL
  rw [List.reverse_append, List.reverse_singleton, List.singleton_append, List.dropWhile_cons]
  by_cases h : x = 0 <;> simp [h]
theorem trimL_len (l : List Int) : (trimL l).length ≤ l.length := by
  unfold trimL
  rw [List.length_reverse]
  have := (List.dropWhile_sublist (fun x : Int => x == 0) (l := l.reverse)).length_le
  simpa using this
theorem trimL_mem {l : List Int} {x : Int} (h : x ∈ trimL l) : x ∈ l := by
  unfold trimL at h
  rw [List.mem_reverse] at h
  have := (List.dropWhile_sublist (fun x : Int => x == 0) (l := l.reverse)).subset h
  simpa using this
theorem trimL_nil : trimL [] = [] := rfl
theorem trimL_cons (x : Int) (l : List Int) : trimL (x :: l) = if trimL l = [] then (if x = 0 then [] else [x]) else x :: trimL l := by
  have key : ∀ (m : List Int), ∀ l : List Int, l = m.reverse → trimL (x :: l) = if trimL l = [] then (if x = 0 then [] else [x]) else x :: trimL l := by
    intro m
    induction m with
    | nil =>
      intro l hl
      subst hl
      show trimL ([] ++ [x]) = _
      rw [trimL_snoc]; rfl
    | cons y m ih =>
      intro l hl
      rw [List.reverse_cons] at hl
      subst hl
      rw [← List.cons_append, trimL_snoc, trimL_snoc]
      by_cases h : y = 0
      · simp only [h, if_true]; exact ih _ rfl
      · simp [h]
  exact key l.reverse l (by simp)
/-- The digits of a number. -/
def digsN (n : Nat) : List Int := if h : n = 0 then [] else ((n % 100000000 : Nat) : Int) :: digsN (n / 100000000)
termination_by n
decreasing_by omega
theorem digsN_zero : digsN 0 = [] := by unfold digsN; simp
theorem digsN_pos {n : Nat} (h : n ≠ 0) : digsN n = ((n % 100000000 : Nat) : Int) :: digsN (n / 100000000) := by rw [digsN]; simp [h]
theorem digsN_val : ∀ (f n : Nat), n < f → val (digsN n) = n ∧ Dg (digsN n) := by
  intro f
  induction f with
  | zero => intro n h; omega
  | succ f ih =>
    intro n hn
    by_cases h : n = 0
    · subst h; rw [digsN_zero]; exact ⟨rfl, Dg.nil⟩
    · rw [digsN_pos h]
      obtain ⟨h1, h2⟩ := ih (n / 100000000) (by omega)
      refine ⟨?_, ?_⟩
      · simp only [val, h1, B]; omega
      · intro y hy
        rcases List.mem_cons.1 hy with rfl | hy
        · unfold B; omega
        · exact h2 y hy
theorem digsN_dg (n : Nat) : Dg (digsN n) := (digsN_val (n + 1) n (by omega)).2
theorem trim_digs : ∀ {l : List Int}, Dg l → trimL l = digsN (val l).toNat := by
  intro l
  induction l with
  | nil => intro _; rw [trimL_nil]; simp [val, digsN_zero]
  | cons x l ih =>
    intro h
    have h1 := h.head
    have h2 := h.tail.val
    have ih := ih h.tail
    rw [trimL_cons, ih]
    simp only [val]
    unfold B at h1 ⊢
    by_cases hz : (val l).toNat = 0
    · rw [hz, digsN_zero, if_pos rfl]
      by_cases hx : x = 0
      · rw [if_pos hx]
        rw [show (x + 100000000 * val l).toNat = 0 from by omega, digsN_zero]
      · rw [if_neg hx, digsN_pos (by omega)]
        rw [show (x + 100000000 * val l).toNat / 100000000 = 0 from by omega, digsN_zero]
        congr 1; omega
    · have hne : digsN (val l).toNat ≠ [] := by rw [digsN_pos hz]; simp
      rw [if_neg hne, digsN_pos (n := (x + 100000000 * val l).toNat) (by omega)]
      rw [show (x + 100000000 * val l).toNat / 100000000 = (val l).toNat from by omega]
      congr 1; omega
/-- The normal form. -/
def nf (z : Int) : List Int := if 0 ≤ z then digsN z.toNat else (digsN (-z).toNat).map (- ·)
theorem nf_val (z : Int) : val (nf z) = z := by
  unfold nf
  split
  · rw [(digsN_val (z.toNat + 1) _ (by omega)).1]; omega
  · rw [val_neg, (digsN_val ((-z).toNat + 1) _ (by omega)).1]; omega
theorem nf_pos {z : Int} (h : 0 ≤ z) : nf z = digsN z.toNat := if_pos h
theorem nf_neg {z : Int} (h : z < 0) : nf z = (digsN (-z).toNat).map (- ·) := if_neg (by omega)
theorem nf_zero : nf 0 = [] := by rw [nf_pos (by omega)]; exact digsN_zero
theorem nf_bound (z : Int) : ∀ x ∈ nf z, -B < x ∧ x < B := by
  unfold nf
  split
  · intro x hx
    have := (digsN_val (z.toNat + 1) _ (by omega)).2 x hx
    unfold B at *; omega
  · intro x hx
    obtain ⟨y, hy, rfl⟩ := List.mem_map.1 hx
    have := digsN_dg (-z).toNat y hy
    unfold B at *; omega
theorem digsN_len : ∀ (k n : Nat), n < 100000000 ^ k → (digsN n).length ≤ k := by
  intro k
  induction k with
  | zero => intro n h; simp at h; subst h; rw [digsN_zero]; simp
  | succ k ih =>
    intro n h
    by_cases hz : n = 0
    · subst hz; rw [digsN_zero]; simp
    · rw [digsN_pos hz, List.length_cons]
      have := ih (n / 100000000) (by rw [Nat.div_lt_iff_lt_mul (by omega)]; rw [Nat.pow_succ] at h; exact h)
      omega
theorem nf_nil {z : Int} : nf z = [] ↔ z = 0 := by
  constructor
  · intro h
    have := nf_val z
    rw [h] at this
    simp [val] at this
    omega
  · rintro rfl; exact nf_zero
/- Steps of the normal form. -/
theorem pow_succ' (n : Nat) : B ^ (n + 1) = 100000000 * B ^ n := by rw [Int.pow_succ, Int.mul_comm]; rfl
theorem lin_mul (p a b : Int) : p * a + 100000000 * p * b = p * (a + 100000000 * b) := by rw [Int.mul_add, ← Int.mul_assoc p 100000000 b, Int.mul_comm p 100000000]
theorem norm_step {out t : List Int} {x c : Int} {i : Nat} (hi : out.length = i) (h : val out + B ^ i * c = val t) (ht : t.length = i) : val (out ++ [(x % 100000000 + c) % 100000000]) + B ^ (i + 1) * (x / 100000000 + (x % 100000000 + c) / 100000000) = val (t ++ [x]) := by
  rw [val_snoc, val_snoc, hi, ht, pow_succ', ← h]
  have e : (x % 100000000 + c) % 100000000 + 100000000 * (x / 100000000 + (x % 100000000 + c) / 100000000) = x + c := by omega
  have e2 : B ^ i * ((x % 100000000 + c) % 100000000) + 100000000 * B ^ i * (x / 100000000 + (x % 100000000 + c) / 100000000) = B ^ i * x + B ^ i * c := by
    rw [lin_mul, e, Int.mul_add]
  omega
theorem carry_step {out : List Int} {c : Int} (v : Int) (h : val out + B ^ out.length * c = v) : val (out ++ [c % 100000000]) + B ^ (out ++ [c % 100000000]).length * (c / 100000000) = v := by
  rw [val_snoc, List.length_append, List.length_singleton, pow_succ', ← h]
  have e2 : B ^ out.length * (c % 100000000) + 100000000 * B ^ out.length * (c / 100000000) = B ^ out.length * c := by
    rw [lin_mul]; congr 1; omega
  omega
theorem compl_step {sz t : List Int} {b o b2 : Int} {i : Nat} (hs : sz.length = i) (ht : t.length = i) (h : val sz = b * B ^ i - val t) : val (sz ++ [-o - b + 100000000 * b2]) = b2 * B ^ (i + 1) - val (t ++ [o]) := by
  rw [val_snoc, val_snoc, hs, ht, h, pow_succ', Int.mul_add, Int.mul_sub, Int.mul_neg]
  have e1 : B ^ i * (100000000 * b2) = b2 * (100000000 * B ^ i) := by rw [Int.mul_left_comm, Int.mul_comm b2, Int.mul_assoc]
  have e2 : b * B ^ i = B ^ i * b := Int.mul_comm _ _
  omega
theorem nf_of_digs {l : List Int} (h : Dg l) {z : Int} (hz : val l = z) : trimL l = nf z := by
  have h0 := h.val
  rw [trim_digs h, hz, nf_pos (by omega)]
theorem nf_of_neg {l : List Int} (h : Dg l) {z : Int} (hz : val l = -z) : (trimL l).map (- ·) = nf z := by
  have h0 := h.val
  by_cases e : z = 0
  · subst e
    rw [trim_digs h, hz, nf_zero]; simp [digsN_zero]
  · rw [trim_digs h, hz, nf_neg (by omega)]
theorem val_take_succ (l : List Int) (i : Nat) : val (l.take (i + 1)) = val (l.take i) + B ^ i * l.getD i 0 := by
  by_cases h : i < l.length
  · rw [List.take_succ_eq_append_getElem h, val_snoc, List.length_take, Nat.min_eq_left (by omega)]
    simp [List.getD_eq_getElem?_getD, List.getElem?_eq_getElem h]
  · rw [List.take_of_length_le (by omega), List.take_of_length_le (by omega)]
    simp [List.getD_eq_getElem?_getD, List.getElem?_eq_none (by omega : l.length ≤ i)]
theorem nf_getD (z : Int) (i : Nat) : -100000000 < (nf z).getD i 0 ∧ (nf z).getD i 0 < 100000000 := by
  by_cases h : i < (nf z).length
  · have := nf_bound z ((nf z)[i]) (List.getElem_mem h)
    rw [List.getD_eq_getElem?_getD, List.getElem?_eq_getElem h]
    unfold B at this; exact this
  · rw [List.getD_eq_getElem?_getD, List.getElem?_eq_none (by omega)]; simp
theorem nf_neg' (z : Int) : (nf z).map (- ·) = nf (-z) := by
  by_cases h : 0 ≤ z
  · by_cases h0 : z = 0
    · subst h0; rw [show (-0 : Int) = 0 from rfl, nf_zero]; rfl
    · rw [nf_pos h, nf_neg (by omega)]; rw [Int.neg_neg]
  · rw [nf_neg (by omega), nf_pos (by omega)]
    rw [List.map_map]
    have : ((fun x : Int => -x) ∘ fun x => -x) = id := by funext x; simp
    rw [this, List.map_id]
theorem trim_nf (z : Int) : trimL (nf z) = nf z := by
  by_cases h : 0 ≤ z
  · have hd := digsN_dg z.toNat
    have hv := nf_val z
    rw [nf_pos h] at *
    rw [trim_digs hd, hv]
  · have hd := digsN_dg (-z).toNat
    have e : nf z = (nf (-z)).map (- ·) := by rw [nf_neg', Int.neg_neg]
    have key : ∀ l : List Int, trimL (l.map (- ·)) = (trimL l).map (- ·) := by
      intro l
      induction l with
      | nil => rfl
      | cons x l ih =>
        rw [List.map_cons, trimL_cons, trimL_cons, ih]
        by_cases h1 : trimL l = []
        · rw [h1]
          by_cases h2 : x = 0
          · subst h2; simp
          · simp [h2]
        · rw [if_neg (by simpa using h1), if_neg h1]; rfl
    rw [e, key]
    congr 1
    have hv := nf_val (-z)
    rw [nf_pos (by omega)] at hv ⊢
    rw [trim_digs hd, hv]
theorem digsN_mono_len : ∀ (f a : Nat) (k : Nat), a < f → (digsN a).length = k + 1 → 100000000 ^ k ≤ a := by
  intro f
  induction f with
  | zero => intro a k h; omega
  | succ f ih =>
    intro a k h hl
    by_cases hz : a = 0
    · subst hz; rw [digsN_zero] at hl; simp at hl
    · rw [digsN_pos hz, List.length_cons] at hl
      cases k with
      | zero => simp; omega
      | succ k =>
        have := ih (a / 100000000) k (by omega) (by omega)
        rw [Nat.pow_succ]
        calc 100000000 ^ k * 100000000 ≤ a / 100000000 * 100000000 := Nat.mul_le_mul_right _ this
          _ ≤ a := Nat.div_mul_le_self ..
theorem nf_len {z : Int} {k : Nat} (h1 : -(B ^ k) < z) (h2 : z < B ^ k) : (nf z).length ≤ k := by
  have e : ((100000000 ^ k : Nat) : Int) = B ^ k := by rw [Int.natCast_pow]; rfl
  unfold nf
  split
  · exact digsN_len k _ (by rw [← e] at h2; omega)
  · rw [List.length_map]; exact digsN_len k _ (by rw [← e] at h1; omega)
theorem nf_size (z : Int) : -(B ^ (nf z).length) < z ∧ z < B ^ (nf z).length := by
  by_cases h : 0 ≤ z
  · have hd := digsN_dg z.toNat
    have hv := nf_val z
    rw [nf_pos h] at *
    have := hd.val
    rw [hv] at this; omega
  · have hd := digsN_dg (-z).toNat
    have e : nf z = (nf (-z)).map (- ·) := by rw [nf_neg', Int.neg_neg]
    have hv := nf_val (-z)
    rw [e, List.length_map]
    rw [nf_pos (by omega)] at hv ⊢
    have := hd.val
    rw [hv] at this; omega
theorem pow_le {i j : Nat} (h : i ≤ j) : B ^ i ≤ B ^ j := by
  obtain ⟨d, rfl⟩ : ∃ d, j = i + d := ⟨j - i, by omega⟩
  rw [Int.pow_add]
  have h1 := pow_pos i
  have h2 := pow_pos d
  have : B ^ i * 1 ≤ B ^ i * B ^ d := Int.mul_le_mul_of_nonneg_left (by omega) (by omega)
  omega
theorem nf_len_mul (x y : Int) : (nf (x * y)).length ≤ (nf x).length + (nf y).length := by
  have h1 := nf_size x
  have h2 := nf_size y
  refine nf_len ?_ ?_ <;> rw [Int.pow_add]
  all_goals
    generalize B ^ (nf x).length = p at *
    generalize B ^ (nf y).length = q at *
    have hx : x.natAbs < p.natAbs := by omega
    have hy : y.natAbs < q.natAbs := by omega
    have hm : x.natAbs * y.natAbs < p.natAbs * q.natAbs := Nat.mul_lt_mul_of_lt_of_lt hx hy
    have e1 : (x * y).natAbs = x.natAbs * y.natAbs := Int.natAbs_mul x y
    have e2 : (p * q).natAbs = p.natAbs * q.natAbs := Int.natAbs_mul p q
    have hp : 0 ≤ p * q := Int.mul_nonneg (by omega) (by omega)
    omega
theorem digsN_last : ∀ (f n : Nat), n < f → n ≠ 0 → (digsN n).length ≠ 0 ∧ 0 < (digsN n).getD ((digsN n).length - 1) 0 := by
  intro f
  induction f with
  | zero => intro n h; omega
  | succ f ih =>
    intro n hn h
    rw [digsN_pos h]
    by_cases hq : n / 100000000 = 0
    · rw [hq, digsN_zero]
      simp
      omega
    · obtain ⟨h1, h2⟩ := ih (n / 100000000) (by omega) hq
      refine ⟨by simp, ?_⟩
      rw [List.length_cons, Nat.add_sub_cancel]
      obtain ⟨k, hk⟩ : ∃ k, (digsN (n / 100000000)).length = k + 1 := ⟨(digsN (n / 100000000)).length - 1, by omega⟩
      rw [hk] at h2 ⊢
      simpa using h2
theorem nf_last {z : Int} (h : z ≠ 0) : (nf z).length ≠ 0 ∧ ((nf z).getD ((nf z).length - 1) 0 < 0 ↔ z < 0) := by
  by_cases hz : 0 ≤ z
  · rw [nf_pos hz]
    obtain ⟨h1, h2⟩ := digsN_last (z.toNat + 1) z.toNat (by omega) (by omega)
    exact ⟨h1, by omega⟩
  · rw [nf_neg (by omega)]
    obtain ⟨h1, h2⟩ := digsN_last ((-z).toNat + 1) (-z).toNat (by omega) (by omega)
    rw [List.length_map]
    refine ⟨h1, ?_⟩
    rw [List.getD_eq_getElem?_getD, List.getElem?_map]
    rw [List.getD_eq_getElem?_getD] at h2
    have hl : (digsN (-z).toNat).length - 1 < (digsN (-z).toNat).length := by omega
    rw [List.getElem?_eq_getElem hl] at h2 ⊢
    simp at h2 ⊢
    omega
theorem nf_abs (z : Int) : (if z < 0 then (nf z).map (- ·) else nf z) = nf (z.natAbs : Int) := by
  split
  · rw [nf_neg']; congr 1; omega
  · congr 1; omega
theorem val_split (l : List Int) (i : Nat) (h : i ≤ l.length) : val l = val (l.take i) + B ^ i * val (l.drop i) := by
  have := val_app (l.take i) (l.drop i)
  rw [List.take_append_drop, List.length_take, Nat.min_eq_left h] at this
  exact this
theorem drop_getD {l : List Int} {i : Nat} (h : i < l.length) : l.drop i = l.getD i 0 :: l.drop (i + 1) := by
  rw [List.drop_eq_getElem_cons h]
  simp [List.getD_eq_getElem?_getD, List.getElem?_eq_getElem h]
theorem Dg.take {l : List Int} (h : Dg l) (i : Nat) : Dg (l.take i) := fun x hx => h x (List.mem_of_mem_take hx)
theorem Dg.drop {l : List Int} (h : Dg l) (i : Nat) : Dg (l.drop i) := fun x hx => h x (List.mem_of_mem_drop hx)
theorem Dg.getD {l : List Int} (h : Dg l) (i : Nat) : 0 ≤ l.getD i 0 ∧ l.getD i 0 < 100000000 := by
  by_cases hi : i < l.length
  · have := h _ (List.getElem_mem hi)
    rw [List.getD_eq_getElem?_getD, List.getElem?_eq_getElem hi]
    exact this
  · rw [List.getD_eq_getElem?_getD, List.getElem?_eq_none (by omega)]; simp
theorem Dg.set {l : List Int} (h : Dg l) (i : Nat) {z : Int} (h0 : 0 ≤ z) (h1 : z < 100000000) : Dg (l.set i z) := fun x hx => by
  rcases List.mem_or_eq_of_mem_set hx with hx | rfl
  · exact h x hx
  · exact ⟨h0, h1⟩
theorem nf_dg {z : Int} (h : 0 ≤ z) : Dg (nf z) := by rw [nf_pos h]; exact digsN_dg _
theorem nf_len_lt {x y : Int} (hx : 0 ≤ x) (hy : 0 ≤ y) (h : (nf x).length < (nf y).length) : x < y := by
  obtain ⟨k, hk⟩ : ∃ k, (nf y).length = k + 1 := ⟨(nf y).length - 1, by omega⟩
  have h1 : B ^ k ≤ y := by
    rw [nf_pos hy] at hk
    have := digsN_mono_len (y.toNat + 1) y.toNat k (by omega) hk
    have e : ((100000000 ^ k : Nat) : Int) = B ^ k := by rw [Int.natCast_pow]; rfl
    omega
  have h2 := (nf_size x).2
  have h3 := pow_le (i := (nf x).length) (j := k) (by omega)
  omega
theorem cmp_at {l m : List Int} (hl : Dg l) (hm : Dg m) {i : Nat} (h1 : i < l.length) (h2 : i < m.length) (hd : l.drop (i + 1) = m.drop (i + 1)) : (l.getD i 0 < m.getD i 0 → val l < val m) ∧ (m.getD i 0 < l.getD i 0 → val m < val l) := by
  rw [val_split l i (by omega), val_split m i (by omega), drop_getD h1, drop_getD h2, hd]
  simp only [val]
  have b1 := (hl.take i).val
  have b2 := (hm.take i).val
  rw [List.length_take, Nat.min_eq_left (by omega)] at b1 b2
  have hp := pow_pos i
  generalize B ^ i = p at *
  generalize B * val (List.drop (i + 1) m) = q at *
  have step : ∀ u v : Int, u < v → p * u + p ≤ p * v := fun u v h => by
    have : p * (u + 1) ≤ p * v := Int.mul_le_mul_of_nonneg_left (by omega) (by omega)
    rw [Int.mul_add, Int.mul_one] at this; exact this
  refine ⟨fun h => ?_, fun h => ?_⟩
  · have := step (l.getD i 0 + q) (m.getD i 0 + q) (by omega); omega
  · have := step (m.getD i 0 + q) (l.getD i 0 + q) (by omega); omega
/-- A step of the division. -/
theorem div_step {A ql : List Int} {i : Nat} {y R : Int} (hA : i < A.length) (hq : i < ql.length) (hy : 0 < y) (h : val (A.drop (i + 1)) = y * val (ql.drop (i + 1)) + R) :
    val (A.drop i) = y * val ((ql.set i ((A.getD i 0 + B * R) / y)).drop i) + (A.getD i 0 + B * R) % y := by
  rw [drop_getD hA]
  have e : (ql.set i ((A.getD i 0 + B * R) / y)).drop i = (A.getD i 0 + B * R) / y :: ql.drop (i + 1) := by
    rw [drop_getD (by rw [List.length_set]; exact hq)]
    congr 1
    · rw [List.getD_eq_getElem?_getD, List.getElem?_set]; simp [hq]
    · rw [List.drop_set_of_lt (by omega)]
  rw [e]
  simp only [val]
  rw [h, Int.mul_add, Int.mul_add]
  have := Int.mul_ediv_add_emod (A.getD i 0 + B * R) y
  have e2 : B * (y * val (ql.drop (i + 1))) = y * (B * val (ql.drop (i + 1))) := Int.mul_left_comm ..
  omega
theorem val_bd {l : List Int} (h : ∀ x ∈ l, -B < x ∧ x < B) : -(B ^ l.length) < val l ∧ val l < B ^ l.length := by
  induction l with
  | nil => simp [val]
  | cons x l ih =>
    have h1 := h x (List.mem_cons_self ..)
    have h2 := ih fun y hy => h y (List.mem_cons_of_mem _ hy)
    simp only [val, List.length_cons, pow_succ']
    unfold B at *
    omega
theorem take_len (z : Int) (i : Nat) : (nf (val ((nf z).take i))).length ≤ i := by
  have h := val_bd (l := (nf z).take i) fun x hx => nf_bound z x (List.mem_of_mem_take hx)
  have hl : ((nf z).take i).length ≤ i := List.length_take_le ..
  have hp := pow_le hl
  exact nf_len (by omega) (by omega)
def cmpZ (x y : Int) : Int := if x < y then -1 else if y < x then 1 else 0
/-- Digits whose last one counts. -/
theorem nf_of_big {l : List Int} (h : Dg l) (hb : l = [] ∨ B ^ (l.length - 1) ≤ val l) : l = nf (val l) := by
  have e := trim_digs h
  rw [nf_pos h.val.1, ← e]
  have hlen : l.length ≤ (trimL l).length := by
    rcases hb with rfl | hb
    · simp
    · apply Nat.le_of_not_lt
      intro hlt
      have h1 := (nf_size (val l)).2
      have h2 : (nf (val l)).length = (trimL l).length := by rw [nf_pos h.val.1, ← e]
      rw [h2] at h1
      have h3 := pow_le (i := (trimL l).length) (j := l.length - 1) (by omega)
      omega
  have hsub : (trimL l).reverse <:+ l.reverse := by
    unfold trimL
    rw [List.reverse_reverse]
    exact List.dropWhile_suffix _
  have := hsub.eq_of_length_le (by simpa using hlen)
  exact (List.reverse_inj.1 this).symm
theorem less_step {sz t u : List Int} {x y b b2 : Int} {i : Nat} (hs : sz.length = i) (h : val sz = val t - val u + b * B ^ i) : val (sz ++ [x - b - y + 100000000 * b2]) = (val t + B ^ i * x) - (val u + B ^ i * y) + b2 * B ^ (i + 1) := by
  rw [val_snoc, hs, h, pow_succ', Int.mul_add, Int.mul_sub, Int.mul_sub]
  have e1 : B ^ i * (100000000 * b2) = b2 * (100000000 * B ^ i) := by rw [Int.mul_left_comm, Int.mul_comm b2, Int.mul_assoc]
  have e2 : b * B ^ i = B ^ i * b := Int.mul_comm _ _
  omega
theorem plus_step {out t u : List Int} {x y c : Int} {i : Nat} (hs : out.length = i) (h : val out + B ^ i * c = val t + val u) : val (out ++ [(x + c + y) % 100000000]) + B ^ (i + 1) * ((x + c + y) / 100000000) = (val t + B ^ i * x) + (val u + B ^ i * y) := by
  rw [val_snoc, hs, pow_succ']
  have e2 : B ^ i * ((x + c + y) % 100000000) + 100000000 * B ^ i * ((x + c + y) / 100000000) = B ^ i * x + B ^ i * c + B ^ i * y := by
    rw [lin_mul, show (x + c + y) % 100000000 + 100000000 * ((x + c + y) / 100000000) = x + c + y from by omega, Int.mul_add, Int.mul_add]
  omega
theorem nf_ge {x : Int} (h : 0 < x) : B ^ ((nf x).length - 1) ≤ x := by
  obtain ⟨h1, _⟩ := nf_last (z := x) (by omega)
  obtain ⟨k, hk⟩ : ∃ k, (nf x).length = k + 1 := ⟨(nf x).length - 1, by omega⟩
  rw [hk, Nat.add_sub_cancel]
  rw [nf_pos (by omega)] at hk
  have := digsN_mono_len (x.toNat + 1) x.toNat k (by omega) hk
  have e : ((100000000 ^ k : Nat) : Int) = B ^ k := by rw [Int.natCast_pow]; rfl
  omega
theorem nf_len_mono {x y : Int} (hx : 0 ≤ x) (h : x ≤ y) : (nf x).length ≤ (nf y).length := by
  apply Nat.le_of_not_lt
  intro hlt
  have := nf_len_lt (x := y) (y := x) (by omega) hx hlt
  omega
theorem val_set {l : List Int} {j : Nat} (h : j < l.length) (x : Int) : val (l.set j x) = val l + B ^ j * (x - l.getD j 0) := by
  rw [val_split (l.set j x) j (by rw [List.length_set]; omega), val_split l j (by omega)]
  rw [drop_getD (l := l.set j x) (by rw [List.length_set]; exact h), drop_getD h]
  have e1 : (l.set j x).take j = l.take j := by rw [List.take_set_of_le (by omega)]
  have e2 : (l.set j x).getD j 0 = x := by rw [List.getD_eq_getElem?_getD, List.getElem?_set]; simp [h]
  have e3 : (l.set j x).drop (j + 1) = l.drop (j + 1) := by rw [List.drop_set_of_lt (by omega)]
  rw [e1, e2, e3]
  simp only [val]
  rw [Int.mul_add, Int.mul_add, Int.mul_sub]
  omega
theorem times_step {lo : List Int} {j : Nat} {c n m : Int} (h : j < lo.length) : val (lo.set j ((lo.getD j 0 + n * m + c) % 100000000)) + B ^ (j + 1) * ((lo.getD j 0 + n * m + c) / 100000000) = (val lo + B ^ j * c) + B ^ j * (n * m) := by
  rw [val_set h, pow_succ', Int.mul_sub]
  have e := lin_mul (B ^ j) ((lo.getD j 0 + n * m + c) % 100000000) ((lo.getD j 0 + n * m + c) / 100000000)
  rw [show (lo.getD j 0 + n * m + c) % 100000000 + 100000000 * ((lo.getD j 0 + n * m + c) / 100000000) = lo.getD j 0 + n * m + c from by omega, Int.mul_add, Int.mul_add] at e
  omega
theorem prod_le {a b : Int} (ha : 0 ≤ a ∧ a < 100000000) (hb : 0 ≤ b ∧ b < 100000000) : 0 ≤ a * b ∧ a * b ≤ 9999999800000001 := by
  refine ⟨Int.mul_nonneg ha.1 hb.1, ?_⟩
  have := Int.mul_le_mul (by omega : a ≤ 99999999) (by omega : b ≤ 99999999) hb.1 (by omega)
  omega
end Go.Num
