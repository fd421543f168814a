/- Of the law: texts of its proof, joined (part 6). -/
import Derived.KernelRfl
import Derived.Test.YtmmgdgmjkhcfaaaGreatQcy5
set_option linter.all false
namespace Go.Num
def B : Int := 100000000
def val : List Int → Int
  | [] => 0
  | x :: l => x + B * val l
theorem val_app (l m : List Int) : val (l ++ m) = val l + B ^ l.length * val m := by
  induction l with
  | nil => simp [val]
  | cons x l ih => simp only [List.cons_append, val, ih, List.length_cons, Int.pow_succ, Int.mul_add]; rw [Int.mul_comm (B ^ l.length) B, Int.mul_assoc]; omega
theorem val_snoc (l : List Int) (x : Int) : val (l ++ [x]) = val l + B ^ l.length * x := by rw [val_app]; simp [val]
theorem val_neg (l : List Int) : val (l.map (- ·)) = - val l := by
  induction l with
  | nil => rfl
  | cons x l ih => simp only [List.map_cons, val, ih]; rw [Int.mul_neg]; omega
def Dg (l : List Int) : Prop := ∀ x ∈ l, 0 ≤ x ∧ x < B
theorem Dg.tail {x : Int} {l : List Int} (h : Dg (x :: l)) : Dg l := fun y hy => h y (List.mem_cons_of_mem _ hy)
theorem Dg.head {x : Int} {l : List Int} (h : Dg (x :: l)) : 0 ≤ x ∧ x < B := h x (List.mem_cons_self ..)
theorem Dg.app {l m : List Int} (h : Dg l) (h' : Dg m) : Dg (l ++ m) := fun y hy => (List.mem_append.1 hy).elim (h y) (h' y)
theorem Dg.one {x : Int} (h : 0 ≤ x) (h' : x < B) : Dg [x] := fun y hy => by simp at hy; subst hy; exact ⟨h, h'⟩
theorem Dg.nil : Dg [] := fun y hy => by cases hy
theorem pow_pos (n : Nat) : 0 < B ^ n := Int.pow_pos (by decide)
theorem Dg.val {l : List Int} (h : Dg l) : 0 ≤ val l ∧ val l < B ^ l.length := by
  induction l with
  | nil => simp [Num.val]
  | cons x l ih =>
    have h1 := h.head
    have h2 := ih h.tail
    simp only [Num.val, List.length_cons, Int.pow_succ]
    unfold B at *
    omega
def trimL (l : List Int) : List Int := (l.reverse.dropWhile (· == 0)).reverse
theorem trimL_snoc (l : List Int) (x : Int) : trimL (l ++ [x]) = if x = 0 then trimL l else l ++ [x] := by
  unfold trimL
  rw [List.reverse_append, List.reverse_singleton, List.singleton_append, List.dropWhile_cons]
  by_cases h : x = 0 <;> simp [h]
theorem trimL_len (l : List Int) : (trimL l).length ≤ l.length := by
  unfold trimL
  rw [List.length_reverse]
  have := (List.dropWhile_sublist (fun x : Int => x == 0) (l := l.reverse)).length_le
  simpa using this
theorem trimL_mem {l : List Int} {x : Int} (h : x ∈ trimL l) : x ∈ l := by
  unfold trimL at h
  rw [List.mem_reverse] at h
  have := (List.dropWhile_sublist (fun x : Int => x == 0) (l := l.reverse)).subset h
  simpa using this
theorem trimL_nil : trimL [] = [] := rfl
theorem trimL_cons (x : Int) (l : List Int) : trimL (x :: l) = if trimL l = [] then (if x = 0 then [] else [x]) else x :: trimL l := by
  have key : ∀ (m : List Int), ∀ l : List Int, l = m.reverse → trimL (x :: l) = if trimL l = [] then (if x = 0 then [] else [x]) else x :: trimL l := by
    intro m
    induction m with
    | nil =>
      intro l hl
      subst hl
      show trimL ([] ++ [x]) = _
      rw [trimL_snoc]; rfl
    | cons y m ih =>
      intro l hl
      rw [List.reverse_cons] at hl
      subst hl
      rw [← List.cons_append, trimL_snoc, trimL_snoc]
      by_cases h : y = 0
      · simp only [h, if_true]; exact ih _ rfl
      · simp [h]
  exact key l.reverse l (by simp)
def digsN (n : Nat) : List Int := if h : n = 0 then [] else ((n % 100000000 : Nat) : Int) :: digsN (n / 100000000)
termination_by n
decreasing_by omega
theorem digsN_zero : digsN 0 = [] := by unfold digsN; simp
theorem digsN_pos {n : Nat} (h : n ≠ 0) : digsN n = ((n % 100000000 : Nat) : Int) :: digsN (n / 100000000) := by rw [digsN]; simp [h]
theorem digsN_val : ∀ (f n : Nat), n < f → val (digsN n) = n ∧ Dg (digsN n) := by
  intro f
  induction f with
  | zero => intro n h; omega
  | succ f ih =>
    intro n hn
    by_cases h : n = 0
    · subst h; rw [digsN_zero]; exact ⟨rfl, Dg.nil⟩
    · rw [digsN_pos h]
      obtain ⟨h1, h2⟩ := ih (n / 100000000) (by omega)
      refine ⟨?_, ?_⟩
      · simp only [val, h1, B]; omega
      · intro y hy
        rcases List.mem_cons.1 hy with rfl | hy
        · unfold B; omega
        · exact h2 y hy
theorem digsN_dg (n : Nat) : Dg (digsN n) := (digsN_val (n + 1) n (by omega)).2
theorem trim_digs : ∀ {l : List Int}, Dg l → trimL l = digsN (val l).toNat := by
  intro l
  induction l with
  | nil => intro _; rw [trimL_nil]; simp [val, digsN_zero]
  | cons x l ih =>
    intro h
    have h1 := h.head
    have h2 := h.tail.val
    have ih := ih h.tail
    rw [trimL_cons, ih]
    simp only [val]
    unfold B at h1 ⊢
    by_cases hz : (val l).toNat = 0
    · rw [hz, digsN_zero, if_pos rfl]
      by_cases hx : x = 0
      · rw [if_pos hx]
        rw [show (x + 100000000 * val l).toNat = 0 from by omega, digsN_zero]
      · rw [if_neg hx, digsN_pos (by omega)]
        rw [show (x + 100000000 * val l).toNat / 100000000 = 0 from by omega, digsN_zero]
        congr 1; omega
    · have hne : digsN (val l).toNat ≠ [] := by rw [digsN_pos hz]; simp
      rw [if_neg hne, digsN_pos (n := (x + 100000000 * val l).toNat) (by omega)]
      rw [show (x + 100000000 * val l).toNat / 100000000 = (val l).toNat from by omega]
      congr 1; omega
def nf (z : Int) : List Int := if 0 ≤ z then digsN z.toNat else (digsN (-z).toNat).map (- ·)
theorem nf_val (z : Int) : val (nf z) = z := by
  unfold nf
  split
  · rw [(digsN_val (z.toNat + 1) _ (by omega)).1]; omega
  · rw [val_neg, (digsN_val ((-z).toNat + 1) _ (by omega)).1]; omega
theorem nf_pos {z : Int} (h : 0 ≤ z) : nf z = digsN z.toNat := if_pos h
theorem nf_neg {z : Int} (h : z < 0) : nf z = (digsN (-z).toNat).map (- ·) := if_neg (by omega)
theorem nf_zero : nf 0 = [] := by rw [nf_pos (by omega)]; exact digsN_zero
theorem nf_bound (z : Int) : ∀ x ∈ nf z, -B < x ∧ x < B := by
  unfold nf
  split
  · intro x hx
    have := (digsN_val (z.toNat + 1) _ (by omega)).2 x hx
    unfold B at *; omega
  · intro x hx
    obtain ⟨y, hy, rfl⟩ := List.mem_map.1 hx
    have := digsN_dg (-z).toNat y hy
    unfold B at *; omega
theorem digsN_len : ∀ (k n : Nat), n < 100000000 ^ k → (digsN n).length ≤ k := by
  intro k
  induction k with
  | zero => intro n h; simp at h; subst h; rw [digsN_zero]; simp
  | succ k ih =>
    intro n h
    by_cases hz : n = 0
    · subst hz; rw [digsN_zero]; simp
    · rw [digsN_pos hz, List.length_cons]
      have := ih (n / 100000000) (by rw [Nat.div_lt_iff_lt_mul (by omega)]; rw [Nat.pow_succ] at h; exact h)
      omega
theorem nf_nil {z : Int} : nf z = [] ↔ z = 0 := by
  constructor
  · intro h
    have := nf_val z
    rw [h] at this
    simp [val] at this
    omega
  · rintro rfl; exact nf_zero
theorem pow_succ' (n : Nat) : B ^ (n + 1) = 100000000 * B ^ n := by rw [Int.pow_succ, Int.mul_comm]; rfl
theorem lin_mul (p a b : Int) : p * a + 100000000 * p * b = p * (a + 100000000 * b) := by rw [Int.mul_add, ← Int.mul_assoc p 100000000 b, Int.mul_comm p 100000000]
theorem norm_step {out t : List Int} {x c : Int} {i : Nat} (hi : out.length = i) (h : val out + B ^ i * c = val t) (ht : t.length = i) : val (out ++ [(x % 100000000 + c) % 100000000]) + B ^ (i + 1) * (x / 100000000 + (x % 100000000 + c) / 100000000) = val (t ++ [x]) := by
  rw [val_snoc, val_snoc, hi, ht, pow_succ', ← h]
  have e : (x % 100000000 + c) % 100000000 + 100000000 * (x / 100000000 + (x % 100000000 + c) / 100000000) = x + c := by omega
  have e2 : B ^ i * ((x % 100000000 + c) % 100000000) + 100000000 * B ^ i * (x / 100000000 + (x % 100000000 + c) / 100000000) = B ^ i * x + B ^ i * c := by
    rw [lin_mul, e, Int.mul_add]
  omega
theorem carry_step {out : List Int} {c : Int} (v : Int) (h : val out + B ^ out.length * c = v) : val (out ++ [c % 100000000]) + B ^ (out ++ [c % 100000000]).length * (c / 100000000) = v := by
  rw [val_snoc, List.length_append, List.length_singleton, pow_succ', ← h]
  have e2 : B ^ out.length * (c % 100000000) + 100000000 * B ^ out.length * (c / 100000000) = B ^ out.length * c := by
    rw [lin_mul]; congr 1; omega
  omega
theorem compl_step {sz t : List Int} {b o b2 : Int} {i : Nat} (hs : sz.length = i) (ht : t.length = i) (h : val sz = b * B ^ i - val t) : val (sz ++ [-o - b + 100000000 * b2]) = b2 * B ^ (i + 1) - val (t ++ [o]) := by
  rw [val_snoc, val_snoc, hs, ht, h, pow_succ', Int.mul_add, Int.mul_sub, Int.mul_neg]
  have e1 : B ^ i * (100000000 * b2) = b2 * (100000000 * B ^ i) := by rw [Int.mul_left_comm, Int.mul_comm b2, Int.mul_assoc]
  have e2 : b * B ^ i = B ^ i * b := Int.mul_comm _ _
  omega
theorem nf_of_digs {l : List Int} (h : Dg l) {z : Int} (hz : val l = z) : trimL l = nf z := by
  have h0 := h.val
  rw [trim_digs h, hz, nf_pos (by omega)]
theorem nf_of_neg {l : List Int} (h : Dg l) {z : Int} (hz : val l = -z) : (trimL l).map (- ·) = nf z := by
  have h0 := h.val
  by_cases e : z = 0
  · subst e
    rw [trim_digs h, hz, nf_zero]; simp [digsN_zero]
  · rw [trim_digs h, hz, nf_neg (by omega)]
theorem val_take_succ (l : List Int) (i : Nat) : val (l.take (i + 1)) = val (l.take i) + B ^ i * l.getD i 0 := by
  by_cases h : i < l.length
  · rw [List.take_succ_eq_append_getElem h, val_snoc, List.length_take, Nat.min_eq_left (by omega)]
    simp [List.getD_eq_getElem?_getD, List.getElem?_eq_getElem h]
  · rw [List.take_of_length_le (by omega), List.take_of_length_le (by omega)]
    simp [List.getD_eq_getElem?_getD, List.getElem?_eq_none (by omega : l.length ≤ i)]
theorem nf_getD (z : Int) (i : Nat) : -100000000 < (nf z).getD i 0 ∧ (nf z).getD i 0 < 100000000 := by
  by_cases h : i < (nf z).length
  · have := nf_bound z ((nf z)[i]) (List.getElem_mem h)
    rw [List.getD_eq_getElem?_getD, List.getElem?_eq_getElem h]
    unfold B at this; exact this
  · rw [List.getD_eq_getElem?_getD, List.getElem?_eq_none (by omega)]; simp
theorem nf_neg' (z : Int) : (nf z).map (- ·) = nf (-z) := by
  by_cases h : 0 ≤ z
  · by_cases h0 : z = 0
    · subst h0; rw [show (-0 : Int) = 0 from rfl, nf_zero]; rfl
    · rw [nf_pos h, nf_neg (by omega)]; rw [Int.neg_neg]
  · rw [nf_neg (by omega), nf_pos (by omega)]
    rw [List.map_map]
    have : ((fun x : Int => -x) ∘ fun x => -x) = id := by funext x; simp
    rw [this, List.map_id]
theorem trim_nf (z : Int) : trimL (nf z) = nf z := by
  by_cases h : 0 ≤ z
  · have hd := digsN_dg z.toNat
    have hv := nf_val z
    rw [nf_pos h] at *
    rw [trim_digs hd, hv]
  · have hd := digsN_dg (-z).toNat
    have e : nf z = (nf (-z)).map (- ·) := by rw [nf_neg', Int.neg_neg]
    have key : ∀ l : List Int, trimL (l.map (- ·)) = (trimL l).map (- ·) := by
      intro l
      induction l with
      | nil => rfl
      | cons x l ih =>
        rw [List.map_cons, trimL_cons, trimL_cons, ih]
        by_cases h1 : trimL l = []
        · rw [h1]
          by_cases h2 : x = 0
          · subst h2; simp
          · simp [h2]
        · rw [if_neg (by simpa using h1), if_neg h1]; rfl
    rw [e, key]
    congr 1
    have hv := nf_val (-z)
    rw [nf_pos (by omega)] at hv ⊢
    rw [trim_digs hd, hv]
theorem digsN_mono_len : ∀ (f a : Nat) (k : Nat), a < f → (digsN a).length = k + 1 → 100000000 ^ k ≤ a := by
  intro f
  induction f with
  | zero => intro a k h; omega
  | succ f ih =>
    intro a k h hl
    by_cases hz : a = 0
    · subst hz; rw [digsN_zero] at hl; simp at hl
    · rw [digsN_pos hz, List.length_cons] at hl
      cases k with
      | zero => simp; omega
      | succ k =>
        have := ih (a / 100000000) k (by omega) (by omega)
        rw [Nat.pow_succ]
        calc 100000000 ^ k * 100000000 ≤ a / 100000000 * 100000000 := Nat.mul_le_mul_right _ this
          _ ≤ a := Nat.div_mul_le_self ..
theorem nf_len {z : Int} {k : Nat} (h1 : -(B ^ k) < z) (h2 : z < B ^ k) : (nf z).length ≤ k := by
  have e : ((100000000 ^ k : Nat) : Int) = B ^ k := by rw [Int.natCast_pow]; rfl
  unfold nf
  split
  · exact digsN_len k _ (by rw [← e] at h2; omega)
  · rw [List.length_map]; exact digsN_len k _ (by rw [← e] at h1; omega)
theorem nf_size (z : Int) : -(B ^ (nf z).length) < z ∧ z < B ^ (nf z).length := by
  by_cases h : 0 ≤ z
  · have hd := digsN_dg z.toNat
    have hv := nf_val z
    rw [nf_pos h] at *
    have := hd.val
    rw [hv] at this; omega
  · have hd := digsN_dg (-z).toNat
    have e : nf z = (nf (-z)).map (- ·) := by rw [nf_neg', Int.neg_neg]
    have hv := nf_val (-z)
    rw [e, List.length_map]
    rw [nf_pos (by omega)] at hv ⊢
    have := hd.val
    rw [hv] at this; omega
theorem pow_le {i j : Nat} (h : i ≤ j) : B ^ i ≤ B ^ j := by
  obtain ⟨d, rfl⟩ : ∃ d, j = i + d := ⟨j - i, by omega⟩
  rw [Int.pow_add]
  have h1 := pow_pos i
  have h2 := pow_pos d
  have : B ^ i * 1 ≤ B ^ i * B ^ d := Int.mul_le_mul_of_nonneg_left (by omega) (by omega)
  omega
theorem nf_len_mul (x y : Int) : (nf (x * y)).length ≤ (nf x).length + (nf y).length := by
  have h1 := nf_size x
  have h2 := nf_size y
  refine nf_len ?_ ?_ <;> rw [Int.pow_add]
  all_goals
    generalize B ^ (nf x).length = p at *
    generalize B ^ (nf y).length = q at *
    have hx : x.natAbs < p.natAbs := by omega
    have hy : y.natAbs < q.natAbs := by omega
    have hm : x.natAbs * y.natAbs < p.natAbs * q.natAbs := Nat.mul_lt_mul_of_lt_of_lt hx hy
    have e1 : (x * y).natAbs = x.natAbs * y.natAbs := Int.natAbs_mul x y
    have e2 : (p * q).natAbs = p.natAbs * q.natAbs := Int.natAbs_mul p q
    have hp : 0 ≤ p * q := Int.mul_nonneg (by omega) (by omega)
    omega
theorem digsN_last : ∀ (f n : Nat), n < f → n ≠ 0 → (digsN n).length ≠ 0 ∧ 0 < (digsN n).getD ((digsN n).length - 1) 0 := by
  intro f
  induction f with
  | zero => intro n h; omega
  | succ f ih =>
    intro n hn h
    rw [digsN_pos h]
    by_cases hq : n / 100000000 = 0
    · rw [hq, digsN_zero]
      simp
      omega
    · obtain ⟨h1, h2⟩ := ih (n / 100000000) (by omega) hq
      refine ⟨by simp, ?_⟩
      rw [List.length_cons, Nat.add_sub_cancel]
      obtain ⟨k, hk⟩ : ∃ k, (digsN (n / 100000000)).length = k + 1 := ⟨(digsN (n / 100000000)).length - 1, by omega⟩
      rw [hk] at h2 ⊢
      simpa using h2
theorem nf_last {z : Int} (h : z ≠ 0) : (nf z).length ≠ 0 ∧ ((nf z).getD ((nf z).length - 1) 0 < 0 ↔ z < 0) := by
  by_cases hz : 0 ≤ z
  · rw [nf_pos hz]
    obtain ⟨h1, h2⟩ := digsN_last (z.toNat + 1) z.toNat (by omega) (by omega)
    exact ⟨h1, by omega⟩
  · rw [nf_neg (by omega)]
    obtain ⟨h1, h2⟩ := digsN_last ((-z).toNat + 1) (-z).toNat (by omega) (by omega)
    rw [List.length_map]
    refine ⟨h1, ?_⟩
    rw [List.getD_eq_getElem?_getD, List.getElem?_map]
    rw [List.getD_eq_getElem?_getD] at h2
    have hl : (digsN (-z).toNat).length - 1 < (digsN (-z).toNat).length := by omega
    rw [List.getElem?_eq_getElem hl] at h2 ⊢
    simp at h2 ⊢
    omega
theorem nf_abs (z : Int) : (if z < 0 then (nf z).map (- ·) else nf z) = nf (z.natAbs : Int) := by
  split
  · rw [nf_neg']; congr 1; omega
  · congr 1; omega
theorem val_split (l : List Int) (i : Nat) (h : i ≤ l.length) : val l = val (l.take i) + B ^ i * val (l.drop i) := by
  have := val_app (l.take i) (l.drop i)
  rw [List.take_append_drop, List.length_take, Nat.min_eq_left h] at this
  exact this
theorem drop_getD {l : List Int} {i : Nat} (h : i < l.length) : l.drop i = l.getD i 0 :: l.drop (i + 1) := by
  rw [List.drop_eq_getElem_cons h]
  simp [List.getD_eq_getElem?_getD, List.getElem?_eq_getElem h]
theorem Dg.take {l : List Int} (h : Dg l) (i : Nat) : Dg (l.take i) := fun x hx => h x (List.mem_of_mem_take hx)
theorem Dg.drop {l : List Int} (h : Dg l) (i : Nat) : Dg (l.drop i) := fun x hx => h x (List.mem_of_mem_drop hx)
theorem Dg.getD {l : List Int} (h : Dg l) (i : Nat) : 0 ≤ l.getD i 0 ∧ l.getD i 0 < 100000000 := by
  by_cases hi : i < l.length
  · have := h _ (List.getElem_mem hi)
    rw [List.getD_eq_getElem?_getD, List.getElem?_eq_getElem hi]
    exact this
  · rw [List.getD_eq_getElem?_getD, List.getElem?_eq_none (by omega)]; simp
theorem Dg.set {l : List Int} (h : Dg l) (i : Nat) {z : Int} (h0 : 0 ≤ z) (h1 : z < 100000000) : Dg (l.set i z) := fun x hx => by
  rcases List.mem_or_eq_of_mem_set hx with hx | rfl
  · exact h x hx
  · exact ⟨h0, h1⟩
theorem nf_dg {z : Int} (h : 0 ≤ z) : Dg (nf z) := by rw [nf_pos h]; exact digsN_dg _
theorem nf_len_lt {x y : Int} (hx : 0 ≤ x) (hy : 0 ≤ y) (h : (nf x).length < (nf y).length) : x < y := by
  obtain ⟨k, hk⟩ : ∃ k, (nf y).length = k + 1 := ⟨(nf y).length - 1, by omega⟩
  have h1 : B ^ k ≤ y := by
    rw [nf_pos hy] at hk
    have := digsN_mono_len (y.toNat + 1) y.toNat k (by omega) hk
    have e : ((100000000 ^ k : Nat) : Int) = B ^ k := by rw [Int.natCast_pow]; rfl
    omega
  have h2 := (nf_size x).2
  have h3 := pow_le (i := (nf x).length) (j := k) (by omega)
  omega
theorem cmp_at {l m : List Int} (hl : Dg l) (hm : Dg m) {i : Nat} (h1 : i < l.length) (h2 : i < m.length) (hd : l.drop (i + 1) = m.drop (i + 1)) : (l.getD i 0 < m.getD i 0 → val l < val m) ∧ (m.getD i 0 < l.getD i 0 → val m < val l) := by
  rw [val_split l i (by omega), val_split m i (by omega), drop_getD h1, drop_getD h2, hd]
  simp only [val]
  have b1 := (hl.take i).val
  have b2 := (hm.take i).val
  rw [List.length_take, Nat.min_eq_left (by omega)] at b1 b2
  have hp := pow_pos i
  generalize B ^ i = p at *
  generalize B * val (List.drop (i + 1) m) = q at *
  have step : ∀ u v : Int, u < v → p * u + p ≤ p * v := fun u v h => by
    have : p * (u + 1) ≤ p * v := Int.mul_le_mul_of_nonneg_left (by omega) (by omega)
    rw [Int.mul_add, Int.mul_one] at this; exact this
  refine ⟨fun h => ?_, fun h => ?_⟩
  · have := step (l.getD i 0 + q) (m.getD i 0 + q) (by omega); omega
  · have := step (m.getD i 0 + q) (l.getD i 0 + q) (by omega); omega
theorem div_step {A ql : List Int} {i : Nat} {y R : Int} (hA : i < A.length) (hq : i < ql.length) (hy : 0 < y) (h : val (A.drop (i + 1)) = y * val (ql.drop (i + 1)) + R) :
    val (A.drop i) = y * val ((ql.set i ((A.getD i 0 + B * R) / y)).drop i) + (A.getD i 0 + B * R) % y := by
  rw [drop_getD hA]
  have e : (ql.set i ((A.getD i 0 + B * R) / y)).drop i = (A.getD i 0 + B * R) / y :: ql.drop (i + 1) := by
    rw [drop_getD (by rw [List.length_set]; exact hq)]
    congr 1
    · rw [List.getD_eq_getElem?_getD, List.getElem?_set]; simp [hq]
    · rw [List.drop_set_of_lt (by omega)]
  rw [e]
  simp only [val]
  rw [h, Int.mul_add, Int.mul_add]
  have := Int.mul_ediv_add_emod (A.getD i 0 + B * R) y
  have e2 : B * (y * val (ql.drop (i + 1))) = y * (B * val (ql.drop (i + 1))) := Int.mul_left_comm ..
  omega
theorem val_bd {l : List Int} (h : ∀ x ∈ l, -B < x ∧ x < B) : -(B ^ l.length) < val l ∧ val l < B ^ l.length := by
  induction l with
  | nil => simp [val]
  | cons x l ih =>
    have h1 := h x (List.mem_cons_self ..)
    have h2 := ih fun y hy => h y (List.mem_cons_of_mem _ hy)
    simp only [val, List.length_cons, pow_succ']
    unfold B at *
    omega
theorem take_len (z : Int) (i : Nat) : (nf (val ((nf z).take i))).length ≤ i := by
  have h := val_bd (l := (nf z).take i) fun x hx => nf_bound z x (List.mem_of_mem_take hx)
  have hl : ((nf z).take i).length ≤ i := List.length_take_le ..
  have hp := pow_le hl
  exact nf_len (by omega) (by omega)
def cmpZ (x y : Int) : Int := if x < y then -1 else if y < x then 1 else 0
theorem nf_ge {x : Int} (h : 0 < x) : B ^ ((nf x).length - 1) ≤ x := by
  obtain ⟨h1, _⟩ := nf_last (z := x) (by omega)
  obtain ⟨k, hk⟩ : ∃ k, (nf x).length = k + 1 := ⟨(nf x).length - 1, by omega⟩
  rw [hk, Nat.add_sub_cancel]
  rw [nf_pos (by omega)] at hk
  have := digsN_mono_len (x.toNat + 1) x.toNat k (by omega) hk
  have e : ((100000000 ^ k : Nat) : Int) = B ^ k := by rw [Int.natCast_pow]; rfl
  omega
theorem nf_len_mono {x y : Int} (hx : 0 ≤ x) (h : x ≤ y) : (nf x).length ≤ (nf y).length := by
  apply Nat.le_of_not_lt
  intro hlt
  have := nf_len_lt (x := y) (y := x) (by omega) hx hlt
  omega
theorem val_set {l : List Int} {j : Nat} (h : j < l.length) (x : Int) : val (l.set j x) = val l + B ^ j * (x - l.getD j 0) := by
  rw [val_split (l.set j x) j (by rw [List.length_set]; omega), val_split l j (by omega)]
  rw [drop_getD (l := l.set j x) (by rw [List.length_set]; exact h), drop_getD h]
  have e1 : (l.set j x).take j = l.take j := by rw [List.take_set_of_le (by omega)]
  have e2 : (l.set j x).getD j 0 = x := by rw [List.getD_eq_getElem?_getD, List.getElem?_set]; simp [h]
  have e3 : (l.set j x).drop (j + 1) = l.drop (j + 1) := by rw [List.drop_set_of_lt (by omega)]
  rw [e1, e2, e3]
  simp only [val]
  rw [Int.mul_add, Int.mul_add, Int.mul_sub]
  omega
theorem times_step {lo : List Int} {j : Nat} {c n m : Int} (h : j < lo.length) : val (lo.set j ((lo.getD j 0 + n * m + c) % 100000000)) + B ^ (j + 1) * ((lo.getD j 0 + n * m + c) / 100000000) = (val lo + B ^ j * c) + B ^ j * (n * m) := by
  rw [val_set h, pow_succ', Int.mul_sub]
  have e := lin_mul (B ^ j) ((lo.getD j 0 + n * m + c) % 100000000) ((lo.getD j 0 + n * m + c) / 100000000)
  rw [show (lo.getD j 0 + n * m + c) % 100000000 + 100000000 * ((lo.getD j 0 + n * m + c) / 100000000) = lo.getD j 0 + n * m + c from by omega, Int.mul_add, Int.mul_add] at e
  omega
theorem prod_le {a b : Int} (ha : 0 ≤ a ∧ a < 100000000) (hb : 0 ≤ b ∧ b < 100000000) : 0 ≤ a * b ∧ a * b ≤ 9999999800000001 := by
  refine ⟨Int.mul_nonneg ha.1 hb.1, ?_⟩
  have := Int.mul_le_mul (by omega : a ≤ 99999999) (by omega : b ≤ 99999999) hb.1 (by omega)
  omega
end Go.Num
namespace Go.Proofs.YtmmgdgmjkhcfaaaGreat
def goodAt (f : List Int) (i : Nat) : Bool := decide (0 ≤ f.getD i 0) && decide (f.getD i 0 < f.length) && !((f.take i).contains (f.getD i 0))
def permB (f : List Int) : Bool := (List.range f.length).all (goodAt f)
theorem permB_at {f : List Int} (h : permB f = true) (i : Nat) (hi : i < f.length) : 0 ≤ f.getD i 0 ∧ f.getD i 0 < f.length ∧ f.getD i 0 ∉ f.take i := by
  have := List.all_eq_true.1 h i (List.mem_range.2 hi)
  simpa [goodAt, and_assoc] using this
def seenOf (f : List Int) (i : Nat) : List Bool := (List.range f.length).map fun x : Nat => (f.take i).contains (x : Int)
theorem seenOf_len (f : List Int) (i : Nat) : (seenOf f i).length = f.length := by simp [seenOf]
theorem seenOf_zero (f : List Int) : seenOf f 0 = List.replicate f.length false := by
  apply List.ext_getElem <;> simp [seenOf]
theorem seenOf_get (f : List Int) (i x : Nat) (hx : x < f.length) : (seenOf f i)[x]? = some ((f.take i).contains (x : Int)) := by simp [seenOf, hx]
theorem seenOf_succ (f : List Int) (i : Nat) (hi : i < f.length) (h0 : 0 ≤ f.getD i 0) : seenOf f (i + 1) = (seenOf f i).set (f.getD i 0).toNat true := by
  have hg : f.getD i 0 = f[i] := by simp [hi]
  rw [hg] at h0 ⊢
  apply List.ext_getElem?
  intro x
  rw [List.getElem?_set, seenOf_len]
  by_cases hx : x < f.length
  · rw [seenOf_get _ _ _ hx, List.take_succ_eq_append_getElem hi]
    by_cases he : f[i].toNat = x
    · subst he
      have e : ((f[i].toNat : Nat) : Int) = f[i] := by omega
      simp only [if_true, if_pos hx, e, List.contains_eq_mem, List.mem_append, List.mem_singleton, or_true, decide_true]
    · rw [if_neg he, seenOf_get _ _ _ hx]
      have e : (x : Int) ≠ f[i] := by omega
      simp only [List.contains_eq_mem, List.mem_append, List.mem_singleton, e, or_false]
  · have h2 : (seenOf f (i + 1))[x]? = none := List.getElem?_eq_none (by rw [seenOf_len]; omega)
    have h3 : (seenOf f i)[x]? = none := List.getElem?_eq_none (by rw [seenOf_len]; omega)
    rw [h2, h3]
    split
    · rename_i he; rw [if_neg (by omega)]
    · rfl
def walkC (f : List Int) : Nat → Nat → List Bool → Nat × List Bool
  | 0, _, s => (0, s)
  | m + 1, k, s => if s.getD k true then (0, s) else ((walkC f m (f.getD k 0).toNat (s.set k true)).1 + 1, (walkC f m (f.getD k 0).toNat (s.set k true)).2)
theorem walkC_len (f : List Int) : ∀ (m k : Nat) (s : List Bool), (walkC f m k s).2.length = s.length := by
  intro m
  induction m with
  | zero => intro k s; rfl
  | succ m ih =>
    intro k s
    unfold walkC
    split
    · rfl
    · rw [ih]; simp
theorem count_set_true (s : List Bool) (k : Nat) (hk : s[k]? = some false) : (s.set k true).count false + 1 = s.count false := by
  induction s generalizing k with
  | nil => simp at hk
  | cons x s ih =>
    cases k with
    | zero => simp at hk; subst hk; simp
    | succ k =>
      have := ih k (by simpa using hk)
      simp only [List.set_cons_succ, List.count_cons]
      omega
theorem count_zero (s : List Bool) (h : s.count false = 0) (k : Nat) (hk : k < s.length) : s[k]? = some true := by
  have := List.count_eq_zero.1 h
  rw [List.getElem?_eq_getElem hk]
  cases hs : s[k] with
  | true => rfl
  | false => exact absurd (hs ▸ List.getElem_mem hk) this
def cycSt (f : List Int) : Nat → List Bool × List Int
  | 0 => (List.replicate f.length false, [])
  | i + 1 => ((walkC f f.length i (cycSt f i).1).2, if 0 < (walkC f f.length i (cycSt f i).1).1 then (cycSt f i).2 ++ [((walkC f f.length i (cycSt f i).1).1 : Int)] else (cycSt f i).2)
def cycL (f : List Int) : List Int := (cycSt f f.length).2
theorem cycSt_len (f : List Int) (i : Nat) : (cycSt f i).1.length = f.length := by
  induction i with
  | zero => simp [cycSt]
  | succ i ih => simp only [cycSt]; rw [walkC_len, ih]
theorem cycSt_out (f : List Int) (i : Nat) : (cycSt f i).2.length ≤ i := by
  induction i with
  | zero => simp [cycSt]
  | succ i ih =>
    simp only [cycSt]
    split
    · simp; exact ih
    · omega
end Go.Proofs.YtmmgdgmjkhcfaaaGreat
namespace Go.Num
def bad (p : Option Int) (x : Int) : Option Int := if x < 1 then some 2 else if 20 < x then some 2 else match p with
  | some q => if q < x then some 9 else none
  | none => none
def chkGo : Option Int → List Int → Option Int
  | _, [] => none
  | p, x :: r => match bad p x with
    | some e => some e
    | none => chkGo (some x) r
def chk (l : List Int) : Int := if 20 < l.length then 8 else match chkGo none l with
  | some e => e
  | none => if 20 < l.sum then 8 else 0
theorem bad_none {p : Option Int} {x : Int} (h : bad p x = none) : 1 ≤ x ∧ x ≤ 20 ∧ ∀ q, p = some q → x ≤ q := by
  unfold bad at h
  split at h
  · cases h
  · split at h
    · cases h
    · refine ⟨by omega, by omega, fun q hq => ?_⟩
      subst hq
      simp only at h
      split at h
      · cases h
      · omega
theorem chkGo_none : ∀ {l : List Int} {p : Option Int}, chkGo p l = none → ∀ x ∈ l, 1 ≤ x ∧ x ≤ 20 := by
  intro l
  induction l with
  | nil => intro p _ x hx; cases hx
  | cons y l ih =>
    intro p h x hx
    unfold chkGo at h
    split at h
    · cases h
    · rename_i hb
      rcases List.mem_cons.1 hx with rfl | hx
      · have := bad_none hb; exact ⟨this.1, this.2.1⟩
      · exact ih h x hx
def prv (l : List Int) : Nat → Option Int
  | 0 => none
  | j + 1 => some (l.getD j 0)
theorem chkGo_at {l : List Int} {i : Nat} (h : i < l.length) : chkGo (prv l i) (l.drop i) = match bad (prv l i) (l.getD i 0) with | some e => some e | none => chkGo (prv l (i + 1)) (l.drop (i + 1)) := by
  rw [drop_getD h, chkGo]; rfl
theorem chkGo_desc : ∀ {l : List Int} {p : Option Int}, chkGo p l = none → l.Pairwise (fun a b => b ≤ a) ∧ ∀ q, p = some q → ∀ x ∈ l, x ≤ q := by
  intro l
  induction l with
  | nil => intro p _; exact ⟨.nil, fun _ _ _ hx => by cases hx⟩
  | cons y l ih =>
    intro p h
    unfold chkGo at h
    split at h
    · cases h
    · rename_i hb
      obtain ⟨h1, h2⟩ := ih h
      have hy := bad_none hb
      refine ⟨.cons (fun x hx => h2 y rfl x hx) h1, fun q hq x hx => ?_⟩
      rcases List.mem_cons.1 hx with rfl | hx
      · exact hy.2.2 q hq
      · exact Int.le_trans (h2 y rfl x hx) (hy.2.2 q hq)
structure Part (l : List Int) : Prop where
  len : l.length ≤ 20
  mem : ∀ x ∈ l, 1 ≤ x ∧ x ≤ 20
  desc : l.Pairwise (fun a b => b ≤ a)
  sum : l.sum ≤ 20
theorem chk_part {l : List Int} (h : chk l = 0) : Part l := by
  unfold chk at h
  split at h
  · cases h
  · split at h
    · rename_i e he
      subst h
      exfalso
      have : ∀ (l : List Int) (p : Option Int), chkGo p l ≠ some 0 := by
        intro l
        induction l with
        | nil => intro p h; cases h
        | cons x l ih =>
          intro p h
          unfold chkGo at h
          split at h
          · rename_i e hb
            injection h with h
            subst h
            unfold bad at hb
            split at hb
            · cases hb
            · split at hb
              · cases hb
              · split at hb
                · split at hb <;> cases hb
                · cases hb
          · exact ih _ h
      exact this l none he
    · rename_i hg
      split at h
      · cases h
      · exact ⟨by omega, chkGo_none hg, (chkGo_desc hg).1, by omega⟩
theorem sum_take_succ {l : List Int} {i : Nat} (h : i < l.length) : (l.take (i + 1)).sum = (l.take i).sum + l.getD i 0 := by
  have e : l.take (i + 1) = l.take i ++ [l.getD i 0] := by
    rw [List.take_succ, List.getD_eq_getElem?_getD]
    simp [List.getElem?_eq_getElem h]
  rw [e, List.sum_append]; simp
theorem sum_bd {l : List Int} {b : Int} (hb : 0 ≤ b) (h : ∀ x ∈ l, -b ≤ x ∧ x ≤ b) : -(b * l.length) ≤ l.sum ∧ l.sum ≤ b * l.length := by
  induction l with
  | nil => simp
  | cons x l ih =>
    have h1 := h x (List.mem_cons_self ..)
    have h2 := ih fun y hy => h y (List.mem_cons_of_mem _ hy)
    rw [List.sum_cons, List.length_cons, show ((l.length + 1 : Nat) : Int) = (l.length : Int) + 1 from rfl, Int.mul_add, Int.mul_one]
    omega
end Go.Num
namespace Go.Num
theorem nf_small {z : Int} (h0 : 0 < z) (h1 : z < 100000000) : nf z = [z] := by
  rw [nf_pos (by omega), digsN_pos (by omega), show z.toNat / 100000000 = 0 from by omega, digsN_zero, show z.toNat % 100000000 = z.toNat from by omega]
  congr 1
  omega
def fct : Nat → Int
  | 0 => 1
  | k + 1 => fct k * ((k + 1 : Nat) : Int)
theorem fct_bd : ∀ k : Fin 21, 1 ≤ fct k.1 ∧ fct k.1 < 10000000000000000000000 := by decide
theorem fct_le {k : Nat} (h : k ≤ 20) : 1 ≤ fct k ∧ fct k < 10000000000000000000000 := fct_bd ⟨k, by omega⟩
theorem fct_len {k : Nat} (h : k ≤ 20) : (nf (fct k)).length ≤ 3 := by
  have := fct_le h
  exact nf_len (by rw [show B ^ 3 = 1000000000000000000000000 from rfl]; omega) (by rw [show B ^ 3 = 1000000000000000000000000 from rfl]; omega)
def smz (l : List Int) : Nat → Int
  | 0 => 0
  | i + 1 => if 0 < i ∧ l.getD i 0 = l.getD (i - 1) 0 then smz l i + 1 else 1
def cz (l : List Int) : Nat → Int
  | 0 => 1
  | i + 1 => cz l i * (l.getD i 0 * smz l (i + 1))
theorem smz_bd (l : List Int) : ∀ i, 0 ≤ smz l i ∧ smz l i ≤ i := by
  intro i
  induction i with
  | zero => simp [smz]
  | succ i ih => simp only [smz]; split <;> omega
theorem smz_pos (l : List Int) (i : Nat) : 1 ≤ smz l (i + 1) := by
  have := smz_bd l i
  simp only [smz]; split <;> omega
theorem Part.getD {l : List Int} (h : Part l) {i : Nat} (hi : i < l.length) : 1 ≤ l.getD i 0 ∧ l.getD i 0 ≤ 20 := by
  have : l.getD i 0 = l[i] := by simp [List.getD_eq_getElem?_getD, List.getElem?_eq_getElem hi]
  rw [this]
  exact h.mem _ (List.getElem_mem hi)
theorem cz_bd {l : List Int} (h : Part l) : ∀ i, i ≤ l.length → 1 ≤ cz l i ∧ cz l i ≤ 400 ^ i := by
  intro i
  induction i with
  | zero => intro _; simp [cz]
  | succ i ih =>
    intro hi
    obtain ⟨h1, h2⟩ := ih (by omega)
    have hg := h.getD (i := i) (by omega)
    have hs := smz_bd l (i + 1)
    have hp := smz_pos l i
    have hl := h.len
    have a1 : 1 * 1 ≤ l.getD i 0 * smz l (i + 1) := Int.mul_le_mul hg.1 hp (by omega) (by omega)
    have a2 : l.getD i 0 * smz l (i + 1) ≤ 20 * 20 := Int.mul_le_mul hg.2 (by omega) (by omega) (by omega)
    simp only [cz]
    constructor
    · have := Int.mul_le_mul h1 (by omega : (1 : Int) ≤ l.getD i 0 * smz l (i + 1)) (by omega) (by omega)
      omega
    · rw [Int.pow_succ]
      exact Int.mul_le_mul h2 (by omega) (by omega) (Int.le_of_lt (Int.pow_pos (by omega)))
theorem cz_len {l : List Int} (h : Part l) {i : Nat} (hi : i ≤ l.length) : (nf (cz l i)).length ≤ 7 := by
  have := cz_bd h i hi
  have h2 : (400 : Int) ^ i ≤ 400 ^ 20 := by
    have h3 : (400 : Nat) ^ i ≤ 400 ^ 20 := Nat.pow_le_pow_right (by omega) (by have := h.len; omega)
    have := Int.ofNat_le.2 h3
    rwa [Int.natCast_pow, Int.natCast_pow] at this
  have h4 : (400 : Int) ^ 20 < B ^ 7 := by decide
  exact nf_len (by have := pow_pos 7; omega) (by omega)
end Go.Num
namespace Go.Abs
section
variable {P : Program}
inductive ArgAt (w : World) : Arg → Value → Prop
 | imm {v v' : Value} (h : ∀ m, VR m v v') : ArgAt w (.imm v) v'
 | li {l : List Value} {g o cap : Nat} {C : Array Value} {el : TypeId} {fr : Nat × Nat} (h : w.heap[g]? = some (.cells C el fr)) (hl : l.length ≤ cap) (hc : o + cap ≤ C.size) (hv : ∀ i v, l[i]? = some v → C[o + i]? = some v) (hp : ∀ v ∈ l, plain v = true) :
  ArgAt w (.li l) (.slice (some ⟨g, o, none⟩) l.length cap)
theorem args_at {w : World} : ∀ {ays : List Arg} {args' : List Value} (k : Nat), All2 (ArgAt w) ays args' →
  ∃ locs : List Loc, locs.length = (mkHeap k ays).length ∧ (∀ (i : Nat) (x : Blk) (l : Loc), (mkHeap k ays)[i]? = some x → locs[i]? = some l → x.owned = false ∧ l.g < w.heap.size ∧ ∀ m', BR m' w l x) ∧
    ∀ ms : Mp, (∀ i, i < locs.length → ms (k + i) = locs[i]?) → All2 (VR ms) (mkVals k ays) args' := by
 intro ays
 induction ays with
 | nil => intro args' k h; cases h; exact ⟨[], rfl, fun i x l hx => by simp [mkHeap] at hx, fun ms _ => .nil⟩
 | cons a ays ih =>
   intro args' k h
   cases h with
   | cons ha ht =>
     cases ha with
     | imm hv =>
       obtain ⟨locs, e1, e2, e3⟩ := ih k ht
       exact ⟨locs, e1, e2, fun ms hms => .cons (hv ms) (e3 ms hms)⟩
     | @li l g o cap C el fr hh hl hc hcell hp =>
       obtain ⟨locs, e1, e2, e3⟩ := ih (k + 1) ht
       refine ⟨⟨g, o, C.size⟩ :: locs, by simp [mkHeap, e1], fun i x y hx hy => ?_, fun ms hms => .cons ?_ (e3 ms fun i hi => ?_)⟩
       ·cases i with
        | zero =>
          simp [mkHeap] at hx hy
          subst hx; subst hy
          have hlt : g < w.heap.size := by
           apply Nat.lt_of_not_le
           intro hge
           rw [Array.getElem?_eq_none hge] at hh
           cases hh
          exact ⟨rfl, hlt, fun m' => ⟨C, el, fr, hh, rfl, (fun h => by cases h), fun i v hv => ⟨v, hcell i v hv, by
           have := VR.of_plain m' (hp v (List.mem_of_getElem? hv))
           cases this with
           | a h => cases h with
             | s h => exact h
             | agg h => have := hp _ (List.mem_of_getElem? hv); simp [plain] at this
           | tuple h => have := hp _ (List.mem_of_getElem? hv); simp [plain] at this⟩⟩⟩
        | succ i => exact e2 i x y (by simpa [mkHeap] using hx) (by simpa using hy)
       ·have h0 := hms 0 (by simp)
        simp at h0
        have := SR.slice (m := ms) k 0 l.length 1 cap ⟨g, o, C.size⟩ h0 hl (by simp; omega)
        exact .a (.s this)
       ·have := hms (i + 1) (by simp; omega)
        rw [show k + (i + 1) = k + 1 + i by omega] at this
        simpa using this
theorem rows_rel {w : World} {ays : List Arg} {args' : List Value} (h : All2 (ArgAt w) ays args') : ∃ m, Rel m (mkHeap 0 ays) w ∧ All2 (VR m) (mkVals 0 ays) args' ∧ ∀ g, ¬ Owned m (mkHeap 0 ays) g := by
 obtain ⟨locs, la, lb, lc⟩ := args_at 0 h
 refine ⟨fun b => locs[b]?, ?_, lc _ fun i hi => by simp, ?_⟩
 ·exact {
   len := fun b l hb => by have := lt_of_get hb; omega
   has := fun b x hx _ => by
    have := lt_of_get hx
    exact ⟨locs[b]'(by omega), List.getElem?_eq_getElem _⟩
   bnd := fun b l hb => by
    have := lt_of_get hb
    exact (lb b _ l (List.getElem?_eq_getElem (by omega)) hb).2.1
   blk := fun b x l hx hb => (lb b x l hx hb).2.2 _
   sep := fun b c x y l k _ hx hy hb hc ho => by have := (lb b x l hx hb).1; rw [this] at ho; cases ho }
 ·rintro g ⟨b, x, l, h1, h2, h3, _⟩
  have := (lb b x l h1 h2).1
  rw [this] at h3; cases h3
open Go.RowKit in
/-- A law over lists, from the evaluator's answer. -/
theorem law_args (hmix : P.follows .mixedOrders = true) {call : CallF} (hcall : CallOK P call) (hg : CallGrow call) {n f : Nat} {ays : List Arg} {H' : Heap} (h : evBody P call n (.func (.func f) #[] #[]) (mkVals 0 ays) (mkHeap 0 ays) = some (.bool true, H'))
  {w : World} {args : Array Value} (ha : All2 (ArgAt w) ays args.toList) : Calls P f args w fun e w' => e = .returned (.bool true) ∧ Below w.heap.size w w' := by
 obtain ⟨m, hR, hargs, hno⟩ := rows_rel ha
 have s3 := body_calls hmix hcall hg h hR hargs
 refine fun cs => ?_
 obtain ⟨e, w2, fr, ⟨m', v', rfl, s1, s2⟩, h2⟩ := s3 cs
 obtain rfl := s2.plain rfl
 exact ⟨_, _, fr, ⟨rfl, s1.keep.os, s1.keep.tape, s1.keep.output, s1.keep.size, fun k hk => s1.keep.block k hk (hno k)⟩, h2⟩
end
end Go.Abs
