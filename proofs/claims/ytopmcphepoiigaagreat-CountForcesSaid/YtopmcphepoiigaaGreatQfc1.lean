/- Of the law: texts of its proof, joined (part 1). -/
set_option linter.all false
namespace Go.Num
def B : Int := 100000000
def val : List Int → Int
  | [] => 0
  | x :: l => x + B * val l
theorem val_app (l m : List Int) : val (l ++ m) = val l + B ^ l.length * val m := by
  induction l with
  | nil => simp [val]
  | cons x l ih => simp only [List.cons_append, val, ih, List.length_cons, Int.pow_succ, Int.mul_add]; rw [Int.mul_comm (B ^ l.length) B, Int.mul_assoc]; omega
theorem val_snoc (l : List Int) (x : Int) : val (l ++ [x]) = val l + B ^ l.length * x := by rw [val_app]; simp [val]
theorem val_neg (l : List Int) : val (l.map (- ·)) = - val l := by
  induction l with
  | nil => rfl
  | cons x l ih => simp only [List.map_cons, val, ih]; rw [Int.mul_neg]; omega
def Dg (l : List Int) : Prop := ∀ x ∈ l, 0 ≤ x ∧ x < B
theorem Dg.tail {x : Int} {l : List Int} (h : Dg (x :: l)) : Dg l := fun y hy => h y (List.mem_cons_of_mem _ hy)
theorem Dg.head {x : Int} {l : List Int} (h : Dg (x :: l)) : 0 ≤ x ∧ x < B := h x (List.mem_cons_self ..)
theorem Dg.app {l m : List Int} (h : Dg l) (h' : Dg m) : Dg (l ++ m) := fun y hy => (List.mem_append.1 hy).elim (h y) (h' y)
theorem Dg.one {x : Int} (h : 0 ≤ x) (h' : x < B) : Dg [x] := fun y hy => by simp at hy; subst hy; exact ⟨h, h'⟩
theorem Dg.nil : Dg [] := fun y hy => by cases hy
theorem pow_pos (n : Nat) : 0 < B ^ n := Int.pow_pos (by decide)
theorem Dg.val {l : List Int} (h : Dg l) : 0 ≤ val l ∧ val l < B ^ l.length := by
  induction l with
  | nil => simp [Num.val]
  | cons x l ih =>
    have h1 := h.head
    have h2 := ih h.tail
    simp only [Num.val, List.length_cons, Int.pow_succ]
    unfold B at *
    omega
def trimL (l : List Int) : List Int := (l.reverse.dropWhile (· == 0)).reverse
theorem trimL_snoc (l : List Int) (x : Int) : trimL (l ++ [x]) = if x = 0 then trimL l else l ++ [x] := by
  unfold trimL
  rw [List.reverse_append, List.reverse_singleton, List.singleton_append, List.dropWhile_cons]
  by_cases h : x = 0 <;> simp [h]
theorem trimL_nil : trimL [] = [] := rfl
theorem trimL_cons (x : Int) (l : List Int) : trimL (x :: l) = if trimL l = [] then (if x = 0 then [] else [x]) else x :: trimL l := by
  have key : ∀ (m : List Int), ∀ l : List Int, l = m.reverse → trimL (x :: l) = if trimL l = [] then (if x = 0 then [] else [x]) else x :: trimL l := by
    intro m
    induction m with
    | nil =>
      intro l hl
      subst hl
      show trimL ([] ++ [x]) = _
      rw [trimL_snoc]; rfl
    | cons y m ih =>
      intro l hl
      rw [List.reverse_cons] at hl
      subst hl
      rw [← List.cons_append, trimL_snoc, trimL_snoc]
      by_cases h : y = 0
      · simp only [h, if_true]; exact ih _ rfl
      · simp [h]
  exact key l.reverse l (by simp)
def digsN (n : Nat) : List Int := if h : n = 0 then [] else ((n % 100000000 : Nat) : Int) :: digsN (n / 100000000)
termination_by n
decreasing_by omega
theorem digsN_zero : digsN 0 = [] := by unfold digsN; simp
theorem digsN_pos {n : Nat} (h : n ≠ 0) : digsN n = ((n % 100000000 : Nat) : Int) :: digsN (n / 100000000) := by rw [digsN]; simp [h]
theorem digsN_val : ∀ (f n : Nat), n < f → val (digsN n) = n ∧ Dg (digsN n) := by
  intro f
  induction f with
  | zero => intro n h; omega
  | succ f ih =>
    intro n hn
    by_cases h : n = 0
    · subst h; rw [digsN_zero]; exact ⟨rfl, Dg.nil⟩
    · rw [digsN_pos h]
      obtain ⟨h1, h2⟩ := ih (n / 100000000) (by omega)
      refine ⟨?_, ?_⟩
      · simp only [val, h1, B]; omega
      · intro y hy
        rcases List.mem_cons.1 hy with rfl | hy
        · unfold B; omega
        · exact h2 y hy
theorem digsN_dg (n : Nat) : Dg (digsN n) := (digsN_val (n + 1) n (by omega)).2
theorem trim_digs : ∀ {l : List Int}, Dg l → trimL l = digsN (val l).toNat := by
  intro l
  induction l with
  | nil => intro _; rw [trimL_nil]; simp [val, digsN_zero]
  | cons x l ih =>
    intro h
    have h1 := h.head
    have h2 := h.tail.val
    have ih := ih h.tail
    rw [trimL_cons, ih]
    simp only [val]
    unfold B at h1 ⊢
    by_cases hz : (val l).toNat = 0
    · rw [hz, digsN_zero, if_pos rfl]
      by_cases hx : x = 0
      · rw [if_pos hx]
        rw [show (x + 100000000 * val l).toNat = 0 from by omega, digsN_zero]
      · rw [if_neg hx, digsN_pos (by omega)]
        rw [show (x + 100000000 * val l).toNat / 100000000 = 0 from by omega, digsN_zero]
        congr 1; omega
    · have hne : digsN (val l).toNat ≠ [] := by rw [digsN_pos hz]; simp
      rw [if_neg hne, digsN_pos (n := (x + 100000000 * val l).toNat) (by omega)]
      rw [show (x + 100000000 * val l).toNat / 100000000 = (val l).toNat from by omega]
      congr 1; omega
def nf (z : Int) : List Int := if 0 ≤ z then digsN z.toNat else (digsN (-z).toNat).map (- ·)
theorem nf_val (z : Int) : val (nf z) = z := by
  unfold nf
  split
  · rw [(digsN_val (z.toNat + 1) _ (by omega)).1]; omega
  · rw [val_neg, (digsN_val ((-z).toNat + 1) _ (by omega)).1]; omega
theorem nf_pos {z : Int} (h : 0 ≤ z) : nf z = digsN z.toNat := if_pos h
theorem nf_neg {z : Int} (h : z < 0) : nf z = (digsN (-z).toNat).map (- ·) := if_neg (by omega)
theorem nf_zero : nf 0 = [] := by rw [nf_pos (by omega)]; exact digsN_zero
theorem nf_bound (z : Int) : ∀ x ∈ nf z, -B < x ∧ x < B := by
  unfold nf
  split
  · intro x hx
    have := (digsN_val (z.toNat + 1) _ (by omega)).2 x hx
    unfold B at *; omega
  · intro x hx
    obtain ⟨y, hy, rfl⟩ := List.mem_map.1 hx
    have := digsN_dg (-z).toNat y hy
    unfold B at *; omega
theorem digsN_len : ∀ (k n : Nat), n < 100000000 ^ k → (digsN n).length ≤ k := by
  intro k
  induction k with
  | zero => intro n h; simp at h; subst h; rw [digsN_zero]; simp
  | succ k ih =>
    intro n h
    by_cases hz : n = 0
    · subst hz; rw [digsN_zero]; simp
    · rw [digsN_pos hz, List.length_cons]
      have := ih (n / 100000000) (by rw [Nat.div_lt_iff_lt_mul (by omega)]; rw [Nat.pow_succ] at h; exact h)
      omega
theorem nf_nil {z : Int} : nf z = [] ↔ z = 0 := by
  constructor
  · intro h
    have := nf_val z
    rw [h] at this
    simp [val] at this
    omega
  · rintro rfl; exact nf_zero
theorem pow_succ' (n : Nat) : B ^ (n + 1) = 100000000 * B ^ n := by rw [Int.pow_succ, Int.mul_comm]; rfl
theorem lin_mul (p a b : Int) : p * a + 100000000 * p * b = p * (a + 100000000 * b) := by rw [Int.mul_add, ← Int.mul_assoc p 100000000 b, Int.mul_comm p 100000000]
theorem norm_step {out t : List Int} {x c : Int} {i : Nat} (hi : out.length = i) (h : val out + B ^ i * c = val t) (ht : t.length = i) : val (out ++ [(x % 100000000 + c) % 100000000]) + B ^ (i + 1) * (x / 100000000 + (x % 100000000 + c) / 100000000) = val (t ++ [x]) := by
  rw [val_snoc, val_snoc, hi, ht, pow_succ', ← h]
  have e : (x % 100000000 + c) % 100000000 + 100000000 * (x / 100000000 + (x % 100000000 + c) / 100000000) = x + c := by omega
  have e2 : B ^ i * ((x % 100000000 + c) % 100000000) + 100000000 * B ^ i * (x / 100000000 + (x % 100000000 + c) / 100000000) = B ^ i * x + B ^ i * c := by
    rw [lin_mul, e, Int.mul_add]
  omega
theorem carry_step {out : List Int} {c : Int} (v : Int) (h : val out + B ^ out.length * c = v) : val (out ++ [c % 100000000]) + B ^ (out ++ [c % 100000000]).length * (c / 100000000) = v := by
  rw [val_snoc, List.length_append, List.length_singleton, pow_succ', ← h]
  have e2 : B ^ out.length * (c % 100000000) + 100000000 * B ^ out.length * (c / 100000000) = B ^ out.length * c := by
    rw [lin_mul]; congr 1; omega
  omega
theorem compl_step {sz t : List Int} {b o b2 : Int} {i : Nat} (hs : sz.length = i) (ht : t.length = i) (h : val sz = b * B ^ i - val t) : val (sz ++ [-o - b + 100000000 * b2]) = b2 * B ^ (i + 1) - val (t ++ [o]) := by
  rw [val_snoc, val_snoc, hs, ht, h, pow_succ', Int.mul_add, Int.mul_sub, Int.mul_neg]
  have e1 : B ^ i * (100000000 * b2) = b2 * (100000000 * B ^ i) := by rw [Int.mul_left_comm, Int.mul_comm b2, Int.mul_assoc]
  have e2 : b * B ^ i = B ^ i * b := Int.mul_comm _ _
  omega
theorem nf_of_digs {l : List Int} (h : Dg l) {z : Int} (hz : val l = z) : trimL l = nf z := by
  have h0 := h.val
  rw [trim_digs h, hz, nf_pos (by omega)]
theorem nf_neg' (z : Int) : (nf z).map (- ·) = nf (-z) := by
  by_cases h : 0 ≤ z
  · by_cases h0 : z = 0
    · subst h0; rw [show (-0 : Int) = 0 from rfl, nf_zero]; rfl
    · rw [nf_pos h, nf_neg (by omega)]; rw [Int.neg_neg]
  · rw [nf_neg (by omega), nf_pos (by omega)]
    rw [List.map_map]
    have : ((fun x : Int => -x) ∘ fun x => -x) = id := by funext x; simp
    rw [this, List.map_id]
theorem nf_len {z : Int} {k : Nat} (h1 : -(B ^ k) < z) (h2 : z < B ^ k) : (nf z).length ≤ k := by
  have e : ((100000000 ^ k : Nat) : Int) = B ^ k := by rw [Int.natCast_pow]; rfl
  unfold nf
  split
  · exact digsN_len k _ (by rw [← e] at h2; omega)
  · rw [List.length_map]; exact digsN_len k _ (by rw [← e] at h1; omega)
theorem nf_abs (z : Int) : (if z < 0 then (nf z).map (- ·) else nf z) = nf (z.natAbs : Int) := by
  split
  · rw [nf_neg']; congr 1; omega
  · congr 1; omega
theorem drop_getD {l : List Int} {i : Nat} (h : i < l.length) : l.drop i = l.getD i 0 :: l.drop (i + 1) := by
  rw [List.drop_eq_getElem_cons h]
  simp [List.getD_eq_getElem?_getD, List.getElem?_eq_getElem h]
theorem Dg.take {l : List Int} (h : Dg l) (i : Nat) : Dg (l.take i) := fun x hx => h x (List.mem_of_mem_take hx)
theorem Dg.drop {l : List Int} (h : Dg l) (i : Nat) : Dg (l.drop i) := fun x hx => h x (List.mem_of_mem_drop hx)
theorem Dg.getD {l : List Int} (h : Dg l) (i : Nat) : 0 ≤ l.getD i 0 ∧ l.getD i 0 < 100000000 := by
  by_cases hi : i < l.length
  · have := h _ (List.getElem_mem hi)
    rw [List.getD_eq_getElem?_getD, List.getElem?_eq_getElem hi]
    exact this
  · rw [List.getD_eq_getElem?_getD, List.getElem?_eq_none (by omega)]; simp
theorem Dg.set {l : List Int} (h : Dg l) (i : Nat) {z : Int} (h0 : 0 ≤ z) (h1 : z < 100000000) : Dg (l.set i z) := fun x hx => by
  rcases List.mem_or_eq_of_mem_set hx with hx | rfl
  · exact h x hx
  · exact ⟨h0, h1⟩
end Go.Num
namespace Go.Num
def bad (p : Option Int) (x : Int) : Option Int := if x < 1 then some 2 else if 20 < x then some 2 else match p with
  | some q => if q < x then some 9 else none
  | none => none
def chkGo : Option Int → List Int → Option Int
  | _, [] => none
  | p, x :: r => match bad p x with
    | some e => some e
    | none => chkGo (some x) r
def chk (l : List Int) : Int := if 20 < l.length then 8 else match chkGo none l with
  | some e => e
  | none => if 20 < l.sum then 8 else 0
theorem bad_none {p : Option Int} {x : Int} (h : bad p x = none) : 1 ≤ x ∧ x ≤ 20 ∧ ∀ q, p = some q → x ≤ q := by
  unfold bad at h
  split at h
  · cases h
  · split at h
    · cases h
    · refine ⟨by omega, by omega, fun q hq => ?_⟩
      subst hq
      simp only at h
      split at h
      · cases h
      · omega
theorem chkGo_none : ∀ {l : List Int} {p : Option Int}, chkGo p l = none → ∀ x ∈ l, 1 ≤ x ∧ x ≤ 20 := by
  intro l
  induction l with
  | nil => intro p _ x hx; cases hx
  | cons y l ih =>
    intro p h x hx
    unfold chkGo at h
    split at h
    · cases h
    · rename_i hb
      rcases List.mem_cons.1 hx with rfl | hx
      · have := bad_none hb; exact ⟨this.1, this.2.1⟩
      · exact ih h x hx
def prv (l : List Int) : Nat → Option Int
  | 0 => none
  | j + 1 => some (l.getD j 0)
theorem chkGo_at {l : List Int} {i : Nat} (h : i < l.length) : chkGo (prv l i) (l.drop i) = match bad (prv l i) (l.getD i 0) with | some e => some e | none => chkGo (prv l (i + 1)) (l.drop (i + 1)) := by
  rw [drop_getD h, chkGo]; rfl
theorem chkGo_desc : ∀ {l : List Int} {p : Option Int}, chkGo p l = none → l.Pairwise (fun a b => b ≤ a) ∧ ∀ q, p = some q → ∀ x ∈ l, x ≤ q := by
  intro l
  induction l with
  | nil => intro p _; exact ⟨.nil, fun _ _ _ hx => by cases hx⟩
  | cons y l ih =>
    intro p h
    unfold chkGo at h
    split at h
    · cases h
    · rename_i hb
      obtain ⟨h1, h2⟩ := ih h
      have hy := bad_none hb
      refine ⟨.cons (fun x hx => h2 y rfl x hx) h1, fun q hq x hx => ?_⟩
      rcases List.mem_cons.1 hx with rfl | hx
      · exact hy.2.2 q hq
      · exact Int.le_trans (h2 y rfl x hx) (hy.2.2 q hq)
structure Part (l : List Int) : Prop where
  len : l.length ≤ 20
  mem : ∀ x ∈ l, 1 ≤ x ∧ x ≤ 20
  desc : l.Pairwise (fun a b => b ≤ a)
  sum : l.sum ≤ 20
theorem chk_part {l : List Int} (h : chk l = 0) : Part l := by
  unfold chk at h
  split at h
  · cases h
  · split at h
    · rename_i e he
      subst h
      exfalso
      have : ∀ (l : List Int) (p : Option Int), chkGo p l ≠ some 0 := by
        intro l
        induction l with
        | nil => intro p h; cases h
        | cons x l ih =>
          intro p h
          unfold chkGo at h
          split at h
          · rename_i e hb
            injection h with h
            subst h
            unfold bad at hb
            split at hb
            · cases hb
            · split at hb
              · cases hb
              · split at hb
                · split at hb <;> cases hb
                · cases hb
          · exact ih _ h
      exact this l none he
    · rename_i hg
      split at h
      · cases h
      · exact ⟨by omega, chkGo_none hg, (chkGo_desc hg).1, by omega⟩
theorem sum_take_succ {l : List Int} {i : Nat} (h : i < l.length) : (l.take (i + 1)).sum = (l.take i).sum + l.getD i 0 := by
  have e : l.take (i + 1) = l.take i ++ [l.getD i 0] := by
    rw [List.take_succ, List.getD_eq_getElem?_getD]
    simp [List.getElem?_eq_getElem h]
  rw [e, List.sum_append]; simp
theorem sum_bd {l : List Int} {b : Int} (hb : 0 ≤ b) (h : ∀ x ∈ l, -b ≤ x ∧ x ≤ b) : -(b * l.length) ≤ l.sum ∧ l.sum ≤ b * l.length := by
  induction l with
  | nil => simp
  | cons x l ih =>
    have h1 := h x (List.mem_cons_self ..)
    have h2 := ih fun y hy => h y (List.mem_cons_of_mem _ hy)
    rw [List.sum_cons, List.length_cons, show ((l.length + 1 : Nat) : Int) = (l.length : Int) + 1 from rfl, Int.mul_add, Int.mul_one]
    omega
end Go.Num
namespace Go.Num
theorem nf_small {z : Int} (h0 : 0 < z) (h1 : z < 100000000) : nf z = [z] := by
  rw [nf_pos (by omega), digsN_pos (by omega), show z.toNat / 100000000 = 0 from by omega, digsN_zero, show z.toNat % 100000000 = z.toNat from by omega]
  congr 1
  omega
theorem Part.getD {l : List Int} (h : Part l) {i : Nat} (hi : i < l.length) : 1 ≤ l.getD i 0 ∧ l.getD i 0 ≤ 20 := by
  have : l.getD i 0 = l[i] := by simp [List.getD_eq_getElem?_getD, List.getElem?_eq_getElem hi]
  rw [this]
  exact h.mem _ (List.getElem_mem hi)
end Go.Num
namespace Go.Num
def OkL (q : List Int) : Prop := (∀ r, r < q.length → 0 ≤ q.getD r 0) ∧ ∀ r, r + 1 < q.length → q.getD (r + 1) 0 ≤ q.getD r 0
noncomputable instance okL_dec (q : List Int) : Decidable (OkL q) := Classical.propDecidable _
end Go.Num
namespace Go.Num
theorem sum_nonneg {l : List Int} (h : ∀ x ∈ l, 0 ≤ x) : 0 ≤ l.sum := by
  induction l with
  | nil => simp
  | cons x l ih =>
    have h1 := h x (List.mem_cons_self ..)
    have h2 := ih fun y hy => h y (List.mem_cons_of_mem _ hy)
    rw [List.sum_cons]; omega
end Go.Num
