/- Dimensions: plain laws. -/
import Derived.Test.YtmmgdgmjkhcfaaaSyY
set_option linter.all false
namespace Go.Num
def prodL (l : List Int) : Int := l.foldl (· * ·) 1
theorem prodL_snoc (l : List Int) (x : Int) : prodL (l ++ [x]) = prodL l * x := by unfold prodL; rw [List.foldl_append]; rfl
theorem prodL_bd {l : List Int} (h : ∀ x ∈ l, 1 ≤ x ∧ x ≤ 40) : 1 ≤ prodL l ∧ prodL l ≤ 40 ^ l.length := by
  have key : ∀ (l : List Int) (a : Int) (k : Nat), (∀ x ∈ l, 1 ≤ x ∧ x ≤ 40) → 1 ≤ a → a ≤ 40 ^ k → 1 ≤ l.foldl (· * ·) a ∧ l.foldl (· * ·) a ≤ 40 ^ (k + l.length) := by
    intro l
    induction l with
    | nil => intro a k _ h1 h2; exact ⟨h1, h2⟩
    | cons x l ih =>
      intro a k h h1 h2
      have hx := h x (List.mem_cons_self ..)
      have m1 := Int.mul_le_mul h1 hx.1 (by omega) (by omega)
      have m2 : a * x ≤ 40 ^ k * 40 := Int.mul_le_mul h2 hx.2 (by omega) (Int.le_of_lt (Int.pow_pos (by omega)))
      rw [← Int.pow_succ] at m2
      have := ih (a * x) (k + 1) (fun y hy => h y (List.mem_cons_of_mem _ hy)) (by omega) m2
      rw [List.foldl_cons, List.length_cons, show k + (l.length + 1) = k + 1 + l.length from by omega]
      exact this
  have := key l 1 0 h (by omega) (by omega)
  rw [Nat.zero_add] at this
  exact this
theorem pow40_len {x : Int} {k : Nat} (h0 : 0 ≤ x) (h1 : x ≤ 40 ^ k) (hk : k ≤ 20) : (nf x).length ≤ 21 := by
  have h2 : (40 : Int) ^ k ≤ 40 ^ 20 := by
    have h3 : (40 : Nat) ^ k ≤ 40 ^ 20 := Nat.pow_le_pow_right (by omega) hk
    have := Int.ofNat_le.2 h3
    rwa [Int.natCast_pow, Int.natCast_pow] at this
  have h4 : (40 : Int) ^ 20 < B ^ 21 := by decide
  exact nf_len (by have := pow_pos 21; omega) (by omega)
theorem sum_nonneg {l : List Int} (h : ∀ x ∈ l, 0 ≤ x) : 0 ≤ l.sum := by
  induction l with
  | nil => simp
  | cons x l ih =>
    have h1 := h x (List.mem_cons_self ..)
    have h2 := ih fun y hy => h y (List.mem_cons_of_mem _ hy)
    rw [List.sum_cons]; omega
theorem take_sum_le {l : List Int} (h : ∀ x ∈ l, 0 ≤ x) (i : Nat) : 0 ≤ (l.take i).sum ∧ (l.take i).sum ≤ l.sum := by
  have e : l.sum = (l.take i).sum + (l.drop i).sum := by rw [← List.sum_append, List.take_append_drop]
  have h1 := sum_nonneg fun x (hx : x ∈ l.take i) => h x (List.mem_of_mem_take hx)
  have h2 := sum_nonneg fun x (hx : x ∈ l.drop i) => h x (List.mem_of_mem_drop hx)
  omega
theorem hookRow_len (l : List Int) (i : Nat) : (hookRow l i).length = (l.getD i 0).toNat := by unfold hookRow; simp
theorem hooksL_len (l : List Int) : (hooksL l).length = l.length := by unfold hooksL; simp
theorem hooksL_get {l : List Int} {i : Nat} (h : i < l.length) : (hooksL l).getD i [] = hookRow l i := by
  unfold hooksL
  rw [List.getD_eq_getElem?_getD, List.getElem?_map, List.getElem?_range h]; rfl
theorem hooks_take {l : List Int} {i : Nat} (h : i < l.length) : (hooksL l).take (i + 1) = (hooksL l).take i ++ [hookRow l i] := by
  have hl : i < (hooksL l).length := by rw [hooksL_len]; exact h
  have e := hooksL_get h
  rw [List.getD_eq_getElem?_getD, List.getElem?_eq_getElem hl] at e
  simp only [Option.getD_some] at e
  rw [List.take_succ, List.getElem?_eq_getElem hl, e]; rfl
theorem hookRow_mem {l : List Int} (hp : Part l) {i : Nat} (hi : i < l.length) : ∀ x ∈ hookRow l i, 1 ≤ x ∧ x ≤ 40 := by
  intro x hx
  unfold hookRow at hx
  obtain ⟨j, hj, rfl⟩ := List.mem_map.1 hx
  have := hk_bd hp hi (List.mem_range.1 hj)
  exact this.2.2.2
/-- The hooks of the first i rows. -/
def hkT (l : List Int) (i : Nat) : List Int := ((hooksL l).take i).flatten
theorem hkT_succ {l : List Int} {i : Nat} (h : i < l.length) : hkT l (i + 1) = hkT l i ++ hookRow l i := by
  unfold hkT
  rw [hooks_take h, List.flatten_append]; simp
theorem hkT_len {l : List Int} (hp : Part l) : ∀ i, i ≤ l.length → ((hkT l i).length : Int) = (l.take i).sum := by
  intro i
  induction i with
  | zero => intro _; simp [hkT]
  | succ i ih =>
    intro hi
    have := hp.getD (i := i) (by omega)
    rw [hkT_succ (by omega), List.length_append, hookRow_len, sum_take_succ (by omega), ← ih (by omega)]
    omega
theorem hkT_mem {l : List Int} (hp : Part l) : ∀ i, i ≤ l.length → ∀ x ∈ hkT l i, 1 ≤ x ∧ x ≤ 40 := by
  intro i
  induction i with
  | zero => intro _ x hx; simp [hkT] at hx
  | succ i ih =>
    intro hi x hx
    rw [hkT_succ (by omega)] at hx
    rcases List.mem_append.1 hx with hx | hx
    · exact ih (by omega) x hx
    · exact hookRow_mem hp (by omega) x hx
/-- The product so far. -/
theorem dim_bd {l : List Int} (hp : Part l) {i j : Nat} (hi : i < l.length) (hj : j ≤ (hookRow l i).length) : 1 ≤ prodL (hkT l i ++ (hookRow l i).take j) ∧ (nf (prodL (hkT l i ++ (hookRow l i).take j))).length ≤ 21 := by
  have hm : ∀ x ∈ hkT l i ++ (hookRow l i).take j, 1 ≤ x ∧ x ≤ 40 := by
    intro x hx
    rcases List.mem_append.1 hx with hx | hx
    · exact hkT_mem hp i (by omega) x hx
    · exact hookRow_mem hp hi x (List.mem_of_mem_take hx)
  have hb := prodL_bd hm
  have h1 := hkT_len hp i (by omega)
  have h2 := sum_take_succ hi
  have h3 := take_sum_le (fun x hx => by have := hp.mem x hx; omega) (i + 1)
  have hs := hp.sum
  have hg := hp.getD hi
  rw [hookRow_len] at hj
  have hlen : (hkT l i ++ (hookRow l i).take j).length ≤ 20 := by
    rw [List.length_append, List.length_take, hookRow_len]; omega
  exact ⟨hb.1, pow40_len (by omega) hb.2 hlen⟩
/-- The dimension. -/
def dimZ (l : List Int) : Int := fct l.sum.toNat / prodL (hkT l l.length)
theorem dimT_bd {l : List Int} (hp : Part l) : 1 ≤ prodL (hkT l l.length) ∧ (nf (prodL (hkT l l.length))).length ≤ 21 := by
  have hb := prodL_bd (hkT_mem hp l.length (Nat.le_refl _))
  have h1 := hkT_len hp l.length (Nat.le_refl _)
  rw [List.take_length] at h1
  have hs := hp.sum
  exact ⟨hb.1, pow40_len (by omega) hb.2 (by omega)⟩
end Go.Num
