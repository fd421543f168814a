/- The number of primitive surfaces. -/
import Derived.Test.YtmmgdgmjkhcfaaaSyQ
set_option linter.all false
namespace Go.Proofs.Ytmmgdgmjkhcfaaa
open Go Go.Abs Go.Num
set_option maxRecDepth 10000
attribute [local congr] bindO_congr bindF_congr bindX_congr condX_congr iteB_congr binS_congr pickS_congr eqB_congr nilS_congr clsW_congr
/- Plain mathematics. -/
theorem tmodN (a b : Nat) : ((a : Int)).tmod (b : Int) = ((a % b : Nat) : Int) := by rw [tmod_pos (by omega)]; exact (Int.natCast_emod a b).symm
theorem tdivN (a b : Nat) : ((a : Int)).tdiv (b : Int) = ((a / b : Nat) : Int) := by rw [tdiv_pos (by omega)]; exact (Int.natCast_ediv a b).symm
/-- q divides N, and none of 2, .., k + 1 divides q. -/
def pb (N q : Nat) : Nat → Bool
  | 0 => decide (N % q = 0)
  | k + 1 => pb N q k && !decide (q % (k + 2) = 0)
theorem pb_true {N q : Nat} : ∀ {k : Nat}, pb N q k = true ↔ N % q = 0 ∧ ∀ d, 2 ≤ d → d < k + 2 → q % d ≠ 0 := by
  intro k
  induction k with
  | zero => simp [pb]; intro _ d h1 h2; omega
  | succ k ih =>
    simp only [pb, Bool.and_eq_true, ih, Bool.not_eq_true', decide_eq_false_iff_not]
    constructor
    · intro ⟨⟨h1, h2⟩, h3⟩
      refine ⟨h1, fun d hd hk => ?_⟩
      by_cases e : d = k + 2
      · subst e; exact h3
      · exact h2 d hd (by omega)
    · intro ⟨h1, h2⟩
      exact ⟨⟨h1, fun d hd hk => h2 d hd (by omega)⟩, h2 (k + 2) (by omega) (by omega)⟩
def Pr (q : Nat) : Prop := ∀ d, 2 ≤ d → d < q → q % d ≠ 0
def fx (x : Int) (q : Nat) : Int := x / ((q : Int) * q) * ((q : Int) * q - 1)
theorem fx_le {x : Int} (h : 0 ≤ x) {q : Nat} (hq : 2 ≤ q) : 0 ≤ fx x q ∧ fx x q ≤ x := by
  unfold fx
  have hq2 : 4 ≤ (q : Int) * q := by
    have : 2 * 2 ≤ q * q := Nat.mul_le_mul hq hq
    have e : ((q * q : Nat) : Int) = (q : Int) * q := Int.natCast_mul q q
    omega
  have h1 := Int.ediv_nonneg h (by omega : 0 ≤ (q : Int) * q)
  have h2 := Int.ediv_mul_le x (by omega : (q : Int) * q ≠ 0)
  rw [Int.mul_sub, Int.mul_one]
  have h3 : x / ((q : Int) * q) ≤ x / ((q : Int) * q) * ((q : Int) * q) := by
    have := Int.mul_le_mul_of_nonneg_left (by omega : (1 : Int) ≤ (q : Int) * q) h1
    rw [Int.mul_one] at this; exact this
  omega
/-- What is left of x after the candidates 2, .., k + 1. -/
def rx (N : Nat) : Nat → Int
  | 0 => 3 * ((N : Int) - 2) * N * N
  | k + 1 => if pb N (k + 2) k then fx (rx N k) (k + 2) else rx N k
theorem rx_bd {N : Nat} (h1 : 2 ≤ N) (h2 : N ≤ 1000) : ∀ k, 0 ≤ rx N k ∧ rx N k ≤ 3000000000 := by
  intro k
  induction k with
  | zero =>
    simp only [rx]
    have a1 : 0 ≤ 3 * ((N : Int) - 2) := by omega
    have a2 : 3 * ((N : Int) - 2) ≤ 2994 := by omega
    have b1 := Int.mul_nonneg a1 (by omega : 0 ≤ (N : Int))
    have b2 := Int.mul_le_mul a2 (by omega : (N : Int) ≤ 1000) (by omega) (by omega)
    have c1 := Int.mul_nonneg b1 (by omega : 0 ≤ (N : Int))
    have c2 := Int.mul_le_mul b2 (by omega : (N : Int) ≤ 1000) (by omega) (by omega)
    omega
  | succ k ih =>
    simp only [rx]
    split
    · have := fx_le ih.1 (by omega : 2 ≤ k + 2)
      omega
    · exact ih
theorem pr_coprime {p q : Nat} (hp : Pr p) (h : q < p) (hq : 1 ≤ q) : Nat.Coprime p q := by
  have hg : Nat.gcd p q ∣ p := Nat.gcd_dvd_left ..
  have hg2 : Nat.gcd p q ∣ q := Nat.gcd_dvd_right ..
  have hle := Nat.le_of_dvd hq hg2
  have hpos := Nat.gcd_pos_of_pos_right p hq
  show Nat.gcd p q = 1
  apply Decidable.byContradiction
  intro hne
  exact hp (Nat.gcd p q) (by omega) (by omega) (Nat.mod_eq_zero_of_dvd hg)
/-- How the loop of the program stands at the candidate q: 'r' is what is left of N. -/
structure At (N r q : Nat) : Prop where
  pos : 1 ≤ r
  dvd : r ∣ N
  no : ∀ d, 2 ≤ d → d < q → r % d ≠ 0
  all : ∀ p, q ≤ p → Pr p → p ∣ N → p ∣ r
theorem At.hit {N r q : Nat} (h : At N r q) (hq : 2 ≤ q) : r % q = 0 ↔ pb N q (q - 2) = true := by
  rw [pb_true, show q - 2 + 2 = q from by omega]
  constructor
  · intro h0
    have hd := Nat.dvd_of_mod_eq_zero h0
    refine ⟨Nat.mod_eq_zero_of_dvd (Nat.dvd_trans hd h.dvd), fun d h1 h2 h3 => h.no d h1 h2 (Nat.mod_eq_zero_of_dvd (Nat.dvd_trans (Nat.dvd_of_mod_eq_zero h3) hd))⟩
  · intro ⟨h1, h2⟩
    exact Nat.mod_eq_zero_of_dvd (h.all q (Nat.le_refl _) h2 (Nat.dvd_of_mod_eq_zero h1))
theorem At.skip {N r q : Nat} (h : At N r q) (hr : r % q ≠ 0) : At N r (q + 1) := by
  refine ⟨h.pos, h.dvd, fun d h1 h2 => ?_, fun p h1 h2 h3 => h.all p (by omega) h2 h3⟩
  by_cases e : d = q
  · subst e; exact hr
  · exact h.no d h1 (by omega)
/-- While the candidate q is divided out. -/
structure Mid (N r q : Nat) : Prop where
  pos : 1 ≤ r
  dvd : r ∣ N
  no : ∀ d, 2 ≤ d → d < q → r % d ≠ 0
  all : ∀ p, q < p → Pr p → p ∣ N → p ∣ r
theorem At.mid {N r q : Nat} (h : At N r q) : Mid N r q := ⟨h.pos, h.dvd, h.no, fun p h1 h2 h3 => h.all p (by omega) h2 h3⟩
theorem Mid.step {N r q : Nat} (h : Mid N r q) (hq : 2 ≤ q) (hr : r % q = 0) : Mid N (r / q) q ∧ r / q < r := by
  have hd := Nat.dvd_of_mod_eq_zero hr
  have e : r / q * q = r := Nat.div_mul_cancel hd
  have hp : 1 ≤ r / q := Nat.div_pos (Nat.le_of_dvd h.pos hd) (by omega)
  have hdr : r / q ∣ r := ⟨q, e.symm⟩
  refine ⟨⟨hp, Nat.dvd_trans hdr h.dvd, fun d h1 h2 h3 => h.no d h1 h2 (Nat.mod_eq_zero_of_dvd (Nat.dvd_trans (Nat.dvd_of_mod_eq_zero h3) hdr)), fun p h1 h2 h3 => ?_⟩, ?_⟩
  · have := h.all p h1 h2 h3
    rw [← e] at this
    exact Nat.Coprime.dvd_of_dvd_mul_right (pr_coprime h2 h1 (by omega)) this
  · exact Nat.div_lt_self h.pos (by omega)
theorem Mid.done {N r q : Nat} (h : Mid N r q) (hr : r % q ≠ 0) : At N r (q + 1) := by
  refine ⟨h.pos, h.dvd, fun d h1 h2 => ?_, fun p h1 h2 h3 => h.all p (by omega) h2 h3⟩
  by_cases e : d = q
  · subst e; exact hr
  · exact h.no d h1 (by omega)
/-- Behind the end of the program's loop nothing changes. -/
theorem At.last {N r q : Nat} (h : At N r q) (hq : r < q) (h2 : 2 ≤ q) : ∀ m, rx N (q - 2 + m) = rx N (q - 2) := by
  intro m
  induction m with
  | zero => rfl
  | succ m ih =>
    rw [show q - 2 + (m + 1) = q - 2 + m + 1 from rfl, rx]
    have hn : pb N (q - 2 + m + 2) (q - 2 + m) = false := by
      rw [← Bool.not_eq_true, pb_true]
      intro ⟨e1, e2⟩
      have := Nat.le_of_dvd h.pos (h.all (q - 2 + m + 2) (by omega) e2 (Nat.dvd_of_mod_eq_zero e1))
      omega
    rw [hn, if_neg (by simp), ih]
/- The program's loops. -/
noncomputable def prA : Code := atC [1, 1, 1, 0, 1, 0, 0] ((Try.f30.body).getD .skip)
noncomputable def prB : Code := atC [1, 1, 1, 0, 1, 0, 0, 1, 0, 0, 1, 1, 0, 0] ((Try.f30.body).getD .skip)
theorem pri_inner {N q : Nat} (hN : N ≤ 1000) (hq : 2 ≤ q) (hq2 : q ≤ 1000) (call : CallF) (m nt : Nat) {a : Fr} {H : Heap} {k r : Nat} (hm : Mid N r q) (hr : r ≤ 1000) (hk : r < k) {v4 : Value} (i4 : a 4 = v4) (i5 : a 5 = vi (r : Nat)) (i6 : a 6 = vi (q : Nat)) :
    ∃ x a' H', loopN (evS Try.prog call m nt none prB) k a H = some (x, a', H') ∧ x = .exit 2 ∧ H' = H ∧ a' 4 = v4 ∧ a' 6 = vi (q : Nat) ∧ ∃ r', a' 5 = vi (r' : Nat) ∧ r' ≤ 1000 ∧ At N r' (q + 1) := by
  refine loop_wf (fun r a H' => H' = H ∧ a 4 = v4 ∧ a 5 = vi (r : Nat) ∧ a 6 = vi (q : Nat) ∧ r ≤ 1000 ∧ Mid N r q) _ ?_ k r a H hk ⟨rfl, i4, i5, i6, hr, hm⟩
  intro r a H' ⟨hH, i4, i5, i6, hr, hm⟩
  subst hH
  rw [show prB = atC [1, 1, 1, 0, 1, 0, 0, 1, 0, 0, 1, 1, 0, 0] ((Try.f30.body).getD .skip) from rfl]
  have hq0 : (q : Int) ≠ 0 := by omega
  have e0 := tmodN r q
  by_cases h0 : r % q = 0
  · left
    obtain ⟨hm2, hlt⟩ := hm.step hq h0
    have c1 : ((r % q : Nat) : Int) = 0 := by omega
    have e1 := tdivN r q
    have hlt2 : r / q ≤ 1000 := Nat.le_of_lt (Nat.lt_of_lt_of_le hlt hr)
    have e2 : IntKind.i64.wrap ((r / q : Nat) : Int) = ((r / q : Nat) : Int) := wr64 (Int.le_trans (by decide) (Int.natCast_nonneg _)) (Int.le_trans (Int.ofNat_le.2 hlt2) (by decide))
    simp (disch := omega) only [Try.f30, Option.getD_some, atC, es_seq, es_region, es_cond, es_block, es_skip, ops_nil, ops_cons, st_move, st_assign, sy_bin, binS_eql, binS_quo, binS_rem, bindO_some, bindF_some, bindX_normal, blkX_normal, condX_true, ev_tmp, ev_const, putA, upd_at, ↓reduceIte, Nat.reduceEqDiff, decide_true, ↓bindO_some, ↓bindF_some, ↓bindX_normal, ↓condX_true, i5, i6, e0, c1, e1, e2]
    exact ⟨_, _, rfl, r / q, hlt, rfl, by simp only [upd_at, ↓reduceIte, Nat.reduceEqDiff, i4], by simp only [upd_at, ↓reduceIte], by simp only [upd_at, ↓reduceIte, Nat.reduceEqDiff, i6], hlt2, hm2⟩
  · right
    have c1 : ¬ ((r % q : Nat) : Int) = 0 := by omega
    simp (disch := omega) only [Try.f30, Option.getD_some, atC, es_seq, es_region, es_cond, es_exit, ops_nil, ops_cons, st_move, sy_bin, binS_eql, binS_rem, bindO_some, bindF_some, bindX_normal, bindX_exit, condX_false, ev_tmp, ev_const, putA, upd_at, ↓reduceIte, Nat.reduceEqDiff, decide_false, ↓bindO_some, ↓bindF_some, ↓bindX_normal, ↓bindX_exit, ↓condX_false, i5, i6, e0, c1]
    exact ⟨_, _, _, rfl, by simp, rfl, rfl, by simp only [upd_at, ↓reduceIte, Nat.reduceEqDiff, i4], by simp only [upd_at, ↓reduceIte, Nat.reduceEqDiff, i6], r, by simp only [upd_at, ↓reduceIte, Nat.reduceEqDiff, i5], hr, hm.done h0⟩
theorem pri_outer {N : Nat} (hN : N ≤ 1000) (hN2 : 2 ≤ N) (call : CallF) (m nt : Nat) (hm : 1001 ≤ m) {a : Fr} {H : Heap} {k : Nat} (hk : 1000 < k) (i4 : a 4 = vi (rx N 0)) (i5 : a 5 = vi (N : Nat)) (i6 : a 6 = vi 2) :
    ∃ x a' H', loopN (evS Try.prog call m nt none prA) k a H = some (x, a', H') ∧ x = .exit 0 ∧ H' = H ∧ a' 4 = vi (rx N (N - 1)) := by
  refine loop_wf (fun j a H' => H' = H ∧ ∃ q r, j = 1002 - q ∧ 2 ≤ q ∧ q ≤ 1001 ∧ q ≤ N + 1 ∧ r ≤ N ∧ a 4 = vi (rx N (q - 2)) ∧ a 5 = vi (r : Nat) ∧ a 6 = vi (q : Nat) ∧ At N r q) _ ?_ k 1000 a H hk ⟨rfl, 2, N, rfl, by omega, by omega, by omega, Nat.le_refl _, i4, i5, i6, ⟨by omega, Nat.dvd_refl _, fun d h1 h2 => by omega, fun p _ _ h => h⟩⟩
  intro j a H' ⟨hH, q, r, hj, hq, hq2, hq3, hrN, i4, i5, i6, hat⟩
  subst hH
  rw [show prA = atC [1, 1, 1, 0, 1, 0, 0] ((Try.f30.body).getD .skip) from rfl]
  have hq0 : (q : Int) ≠ 0 := by omega
  have hx := rx_bd hN2 hN (q - 2)
  by_cases hlt : q ≤ r
  · left
    have c1 : (q : Int) ≤ (r : Int) := by omega
    have e0 := tmodN r q
    have e3 : IntKind.i64.wrap ((q : Int) + 1) = ((q + 1 : Nat) : Int) := by rw [wr64 (by omega) (by omega)]; rfl
    have erx : rx N (q + 1 - 2) = if pb N q (q - 2) then fx (rx N (q - 2)) q else rx N (q - 2) := by
      rw [show q + 1 - 2 = q - 2 + 1 from by omega, rx, show q - 2 + 2 = q from by omega]
    by_cases h0 : r % q = 0
    · have c2 : ((r % q : Nat) : Int) = 0 := by omega
      have hqq : (q : Int) * q ≤ 1001 * 1001 := Int.mul_le_mul (by omega : (q : Int) ≤ 1001) (by omega : (q : Int) ≤ 1001) (by omega) (by omega)
      have hqq0 : 2 * 2 ≤ (q : Int) * q := Int.mul_le_mul (by omega : (2 : Int) ≤ q) (by omega : (2 : Int) ≤ q) (by omega) (by omega)
      have e1 : IntKind.i64.wrap ((q : Int) * q) = (q : Int) * q := wr64 (by omega) (by omega)
      have e2 : (rx N (q - 2)).tdiv ((q : Int) * q) = rx N (q - 2) / ((q : Int) * q) := tdiv_pos hx.1 _
      have hd0 := Int.ediv_nonneg hx.1 (by omega : 0 ≤ (q : Int) * q)
      have hd1 := Int.ediv_le_self ((q : Int) * q) hx.1
      have e4 : IntKind.i64.wrap (rx N (q - 2) / ((q : Int) * q)) = rx N (q - 2) / ((q : Int) * q) := wr64 (by omega) (by omega)
      have e5 : IntKind.i64.wrap ((q : Int) * q - 1) = (q : Int) * q - 1 := wr64 (by omega) (by omega)
      have hf := fx_le hx.1 hq
      have e6 : IntKind.i64.wrap (rx N (q - 2) / ((q : Int) * q) * ((q : Int) * q - 1)) = fx (rx N (q - 2)) q := wr64 (by unfold fx at hf; omega) (by unfold fx at hf; omega)
      have hqq1 : (q : Int) * q ≠ 0 := by omega
      have key := fun (A : Fr) => pri_inner (N := N) (q := q) (r := r) hN hq (by omega) call m nt (a := A) (H := H') (k := m) (v4 := vi (fx (rx N (q - 2)) q)) hat.mid (by omega) (by omega)
      rw [show prB = atC [1, 1, 1, 0, 1, 0, 0, 1, 0, 0, 1, 1, 0, 0] ((Try.f30.body).getD .skip) from rfl] at key
      simp only [Try.f30, Option.getD_some, atC] at key
      simp (disch := omega) only [Try.f30, Option.getD_some, atC, es_seq, es_region, es_cond, es_block, es_loop, es_skip, ops_nil, ops_cons, st_move, st_assign, sy_bin, binS_leq, binS_neq, binS_sub, binS_mul, binS_quo, binS_rem, bindO_some, bindF_some, bindX_normal, condX_true, condX_false, ev_tmp, ev_const, putA, upd_at, ↓reduceIte, Nat.reduceEqDiff, decide_true, Bool.not_true, ↓bindO_some, ↓bindF_some, ↓bindX_normal, ↓condX_true, ↓condX_false, i4, i5, i6, c1, e0, c2, e1, e2, e4, e5, e6]
      generalize hA : upd _ 4 _ = A
      obtain ⟨x, a', H2, e, hx', hH2, g4, g6, r', g5, hr', hat'⟩ := key A (by subst hA; rfl) (by subst hA; exact i5) (by subst hA; exact i6)
      subst hx'
      rw [e]
      subst hH2
      simp (disch := omega) only [binS_add, bindO_some, bindF_some, bindX_normal, blkX_normal, blkX_exit, ↓reduceIte, ↓bindO_some, ↓bindF_some, ↓bindX_normal, g6, e3]
      refine ⟨_, _, rfl, 1001 - q, by omega, rfl, q + 1, r', by omega, by omega, by omega, by omega, Nat.le_of_dvd (by omega) hat'.dvd, ?_, by simp only [upd_at, ↓reduceIte, Nat.reduceEqDiff, g5], by simp only [upd_at, ↓reduceIte], hat'⟩
      rw [erx, if_pos ((hat.hit hq).1 h0)]
      simp only [upd_at, ↓reduceIte, Nat.reduceEqDiff, g4]
    · have c2 : ¬ ((r % q : Nat) : Int) = 0 := by omega
      simp (disch := omega) only [Try.f30, Option.getD_some, atC, es_seq, es_region, es_cond, es_block, es_skip, es_exit, ops_nil, ops_cons, st_move, st_assign, sy_bin, binS_leq, binS_neq, binS_add, binS_rem, bindO_some, bindF_some, bindX_normal, bindX_exit, blkX_exit, condX_true, ev_tmp, ev_const, putA, upd_at, ↓reduceIte, Nat.reduceEqDiff, decide_true, decide_false, Bool.not_false, ↓bindO_some, ↓bindF_some, ↓bindX_normal, ↓bindX_exit, ↓condX_true, i5, i6, c1, e0, c2, e3]
      refine ⟨_, _, rfl, 1001 - q, by omega, rfl, q + 1, r, by omega, by omega, by omega, by omega, hrN, ?_, by simp only [upd_at, ↓reduceIte, Nat.reduceEqDiff, i5], by simp only [upd_at, ↓reduceIte], hat.skip h0⟩
      rw [erx, if_neg (fun h => h0 ((hat.hit hq).2 h))]
      simp only [upd_at, ↓reduceIte, Nat.reduceEqDiff, i4]
  · right
    have c1 : ¬ (q : Int) ≤ (r : Int) := by omega
    simp (disch := omega) only [Try.f30, Option.getD_some, atC, es_seq, es_region, es_cond, es_exit, ops_nil, ops_cons, st_move, sy_bin, binS_leq, bindO_some, bindF_some, bindX_normal, bindX_exit, condX_false, ev_tmp, putA, upd_at, ↓reduceIte, Nat.reduceEqDiff, decide_false, ↓bindO_some, ↓bindF_some, ↓bindX_normal, ↓bindX_exit, ↓condX_false, i5, i6, c1]
    refine ⟨_, _, _, rfl, by simp, rfl, rfl, ?_⟩
    simp only [upd_at, ↓reduceIte, Nat.reduceEqDiff, i4]
    have := hat.last (by omega) hq (N - 1 - (q - 2))
    rw [show q - 2 + (N - 1 - (q - 2)) = N - 1 from by omega] at this
    rw [this]
def priE (z : Int) : Int := if z < 2 ∨ 1000 < z then 2 else 0
def priL (z : Int) : List Int := if z < 2 ∨ 1000 < z then [] else nf (rx z.toNat (z.toNat - 1) / 8)
/-- A list of the call's own inside a tuple. -/
def OneT (H : Heap) (r : Option (Value × Heap)) (f : Value → Value) (l : List Int) : Prop := ∃ v H', r = some (f v, H') ∧ O H.length H' v (ints l) ∧ Old H.length H H' ∧ WF H'
theorem pri_start {N : Nat} (h1 : 2 ≤ N) (h2 : N ≤ 1000) : IntKind.i64.wrap ((N : Int) - 2) = (N : Int) - 2 ∧ IntKind.i64.wrap (3 * ((N : Int) - 2)) = 3 * ((N : Int) - 2) ∧ IntKind.i64.wrap (3 * ((N : Int) - 2) * N) = 3 * ((N : Int) - 2) * N ∧ IntKind.i64.wrap (3 * ((N : Int) - 2) * N * N) = rx N 0 := by
  have a1 : 0 ≤ 3 * ((N : Int) - 2) := by omega
  have a2 : 3 * ((N : Int) - 2) ≤ 2994 := by omega
  have b1 := Int.mul_nonneg a1 (by omega : 0 ≤ (N : Int))
  have b2 := Int.mul_le_mul a2 (by omega : (N : Int) ≤ 1000) (by omega) (by omega)
  have c := rx_bd h1 h2 0
  have e : rx N 0 = 3 * ((N : Int) - 2) * N * N := rfl
  refine ⟨wr64 (by omega) (by omega), wr64 (by omega) (by omega), wr64 (by omega) (by omega), ?_⟩
  rw [e] at c
  rw [e]
  exact wr64 (by omega) (by omega)
theorem prim_run {H : Heap} {z : Int} (hw : WF H) (n : Nat) (hn : 2010 ≤ n) :
    OneT H (evB Try.prog noC n (.func (.func 30) #[] #[]) [vi z] H) (fun v => .tuple #[v, vi (priE z)]) (priL z) := by
  refine run_of (F := 2009) (Q := fun r => OneT H r (fun v => .tuple #[v, vi (priE z)]) (priL z)) (fun n hn => ?_) n hn
  rw [body_runS Try.func30 rfl (ok_fn (by rfl) Try.func30 rfl) (Nat.le_of_ble_eq_true rfl) (D := D0) (by kernel_rfl)]
  by_cases hz : z < 2 ∨ 1000 < z
  · rw [show priE z = 2 from if_pos hz, show priL z = [] from if_pos hz]
    by_cases h1 : z < 2
    · simp (disch := omega) only [Try.f30, es_seq, es_region, es_cond, es_ret, ops_nil, ops_cons, ops_consG, st_move, st_assign, sy_pick, pickS_true, sy_bin, binS_lss, bindO_some, bindF_some, bindX_normal, bindX_ret, condX_true, iteB_false, ev_tmp, ev_const, putA, upd_at, Option.map_some, ↓reduceIte, Nat.reduceEqDiff, frOf_0, decide_true, Bool.not_true, yieldO_eq, yO, yV_bool, some_false, List.getElem?_cons_zero, List.getElem?_cons_succ, ↓bindO_some, ↓bindF_some, ↓bindX_normal, ↓bindX_ret, ↓condX_true, ↓iteB_false, fin_r, res_nil, res_tmp, pack_2, scal_vi, scal_nil, h1]
      exact ⟨_, _, rfl, O.nil _ _, Old.refl _ _, hw⟩
    · have h2 : 1000 < z := hz.resolve_left h1
      simp (disch := omega) only [Try.f30, es_seq, es_region, es_cond, es_ret, ops_nil, ops_cons, ops_consG, st_move, st_assign, sy_pick, pickS_false, sy_bin, binS_lss, binS_gtr, bindO_some, bindF_some, bindX_normal, bindX_ret, condX_true, iteB_true, ev_tmp, ev_const, putA, upd_at, Option.map_some, ↓reduceIte, Nat.reduceEqDiff, frOf_0, decide_true, decide_false, yieldO_eq, yO, yV_bool, List.getElem?_cons_zero, List.getElem?_cons_succ, beq_self_eq_true, ↓bindO_some, ↓bindF_some, ↓bindX_normal, ↓bindX_ret, ↓condX_true, ↓iteB_true, fin_r, res_nil, res_tmp, pack_2, scal_vi, scal_nil, h1, h2]
      exact ⟨_, _, rfl, O.nil _ _, Old.refl _ _, hw⟩
  · rw [show priE z = 0 from if_neg hz, show priL z = _ from if_neg hz]
    have h1 : ¬ z < 2 := fun h => hz (.inl h)
    have h2 : ¬ 1000 < z := fun h => hz (.inr h)
    obtain ⟨N, rfl⟩ : ∃ N : Nat, z = (N : Int) := ⟨z.toNat, by omega⟩
    rw [Int.toNat_natCast]
    have hN1 : 2 ≤ N := by omega
    have hN2 : N ≤ 1000 := by omega
    obtain ⟨w1, w2, w3, w4⟩ := pri_start hN1 hN2
    have hb := rx_bd hN1 hN2 (N - 1)
    have key := fun (A : Fr) => pri_outer hN2 hN1 (evB Try.prog noC n) n Try.f30.ntmps (by omega) (a := A) (H := H) (k := n) (by omega)
    rw [show prA = atC [1, 1, 1, 0, 1, 0, 0] ((Try.f30.body).getD .skip) from rfl] at key
    simp only [Try.f30, Option.getD_some, atC] at key
    simp (disch := omega) only [Try.f30, es_seq, es_region, es_cond, es_block, es_loop, es_skip, es_ret, ops_nil, ops_cons, ops_consG, st_move, st_assign, sy_pick, pickS_false, st_fun, sy_bin, binS_lss, binS_gtr, binS_sub, binS_mul, bindO_some, bindF_some, bindX_normal, condX_false, iteB_true, ev_tmp, ev_const, ev_func, putA, upd_at, ↓reduceIte, Nat.reduceEqDiff, frOf_0, List.map_cons, List.map_nil, decide_false, yieldO_eq, yO, yV_bool, List.getElem?_cons_zero, List.getElem?_cons_succ, beq_self_eq_true, ↓bindO_some, ↓bindF_some, ↓bindX_normal, ↓condX_false, ↓iteB_true, h1, h2, w1, w2, w3, w4]
    generalize hA : upd _ 6 _ = A
    obtain ⟨x, a', H', e, hx, hH, i4⟩ := key A (by subst hA; rfl) (by subst hA; rfl) (by subst hA; rfl)
    subst hx
    rw [e]
    subst hH
    have e1 : (rx N (N - 1)).tdiv 8 = rx N (N - 1) / 8 := tdiv_pos hb.1 _
    have e2 : IntKind.i64.wrap (rx N (N - 1) / 8) = rx N (N - 1) / 8 := wr64 (by omega) (by omega)
    obtain ⟨v, H2, s2, o2, old2, wf2⟩ := of_run (z := rx N (N - 1) / 8) hw (by omega) (by omega) n (by omega)
    have h8 : (8 : Int) ≠ 0 := by omega
    simp (disch := omega) only [binS_quo, bindO_some, bindF_some, bindX_normal, blkX_exit, upd_at, Option.map_some, ↓reduceIte, Nat.reduceEqDiff, ↓bindO_some, ↓bindF_some, ↓bindX_normal, fin_r, res_nil, res_tmp, pack_2, scal_vi, i4, e1, e2, s2, o2.R.scal]
    exact ⟨_, _, rfl, o2, old2, wf2⟩
noncomputable def rpA : Code := atC [1, 1, 1, 0, 1, 0, 0] ((Try.f31.body).getD .skip)
noncomputable def rpB : Code := atC [1, 1, 1, 0, 1, 0, 0, 1, 0, 0, 1, 0, 1, 0, 0] ((Try.f31.body).getD .skip)
theorem rpr_inner {N q : Nat} (hq : 2 ≤ q) (hq2 : q ≤ 1000) (call : CallF) (m nt : Nat) {a : Fr} {H : Heap} {k : Nat} (hk : 1000 < k) {v0 v4 : Value} (i0 : a 0 = v0) (i4 : a 4 = v4) (i5 : a 5 = vi (q : Nat)) (i6 : a 6 = .bool (pb N q 0)) (i7 : a 7 = vi 2) :
    ∃ x a' H', loopN (evS Try.prog call m nt none rpB) k a H = some (x, a', H') ∧ x = .exit 2 ∧ H' = H ∧ a' 0 = v0 ∧ a' 4 = v4 ∧ a' 5 = vi (q : Nat) ∧ a' 6 = .bool (pb N q (q - 2)) := by
  refine loop_up (q - 2) (fun i a H' => H' = H ∧ a 0 = v0 ∧ a 4 = v4 ∧ a 5 = vi (q : Nat) ∧ a 6 = .bool (pb N q i) ∧ a 7 = vi ((i + 2 : Nat) : Int)) _ ?_ ?_ (by omega) ⟨rfl, i0, i4, i5, i6, i7⟩
  · intro i a H' hi ⟨hH, i0, i4, i5, i6, i7⟩
    subst hH
    left
    rw [show rpB = atC [1, 1, 1, 0, 1, 0, 0, 1, 0, 0, 1, 0, 1, 0, 0] ((Try.f31.body).getD .skip) from rfl]
    have c1 : ((i + 2 : Nat) : Int) < (q : Int) := by omega
    have hn0 : ((i + 2 : Nat) : Int) ≠ 0 := by omega
    have e0 := tmodN q (i + 2)
    have e1 : IntKind.i64.wrap (((i + 2 : Nat) : Int) + 1) = ((i + 1 + 2 : Nat) : Int) := by rw [wr64 (by omega) (by omega)]; omega
    cases hp : pb N q i with
    | true =>
      rw [hp] at i6
      have hd : pb N q (i + 1) = !decide (((q % (i + 2) : Nat) : Int) = 0) := by
        rw [pb, hp, Bool.true_and]
        congr 1
        exact decide_eq_decide.2 ⟨fun h => by omega, fun h => by omega⟩
      simp (disch := omega) only [Try.f31, Option.getD_some, atC, es_seq, es_region, es_cond, es_block, es_skip, ops_nil, ops_cons, ops_consG, st_move, st_assign, sy_pick, pickS_true, sy_bin, binS_lss, binS_neq, binS_add, binS_rem, bindO_some, bindF_some, bindX_normal, blkX_normal, condX_true, iteB_true, ev_tmp, ev_const, putA, upd_at, ↓reduceIte, Nat.reduceEqDiff, decide_true, yieldO_eq, yO, yV_bool, List.getElem?_cons_zero, List.getElem?_cons_succ, beq_self_eq_true, ↓bindO_some, ↓bindF_some, ↓bindX_normal, ↓condX_true, ↓iteB_true, i5, i6, i7, c1, e0, e1]
      exact ⟨_, _, rfl, rfl, by simp only [upd_at, ↓reduceIte, Nat.reduceEqDiff, i0], by simp only [upd_at, ↓reduceIte, Nat.reduceEqDiff, i4], by simp only [upd_at, ↓reduceIte, Nat.reduceEqDiff, i5], by simp only [upd_at, ↓reduceIte, Nat.reduceEqDiff, hd], by simp only [upd_at, ↓reduceIte]⟩
    | false =>
      rw [hp] at i6
      have hd : pb N q (i + 1) = false := by rw [pb, hp, Bool.false_and]
      simp (disch := omega) only [Try.f31, Option.getD_some, atC, es_seq, es_region, es_cond, es_block, es_skip, ops_nil, ops_cons, ops_consG, st_move, st_assign, sy_pick, pickS_false, sy_bin, binS_lss, binS_add, bindO_some, bindF_some, bindX_normal, blkX_normal, condX_true, iteB_false, ev_tmp, ev_const, putA, upd_at, ↓reduceIte, Nat.reduceEqDiff, decide_true, yieldO_eq, yO, yV_bool, some_true, List.getElem?_cons_zero, List.getElem?_cons_succ, ↓bindO_some, ↓bindF_some, ↓bindX_normal, ↓condX_true, ↓iteB_false, i5, i6, i7, c1, e1]
      exact ⟨_, _, rfl, rfl, by simp only [upd_at, ↓reduceIte, Nat.reduceEqDiff, i0], by simp only [upd_at, ↓reduceIte, Nat.reduceEqDiff, i4], by simp only [upd_at, ↓reduceIte, Nat.reduceEqDiff, i5], by simp only [upd_at, ↓reduceIte, Nat.reduceEqDiff, hd], by simp only [upd_at, ↓reduceIte]⟩
  · intro a H' ⟨hH, i0, i4, i5, i6, i7⟩
    subst hH
    rw [show rpB = atC [1, 1, 1, 0, 1, 0, 0, 1, 0, 0, 1, 0, 1, 0, 0] ((Try.f31.body).getD .skip) from rfl]
    have c1 : ¬ ((q - 2 + 2 : Nat) : Int) < (q : Int) := by omega
    simp (disch := omega) only [Try.f31, Option.getD_some, atC, es_seq, es_region, es_cond, es_exit, ops_nil, ops_cons, st_move, sy_bin, binS_lss, bindO_some, bindF_some, bindX_normal, bindX_exit, condX_false, ev_tmp, putA, upd_at, ↓reduceIte, Nat.reduceEqDiff, decide_false, ↓bindO_some, ↓bindF_some, ↓bindX_normal, ↓bindX_exit, ↓condX_false, i5, i7, c1]
    exact ⟨_, _, _, rfl, by simp, rfl, rfl, by simp only [upd_at, ↓reduceIte, Nat.reduceEqDiff, i0], by simp only [upd_at, ↓reduceIte, Nat.reduceEqDiff, i4], by simp only [upd_at, ↓reduceIte, Nat.reduceEqDiff, i5], by simp only [upd_at, ↓reduceIte, Nat.reduceEqDiff, i6]⟩
theorem rpr_outer {N : Nat} (hN : N ≤ 1000) (hN2 : 2 ≤ N) (call : CallF) (m nt : Nat) (hm : 1001 ≤ m) {a : Fr} {H : Heap} {k : Nat} (hk : 1000 < k) (i0 : a 0 = vi (N : Nat)) (i4 : a 4 = vi (rx N 0)) (i5 : a 5 = vi 2) :
    ∃ x a' H', loopN (evS Try.prog call m nt none rpA) k a H = some (x, a', H') ∧ x = .exit 0 ∧ H' = H ∧ a' 4 = vi (rx N (N - 1)) := by
  refine loop_up (N - 1) (fun i a H' => H' = H ∧ a 0 = vi (N : Nat) ∧ a 4 = vi (rx N i) ∧ a 5 = vi ((i + 2 : Nat) : Int)) _ ?_ ?_ (by omega) ⟨rfl, i0, i4, i5⟩
  · intro i a H' hi ⟨hH, i0, i4, i5⟩
    subst hH
    left
    rw [show rpA = atC [1, 1, 1, 0, 1, 0, 0] ((Try.f31.body).getD .skip) from rfl]
    obtain ⟨q, hq⟩ : ∃ q, q = i + 2 := ⟨_, rfl⟩
    rw [← hq] at i5
    have hx := rx_bd hN2 hN i
    have c1 : (q : Int) ≤ (N : Int) := by omega
    have hn0 : (q : Int) ≠ 0 := by omega
    have e0 := tmodN N q
    have hp0 : decide (((N % q : Nat) : Int) = 0) = pb N q 0 := by
      rw [pb]; exact decide_eq_decide.2 ⟨fun h => by omega, fun h => by omega⟩
    have e3 : IntKind.i64.wrap ((q : Int) + 1) = ((i + 1 + 2 : Nat) : Int) := by rw [wr64 (by omega) (by omega)]; omega
    have key := fun (A : Fr) => rpr_inner (N := N) (q := q) (by omega) (by omega) call m nt (a := A) (H := H') (k := m) (v0 := vi (N : Nat)) (v4 := vi (rx N i)) (by omega)
    rw [show rpB = atC [1, 1, 1, 0, 1, 0, 0, 1, 0, 0, 1, 0, 1, 0, 0] ((Try.f31.body).getD .skip) from rfl] at key
    simp only [Try.f31, Option.getD_some, atC] at key
    simp (disch := omega) only [Try.f31, Option.getD_some, atC, es_seq, es_region, es_cond, es_block, es_loop, es_skip, ops_nil, ops_cons, st_move, st_assign, sy_bin, binS_leq, binS_eql, binS_rem, bindO_some, bindF_some, bindX_normal, condX_true, ev_tmp, ev_const, putA, upd_at, ↓reduceIte, Nat.reduceEqDiff, decide_true, ↓bindO_some, ↓bindF_some, ↓bindX_normal, ↓condX_true, i0, i5, c1, e0, hp0]
    generalize hA : upd _ 7 _ = A
    obtain ⟨x, a', H2, e, hx', hH2, g0, g4, g5, g6⟩ := key A (by subst hA; exact i0) (by subst hA; exact i4) (by subst hA; exact i5) (by subst hA; rfl) (by subst hA; rfl)
    subst hx'
    rw [e]
    subst hH2
    have erx : rx N (i + 1) = if pb N q (q - 2) then fx (rx N i) q else rx N i := by
      rw [rx, hq, show i + 2 - 2 = i from by omega]
    cases hp : pb N q (q - 2) with
    | true =>
      rw [hp] at g6
      rw [hp, if_pos rfl] at erx
      have hqq : (q : Int) * q ≤ 1001 * 1001 := Int.mul_le_mul (by omega : (q : Int) ≤ 1001) (by omega : (q : Int) ≤ 1001) (by omega) (by omega)
      have hqq0 : 2 * 2 ≤ (q : Int) * q := Int.mul_le_mul (by omega : (2 : Int) ≤ q) (by omega : (2 : Int) ≤ q) (by omega) (by omega)
      have e1 : IntKind.i64.wrap ((q : Int) * q) = (q : Int) * q := wr64 (by omega) (by omega)
      have e2 : (rx N i).tdiv ((q : Int) * q) = rx N i / ((q : Int) * q) := tdiv_pos hx.1 _
      have hd0 := Int.ediv_nonneg hx.1 (by omega : 0 ≤ (q : Int) * q)
      have hd1 := Int.ediv_le_self ((q : Int) * q) hx.1
      have e4 : IntKind.i64.wrap (rx N i / ((q : Int) * q)) = rx N i / ((q : Int) * q) := wr64 (by omega) (by omega)
      have e5 : IntKind.i64.wrap ((q : Int) * q - 1) = (q : Int) * q - 1 := wr64 (by omega) (by omega)
      have hf := fx_le hx.1 (by omega : 2 ≤ q)
      have e6 : IntKind.i64.wrap (rx N i / ((q : Int) * q) * ((q : Int) * q - 1)) = fx (rx N i) q := wr64 (by unfold fx at hf; omega) (by unfold fx at hf; omega)
      have hqq1 : (q : Int) * q ≠ 0 := by omega
      simp (disch := omega) only [binS_add, binS_sub, binS_mul, binS_quo, bindO_some, bindF_some, bindX_normal, blkX_normal, blkX_exit, condX_true, upd_at, ↓reduceIte, Nat.reduceEqDiff, ↓bindO_some, ↓bindF_some, ↓bindX_normal, ↓condX_true, g4, g5, g6, e1, e2, e4, e5, e6, e3]
      refine ⟨_, _, rfl, rfl, by simp only [upd_at, ↓reduceIte, Nat.reduceEqDiff, g0], ?_, by simp only [upd_at, ↓reduceIte]⟩
      rw [erx]
      simp only [upd_at, ↓reduceIte, Nat.reduceEqDiff]
    | false =>
      rw [hp] at g6
      rw [hp, if_neg (by simp)] at erx
      simp (disch := omega) only [binS_add, bindO_some, bindF_some, bindX_normal, blkX_normal, blkX_exit, condX_false, upd_at, ↓reduceIte, Nat.reduceEqDiff, ↓bindO_some, ↓bindF_some, ↓bindX_normal, ↓condX_false, g5, g6, e3]
      refine ⟨_, _, rfl, rfl, by simp only [upd_at, ↓reduceIte, Nat.reduceEqDiff, g0], ?_, by simp only [upd_at, ↓reduceIte]⟩
      rw [erx]
      simp only [upd_at, ↓reduceIte, Nat.reduceEqDiff, g4]
  · intro a H' ⟨hH, i0, i4, i5⟩
    subst hH
    rw [show rpA = atC [1, 1, 1, 0, 1, 0, 0] ((Try.f31.body).getD .skip) from rfl]
    have c1 : ¬ ((N - 1 + 2 : Nat) : Int) ≤ (N : Int) := by omega
    simp (disch := omega) only [Try.f31, Option.getD_some, atC, es_seq, es_region, es_cond, es_exit, ops_nil, ops_cons, st_move, sy_bin, binS_leq, bindO_some, bindF_some, bindX_normal, bindX_exit, condX_false, ev_tmp, putA, upd_at, ↓reduceIte, Nat.reduceEqDiff, decide_false, ↓bindO_some, ↓bindF_some, ↓bindX_normal, ↓bindX_exit, ↓condX_false, i0, i5, c1]
    exact ⟨_, _, _, rfl, by simp, rfl, rfl, by simp only [upd_at, ↓reduceIte, Nat.reduceEqDiff, i4]⟩
theorem rprim_run {H : Heap} {z : Int} (hw : WF H) (n : Nat) (hn : 2010 ≤ n) :
    OneT H (evB Try.prog noC n (.func (.func 31) #[] #[]) [vi z] H) (fun v => .tuple #[v, vi (priE z)]) (priL z) := by
  refine run_of (F := 2009) (Q := fun r => OneT H r (fun v => .tuple #[v, vi (priE z)]) (priL z)) (fun n hn => ?_) n hn
  rw [body_runS Try.func31 rfl (ok_fn (by rfl) Try.func31 rfl) (Nat.le_of_ble_eq_true rfl) (D := D0) (by kernel_rfl)]
  have s0 := within_runS z 2 1000 H n (by omega)
  by_cases hz : z < 2 ∨ 1000 < z
  · rw [show priE z = 2 from if_pos hz, show priL z = [] from if_pos hz]
    have hb : (decide (2 ≤ z) && decide (z ≤ 1000)) = false := by rw [Bool.and_eq_false_iff]; rcases hz with h | h <;> simp <;> omega
    rw [hb] at s0
    simp (disch := omega) only [Try.f31, es_seq, es_region, es_cond, es_ret, ops_nil, ops_cons, st_move, st_assign, st_fun, st_not, bindO_some, bindF_some, bindX_normal, bindX_ret, condX_true, ev_tmp, ev_const, ev_func, putA, upd_at, Option.map_some, ↓reduceIte, Nat.reduceEqDiff, frOf_0, List.map_cons, List.map_nil, Bool.not_false, ↓bindO_some, ↓bindF_some, ↓bindX_normal, ↓bindX_ret, ↓condX_true, fin_r, res_nil, res_tmp, pack_2, scal_vi, scal_nil, s0]
    exact ⟨_, _, rfl, O.nil _ _, Old.refl _ _, hw⟩
  · rw [show priE z = 0 from if_neg hz, show priL z = _ from if_neg hz]
    have h1 : ¬ z < 2 := fun h => hz (.inl h)
    have h2 : ¬ 1000 < z := fun h => hz (.inr h)
    have hb : (decide (2 ≤ z) && decide (z ≤ 1000)) = true := by simp; omega
    rw [hb] at s0
    obtain ⟨N, rfl⟩ : ∃ N : Nat, z = (N : Int) := ⟨z.toNat, by omega⟩
    rw [Int.toNat_natCast]
    have hN1 : 2 ≤ N := by omega
    have hN2 : N ≤ 1000 := by omega
    obtain ⟨w1, w2, w3, w4⟩ := pri_start hN1 hN2
    have hb := rx_bd hN1 hN2 (N - 1)
    have key := fun (A : Fr) => rpr_outer hN2 hN1 (evB Try.prog noC n) n Try.f31.ntmps (by omega) (a := A) (H := H) (k := n) (by omega)
    rw [show rpA = atC [1, 1, 1, 0, 1, 0, 0] ((Try.f31.body).getD .skip) from rfl] at key
    simp only [Try.f31, Option.getD_some, atC] at key
    simp (disch := omega) only [Try.f31, es_seq, es_region, es_cond, es_block, es_loop, es_skip, es_ret, ops_nil, ops_cons, st_move, st_assign, st_fun, sy_bin, st_not, sy_build1 eL oI, binS_sub, binS_mul, bindO_some, bindF_some, bindX_normal, condX_false, ev_tmp, ev_const, ev_func, putA, upd_at, ↓reduceIte, Nat.reduceEqDiff, frOf_0, List.map_cons, List.map_nil, Bool.not_true, ↓bindO_some, ↓bindF_some, ↓bindX_normal, ↓condX_false, s0, w1, w2, w3, w4]
    generalize hA : upd _ 5 _ = A
    obtain ⟨x, a', H', e, hx, hH, i4⟩ := key A (by subst hA; rfl) (by subst hA; rfl) (by subst hA; rfl)
    subst hx
    rw [e]
    subst hH
    have e1 : (rx N (N - 1)).tdiv 8 = rx N (N - 1) / 8 := tdiv_pos hb.1 _
    have e2 : IntKind.i64.wrap (rx N (N - 1) / 8) = rx N (N - 1) / 8 := wr64 (by omega) (by omega)
    have old1 := Old.app H' [.cells H'.length true [vi (rx N (N - 1) / 8)]]
    have wf1 := hw.app (Nat.le_refl H'.length) (o := true) (cs := [vi (rx N (N - 1) / 8)])
    have r1 := R.push (H := H') (f := H'.length) (c := vi (rx N (N - 1) / 8))
    obtain ⟨v, H2, s2, o2, old2, wf2⟩ := NumV.norm (NumV.one (z := rx N (N - 1) / 8) r1 (by omega) (by omega)) wf1 n (by omega)
    have h8 : (8 : Int) ≠ 0 := by omega
    simp (disch := omega) only [binS_quo, bindO_some, bindF_some, bindX_normal, blkX_exit, upd_at, Option.map_some, ↓reduceIte, Nat.reduceEqDiff, ↓bindO_some, ↓bindF_some, ↓bindX_normal, fin_r, res_nil, res_tmp, pack_2, scal_vi, i4, e1, e2, s2, o2.R.scal]
    exact ⟨_, _, rfl, o2.below old1.1, old1.trans (old2.mono old1.1), wf2⟩
end Go.Proofs.Ytmmgdgmjkhcfaaa
