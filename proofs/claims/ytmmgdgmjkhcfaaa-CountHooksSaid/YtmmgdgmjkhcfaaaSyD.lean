/- Integers of the reference: products, comparison. -/
import Derived.Test.YtmmgdgmjkhcfaaaSyC
set_option linter.all false
namespace Go.Proofs.Ytmmgdgmjkhcfaaa
open Go Go.Abs Go.Num
set_option maxRecDepth 10000
attribute [local congr] bindO_congr bindF_congr bindX_congr condX_congr iteB_congr binS_congr pickS_congr
theorem zeros_I : ∀ n : Nat, zeros Try.prog 3 1 n = some (ints (List.replicate n 0)) := by
  have h : ∀ n : Nat, repl n [vi 0] = ints (List.replicate n 0) := by
    intro n
    induction n with
    | zero => rfl
    | succ n ih => rw [repl, ih, List.replicate_succ]; rfl
  intro n
  have e : zeros Try.prog 3 1 n = some (repl n [vi 0]) := by
    have h0 : zeroT Try.prog 3 = some (vi 0) := by kernel_rfl
    unfold zeros
    rw [h0]
    rfl
  rw [e, h]
theorem val_zeros (n : Nat) : val (List.replicate n 0) = 0 := by
  induction n with
  | zero => rfl
  | succ n ih => rw [List.replicate_succ]; simp [val, ih]
noncomputable def mulA : Code := atC [1, 1, 1, 0, 1, 0, 0] ((Try.f68.body).getD .skip)
noncomputable def mulB : Code := atC [1, 1, 1, 0, 1, 0, 0, 1, 0, 0, 1, 0, 1, 0, 0] ((Try.f68.body).getD .skip)
theorem prod_bd {a b : Int} (ha : -100000000 < a ∧ a < 100000000) (hb : -100000000 < b ∧ b < 100000000) : -10000000000000000 ≤ a * b ∧ a * b ≤ 10000000000000000 := by
  have h1 : a.natAbs ≤ 100000000 := by omega
  have h2 : b.natAbs ≤ 100000000 := by omega
  have h3 : a.natAbs * b.natAbs ≤ 100000000 * 100000000 := Nat.mul_le_mul h1 h2
  have h4 : (a * b).natAbs = a.natAbs * b.natAbs := Int.natAbs_mul a b
  omega
theorem mul_inner {H0 : Heap} {vx vy vr : Value} {x y : Int} {i : Nat} {row0 : List Int} (hx : R H0 vx (ints (nf x))) (hy : R H0 vy (ints (nf y))) (hi : i < (nf x).length) (lx : (nf x).length ≤ 400) (ly : (nf y).length ≤ 400)
    {B0 : Nat} {H : Heap} (hB0 : H0.length ≤ B0) (old0 : Old B0 H0 H) (hBH : B0 ≤ H.length) (hw : WF H) (ho : O B0 H vr (ints row0)) (hr0 : row0.length = i) (hv0 : val row0 = 0) (hz0 : ∀ z ∈ row0, -10000000000000000 ≤ z ∧ z ≤ 10000000000000000) (call : CallF) (m nt : Nat) {a : Fr} {k : Nat} (hk : (nf y).length < k)
    (h0 : a 0 = vx) (h1 : a 1 = vy) (h6 : a 6 = vi i) (h7 : a 7 = vr) (h8 : a 8 = vi (0 : Nat)) (v5 : Value) (h5 : a 5 = v5) :
    ∃ r a' H', loopN (evS Try.prog call m nt none mulB) k a H = some (r, a', H') ∧ r = .exit 2 ∧ a' 0 = vx ∧ a' 1 = vy ∧ a' 6 = vi i ∧ a' 5 = v5 ∧ ∃ vo out, a' 7 = vo ∧ O B0 H' vo (ints out) ∧ Old B0 H H' ∧ WF H' ∧ out.length ≤ 900 ∧ val out = B ^ i * ((nf x).getD i 0 * y) ∧ (∀ z ∈ out, -10000000000000000 ≤ z ∧ z ≤ 10000000000000000) := by
  refine loop_up (nf y).length (fun j a H' => a 0 = vx ∧ a 1 = vy ∧ a 6 = vi i ∧ a 5 = v5 ∧ a 8 = vi j ∧ ∃ vo out, a 7 = vo ∧ O B0 H' vo (ints out) ∧ Old B0 H H' ∧ WF H' ∧ out.length = i + j ∧ val out = B ^ i * ((nf x).getD i 0 * val ((nf y).take j)) ∧ (∀ z ∈ out, -10000000000000000 ≤ z ∧ z ≤ 10000000000000000)) _ ?_ ?_ hk
    ⟨h0, h1, h6, h5, h8, _, row0, h7, ho, Old.refl _ _, hw, hr0, by simp [val, hv0], hz0⟩
  · intro j a H' hj ⟨h0, h1, h6, h5, h8, vo, out, h7, ho, old, hw, hol, hval, hb⟩
    left
    rw [show mulB = atC [1, 1, 1, 0, 1, 0, 0, 1, 0, 0, 1, 0, 1, 0, 0] ((Try.f68.body).getD .skip) from rfl]
    have hx2 := hx.keep hB0 (old0.trans old)
    have hy2 := hy.keep hB0 (old0.trans old)
    have bx := nf_getD x i
    have by_ := nf_getD y j
    have bp := prod_bd bx by_
    have hlt : (j : Int) < (nf y).length := by omega
    have e3 : IntKind.i64.wrap ((j : Int) + 1) = ((j + 1 : Nat) : Int) := by rw [wr64 (by omega) (by omega)]; omega
    have e4 : IntKind.i64.wrap ((nf x).getD i 0 * (nf y).getD j 0) = (nf x).getD i 0 * (nf y).getD j 0 := wr64 (by omega) (by omega)
    obtain ⟨v2, H2, ep, o2, old2, wf2⟩ := ho.pushI hw (Nat.le_trans hBH old.1) (by unfold maxA; omega) ((nf x).getD i 0 * (nf y).getD j 0)
    simp (disch := omega) only [Try.f68, Option.getD_some, atC, es_seq, es_region, es_draw, d0, es_cond, es_block, es_skip, ops_nil, ops_cons, opsV_nil, opsV_cons, st_move, st_assign, sy_len uL, sy_addr eL, sy_load aI, sy_bin, sy_append eL pI, sy_build1 eL oI, binS_lss, binS_add, binS_mul, bindO_some, bindF_some, bindX_normal, blkX_normal, condX_true, iteB_true, iteB_false, ev_tmp, ev_const, putA, upd_at, Option.map_some, ↓reduceIte, Nat.reduceEqDiff, Int.toNat_natCast, decide_true, ↓bindO_some, ↓bindF_some, ↓bindX_normal, ↓condX_true, ↓iteB_true, ↓iteB_false, reflV_load, reflV_move, reflV_assign, reflV_bin, reflV_addr, reflV_call, reflV_build, vEq_vi, scal_vi, h0, h1, h6, h7, h8, hy2.lenI, hlt, hx2.addrI, hx2.loadI, hy2.addrI, hy2.loadI, e3, e4, ep]
    refine ⟨_, _, rfl, by simp only [upd_get, ↓reduceIte, Nat.reduceEqDiff, h0], by simp only [upd_get, ↓reduceIte, Nat.reduceEqDiff, h1], by simp only [upd_get, ↓reduceIte, Nat.reduceEqDiff, h6], by simp only [upd_get, ↓reduceIte, Nat.reduceEqDiff, h5], by simp only [upd_get, ↓reduceIte], v2, _, by simp only [upd_get, ↓reduceIte, Nat.reduceEqDiff], o2, old.trans old2, wf2, by rw [List.length_append, List.length_singleton]; omega, ?_, fun w hw => ?_⟩
    · rw [val_snoc, hol, hval, val_take_succ, Int.mul_add, Int.mul_add, Int.pow_add]
      congr 1
      rw [Int.mul_assoc, Int.mul_left_comm (B ^ j)]
    · rcases List.mem_append.1 hw with h | h
      · exact hb w h
      · simp at h; subst h; simpa using bp
  · intro a H' ⟨h0, h1, h6, h5, h8, vo, out, h7, ho, old, hw, hol, hval, hb⟩
    rw [show mulB = atC [1, 1, 1, 0, 1, 0, 0, 1, 0, 0, 1, 0, 1, 0, 0] ((Try.f68.body).getD .skip) from rfl]
    have hy2 := hy.keep hB0 (old0.trans old)
    simp (disch := omega) only [Try.f68, Option.getD_some, atC, es_seq, es_region, es_cond, es_exit, ops_nil, ops_cons, st_move, sy_len uL, sy_bin, binS_lss, bindO_some, bindF_some, bindX_normal, bindX_exit, condX_false, ev_tmp, putA, upd_at, Option.map_some, ↓reduceIte, Nat.reduceEqDiff, decide_false, ↓bindO_some, ↓bindF_some, ↓bindX_normal, ↓bindX_exit, ↓condX_false, h1, h8, hy2.lenI, Int.lt_irrefl]
    exact ⟨_, _, _, rfl, by simp, rfl, by simp only [upd_get, ↓reduceIte, Nat.reduceEqDiff, h0], by simp only [upd_get, ↓reduceIte, Nat.reduceEqDiff, h1], by simp only [upd_get, ↓reduceIte, Nat.reduceEqDiff, h6], by simp only [upd_get, ↓reduceIte, Nat.reduceEqDiff, h5], vo, out, by simp only [upd_get, ↓reduceIte, Nat.reduceEqDiff, h7], ho, old, hw, by omega, by rw [hval, List.take_length, nf_val], hb⟩
theorem mul_outer {H0 : Heap} {vx vy : Value} {x y : Int} (hw0 : WF H0) (hx : R H0 vx (ints (nf x))) (hy : R H0 vy (ints (nf y))) (lx : (nf x).length ≤ 400) (ly : (nf y).length ≤ 400) (n m nt : Nat) (hn : 2010 ≤ n) (hm : 1000 ≤ m) {a : Fr} {k : Nat} (hk : (nf x).length < k)
    (h0 : a 0 = vx) (h1 : a 1 = vy) (h5 : a 5 = .slice none 0 0) (h6 : a 6 = vi (0 : Nat)) :
    ∃ r a' H', loopN (evS Try.prog (evB Try.prog noC n) m nt none mulA) k a H0 = some (r, a', H') ∧ r = .exit 0 ∧ ∃ vo, a' 5 = vo ∧ R H' vo (ints (nf (x * y))) ∧ Old H0.length H0 H' ∧ WF H' := by
  refine loop_up (nf x).length (fun i a H' => a 0 = vx ∧ a 1 = vy ∧ a 6 = vi i ∧ ∃ vo, a 5 = vo ∧ R H' vo (ints (nf (val ((nf x).take i) * y))) ∧ Old H0.length H0 H' ∧ WF H') _ ?_ ?_ hk
    ⟨h0, h1, h6, _, h5, by simp [val, nf_zero]; exact .inl ⟨rfl, rfl⟩, Old.refl _ _, hw0⟩
  · intro i a H' hi ⟨h0, h1, h6, vo, h5, ho, old, hw⟩
    left
    rw [show mulA = atC [1, 1, 1, 0, 1, 0, 0] ((Try.f68.body).getD .skip) from rfl]
    have hx2 := hx.keep (Nat.le_refl _) old
    have hy2 := hy.keep (Nat.le_refl _) old
    have hlt : (i : Int) < (nf x).length := by omega
    have e3 : IntKind.i64.wrap ((i : Int) + 1) = ((i + 1 : Nat) : Int) := by rw [wr64 (by omega) (by omega)]; omega
    have hm1 : (i : Int) ≤ 1048576 := by omega
    have hz := zeros_I i
    have hlr : (ints (List.replicate i (0 : Int))).length = i := by rw [ints_len, List.length_replicate]
    have or := O.made (B := H'.length) (Nat.le_refl _) (ints (List.replicate i (0 : Int)))
    rw [hlr] at or
    have oldr := Old.app H' [.cells H'.length true (ints (List.replicate i (0 : Int)))]
    have wfr := hw.app (Nat.le_refl H'.length) (o := true) (cs := ints (List.replicate i (0 : Int)))
    have key := fun (A : Fr) => mul_inner hx2 hy2 hi lx ly (Nat.le_refl _) oldr oldr.1 wfr or (List.length_replicate ..) (val_zeros i) (fun z hz => by have := List.eq_of_mem_replicate hz; omega) (evB Try.prog noC n) m nt (a := A) (k := m) (by omega)
    rw [show mulB = atC [1, 1, 1, 0, 1, 0, 0, 1, 0, 0, 1, 0, 1, 0, 0] ((Try.f68.body).getD .skip) from rfl] at key
    simp only [Try.f68, Option.getD_some, atC] at key
    simp (disch := omega) only [Try.f68, Option.getD_some, atC, es_seq, es_region, es_cond, es_block, es_loop, es_skip, ops_nil, ops_cons, st_move, st_assign, st_fun, sy_len uL, sy_bin, sy_make eL yI (by decide), binS_lss, bindO_some, bindF_some, bindX_normal, condX_true, ev_tmp, ev_const, ev_func, putA, upd_at, Option.map_some, ↓reduceIte, Nat.reduceEqDiff, Int.toNat_natCast, Int.natCast_nonneg, List.map_cons, List.map_nil, decide_true, ↓bindO_some, ↓bindF_some, ↓bindX_normal, ↓condX_true, h0, h6, hx2.lenI, hlt, hm1, Int.le_refl, and_true, hz]
    generalize hA : upd _ 8 _ = A
    obtain ⟨r, a2, H2, e, hr, g0, g1, g6, g5, v7, out, h7, o2, old2, wf2, hol, hval, hb⟩ := key A (by subst hA; exact h0) (by subst hA; exact h1) (by subst hA; exact h6) (by subst hA; rfl) (by subst hA; rfl) vo (by subst hA; exact h5)
    subst hr
    rw [e]
    clear key e
    have oldo := oldr.trans old2
    have hl1 := nf_len_mul (val ((nf x).take i)) y
    have hl2 := take_len x i
    have hl3 : (nf (val out)).length ≤ 900 := by
      rw [hval]
      have e1 := nf_len_mul (B ^ i) ((nf x).getD i 0 * y)
      have e2 := nf_len_mul ((nf x).getD i 0) y
      have e4 : (nf (B ^ i)).length ≤ i + 1 := nf_len (by have := pow_pos i; have := pow_pos (i + 1); omega) (by rw [pow_succ']; have := pow_pos i; omega)
      have e5 : (nf ((nf x).getD i 0)).length ≤ 1 := nf_len (by rw [show B ^ 1 = 100000000 from rfl]; exact (nf_getD x i).1) (by rw [show B ^ 1 = 100000000 from rfl]; exact (nf_getD x i).2)
      omega
    obtain ⟨v3, H3, e3', o3, old3, wf3⟩ := add_run wf2 (.of (ho.mono oldo) (by omega)) ⟨out, o2.R, rfl, hol, fun z hz => by have := hb z hz; omega⟩ (by omega) hl3 n (by omega)
    simp (disch := omega) only [binS_add, bindO_some, bindF_some, bindX_normal, blkX_normal, blkX_exit, upd_at, ↓reduceIte, Nat.reduceEqDiff, ↓bindO_some, ↓bindF_some, ↓bindX_normal, g5, g6, h7, e3', e3]
    have oldf := oldo.trans (old3.mono oldo.1)
    refine ⟨_, _, rfl, by simp only [upd_get, ↓reduceIte, Nat.reduceEqDiff, g0], by simp only [upd_get, ↓reduceIte, Nat.reduceEqDiff, g1], by simp only [upd_get, ↓reduceIte], v3, by simp only [upd_get, ↓reduceIte, Nat.reduceEqDiff], ?_, old.trans (oldf.mono old.1), wf3⟩
    have e6 : val ((nf x).take (i + 1)) * y = val ((nf x).take i) * y + val out := by
      rw [val_take_succ, Int.add_mul, hval, Int.mul_assoc]
    rw [e6]
    exact o3.R
  · intro a H' ⟨h0, h1, h6, vo, h5, ho, old, hw⟩
    rw [show mulA = atC [1, 1, 1, 0, 1, 0, 0] ((Try.f68.body).getD .skip) from rfl]
    have hx2 := hx.keep (Nat.le_refl _) old
    simp (disch := omega) only [Try.f68, Option.getD_some, atC, es_seq, es_region, es_cond, es_exit, ops_nil, ops_cons, st_move, sy_len uL, sy_bin, binS_lss, bindO_some, bindF_some, bindX_normal, bindX_exit, condX_false, ev_tmp, putA, upd_at, Option.map_some, ↓reduceIte, Nat.reduceEqDiff, decide_false, ↓bindO_some, ↓bindF_some, ↓bindX_normal, ↓bindX_exit, ↓condX_false, h0, h6, hx2.lenI, Int.lt_irrefl]
    exact ⟨_, _, _, rfl, by simp, rfl, vo, by simp only [upd_get, ↓reduceIte, Nat.reduceEqDiff, h5], by rw [List.take_length, nf_val] at ho; exact ho, old, hw⟩
theorem mul_run {H : Heap} {vx vy : Value} {x y : Int} (hw : WF H) (hx : NumV H vx x) (hy : NumV H vy y) (lx : (nf x).length ≤ 400) (ly : (nf y).length ≤ 400) (n : Nat) (hn : 2011 ≤ n) :
    OneL H (evB Try.prog noC n (.func (.func 68) #[] #[]) [vx, vy] H) (nf (x * y)) := by
  refine run_of (F := 2010) (Q := fun r => OneL H r (nf (x * y))) (fun n hn => ?_) n hn
  rw [body_runS Try.func68 rfl (ok_fn (by rfl) Try.func68 rfl) (Nat.le_of_ble_eq_true rfl) (D := D0) (by kernel_rfl)]
  obtain ⟨v1, H1, e1, o1, old1, wf1⟩ := hx.norm hw n (by omega)
  obtain ⟨v2, H2, e2, o2, old2, wf2⟩ := (hy.mono old1).norm wf1 n (by omega)
  have old12 := old1.trans (old2.mono old1.1)
  have key := fun (A : Fr) => mul_outer wf2 (o1.R.mono old2) o2.R lx ly n n Try.f68.ntmps (by omega) (by omega) (a := A) (k := n) (by omega)
  rw [show mulA = atC [1, 1, 1, 0, 1, 0, 0] ((Try.f68.body).getD .skip) from rfl] at key
  simp only [Try.f68, Option.getD_some, atC] at key
  simp (disch := omega) only [Try.f68, es_seq, es_region, es_block, es_loop, es_ret, ops_nil, ops_cons, st_move, st_assign, st_fun, bindO_some, bindF_some, bindX_normal, ev_tmp, ev_const, ev_func, putA, upd_at, ↓reduceIte, Nat.reduceEqDiff, frOf_0, frOf_1, List.map_cons, List.map_nil, ↓bindO_some, ↓bindF_some, ↓bindX_normal, e1, e2]
  generalize hA : upd _ 6 _ = A
  obtain ⟨r, a', H', e, hr, vo, h5, ho, old, hwf⟩ := key A (by subst hA; rfl) (by subst hA; rfl) (by subst hA; rfl) (by subst hA; rfl)
  subst hr
  rw [e]
  have hlm := nf_len_mul x y
  obtain ⟨v3, H3, e3, o3, old3, wf3⟩ := norm_run hwf ho (by omega) (nfb _) n (by omega)
  simp (disch := omega) only [bindO_some, bindF_some, bindX_normal, blkX_exit, upd_at, Option.map_some, ↓reduceIte, ↓bindO_some, ↓bindF_some, ↓bindX_normal, fin_r, res_nil, res_tmp, pack_1, h5, e3, o3.R.scal]
  have old' := old12.trans (old.mono old12.1)
  refine ⟨_, _, rfl, ?_, old'.trans (old3.mono old'.1), wf3⟩
  rw [nf_val] at o3
  exact o3.below old'.1
noncomputable def lessA : Code := atC [1, 1, 0, 1, 0, 0] ((Try.f147.body).getD .skip)
theorem less_loop {H : Heap} {vx vy : Value} {x y : Int} (hx : R H vx (ints (nf x))) (hy : R H vy (ints (nf y))) (x0 : 0 ≤ x) (y0 : 0 ≤ y) (lx : (nf x).length ≤ 900) (hl : (nf x).length = (nf y).length) (call : CallF) (m nt : Nat) {a : Fr} {k : Nat} (hk : (nf x).length < k)
    (h0 : a 0 = vx) (h1 : a 1 = vy) (h5 : a 5 = vi (((nf x).length : Int) - 1)) :
    ∃ r a' H', loopN (evS Try.prog call m nt none lessA) k a H = some (r, a', H') ∧ H' = H ∧ ((r = .exit 0 ∧ x = y) ∨ (r = .ret ∧ a' 4 = .bool (decide (x < y)))) := by
  refine loop_wf (fun j a H' => H' = H ∧ a 0 = vx ∧ a 1 = vy ∧ a 5 = vi ((j : Int) - 1) ∧ j ≤ (nf x).length ∧ (nf x).drop j = (nf y).drop j) _ ?_ k (nf x).length a H hk ⟨rfl, h0, h1, h5, Nat.le_refl _, by rw [List.drop_length, hl, List.drop_length]⟩
  intro j a H' ⟨hH, h0, h1, h5, hj, hd⟩
  subst hH
  rw [show lessA = atC [1, 1, 0, 1, 0, 0] ((Try.f147.body).getD .skip) from rfl]
  by_cases hz : j = 0
  · subst hz
    right
    have c1 : decide ((0 : Int) ≤ ((0 : Nat) : Int) - 1) = false := rfl
    simp (disch := omega) only [Try.f147, Option.getD_some, atC, es_seq, es_region, es_cond, es_exit, ops_nil, ops_cons, st_move, sy_bin, binS_geq, bindO_some, bindF_some, bindX_normal, bindX_exit, condX_false, ev_tmp, ev_const, putA, upd_at, ↓reduceIte, ↓bindO_some, ↓bindF_some, ↓bindX_normal, ↓bindX_exit, ↓condX_false, h5, c1]
    refine ⟨_, _, _, rfl, by simp, rfl, .inl ⟨rfl, ?_⟩⟩
    have := congrArg val hd
    rw [List.drop_zero, List.drop_zero, nf_val, nf_val] at this
    exact this
  · obtain ⟨i, rfl⟩ : ∃ i, j = i + 1 := ⟨j - 1, by omega⟩
    rw [show ((i + 1 : Nat) : Int) - 1 = (i : Int) from by omega] at h5
    have c1 : (0 : Int) ≤ (i : Int) := by omega
    have e1 : IntKind.i64.wrap ((i : Int) - 1) = (i : Int) - 1 := wr64 (by omega) (by omega)
    have hc := cmp_at (nf_dg x0) (nf_dg y0) (i := i) (by omega) (by omega) hd
    rw [nf_val, nf_val] at hc
    by_cases he : (nf x).getD i 0 = (nf y).getD i 0
    · left
      simp (disch := omega) only [Try.f147, Option.getD_some, atC, es_seq, es_region, es_draw, d0, es_cond, es_block, es_skip, ops_nil, ops_cons, opsV_nil, opsV_cons, st_move, st_assign, sy_addr eL, sy_load aI, sy_bin, binS_geq, binS_neq, binS_sub, bindO_some, bindF_some, bindX_normal, blkX_normal, condX_true, condX_false, iteB_true, iteB_false, ev_tmp, ev_const, putA, upd_at, Option.map_some, ↓reduceIte, Nat.reduceEqDiff, Int.toNat_natCast, decide_true, Bool.not_true, ↓bindO_some, ↓bindF_some, ↓bindX_normal, ↓condX_true, ↓condX_false, ↓iteB_true, ↓iteB_false, reflV_load, reflV_move, reflV_bin, reflV_addr, vEq_vi, h0, h1, h5, c1, hx.addrI, hx.loadI, hy.addrI, hy.loadI, he, e1]
      exact ⟨_, _, rfl, i, by omega, rfl, by simp only [upd_get, ↓reduceIte, Nat.reduceEqDiff, h0], by simp only [upd_get, ↓reduceIte, Nat.reduceEqDiff, h1], by simp only [upd_get, ↓reduceIte], by omega, by rw [drop_getD (by omega), drop_getD (l := nf y) (by omega), hd, he]⟩
    · right
      have e2 : decide ((nf x).getD i 0 < (nf y).getD i 0) = decide (x < y) := by
        rw [decide_eq_decide]
        exact ⟨hc.1, fun h => by
          apply Decidable.byContradiction
          intro h2
          have := hc.2 (by omega)
          omega⟩
      simp (disch := omega) only [Try.f147, Option.getD_some, atC, es_seq, es_region, es_draw, d0, es_cond, es_block, es_skip, es_ret, ops_nil, ops_cons, opsV_nil, opsV_cons, st_move, st_assign, sy_addr eL, sy_load aI, sy_bin, binS_lss, binS_geq, binS_neq, bindO_some, bindF_some, bindX_normal, bindX_ret, blkX_ret, condX_true, iteB_true, iteB_false, ev_tmp, ev_const, putA, upd_at, Option.map_some, ↓reduceIte, Nat.reduceEqDiff, Int.toNat_natCast, decide_true, decide_false, Bool.not_false, ↓bindO_some, ↓bindF_some, ↓bindX_normal, ↓bindX_ret, ↓condX_true, ↓iteB_true, ↓iteB_false, reflV_load, reflV_move, reflV_assign, reflV_bin, reflV_addr, vEq_vi, h0, h1, h5, c1, hx.addrI, hx.loadI, hy.addrI, hy.loadI, he, e2]
      exact ⟨_, _, _, rfl, by simp, rfl, .inr ⟨rfl, by simp only [upd_get, ↓reduceIte]⟩⟩
theorem less_run {H : Heap} {vx vy : Value} {x y : Int} (hx : R H vx (ints (nf x))) (hy : R H vy (ints (nf y))) (x0 : 0 ≤ x) (y0 : 0 ≤ y) (lx : (nf x).length ≤ 900) (ly : (nf y).length ≤ 900) (n : Nat) (hn : 1002 ≤ n) :
    evB Try.prog noC n (.func (.func 147) #[] #[]) [vx, vy] H = some (.bool (decide (x < y)), H) := by
  refine run_of (F := 1001) (Q := fun r => r = some (.bool (decide (x < y)), H)) (fun n hn => ?_) n hn
  rw [body_runS Try.func147 rfl (ok_fn (by rfl) Try.func147 rfl) (Nat.le_of_ble_eq_true rfl) (D := D0) (by kernel_rfl)]
  by_cases hl : (nf x).length = (nf y).length
  · have c1 : (((nf x).length : Int) = (nf y).length) := by omega
    have e1 : IntKind.i64.wrap (((nf y).length : Int) - 1) = ((nf y).length : Int) - 1 := wr64 (by omega) (by omega)
    have key := fun (A : Fr) => less_loop hx hy x0 y0 lx hl (evB Try.prog noC n) n Try.f147.ntmps (a := A) (k := n) (by omega)
    rw [show lessA = atC [1, 1, 0, 1, 0, 0] ((Try.f147.body).getD .skip) from rfl] at key
    simp only [Try.f147, Option.getD_some, atC] at key
    simp (disch := omega) only [Try.f147, es_seq, es_region, es_cond, es_block, es_loop, es_skip, es_ret, ops_nil, ops_cons, st_move, st_assign, sy_len uL, sy_bin, binS_neq, binS_sub, bindO_some, bindF_some, bindX_normal, condX_false, ev_tmp, ev_const, putA, upd_at, Option.map_some, ↓reduceIte, Nat.reduceEqDiff, frOf_0, frOf_1, decide_true, Bool.not_true, ↓bindO_some, ↓bindF_some, ↓bindX_normal, ↓condX_false, hx.lenI, hy.lenI, c1, e1]
    generalize hA : upd _ 5 _ = A
    obtain ⟨r, a', H', e, hH, h⟩ := key A (by subst hA; rfl) (by subst hA; rfl) (by subst hA; rw [c1]; rfl)
    subst hH
    rw [e]
    rcases h with ⟨rfl, rfl⟩ | ⟨rfl, h4⟩
    · have c2 : decide (x < x) = false := by simp
      simp (disch := omega) only [bindX_normal, blkX_exit, upd_at, Option.map_some, ↓reduceIte, ↓bindX_normal, fin_r, res_nil, res_tmp, pack_1, scal_bool, c2]
    · simp (disch := omega) only [bindX_ret, blkX_ret, Option.map_some, ↓bindX_ret, fin_r, res_nil, res_tmp, pack_1, scal_bool, h4]
  · have c1 : ¬ (((nf x).length : Int) = (nf y).length) := by omega
    have e2 : decide (((nf x).length : Int) < (nf y).length) = decide (x < y) := by
      rw [decide_eq_decide]
      constructor
      · intro h; exact nf_len_lt x0 y0 (by omega)
      · intro h
        apply Decidable.byContradiction
        intro h2
        have := nf_len_lt y0 x0 (by omega)
        omega
    simp (disch := omega) only [Try.f147, es_seq, es_region, es_cond, es_ret, ops_nil, ops_cons, st_move, st_assign, sy_len uL, sy_bin, binS_lss, binS_neq, bindO_some, bindF_some, bindX_normal, bindX_ret, condX_true, ev_tmp, ev_const, putA, upd_at, Option.map_some, ↓reduceIte, Nat.reduceEqDiff, frOf_0, frOf_1, decide_false, Bool.not_false, ↓bindO_some, ↓bindF_some, ↓bindX_normal, ↓bindX_ret, ↓condX_true, fin_r, res_nil, res_tmp, pack_1, scal_bool, hx.lenI, hy.lenI, c1, e2]
end Go.Proofs.Ytmmgdgmjkhcfaaa
