/- Integers of the program: the exported sums, differences, products; division by one digit. -/
import Derived.Test.YtmmgdgmjkhcfaaaSyK
set_option linter.all false
namespace Go.Proofs.Ytmmgdgmjkhcfaaa
open Go Go.Abs Go.Num
set_option maxRecDepth 10000
attribute [local congr] bindO_congr bindF_congr bindX_congr condX_congr iteB_congr binS_congr pickS_congr eqB_congr nilS_congr clsW_congr
theorem abs_len (z : Int) : (nf z.natAbs).length = (nf z).length := by
  rw [← nf_abs]
  split
  · rw [List.length_map]
  · rfl
theorem neg_len (z : Int) : (nf (-z)).length = (nf z).length := by rw [← nf_neg', List.length_map]
theorem add_len {x y : Int} {k : Nat} (hx : (nf x).length ≤ k) (hy : (nf y).length ≤ k) : (nf (x + y)).length ≤ k + 1 := by
  have a := nf_size x
  have b := nf_size y
  have c := pow_le hx
  have d := pow_le hy
  have e := pow_succ' k
  have f := pow_pos k
  exact nf_len (by omega) (by omega)
theorem of_run {H : Heap} {z : Int} (hw : WF H) (h1 : -4000000000000000000 ≤ z) (h2 : z ≤ 4000000000000000000) (n : Nat) (hn : 2004 ≤ n) :
    OneL H (evB Try.prog noC n (.func (.func 79) #[] #[]) [vi z] H) (nf z) := by
  refine run_of (F := 2003) (Q := fun r => OneL H r (nf z)) (fun n hn => ?_) n hn
  rw [body_runS Try.func79 rfl (ok_fn (by rfl) Try.func79 rfl) (Nat.le_of_ble_eq_true rfl) (D := D0) (by kernel_rfl)]
  obtain ⟨w, H1, s1, w1, old1, wf1⟩ := small_run hw h1 h2 n (by omega)
  have hl : (nf z).length ≤ 3 := nf_len (by rw [show B ^ 3 = 1000000000000000000000000 from rfl]; omega) (by rw [show B ^ 3 = 1000000000000000000000000 from rfl]; omega)
  obtain ⟨v, H2, s2, o2, old2, wf2⟩ := list_run wf1 w1 (by rw [abs_len]; omega) n (by omega)
  simp (disch := omega) only [Try.f79, es_seq, es_region, es_ret, ops_nil, ops_cons, st_move, st_assign, st_fun, bindO_some, bindF_some, bindX_normal, ev_tmp, ev_const, ev_func, putA, upd_at, Option.map_some, ↓reduceIte, Nat.reduceEqDiff, frOf_0, List.map_cons, List.map_nil, ↓bindO_some, ↓bindF_some, ↓bindX_normal, fin_r, res_nil, res_tmp, pack_1, s1, s2, o2.R.scal]
  exact ⟨_, _, rfl, o2.below old1.1, old1.trans (old2.mono old1.1), wf2⟩
theorem mulP_run {H : Heap} {vx vy : Value} {x y : Int} (hw : WF H) (hx : NumV H vx x) (hy : NumV H vy y) (lx : (nf x).length ≤ 390) (ly : (nf y).length ≤ 390) (n : Nat) (hn : 2012 ≤ n) :
    OneL H (evB Try.prog noC n (.func (.func 39) #[] #[]) [vx, vy] H) (nf (x * y)) := by
  refine run_of (F := 2011) (Q := fun r => OneL H r (nf (x * y))) (fun n hn => ?_) n hn
  rw [body_runS Try.func39 rfl (ok_fn (by rfl) Try.func39 rfl) (Nat.le_of_ble_eq_true rfl) (D := D0) (by kernel_rfl)]
  obtain ⟨wx, H1, s1, w1, old1, wf1⟩ := read_run hw hx n (by omega)
  obtain ⟨wy, H2, s2, w2, old2, wf2⟩ := read_run wf1 (hy.mono old1) n (by omega)
  obtain ⟨wz, H3, s3, w3, old3, wf3⟩ := times_run wf2 (w1.mono old2) (w2.below old1.1) (by rw [abs_len]; omega) (by rw [abs_len]; omega) n (by omega)
  obtain ⟨v, H4, s4, o4, old4, wf4⟩ := list_run wf3 w3 (by rw [abs_len]; have := nf_len_mul x y; omega) n (by omega)
  simp (disch := omega) only [Try.f39, es_seq, es_region, es_ret, ops_nil, ops_cons, st_move, st_assign, st_fun, bindO_some, bindF_some, bindX_normal, ev_tmp, ev_const, ev_func, putA, upd_at, Option.map_some, ↓reduceIte, Nat.reduceEqDiff, frOf_0, frOf_1, List.map_cons, List.map_nil, ↓bindO_some, ↓bindF_some, ↓bindX_normal, fin_r, res_nil, res_tmp, pack_1, s1, s2, s3, s4, o4.R.scal]
  have old12 := old1.trans (old2.mono old1.1)
  have old13 := old12.trans (old3.mono old12.1)
  exact ⟨_, _, rfl, o4.below old13.1, old13.trans (old4.mono old13.1), wf4⟩
noncomputable def shoA : Code := atC [1, 1, 0, 1, 0, 0] ((Try.f154.body).getD .skip)
theorem sho_loop {H0 H : Heap} {va vo : Value} {x y : Int} (ha : ∀ G, Old H0.length H0 G → R G va (ints (nf x))) (x0 : 0 ≤ x) (y0 : 0 < y) (y1 : y < 100000000) (lx : (nf x).length ≤ 900) (old : Old H0.length H0 H) (hw : WF H)
    (ho : O H0.length H vo (ints (List.replicate (nf x).length 0))) (call : CallF) (m nt : Nat) {a : Fr} {k : Nat} (hk : (nf x).length < k)
    (h0 : a 0 = va) (h1 : a 1 = vi y) (h6 : a 6 = vo) (h7 : a 7 = vi 0) (h8 : a 8 = vi (((nf x).length : Int) - 1)) :
    ∃ r a' H', loopN (evS Try.prog call m nt none shoA) k a H = some (r, a', H') ∧ r = .exit 0 ∧ Old H0.length H0 H' ∧ WF H' ∧ a' 6 = vo ∧ a' 7 = vi (x % y) ∧ ∃ lo, O H0.length H' vo (ints lo) ∧ Dg lo ∧ val lo = x / y ∧ lo.length ≤ 900 := by
  refine loop_wf (fun j a H' => j ≤ (nf x).length ∧ a 0 = va ∧ a 1 = vi y ∧ a 6 = vo ∧ a 8 = vi ((j : Int) - 1) ∧ Old H0.length H0 H' ∧ WF H' ∧ ∃ lo t, a 7 = vi t ∧ O H0.length H' vo (ints lo) ∧ lo.length = (nf x).length ∧ Dg lo ∧ 0 ≤ t ∧ t < y ∧ val ((nf x).drop j) = y * val (lo.drop j) + t ∧ val (lo.take j) = 0) _ ?_ k (nf x).length a H hk
    ⟨Nat.le_refl _, h0, h1, h6, h8, old, hw, _, 0, h7, ho, by simp, fun z hz => by have := List.eq_of_mem_replicate hz; subst this; unfold B; omega, by omega, by omega, by rw [List.drop_length, List.drop_eq_nil_of_le (by simp)]; simp [val], by rw [List.take_replicate, val_zeros]⟩
  intro j a H' ⟨hj, h0, h1, h6, h8, old, hw, lo, t, h7, ho, hl, hd, t0, t1, hval, hz⟩
  rw [show shoA = atC [1, 1, 0, 1, 0, 0] ((Try.f154.body).getD .skip) from rfl]
  by_cases hj0 : j = 0
  · subst hj0
    right
    have c1 : decide ((0 : Int) ≤ ((0 : Nat) : Int) - 1) = false := rfl
    simp (disch := omega) only [Try.f154, Option.getD_some, atC, es_seq, es_region, es_cond, es_exit, ops_nil, ops_cons, st_move, sy_bin, binS_geq, bindO_some, bindF_some, bindX_normal, bindX_exit, condX_false, ev_tmp, ev_const, putA, upd_at, ↓reduceIte, ↓bindO_some, ↓bindF_some, ↓bindX_normal, ↓bindX_exit, ↓condX_false, h8, c1]
    rw [List.drop_zero, List.drop_zero, nf_val] at hval
    have e1 : x / y = val lo := by
      rw [hval, Int.add_comm, Int.add_mul_ediv_left _ _ (by omega), Int.ediv_eq_zero_of_lt t0 t1, Int.zero_add]
    have e2 : x % y = t := by
      rw [hval, Int.add_comm, Int.add_mul_emod_self_left, Int.emod_eq_of_lt t0 t1]
    exact ⟨_, _, _, rfl, by simp, rfl, old, hw, h6, by simp only [upd_at, ↓reduceIte, Nat.reduceEqDiff, h7, e2], lo, ho, hd, e1.symm, by omega⟩
  · obtain ⟨i, rfl⟩ : ∃ i, j = i + 1 := ⟨j - 1, by omega⟩
    left
    rw [show ((i + 1 : Nat) : Int) - 1 = (i : Int) from by omega] at h8
    have c1 : (0 : Int) ≤ (i : Int) := by omega
    have e1 : IntKind.i64.wrap ((i : Int) - 1) = (i : Int) - 1 := wr64 (by omega) (by omega)
    have hx := ha H' old
    have hro := ho.R
    have hdi := (nf_dg x0).getD i
    have e2 : IntKind.i64.wrap (t * 100000000) = t * 100000000 := wr64 (by omega) (by omega)
    have e3 : IntKind.i64.wrap (t * 100000000 + (nf x).getD i 0) = t * 100000000 + (nf x).getD i 0 := wr64 (by omega) (by omega)
    have hs0 : 0 ≤ t * 100000000 + (nf x).getD i 0 := by omega
    have hs1 : t * 100000000 + (nf x).getD i 0 < 100000000 * y := by omega
    have hq0 : 0 ≤ (t * 100000000 + (nf x).getD i 0) / y := Int.ediv_nonneg hs0 (by omega)
    have hq1 : (t * 100000000 + (nf x).getD i 0) / y < 100000000 := Int.ediv_lt_of_lt_mul y0 (by omega)
    have e4 : (t * 100000000 + (nf x).getD i 0).tdiv y = (t * 100000000 + (nf x).getD i 0) / y := tdiv_pos hs0 _
    have e5 : (t * 100000000 + (nf x).getD i 0).tmod y = (t * 100000000 + (nf x).getD i 0) % y := tmod_pos hs0 _
    have e6 : IntKind.i64.wrap ((t * 100000000 + (nf x).getD i 0) / y) = (t * 100000000 + (nf x).getD i 0) / y := wr64 (by omega) (by omega)
    obtain ⟨H2, s2, o2, old2, wf2⟩ := ho.setI hw (i := i) (by omega) ((t * 100000000 + (nf x).getD i 0) / y)
    have hy0 : y ≠ 0 := by omega
    simp (disch := omega) only [Try.f154, Option.getD_some, atC, es_seq, es_region, es_draw, d0, es_cond, es_block, es_skip, ops_nil, ops_cons, opsV_nil, opsV_cons, st_move, st_assign, sy_addr eL, sy_load aI, sy_store zI, sy_bin, binS_geq, binS_add, binS_sub, binS_mul, binS_quo, binS_rem, bindO_some, bindF_some, bindX_normal, blkX_normal, condX_true, iteB_true, iteB_false, ev_tmp, ev_const, putA, upd_at, Option.map_some, ↓reduceIte, Nat.reduceEqDiff, Int.toNat_natCast, decide_true, ↓bindO_some, ↓bindF_some, ↓bindX_normal, ↓condX_true, ↓iteB_true, ↓iteB_false, reflV_move, reflV_assign, reflV_bin, reflV_addr, reflV_store, h0, h1, h6, h7, h8, c1, hx.addrI, hx.loadI, hro.addrI, e1, e2, e3, e4, e5, e6, s2]
    refine ⟨_, _, rfl, i, by omega, by omega, h0, h1, h6, rfl, old.trans old2, wf2, _, _, by simp only [upd_at, ↓reduceIte, Nat.reduceEqDiff]; rfl, o2, by rw [List.length_set]; exact hl, hd.set i hq0 hq1, Int.emod_nonneg _ hy0, Int.emod_lt_of_pos _ y0, ?_, ?_⟩
    · have := div_step (A := nf x) (ql := lo) (i := i) (by omega) (by omega) y0 hval
      rw [show (nf x).getD i 0 + B * t = t * 100000000 + (nf x).getD i 0 from by unfold B; omega] at this
      exact this
    · rw [List.take_set_of_le (Nat.le_refl i)]
      have e := val_take_succ lo i
      rw [hz] at e
      have h1 := (hd.take i).val.1
      have h2 := hd.getD i
      have h3 := Int.mul_nonneg (Int.le_of_lt (pow_pos i)) h2.1
      omega
theorem short_run {H : Heap} {va : Value} {x y : Int} (hw : WF H) (ha : R H va (ints (nf x))) (x0 : 0 ≤ x) (y0 : 0 < y) (y1 : y < 100000000) (lx : (nf x).length ≤ 900) (n : Nat) (hn : 2010 ≤ n) :
    ∃ v H', evB Try.prog noC n (.func (.func 154) #[] #[]) [va, vi y] H = some (.tuple #[v, vi (x % y)], H') ∧ RO H.length H' v (ints (nf (x / y))) ∧ Old H.length H H' ∧ WF H' := by
  refine run_of (F := 2009) (Q := fun r => ∃ v H', r = some (.tuple #[v, vi (x % y)], H') ∧ RO H.length H' v (ints (nf (x / y))) ∧ Old H.length H H' ∧ WF H') (fun n hn => ?_) n hn
  rw [body_runS Try.func154 rfl (ok_fn (by rfl) Try.func154 rfl) (Nat.le_of_ble_eq_true rfl) (D := D0) (by kernel_rfl)]
  have hz := zeros_I (nf x).length
  have hlr : (ints (List.replicate (nf x).length (0 : Int))).length = (nf x).length := by rw [ints_len, List.length_replicate]
  have or := O.made (B := H.length) (Nat.le_refl H.length) (ints (List.replicate (nf x).length (0 : Int)))
  rw [hlr] at or
  have oldm := Old.app H [.cells H.length true (ints (List.replicate (nf x).length (0 : Int)))]
  have wfm := hw.app (Nat.le_refl H.length) (o := true) (cs := ints (List.replicate (nf x).length (0 : Int)))
  have c2 : (0 : Int) ≤ ((nf x).length : Int) := by omega
  have c3 : ((nf x).length : Int) ≤ 1048576 := by omega
  have e1 : IntKind.i64.wrap (((nf x).length : Int) - 1) = ((nf x).length : Int) - 1 := wr64 (by omega) (by omega)
  have key := fun (A : Fr) => sho_loop (fun G hG => ha.mono hG) x0 y0 y1 lx oldm wfm or (evB Try.prog noC n) n Try.f154.ntmps (a := A) (k := n) (by omega)
  rw [show shoA = atC [1, 1, 0, 1, 0, 0] ((Try.f154.body).getD .skip) from rfl] at key
  simp only [Try.f154, Option.getD_some, atC] at key
  simp (disch := omega) only [Try.f154, es_seq, es_region, es_block, es_loop, es_ret, ops_nil, ops_cons, st_move, st_assign, st_fun, sy_len uL, sy_bin, sy_make eL yI (by decide), binS_sub, bindO_some, bindF_some, bindX_normal, ev_tmp, ev_const, ev_func, putA, upd_at, Option.map_some, ↓reduceIte, Nat.reduceEqDiff, Int.toNat_natCast, frOf_0, List.map_cons, List.map_nil, ↓bindO_some, ↓bindF_some, ↓bindX_normal, ha.lenI, c2, c3, Int.le_refl, and_self, hz, e1]
  generalize hA : upd _ 8 _ = A
  obtain ⟨r, a', H', e, hr, old2, wf2, h6, h7, lo, ol, hd, hval, hll⟩ := key A (by subst hA; rfl) (by subst hA; rfl) (by subst hA; rfl) (by subst hA; rfl) (by subst hA; rfl)
  subst hr
  rw [e]
  clear e key
  obtain ⟨d, sd, rd⟩ := trimmed_run ol.RO (by omega) n (by omega)
  rw [nf_of_digs hd hval] at rd
  simp (disch := omega) only [bindO_some, bindF_some, bindX_normal, blkX_exit, upd_at, Option.map_some, ↓reduceIte, Nat.reduceEqDiff, ↓bindO_some, ↓bindF_some, ↓bindX_normal, fin_r, res_nil, res_tmp, pack_2, scal_vi, h6, h7, sd, rd.R.scal]
  exact ⟨_, _, rfl, rd, old2, wf2⟩
end Go.Proofs.Ytmmgdgmjkhcfaaa
