/- Integers of the program: signs, comparison, differences. -/
import Derived.Test.YtmmgdgmjkhcfaaaSyG
set_option linter.all false
namespace Go.Proofs.Ytmmgdgmjkhcfaaa
open Go Go.Abs Go.Num
set_option maxRecDepth 10000
attribute [local congr] bindO_congr bindF_congr bindX_congr condX_congr iteB_congr binS_congr pickS_congr eqB_congr nilS_congr
theorem isnan_run (x : Int) (H : Heap) (n : Nat) (hn : 1 ≤ n) : evB Try.prog noC n (.func (.func 124) #[] #[]) [vi x] H = some (.bool false, H) := by
  refine run_of (F := 0) (Q := fun r => r = some (.bool false, H)) (fun n hn => ?_) n hn
  rw [body_runS Try.func124 rfl (ok_fn (by rfl) Try.func124 rfl) (Nat.le_of_ble_eq_true rfl) (D := D0) (by kernel_rfl)]
  have e : decide (x = x) = true := by simp
  simp only [Try.f124, es_seq, es_region, es_ret, ops_nil, ops_cons, st_move, st_assign, sy_bin, binS_neq, bindO_some, bindF_some, bindX_normal, ev_tmp, ev_const, putA, upd_at, Option.map_some, ↓reduceIte, Nat.reduceEqDiff, frOf_0, decide_true, Bool.not_true, ↓bindO_some, ↓bindF_some, ↓bindX_normal, fin_r, res_nil, res_tmp, pack_1, scal_bool]
theorem compare_run (x y : Int) (H : Heap) (n : Nat) (hn : 2 ≤ n) : evB Try.prog noC n (.func (.func 98) #[] #[]) [vi x, vi y] H = some (vi (cmpZ x y), H) := by
  refine run_of (F := 1) (Q := fun r => r = some (vi (cmpZ x y), H)) (fun n hn => ?_) n hn
  rw [body_runS Try.func98 rfl (ok_fn (by rfl) Try.func98 rfl) (Nat.le_of_ble_eq_true rfl) (D := D0) (by kernel_rfl)]
  have s1 := isnan_run x H n hn
  have s2 := isnan_run y H n hn
  unfold cmpZ
  by_cases h1 : x < y
  · simp only [Try.f98, es_seq, es_region, es_cond, es_skip, es_ret, ops_nil, ops_cons, st_move, st_assign, st_fun, sy_bin, binS_lss, bindO_some, bindF_some, bindX_normal, bindX_ret, condX_true, condX_false, ev_tmp, ev_const, ev_func, putA, upd_at, Option.map_some, ↓reduceIte, Nat.reduceEqDiff, frOf_0, frOf_1, List.map_cons, List.map_nil, decide_true, ↓bindO_some, ↓bindF_some, ↓bindX_normal, ↓bindX_ret, ↓condX_true, ↓condX_false, fin_r, res_nil, res_tmp, pack_1, scal_vi, s1, s2, h1]
  · by_cases h2 : y < x
    · simp only [Try.f98, es_seq, es_region, es_cond, es_skip, es_ret, ops_nil, ops_cons, st_move, st_assign, st_fun, sy_bin, binS_lss, binS_gtr, bindO_some, bindF_some, bindX_normal, bindX_ret, condX_true, condX_false, ev_tmp, ev_const, ev_func, putA, upd_at, Option.map_some, ↓reduceIte, Nat.reduceEqDiff, frOf_0, frOf_1, List.map_cons, List.map_nil, decide_true, decide_false, ↓bindO_some, ↓bindF_some, ↓bindX_normal, ↓bindX_ret, ↓condX_true, ↓condX_false, fin_r, res_nil, res_tmp, pack_1, scal_vi, s1, s2, h1, h2]
    · simp only [Try.f98, es_seq, es_region, es_cond, es_skip, es_ret, ops_nil, ops_cons, st_move, st_assign, st_fun, sy_bin, binS_lss, binS_gtr, bindO_some, bindF_some, bindX_normal, condX_false, ev_tmp, ev_const, ev_func, putA, upd_at, Option.map_some, ↓reduceIte, Nat.reduceEqDiff, frOf_0, frOf_1, List.map_cons, List.map_nil, decide_false, ↓bindO_some, ↓bindF_some, ↓bindX_normal, ↓condX_false, fin_r, res_nil, res_tmp, pack_1, scal_vi, s1, s2, h1, h2]
noncomputable def szA : Code := atC [1, 1, 0, 1, 0, 0] ((Try.f115.body).getD .skip)
theorem sizes_loop {H : Heap} {vx vy : Value} {x y : Int} (hx : R H vx (ints (nf x))) (hy : R H vy (ints (nf y))) (x0 : 0 ≤ x) (y0 : 0 ≤ y) (lx : (nf x).length ≤ 900) (hl : (nf x).length = (nf y).length) (n m nt : Nat) (hn : 2 ≤ n) {a : Fr} {k : Nat} (hk : (nf x).length < k)
    (h0 : a 0 = vx) (h1 : a 1 = vy) (h5 : a 5 = vi (((nf x).length : Int) - 1)) :
    ∃ r a' H', loopN (evS Try.prog (evB Try.prog noC n) m nt none szA) k a H = some (r, a', H') ∧ H' = H ∧ ((r = .exit 0 ∧ x = y) ∨ (r = .ret ∧ a' 4 = vi (cmpZ x y))) := by
  refine loop_wf (fun j a H' => H' = H ∧ a 0 = vx ∧ a 1 = vy ∧ a 5 = vi ((j : Int) - 1) ∧ j ≤ (nf x).length ∧ (nf x).drop j = (nf y).drop j) _ ?_ k (nf x).length a H hk ⟨rfl, h0, h1, h5, Nat.le_refl _, by rw [List.drop_length, hl, List.drop_length]⟩
  intro j a H' ⟨hH, h0, h1, h5, hj, hd⟩
  subst hH
  rw [show szA = atC [1, 1, 0, 1, 0, 0] ((Try.f115.body).getD .skip) from rfl]
  by_cases hz : j = 0
  · subst hz
    right
    have c1 : decide ((0 : Int) ≤ ((0 : Nat) : Int) - 1) = false := rfl
    simp (disch := omega) only [Try.f115, Option.getD_some, atC, es_seq, es_region, es_cond, es_exit, ops_nil, ops_cons, st_move, sy_bin, binS_geq, bindO_some, bindF_some, bindX_normal, bindX_exit, condX_false, ev_tmp, ev_const, putA, upd_at, ↓reduceIte, ↓bindO_some, ↓bindF_some, ↓bindX_normal, ↓bindX_exit, ↓condX_false, h5, c1]
    refine ⟨_, _, _, rfl, by simp, rfl, .inl ⟨rfl, ?_⟩⟩
    have := congrArg val hd
    rw [List.drop_zero, List.drop_zero, nf_val, nf_val] at this
    exact this
  · obtain ⟨i, rfl⟩ : ∃ i, j = i + 1 := ⟨j - 1, by omega⟩
    rw [show ((i + 1 : Nat) : Int) - 1 = (i : Int) from by omega] at h5
    have c1 : (0 : Int) ≤ (i : Int) := by omega
    have e1 : IntKind.i64.wrap ((i : Int) - 1) = (i : Int) - 1 := wr64 (by omega) (by omega)
    have hc := cmp_at (nf_dg x0) (nf_dg y0) (i := i) (by omega) (by omega) hd
    rw [nf_val, nf_val] at hc
    by_cases he : (nf x).getD i 0 = (nf y).getD i 0
    · left
      simp (disch := omega) only [Try.f115, Option.getD_some, atC, es_seq, es_region, es_draw, d0, es_cond, es_block, es_skip, ops_nil, ops_cons, opsV_nil, opsV_cons, st_move, st_assign, sy_addr eL, sy_load aI, sy_bin, binS_geq, binS_neq, binS_sub, bindO_some, bindF_some, bindX_normal, blkX_normal, condX_true, condX_false, iteB_true, iteB_false, ev_tmp, ev_const, putA, upd_at, Option.map_some, ↓reduceIte, Nat.reduceEqDiff, Int.toNat_natCast, decide_true, Bool.not_true, ↓bindO_some, ↓bindF_some, ↓bindX_normal, ↓condX_true, ↓condX_false, ↓iteB_true, ↓iteB_false, reflV_load, reflV_move, reflV_bin, reflV_addr, vEq_vi, h0, h1, h5, c1, hx.addrI, hx.loadI, hy.addrI, hy.loadI, he, e1]
      exact ⟨_, _, rfl, i, by omega, rfl, by simp only [upd_get, ↓reduceIte, Nat.reduceEqDiff, h0], by simp only [upd_get, ↓reduceIte, Nat.reduceEqDiff, h1], by simp only [upd_get, ↓reduceIte], by omega, by rw [drop_getD (by omega), drop_getD (l := nf y) (by omega), hd, he]⟩
    · right
      have s1 := compare_run ((nf x).getD i 0) ((nf y).getD i 0) H' n hn
      have e2 : cmpZ ((nf x).getD i 0) ((nf y).getD i 0) = cmpZ x y := by
        unfold cmpZ
        by_cases hlt : (nf x).getD i 0 < (nf y).getD i 0
        · rw [if_pos hlt, if_pos (hc.1 hlt)]
        · have hgt : (nf y).getD i 0 < (nf x).getD i 0 := by omega
          have := hc.2 hgt
          rw [if_neg hlt, if_pos hgt, if_neg (by omega), if_pos this]
      simp (disch := omega) only [Try.f115, Option.getD_some, atC, es_seq, es_region, es_draw, d0, es_cond, es_block, es_skip, es_ret, ops_nil, ops_cons, opsV_nil, opsV_cons, st_move, st_assign, st_fun, sy_addr eL, sy_load aI, sy_bin, binS_geq, binS_neq, bindO_some, bindF_some, bindX_normal, bindX_ret, blkX_ret, condX_true, iteB_true, iteB_false, ev_tmp, ev_const, ev_func, putA, upd_at, Option.map_some, ↓reduceIte, Nat.reduceEqDiff, Int.toNat_natCast, List.map_cons, List.map_nil, decide_true, decide_false, Bool.not_false, ↓bindO_some, ↓bindF_some, ↓bindX_normal, ↓bindX_ret, ↓condX_true, ↓iteB_true, ↓iteB_false, reflV_load, reflV_move, reflV_assign, reflV_bin, reflV_addr, reflV_call, vEq_vi, h0, h1, h5, c1, hx.addrI, hx.loadI, hy.addrI, hy.loadI, he, s1, e2]
      exact ⟨_, _, _, rfl, by simp, rfl, .inr ⟨rfl, by simp only [upd_get, ↓reduceIte]⟩⟩
theorem sizes_run {H : Heap} {vx vy : Value} {x y : Int} (hx : R H vx (ints (nf x))) (hy : R H vy (ints (nf y))) (x0 : 0 ≤ x) (y0 : 0 ≤ y) (lx : (nf x).length ≤ 900) (ly : (nf y).length ≤ 900) (n : Nat) (hn : 1002 ≤ n) :
    evB Try.prog noC n (.func (.func 115) #[] #[]) [vx, vy] H = some (vi (cmpZ x y), H) := by
  refine run_of (F := 1001) (Q := fun r => r = some (vi (cmpZ x y), H)) (fun n hn => ?_) n hn
  rw [body_runS Try.func115 rfl (ok_fn (by rfl) Try.func115 rfl) (Nat.le_of_ble_eq_true rfl) (D := D0) (by kernel_rfl)]
  by_cases hl : (nf x).length = (nf y).length
  · have c1 : (((nf x).length : Int) = (nf y).length) := by omega
    have e1 : IntKind.i64.wrap (((nf y).length : Int) - 1) = ((nf y).length : Int) - 1 := wr64 (by omega) (by omega)
    have key := fun (A : Fr) => sizes_loop hx hy x0 y0 lx hl n n Try.f115.ntmps (by omega) (a := A) (k := n) (by omega)
    rw [show szA = atC [1, 1, 0, 1, 0, 0] ((Try.f115.body).getD .skip) from rfl] at key
    simp only [Try.f115, Option.getD_some, atC] at key
    simp (disch := omega) only [Try.f115, es_seq, es_region, es_cond, es_block, es_loop, es_skip, es_ret, ops_nil, ops_cons, st_move, st_assign, sy_len uL, sy_bin, binS_neq, binS_sub, bindO_some, bindF_some, bindX_normal, condX_false, ev_tmp, ev_const, putA, upd_at, Option.map_some, ↓reduceIte, Nat.reduceEqDiff, frOf_0, frOf_1, decide_true, Bool.not_true, ↓bindO_some, ↓bindF_some, ↓bindX_normal, ↓condX_false, hx.lenI, hy.lenI, c1, e1]
    generalize hA : upd _ 5 _ = A
    obtain ⟨r, a', H', e, hH, h⟩ := key A (by subst hA; rfl) (by subst hA; rfl) (by subst hA; rw [c1]; rfl)
    subst hH
    rw [e]
    rcases h with ⟨rfl, rfl⟩ | ⟨rfl, h4⟩
    · have c2 : cmpZ x x = 0 := by simp [cmpZ]
      simp (disch := omega) only [bindX_normal, blkX_exit, upd_at, Option.map_some, ↓reduceIte, ↓bindX_normal, fin_r, res_nil, res_tmp, pack_1, scal_vi, c2]
    · simp (disch := omega) only [bindX_ret, blkX_ret, Option.map_some, ↓bindX_ret, fin_r, res_nil, res_tmp, pack_1, scal_vi, h4]
  · have c1 : ¬ (((nf x).length : Int) = (nf y).length) := by omega
    have s1 := compare_run (((nf x).length : Nat) : Int) (((nf y).length : Nat) : Int) H n (by omega)
    have e2 : cmpZ (((nf x).length : Nat) : Int) (((nf y).length : Nat) : Int) = cmpZ x y := by
      unfold cmpZ
      by_cases hlt : (nf x).length < (nf y).length
      · rw [if_pos (by omega), if_pos (nf_len_lt x0 y0 hlt)]
      · have hgt : (nf y).length < (nf x).length := by omega
        have := nf_len_lt y0 x0 hgt
        rw [if_neg (by omega), if_pos (by omega), if_neg (by omega), if_pos this]
    simp (disch := omega) only [Try.f115, es_seq, es_region, es_cond, es_ret, ops_nil, ops_cons, st_move, st_assign, st_fun, sy_len uL, sy_bin, binS_neq, bindO_some, bindF_some, bindX_normal, bindX_ret, condX_true, ev_tmp, ev_const, ev_func, putA, upd_at, Option.map_some, ↓reduceIte, Nat.reduceEqDiff, frOf_0, frOf_1, List.map_cons, List.map_nil, decide_false, Bool.not_false, ↓bindO_some, ↓bindF_some, ↓bindX_normal, ↓bindX_ret, ↓condX_true, fin_r, res_nil, res_tmp, pack_1, scal_vi, hx.lenI, hy.lenI, c1, s1, e2]
theorem sign_run {C : Nat} {H : Heap} {w : Value} {z : Int} (hw : WF H) (hv : Wh C H w z) (hl : (nf z.natAbs).length ≤ 900) (n : Nat) (hn : 10 ≤ n) :
    ∃ H', evB Try.prog noC n (.func (.func 145) #[] #[]) [w] H = some (vi (cmpZ z 0), H') ∧ Old H.length H H' ∧ WF H' := by
  obtain ⟨v, rfl, hr⟩ := hv
  have hr := hr.R
  generalize hnb : decide (z < 0) = nb
  refine run_of (F := 9) (Q := fun r => ∃ H', r = some (vi (cmpZ z 0), H') ∧ Old H.length H H' ∧ WF H') (fun n hn => ?_) n hn
  rw [body_runS Try.func145 rfl (ok_fn (by rfl) Try.func145 rfl) (Nat.le_of_ble_eq_true rfl) (D := D0) (by kernel_rfl)]
  have oldb := Old.app H [.cells H.length true [.bool nb, v]]
  have wfb := hw.app (Nat.le_refl H.length) (o := true) (cs := [.bool nb, v])
  have bb := BxM.made (B := H.length) (H := H) (Nat.le_refl _) [.bool nb, v]
  have f0 := bb.faddr 0
  have f1 := bb.faddr 1
  have l1 : loadS (bx (ptrA H.length 0) 1) (H ++ [.cells H.length true [.bool nb, v]]) = some v := bb.load 1
  have l0 : loadS (bx (ptrA H.length 0) 0) (H ++ [.cells H.length true [.bool nb, v]]) = some (.bool nb) := bb.load 0
  have hlen := hr.lenI
  by_cases hz : z = 0
  · subst hz
    have c1 : (((nf ((0 : Int).natAbs : Int)).length : Nat) : Int) = 0 := by rw [show ((0 : Int).natAbs : Int) = 0 from rfl, nf_zero]; rfl
    have e : cmpZ 0 0 = 0 := rfl
    simp (disch := omega) only [Try.f145, es_seq, es_region, es_cond, es_block, es_ret, ops_nil, ops_cons, st_assign, sy_len uL, sy_bin, binS_eql, bindO_some, bindF_some, bindX_normal, bindX_ret, blkX_ret, condX_true, ev_tmp, ev_const, putA, upd_at, Option.map_some, ↓reduceIte, Nat.reduceEqDiff, frOf_0, decide_true, ↓bindO_some, ↓bindF_some, ↓bindX_normal, ↓bindX_ret, ↓condX_true, fin_r, res_nil, res_tmp, pack_1, scal_vi, sy_load aL, sy_faddr fW1, sy_box, scal_agg, f1, l1, hlen, c1, e]
    exact ⟨_, rfl, oldb, wfb⟩
  · have hne : (nf z.natAbs).length ≠ 0 := fun h => by have := nf_nil.1 (List.eq_nil_of_length_eq_zero h); omega
    have c1 : ¬ (((nf z.natAbs).length : Nat) : Int) = 0 := by omega
    cases nb with
    | true =>
      have e : cmpZ z 0 = -1 := if_pos (by simpa using hnb)
      simp (disch := omega) only [Try.f145, es_seq, es_region, es_cond, es_block, es_ret, ops_nil, ops_cons, st_assign, sy_len uL, sy_bin, binS_eql, bindO_some, bindF_some, bindX_normal, bindX_ret, blkX_ret, condX_true, condX_false, ev_tmp, ev_const, putA, upd_at, Option.map_some, ↓reduceIte, Nat.reduceEqDiff, frOf_0, decide_false, ↓bindO_some, ↓bindF_some, ↓bindX_normal, ↓bindX_ret, ↓condX_true, ↓condX_false, fin_r, res_nil, res_tmp, pack_1, scal_vi, sy_load aL, sy_load aB, sy_faddr fW0, sy_faddr fW1, sy_box, scal_agg, f1, l1, hlen, c1, f0, l0, e]
      exact ⟨_, rfl, oldb, wfb⟩
    | false =>
      have hn' : ¬ z < 0 := by simpa using hnb
      have e : cmpZ z 0 = 1 := by unfold cmpZ; rw [if_neg hn', if_pos (by omega)]
      simp (disch := omega) only [Try.f145, es_seq, es_region, es_cond, es_block, es_skip, es_ret, ops_nil, ops_cons, st_assign, sy_len uL, sy_bin, binS_eql, bindO_some, bindF_some, bindX_normal, blkX_normal, condX_false, ev_tmp, ev_const, putA, upd_at, Option.map_some, ↓reduceIte, Nat.reduceEqDiff, frOf_0, decide_false, ↓bindO_some, ↓bindF_some, ↓bindX_normal, ↓condX_false, fin_r, res_nil, res_tmp, pack_1, scal_vi, sy_load aL, sy_load aB, sy_faddr fW0, sy_faddr fW1, sy_box, scal_agg, f1, l1, hlen, c1, f0, l0, e]
      exact ⟨_, rfl, oldb, wfb⟩
theorem minus_run {H : Heap} {v : Value} {z : Int} (hw : WF H) (hr : R H v (ints (nf z.natAbs))) (n : Nat) (hn : 10 ≤ n) :
    ∃ H', evB Try.prog noC n (.func (.func 85) #[] #[]) [.agg #[.bool (decide (z < 0)), v]] H = some (.agg #[.bool (decide (-z < 0)), v], H') ∧ Old H.length H H' ∧ WF H' := by
  generalize hnb : decide (z < 0) = nb
  refine run_of (F := 9) (Q := fun r => ∃ H', r = some (.agg #[.bool (decide (-z < 0)), v], H') ∧ Old H.length H H' ∧ WF H') (fun n hn => ?_) n hn
  rw [body_runS Try.func85 rfl (ok_fn (by rfl) Try.func85 rfl) (Nat.le_of_ble_eq_true rfl) (D := D0) (by kernel_rfl)]
  have oldb := Old.app H [.cells H.length true [.bool nb, v]]
  have wfb := hw.app (Nat.le_refl H.length) (o := true) (cs := [.bool nb, v])
  have bb := BxM.made (B := H.length) (H := H) (Nat.le_refl _) [.bool nb, v]
  have oldc := Old.app (H ++ [.cells H.length true [.bool nb, v]]) [.cells (H ++ [Blk.cells H.length true [.bool nb, v]]).length true [.bool false, .slice none 0 0]]
  have wfc := wfb.app (Nat.le_refl _) (o := true) (cs := [.bool false, .slice none 0 0])
  have cc := BxM.made (B := (H ++ [Blk.cells H.length true [.bool nb, v]]).length) (H := H ++ [.cells H.length true [.bool nb, v]]) (Nat.le_refl _) [.bool false, .slice none 0 0]
  generalize hH1 : H ++ [Blk.cells H.length true [.bool nb, v]] = H1 at *
  generalize hH2 : H1 ++ [Blk.cells H1.length true [.bool false, .slice none 0 0]] = H2 at *
  have bb2 := bb.mono oldc
  have f0 := bb.faddr 0
  have f1 := bb.faddr 1
  have l1 : loadS (bx (ptrA H.length 0) 1) H2 = some v := bb2.load 1
  have l0 : loadS (bx (ptrA H.length 0) 0) H2 = some (.bool nb) := bb2.load 0
  have hlen := hr.lenI
  have old02 := oldb.trans (oldc.mono oldb.1)
  have e1 : decide (-z < 0) = (!nb && decide ((0 : Int) < (nf z.natAbs).length)) := by
    rw [← hnb]
    by_cases hz : z = 0
    · subst hz
      rw [show ((0 : Int).natAbs : Int) = 0 from rfl, nf_zero]; rfl
    · have hne : (nf z.natAbs).length ≠ 0 := fun h => by have := nf_nil.1 (List.eq_nil_of_length_eq_zero h); omega
      rw [show decide ((0 : Int) < ((nf z.natAbs).length : Nat)) = true from by simp; omega, Bool.and_true, ← decide_not, decide_eq_decide]
      omega
  generalize hsb : decide (-z < 0) = sb at *
  obtain ⟨H3, s3, bb3, old3, wf3, keep3⟩ := bb2.set wfc (i := 0) (by simp) (v := .bool sb) rfl
  have s3 : storeS (bx (ptrA H.length 0) 0) (.bool sb) H2 = some H3 := s3
  have l3 : loadN 2 (ptrA H.length 0) H3 = some (.agg #[.bool sb, v]) := bb3.loadAll
  obtain ⟨H4, s4, cc4, old4, wf4, keep4⟩ := (cc.kept keep3 (Nat.le_refl _)).store wf3 (vs := [.bool sb, v]) rfl
  have s4 : storeN 2 (ptrA H1.length 0) (.agg #[.bool sb, v]) H3 = some H4 := s4
  have l4 : loadN 2 (ptrA H1.length 0) H4 = some (.agg #[.bool sb, v]) := cc4.loadAll
  have oldf := (old02.trans old3).trans (old4.mono oldb.1)
  cases nb with
  | true =>
    have e1 : sb = false := by simpa using e1
    subst e1
    simp (disch := omega) only [Try.f85, es_seq, es_region, es_ret, ops_nil, ops_cons, ops_consG, st_move, sy_pick, pickS_false, st_not, bindO_some, bindF_some, bindX_normal, iteB_false, ev_tmp, ev_const, putA, upd_at, Option.map_some, ↓reduceIte, Nat.reduceEqDiff, frOf_0, Bool.not_true, yieldO_eq, yO, yV_bool, some_true, List.getElem?_cons_zero, List.getElem?_cons_succ, ↓bindO_some, ↓bindF_some, ↓bindX_normal, ↓iteB_false, fin_r, res_nil, pack_1, sy_load aB, sy_store zB, sy_faddr fW0, sy_loadN aW zW, sy_storeN zW, sy_alloc iW scal_agg, sy_box, res_cell aW zW, scal_agg, hH1, hH2, f0, l0, s3, l3, s4, l4]
    exact ⟨_, rfl, oldf, wf4⟩
  | false =>
    rw [Bool.not_false, Bool.true_and] at e1
    simp (disch := omega) only [Try.f85, es_seq, es_region, es_ret, ops_nil, ops_cons, ops_consG, st_move, sy_pick, pickS_true, sy_len uL, sy_bin, st_not, binS_gtr, bindO_some, bindF_some, bindX_normal, iteB_true, ev_tmp, ev_const, putA, upd_at, Option.map_some, ↓reduceIte, Nat.reduceEqDiff, frOf_0, Bool.not_false, yieldO_eq, yO, yV_bool, List.getElem?_cons_zero, List.getElem?_cons_succ, beq_self_eq_true, ↓bindO_some, ↓bindF_some, ↓bindX_normal, ↓iteB_true, fin_r, res_nil, pack_1, sy_load aL, sy_load aB, sy_store zB, sy_faddr fW0, sy_faddr fW1, sy_loadN aW zW, sy_storeN zW, sy_alloc iW scal_agg, sy_box, res_cell aW zW, scal_agg, hH1, hH2, f0, l0, f1, l1, hlen, ← e1, s3, l3, s4, l4]
    exact ⟨_, rfl, oldf, wf4⟩
end Go.Proofs.Ytmmgdgmjkhcfaaa
