/- Integers of the reference: division. -/
import Derived.Test.YtmmgdgmjkhcfaaaSyD
set_option linter.all false
namespace Go.Proofs.Ytmmgdgmjkhcfaaa
open Go Go.Abs Go.Num
set_option maxRecDepth 10000
attribute [local congr] bindO_congr bindF_congr bindX_congr condX_congr iteB_congr binS_congr pickS_congr
noncomputable def divA : Code := atC [1, 1, 1, 0, 1, 0, 0] ((Try.f126.body).getD .skip)
noncomputable def divB : Code := atC [1, 1, 1, 0, 1, 0, 0, 1, 0, 0, 1, 1, 0, 0, 0] ((Try.f126.body).getD .skip)
theorem one_len {z : Int} (h0 : 0 ≤ z) (h1 : z < 100000000) : (nf z).length ≤ 1 := nf_len (by rw [show B ^ 1 = 100000000 from rfl]; omega) (by rw [show B ^ 1 = 100000000 from rfl]; omega)
theorem div_inner {H : Heap} {vb vr : Value} {y r : Int} (hw : WF H) (hb : R H vb (ints (nf y))) (hr : R H vr (ints (nf r))) (hy : 0 < y) (r0 : 0 ≤ r) (r1 : r < 100000000 * y) (ly : (nf y).length ≤ 400) (lr : (nf r).length ≤ 900) (n m nt : Nat) (hn : 2011 ≤ n) {a : Fr} {k : Nat} (hk : 27 < k)
    (h1 : a 1 = vb) (h7 : a 7 = vr) (h9 : a 9 = vi 0) (h10 : a 10 = vi 99999999) {v0 v6 v8 : Value} (h0 : a 0 = v0) (h6 : a 6 = v6) (h8 : a 8 = v8) :
    ∃ x a' H', loopN (evS Try.prog (evB Try.prog noC n) m nt none divB) k a H = some (x, a', H') ∧ x = .exit 2 ∧ a' 9 = vi (r / y) ∧ a' 0 = v0 ∧ a' 1 = vb ∧ a' 6 = v6 ∧ a' 7 = vr ∧ a' 8 = v8 ∧ Old H.length H H' ∧ WF H' := by
  have q0 : 0 ≤ r / y := Int.ediv_nonneg r0 (by omega)
  have q1 : r / y < 100000000 := Int.ediv_lt_of_lt_mul hy r1
  refine loop_wf (fun c a H' => a 0 = v0 ∧ a 1 = vb ∧ a 6 = v6 ∧ a 7 = vr ∧ a 8 = v8 ∧ Old H.length H H' ∧ WF H' ∧ ∃ low high : Int, a 9 = vi low ∧ a 10 = vi high ∧ 0 ≤ low ∧ low ≤ r / y ∧ r / y ≤ high ∧ high ≤ 99999999 ∧ high - low < ((2 ^ c : Nat) : Int)) _ ?_ k 27 a H hk
    ⟨h0, h1, h6, h7, h8, Old.refl _ _, hw, 0, 99999999, h9, h10, by omega, q0, by omega, by omega, by decide⟩
  intro c a H' ⟨h0, h1, h6, h7, h8, old, hw, low, high, h9, h10, b1, b2, b3, b4, b5⟩
  rw [show divB = atC [1, 1, 1, 0, 1, 0, 0, 1, 0, 0, 1, 1, 0, 0, 0] ((Try.f126.body).getD .skip) from rfl]
  by_cases hlt : low < high
  · left
    obtain ⟨d, rfl⟩ : ∃ d, c = d + 1 := ⟨c - 1, by
      cases c with
      | zero => simp at b5; omega
      | succ c => omega⟩
    rw [Nat.pow_succ] at b5
    have e1 : IntKind.i64.wrap (low + high) = low + high := wr64 (by omega) (by omega)
    have e2 : IntKind.i64.wrap (low + high + 1) = low + high + 1 := wr64 (by omega) (by omega)
    have e3 : (low + high + 1).tdiv 2 = (low + high + 1) / 2 := tdiv_pos (by omega) _
    have e4 : IntKind.i64.wrap ((low + high + 1) / 2) = (low + high + 1) / 2 := wr64 (by omega) (by omega)
    have e5 : IntKind.i64.wrap ((low + high + 1) / 2 - 1) = (low + high + 1) / 2 - 1 := wr64 (by omega) (by omega)
    have hb2 := hb.keep (Nat.le_refl _) old
    have hr2 := hr.keep (Nat.le_refl _) old
    have oldp := Old.app H' [.cells H'.length true [vi ((low + high + 1) / 2)]]
    have lm : (nf ((low + high + 1) / 2)).length ≤ 1 := one_len (by omega) (by omega)
    obtain ⟨v2, H2, s1, o2, old2, wf2⟩ := mul_run (hw.app (Nat.le_refl _)) (.of (hb2.mono oldp) (by omega)) (.one (Abs.R.push (f := H'.length) (c := vi ((low + high + 1) / 2))) (by omega) (by omega)) ly (by omega) n hn
    have lp := nf_len_mul y ((low + high + 1) / 2)
    have old12 := oldp.trans (old2.mono oldp.1)
    have ym0 : 0 ≤ y * ((low + high + 1) / 2) := Int.mul_nonneg (by omega) (by omega)
    have s2 := less_run (hr2.mono old12) o2.R r0 ym0 lr (by omega) n (by omega)
    by_cases hc : r < y * ((low + high + 1) / 2)
    · have hq : r / y < (low + high + 1) / 2 := Int.ediv_lt_of_lt_mul hy (by rw [Int.mul_comm]; exact hc)
      simp (disch := omega) only [Try.f126, Option.getD_some, atC, es_seq, es_region, es_cond, es_block, es_skip, ops_nil, ops_cons, st_move, st_assign, st_fun, sy_bin, sy_build1 eL oI, binS_lss, binS_add, binS_sub, binS_quo, bindO_some, bindF_some, bindX_normal, blkX_normal, condX_true, ev_tmp, ev_const, ev_func, putA, upd_at, ↓reduceIte, Nat.reduceEqDiff, List.map_cons, List.map_nil, decide_true, ↓bindO_some, ↓bindF_some, ↓bindX_normal, ↓condX_true, scal_vi, h1, h7, h9, h10, hlt, e1, e2, e3, e4, e5, s1, s2, hc]
      exact ⟨_, _, rfl, d, by omega, by simp only [upd_get, ↓reduceIte, Nat.reduceEqDiff, h0], by simp only [upd_get, ↓reduceIte, Nat.reduceEqDiff, h1], by simp only [upd_get, ↓reduceIte, Nat.reduceEqDiff, h6], by simp only [upd_get, ↓reduceIte, Nat.reduceEqDiff, h7], by simp only [upd_get, ↓reduceIte, Nat.reduceEqDiff, h8], old.trans (old12.mono old.1), wf2, low, (low + high + 1) / 2 - 1, by simp only [upd_get, ↓reduceIte, Nat.reduceEqDiff, h9], by simp only [upd_get, ↓reduceIte], b1, b2, by omega, by omega, by omega⟩
    · have hq : (low + high + 1) / 2 ≤ r / y := Int.le_ediv_of_mul_le hy (by rw [Int.mul_comm]; omega)
      simp (disch := omega) only [Try.f126, Option.getD_some, atC, es_seq, es_region, es_cond, es_block, es_skip, ops_nil, ops_cons, st_move, st_assign, st_fun, sy_bin, sy_build1 eL oI, binS_lss, binS_add, binS_quo, bindO_some, bindF_some, bindX_normal, blkX_normal, condX_true, condX_false, ev_tmp, ev_const, ev_func, putA, upd_at, ↓reduceIte, Nat.reduceEqDiff, List.map_cons, List.map_nil, decide_true, decide_false, ↓bindO_some, ↓bindF_some, ↓bindX_normal, ↓condX_true, ↓condX_false, scal_vi, h1, h7, h9, h10, hlt, e1, e2, e3, e4, s1, s2, hc]
      exact ⟨_, _, rfl, d, by omega, by simp only [upd_get, ↓reduceIte, Nat.reduceEqDiff, h0], by simp only [upd_get, ↓reduceIte, Nat.reduceEqDiff, h1], by simp only [upd_get, ↓reduceIte, Nat.reduceEqDiff, h6], by simp only [upd_get, ↓reduceIte, Nat.reduceEqDiff, h7], by simp only [upd_get, ↓reduceIte, Nat.reduceEqDiff, h8], old.trans (old12.mono old.1), wf2, (low + high + 1) / 2, high, by simp only [upd_get, ↓reduceIte], by simp only [upd_get, ↓reduceIte, Nat.reduceEqDiff, h10], by omega, hq, b3, b4, by omega⟩
  · right
    simp (disch := omega) only [Try.f126, Option.getD_some, atC, es_seq, es_region, es_cond, es_exit, ops_nil, ops_cons, st_move, sy_bin, binS_lss, bindO_some, bindF_some, bindX_normal, bindX_exit, condX_false, ev_tmp, putA, upd_at, ↓reduceIte, Nat.reduceEqDiff, decide_false, ↓bindO_some, ↓bindF_some, ↓bindX_normal, ↓bindX_exit, ↓condX_false, h9, h10, hlt]
    exact ⟨_, _, _, rfl, by simp, rfl, by simp only [upd_get, ↓reduceIte, Nat.reduceEqDiff, h9]; congr 1; omega, by simp only [upd_get, ↓reduceIte, Nat.reduceEqDiff, h0], by simp only [upd_get, ↓reduceIte, Nat.reduceEqDiff, h1], by simp only [upd_get, ↓reduceIte, Nat.reduceEqDiff, h6], by simp only [upd_get, ↓reduceIte, Nat.reduceEqDiff, h7], by simp only [upd_get, ↓reduceIte, Nat.reduceEqDiff, h8], old, hw⟩
theorem div_outer {H0 H : Heap} {va vb vq : Value} {x y : Int} {ql : List Int} (ha : R H0 va (ints (nf x))) (hb : R H0 vb (ints (nf y))) (x0 : 0 ≤ x) (hy : 0 < y) (lx : (nf x).length ≤ 390) (ly : (nf y).length ≤ 390)
    {B1 : Nat} (hB : H0.length ≤ B1) (hBH : B1 ≤ H.length) (old0 : Old H0.length H0 H) (hw : WF H) (hq : OM H0.length B1 H vq (ints ql)) (hql : ql.length = (nf x).length) (hqd : Dg ql) (n m nt : Nat) (hn : 2011 ≤ n) (hm : 1000 ≤ m) {a : Fr} {k : Nat} (hk : (nf x).length < k)
    (h0 : a 0 = va) (h1 : a 1 = vb) (h6 : a 6 = vq) (h7 : a 7 = .slice none 0 0) (h8 : a 8 = vi (((nf x).length : Int) - 1)) :
    ∃ r a' H', loopN (evS Try.prog (evB Try.prog noC n) m nt none divA) k a H = some (r, a', H') ∧ r = .exit 0 ∧ a' 6 = vq ∧ Old H0.length H0 H' ∧ WF H' ∧ ∃ vr ql, a' 7 = vr ∧ O H0.length H' vq (ints ql) ∧ O H0.length H' vr (ints (nf (x % y))) ∧ Dg ql ∧ val ql = x / y ∧ ql.length = (nf x).length := by
  refine loop_wf (fun j a H' => a 0 = va ∧ a 1 = vb ∧ a 6 = vq ∧ a 8 = vi ((j : Int) - 1) ∧ j ≤ (nf x).length ∧ B1 ≤ H'.length ∧ Old H0.length H0 H' ∧ WF H' ∧ ∃ vr ql R, a 7 = vr ∧ OM H0.length B1 H' vq (ints ql) ∧ O B1 H' vr (ints (nf R)) ∧ Dg ql ∧ ql.length = (nf x).length ∧ 0 ≤ R ∧ R < y ∧ val ((nf x).drop j) = y * val (ql.drop j) + R) _ ?_ k (nf x).length a H hk
    ⟨h0, h1, h6, h8, Nat.le_refl _, hBH, old0, hw, _, ql, 0, h7, hq, by rw [nf_zero]; exact O.nil _ _, hqd, hql, by omega, hy, by rw [List.drop_length, ← hql, List.drop_length]; simp [val]⟩
  intro j a H' ⟨h0, h1, h6, h8, hj, hBH, old, hw, vr, ql, R, h7, hq, hr, hqd, hql, R0, R1, hval⟩
  rw [show divA = atC [1, 1, 1, 0, 1, 0, 0] ((Try.f126.body).getD .skip) from rfl]
  by_cases hz : j = 0
  · subst hz
    right
    have c1 : decide ((0 : Int) ≤ ((0 : Nat) : Int) - 1) = false := rfl
    simp (disch := omega) only [Try.f126, Option.getD_some, atC, es_seq, es_region, es_cond, es_exit, ops_nil, ops_cons, st_move, sy_bin, binS_geq, bindO_some, bindF_some, bindX_normal, bindX_exit, condX_false, ev_tmp, ev_const, putA, upd_at, ↓reduceIte, ↓bindO_some, ↓bindF_some, ↓bindX_normal, ↓bindX_exit, ↓condX_false, h8, c1]
    rw [List.drop_zero, List.drop_zero, nf_val] at hval
    have hdm := Int.mul_ediv_add_emod x y
    have e1 : x / y = val ql := by
      rw [hval, Int.add_comm, Int.add_mul_ediv_left _ _ (by omega), Int.ediv_eq_zero_of_lt R0 R1, Int.zero_add]
    have e2 : x % y = R := by rw [e1] at hdm; omega
    exact ⟨_, _, _, rfl, by simp, rfl, by simp only [upd_get, ↓reduceIte, Nat.reduceEqDiff, h6], old, hw, vr, ql, by simp only [upd_get, ↓reduceIte, Nat.reduceEqDiff, h7], hq.O, by rw [e2]; exact hr.below hB, hqd, e1.symm, hql⟩
  · obtain ⟨i, rfl⟩ : ∃ i, j = i + 1 := ⟨j - 1, by omega⟩
    left
    rw [show ((i + 1 : Nat) : Int) - 1 = (i : Int) from by omega] at h8
    have c1 : (0 : Int) ≤ (i : Int) := by omega
    have e1 : IntKind.i64.wrap ((i : Int) - 1) = (i : Int) - 1 := wr64 (by omega) (by omega)
    have ha2 := ha.keep (Nat.le_refl _) old
    have hdx := (nf_dg x0).getD i
    have hi : i < (nf x).length := by omega
    -- the digit before the rest
    have oldp := Old.app H' [.cells H'.length true [vi ((nf x).getD i 0)]]
    have op : O B1 (H' ++ [.cells H'.length true [vi ((nf x).getD i 0)]]) (sliceA H'.length 0 1 1) [vi ((nf x).getD i 0)] := O.made (B := B1) hBH [vi ((nf x).getD i 0)]
    have wfp := hw.app (Nat.le_refl H'.length) (o := true) (cs := [vi ((nf x).getD i 0)])
    have lR : (nf R).length ≤ 390 := by
      have h1 := nf_size y
      exact Nat.le_trans (nf_len (by have := pow_pos (nf y).length; omega) (by omega)) ly
    obtain ⟨v2, H2, s2, o2, old2, wf2⟩ := op.app wfp (Nat.le_trans hBH oldp.1) (hr.R.mono oldp) (by rw [ints_len]; unfold maxA; simp; omega)
    rw [show [vi ((nf x).getD i 0)] ++ ints (nf R) = ints ((nf x).getD i 0 :: nf R) from rfl] at o2
    have bd : ∀ {m : List Int}, Dg m → ∀ x ∈ m, -4000000000000000000 ≤ x ∧ x ≤ 4000000000000000000 := fun h x hx => by have := h x hx; unfold B at this; omega
    have hdc : Dg ((nf x).getD i 0 :: nf R) := by
      intro z hz
      rcases List.mem_cons.1 hz with rfl | hz
      · exact hdx
      · exact nf_dg R0 z hz
    obtain ⟨v3, H3, s3, o3, old3, wf3⟩ := trim_run wf2 o2.R (by rw [List.length_cons]; omega) n (by omega)
    have et : trimL ((nf x).getD i 0 :: nf R) = nf ((nf x).getD i 0 + B * R) := nf_of_digs hdc (by simp only [val, nf_val])
    rw [et] at o3
    have old13 : Old B1 H' H3 := ((oldp.mono hBH).trans old2).trans (old3.mono (Nat.le_trans (Nat.le_trans hBH oldp.1) old2.1))
    have oldH3 : Old H0.length H0 H3 := old.trans (old13.mono hB)
    -- the search
    have Rn0 : 0 ≤ (nf x).getD i 0 + B * R := by unfold B; omega
    have Rn1 : (nf x).getD i 0 + B * R < 100000000 * y := by unfold B; omega
    have lRn : (nf ((nf x).getD i 0 + B * R)).length ≤ 900 := by
      rw [← et]
      exact Nat.le_trans (trimL_len _) (by rw [List.length_cons]; omega)
    have hb3 := hb.keep (Nat.le_refl _) oldH3
    have key := fun (A : Fr) => div_inner wf3 hb3 o3.R hy Rn0 Rn1 (by omega) lRn n m nt hn (a := A) (k := m) (by omega)
    rw [show divB = atC [1, 1, 1, 0, 1, 0, 0, 1, 0, 0, 1, 1, 0, 0, 0] ((Try.f126.body).getD .skip) from rfl] at key
    simp only [Try.f126, Option.getD_some, atC] at key
    simp (disch := omega) only [Try.f126, Option.getD_some, atC, es_seq, es_region, es_cond, es_block, es_loop, es_skip, ops_nil, ops_cons, st_move, st_assign, st_fun, sy_addr eL, sy_load aI, sy_store zI, sy_bin, sy_append eL pI, sy_build1 eL oI, binS_geq, bindO_some, bindF_some, bindX_normal, condX_true, ev_tmp, ev_const, ev_func, putA, upd_at, Option.map_some, ↓reduceIte, Nat.reduceEqDiff, Int.toNat_natCast, List.map_cons, List.map_nil, decide_true, ↓bindO_some, ↓bindF_some, ↓bindX_normal, ↓condX_true, scal_vi, h0, h7, h8, c1, ha2.addrI, ha2.loadI, s2, s3]
    generalize hA : upd _ 10 _ = A
    obtain ⟨r, a4, H4, e4, hr4, g9, g0, g1, g6, g7, g8, old4, wf4⟩ := key A (by subst hA; exact h1) (by subst hA; rfl) (by subst hA; rfl) (by subst hA; rfl) (v0 := va) (v6 := vq) (v8 := vi i) (by subst hA; exact h0) (by subst hA; exact h6) (by subst hA; exact h8)
    subst hr4
    rw [e4]
    clear key e4
    -- the quotient's digit
    have q0 : 0 ≤ ((nf x).getD i 0 + B * R) / y := Int.ediv_nonneg Rn0 (by omega)
    have q1 : ((nf x).getD i 0 + B * R) / y < 100000000 := Int.ediv_lt_of_lt_mul hy Rn1
    have old14 : Old B1 H' H4 := old13.trans (old4.mono (Nat.le_trans hBH old13.1))
    have hq4 := hq.mono old14
    obtain ⟨H5, s5, q5, old5, wf5, keep5⟩ := hq4.setI wf4 (i := i) (by omega) (((nf x).getD i 0 + B * R) / y)
    have hr5 := keep5 _ _ ((o3.below (Nat.le_trans (Nat.le_trans hBH oldp.1) old2.1)).mono old4)
    have oldH5 : Old H0.length H0 H5 := (old.trans (old14.mono hB)).trans old5
    have hb5 := hb.keep (Nat.le_refl _) oldH5
    have hq5R := q5.O.R
    have lq : (nf (((nf x).getD i 0 + B * R) / y)).length ≤ 1 := one_len q0 q1
    have oldp5 := Old.app H5 [.cells H5.length true [vi (((nf x).getD i 0 + B * R) / y)]]
    obtain ⟨v6, H6, s6, o6, old6, wf6⟩ := mul_run (wf5.app (Nat.le_refl _)) (.of (hb5.mono oldp5) (by omega)) (.one (Abs.R.push (f := H5.length) (c := vi (((nf x).getD i 0 + B * R) / y))) (by omega) (by omega)) (by omega) (by omega) n (by omega)
    have lp := nf_len_mul y (((nf x).getD i 0 + B * R) / y)
    have old56 := oldp5.trans (old6.mono oldp5.1)
    obtain ⟨v7, H7, s7, o7, old7, wf7⟩ := sub_run wf6 (.of (hr5.R.mono old56) (by omega)) (.of o6.R (by omega)) (by omega) (by omega) n (by omega)
    have old57 := old56.trans (old7.mono old56.1)
    have aq := hq4.O.R.addrI (i := (i : Int)) (by omega) (by omega)
    rw [Int.toNat_natCast] at aq
    simp (disch := omega) only [binS_sub, bindO_some, bindF_some, bindX_normal, blkX_normal, blkX_exit, upd_at, Option.map_some, ↓reduceIte, Nat.reduceEqDiff, ↓bindO_some, ↓bindF_some, ↓bindX_normal, scal_vi, g1, g6, g7, g8, g9, aq, s5, s6, s7, e1]
    have hB5 : B1 ≤ H5.length := Nat.le_trans (Nat.le_trans hBH old14.1) old5.1
    refine ⟨_, _, rfl, i, by omega, by simp only [upd_get, ↓reduceIte, Nat.reduceEqDiff, g0], by simp only [upd_get, ↓reduceIte, Nat.reduceEqDiff, g1], by simp only [upd_get, ↓reduceIte, Nat.reduceEqDiff, g6], by simp only [upd_get, ↓reduceIte], by omega, Nat.le_trans hB5 old57.1, oldH5.trans (old57.mono oldH5.1), wf7, v7, _, ((nf x).getD i 0 + B * R) % y, by simp only [upd_get, ↓reduceIte, Nat.reduceEqDiff], q5.mono (old57.mono hB5), ?_, hqd.set i q0 q1, by rw [List.length_set]; exact hql, Int.emod_nonneg _ (by omega), Int.emod_lt_of_pos _ hy, div_step hi (by omega) hy hval⟩
    have e8 : (nf x).getD i 0 + B * R - y * (((nf x).getD i 0 + B * R) / y) = ((nf x).getD i 0 + B * R) % y := by
      have := Int.mul_ediv_add_emod ((nf x).getD i 0 + B * R) y
      omega
    rw [← e8]
    exact o7.below (Nat.le_trans hB5 old56.1)
def TwoL (H : Heap) (r : Option (Value × Heap)) (f : Value → Value → Value) (l m : List Int) : Prop := ∃ v1 v2 H', r = some (f v1 v2, H') ∧ O H.length H' v1 (ints l) ∧ O H.length H' v2 (ints m) ∧ Old H.length H H' ∧ WF H'
theorem divide_run {H : Heap} {va vb : Value} {x y : Int} (hw : WF H) (ha : R H va (ints (nf x))) (hb : R H vb (ints (nf y))) (x0 : 0 ≤ x) (hy : 0 < y) (lx : (nf x).length ≤ 390) (ly : (nf y).length ≤ 390) (n : Nat) (hn : 2012 ≤ n) :
    TwoL H (evB Try.prog noC n (.func (.func 126) #[] #[]) [va, vb] H) (fun q r => .tuple #[q, r]) (nf (x / y)) (nf (x % y)) := by
  refine run_of (F := 2011) (Q := fun z => TwoL H z (fun q r => .tuple #[q, r]) (nf (x / y)) (nf (x % y))) (fun n hn => ?_) n hn
  rw [body_runS Try.func126 rfl (ok_fn (by rfl) Try.func126 rfl) (Nat.le_of_ble_eq_true rfl) (D := D0) (by kernel_rfl)]
  have hlr : (ints (List.replicate (nf x).length (0 : Int))).length = (nf x).length := by rw [ints_len, List.length_replicate]
  have or := O.made (B := H.length) (Nat.le_refl _) (ints (List.replicate (nf x).length (0 : Int)))
  rw [hlr] at or
  have oldr := Old.app H [.cells H.length true (ints (List.replicate (nf x).length (0 : Int)))]
  have wfr := hw.app (Nat.le_refl H.length) (o := true) (cs := ints (List.replicate (nf x).length (0 : Int)))
  have hz := zeros_I (nf x).length
  have hm1 : ((nf x).length : Int) ≤ 1048576 := by omega
  have e1 : IntKind.i64.wrap (((nf x).length : Int) - 1) = ((nf x).length : Int) - 1 := wr64 (by omega) (by omega)
  have dz : Dg (List.replicate (nf x).length (0 : Int)) := fun z hz => by have := List.eq_of_mem_replicate hz; subst this; exact ⟨by omega, by decide⟩
  have key := fun (A : Fr) => div_outer ha hb x0 hy lx ly (B1 := (H ++ [Blk.cells H.length true (ints (List.replicate (nf x).length (0 : Int)))]).length) oldr.1 (Nat.le_refl _) oldr wfr (OM.of or wfr) (List.length_replicate ..) dz n n Try.f126.ntmps hn (by omega) (a := A) (k := n) (by omega)
  rw [show divA = atC [1, 1, 1, 0, 1, 0, 0] ((Try.f126.body).getD .skip) from rfl] at key
  simp only [Try.f126, Option.getD_some, atC] at key
  simp (disch := omega) only [Try.f126, es_seq, es_region, es_block, es_loop, es_ret, ops_nil, ops_cons, st_move, st_assign, st_fun, sy_len uL, sy_bin, sy_make eL yI (by decide), binS_sub, bindO_some, bindF_some, bindX_normal, ev_tmp, ev_const, ev_func, putA, upd_at, Option.map_some, ↓reduceIte, Nat.reduceEqDiff, Int.toNat_natCast, Int.natCast_nonneg, frOf_0, List.map_cons, List.map_nil, ↓bindO_some, ↓bindF_some, ↓bindX_normal, ha.lenI, hm1, Int.le_refl, and_true, hz, e1]
  generalize hA : upd _ 8 _ = A
  obtain ⟨r, a', H', e, hr, g6, old, hwf, vr, ql, g7, oq, orr, hqd, hqv, hql⟩ := key A (by subst hA; rfl) (by subst hA; rfl) (by subst hA; rfl) (by subst hA; rfl) (by subst hA; rfl)
  subst hr
  rw [e]
  clear key e
  obtain ⟨v2, H2, s2, o2, old2, wf2⟩ := trim_run hwf oq.R (by omega) n (by omega)
  have or2 := orr.mono old2
  simp (disch := omega) only [bindO_some, bindF_some, bindX_normal, blkX_exit, upd_at, Option.map_some, ↓reduceIte, Nat.reduceEqDiff, ↓bindO_some, ↓bindF_some, ↓bindX_normal, fin_r, res_nil, res_tmp, pack_2, g6, g7, s2, o2.R.scal, or2.R.scal]
  refine ⟨_, _, _, rfl, ?_, or2, old.trans (old2.mono old.1), wf2⟩
  rw [nf_of_digs hqd hqv] at o2
  exact o2.below old.1
theorem natAbs_pos {x : Int} (h : 0 ≤ x) : (x.natAbs : Int) = x := by omega
theorem divmod_run {H : Heap} {vx vy : Value} {x y : Int} (hw : WF H) (hx : NumV H vx x) (hy : NumV H vy y) (x0 : 0 ≤ x) (y0 : 0 < y) (lx : (nf x).length ≤ 390) (ly : (nf y).length ≤ 390) (n : Nat) (hn : 2013 ≤ n) :
    TwoL H (evB Try.prog noC n (.func (.func 103) #[] #[]) [vx, vy] H) (fun q r => .tuple #[q, r, vi 0]) (nf (x / y)) (nf (x % y)) := by
  refine run_of (F := 2012) (Q := fun z => TwoL H z (fun q r => .tuple #[q, r, vi 0]) (nf (x / y)) (nf (x % y))) (fun n hn => ?_) n hn
  rw [body_runS Try.func103 rfl (ok_fn (by rfl) Try.func103 rfl) (Nat.le_of_ble_eq_true rfl) (D := D0) (by kernel_rfl)]
  obtain ⟨v1, H1, s1, o1, old1, wf1⟩ := hx.norm hw n (by omega)
  obtain ⟨v2, H2, s2, o2, old2, wf2⟩ := (hy.mono old1).norm wf1 n (by omega)
  have old12 := old1.trans (old2.mono old1.1)
  obtain ⟨v3, H3, s3, o3, old3, wf3⟩ := size_run wf2 (o1.R.mono old2) (by omega) n (by omega)
  obtain ⟨v4, H4, s4, o4, old4, wf4⟩ := size_run wf3 (o2.R.mono old3) (by omega) n (by omega)
  rw [natAbs_pos x0] at o3
  rw [natAbs_pos (by omega)] at o4
  have old14 := (old12.trans (old3.mono old12.1)).trans (old4.mono (Nat.le_trans old12.1 old3.1))
  obtain ⟨v5, v6, H5, s5, o5, o6, old5, wf5⟩ := divide_run wf4 (o3.R.mono old4) o4.R x0 y0 lx ly n (by omega)
  have old15 := old14.trans (old5.mono old14.1)
  have old35 := (old3.trans (old4.mono old3.1)).trans (old5.mono (Nat.le_trans old3.1 old4.1))
  have s6 := negative_run (z := x) ((o1.R.mono old2).mono old35) (by omega) n (by omega)
  have s7 := negative_run (z := y) (o2.R.mono old35) (by omega) n (by omega)
  have c1 : decide (x < 0) = false := by simp; omega
  have c2 : decide (y < 0) = false := by simp; omega
  have hly : (nf y).length ≠ 0 := fun h => by have := nf_nil.1 (List.eq_nil_of_length_eq_zero h); omega
  have c3 : ¬ ((nf y).length : Int) = 0 := by omega
  have r2 := o2.R.lenI
  simp (disch := omega) only [Try.f103, es_seq, es_region, es_cond, es_skip, es_ret, ops_nil, ops_cons, st_move, st_assign, st_fun, sy_len uL, sy_bin, sy_ext, ext_20, ext_21, binS_eql, bindO_some, bindF_some, bindX_normal, condX_false, ev_tmp, ev_const, ev_func, putA, upd_at, Option.map_some, ↓reduceIte, Nat.reduceEqDiff, frOf_0, frOf_1, List.map_cons, List.map_nil, decide_false, ↓bindO_some, ↓bindF_some, ↓bindX_normal, ↓condX_false, fin_r, res_nil, res_tmp, pack_3, scal_vi, s1, s2, s3, s4, s5, s6, s7, c1, c2, c3, r2, o5.R.scal, o6.R.scal]
  exact ⟨_, _, _, rfl, o5.below old14.1, o6.below old14.1, old15, wf5⟩
theorem quot_run {H : Heap} {vx vy : Value} {x y : Int} (hw : WF H) (hx : NumV H vx x) (hy : NumV H vy y) (x0 : 0 ≤ x) (y0 : 0 < y) (lx : (nf x).length ≤ 390) (ly : (nf y).length ≤ 390) (n : Nat) (hn : 2014 ≤ n) :
    OneL H (evB Try.prog noC n (.func (.func 69) #[] #[]) [vx, vy] H) (nf (x / y)) := by
  refine run_of (F := 2013) (Q := fun z => OneL H z (nf (x / y))) (fun n hn => ?_) n hn
  rw [body_runS Try.func69 rfl (ok_fn (by rfl) Try.func69 rfl) (Nat.le_of_ble_eq_true rfl) (D := D0) (by kernel_rfl)]
  obtain ⟨v1, v2, H1, s1, o1, o2, old1, wf1⟩ := divmod_run hw hx hy x0 y0 lx ly n (by omega)
  simp (disch := omega) only [Try.f69, es_seq, es_region, es_ret, ops_nil, ops_cons, st_move, st_assign, st_fun, sy_ext, bindO_some, bindF_some, bindX_normal, ev_tmp, ev_const, ev_func, putA, upd_at, Option.map_some, ↓reduceIte, Nat.reduceEqDiff, frOf_0, frOf_1, List.map_cons, List.map_nil, ↓bindO_some, ↓bindF_some, ↓bindX_normal, fin_r, res_nil, res_tmp, pack_1, s1, ext_30, ext_31, ext_32, o1.R.scal]
  exact ⟨_, _, rfl, o1, old1, wf1⟩
noncomputable def gcdA : Code := atC [1, 1, 0, 0, 0] ((Try.f109.body).getD .skip)
end Go.Proofs.Ytmmgdgmjkhcfaaa
