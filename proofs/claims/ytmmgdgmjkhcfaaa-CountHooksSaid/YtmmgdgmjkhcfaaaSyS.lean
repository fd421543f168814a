/- Products whose digits may be made longer. -/
import Derived.Test.YtmmgdgmjkhcfaaaSyP
set_option linter.all false
namespace Go.Proofs.Ytmmgdgmjkhcfaaa
open Go Go.Abs Go.Num
set_option maxRecDepth 10000
attribute [local congr] bindO_congr bindF_congr bindX_congr condX_congr iteB_congr binS_congr pickS_congr eqB_congr nilS_congr clsW_congr maxS_congr minS_congr
theorem trimmedO_run {C : Nat} {H : Heap} {v : Value} {l : List Int} (hv : OP C H v (ints l)) (hl : l.length ≤ 1000) (n : Nat) (hn : 2000 ≤ n) : ∃ v', evB Try.prog noC n (.func (.func 114) #[] #[]) [v] H = some (v', H) ∧ OP C H v' (ints (trimL l)) := by
  refine run_of (F := 1999) (Q := fun x => ∃ v', x = some (v', H) ∧ OP C H v' (ints (trimL l))) (fun n hn => ?_) n hn
  rw [body_runS Try.func114 rfl (ok_fn (by rfl) Try.func114 rfl) (Nat.le_of_ble_eq_true rfl) (D := D0) (by kernel_rfl)]
  have key : ∀ A : Fr, A 0 = v → ∃ x a' H', loopN (evS Try.prog (evB Try.prog noC n) n Try.f114.ntmps none trmA) n A H = some (x, a', H') ∧ x = .exit 0 ∧ H' = H ∧ ∃ v', a' 0 = v' ∧ OP C H v' (ints (trimL l)) := by
    intro A h0
    refine loop_wf (fun n a H' => H' = H ∧ ∃ v', a 0 = v' ∧ OP C H v' (ints (l.take n)) ∧ n ≤ l.length ∧ trimL (l.take n) = trimL l) _ ?_ n l.length A H (by omega) ⟨rfl, v, h0, by rw [List.take_length]; exact hv, Nat.le_refl _, by rw [List.take_length]⟩
    intro c a H' ⟨hH, v', h0, hr, hc, ht⟩
    subst hH
    have hlc : (l.take c).length = c := by rw [List.length_take]; omega
    have hlen := hr.RO.R.lenI
    rw [hlc] at hlen
    rw [show trmA = atC [1, 0, 0, 0] ((Try.f114.body).getD .skip) from rfl]
    by_cases hz : c = 0
    · subst hz
      right
      have c1 : decide ((0 : Int) < ((0 : Nat) : Int)) = false := rfl
      simp (disch := omega) only [Try.f114, Option.getD_some, atC, es_seq, es_region, es_cond, es_exit, ops_nil, ops_cons, ops_consG, st_move, sy_pick, pickS_false, sy_len uL, sy_bin, binS_gtr, bindO_some, bindF_some, bindX_normal, bindX_exit, condX_false, iteB_false, ev_tmp, ev_const, putA, upd_at, Option.map_some, ↓reduceIte, Nat.reduceEqDiff, yieldO_eq, yO, yV_bool, some_true, List.getElem?_cons_zero, List.getElem?_cons_succ, ↓bindO_some, ↓bindF_some, ↓bindX_normal, ↓bindX_exit, ↓condX_false, ↓iteB_false, h0, hlen, c1]
      exact ⟨_, _, _, rfl, by simp, rfl, rfl, v', by simp only [upd_get, ↓reduceIte, Nat.reduceEqDiff, h0], by rw [← ht]; exact hr⟩
    · obtain ⟨d, rfl⟩ : ∃ d, c = d + 1 := ⟨c - 1, by omega⟩
      have c1 : (0 : Int) < ((d + 1 : Nat) : Int) := by omega
      have e1 : IntKind.i64.wrap (((d + 1 : Nat) : Int) - 1) = (d : Int) := by rw [wr64 (by omega) (by omega)]; omega
      have hx := take_snoc' (l := l) (c := d) (by omega)
      have a1 : addrS 1 v' (vi d) = some (pt v' d) := by have := hr.RO.R.addrI (i := (d : Int)) (by omega) (by omega); simpa using this
      have l1 : loadS (pt v' d) H' = some (vi (l.getD d 0)) := by
        have := hr.RO.R.loadI (i := d) (by omega)
        rw [this, hx, List.getD_eq_getElem?_getD, List.getElem?_append_right (by rw [List.length_take]; omega), List.length_take, Nat.min_eq_left (by omega), Nat.sub_self]
        rfl
      rw [hx, trimL_snoc] at ht
      by_cases hy : l.getD d 0 = 0
      · left
        rw [if_pos hy] at ht
        obtain ⟨v2, s2, r2⟩ := hr.upto (c := d) (by omega)
        rw [List.take_take, Nat.min_eq_left (by omega)] at r2
        simp (disch := omega) only [Try.f114, Option.getD_some, atC, es_seq, es_region, es_cond, es_block, es_skip, ops_nil, ops_cons, ops_consG, st_move, st_assign, sy_pick, pickS_true, sy_len uL, sy_addr eL, sy_load aI, sy_bin, sy_slice eL, binS_gtr, binS_eql, binS_sub, bindO_some, bindF_some, bindX_normal, blkX_normal, condX_true, iteB_true, ev_tmp, ev_const, putA, upd_at, Option.map_some, ↓reduceIte, Nat.reduceEqDiff, decide_true, yieldO_eq, yO, yV_bool, List.getElem?_cons_zero, List.getElem?_cons_succ, beq_self_eq_true, ↓bindO_some, ↓bindF_some, ↓bindX_normal, ↓condX_true, ↓iteB_true, h0, hlen, c1, e1, a1, l1, hy, Option.map_none, s2]
        exact ⟨_, _, rfl, d, by omega, rfl, v2, by simp only [upd_get, ↓reduceIte], r2, by omega, ht⟩
      · right
        rw [if_neg hy] at ht
        simp (disch := omega) only [Try.f114, Option.getD_some, atC, es_seq, es_region, es_cond, es_exit, ops_nil, ops_cons, ops_consG, st_move, sy_pick, pickS_true, sy_len uL, sy_addr eL, sy_load aI, sy_bin, binS_gtr, binS_eql, binS_sub, bindO_some, bindF_some, bindX_normal, bindX_exit, condX_false, iteB_true, ev_tmp, ev_const, putA, upd_at, Option.map_some, ↓reduceIte, Nat.reduceEqDiff, decide_true, decide_false, yieldO_eq, yO, yV_bool, List.getElem?_cons_zero, List.getElem?_cons_succ, beq_self_eq_true, ↓bindO_some, ↓bindF_some, ↓bindX_normal, ↓bindX_exit, ↓condX_false, ↓iteB_true, h0, hlen, c1, e1, a1, l1, hy]
        exact ⟨_, _, _, rfl, by simp, rfl, rfl, v', by simp only [upd_get, ↓reduceIte, Nat.reduceEqDiff, h0], by rw [← ht, ← hx]; exact hr⟩
  rw [show trmA = atC [1, 0, 0, 0] ((Try.f114.body).getD .skip) from rfl] at key
  simp only [Try.f114, Option.getD_some, atC] at key
  simp (disch := omega) only [Try.f114, es_seq, es_region, es_block, es_loop, es_ret, ops_nil, ops_cons, st_move, st_assign, bindO_some, bindF_some, bindX_normal, ev_tmp, ev_const, putA, upd_at, ↓reduceIte, ↓bindO_some, ↓bindF_some, ↓bindX_normal]
  generalize hA : upd _ 2 _ = A
  obtain ⟨x, a', H', e, hx, hH, v', h0, r⟩ := key A (by subst hA; rfl)
  subst hx
  subst hH
  rw [e]
  simp (disch := omega) only [bindX_normal, blkX_exit, upd_at, Option.map_some, ↓reduceIte, ↓bindX_normal, fin_r, res_nil, res_tmp, pack_1, h0, r.RO.R.scal]
  exact ⟨_, rfl, r⟩
def OneWO (H : Heap) (r : Option (Value × Heap)) (z : Int) : Prop := ∃ w H', r = some (w, H') ∧ (∃ v, w = .agg #[.bool (decide (z < 0)), v] ∧ OP H.length H' v (ints (nf z.natAbs))) ∧ Old H.length H H' ∧ WF H'
theorem timesO_run {C : Nat} {H : Heap} {wx wy : Value} {x y : Int} (hw : WF H) (hx : Wh C H wx x) (hy : Wh C H wy y) (lx : (nf x.natAbs).length ≤ 390) (ly : (nf y.natAbs).length ≤ 390) (n : Nat) (hn : 2010 ≤ n) :
    OneWO H (evB Try.prog noC n (.func (.func 88) #[] #[]) [wx, wy] H) (x * y) := by
  obtain ⟨vx, rfl, hx⟩ := hx
  obtain ⟨vy, rfl, hy⟩ := hy
  have hx := hx.R
  have hy := hy.R
  generalize hnx : decide (x < 0) = nx
  generalize hny : decide (y < 0) = ny
  refine run_of (F := 2009) (Q := fun r => OneWO H r (x * y)) (fun n hn => ?_) n hn
  rw [body_runS Try.func88 rfl (ok_fn (by rfl) Try.func88 rfl) (Nat.le_of_ble_eq_true rfl) (D := D1) (by kernel_rfl)]
  have old1 := Old.app H [.cells H.length true [.bool nx, vx]]
  have wf1 := hw.app (Nat.le_refl H.length) (o := true) (cs := [.bool nx, vx])
  have b1 := BxM.made (B := H.length) (H := H) (Nat.le_refl _) [.bool nx, vx]
  generalize hH1 : H ++ [Blk.cells H.length true [.bool nx, vx]] = H1 at *
  have old2 := Old.app H1 [.cells H1.length true [.bool ny, vy]]
  have wf2 := wf1.app (Nat.le_refl H1.length) (o := true) (cs := [.bool ny, vy])
  have b2 := BxM.made (B := H1.length) (H := H1) (Nat.le_refl _) [.bool ny, vy]
  generalize hH2 : H1 ++ [Blk.cells H1.length true [.bool ny, vy]] = H2 at *
  have old3 := Old.app H2 [.cells H2.length true [.bool false, .slice none 0 0]]
  have wf3 := wf2.app (Nat.le_refl H2.length) (o := true) (cs := [.bool false, .slice none 0 0])
  have b3 := BxM.made (B := H2.length) (H := H2) (Nat.le_refl _) [.bool false, .slice none 0 0]
  generalize hH3 : H2 ++ [Blk.cells H2.length true [.bool false, .slice none 0 0]] = H3 at *
  have old13 := old2.trans (old3.mono old2.1)
  have old03 := old1.trans (old13.mono old1.1)
  have b1 := b1.mono old13
  have b2 := b2.mono old3
  have f10 := b1.faddr 0
  have f11 := b1.faddr 1
  have f20 := b2.faddr 0
  have f21 := b2.faddr 1
  have l11 : loadS (bx (ptrA H.length 0) 1) H3 = some vx := b1.load 1
  have l21 : loadS (bx (ptrA H1.length 0) 1) H3 = some vy := b2.load 1
  have hx3 := hx.mono old03
  have hy3 := hy.mono old03
  have hlx := hx.lenI
  have hly := hy.lenI
  -- the end: the box of the result
  have fin : ∀ (H4 : Heap) (v : Value) (nb : Bool) (z : Int), Old H3.length H3 H4 → WF H4 → OP H3.length H4 v (ints (nf z.natAbs)) → decide (z < 0) = nb → ∃ H5, storeN 2 (ptrA H2.length 0) (.agg #[.bool nb, v]) H4 = some H5 ∧ loadN 2 (ptrA H2.length 0) H5 = some (.agg #[.bool nb, v]) ∧ OneWO H (some (.agg #[.bool nb, v], H5)) z ∧ Old H2.length H3 H5 := by
    intro H4 v nb z old4 wf4 r4 hz
    obtain ⟨H5, s5, b5, old5, wf5, keep5⟩ := (b3.mono old4).store wf4 (vs := [.bool nb, v]) rfl
    exact ⟨H5, s5, b5.loadAll, ⟨_, _, rfl, ⟨v, by rw [hz], (r4.kept keep5).below old03.1⟩, (old03.trans (old4.mono old03.1)).trans (old5.mono (Nat.le_trans old1.1 old2.1)), wf5⟩, (old4.mono old3.1).trans old5⟩
  by_cases hx0 : x = 0
  · have hz : x * y = 0 := by rw [hx0]; exact Int.zero_mul y
    have e0 : ((nf x.natAbs).length : Int) = 0 := by rw [hx0, show ((0 : Int).natAbs : Int) = 0 from rfl, nf_zero]; rfl
    have e1 : decide (((nf x.natAbs).length : Int) = 0) = true := by rw [e0]; rfl
    obtain ⟨H5, s5, s6, ow, _⟩ := fin H3 (.slice none 0 0) false (x * y) (Old.refl _ _) wf3 (by rw [hz, show ((0 : Int).natAbs : Int) = 0 from rfl, nf_zero]; exact .inl ⟨rfl, rfl⟩) (by rw [hz]; rfl)
    simp (disch := omega) only [Try.f88, es_seq, es_region, es_cond, es_ret, ops_nil, ops_cons, ops_consG, st_move, sy_pick, pickS_true, sy_len uL, sy_bin, binS_eql, bindO_some, bindF_some, bindX_normal, bindX_ret, condX_true, iteB_false, ev_tmp, ev_const, putA, upd_at, Option.map_some, ↓reduceIte, Nat.reduceEqDiff, frOf_0, frOf_1, List.map_nil, Bool.not_true, yieldO_eq, yO, yV_bool, some_false, List.getElem?_cons_zero, List.getElem?_cons_succ, ↓bindO_some, ↓bindF_some, ↓bindX_normal, ↓bindX_ret, ↓condX_true, ↓iteB_false, fin_r, res_nil, pack_1, sy_load aL, sy_faddr fW1, sy_storeN zW, sy_alloc iW scal_agg, sy_box, sy_build, bW0, res_cell aW zW, scal_agg, hH1, hH2, hH3, f11, l11, hlx, e1, s5, s6]
    exact ow
  · have ex : decide (((nf x.natAbs).length : Int) = 0) = false := decide_eq_false (by have := (nf_last (z := (x.natAbs : Int)) (by omega)).1; omega)
    by_cases hy0 : y = 0
    · have hz : x * y = 0 := by rw [hy0]; exact Int.mul_zero x
      have e0 : ((nf y.natAbs).length : Int) = 0 := by rw [hy0, show ((0 : Int).natAbs : Int) = 0 from rfl, nf_zero]; rfl
      have e1 : decide (((nf y.natAbs).length : Int) = 0) = true := by rw [e0]; rfl
      obtain ⟨H5, s5, s6, ow, _⟩ := fin H3 (.slice none 0 0) false (x * y) (Old.refl _ _) wf3 (by rw [hz, show ((0 : Int).natAbs : Int) = 0 from rfl, nf_zero]; exact .inl ⟨rfl, rfl⟩) (by rw [hz]; rfl)
      simp (disch := omega) only [Try.f88, es_seq, es_region, es_cond, es_ret, ops_nil, ops_cons, ops_consG, st_move, sy_pick, pickS_false, sy_len uL, sy_bin, binS_eql, bindO_some, bindF_some, bindX_normal, bindX_ret, condX_true, iteB_true, ev_tmp, ev_const, putA, upd_at, Option.map_some, ↓reduceIte, Nat.reduceEqDiff, frOf_0, frOf_1, List.map_nil, yieldO_eq, yO, yV_bool, List.getElem?_cons_zero, List.getElem?_cons_succ, beq_self_eq_true, ↓bindO_some, ↓bindF_some, ↓bindX_normal, ↓bindX_ret, ↓condX_true, ↓iteB_true, fin_r, res_nil, pack_1, sy_load aL, sy_faddr fW1, sy_storeN zW, sy_alloc iW scal_agg, sy_box, sy_build, bW0, res_cell aW zW, scal_agg, hH1, hH2, hH3, f11, f21, l11, l21, hlx, hly, ex, e1, s5, s6]
      exact ow
    · have ey : decide (((nf y.natAbs).length : Int) = 0) = false := decide_eq_false (by have := (nf_last (z := (y.natAbs : Int)) (by omega)).1; omega)
      have hsg := mul_sign hnx hny hx0 hy0
      have hab : ((x * y).natAbs : Int) = x.natAbs * y.natAbs := by rw [Int.natAbs_mul]; exact Int.natCast_mul ..
      have e1 : IntKind.i64.wrap (((nf x.natAbs).length : Int) + ((nf y.natAbs).length : Int)) = (((nf y.natAbs).length + (nf x.natAbs).length : Nat) : Int) := by rw [wr64 (by omega) (by omega)]; omega
      have c2 : (0 : Int) ≤ (((nf y.natAbs).length + (nf x.natAbs).length : Nat) : Int) := by omega
      have c3 : (((nf y.natAbs).length + (nf x.natAbs).length : Nat) : Int) ≤ 1048576 := by omega
      have hz := zeros_I ((nf y.natAbs).length + (nf x.natAbs).length)
      have hlr : (ints (List.replicate ((nf y.natAbs).length + (nf x.natAbs).length) (0 : Int))).length = (nf y.natAbs).length + (nf x.natAbs).length := by rw [ints_len, List.length_replicate]
      have or := O.made (B := H3.length) (Nat.le_refl H3.length) (ints (List.replicate ((nf y.natAbs).length + (nf x.natAbs).length) (0 : Int)))
      rw [hlr] at or
      have oldm := Old.app H3 [.cells H3.length true (ints (List.replicate ((nf y.natAbs).length + (nf x.natAbs).length) (0 : Int)))]
      have wfm := wf3.app (Nat.le_refl H3.length) (o := true) (cs := ints (List.replicate ((nf y.natAbs).length + (nf x.natAbs).length) (0 : Int)))
      have l11m : loadS (bx (ptrA H.length 0) 1) (H3 ++ [.cells H3.length true (ints (List.replicate ((nf y.natAbs).length + (nf x.natAbs).length) (0 : Int)))]) = some vx := (b1.mono (oldm.mono (by have := old2.1; have := old3.1; omega))).load 1
      have key := fun (A : Fr) => tim_outer (p2 := ptrA H.length 0) (p4 := ptrA H2.length 0) oldm.1 f21 (fun G hG => (b2.mono ((oldm.trans hG).mono old3.1)).load 1) (fun G hG => hx3.mono (oldm.trans hG)) (fun G hG => hy3.mono (oldm.trans hG)) (by omega) (by omega) (by omega) (by omega) or wfm (evB Try.prog noC n) n Try.f88.ntmps (by omega) (a := A) (k := n) (by omega)
      rw [show timA = atC [1, 1, 1, 0, 1, 0, 0] ((Try.f88.body).getD .skip) from rfl] at key
      have kr := fun (A : Fr) {G G' : Heap} {vo d : Value} => tim_r16 (H := G) (H6 := G') (px := ptrA H.length 0) (py := ptrA H1.length 0) (p4 := ptrA H2.length 0) (vo := vo) (d := d) (nx := nx) (ny := ny) (evB Try.prog noC n) n Try.f88.ntmps none (a := A) (q0 := bx (ptrA H.length 0) 0) (q1 := bx (ptrA H1.length 0) 0)
      simp only [Try.f88, Option.getD_some, atC] at key kr
      simp (disch := omega) only [Try.f88, es_seq, es_region, es_cond, es_block, es_loop, es_skip, es_ret, ops_nil, ops_cons, ops_consG, st_move, st_assign, sy_pick, pickS_false, sy_len uL, sy_bin, sy_make eL yI (by decide), binS_eql, binS_add, bindO_some, bindF_some, bindX_normal, condX_false, iteB_true, ev_tmp, ev_const, putA, upd_at, Option.map_some, ↓reduceIte, Nat.reduceEqDiff, Int.toNat_natCast, frOf_0, frOf_1, yieldO_eq, yO, yV_bool, List.getElem?_cons_zero, List.getElem?_cons_succ, beq_self_eq_true, ↓bindO_some, ↓bindF_some, ↓bindX_normal, ↓condX_false, ↓iteB_true, sy_load aL, sy_faddr fW1, sy_alloc iW scal_agg, sy_box, scal_agg, hH1, hH2, hH3, f11, f21, l11, l21, hlx, hly, ex, ey, e1, c2, c3, Int.le_refl, and_self, hz, l11m]
      generalize hA : upd _ 34 _ = A
      obtain ⟨r, a', H', e, hr, g2, g3, g4, g5, old4, wf4, lo, ol, hd, hll, hval⟩ := key A (by subst hA; rfl) (by subst hA; rfl) (by subst hA; rfl) (by subst hA; rfl) (by subst hA; rfl) (by subst hA; rfl) (by subst hA; rfl)
      subst hr
      rw [e]
      clear e key
      have old34 := oldm.trans old4
      obtain ⟨d, sd, rd⟩ := trimmedO_run ol.OP (by omega) n (by omega)
      rw [nf_of_digs hd hval, ← hab] at rd
      obtain ⟨H5, s5, s6, ow, old5⟩ := fin H' d _ (x * y) old34 wf4 rd hsg
      have old5' := old5.mono old2.1
      have old35 := old34.mono (Nat.le_trans old2.1 old3.1)
      obtain ⟨a2, H2', e2, hH', g4'⟩ := kr a' (G := H') (G' := H5) g2 g3 g4 g5 f10 f20 (fun G h => by
        rcases h with rfl | rfl
        · exact (b1.mono old35).load 0
        · exact (b1.mono old5').load 0) (fun G h => by
        rcases h with rfl | rfl
        · exact (b2.mono (old34.mono old3.1)).load 0
        · exact (b2.mono old5).load 0) sd rd.RO.R.scal s5
      subst hH'
      simp (disch := omega) only [bindX_normal, blkX_exit, ↓reduceIte, ↓bindX_normal]
      rw [e2]
      simp (disch := omega) only [bindX_normal, Option.map_some, ↓bindX_normal, fin_r, res_nil, pack_1, res_cell aW zW, g4', s6]
      exact ow
end Go.Proofs.Ytmmgdgmjkhcfaaa
