/- Integers of the program: exported quotients; rates. -/
import Derived.Test.YtmmgdgmjkhcfaaaSyO
set_option linter.all false
namespace Go.Proofs.Ytmmgdgmjkhcfaaa
open Go Go.Abs Go.Num
set_option maxRecDepth 10000
attribute [local congr] bindO_congr bindF_congr bindX_congr condX_congr iteB_congr binS_congr pickS_congr eqB_congr nilS_congr clsW_congr
theorem dm_r4 {H H1 H2 H5 H6 : Heap} {vx pb dx wb w1 w2 : Value} (call : CallF) (k nt : Nat) (rd : Option Nat) {a : Fr} (h0 : a 0 = vx) (h7 : a 7 = pb)
    (s1 : call (.func (.func 83) #[] #[]) [vx] H = some (dx, H1)) (lb : ∀ G, G = H ∨ G = H1 ∨ G = H2 ∨ G = H5 ∨ G = H6 → loadN 2 pb G = some wb) (rb : vEq wb wb = true)
    (s2 : call (.func (.func 146) #[] #[]) [dx, wb] H1 = some (.tuple #[w1, w2], H2))
    (s5 : storeN 2 (ptrA H2.length 0) w1 ((H2 ++ [Blk.cells H2.length true [.bool false, .slice none 0 0]]) ++ [Blk.cells (H2 ++ [Blk.cells H2.length true [.bool false, .slice none 0 0]]).length true [.bool false, .slice none 0 0]]) = some H5)
    (s6 : storeN 2 (ptrA (H2 ++ [Blk.cells H2.length true [.bool false, .slice none 0 0]]).length 0) w2 H5 = some H6) :
    ∃ a' H', evT Try.prog call k nt rd D1 (atC [1, 1, 1, 0] ((Try.f125.body).getD .skip)) a H = some (.normal, a', H') ∧ H' = H6 ∧ a' 8 = ptrA H2.length 0 ∧ a' 9 = ptrA (H2 ++ [Blk.cells H2.length true [.bool false, .slice none 0 0]]).length 0 := by
  simp only [Try.f125, Option.getD_some, atC]
  refine et_from (fun a' H' => H' = H6 ∧ a' 8 = ptrA H2.length 0 ∧ a' 9 = ptrA (H2 ++ [Blk.cells H2.length true [.bool false, .slice none 0 0]]).length 0) ?_
  have e0 := lb H1 (.inr (.inl rfl))
  simp (disch := omega) only [st_move, st_fun, sy_ext, ext_20, ext_21, bindO_some, ev_tmp, ev_func, putA, upd_at, Option.map_some, ↓reduceIte, Nat.reduceEqDiff, List.map_cons, List.map_nil, ↓bindO_some, sy_loadN aW zW, sy_storeN zW, sy_alloc iW scal_agg, opsW_nil, opsW_cons, clsW_eff, clsW_all, clsW_read, clsW_pure, ↓clsW_eff, ↓clsW_all, ↓clsW_read, ↓clsW_pure, cls_move, cls_load, cls_callF, cls_store, cls_extract, cls_alloc, h0, h7, s1, e0, s2, s5, s6]
  refine ⟨_, rfl, ?_, rfl, ?_, ?_⟩
  · intro G hG r hr
    simp only [List.mem_cons, List.not_mem_nil, or_false] at hG hr
    have hG' : G = H ∨ G = H1 ∨ G = H2 ∨ G = H5 ∨ G = H6 := by
      rcases hG with h | h | h | h | h
      · exact .inr (.inr (.inr (.inr h)))
      · exact .inr (.inr (.inr (.inl h)))
      · exact .inr (.inr (.inl h))
      · exact .inr (.inl h)
      · exact .inl h
    have e1 := lb G hG'
    subst hr
    simp only [still_ldN aW zW, ev_tmp, upd_at, ↓reduceIte, Nat.reduceEqDiff, h7, e1, rb]
  · simp only [upd_at, ↓reduceIte, Nat.reduceEqDiff]
  · simp only [upd_at, ↓reduceIte]
theorem dm_r5 {H H1 H2 : Heap} {p8 p9 v1 v2 w1 w2 : Value} (call : CallF) (k nt : Nat) (rd : Option Nat) {a : Fr} (h8 : a 8 = p8) (h9 : a 9 = p9)
    (l8 : ∀ G, G = H ∨ G = H1 ∨ G = H2 → loadN 2 p8 G = some w1) (l9 : ∀ G, G = H ∨ G = H1 ∨ G = H2 → loadN 2 p9 G = some w2) (r1 : vEq w1 w1 = true) (r2 : vEq w2 w2 = true)
    (s1 : call (.func (.func 86) #[] #[]) [w1] H = some (v1, H1)) (s2 : call (.func (.func 86) #[] #[]) [w2] H1 = some (v2, H2)) :
    ∃ a' H', evT Try.prog call k nt rd D1 (atC [1, 1, 1, 1, 0] ((Try.f125.body).getD .skip)) a H = some (.normal, a', H') ∧ H' = H2 ∧ a' 4 = v1 ∧ a' 5 = v2 ∧ a' 6 = vi 0 := by
  simp only [Try.f125, Option.getD_some, atC]
  refine et_from (fun a' H' => H' = H2 ∧ a' 4 = v1 ∧ a' 5 = v2 ∧ a' 6 = vi 0) ?_
  have e0 := l8 H (.inl rfl)
  have e1 := l9 H1 (.inr (.inl rfl))
  simp (disch := omega) only [st_assign, st_fun, bindO_some, ev_tmp, ev_const, ev_func, putA, upd_at, Option.map_some, ↓reduceIte, Nat.reduceEqDiff, List.map_cons, List.map_nil, ↓bindO_some, sy_loadN aW zW, opsW_nil, opsW_cons, clsW_eff, clsW_read, clsW_pure, ↓clsW_eff, ↓clsW_read, ↓clsW_pure, cls_assign, cls_load, cls_callF, h8, h9, e0, e1, s1, s2]
  refine ⟨_, rfl, ?_, rfl, ?_, ?_, ?_⟩
  · intro G hG r hr
    simp only [List.mem_cons, List.not_mem_nil, or_false] at hG hr
    have hG' : G = H ∨ G = H1 ∨ G = H2 := by
      rcases hG with h | h | h
      · exact .inr (.inr h)
      · exact .inr (.inl h)
      · exact .inl h
    have e0 := l8 G hG'
    have e1 := l9 G hG'
    rcases hr with rfl | rfl
    all_goals simp only [still_ldN aW zW, ev_tmp, upd_at, ↓reduceIte, Nat.reduceEqDiff, h8, h9, e0, e1, r1, r2]
  · simp only [upd_at, ↓reduceIte, Nat.reduceEqDiff]
  · simp only [upd_at, ↓reduceIte, Nat.reduceEqDiff]
  · simp only [upd_at, ↓reduceIte]
theorem divmodP_run {FL : Nat} (hLA : LongAll FL) {H : Heap} {vx vy : Value} {x y : Int} (hw : WF H) (hx : NumV H vx x) (hy : NumV H vy y) (x0 : 0 ≤ x) (y0 : 0 < y) (lx : (nf x).length ≤ 390) (ly : (nf y).length ≤ 390) (n : Nat) (hn : FL + 2014 ≤ n) :
    TwoL H (evB Try.prog noC n (.func (.func 125) #[] #[]) [vx, vy] H) (fun a b => .tuple #[a, b, vi 0]) (nf (x / y)) (nf (x % y)) := by
  refine run_of (F := FL + 2013) (Q := fun r => TwoL H r (fun a b => .tuple #[a, b, vi 0]) (nf (x / y)) (nf (x % y))) (fun n hn => ?_) n (by omega)
  rw [body_runS Try.func125 rfl (ok_fn (by rfl) Try.func125 rfl) (Nat.le_of_ble_eq_true rfl) (D := D1) (by kernel_rfl)]
  obtain ⟨db, H1, s1, r1, old1, wf1⟩ := read_pos hw hy (by omega) n (by omega)
  have old2 := Old.app H1 [.cells H1.length true [.bool false, .slice none 0 0]]
  have wf2 := wf1.app (Nat.le_refl H1.length) (o := true) (cs := [.bool false, .slice none 0 0])
  have b2 := BxM.made (B := H1.length) (H := H1) (Nat.le_refl _) [.bool false, .slice none 0 0]
  generalize hH2 : H1 ++ [Blk.cells H1.length true [.bool false, .slice none 0 0]] = H2 at *
  have g2 : H2.length = H1.length + 1 := by rw [← hH2]; simp
  have g1 := old1.1
  obtain ⟨H3, s3, b3, old3, wf3, k3⟩ := b2.store wf2 (vs := [.bool false, db]) rfl
  have s3 : storeN 2 (ptrA H1.length 0) (.agg #[.bool false, db]) H2 = some H3 := s3
  have l3 : loadN 2 (ptrA H1.length 0) H3 = some (.agg #[.bool false, db]) := b3.loadAll
  have g3 := old3.1
  have old13 : Old H1.length H1 H3 := old2.trans old3
  have r3 := r1.mono old13
  obtain ⟨H4, s4, old4, wf4⟩ := sign_run wf3 (wh_of (by omega) r3) (by rw [natAbs_pos (by omega)]; omega) n (by omega)
  have hc : cmpZ y 0 = 1 := by unfold cmpZ; rw [if_neg (by omega), if_pos (by omega)]
  have c1 : decide ((1 : Int) = 0) = false := rfl
  have g4 := old4.1
  have old14 : Old H1.length H1 H4 := old13.trans (old4.mono (by omega))
  have old04 : Old H.length H H4 := old1.trans (old14.mono (by omega))
  obtain ⟨da, H5, s5, r5, old5, wf5⟩ := read_pos wf4 (hx.mono old04) x0 n (by omega)
  have g5 := old5.1
  obtain ⟨v1, v2, H6, s6, q1, q2, _, old6, wf6⟩ := over_run wf5 r5 (r1.mono (old14.trans (old5.mono (by omega)))) x0 y0 lx ly (fun h h' => hLA x y x0 y0 h lx h') n (by omega)
  have g6 := old6.1
  have old7 := Old.app H6 [.cells H6.length true [.bool false, .slice none 0 0]]
  have wf7 := wf6.app (Nat.le_refl H6.length) (o := true) (cs := [.bool false, .slice none 0 0])
  have b7 := BxM.made (B := H6.length) (H := H6) (Nat.le_refl _) [.bool false, .slice none 0 0]
  have kr4 := fun (A : Fr) {G5 G6 : Heap} => dm_r4 (H := H4) (H1 := H5) (H2 := H6) (H5 := G5) (H6 := G6) (vx := vx) (pb := ptrA H1.length 0) (dx := .agg #[.bool false, da]) (wb := .agg #[.bool false, db]) (w1 := .agg #[.bool false, v1]) (w2 := .agg #[.bool false, v2]) (evB Try.prog noC n) n Try.f125.ntmps none (a := A)
  generalize hH7 : H6 ++ [Blk.cells H6.length true [.bool false, .slice none 0 0]] = H7 at *
  have old8 := Old.app H7 [.cells H7.length true [.bool false, .slice none 0 0]]
  have wf8 := wf7.app (Nat.le_refl H7.length) (o := true) (cs := [.bool false, .slice none 0 0])
  have b8 := BxM.made (B := H7.length) (H := H7) (Nat.le_refl _) [.bool false, .slice none 0 0]
  generalize hH8 : H7 ++ [Blk.cells H7.length true [.bool false, .slice none 0 0]] = H8 at *
  have g7 : H7.length = H6.length + 1 := by rw [← hH7]; simp
  have g8 : H8.length = H7.length + 1 := by rw [← hH8]; simp
  obtain ⟨H9, s9, b9, old9, wf9, k9⟩ := (b7.mono old8).store wf8 (vs := [.bool false, v1]) rfl
  have s9 : storeN 2 (ptrA H6.length 0) (.agg #[.bool false, v1]) H8 = some H9 := s9
  obtain ⟨Ha, sa, ba, olda, wfa, ka⟩ := (b8.kept k9 (by omega)).store wf9 (vs := [.bool false, v2]) rfl
  have sa : storeN 2 (ptrA H7.length 0) (.agg #[.bool false, v2]) H9 = some Ha := sa
  have g9 := old9.1
  have ga := olda.1
  have old6a : Old H6.length H6 Ha := ((old7.trans (old8.mono (by omega))).trans old9).trans (olda.mono (by omega))
  have b34 := b3.mono (old4.mono (by omega : H2.length ≤ H3.length))
  have b35 := b34.mono (old5.mono (by omega : H2.length ≤ H4.length))
  have b36 := b35.mono (old6.mono (by omega : H2.length ≤ H5.length))
  have b39 := b36.mono (((old7.trans (old8.mono (by omega))).trans old9).mono (by omega : H2.length ≤ H6.length))
  have b3a := b39.mono (olda.mono (by omega : H2.length ≤ H7.length))
  have b9a := b9.mono (olda.mono (by omega : H7.length ≤ H7.length))
  have q1a := q1.R.mono old6a
  have q2a := q2.mono old6a
  have hq0 : 0 ≤ x / y := Int.ediv_nonneg x0 (by omega)
  have hr0 : 0 ≤ x % y := Int.emod_nonneg x (by omega)
  have lq : (nf (x / y)).length ≤ 390 := Nat.le_trans (nf_len_mono hq0 (Int.ediv_le_self y x0)) lx
  have lr : (nf (x % y)).length ≤ 390 := Nat.le_trans (nf_len_mono hr0 (Int.le_of_lt (Int.emod_lt_of_pos x y0))) ly
  obtain ⟨u1, Hb, sb, ob, oldb, wfb⟩ := list_run wfa (wh_of hq0 q1a) (by rw [abs_len]; omega) n (by omega)
  obtain ⟨u2, Hc, sc, oc, oldc, wfc⟩ := list_run wfb (wh_of hr0 (q2a.mono oldb)) (by rw [abs_len]; omega) n (by omega)
  have gb := oldb.1
  have gc := oldc.1
  have kr5 := fun (A : Fr) => dm_r5 (H := Ha) (H1 := Hb) (H2 := Hc) (p8 := ptrA H6.length 0) (p9 := ptrA H7.length 0) (v1 := u1) (v2 := u2) (w1 := .agg #[.bool false, v1]) (w2 := .agg #[.bool false, v2]) (evB Try.prog noC n) n Try.f125.ntmps none (a := A)
  simp only [Try.f125, Option.getD_some, atC] at kr4 kr5
  simp (disch := omega) only [Try.f125, es_seq, es_region, es_cond, es_skip, es_ret, ops_nil, ops_cons, st_move, st_assign, st_fun, sy_bin, binS_eql, bindO_some, bindF_some, bindX_normal, condX_false, ev_tmp, ev_const, ev_func, putA, upd_at, Option.map_some, ↓reduceIte, Nat.reduceEqDiff, frOf_1, List.map_cons, List.map_nil, ↓bindO_some, ↓bindF_some, ↓bindX_normal, ↓condX_false, sy_loadN aW zW, sy_storeN zW, sy_alloc iW scal_agg, s1, hH2, s3, l3, s4, hc, c1]
  generalize hA : upd _ 14 _ = A
  obtain ⟨a', _, e, hH', i8, i9⟩ := kr4 A (by subst hA; rfl) (by subst hA; rfl) s5 (fun G h => by
    rcases h with rfl | rfl | rfl | rfl | rfl
    · exact b34.loadAll
    · exact b35.loadAll
    · exact b36.loadAll
    · exact b39.loadAll
    · exact b3a.loadAll) (vEq_whole r1) s6 s9 sa
  rw [hH'] at e
  rw [e]
  simp (disch := omega) only [bindX_normal, ↓bindX_normal]
  obtain ⟨a'', _, e, hH', i4, i5, i6⟩ := kr5 a' i8 i9 (fun G h => by
    rcases h with rfl | rfl | rfl
    · exact b9a.loadAll
    · exact (b9a.mono (oldb.mono (by omega))).loadAll
    · exact ((b9a.mono (oldb.mono (by omega))).mono (oldc.mono (by omega))).loadAll) (fun G h => by
    rcases h with rfl | rfl | rfl
    · exact ba.loadAll
    · exact (ba.mono (oldb.mono (by omega))).loadAll
    · exact ((ba.mono (oldb.mono (by omega))).mono (oldc.mono (by omega))).loadAll) (vEq_whole q1a) (vEq_whole q2a) sb sc
  rw [hH'] at e
  rw [e]
  simp (disch := omega) only [bindX_normal, Option.map_some, ↓bindX_normal, fin_r, res_nil, res_tmp, pack_3, scal_vi, i4, i5, i6, ob.R.scal, oc.R.scal]
  have old0a : Old H.length H Ha := (old04.trans ((old5.mono (by omega)).trans (old6.mono (by omega)))).trans (old6a.mono (by omega))
  exact ⟨_, _, _, rfl, (ob.mono oldc).below (by omega), oc.below (by omega), (old0a.trans (oldb.mono (by omega))).trans (oldc.mono (by omega)), wfc⟩
theorem overC_run {FL : Nat} (hLA : LongAll FL) {H : Heap} {vx vy : Value} {x y : Int} (hw : WF H) (hx : NumV H vx x) (hy : NumV H vy y) (x0 : 0 ≤ x) (y0 : 0 < y) (lx : (nf x).length ≤ 390) (ly : (nf y).length ≤ 390) (n : Nat) (hn : FL + 2015 ≤ n) :
    OneL H (evB Try.prog noC n (.func (.func 102) #[] #[]) [vx, vy] H) (nf (x / y)) := by
  refine run_of (F := FL + 2014) (Q := fun r => OneL H r (nf (x / y))) (fun n hn => ?_) n (by omega)
  rw [body_runS Try.func102 rfl (ok_fn (by rfl) Try.func102 rfl) (Nat.le_of_ble_eq_true rfl) (D := D0) (by kernel_rfl)]
  obtain ⟨v1, v2, H1, s1, o1, o2, old1, wf1⟩ := divmodP_run hLA hw hx hy x0 y0 lx ly n (by omega)
  simp (disch := omega) only [Try.f102, es_seq, es_region, es_ret, ops_nil, ops_cons, st_move, st_assign, st_fun, sy_ext, bindO_some, bindF_some, bindX_normal, ev_tmp, ev_const, ev_func, putA, upd_at, Option.map_some, ↓reduceIte, Nat.reduceEqDiff, frOf_0, frOf_1, List.map_cons, List.map_nil, ↓bindO_some, ↓bindF_some, ↓bindX_normal, fin_r, res_nil, res_tmp, pack_1, s1, ext_30, ext_31, ext_32, o1.R.scal]
  exact ⟨_, _, rfl, o1, old1, wf1⟩
end Go.Proofs.Ytmmgdgmjkhcfaaa
