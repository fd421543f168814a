/- Lists and rates compared; calls of a law. -/
import Derived.Test.YtmmgdgmjkhcfaaaSyU
set_option linter.all false
namespace Go.Proofs.Ytmmgdgmjkhcfaaa
open Go Go.Abs Go.Num
set_option maxRecDepth 10000
attribute [local congr] bindO_congr bindF_congr bindX_congr condX_congr iteB_congr binS_congr pickS_congr eqB_congr nilS_congr clsW_congr maxS_congr minS_congr
noncomputable def intA : Code := atC [1, 1, 0, 1, 0, 0] ((Try.f19.body).getD .skip)
theorem take_eq_succ {l m : List Int} {i : Nat} (h1 : i < l.length) (h2 : i < m.length) : l.take (i + 1) = m.take (i + 1) ↔ l.take i = m.take i ∧ l.getD i 0 = m.getD i 0 := by
  rw [take_snoc' h1, take_snoc' h2]
  constructor
  · intro h
    have := List.append_inj h (by rw [List.length_take, List.length_take]; omega)
    exact ⟨this.1, by simpa using this.2⟩
  · intro ⟨h3, h4⟩; rw [h3, h4]
theorem ints_run {H : Heap} {va vb : Value} {l m : List Int} (ha : R H va (ints l)) (hb : R H vb (ints m)) (ll : l.length ≤ 10000) (lm : m.length ≤ 10000) (n : Nat) (hn : 10002 ≤ n) :
    evB Try.prog noC n (.func (.func 19) #[] #[]) [va, vb] H = some (.bool (decide (l = m)), H) := by
  refine run_of (F := 10001) (Q := fun r => r = some (.bool (decide (l = m)), H)) (fun n hn => ?_) n hn
  rw [body_runS Try.func19 rfl (ok_fn (by rfl) Try.func19 rfl) (Nat.le_of_ble_eq_true rfl) (D := D0) (by kernel_rfl)]
  by_cases hl : l.length = m.length
  · have c1 : (l.length : Int) = (m.length : Int) := by omega
    have key : ∀ A : Fr, A 0 = va → A 1 = vb → A 5 = vi (0 : Nat) → ∃ r a' H', loopN (evS Try.prog (evB Try.prog noC n) n Try.f19.ntmps none intA) n A H = some (r, a', H') ∧ H' = H ∧ ((r = .exit 0 ∧ l = m) ∨ (r = .ret ∧ a' 4 = .bool false ∧ l ≠ m)) := by
      intro A h0 h1 h5
      refine loop_up l.length (fun i a H' => H' = H ∧ a 0 = va ∧ a 1 = vb ∧ a 5 = vi i ∧ l.take i = m.take i) _ ?_ ?_ (by omega) ⟨rfl, h0, h1, h5, rfl⟩
      · intro i a H' hi ⟨hH, h0, h1, h5, ht⟩
        subst hH
        rw [show intA = atC [1, 1, 0, 1, 0, 0] ((Try.f19.body).getD .skip) from rfl]
        have hlt : (i : Int) < l.length := by omega
        have e1 : IntKind.i64.wrap ((i : Int) + 1) = ((i + 1 : Nat) : Int) := by rw [wr64 (by omega) (by omega)]; omega
        by_cases he : l.getD i 0 = m.getD i 0
        · left
          simp (disch := omega) only [Try.f19, Option.getD_some, atC, es_seq, es_region, es_draw, d0, es_cond, es_block, es_skip, ops_nil, ops_cons, opsV_nil, opsV_cons, st_move, st_assign, sy_len uL, sy_addr eL, sy_load aI, sy_bin, binS_lss, binS_neq, binS_add, bindO_some, bindF_some, bindX_normal, blkX_normal, condX_true, condX_false, iteB_true, iteB_false, ev_tmp, ev_const, putA, upd_at, Option.map_some, ↓reduceIte, Nat.reduceEqDiff, Int.toNat_natCast, decide_true, Bool.not_true, ↓bindO_some, ↓bindF_some, ↓bindX_normal, ↓condX_true, ↓condX_false, ↓iteB_true, ↓iteB_false, reflV_load, reflV_move, reflV_bin, reflV_addr, vEq_vi, h0, h1, h5, ha.lenI, hlt, ha.addrI, ha.loadI, hb.addrI, hb.loadI, he, e1]
          exact ⟨_, _, rfl, rfl, by simp only [upd_at, ↓reduceIte, Nat.reduceEqDiff, h0], by simp only [upd_at, ↓reduceIte, Nat.reduceEqDiff, h1], by simp only [upd_at, ↓reduceIte], (take_eq_succ hi (by omega)).2 ⟨ht, he⟩⟩
        · right
          simp (disch := omega) only [Try.f19, Option.getD_some, atC, es_seq, es_region, es_draw, d0, es_cond, es_block, es_skip, es_ret, ops_nil, ops_cons, opsV_nil, opsV_cons, st_move, st_assign, sy_len uL, sy_addr eL, sy_load aI, sy_bin, binS_lss, binS_neq, bindO_some, bindF_some, bindX_normal, bindX_ret, blkX_ret, condX_true, iteB_true, iteB_false, ev_tmp, ev_const, putA, upd_at, Option.map_some, ↓reduceIte, Nat.reduceEqDiff, Int.toNat_natCast, decide_true, decide_false, Bool.not_false, ↓bindO_some, ↓bindF_some, ↓bindX_normal, ↓bindX_ret, ↓condX_true, ↓iteB_true, ↓iteB_false, reflV_load, reflV_move, reflV_bin, reflV_addr, vEq_vi, h0, h1, h5, ha.lenI, hlt, ha.addrI, ha.loadI, hb.addrI, hb.loadI, he]
          refine ⟨_, _, _, rfl, by simp, rfl, .inr ⟨rfl, by simp only [upd_at, ↓reduceIte], fun h => he (by rw [h])⟩⟩
      · intro a H' ⟨hH, h0, h1, h5, ht⟩
        subst hH
        rw [show intA = atC [1, 1, 0, 1, 0, 0] ((Try.f19.body).getD .skip) from rfl]
        simp (disch := omega) only [Try.f19, Option.getD_some, atC, es_seq, es_region, es_cond, es_exit, ops_nil, ops_cons, st_move, sy_len uL, sy_bin, binS_lss, bindO_some, bindF_some, bindX_normal, bindX_exit, condX_false, ev_tmp, putA, upd_at, Option.map_some, ↓reduceIte, Nat.reduceEqDiff, decide_false, ↓bindO_some, ↓bindF_some, ↓bindX_normal, ↓bindX_exit, ↓condX_false, h0, h5, ha.lenI, Int.lt_irrefl]
        rw [List.take_length, hl, List.take_length] at ht
        exact ⟨_, _, _, rfl, by simp, rfl, .inl ⟨rfl, ht⟩⟩
    rw [show intA = atC [1, 1, 0, 1, 0, 0] ((Try.f19.body).getD .skip) from rfl] at key
    simp only [Try.f19, Option.getD_some, atC] at key
    simp (disch := omega) only [Try.f19, es_seq, es_region, es_cond, es_block, es_loop, es_skip, es_ret, ops_nil, ops_cons, st_move, st_assign, sy_len uL, sy_bin, binS_neq, bindO_some, bindF_some, bindX_normal, condX_false, ev_tmp, ev_const, putA, upd_at, Option.map_some, ↓reduceIte, Nat.reduceEqDiff, frOf_0, frOf_1, decide_true, Bool.not_true, ↓bindO_some, ↓bindF_some, ↓bindX_normal, ↓condX_false, ha.lenI, hb.lenI, c1]
    generalize hA : upd _ 5 _ = A
    obtain ⟨r, a', H', e, hH, h⟩ := key A (by subst hA; rfl) (by subst hA; rfl) (by subst hA; rfl)
    subst hH
    rw [e]
    rcases h with ⟨rfl, rfl⟩ | ⟨rfl, h4, hne⟩
    · simp (disch := omega) only [bindX_normal, blkX_exit, upd_at, Option.map_some, ↓reduceIte, decide_true, ↓bindX_normal, fin_r, res_nil, res_tmp, pack_1, scal_bool]
    · rw [decide_eq_false hne]
      simp (disch := omega) only [bindX_ret, blkX_ret, Option.map_some, ↓bindX_ret, fin_r, res_nil, res_tmp, pack_1, scal_bool, h4]
  · have c1 : ¬ (l.length : Int) = (m.length : Int) := by omega
    rw [decide_eq_false (fun h => hl (by rw [h]))]
    simp (disch := omega) only [Try.f19, es_seq, es_region, es_cond, es_ret, ops_nil, ops_cons, st_move, st_assign, sy_len uL, sy_bin, binS_neq, bindO_some, bindF_some, bindX_normal, bindX_ret, condX_true, ev_tmp, ev_const, putA, upd_at, Option.map_some, ↓reduceIte, Nat.reduceEqDiff, frOf_0, frOf_1, decide_false, Bool.not_false, ↓bindO_some, ↓bindF_some, ↓bindX_normal, ↓bindX_ret, ↓condX_true, fin_r, res_nil, res_tmp, pack_1, scal_bool, ha.lenI, hb.lenI, c1]
theorem same_run {H : Heap} {va vb vc vd : Value} {l m l' m' : List Int} (hw : WF H) (ha : R H va (ints l)) (hb : R H vb (ints m)) (hc : R H vc (ints l')) (hd : R H vd (ints m')) (e1 : l = l') (e2 : m = m') (ll : l.length ≤ 10000) (lm : m.length ≤ 10000) (n : Nat) (hn : 10003 ≤ n) :
    ∃ H', evB Try.prog noC n (.func (.func 25) #[] #[]) [.agg #[va, vb], .agg #[vc, vd]] H = some (.bool true, H') ∧ Old H.length H H' ∧ WF H' := by
  subst e1; subst e2
  refine run_of (F := 10002) (Q := fun r => ∃ H', r = some (.bool true, H') ∧ Old H.length H H' ∧ WF H') (fun n hn => ?_) n hn
  rw [body_runS Try.func25 rfl (ok_fn (by rfl) Try.func25 rfl) (Nat.le_of_ble_eq_true rfl) (D := D0) (by kernel_rfl)]
  have old1 := Old.app H [.cells H.length true [va, vb]]
  have wf1 := hw.app (Nat.le_refl H.length) (o := true) (cs := [va, vb])
  have b1 := BxM.made (B := H.length) (H := H) (Nat.le_refl _) [va, vb]
  generalize hH1 : H ++ [Blk.cells H.length true [va, vb]] = H1 at *
  have old2 := Old.app H1 [.cells H1.length true [vc, vd]]
  have wf2 := wf1.app (Nat.le_refl H1.length) (o := true) (cs := [vc, vd])
  have b2 := BxM.made (B := H1.length) (H := H1) (Nat.le_refl _) [vc, vd]
  generalize hH2 : H1 ++ [Blk.cells H1.length true [vc, vd]] = H2 at *
  have b1 := b1.mono old2
  have old02 := old1.trans (old2.mono old1.1)
  have f10 := b1.faddr 0
  have f11 := b1.faddr 1
  have f20 := b2.faddr 0
  have f21 := b2.faddr 1
  have l10 : loadS (bx (ptrA H.length 0) 0) H2 = some va := b1.load 0
  have l11 : loadS (bx (ptrA H.length 0) 1) H2 = some vb := b1.load 1
  have l20 : loadS (bx (ptrA H1.length 0) 0) H2 = some vc := b2.load 0
  have l21 : loadS (bx (ptrA H1.length 0) 1) H2 = some vd := b2.load 1
  have s1 := ints_run (ha.mono old02) (hc.mono old02) ll ll n (by omega)
  have s2 := ints_run (hb.mono old02) (hd.mono old02) lm lm n (by omega)
  rw [decide_eq_true rfl] at s1 s2
  simp (disch := omega) only [Try.f25, es_seq, es_region, es_ret, ops_nil, ops_cons, ops_consG, st_move, st_assign, sy_pick, pickS_true, st_fun, bindO_some, bindF_some, bindX_normal, iteB_true, ev_tmp, ev_const, ev_func, putA, upd_at, Option.map_some, ↓reduceIte, Nat.reduceEqDiff, frOf_0, frOf_1, List.map_cons, List.map_nil, yieldO_eq, yO, yV_bool, List.getElem?_cons_zero, List.getElem?_cons_succ, beq_self_eq_true, ↓bindO_some, ↓bindF_some, ↓bindX_normal, ↓iteB_true, fin_r, res_nil, res_tmp, pack_1, scal_bool, sy_load aL, sy_box, scal_agg, scal_agg, hH1, hH2, sy_faddr fR0, sy_faddr fR1, f10, f11, f20, f21, l10, l11, l20, l21, s1, s2]
  exact ⟨_, rfl, old02, wf2⟩
end Go.Proofs.Ytmmgdgmjkhcfaaa
