/- Rim hooks of the reference: the function. -/
import Derived.Test.YtmmgdgmjkhcfaaaSzK
set_option linter.all false
namespace Go.Proofs.Ytmmgdgmjkhcfaaa
open Go Go.Abs Go.Num
set_option maxRecDepth 10000
attribute [local congr] bindO_congr bindF_congr bindX_congr condX_congr iteB_congr binS_congr pickS_congr eqB_congr nilS_congr clsW_congr maxS_congr minS_congr
noncomputable def rrB : Code := atC [1, 1, 0, 1, 0, 0, 1, 0, 0, 1, 0, 0] ((Try.f51.body).getD .skip)
noncomputable def rrA : Code := atC [1, 1, 0, 1, 0, 0] ((Try.f51.body).getD .skip)
theorem rimR_len (l : List Int) (k : Int) (i h : Nat) : ((List.range h).flatMap (rimR l k i)).length ≤ h := by
  induction h with
  | zero => simp
  | succ h ih =>
    rw [List.range_succ, List.flatMap_append, List.length_append, List.flatMap_cons, List.flatMap_nil, List.append_nil]
    have : (rimR l k i h).length ≤ 1 := by unfold rimR; split <;> simp
    omega
theorem rr_mid {H0 H : Heap} {v vo0 : Value} {l : List Int} (hp : Part l) {z : Int} (hz : 1 ≤ z ∧ z ≤ 20) {i : Nat} (hi : i < l.length) {ls0 : List (List Int × Int)} (hl0 : ls0.length ≤ 1000) (hv : R H0 v (ints l)) (old : Old H0.length H0 H) (hw : WF H) (ho : OH H0.length H vo0 ls0) (n nt : Nat) (hn : 1030 ≤ n) {a0 : Fr} (h0 : a0 0 = v) (h1 : a0 1 = vi z) (h5 : a0 5 = vo0) (h6 : a0 6 = vi i) (h7 : a0 7 = vi (0 : Nat)) :
    ∃ r a' H', loopN (evS Try.prog (evB Try.prog noC n) n nt none rrB) n a0 H = some (r, a', H') ∧ r = .exit 2 ∧ Same [0, 1, 6] a0 a' ∧ Old H0.length H H' ∧ WF H' ∧ ∃ vo, a' 5 = vo ∧ OH H0.length H' vo (ls0 ++ (List.range (l.length - i)).flatMap (rimR l z i)) := by
  have hl := hp.len
  refine loop_up (l.length - i) (fun h a H' => Same [0, 1, 6] a0 a ∧ a 7 = vi h ∧ Old H0.length H H' ∧ WF H' ∧ ∃ vo, a 5 = vo ∧ OH H0.length H' vo (ls0 ++ (List.range h).flatMap (rimR l z i))) _ ?_ ?_ (by omega) ⟨Same.refl _ _, h7, Old.refl _ _, hw, vo0, h5, by simpa using ho⟩
  · intro h a H' hh ⟨hs, h7, oldA, hw, vo, h5, ho⟩
    left
    rw [show rrB = atC [1, 1, 0, 1, 0, 0, 1, 0, 0, 1, 0, 0] ((Try.f51.body).getD .skip) from rfl]
    have g0 := (hs 0 (by decide)).trans h0
    have g1 := (hs 1 (by decide)).trans h1
    have g6 := (hs 6 (by decide)).trans h6
    have oldH := old.trans oldA
    have hv' := hv.mono oldH
    have hJ : i + h < l.length := by omega
    have e0 : IntKind.i64.wrap ((i : Int) + (h : Int)) = ((i + h : Nat) : Int) := by rw [wr64 (by omega) (by omega)]; omega
    have c1 : ((i + h : Nat) : Int) < (l.length : Int) := by omega
    have e1 : IntKind.i64.wrap ((h : Int) + 1) = ((h + 1 : Nat) : Int) := by rw [wr64 (by omega) (by omega)]; omega
    obtain ⟨vq, H1, s1, o1, old1, wf1⟩ := copy_run hw hv' (by omega) n (by omega)
    have k1 := fun (A : Fr) => rr_in hp hJ (fun G hG => hv'.mono (old1.trans hG)) wf1 o1 (evB Try.prog noC n) n nt (a0 := A) (k := n) (by omega)
    rw [show rrC = atC [1, 1, 0, 1, 0, 0, 1, 0, 0, 1, 0, 0, 1, 0, 0, 1, 1, 0, 1, 0, 0] ((Try.f51.body).getD .skip) from rfl] at k1
    simp only [Try.f51, Option.getD_some, atC] at k1
    simp (maxSteps := 1000000) (disch := omega) only [Try.f51, Option.getD_some, atC, es_seq, es_region, es_cond, es_block, es_loop, es_skip, ops_nil, ops_cons, ops_consG, st_move, st_assign, sy_pick, st_fun, sy_len uL, sy_addr eL, sy_load aI, sy_store zI, sy_bin, sy_ext, binS_lss, binS_add, bindO_some, bindF_some, bindX_normal, condX_true, ev_tmp, ev_const, ev_func, putA, upd_at, Option.map_some, ↓reduceIte, Nat.reduceEqDiff, List.map_cons, List.map_nil, decide_true, yieldO_eq, yO, List.getElem?_cons_zero, List.getElem?_cons_succ, ↓bindO_some, ↓bindF_some, ↓bindX_normal, ↓condX_true, g0, g6, h7, hv'.lenI, e0, c1, s1]
    generalize hF : upd _ 10 _ = F
    have hsF : Same [0, 1, 6] a0 F := by
      subst hF
      repeat refine Same.upd ?_ (by decide) _
      exact hs
    have f5 : F 5 = vo := by subst hF; exact h5
    have f7 : F 7 = vi h := by subst hF; exact h7
    obtain ⟨r, a', H2, ev, hr, hs2, g9, old2, wf2, o2⟩ := k1 F ((hsF 0 (by decide)).trans h0) ((hsF 6 (by decide)).trans h6) f7 (by subst hF; rfl) (by subst hF; rfl) (by subst hF; rfl)
    have f8 : F 8 = vq := by subst hF; rfl
    subst hr
    rw [ev]
    clear ev k1 hF
    have i0 := ((hs2 0 (by decide)).trans (hsF 0 (by decide))).trans h0
    have i1 := ((hs2 1 (by decide)).trans (hsF 1 (by decide))).trans h1
    have i6 := ((hs2 6 (by decide)).trans (hsF 6 (by decide))).trans h6
    have i5 := (hs2 5 (by decide)).trans f5
    have i7 := (hs2 7 (by decide)).trans f7
    have i8 := (hs2 8 (by decide)).trans f8
    have hv2 := hv'.mono (old1.trans old2)
    have m1 := hp.getD hi
    have m2 := hp.getD hJ
    have tk : tkn l i h = l.getD i 0 - l.getD (i + h) 0 + h := rfl
    have hlen : (qsL l i (i + h)).length = l.length := by unfold qsL; simp
    have a1 : addrS 1 v (vi ((i + h : Nat) : Int)) = some (pt v (i + h)) := by have := hv2.addrI (i := ((i + h : Nat) : Int)) (by omega) (by omega); rwa [Int.toNat_natCast] at this
    have l1 : loadS (pt v (i + h)) H2 = some (vi (l.getD (i + h) 0)) := hv2.loadI (by omega)
    have e2 : IntKind.i64.wrap (z - tkn l i h) = z - tkn l i h := wr64 (by omega) (by omega)
    have e3 : IntKind.i64.wrap (l.getD (i + h) 0 - (z - tkn l i h)) = l.getD (i + h) 0 - (z - tkn l i h) := wr64 (by omega) (by omega)
    have a2 : addrS 1 vq (vi ((i + h : Nat) : Int)) = some (pt vq (i + h)) := by have := o2.R.addrI (i := ((i + h : Nat) : Int)) (by omega) (by omega); rwa [Int.toNat_natCast] at this
    obtain ⟨H3, s3, o3, old3, wf3⟩ := o2.setI wf2 (i := i + h) (by omega) (l.getD (i + h) 0 - (z - tkn l i h))
    rw [qsL_pf (t := bead l i - z) (by omega) (by unfold bead; omega)] at o3
    have hpl := pfL_len l i (i + h) (bead l i - z)
    obtain ⟨sh1, sh2⟩ := shrunk_run wf3 o3.R (by omega) n (by omega)
    have old13 : Old H'.length H' H3 := (old1.trans old2).trans old3
    have hflat : (List.range (h + 1)).flatMap (rimR l z i) = (List.range h).flatMap (rimR l z i) ++ rimR l z i h := by
      rw [List.range_succ, List.flatMap_append, List.flatMap_cons, List.flatMap_nil, List.append_nil]
    have hrl := rimR_len l z i h
    have oH := oldA.1
    have oh0 := old.1
    by_cases hok : OkL (pfL l i (i + h) (bead l i - z))
    · obtain ⟨vl, H4, s4, o4, old4, wf4⟩ := sh1 hok
      have old14 : Old H'.length H' H4 := old13.trans (old4.mono old13.1)
      by_cases ht : tkn l i h < z
      · have hr : rimR l z i h = [(trimL (pfL l i (i + h) (bead l i - z)), (h : Int))] := if_pos ⟨hok, ht⟩
        obtain ⟨v6, H6, s6, o6, old6, wf6⟩ := OH.push (z := (h : Int)) ho old14 wf4 (Nat.le_trans oh0 oH) o4 old13.1 (by rw [List.length_append]; unfold maxA; omega)
        simp (disch := omega) only [pickS_true, ext_20, ext_21, binS_lss, binS_add, binS_sub, bindO_some, bindF_some, bindX_normal, blkX_normal, blkX_exit, condX_true, iteB_true, ev_tmp, upd_at, Option.map_some, ↓reduceIte, Nat.reduceEqDiff, List.map_cons, List.map_nil, decide_true, yV_bool, beq_self_eq_true, ↓bindO_some, ↓bindF_some, ↓bindX_normal, ↓condX_true, ↓iteB_true, i0, i1, i5, i6, i7, i8, g9, e0, a1, l1, e2, e3, a2, s3, s4, ht, sy_build, bHk _ _ o4.R.scal, sy_buildN eHH oHH rfl rfl, sHk, buildS_2, sy_appN eHH pHH, s6, e1]
        exact ⟨_, _, rfl, (by
          repeat refine Same.upd ?_ (by decide) _
          exact hsF.trans (hs2.sub (by decide))), rfl, (oldA.trans (old14.mono (by omega))).trans old6, wf6, v6, rfl, by rw [hflat, hr, ← List.append_assoc]; exact o6⟩
      · have hr : rimR l z i h = [] := if_neg (fun h => ht h.2)
        simp (disch := omega) only [pickS_true, ext_20, ext_21, binS_lss, binS_add, binS_sub, bindO_some, bindF_some, bindX_normal, blkX_normal, blkX_exit, condX_false, iteB_true, upd_at, Option.map_some, ↓reduceIte, Nat.reduceEqDiff, decide_false, yV_bool, beq_self_eq_true, ↓bindO_some, ↓bindF_some, ↓bindX_normal, ↓condX_false, ↓iteB_true, i0, i1, i6, i7, i8, g9, e0, a1, l1, e2, e3, a2, s3, s4, ht, e1]
        exact ⟨_, _, rfl, (by
          repeat refine Same.upd ?_ (by decide) _
          exact hsF.trans (hs2.sub (by decide))), rfl, oldA.trans (old14.mono (by omega)), wf4, vo, i5, by rw [hflat, hr, List.append_nil]; exact OG.mono HkX.stable ho old14⟩
    · have s4 := sh2 hok
      have hr : rimR l z i h = [] := if_neg (fun h => hok h.1)
      simp (disch := omega) only [pickS_false, ext_20, ext_21, binS_add, binS_sub, bindO_some, bindF_some, bindX_normal, blkX_normal, blkX_exit, condX_false, iteB_false, upd_at, Option.map_some, ↓reduceIte, Nat.reduceEqDiff, yV_bool, some_true, ↓bindO_some, ↓bindF_some, ↓bindX_normal, ↓condX_false, ↓iteB_false, i0, i1, i6, i7, i8, g9, e0, a1, l1, e2, e3, a2, s3, s4, e1]
      exact ⟨_, _, rfl, (by
        repeat refine Same.upd ?_ (by decide) _
        exact hsF.trans (hs2.sub (by decide))), rfl, oldA.trans (old13.mono (by omega)), wf3, vo, i5, by rw [hflat, hr, List.append_nil]; exact OG.mono HkX.stable ho old13⟩
  · intro a H' ⟨hs, h7, oldA, hw, vo, h5, ho⟩
    rw [show rrB = atC [1, 1, 0, 1, 0, 0, 1, 0, 0, 1, 0, 0] ((Try.f51.body).getD .skip) from rfl]
    have g0 := (hs 0 (by decide)).trans h0
    have g6 := (hs 6 (by decide)).trans h6
    have hv' := hv.mono (old.trans oldA)
    have e0 : IntKind.i64.wrap ((i : Int) + ((l.length - i : Nat) : Int)) = (l.length : Int) := by rw [wr64 (by omega) (by omega)]; omega
    simp (disch := omega) only [Try.f51, Option.getD_some, atC, es_seq, es_region, es_cond, es_exit, ops_nil, ops_cons, st_move, sy_len uL, sy_bin, binS_lss, binS_add, bindO_some, bindF_some, bindX_normal, bindX_exit, condX_false, ev_tmp, putA, upd_at, Option.map_some, ↓reduceIte, Nat.reduceEqDiff, decide_false, ↓bindO_some, ↓bindF_some, ↓bindX_normal, ↓bindX_exit, ↓condX_false, g0, g6, h7, hv'.lenI, e0, Int.lt_irrefl]
    exact ⟨_, _, _, rfl, by simp, rfl, (by
      repeat refine Same.upd ?_ (by decide) _
      exact hs), oldA, hw, vo, h5, ho⟩
theorem rimsR_len (l : List Int) (k : Int) (hl : l.length ≤ 20) (m : Nat) (hm : m ≤ l.length) : ((List.range m).flatMap fun i => (List.range (l.length - i)).flatMap (rimR l k i)).length ≤ 20 * m := by
  induction m with
  | zero => simp
  | succ m ih =>
    rw [List.range_succ, List.flatMap_append, List.length_append, List.flatMap_cons, List.flatMap_nil, List.append_nil]
    have := rimR_len l k m (l.length - m)
    have := ih (by omega)
    omega
theorem rrims_run {H : Heap} {v : Value} {l : List Int} (hw : WF H) (hv : R H v (ints l)) (hp : Part l) {z : Int} (hz : 1 ≤ z ∧ z ≤ 20) (n : Nat) (hn : 1040 ≤ n) : OneH H (evB Try.prog noC n (.func (.func 51) #[] #[]) [v, vi z] H) (rimsR l z) := by
  refine run_of (F := 1039) (Q := fun r => OneH H r (rimsR l z)) (fun n hn => ?_) n hn
  rw [body_runS Try.func51 rfl (ok_fn (by rfl) Try.func51 rfl) (Nat.le_of_ble_eq_true rfl) (D := D0) (by kernel_rfl)]
  have hl := hp.len
  have key : ∀ A : Fr, A 0 = v → A 1 = vi z → A 5 = .slice none 0 0 → A 6 = vi (0 : Nat) → ∃ r a' H', loopN (evS Try.prog (evB Try.prog noC n) n Try.f51.ntmps none rrA) n A H = some (r, a', H') ∧ r = .exit 0 ∧ ∃ vo, a' 5 = vo ∧ OH H.length H' vo (rimsR l z) ∧ Old H.length H H' ∧ WF H' := by
    intro A h0 h1 h5 h6
    refine loop_up l.length (fun i a H' => a 0 = v ∧ a 1 = vi z ∧ a 6 = vi i ∧ Old H.length H H' ∧ WF H' ∧ ∃ vo, a 5 = vo ∧ OH H.length H' vo ((List.range i).flatMap fun i => (List.range (l.length - i)).flatMap (rimR l z i))) _ ?_ ?_ (by omega) ⟨h0, h1, h6, Old.refl _ _, hw, _, h5, OG.nil _ _⟩
    · intro i a H' hi ⟨h0, h1, h6, old, hw, vo, h5, ho⟩
      left
      rw [show rrA = atC [1, 1, 0, 1, 0, 0] ((Try.f51.body).getD .skip) from rfl]
      have hv' := hv.mono old
      have hlt : (i : Int) < l.length := by omega
      have e1 : IntKind.i64.wrap ((i : Int) + 1) = ((i + 1 : Nat) : Int) := by rw [wr64 (by omega) (by omega)]; omega
      have hll := rimsR_len l z hl i (by omega)
      have k1 := fun (F : Fr) => rr_mid hp hz hi (by omega) hv old hw ho n Try.f51.ntmps (by omega) (a0 := F)
      rw [show rrB = atC [1, 1, 0, 1, 0, 0, 1, 0, 0, 1, 0, 0] ((Try.f51.body).getD .skip) from rfl] at k1
      simp only [Try.f51, Option.getD_some, atC] at k1
      simp (disch := omega) only [Try.f51, Option.getD_some, atC, es_seq, es_region, es_cond, es_block, es_loop, es_skip, ops_nil, ops_cons, st_move, st_assign, sy_len uL, sy_bin, binS_lss, bindO_some, bindF_some, bindX_normal, condX_true, ev_tmp, ev_const, putA, upd_at, Option.map_some, ↓reduceIte, Nat.reduceEqDiff, decide_true, ↓bindO_some, ↓bindF_some, ↓bindX_normal, ↓condX_true, h0, h6, hv'.lenI, hlt]
      generalize hF : upd _ 7 _ = F
      obtain ⟨r, a', H2, ev, hr, hs, old2, wf2, vo2, g5, o2⟩ := k1 F (by subst hF; exact h0) (by subst hF; exact h1) (by subst hF; exact h5) (by subst hF; exact h6) (by subst hF; rfl)
      have f0 : F 0 = v := by subst hF; exact h0
      have f1 : F 1 = vi z := by subst hF; exact h1
      have f6 : F 6 = vi i := by subst hF; exact h6
      subst hr
      rw [ev]
      clear ev k1 hF
      have g0 := (hs 0 (by decide)).trans f0
      have g1 := (hs 1 (by decide)).trans f1
      have g6 := (hs 6 (by decide)).trans f6
      simp (disch := omega) only [binS_add, bindO_some, bindF_some, bindX_normal, blkX_normal, blkX_exit, ↓reduceIte, ↓bindO_some, ↓bindF_some, ↓bindX_normal, g6, e1]
      refine ⟨_, _, rfl, g0, g1, rfl, old.trans old2, wf2, vo2, g5, ?_⟩
      rw [List.range_succ, List.flatMap_append, List.flatMap_cons, List.flatMap_nil, List.append_nil]
      exact o2
    · intro a H' ⟨h0, h1, h6, old, hw, vo, h5, ho⟩
      rw [show rrA = atC [1, 1, 0, 1, 0, 0] ((Try.f51.body).getD .skip) from rfl]
      have hv' := hv.mono old
      simp (disch := omega) only [Try.f51, Option.getD_some, atC, es_seq, es_region, es_cond, es_exit, ops_nil, ops_cons, st_move, sy_len uL, sy_bin, binS_lss, bindO_some, bindF_some, bindX_normal, bindX_exit, condX_false, ev_tmp, putA, upd_at, Option.map_some, ↓reduceIte, Nat.reduceEqDiff, decide_false, ↓bindO_some, ↓bindF_some, ↓bindX_normal, ↓bindX_exit, ↓condX_false, h0, h6, hv'.lenI, Int.lt_irrefl]
      exact ⟨_, _, _, rfl, by simp, rfl, vo, h5, ho, old, hw⟩
  rw [show rrA = atC [1, 1, 0, 1, 0, 0] ((Try.f51.body).getD .skip) from rfl] at key
  simp only [Try.f51, Option.getD_some, atC] at key
  simp (disch := omega) only [Try.f51, es_seq, es_region, es_block, es_loop, es_ret, ops_nil, ops_cons, st_move, st_assign, bindO_some, bindF_some, bindX_normal, ev_tmp, ev_const, putA, upd_at, ↓reduceIte, ↓bindO_some, ↓bindF_some, ↓bindX_normal]
  generalize hA : upd _ 6 _ = A
  obtain ⟨r, a', H', e, hr, vo, h5, ho, old, wf⟩ := key A (by subst hA; rfl) (by subst hA; rfl) (by subst hA; rfl) (by subst hA; rfl)
  subst hr
  rw [e]
  simp (disch := omega) only [bindX_normal, blkX_exit, upd_at, Option.map_some, ↓reduceIte, ↓bindX_normal, fin_r, res_nil, res_tmp, pack_1, h5, ho.RH.scal]
  exact ⟨_, _, rfl, ho, old, wf⟩
end Go.Proofs.Ytmmgdgmjkhcfaaa
