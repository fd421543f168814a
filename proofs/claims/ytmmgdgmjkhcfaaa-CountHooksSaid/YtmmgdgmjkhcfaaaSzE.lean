/- Hooks of the reference; lists of lists compared. -/
import Derived.Test.YtmmgdgmjkhcfaaaSzD
set_option linter.all false
namespace Go.Proofs.Ytmmgdgmjkhcfaaa
open Go Go.Abs Go.Num
set_option maxRecDepth 10000
attribute [local congr] bindO_congr bindF_congr bindX_congr condX_congr iteB_congr binS_congr pickS_congr eqB_congr nilS_congr clsW_congr maxS_congr minS_congr
noncomputable def rhA : Code := atC [1, 1, 1, 0, 1, 0, 0] ((Try.f49.body).getD .skip)
noncomputable def rhB : Code := atC [1, 1, 1, 0, 1, 0, 0, 1, 0, 0, 1, 0, 1, 0, 0] ((Try.f49.body).getD .skip)
theorem rh_inner {H : Heap} {vp vq : Value} {l : List Int} (hp : Part l) {i : Nat} (hi : i < l.length) (hw : WF H) (hv : R H vp (ints l)) (hq : R H vq (ints (conjP l))) (call : CallF) (m nt : Nat) {a : Fr} {k : Nat} (hk : 30 ≤ k) {v4 : Value} (h0 : a 0 = vp) (h3 : a 3 = vq) (h4 : a 4 = v4) (h5 : a 5 = vi i) (h6 : a 6 = .slice none 0 0) (h7 : a 7 = vi (0 : Nat)) :
    ∃ r a' H', loopN (evS Try.prog call m nt none rhB) k a H = some (r, a', H') ∧ r = .exit 2 ∧ a' 0 = vp ∧ a' 3 = vq ∧ a' 4 = v4 ∧ a' 5 = vi i ∧ Old H.length H H' ∧ WF H' ∧ ∃ vr, a' 6 = vr ∧ O H.length H' vr (ints (hookRow l i)) := by
  have hg := hp.getD hi
  have hlen := hp.len
  refine loop_up (l.getD i 0).toNat (fun j a H' => a 0 = vp ∧ a 3 = vq ∧ a 4 = v4 ∧ a 5 = vi i ∧ a 7 = vi j ∧ Old H.length H H' ∧ WF H' ∧ ∃ vr, a 6 = vr ∧ O H.length H' vr (ints ((List.range j).map (hkV l i)))) _ ?_ ?_ (by omega) ⟨h0, h3, h4, h5, h7, Old.refl _ _, hw, _, h6, O.nil _ _⟩
  · intro j a H' hj ⟨h0, h3, h4, h5, h7, old, hw, vr, h6, ho⟩
    left
    rw [show rhB = atC [1, 1, 1, 0, 1, 0, 0, 1, 0, 0, 1, 0, 1, 0, 0] ((Try.f49.body).getD .skip) from rfl]
    obtain ⟨b1, b2, b3, b4, b5⟩ := hk_bd hp hi hj
    have hq' := hq.mono old
    have hv' := hv.mono old
    have hlt : (j : Int) < l.getD i 0 := by omega
    have e1 : IntKind.i64.wrap (l.getD i 0 - (j : Int)) = l.getD i 0 - (j : Int) := wr64 (by omega) (by omega)
    have e2 : IntKind.i64.wrap (l.getD i 0 - (j : Int) + (conjP l).getD j 0) = l.getD i 0 - (j : Int) + (conjP l).getD j 0 := wr64 (by omega) (by omega)
    have e3 : IntKind.i64.wrap (l.getD i 0 - (j : Int) + (conjP l).getD j 0 - (i : Int)) = l.getD i 0 - (j : Int) + (conjP l).getD j 0 - (i : Int) := wr64 (by omega) (by omega)
    have e4 : IntKind.i64.wrap (l.getD i 0 - (j : Int) + (conjP l).getD j 0 - (i : Int) - 1) = hkV l i j := wr64 (by omega) (by omega)
    have e5 : IntKind.i64.wrap ((j : Int) + 1) = ((j + 1 : Nat) : Int) := by rw [wr64 (by omega) (by omega)]; omega
    obtain ⟨v2, H2, s2, o2, old2, wf2⟩ := ho.pushI hw old.1 (by rw [List.length_map, List.length_range]; unfold maxA; omega) (hkV l i j)
    simp (disch := omega) only [Try.f49, Option.getD_some, atC, es_seq, es_region, es_draw, d0, es_cond, es_block, es_skip, ops_nil, ops_cons, opsV_nil, opsV_cons, st_move, st_assign, sy_addr eL, sy_load aI, sy_bin, sy_append eL pI, sy_build1 eL oI, binS_lss, binS_add, binS_sub, bindO_some, bindF_some, bindX_normal, blkX_normal, condX_true, iteB_true, iteB_false, ev_tmp, ev_const, putA, upd_at, Option.map_some, ↓reduceIte, Nat.reduceEqDiff, Int.toNat_natCast, decide_true, ↓bindO_some, ↓bindF_some, ↓bindX_normal, ↓condX_true, ↓iteB_true, ↓iteB_false, reflV_load, reflV_move, reflV_assign, reflV_bin, reflV_addr, reflV_call, reflV_build, vEq_vi, scal_vi, h0, h3, h5, h6, h7, hlt, hv'.addrI, hv'.loadI, hq'.addrI, hq'.loadI, e1, e2, e3, e4, scal_vi, s2, e5]
    exact ⟨_, _, rfl, h0, h3, h4, h5, rfl, old.trans old2, wf2, v2, rfl, by rw [map_range_succ]; exact o2⟩
  · intro a H' ⟨h0, h3, h4, h5, h7, old, hw, vr, h6, ho⟩
    rw [show rhB = atC [1, 1, 1, 0, 1, 0, 0, 1, 0, 0, 1, 0, 1, 0, 0] ((Try.f49.body).getD .skip) from rfl]
    have hv' := hv.mono old
    have hlt : ¬ (((l.getD i 0).toNat : Nat) : Int) < l.getD i 0 := by omega
    simp (disch := omega) only [Try.f49, Option.getD_some, atC, es_seq, es_region, es_cond, es_exit, ops_nil, ops_cons, st_move, sy_addr eL, sy_load aI, sy_bin, binS_lss, bindO_some, bindF_some, bindX_normal, bindX_exit, condX_false, ev_tmp, putA, upd_at, Option.map_some, ↓reduceIte, Nat.reduceEqDiff, Int.toNat_natCast, decide_false, ↓bindO_some, ↓bindF_some, ↓bindX_normal, ↓bindX_exit, ↓condX_false, h0, h5, h7, hv'.addrI, hv'.loadI, hlt]
    exact ⟨_, _, _, rfl, by simp, rfl, h0, h3, h4, h5, old, hw, vr, h6, ho⟩
theorem rhooks_run {H : Heap} {v : Value} {l : List Int} (hw : WF H) (hv : R H v (ints l)) (hp : Part l) (n : Nat) (hn : 1020 ≤ n) : OneLL H (evB Try.prog noC n (.func (.func 49) #[] #[]) [v] H) (hooksL l) := by
  refine run_of (F := 1019) (Q := fun r => OneLL H r (hooksL l)) (fun n hn => ?_) n hn
  rw [body_runS Try.func49 rfl (ok_fn (by rfl) Try.func49 rfl) (Nat.le_of_ble_eq_true rfl) (D := D0) (by kernel_rfl)]
  have hl := hp.len
  have hl0 := Part.head hp
  obtain ⟨vq, H1, s1, oq, old1, wf1⟩ := rconj_run hw hv (by omega) hl0.1 hl0.2 n (by omega)
  rw [← conj_eq hp.desc] at oq
  have hv1 := hv.mono old1
  have key : ∀ A : Fr, A 0 = v → A 3 = vq → A 4 = .slice none 0 0 → A 5 = vi (0 : Nat) → ∃ r a' H', loopN (evS Try.prog (evB Try.prog noC n) n Try.f49.ntmps none rhA) n A H1 = some (r, a', H') ∧ r = .exit 0 ∧ ∃ vo, a' 4 = vo ∧ OL H.length H' vo (hooksL l) ∧ Old H.length H H' ∧ WF H' := by
    intro A h0 h3 h4 h5
    refine loop_up l.length (fun i a H' => a 0 = v ∧ a 3 = vq ∧ a 5 = vi i ∧ Old H1.length H1 H' ∧ WF H' ∧ ∃ vo, a 4 = vo ∧ OL H1.length H' vo ((List.range i).map (hookRow l))) _ ?_ ?_ (by omega) ⟨h0, h3, h5, Old.refl _ _, wf1, _, h4, OG.nil _ _⟩
    · intro i a H' hi ⟨h0, h3, h5, old, hw, vo, h4, ho⟩
      left
      rw [show rhA = atC [1, 1, 1, 0, 1, 0, 0] ((Try.f49.body).getD .skip) from rfl]
      have hv' := hv1.mono old
      have hq' := oq.R.mono old
      have hlt : (i : Int) < l.length := by omega
      have e1 : IntKind.i64.wrap ((i : Int) + 1) = ((i + 1 : Nat) : Int) := by rw [wr64 (by omega) (by omega)]; omega
      have k1 := fun (F : Fr) => rh_inner hp hi hw hv' hq' (evB Try.prog noC n) n Try.f49.ntmps (a := F) (k := n) (v4 := vo) (by omega)
      rw [show rhB = atC [1, 1, 1, 0, 1, 0, 0, 1, 0, 0, 1, 0, 1, 0, 0] ((Try.f49.body).getD .skip) from rfl] at k1
      simp only [Try.f49, Option.getD_some, atC] at k1
      simp (disch := omega) only [Try.f49, Option.getD_some, atC, es_seq, es_region, es_cond, es_block, es_loop, es_skip, ops_nil, ops_cons, st_move, st_assign, sy_len uL, sy_bin, binS_lss, bindO_some, bindF_some, bindX_normal, condX_true, ev_tmp, ev_const, putA, upd_at, Option.map_some, ↓reduceIte, Nat.reduceEqDiff, decide_true, ↓bindO_some, ↓bindF_some, ↓bindX_normal, ↓condX_true, h0, h5, hv'.lenI, hlt]
      generalize hF : upd _ 7 _ = F
      obtain ⟨r, a', H3, e, hr, g0, g3, g4, g5, old3, wf3, vr, g6, hrow⟩ := k1 F (by subst hF; exact h0) (by subst hF; exact h3) (by subst hF; exact h4) (by subst hF; exact h5) (by subst hF; rfl) (by subst hF; rfl)
      subst hr
      rw [e]
      clear e k1
      obtain ⟨v2, H4, s4, o4, old4, wf4⟩ := OL.push ho old3 wf3 old.1 hrow (Nat.le_refl _) (by rw [List.length_map, List.length_range]; unfold maxA; omega)
      simp (disch := omega) only [binS_add, bindO_some, bindF_some, bindX_normal, blkX_normal, blkX_exit, ev_tmp, upd_at, ↓reduceIte, Nat.reduceEqDiff, ↓bindO_some, ↓bindF_some, ↓bindX_normal, sy_appN eLL pLL, sy_build1 eLL oLL, g4, g5, g6, hrow.R.scal, s4, e1]
      exact ⟨_, _, rfl, g0, g3, rfl, (old.trans (old3.mono old.1)).trans old4, wf4, v2, rfl, by rw [map_range_succ]; exact o4⟩
    · intro a H' ⟨h0, h3, h5, old, hw, vo, h4, ho⟩
      rw [show rhA = atC [1, 1, 1, 0, 1, 0, 0] ((Try.f49.body).getD .skip) from rfl]
      have hv' := hv1.mono old
      simp (disch := omega) only [Try.f49, Option.getD_some, atC, es_seq, es_region, es_cond, es_exit, ops_nil, ops_cons, st_move, sy_len uL, sy_bin, binS_lss, bindO_some, bindF_some, bindX_normal, bindX_exit, condX_false, ev_tmp, putA, upd_at, Option.map_some, ↓reduceIte, Nat.reduceEqDiff, decide_false, ↓bindO_some, ↓bindF_some, ↓bindX_normal, ↓bindX_exit, ↓condX_false, h0, h5, hv'.lenI, Int.lt_irrefl]
      exact ⟨_, _, _, rfl, by simp, rfl, vo, h4, OG.below ho old1.1, old1.trans (old.mono old1.1), hw⟩
  rw [show rhA = atC [1, 1, 1, 0, 1, 0, 0] ((Try.f49.body).getD .skip) from rfl] at key
  simp only [Try.f49, Option.getD_some, atC] at key
  simp (disch := omega) only [Try.f49, es_seq, es_region, es_block, es_loop, es_ret, ops_nil, ops_cons, st_move, st_assign, st_fun, bindO_some, bindF_some, bindX_normal, ev_tmp, ev_const, ev_func, putA, upd_at, ↓reduceIte, Nat.reduceEqDiff, frOf_0, List.map_cons, List.map_nil, ↓bindO_some, ↓bindF_some, ↓bindX_normal, s1]
  generalize hA : upd _ 5 _ = A
  obtain ⟨r, a', H', e, hr, vo, h4, ho, old, wf⟩ := key A (by subst hA; rfl) (by subst hA; rfl) (by subst hA; rfl) (by subst hA; rfl)
  subst hr
  rw [e]
  simp (disch := omega) only [bindX_normal, blkX_exit, upd_at, Option.map_some, ↓reduceIte, ↓bindX_normal, fin_r, res_nil, res_tmp, pack_1, h4, ho.RL.scal]
  exact ⟨_, _, rfl, ho, old, wf⟩
end Go.Proofs.Ytmmgdgmjkhcfaaa
