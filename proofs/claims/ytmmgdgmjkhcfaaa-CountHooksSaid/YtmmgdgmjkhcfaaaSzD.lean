/- Hooks. -/
import Derived.Test.YtmmgdgmjkhcfaaaSzB
set_option linter.all false
namespace Go.Proofs.Ytmmgdgmjkhcfaaa
open Go Go.Abs Go.Num
set_option maxRecDepth 10000
attribute [local congr] bindO_congr bindF_congr bindX_congr condX_congr iteB_congr binS_congr pickS_congr eqB_congr nilS_congr clsW_congr maxS_congr minS_congr
noncomputable def hooA : Code := atC [1, 1, 1, 0, 1, 0, 0] ((Try.f91.body).getD .skip)
noncomputable def hooB : Code := atC [1, 1, 1, 0, 1, 0, 0, 1, 1, 0, 0, 1, 1, 0, 1, 0, 0] ((Try.f91.body).getD .skip)
theorem hk_inner {H : Heap} {vp vq : Value} {l : List Int} (hp : Part l) {i : Nat} (hi : i < l.length) (hw : WF H) (hq : R H vq (ints (conjP l))) (call : CallF) (m nt : Nat) {a : Fr} {k : Nat} (hk : 30 ≤ k) {v4 v12 v13 : Value} (h3 : a 3 = vq) (h4 : a 4 = v4) (h5 : a 5 = vi i) (h6 : a 6 = vi (l.getD i 0)) (h7 : a 7 = .slice none 0 0) (h11 : a 11 = vp) (h12 : a 12 = v12) (h13 : a 13 = v13) (h18 : a 18 = vi (l.getD i 0)) (h19 : a 19 = vi (0 : Nat)) :
    ∃ r a' H', loopN (evS Try.prog call m nt none hooB) k a H = some (r, a', H') ∧ r = .exit 2 ∧ a' 3 = vq ∧ a' 4 = v4 ∧ a' 11 = vp ∧ a' 12 = v12 ∧ a' 13 = v13 ∧ Old H.length H H' ∧ WF H' ∧ ∃ vr, a' 7 = vr ∧ O H.length H' vr (ints (hookRow l i)) := by
  have hg := hp.getD hi
  refine loop_up (l.getD i 0).toNat (fun j a H' => a 3 = vq ∧ a 4 = v4 ∧ a 5 = vi i ∧ a 6 = vi (l.getD i 0) ∧ a 11 = vp ∧ a 12 = v12 ∧ a 13 = v13 ∧ a 18 = vi (l.getD i 0) ∧ a 19 = vi j ∧ Old H.length H H' ∧ WF H' ∧ ∃ vr, a 7 = vr ∧ O H.length H' vr (ints ((List.range j).map (hkV l i)))) _ ?_ ?_ (by omega) ⟨h3, h4, h5, h6, h11, h12, h13, h18, h19, Old.refl _ _, hw, _, h7, O.nil _ _⟩
  · intro j a H' hj ⟨h3, h4, h5, h6, h11, h12, h13, h18, h19, old, hw, vr, h7, ho⟩
    left
    rw [show hooB = atC [1, 1, 1, 0, 1, 0, 0, 1, 1, 0, 0, 1, 1, 0, 1, 0, 0] ((Try.f91.body).getD .skip) from rfl]
    obtain ⟨b1, b2, b3, b4, b5⟩ := hk_bd hp hi hj
    have hq' := hq.mono old
    have hlen := hp.len
    have hlt : (j : Int) < l.getD i 0 := by omega
    have e1 : IntKind.i64.wrap (l.getD i 0 - (j : Int)) = l.getD i 0 - (j : Int) := wr64 (by omega) (by omega)
    have e2 : IntKind.i64.wrap (l.getD i 0 - (j : Int) + (conjP l).getD j 0) = l.getD i 0 - (j : Int) + (conjP l).getD j 0 := wr64 (by omega) (by omega)
    have e3 : IntKind.i64.wrap (l.getD i 0 - (j : Int) + (conjP l).getD j 0 - (i : Int)) = l.getD i 0 - (j : Int) + (conjP l).getD j 0 - (i : Int) := wr64 (by omega) (by omega)
    have e4 : IntKind.i64.wrap (l.getD i 0 - (j : Int) + (conjP l).getD j 0 - (i : Int) - 1) = hkV l i j := wr64 (by omega) (by omega)
    have e5 : IntKind.i64.wrap ((j : Int) + 1) = ((j + 1 : Nat) : Int) := by rw [wr64 (by omega) (by omega)]; omega
    obtain ⟨v2, H2, s2, o2, old2, wf2⟩ := ho.pushI hw old.1 (by rw [List.length_map, List.length_range]; unfold maxA; omega) (hkV l i j)
    simp (disch := omega) only [Try.f91, Option.getD_some, atC, es_seq, es_region, es_cond, es_block, es_skip, ops_nil, ops_cons, st_move, st_assign, sy_addr eL, sy_load aI, sy_bin, sy_append eL pI, sy_build1 eL oI, binS_lss, binS_add, binS_sub, bindO_some, bindF_some, bindX_normal, blkX_normal, condX_true, ev_tmp, ev_const, putA, upd_at, Option.map_some, ↓reduceIte, Nat.reduceEqDiff, Int.toNat_natCast, decide_true, ↓bindO_some, ↓bindF_some, ↓bindX_normal, ↓condX_true, scal_vi, h3, h5, h6, h7, h18, h19, hlt, hq'.addrI, hq'.loadI, e1, e2, e3, e4, scal_vi, s2, e5]
    exact ⟨_, _, rfl, h3, h4, h5, h6, h11, h12, h13, h18, rfl, old.trans old2, wf2, v2, rfl, by rw [map_range_succ]; exact o2⟩
  · intro a H' ⟨h3, h4, h5, h6, h11, h12, h13, h18, h19, old, hw, vr, h7, ho⟩
    rw [show hooB = atC [1, 1, 1, 0, 1, 0, 0, 1, 1, 0, 0, 1, 1, 0, 1, 0, 0] ((Try.f91.body).getD .skip) from rfl]
    have hlt : ¬ (((l.getD i 0).toNat : Nat) : Int) < l.getD i 0 := by omega
    simp (disch := omega) only [Try.f91, Option.getD_some, atC, es_seq, es_region, es_cond, es_exit, ops_nil, ops_cons, sy_bin, binS_lss, bindO_some, bindF_some, bindX_normal, bindX_exit, condX_false, ev_tmp, putA, upd_at, ↓reduceIte, decide_false, ↓bindO_some, ↓bindF_some, ↓bindX_normal, ↓bindX_exit, ↓condX_false, h18, h19, hlt]
    exact ⟨_, _, _, rfl, by simp, rfl, h3, h4, h11, h12, h13, old, hw, vr, h7, ho⟩
/-- A list of lists of the call's own. -/
def OneLL (H : Heap) (r : Option (Value × Heap)) (ls : List (List Int)) : Prop := ∃ v H', r = some (v, H') ∧ OL H.length H' v ls ∧ Old H.length H H' ∧ WF H'
theorem hooks_run {H : Heap} {v : Value} {l : List Int} (hw : WF H) (hv : R H v (ints l)) (hp : Part l) (n : Nat) (hn : 1020 ≤ n) : OneLL H (evB Try.prog noC n (.func (.func 91) #[] #[]) [v] H) (hooksL l) := by
  refine run_of (F := 1019) (Q := fun r => OneLL H r (hooksL l)) (fun n hn => ?_) n hn
  rw [body_runS Try.func91 rfl (ok_fn (by rfl) Try.func91 rfl) (Nat.le_of_ble_eq_true rfl) (D := D0) (by kernel_rfl)]
  have hl := hp.len
  have hl0 : 0 ≤ l.getD 0 0 ∧ l.getD 0 0 ≤ 1000 := by have := hp.sm.getD 0; by_cases h : 0 < l.length
                                                      · have := hp.getD h; omega
                                                      · rw [List.getD_eq_getElem?_getD, List.getElem?_eq_none (by omega)]; simp
  obtain ⟨vq, H1, s1, oq, old1, wf1⟩ := conj_run hw hv (by omega) hl0.1 hl0.2 n (by omega)
  have hv1 := hv.mono old1
  have key : ∀ A : Fr, A 3 = vq → A 4 = .slice none 0 0 → A 11 = v → A 12 = vi l.length → A 13 = vi (0 : Nat) → ∃ r a' H', loopN (evS Try.prog (evB Try.prog noC n) n Try.f91.ntmps none hooA) n A H1 = some (r, a', H') ∧ r = .exit 0 ∧ ∃ vo, a' 4 = vo ∧ OL H.length H' vo (hooksL l) ∧ Old H.length H H' ∧ WF H' := by
    intro A h3 h4 h11 h12 h13
    refine loop_up l.length (fun i a H' => a 3 = vq ∧ a 11 = v ∧ a 12 = vi l.length ∧ a 13 = vi i ∧ Old H1.length H1 H' ∧ WF H' ∧ ∃ vo, a 4 = vo ∧ OL H1.length H' vo ((List.range i).map (hookRow l))) _ ?_ ?_ (by omega) ⟨h3, h11, h12, h13, Old.refl _ _, wf1, _, h4, OG.nil _ _⟩
    · intro i a H' hi ⟨h3, h11, h12, h13, old, hw, vo, h4, ho⟩
      left
      rw [show hooA = atC [1, 1, 1, 0, 1, 0, 0] ((Try.f91.body).getD .skip) from rfl]
      have hv' := hv1.mono old
      have hq' := oq.R.mono old
      have hlt : (i : Int) < l.length := by omega
      have e1 : IntKind.i64.wrap ((i : Int) + 1) = ((i + 1 : Nat) : Int) := by rw [wr64 (by omega) (by omega)]; omega
      have k1 := fun (F : Fr) => hk_inner (vp := v) hp hi hw hq' (evB Try.prog noC n) n Try.f91.ntmps (a := F) (k := n) (v4 := vo) (v12 := vi l.length) (v13 := vi i) (by omega)
      rw [show hooB = atC [1, 1, 1, 0, 1, 0, 0, 1, 1, 0, 0, 1, 1, 0, 1, 0, 0] ((Try.f91.body).getD .skip) from rfl] at k1
      simp only [Try.f91, Option.getD_some, atC] at k1
      simp (disch := omega) only [Try.f91, Option.getD_some, atC, es_seq, es_region, es_cond, es_block, es_loop, es_skip, ops_nil, ops_cons, st_move, st_assign, sy_addr eL, sy_load aI, sy_bin, binS_lss, bindO_some, bindF_some, bindX_normal, condX_true, ev_tmp, ev_const, putA, upd_at, Option.map_some, ↓reduceIte, Nat.reduceEqDiff, Int.toNat_natCast, decide_true, ↓bindO_some, ↓bindF_some, ↓bindX_normal, ↓condX_true, h11, h12, h13, hlt, hv'.addrI, hv'.loadI]
      generalize hF : upd _ 19 _ = F
      obtain ⟨r, a', H3, e, hr, g3, g4, g11, g12, g13, old3, wf3, vr, g7, hrow⟩ := k1 F (by subst hF; exact h3) (by subst hF; exact h4) (by subst hF; rfl) (by subst hF; rfl) (by subst hF; rfl) (by subst hF; exact h11) (by subst hF; exact h12) (by subst hF; exact h13) (by subst hF; rfl) (by subst hF; rfl)
      subst hr
      rw [e]
      clear e k1
      obtain ⟨v2, H4, s4, o4, old4, wf4⟩ := OL.push ho old3 wf3 old.1 hrow (Nat.le_refl _) (by rw [List.length_map, List.length_range]; unfold maxA; omega)
      simp (disch := omega) only [binS_add, bindO_some, bindF_some, bindX_normal, blkX_normal, blkX_exit, ev_tmp, upd_at, ↓reduceIte, Nat.reduceEqDiff, ↓bindO_some, ↓bindF_some, ↓bindX_normal, sy_appN eLL pLL, sy_build1 eLL oLL, g4, g7, g13, hrow.R.scal, s4, e1]
      exact ⟨_, _, rfl, g3, g11, g12, rfl, (old.trans (old3.mono old.1)).trans old4, wf4, v2, rfl, by rw [map_range_succ]; exact o4⟩
    · intro a H' ⟨h3, h11, h12, h13, old, hw, vo, h4, ho⟩
      rw [show hooA = atC [1, 1, 1, 0, 1, 0, 0] ((Try.f91.body).getD .skip) from rfl]
      simp (disch := omega) only [Try.f91, Option.getD_some, atC, es_seq, es_region, es_cond, es_exit, ops_nil, ops_cons, sy_bin, binS_lss, bindO_some, bindF_some, bindX_normal, bindX_exit, condX_false, ev_tmp, putA, upd_at, ↓reduceIte, decide_false, ↓bindO_some, ↓bindF_some, ↓bindX_normal, ↓bindX_exit, ↓condX_false, h12, h13, Int.lt_irrefl]
      exact ⟨_, _, _, rfl, by simp, rfl, vo, h4, OG.below ho old1.1, old1.trans (old.mono old1.1), hw⟩
  rw [show hooA = atC [1, 1, 1, 0, 1, 0, 0] ((Try.f91.body).getD .skip) from rfl] at key
  simp only [Try.f91, Option.getD_some, atC] at key
  simp (disch := omega) only [Try.f91, es_seq, es_region, es_block, es_loop, es_ret, ops_nil, ops_cons, st_move, st_assign, st_fun, sy_len uL, bindO_some, bindF_some, bindX_normal, ev_tmp, ev_const, ev_func, putA, upd_at, Option.map_some, ↓reduceIte, Nat.reduceEqDiff, frOf_0, List.map_cons, List.map_nil, ↓bindO_some, ↓bindF_some, ↓bindX_normal, s1, hv1.lenI]
  generalize hA : upd _ 13 _ = A
  obtain ⟨r, a', H', e, hr, vo, h4, ho, old, wf⟩ := key A (by subst hA; rfl) (by subst hA; rfl) (by subst hA; rfl) (by subst hA; rfl) (by subst hA; rfl)
  subst hr
  rw [e]
  simp (disch := omega) only [bindX_normal, blkX_exit, upd_at, Option.map_some, ↓reduceIte, ↓bindX_normal, fin_r, res_nil, res_tmp, pack_1, h4, ho.RL.scal]
  exact ⟨_, _, rfl, ho, old, wf⟩
end Go.Proofs.Ytmmgdgmjkhcfaaa
