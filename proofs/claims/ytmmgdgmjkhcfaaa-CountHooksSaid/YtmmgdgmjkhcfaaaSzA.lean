/- Conjugate partitions. -/
import Derived.Test.YtmmgdgmjkhcfaaaSyX
set_option linter.all false
namespace Go.Proofs.Ytmmgdgmjkhcfaaa
open Go Go.Abs Go.Num
set_option maxRecDepth 10000
attribute [local congr] bindO_congr bindF_congr bindX_congr condX_congr iteB_congr binS_congr pickS_congr eqB_congr nilS_congr clsW_congr maxS_congr minS_congr
theorem Part.head {l : List Int} (hp : Part l) : 0 ≤ l.getD 0 0 ∧ l.getD 0 0 ≤ 1000 := by
  by_cases h : 0 < l.length
  · have := hp.getD h; omega
  · rw [List.getD_eq_getElem?_getD, List.getElem?_eq_none (by omega)]; simp
theorem map_range_succ {α : Type} (f : Nat → α) (i : Nat) : (List.range (i + 1)).map f = (List.range i).map f ++ [f i] := by rw [List.range_succ, List.map_append]; rfl
noncomputable def cjA : Code := atC [1, 1, 1, 0, 1, 0, 0] ((Try.f81.body).getD .skip)
noncomputable def cjB : Code := atC [1, 1, 1, 0, 1, 0, 0, 1, 1, 0, 0, 1, 1, 0, 0, 0] ((Try.f81.body).getD .skip)
theorem cj_inner {H : Heap} {v : Value} {l : List Int} (hv : R H v (ints l)) (hl : l.length ≤ 1000) (j : Nat) (call : CallF) (m nt : Nat) {a : Fr} {k : Nat} (hk : l.length < k) {v3 v12 v13 : Value} (h0 : a 0 = v) (h3 : a 3 = v3) (h4 : a 4 = vi j) (h5 : a 5 = vi (0 : Nat)) (h12 : a 12 = v12) (h13 : a 13 = v13) :
    ∃ r a' H', loopN (evS Try.prog call m nt none cjB) k a H = some (r, a', H') ∧ r = .exit 2 ∧ H' = H ∧ a' 0 = v ∧ a' 3 = v3 ∧ a' 5 = vi (tw l j : Nat) ∧ a' 12 = v12 ∧ a' 13 = v13 := by
  refine loop_up l.length (fun i a H' => H' = H ∧ a 0 = v ∧ a 3 = v3 ∧ a 4 = vi j ∧ a 5 = vi i ∧ a 12 = v12 ∧ a 13 = v13 ∧ ∀ t, t < i → (j : Int) < l.getD t 0) _ ?_ ?_ hk ⟨rfl, h0, h3, h4, h5, h12, h13, fun t ht => by omega⟩
  · intro i a H' hi ⟨hH, h0, h3, h4, h5, h12, h13, ht⟩
    subst hH
    rw [show cjB = atC [1, 1, 1, 0, 1, 0, 0, 1, 1, 0, 0, 1, 1, 0, 0, 0] ((Try.f81.body).getD .skip) from rfl]
    have hlt : (i : Int) < l.length := by omega
    have e1 : IntKind.i64.wrap ((i : Int) + 1) = ((i + 1 : Nat) : Int) := by rw [wr64 (by omega) (by omega)]; omega
    by_cases hj : (j : Int) < l.getD i 0
    · left
      simp (disch := omega) only [Try.f81, Option.getD_some, atC, es_seq, es_region, es_cond, es_block, es_skip, ops_nil, ops_cons, ops_consG, st_move, st_assign, sy_pick, pickS_true, sy_len uL, sy_addr eL, sy_load aI, sy_bin, binS_lss, binS_gtr, binS_add, bindO_some, bindF_some, bindX_normal, blkX_normal, condX_true, iteB_true, ev_tmp, ev_const, putA, upd_at, Option.map_some, ↓reduceIte, Nat.reduceEqDiff, Int.toNat_natCast, decide_true, yieldO_eq, yO, yV_bool, List.getElem?_cons_zero, List.getElem?_cons_succ, beq_self_eq_true, ↓bindO_some, ↓bindF_some, ↓bindX_normal, ↓condX_true, ↓iteB_true, h0, h4, h5, hv.lenI, hlt, hv.addrI, hv.loadI, hj, e1]
      refine ⟨_, _, rfl, rfl, h0, h3, h4, rfl, h12, h13, fun t h => ?_⟩
      by_cases e : t = i
      · subst e; exact hj
      · exact ht t (by omega)
    · right
      simp (disch := omega) only [Try.f81, Option.getD_some, atC, es_seq, es_region, es_cond, es_exit, ops_nil, ops_cons, ops_consG, st_move, sy_pick, pickS_true, sy_len uL, sy_addr eL, sy_load aI, sy_bin, binS_lss, binS_gtr, bindO_some, bindF_some, bindX_normal, bindX_exit, condX_false, iteB_true, ev_tmp, putA, upd_at, Option.map_some, ↓reduceIte, Nat.reduceEqDiff, Int.toNat_natCast, decide_true, decide_false, yieldO_eq, yO, yV_bool, List.getElem?_cons_zero, List.getElem?_cons_succ, beq_self_eq_true, ↓bindO_some, ↓bindF_some, ↓bindX_normal, ↓bindX_exit, ↓condX_false, ↓iteB_true, h0, h4, h5, hv.lenI, hlt, hv.addrI, hv.loadI, hj]
      refine ⟨_, _, _, rfl, by simp, rfl, rfl, h0, h3, ?_, h12, h13⟩
      rw [← tw_eq (by omega : i ≤ l.length) ht (.inr hj)]
      simp only [upd_at, ↓reduceIte, Nat.reduceEqDiff, h5]
  · intro a H' ⟨hH, h0, h3, h4, h5, h12, h13, ht⟩
    subst hH
    rw [show cjB = atC [1, 1, 1, 0, 1, 0, 0, 1, 1, 0, 0, 1, 1, 0, 0, 0] ((Try.f81.body).getD .skip) from rfl]
    simp (disch := omega) only [Try.f81, Option.getD_some, atC, es_seq, es_region, es_cond, es_exit, ops_nil, ops_cons, ops_consG, st_move, sy_pick, pickS_false, sy_len uL, sy_bin, binS_lss, bindO_some, bindF_some, bindX_normal, bindX_exit, condX_false, iteB_false, ev_tmp, ev_const, putA, upd_at, Option.map_some, ↓reduceIte, Nat.reduceEqDiff, decide_false, yieldO_eq, yO, yV_bool, some_true, List.getElem?_cons_zero, List.getElem?_cons_succ, ↓bindO_some, ↓bindF_some, ↓bindX_normal, ↓bindX_exit, ↓condX_false, ↓iteB_false, h0, h5, hv.lenI, Int.lt_irrefl]
    refine ⟨_, _, _, rfl, by simp, rfl, rfl, h0, h3, ?_, h12, h13⟩
    rw [← tw_eq (Nat.le_refl _) ht (.inl rfl)]
    simp only [upd_at, ↓reduceIte, Nat.reduceEqDiff, h5]
theorem conj_run {H : Heap} {v : Value} {l : List Int} (hw : WF H) (hv : R H v (ints l)) (hl : l.length ≤ 1000) (h0 : 0 ≤ l.getD 0 0) (h1 : l.getD 0 0 ≤ 1000) (n : Nat) (hn : 1010 ≤ n) : OneL H (evB Try.prog noC n (.func (.func 81) #[] #[]) [v] H) (conjP l) := by
  refine run_of (F := 1009) (Q := fun r => OneL H r (conjP l)) (fun n hn => ?_) n hn
  rw [body_runS Try.func81 rfl (ok_fn (by rfl) Try.func81 rfl) (Nat.le_of_ble_eq_true rfl) (D := D0) (by kernel_rfl)]
  by_cases hz : l.length = 0
  · have c1 : (l.length : Int) = 0 := by omega
    have : l = [] := List.eq_nil_of_length_eq_zero hz
    simp (disch := omega) only [Try.f81, es_seq, es_region, es_cond, es_ret, ops_nil, ops_cons, st_move, st_assign, sy_len uL, sy_bin, binS_eql, bindO_some, bindF_some, bindX_normal, bindX_ret, condX_true, ev_tmp, ev_const, putA, upd_at, Option.map_some, ↓reduceIte, Nat.reduceEqDiff, frOf_0, decide_true, ↓bindO_some, ↓bindF_some, ↓bindX_normal, ↓bindX_ret, ↓condX_true, fin_r, res_nil, res_tmp, pack_1, scal_nil, hv.lenI, c1]
    rw [this]
    exact ⟨_, _, rfl, O.nil _ _, Old.refl _ _, hw⟩
  · have c1 : ¬ (l.length : Int) = 0 := by omega
    have a1 : addrS 1 v (vi 0) = some (pt v 0) := hv.addrI (i := 0) (by omega) (by omega)
    have key : ∀ A : Fr, A 0 = v → A 3 = .slice none 0 0 → A 12 = vi (l.getD 0 0) → A 13 = vi (0 : Nat) → ∃ r a' H', loopN (evS Try.prog (evB Try.prog noC n) n Try.f81.ntmps none cjA) n A H = some (r, a', H') ∧ r = .exit 0 ∧ ∃ vo, a' 3 = vo ∧ O H.length H' vo (ints (conjP l)) ∧ Old H.length H H' ∧ WF H' := by
      intro A h0' h3 h12 h13
      refine loop_up (l.getD 0 0).toNat (fun i a H' => a 0 = v ∧ a 12 = vi (l.getD 0 0) ∧ a 13 = vi i ∧ Old H.length H H' ∧ WF H' ∧ ∃ vo, a 3 = vo ∧ O H.length H' vo (ints ((List.range i).map fun (j : Nat) => ((tw l (j : Int) : Nat) : Int)))) _ ?_ ?_ (by omega) ⟨h0', h12, h13, Old.refl _ _, hw, _, h3, O.nil _ _⟩
      · intro i a H' hi ⟨h0', h12, h13, old, hw, vo, h3, ho⟩
        left
        rw [show cjA = atC [1, 1, 1, 0, 1, 0, 0] ((Try.f81.body).getD .skip) from rfl]
        have hlt : (i : Int) < l.getD 0 0 := by omega
        have e1 : IntKind.i64.wrap ((i : Int) + 1) = ((i + 1 : Nat) : Int) := by rw [wr64 (by omega) (by omega)]; omega
        have hv' := hv.mono old
        have k1 := fun (F : Fr) => cj_inner hv' hl i (evB Try.prog noC n) n Try.f81.ntmps (a := F) (k := n) (v3 := vo) (v12 := vi (l.getD 0 0)) (v13 := vi i) (by omega)
        rw [show cjB = atC [1, 1, 1, 0, 1, 0, 0, 1, 1, 0, 0, 1, 1, 0, 0, 0] ((Try.f81.body).getD .skip) from rfl] at k1
        simp only [Try.f81, Option.getD_some, atC] at k1
        obtain ⟨v2, H2, s2, o2, old2, wf2⟩ := ho.pushI hw old.1 (by rw [List.length_map, List.length_range]; unfold maxA; omega) ((tw l (i : Int) : Nat) : Int)
        simp (disch := omega) only [Try.f81, Option.getD_some, atC, es_seq, es_region, es_cond, es_block, es_loop, es_skip, ops_nil, ops_cons, st_move, st_assign, sy_bin, sy_append eL pI, sy_build1 eL oI, binS_lss, bindO_some, bindF_some, bindX_normal, condX_true, ev_tmp, ev_const, putA, upd_at, ↓reduceIte, Nat.reduceEqDiff, decide_true, ↓bindO_some, ↓bindF_some, ↓bindX_normal, ↓condX_true, h12, h13, hlt]
        generalize hF : upd _ 5 _ = F
        obtain ⟨r, a', H3, e, hr, hH, g0, g3, g5, g12, g13⟩ := k1 F (by subst hF; exact h0') (by subst hF; exact h3) (by subst hF; rfl) (by subst hF; rfl) (by subst hF; exact h12) (by subst hF; exact h13)
        subst hr
        rw [e]
        clear e k1
        subst hH
        simp (disch := omega) only [binS_add, bindO_some, bindF_some, bindX_normal, blkX_normal, blkX_exit, upd_at, ↓reduceIte, Nat.reduceEqDiff, ↓bindO_some, ↓bindF_some, ↓bindX_normal, scal_vi, g3, g5, g13, scal_vi, s2, e1]
        exact ⟨_, _, rfl, g0, g12, rfl, old.trans old2, wf2, v2, rfl, by rw [map_range_succ]; exact o2⟩
      · intro a H' ⟨h0', h12, h13, old, hw, vo, h3, ho⟩
        rw [show cjA = atC [1, 1, 1, 0, 1, 0, 0] ((Try.f81.body).getD .skip) from rfl]
        have hlt : ¬ ((l.getD 0 0).toNat : Int) < l.getD 0 0 := by omega
        simp (disch := omega) only [Try.f81, Option.getD_some, atC, es_seq, es_region, es_cond, es_exit, ops_nil, ops_cons, sy_bin, binS_lss, bindO_some, bindF_some, bindX_normal, bindX_exit, condX_false, ev_tmp, putA, upd_at, ↓reduceIte, decide_false, ↓bindO_some, ↓bindF_some, ↓bindX_normal, ↓bindX_exit, ↓condX_false, h12, h13, hlt]
        exact ⟨_, _, _, rfl, by simp, rfl, vo, h3, ho, old, hw⟩
    rw [show cjA = atC [1, 1, 1, 0, 1, 0, 0] ((Try.f81.body).getD .skip) from rfl] at key
    simp only [Try.f81, Option.getD_some, atC] at key
    simp (disch := omega) only [Try.f81, es_seq, es_region, es_cond, es_block, es_loop, es_skip, es_ret, ops_nil, ops_cons, st_move, st_assign, sy_len uL, sy_addr eL, sy_load aI, sy_bin, binS_eql, bindO_some, bindF_some, bindX_normal, condX_false, ev_tmp, ev_const, putA, upd_at, Option.map_some, ↓reduceIte, Nat.reduceEqDiff, frOf_0, decide_false, ↓bindO_some, ↓bindF_some, ↓bindX_normal, ↓condX_false, hv.lenI, c1, a1, hv.loadI]
    generalize hA : upd _ 13 _ = A
    obtain ⟨r, a', H', e, hr, vo, h3, ho, old, wf⟩ := key A (by subst hA; rfl) (by subst hA; rfl) (by subst hA; rfl) (by subst hA; rfl)
    subst hr
    rw [e]
    simp (disch := omega) only [bindX_normal, blkX_exit, upd_at, Option.map_some, ↓reduceIte, ↓bindX_normal, fin_r, res_nil, res_tmp, pack_1, h3, ho.R.scal]
    exact ⟨_, _, rfl, ho, old, wf⟩
noncomputable def rcA : Code := atC [1, 1, 0, 1, 0, 0] ((Try.f45.body).getD .skip)
noncomputable def rcB : Code := atC [1, 1, 0, 1, 0, 0, 1, 0, 0, 1, 0, 1, 0, 0] ((Try.f45.body).getD .skip)
theorem rc_inner {H : Heap} {v : Value} {l : List Int} (hv : R H v (ints l)) (hl : l.length ≤ 1000) (j : Nat) (call : CallF) (m nt : Nat) {a : Fr} {k : Nat} (hk : l.length < k) {v3 : Value} (h0 : a 0 = v) (h3 : a 3 = v3) (h4 : a 4 = vi j) (h5 : a 5 = vi (0 : Nat)) (h6 : a 6 = vi (0 : Nat)) :
    ∃ r a' H', loopN (evS Try.prog call m nt none rcB) k a H = some (r, a', H') ∧ r = .exit 2 ∧ H' = H ∧ a' 0 = v ∧ a' 3 = v3 ∧ a' 4 = vi j ∧ a' 5 = vi (gt l j : Nat) := by
  refine loop_up l.length (fun i a H' => H' = H ∧ a 0 = v ∧ a 3 = v3 ∧ a 4 = vi j ∧ a 5 = vi (gt (l.take i) j : Nat) ∧ a 6 = vi i) _ ?_ ?_ hk ⟨rfl, h0, h3, h4, h5, h6⟩
  · intro i a H' hi ⟨hH, h0, h3, h4, h5, h6⟩
    subst hH
    left
    rw [show rcB = atC [1, 1, 0, 1, 0, 0, 1, 0, 0, 1, 0, 1, 0, 0] ((Try.f45.body).getD .skip) from rfl]
    have hlt : (i : Int) < l.length := by omega
    have e1 : IntKind.i64.wrap ((i : Int) + 1) = ((i + 1 : Nat) : Int) := by rw [wr64 (by omega) (by omega)]; omega
    have hgl : gt (l.take i) (j : Int) ≤ 1000 := Nat.le_trans (List.countP_le_length ..) (Nat.le_trans (List.length_take_le' ..) hl)
    have e2 : IntKind.i64.wrap (((gt (l.take i) (j : Int) : Nat) : Int) + 1) = ((gt (l.take i) (j : Int) + 1 : Nat) : Int) := by rw [wr64 (by omega) (by omega)]; rfl
    have hgt := gt_take (j := (j : Int)) hi
    by_cases hj : (j : Int) < l.getD i 0
    · rw [if_pos hj] at hgt
      simp (disch := omega) only [Try.f45, Option.getD_some, atC, es_seq, es_region, es_cond, es_block, es_skip, ops_nil, ops_cons, st_move, st_assign, sy_len uL, sy_addr eL, sy_load aI, sy_bin, binS_lss, binS_gtr, binS_add, bindO_some, bindF_some, bindX_normal, blkX_normal, condX_true, ev_tmp, ev_const, putA, upd_at, Option.map_some, ↓reduceIte, Nat.reduceEqDiff, Int.toNat_natCast, decide_true, ↓bindO_some, ↓bindF_some, ↓bindX_normal, ↓condX_true, h0, h4, h5, h6, hv.lenI, hlt, hv.addrI, hv.loadI, hj, e1, e2]
      exact ⟨_, _, rfl, rfl, h0, h3, h4, by rw [hgt]; simp only [upd_at, ↓reduceIte, Nat.reduceEqDiff], rfl⟩
    · rw [if_neg hj, Nat.add_zero] at hgt
      simp (disch := omega) only [Try.f45, Option.getD_some, atC, es_seq, es_region, es_cond, es_block, es_skip, ops_nil, ops_cons, st_move, st_assign, sy_len uL, sy_addr eL, sy_load aI, sy_bin, binS_lss, binS_gtr, binS_add, bindO_some, bindF_some, bindX_normal, blkX_normal, condX_true, condX_false, ev_tmp, ev_const, putA, upd_at, Option.map_some, ↓reduceIte, Nat.reduceEqDiff, Int.toNat_natCast, decide_true, decide_false, ↓bindO_some, ↓bindF_some, ↓bindX_normal, ↓condX_true, ↓condX_false, h0, h4, h6, hv.lenI, hlt, hv.addrI, hv.loadI, hj, e1]
      exact ⟨_, _, rfl, rfl, h0, h3, h4, by rw [hgt]; simp only [upd_at, ↓reduceIte, Nat.reduceEqDiff, h5, Nat.add_zero], rfl⟩
  · intro a H' ⟨hH, h0, h3, h4, h5, h6⟩
    subst hH
    rw [show rcB = atC [1, 1, 0, 1, 0, 0, 1, 0, 0, 1, 0, 1, 0, 0] ((Try.f45.body).getD .skip) from rfl]
    simp (disch := omega) only [Try.f45, Option.getD_some, atC, es_seq, es_region, es_cond, es_exit, ops_nil, ops_cons, st_move, sy_len uL, sy_bin, binS_lss, bindO_some, bindF_some, bindX_normal, bindX_exit, condX_false, ev_tmp, putA, upd_at, Option.map_some, ↓reduceIte, Nat.reduceEqDiff, decide_false, ↓bindO_some, ↓bindF_some, ↓bindX_normal, ↓bindX_exit, ↓condX_false, h0, h6, hv.lenI, Int.lt_irrefl]
    rw [List.take_length] at h5
    exact ⟨_, _, _, rfl, by simp, rfl, rfl, h0, h3, h4, h5⟩
theorem rconj_run {H : Heap} {v : Value} {l : List Int} (hw : WF H) (hv : R H v (ints l)) (hl : l.length ≤ 1000) (h0 : 0 ≤ l.getD 0 0) (h1 : l.getD 0 0 ≤ 1000) (n : Nat) (hn : 1010 ≤ n) : OneL H (evB Try.prog noC n (.func (.func 45) #[] #[]) [v] H) (conjR l) := by
  refine run_of (F := 1009) (Q := fun r => OneL H r (conjR l)) (fun n hn => ?_) n hn
  rw [body_runS Try.func45 rfl (ok_fn (by rfl) Try.func45 rfl) (Nat.le_of_ble_eq_true rfl) (D := D0) (by kernel_rfl)]
  have key : ∀ A : Fr, A 0 = v → A 3 = .slice none 0 0 → A 4 = vi (0 : Nat) → ∃ r a' H', loopN (evS Try.prog (evB Try.prog noC n) n Try.f45.ntmps none rcA) n A H = some (r, a', H') ∧ r = .exit 0 ∧ ∃ vo, a' 3 = vo ∧ O H.length H' vo (ints (conjR l)) ∧ Old H.length H H' ∧ WF H' := by
    intro A h0' h3 h4
    refine loop_up (l.getD 0 0).toNat (fun i a H' => a 0 = v ∧ a 4 = vi i ∧ Old H.length H H' ∧ WF H' ∧ ∃ vo, a 3 = vo ∧ O H.length H' vo (ints ((List.range i).map fun (j : Nat) => ((gt l (j : Int) : Nat) : Int)))) _ ?_ ?_ (by omega) ⟨h0', h4, Old.refl _ _, hw, _, h3, O.nil _ _⟩
    · intro i a H' hi ⟨h0', h4, old, hw, vo, h3, ho⟩
      left
      rw [show rcA = atC [1, 1, 0, 1, 0, 0] ((Try.f45.body).getD .skip) from rfl]
      have hlt : (i : Int) < l.getD 0 0 := by omega
      have hne : 0 < l.length := by
        apply Nat.pos_of_ne_zero
        intro h
        have : l = [] := List.eq_nil_of_length_eq_zero h
        rw [this] at hlt
        simp at hlt
        omega
      have c0 : (0 : Int) < (l.length : Int) := by omega
      have hv' := hv.mono old
      have a1 : addrS 1 v (vi 0) = some (pt v 0) := hv.addrI (i := 0) (by omega) (by omega)
      have e1 : IntKind.i64.wrap ((i : Int) + 1) = ((i + 1 : Nat) : Int) := by rw [wr64 (by omega) (by omega)]; omega
      have k1 := fun (F : Fr) => rc_inner hv' hl i (evB Try.prog noC n) n Try.f45.ntmps (a := F) (k := n) (v3 := vo) (by omega)
      rw [show rcB = atC [1, 1, 0, 1, 0, 0, 1, 0, 0, 1, 0, 1, 0, 0] ((Try.f45.body).getD .skip) from rfl] at k1
      simp only [Try.f45, Option.getD_some, atC] at k1
      obtain ⟨v2, H2, s2, o2, old2, wf2⟩ := ho.pushI hw old.1 (by rw [List.length_map, List.length_range]; unfold maxA; omega) ((gt l (i : Int) : Nat) : Int)
      simp (disch := omega) only [Try.f45, Option.getD_some, atC, es_seq, es_region, es_cond, es_block, es_loop, es_skip, ops_nil, ops_cons, ops_consG, st_move, st_assign, sy_pick, pickS_true, sy_len uL, sy_addr eL, sy_load aI, sy_bin, sy_append eL pI, sy_build1 eL oI, binS_lss, binS_gtr, bindO_some, bindF_some, bindX_normal, condX_true, iteB_true, ev_tmp, ev_const, putA, upd_at, Option.map_some, ↓reduceIte, Nat.reduceEqDiff, decide_true, yieldO_eq, yO, yV_bool, List.getElem?_cons_zero, List.getElem?_cons_succ, beq_self_eq_true, ↓bindO_some, ↓bindF_some, ↓bindX_normal, ↓condX_true, ↓iteB_true, h0', h4, hv'.lenI, c0, a1, hv'.loadI, hlt]
      generalize hF : upd _ 6 _ = F
      obtain ⟨r, a', H3, e, hr, hH, g0, g3, g4, g5⟩ := k1 F (by subst hF; exact h0') (by subst hF; exact h3) (by subst hF; exact h4) (by subst hF; rfl) (by subst hF; rfl)
      subst hr
      rw [e]
      clear e k1
      subst hH
      simp (disch := omega) only [binS_add, bindO_some, bindF_some, bindX_normal, blkX_normal, blkX_exit, upd_at, ↓reduceIte, Nat.reduceEqDiff, ↓bindO_some, ↓bindF_some, ↓bindX_normal, scal_vi, g3, g4, g5, scal_vi, s2, e1]
      exact ⟨_, _, rfl, g0, rfl, old.trans old2, wf2, v2, rfl, by rw [map_range_succ]; exact o2⟩
    · intro a H' ⟨h0', h4, old, hw, vo, h3, ho⟩
      rw [show rcA = atC [1, 1, 0, 1, 0, 0] ((Try.f45.body).getD .skip) from rfl]
      have hv' := hv.mono old
      by_cases hz : l.length = 0
      · have c0 : ¬ (0 : Int) < (l.length : Int) := by omega
        simp (disch := omega) only [Try.f45, Option.getD_some, atC, es_seq, es_region, es_cond, es_exit, ops_nil, ops_cons, ops_consG, st_move, sy_pick, pickS_false, sy_len uL, sy_bin, binS_gtr, bindO_some, bindF_some, bindX_normal, bindX_exit, condX_false, iteB_false, ev_tmp, ev_const, putA, upd_at, Option.map_some, ↓reduceIte, Nat.reduceEqDiff, decide_false, yieldO_eq, yO, yV_bool, some_true, List.getElem?_cons_zero, List.getElem?_cons_succ, ↓bindO_some, ↓bindF_some, ↓bindX_normal, ↓bindX_exit, ↓condX_false, ↓iteB_false, h0', hv'.lenI, c0]
        exact ⟨_, _, _, rfl, by simp, rfl, vo, h3, ho, old, hw⟩
      · have c0 : (0 : Int) < (l.length : Int) := by omega
        have a1 : addrS 1 v (vi 0) = some (pt v 0) := hv.addrI (i := 0) (by omega) (by omega)
        have hlt : ¬ ((l.getD 0 0).toNat : Int) < l.getD 0 0 := by omega
        simp (disch := omega) only [Try.f45, Option.getD_some, atC, es_seq, es_region, es_cond, es_exit, ops_nil, ops_cons, ops_consG, st_move, sy_pick, pickS_true, sy_len uL, sy_addr eL, sy_load aI, sy_bin, binS_lss, binS_gtr, bindO_some, bindF_some, bindX_normal, bindX_exit, condX_false, iteB_true, ev_tmp, ev_const, putA, upd_at, Option.map_some, ↓reduceIte, Nat.reduceEqDiff, decide_true, decide_false, yieldO_eq, yO, yV_bool, List.getElem?_cons_zero, List.getElem?_cons_succ, beq_self_eq_true, ↓bindO_some, ↓bindF_some, ↓bindX_normal, ↓bindX_exit, ↓condX_false, ↓iteB_true, h0', h4, hv'.lenI, c0, a1, hv'.loadI, hlt]
        exact ⟨_, _, _, rfl, by simp, rfl, vo, h3, ho, old, hw⟩
  rw [show rcA = atC [1, 1, 0, 1, 0, 0] ((Try.f45.body).getD .skip) from rfl] at key
  simp only [Try.f45, Option.getD_some, atC] at key
  simp (disch := omega) only [Try.f45, es_seq, es_region, es_block, es_loop, es_ret, ops_nil, ops_cons, st_move, st_assign, bindO_some, bindF_some, bindX_normal, ev_tmp, ev_const, putA, upd_at, ↓reduceIte, ↓bindO_some, ↓bindF_some, ↓bindX_normal]
  generalize hA : upd _ 4 _ = A
  obtain ⟨r, a', H', e, hr, vo, h3, ho, old, wf⟩ := key A (by subst hA; rfl) (by subst hA; rfl) (by subst hA; rfl)
  subst hr
  rw [e]
  simp (disch := omega) only [bindX_normal, blkX_exit, upd_at, Option.map_some, ↓reduceIte, ↓bindX_normal, fin_r, res_nil, res_tmp, pack_1, h3, ho.R.scal]
  exact ⟨_, _, rfl, ho, old, wf⟩
end Go.Proofs.Ytmmgdgmjkhcfaaa
