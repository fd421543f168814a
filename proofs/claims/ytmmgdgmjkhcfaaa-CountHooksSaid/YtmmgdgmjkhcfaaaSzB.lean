/- Factorials, centralizers, class sizes. -/
import Derived.Test.YtmmgdgmjkhcfaaaSzA
import Derived.Test.YtmmgdgmjkhcfaaaSyU
set_option linter.all false
namespace Go.Proofs.Ytmmgdgmjkhcfaaa
open Go Go.Abs Go.Num
set_option maxRecDepth 10000
attribute [local congr] bindO_congr bindF_congr bindX_congr condX_congr iteB_congr binS_congr pickS_congr eqB_congr nilS_congr clsW_congr maxS_congr minS_congr
theorem _root_.Go.Num.Part.sm {l : List Int} (h : Part l) : Sm l := ⟨by have := h.len; omega, fun x hx => by have := h.mem x hx; omega⟩
theorem _root_.Go.Num.Part.sum0 {l : List Int} (h : Part l) : 0 ≤ l.sum := by
  have : ∀ l : List Int, (∀ x ∈ l, 1 ≤ x ∧ x ≤ 20) → 0 ≤ l.sum := by
    intro l
    induction l with
    | nil => intro _; simp
    | cons x l ih =>
      intro h
      have h1 := h x (List.mem_cons_self ..)
      have h2 := ih fun y hy => h y (List.mem_cons_of_mem _ hy)
      rw [List.sum_cons]; omega
  exact this l h.mem
theorem ctimes_run {H : Heap} {vx : Value} {x z : Int} (hw : WF H) (hx : NumV H vx x) (lx : (nf x).length ≤ 380) (h1 : -4000000000000000000 ≤ z) (h2 : z ≤ 4000000000000000000) (n : Nat) (hn : 2014 ≤ n) :
    OneL H (evB Try.prog noC n (.func (.func 108) #[] #[]) [vx, vi z] H) (nf (x * z)) := by
  refine run_of (F := 2013) (Q := fun r => OneL H r (nf (x * z))) (fun n hn => ?_) n hn
  rw [body_runS Try.func108 rfl (ok_fn (by rfl) Try.func108 rfl) (Nat.le_of_ble_eq_true rfl) (D := D0) (by kernel_rfl)]
  obtain ⟨v1, H1, s1, o1, old1, wf1⟩ := of_run (z := z) hw h1 h2 n (by omega)
  have hl : (nf z).length ≤ 3 := nf_len (by rw [show B ^ 3 = 1000000000000000000000000 from rfl]; omega) (by rw [show B ^ 3 = 1000000000000000000000000 from rfl]; omega)
  obtain ⟨v2, H2, s2, o2, old2, wf2⟩ := mulP_run wf1 (hx.mono old1) (NumV.of o1.R (by omega)) (by omega) (by omega) n (by omega)
  simp (disch := omega) only [Try.f108, es_seq, es_region, es_ret, ops_nil, ops_cons, st_move, st_assign, st_fun, bindO_some, bindF_some, bindX_normal, ev_tmp, ev_const, ev_func, putA, upd_at, Option.map_some, ↓reduceIte, Nat.reduceEqDiff, frOf_0, frOf_1, List.map_cons, List.map_nil, ↓bindO_some, ↓bindF_some, ↓bindX_normal, fin_r, res_nil, res_tmp, pack_1, s1, s2, o2.R.scal]
  exact ⟨_, _, rfl, o2.below old1.1, old1.trans (old2.mono old1.1), wf2⟩
noncomputable def cfA : Code := atC [1, 1, 0, 1, 0, 0] ((Try.f73.body).getD .skip)
theorem cfact_run {H : Heap} {k : Nat} (hw : WF H) (hk : k ≤ 20) (n : Nat) (hn : 2020 ≤ n) : OneL H (evB Try.prog noC n (.func (.func 73) #[] #[]) [vi k] H) (nf (fct k)) := by
  refine run_of (F := 2019) (Q := fun r => OneL H r (nf (fct k))) (fun n hn => ?_) n hn
  rw [body_runS Try.func73 rfl (ok_fn (by rfl) Try.func73 rfl) (Nat.le_of_ble_eq_true rfl) (D := D0) (by kernel_rfl)]
  obtain ⟨v1, H1, s1, o1, old1, wf1⟩ := of_run (z := 1) hw (by omega) (by omega) n (by omega)
  have key : ∀ A : Fr, A 0 = vi k → A 3 = v1 → A 4 = vi 2 → ∃ r a' H', loopN (evS Try.prog (evB Try.prog noC n) n Try.f73.ntmps none cfA) n A H1 = some (r, a', H') ∧ r = .exit 0 ∧ ∃ vo, a' 3 = vo ∧ O H.length H' vo (ints (nf (fct k))) ∧ Old H.length H H' ∧ WF H' := by
    intro A h0 h3 h4
    refine loop_up (k - 1) (fun i a H' => a 0 = vi k ∧ a 4 = vi ((i + 2 : Nat) : Int) ∧ Old H.length H H' ∧ WF H' ∧ ∃ vo, a 3 = vo ∧ O H.length H' vo (ints (nf (fct (i + 1))))) _ ?_ ?_ (by omega) ⟨h0, h4, old1, wf1, v1, h3, o1⟩
    · intro i a H' hi ⟨h0, h4, old, hw, vo, h3, ho⟩
      left
      rw [show cfA = atC [1, 1, 0, 1, 0, 0] ((Try.f73.body).getD .skip) from rfl]
      have hlt : ((i + 2 : Nat) : Int) ≤ (k : Int) := by omega
      have e1 : IntKind.i64.wrap (((i + 2 : Nat) : Int) + 1) = ((i + 1 + 2 : Nat) : Int) := by rw [wr64 (by omega) (by omega)]; omega
      have hl := fct_len (k := i + 1) (by omega)
      obtain ⟨v2, H2, s2, o2, old2, wf2⟩ := ctimes_run (z := ((i + 2 : Nat) : Int)) hw (NumV.of ho.R (by omega)) (by omega) (by omega) (by omega) n (by omega)
      simp (disch := omega) only [Try.f73, Option.getD_some, atC, es_seq, es_region, es_cond, es_block, es_skip, ops_nil, ops_cons, st_move, st_assign, st_fun, sy_bin, binS_leq, binS_add, bindO_some, bindF_some, bindX_normal, blkX_normal, condX_true, ev_tmp, ev_const, ev_func, putA, upd_at, ↓reduceIte, Nat.reduceEqDiff, List.map_cons, List.map_nil, decide_true, ↓bindO_some, ↓bindF_some, ↓bindX_normal, ↓condX_true, h0, h3, h4, hlt, s2, e1]
      exact ⟨_, _, rfl, h0, rfl, old.trans (old2.mono old.1), wf2, v2, rfl, o2.below old.1⟩
    · intro a H' ⟨h0, h4, old, hw, vo, h3, ho⟩
      rw [show cfA = atC [1, 1, 0, 1, 0, 0] ((Try.f73.body).getD .skip) from rfl]
      have hlt : ¬ ((k - 1 + 2 : Nat) : Int) ≤ (k : Int) := by omega
      simp (disch := omega) only [Try.f73, Option.getD_some, atC, es_seq, es_region, es_cond, es_exit, ops_nil, ops_cons, st_move, sy_bin, binS_leq, bindO_some, bindF_some, bindX_normal, bindX_exit, condX_false, ev_tmp, putA, upd_at, ↓reduceIte, Nat.reduceEqDiff, decide_false, ↓bindO_some, ↓bindF_some, ↓bindX_normal, ↓bindX_exit, ↓condX_false, h0, h4, hlt]
      refine ⟨_, _, _, rfl, by simp, rfl, vo, h3, ?_, old, hw⟩
      cases k with
      | zero => exact ho
      | succ k => exact ho
  rw [show cfA = atC [1, 1, 0, 1, 0, 0] ((Try.f73.body).getD .skip) from rfl] at key
  simp only [Try.f73, Option.getD_some, atC] at key
  simp (disch := omega) only [Try.f73, es_seq, es_region, es_block, es_loop, es_ret, ops_nil, ops_cons, st_move, st_assign, st_fun, bindO_some, bindF_some, bindX_normal, ev_tmp, ev_const, ev_func, putA, upd_at, ↓reduceIte, List.map_cons, List.map_nil, ↓bindO_some, ↓bindF_some, ↓bindX_normal, s1]
  generalize hA : upd _ 4 _ = A
  obtain ⟨r, a', H', e, hr, vo, h3, ho, old, wf⟩ := key A (by subst hA; rfl) (by subst hA; rfl) (by subst hA; rfl)
  subst hr
  rw [e]
  simp (disch := omega) only [bindX_normal, blkX_exit, upd_at, Option.map_some, ↓reduceIte, ↓bindX_normal, fin_r, res_nil, res_tmp, pack_1, h3, ho.R.scal]
  exact ⟨_, _, rfl, ho, old, wf⟩
noncomputable def rfA : Code := atC [1, 1, 0, 1, 0, 0] ((Try.f53.body).getD .skip)
/-- A product of the reference by a number that stands in a list of its own. -/
theorem rtimes_run {H : Heap} {vx : Value} {x z : Int} (hw : WF H) (hx : NumV H vx x) (lx : (nf x).length ≤ 380) (h1 : -4000000000000000000 ≤ z) (h2 : z ≤ 4000000000000000000) (n : Nat) (hn : 2011 ≤ n) :
    OneL H (evB Try.prog noC n (.func (.func 68) #[] #[]) [vx, sliceA H.length 0 1 1] (H ++ [.cells H.length true [vi z]])) (nf (x * z)) := by
  have old1 := Old.app H [.cells H.length true [vi z]]
  have wf1 := hw.app (Nat.le_refl H.length) (o := true) (cs := [vi z])
  have r1 := R.push (H := H) (f := H.length) (c := vi z)
  have hl : (nf z).length ≤ 3 := nf_len (by rw [show B ^ 3 = 1000000000000000000000000 from rfl]; omega) (by rw [show B ^ 3 = 1000000000000000000000000 from rfl]; omega)
  exact (mul_run wf1 (hx.mono old1) (NumV.one r1 h1 h2) (by omega) (by omega) n (by omega)).trans old1
theorem rfact_run {H : Heap} {k : Nat} (hw : WF H) (hk : k ≤ 20) (n : Nat) (hn : 2020 ≤ n) : OneL H (evB Try.prog noC n (.func (.func 53) #[] #[]) [vi k] H) (nf (fct k)) := by
  refine run_of (F := 2019) (Q := fun r => OneL H r (nf (fct k))) (fun n hn => ?_) n hn
  rw [body_runS Try.func53 rfl (ok_fn (by rfl) Try.func53 rfl) (Nat.le_of_ble_eq_true rfl) (D := D0) (by kernel_rfl)]
  have old1 := Old.app H [.cells H.length true [vi 1]]
  have wf1 := hw.app (Nat.le_refl H.length) (o := true) (cs := [vi 1])
  have o1 : O H.length (H ++ [.cells H.length true [vi 1]]) (sliceA H.length 0 1 1) (ints (nf (fct 1))) := by
    rw [show fct 1 = 1 from rfl, nf_small (by omega) (by omega)]
    exact O.made (Nat.le_refl _) [vi 1]
  have key : ∀ A : Fr, A 0 = vi k → A 3 = sliceA H.length 0 1 1 → A 4 = vi 2 → ∃ r a' H', loopN (evS Try.prog (evB Try.prog noC n) n Try.f53.ntmps none rfA) n A (H ++ [.cells H.length true [vi 1]]) = some (r, a', H') ∧ r = .exit 0 ∧ ∃ vo, a' 3 = vo ∧ O H.length H' vo (ints (nf (fct k))) ∧ Old H.length H H' ∧ WF H' := by
    intro A h0 h3 h4
    refine loop_up (k - 1) (fun i a H' => a 0 = vi k ∧ a 4 = vi ((i + 2 : Nat) : Int) ∧ Old H.length H H' ∧ WF H' ∧ ∃ vo, a 3 = vo ∧ O H.length H' vo (ints (nf (fct (i + 1))))) _ ?_ ?_ (by omega) ⟨h0, h4, old1, wf1, _, h3, o1⟩
    · intro i a H' hi ⟨h0, h4, old, hw, vo, h3, ho⟩
      left
      rw [show rfA = atC [1, 1, 0, 1, 0, 0] ((Try.f53.body).getD .skip) from rfl]
      have hlt : ((i + 2 : Nat) : Int) ≤ (k : Int) := by omega
      have e1 : IntKind.i64.wrap (((i + 2 : Nat) : Int) + 1) = ((i + 1 + 2 : Nat) : Int) := by rw [wr64 (by omega) (by omega)]; omega
      have hl := fct_len (k := i + 1) (by omega)
      obtain ⟨v2, H2, s2, o2, old2, wf2⟩ := rtimes_run (z := ((i + 2 : Nat) : Int)) hw (NumV.of ho.R (by omega)) (by omega) (by omega) (by omega) n (by omega)
      simp (disch := omega) only [Try.f53, Option.getD_some, atC, es_seq, es_region, es_cond, es_block, es_skip, ops_nil, ops_cons, st_move, st_assign, st_fun, sy_bin, sy_build1 eL oI, binS_leq, binS_add, bindO_some, bindF_some, bindX_normal, blkX_normal, condX_true, ev_tmp, ev_const, ev_func, putA, upd_at, ↓reduceIte, Nat.reduceEqDiff, List.map_cons, List.map_nil, decide_true, ↓bindO_some, ↓bindF_some, ↓bindX_normal, ↓condX_true, scal_vi, h0, h3, h4, hlt, s2, e1]
      exact ⟨_, _, rfl, h0, rfl, old.trans (old2.mono old.1), wf2, v2, rfl, o2.below old.1⟩
    · intro a H' ⟨h0, h4, old, hw, vo, h3, ho⟩
      rw [show rfA = atC [1, 1, 0, 1, 0, 0] ((Try.f53.body).getD .skip) from rfl]
      have hlt : ¬ ((k - 1 + 2 : Nat) : Int) ≤ (k : Int) := by omega
      simp (disch := omega) only [Try.f53, Option.getD_some, atC, es_seq, es_region, es_cond, es_exit, ops_nil, ops_cons, st_move, sy_bin, binS_leq, bindO_some, bindF_some, bindX_normal, bindX_exit, condX_false, ev_tmp, putA, upd_at, ↓reduceIte, Nat.reduceEqDiff, decide_false, ↓bindO_some, ↓bindF_some, ↓bindX_normal, ↓bindX_exit, ↓condX_false, h0, h4, hlt]
      refine ⟨_, _, _, rfl, by simp, rfl, vo, h3, ?_, old, hw⟩
      cases k with
      | zero => exact ho
      | succ k => exact ho
  rw [show rfA = atC [1, 1, 0, 1, 0, 0] ((Try.f53.body).getD .skip) from rfl] at key
  simp only [Try.f53, Option.getD_some, atC] at key
  simp (disch := omega) only [Try.f53, es_seq, es_region, es_block, es_loop, es_ret, ops_nil, ops_cons, st_move, st_assign, sy_build1 eL oI, bindO_some, bindF_some, bindX_normal, ev_tmp, ev_const, putA, upd_at, ↓reduceIte, ↓bindO_some, ↓bindF_some, ↓bindX_normal, scal_vi]
  generalize hA : upd _ 4 _ = A
  obtain ⟨r, a', H', e, hr, vo, h3, ho, old, wf⟩ := key A (by subst hA; rfl) (by subst hA; rfl) (by subst hA; rfl)
  subst hr
  rw [e]
  simp (disch := omega) only [bindX_normal, blkX_exit, upd_at, Option.map_some, ↓reduceIte, ↓bindX_normal, fin_r, res_nil, res_tmp, pack_1, h3, ho.R.scal]
  exact ⟨_, _, rfl, ho, old, wf⟩
end Go.Proofs.Ytmmgdgmjkhcfaaa
