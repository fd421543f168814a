/- Integers of the reference: split, trim. -/
import Derived.Test.YtmmgdgmjkhcfaaaSy0
import Derived.Test.YtmmgdgmjkhcfaaaSyM
set_option linter.all false
namespace Go.Proofs.Ytmmgdgmjkhcfaaa
open Go Go.Abs Go.Num
set_option maxRecDepth 10000
attribute [local congr] bindO_congr bindF_congr bindX_congr condX_congr iteB_congr binS_congr pickS_congr
theorem tdiv_pos {z : Int} (h : 0 ≤ z) (b : Int) : z.tdiv b = z / b := Int.tdiv_eq_ediv_of_nonneg h
theorem tmod_pos {z : Int} (h : 0 ≤ z) (b : Int) : z.tmod b = z % b := Int.tmod_eq_emod_of_nonneg h
theorem tdiv_neg' {z : Int} (b : Int) : z.tdiv b = -((-z).tdiv b) := by rw [Int.neg_tdiv]; omega
theorem tmod_neg' {z : Int} (b : Int) : z.tmod b = -((-z).tmod b) := by rw [Int.neg_tmod]; omega
theorem split_run {z : Int} (h1 : -4000000000000000000 ≤ z) (h2 : z ≤ 4000000000000000000) (n : Nat) (H : Heap) (hn : 10 ≤ n) : evB Try.prog noC n (.func (.func 111) #[] #[]) [vi z] H = some (.tuple #[vi (z / 100000000), vi (z % 100000000)], H) := by
  refine run_of (F := 9) (Q := fun x => x = some (.tuple #[vi (z / 100000000), vi (z % 100000000)], H)) (fun n _ => ?_) n hn
  rw [body_runS Try.func111 rfl (ok_fn (by rfl) Try.func111 rfl) (Nat.le_of_ble_eq_true rfl) (D := D0) (by kernel_rfl)]
  by_cases hz : 0 ≤ z
  · have e1 : z.tdiv 100000000 = z / 100000000 := tdiv_pos hz _
    have e2 : z.tmod 100000000 = z % 100000000 := tmod_pos hz _
    have h3 : ¬ z % 100000000 < 0 := by omega
    simp (disch := omega) only [Try.f111, es_seq, es_region, es_cond, es_skip, es_ret, ops_nil, ops_cons, st_move, st_assign, sy_bin, binS_lss, binS_quo, binS_rem, bindO_some, bindF_some, bindX_normal, condX_false, ev_tmp, ev_const, putA, upd_at, Option.map_some, ↓reduceIte, Nat.reduceEqDiff, frOf_0, decide_false, ↓bindO_some, ↓bindF_some, ↓bindX_normal, ↓condX_false, fin_r, res_nil, res_tmp, pack_2, scal_vi, e1, e2, wr64, h3]
  · have e1 : z.tdiv 100000000 = -((-z) / 100000000) := by rw [tdiv_neg', tdiv_pos (by omega)]
    have e2 : z.tmod 100000000 = -((-z) % 100000000) := by rw [tmod_neg', tmod_pos (by omega)]
    by_cases h3 : -((-z) % 100000000) < 0
    · simp (disch := omega) only [Try.f111, es_seq, es_region, es_cond, es_ret, ops_nil, ops_cons, st_move, st_assign, sy_bin, binS_lss, binS_add, binS_sub, binS_quo, binS_rem, bindO_some, bindF_some, bindX_normal, bindX_ret, condX_true, ev_tmp, ev_const, putA, upd_at, Option.map_some, ↓reduceIte, Nat.reduceEqDiff, frOf_0, decide_true, ↓bindO_some, ↓bindF_some, ↓bindX_normal, ↓bindX_ret, ↓condX_true, fin_r, res_nil, res_tmp, pack_2, scal_vi, e1, e2, wr64, h3]
      rw [show -(-z / 100000000) - 1 = z / 100000000 from by omega, show -(-z % 100000000) + 100000000 = z % 100000000 from by omega]
    · simp (disch := omega) only [Try.f111, es_seq, es_region, es_cond, es_skip, es_ret, ops_nil, ops_cons, st_move, st_assign, sy_bin, binS_lss, binS_quo, binS_rem, bindO_some, bindF_some, bindX_normal, condX_false, ev_tmp, ev_const, putA, upd_at, Option.map_some, ↓reduceIte, Nat.reduceEqDiff, frOf_0, decide_false, ↓bindO_some, ↓bindF_some, ↓bindX_normal, ↓condX_false, fin_r, res_nil, res_tmp, pack_2, scal_vi, e1, e2, wr64, h3]
      rw [show -(-z / 100000000) = z / 100000000 from by omega, show -(-z % 100000000) = z % 100000000 from by omega]
theorem take_snoc' {l : List Int} {c : Nat} (h : c < l.length) : l.take (c + 1) = l.take c ++ [l.getD c 0] := by
  rw [List.take_succ_eq_append_getElem h]
  simp [List.getD_eq_getElem?_getD, List.getElem?_eq_getElem h]
noncomputable def trimB : Code := atC [1, 1, 0, 0, 0] ((Try.f112.body).getD .skip)
theorem trim_loop {H : Heap} {v : Value} {l : List Int} (hv : R H v (ints l)) (call : CallF) (m nt : Nat) {a : Fr} {k : Nat} (hk : l.length < k) (hl : l.length ≤ 1000) (h0 : a 0 = v) (h3 : a 3 = vi l.length) :
    ∃ x a' H', loopN (evS Try.prog call m nt none trimB) k a H = some (x, a', H') ∧ x = .exit 0 ∧ H' = H ∧ a' 0 = v ∧ ∃ c : Nat, c ≤ l.length ∧ a' 3 = vi c ∧ l.take c = trimL l := by
  refine loop_wf (fun n a H' => H' = H ∧ a 0 = v ∧ a 3 = vi n ∧ n ≤ l.length ∧ trimL (l.take n) = trimL l) _ ?_ k l.length a H hk ⟨rfl, h0, h3, Nat.le_refl _, by rw [List.take_length]⟩
  intro n a H' ⟨hH, h0, h3, hn, ht⟩
  subst hH
  rw [show trimB = atC [1, 1, 0, 0, 0] ((Try.f112.body).getD .skip) from rfl]
  by_cases hz : n = 0
  · subst hz
    right
    have h1 : ¬ (0 : Int) < ((0 : Nat) : Int) := by omega
    simp (disch := omega) only [Try.f112, Option.getD_some, atC, es_seq, es_region, es_cond, es_exit, ops_nil, ops_cons, ops_consG, st_move, sy_pick, pickS_false, sy_bin, binS_gtr, bindO_some, bindF_some, bindX_normal, bindX_exit, condX_false, iteB_false, ev_tmp, ev_const, putA, upd_at, ↓reduceIte, Nat.reduceEqDiff, decide_false, yieldO_eq, yO, yV_bool, some_true, List.getElem?_cons_zero, List.getElem?_cons_succ, ↓bindO_some, ↓bindF_some, ↓bindX_normal, ↓bindX_exit, ↓condX_false, ↓iteB_false, h3, h1]
    exact ⟨_, _, _, rfl, by simp, rfl, rfl, by simp only [upd_get, ↓reduceIte, Nat.reduceEqDiff, h0], 0, by omega, by simp only [upd_get, ↓reduceIte, Nat.reduceEqDiff, h3], ht⟩
  · obtain ⟨c, rfl⟩ : ∃ c, n = c + 1 := ⟨n - 1, by omega⟩
    have h1 : (0 : Int) < ((c + 1 : Nat) : Int) := by omega
    have e1 : IntKind.i64.wrap (((c + 1 : Nat) : Int) - 1) = (c : Int) := by rw [wr64 (by omega) (by omega)]; omega
    have hx := take_snoc' (l := l) (c := c) (by omega)
    rw [hx, trimL_snoc] at ht
    by_cases hy : l.getD c 0 = 0
    · left
      rw [if_pos hy] at ht
      simp (disch := omega) only [Try.f112, Option.getD_some, atC, es_seq, es_region, es_cond, es_block, es_skip, ops_nil, ops_cons, ops_consG, st_move, st_assign, sy_pick, pickS_true, sy_addr eL, sy_load aI, sy_bin, binS_gtr, binS_eql, binS_sub, bindO_some, bindF_some, bindX_normal, blkX_normal, condX_true, iteB_true, ev_tmp, ev_const, putA, upd_at, Option.map_some, ↓reduceIte, Nat.reduceEqDiff, Int.toNat_natCast, decide_true, yieldO_eq, yO, yV_bool, List.getElem?_cons_zero, List.getElem?_cons_succ, beq_self_eq_true, ↓bindO_some, ↓bindF_some, ↓bindX_normal, ↓condX_true, ↓iteB_true, h0, h3, h1, e1, hv.addrI, hv.loadI, hy]
      exact ⟨_, _, rfl, c, by omega, rfl, by simp only [upd_get, ↓reduceIte, Nat.reduceEqDiff, h0], by simp only [upd_get, ↓reduceIte], by omega, ht⟩
    · right
      rw [if_neg hy] at ht
      simp (disch := omega) only [Try.f112, Option.getD_some, atC, es_seq, es_region, es_cond, es_exit, ops_nil, ops_cons, ops_consG, st_move, sy_pick, pickS_true, sy_addr eL, sy_load aI, sy_bin, binS_gtr, binS_eql, binS_sub, bindO_some, bindF_some, bindX_normal, bindX_exit, condX_false, iteB_true, ev_tmp, ev_const, putA, upd_at, Option.map_some, ↓reduceIte, Nat.reduceEqDiff, Int.toNat_natCast, decide_true, decide_false, yieldO_eq, yO, yV_bool, List.getElem?_cons_zero, List.getElem?_cons_succ, beq_self_eq_true, ↓bindO_some, ↓bindF_some, ↓bindX_normal, ↓bindX_exit, ↓condX_false, ↓iteB_true, h0, h3, h1, e1, hv.addrI, hv.loadI, hy]
      exact ⟨_, _, _, rfl, by simp, rfl, rfl, by simp only [upd_get, ↓reduceIte, Nat.reduceEqDiff, h0], c + 1, by omega, by simp only [upd_get, ↓reduceIte, Nat.reduceEqDiff, h3], by rw [hx]; exact ht⟩
def OneL (H : Heap) (r : Option (Value × Heap)) (l : List Int) : Prop := ∃ v' H', r = some (v', H') ∧ O H.length H' v' (ints l) ∧ Old H.length H H' ∧ WF H'
theorem trim_run {H : Heap} {v : Value} {l : List Int} (hw : WF H) (hv : R H v (ints l)) (hl : l.length ≤ 1000) (n : Nat) (hn : 2000 ≤ n) : OneL H (evB Try.prog noC n (.func (.func 112) #[] #[]) [v] H) (trimL l) := by
  refine run_of (F := 1999) (Q := fun x => OneL H x (trimL l)) (fun n hn => ?_) n hn
  rw [body_runS Try.func112 rfl (ok_fn (by rfl) Try.func112 rfl) (Nat.le_of_ble_eq_true rfl) (D := D0) (by kernel_rfl)]
  have key := fun (A : Fr) => trim_loop hv (evB Try.prog noC n) n Try.f112.ntmps (a := A) (k := n) (by omega) hl
  rw [show trimB = atC [1, 1, 0, 0, 0] ((Try.f112.body).getD .skip) from rfl] at key
  simp only [Try.f112, Option.getD_some, atC] at key
  simp (disch := omega) only [Try.f112, es_seq, es_region, es_block, es_loop, es_ret, ops_nil, ops_cons, st_move, st_assign, sy_len uL, sy_append eL pI, sy_build0 eL nI, sy_slice eL, bindO_some, bindF_some, bindX_normal, ev_tmp, ev_const, putA, upd_at, Option.map_some, ↓reduceIte, Nat.reduceEqDiff, frOf_0, ↓bindO_some, ↓bindF_some, ↓bindX_normal, hv.lenI]
  generalize hA : upd _ 3 _ = A
  obtain ⟨x, a', H', e, hx, hH, h0, c, hc, h3, ht⟩ := key A (by subst hA; rfl) (by subst hA; rfl)
  subst hx
  subst hH
  rw [e]
  obtain ⟨v1, e1, r1⟩ := hv.upto hc
  have ho := Old.app H' [.cells H'.length true []]
  obtain ⟨v2, H2, e2, o2, old2, wf2⟩ := (O.empty (H := H') (Nat.le_refl H'.length)).app (hw.app (Nat.le_refl _)) (by simp) (r1.mono ho) (by rw [ints_len, List.length_take]; simp [maxA]; omega)
  simp (disch := omega) only [bindO_some, bindF_some, bindX_normal, blkX_exit, upd_at, Option.map_some, ↓reduceIte, ↓bindO_some, ↓bindF_some, ↓bindX_normal, fin_r, res_nil, res_tmp, pack_1, h0, h3, e1, e2, Option.map_none, (o2.R).scal]
  refine ⟨_, _, rfl, ?_, ho.trans old2, wf2⟩
  rw [← ht]; exact o2
theorem getD_mem {l : List Int} {i : Nat} (h : i < l.length) : l.getD i 0 ∈ l := by
  rw [List.getD_eq_getElem?_getD, List.getElem?_eq_getElem h]; exact List.getElem_mem h
theorem getD_set_self {l : List Int} {i : Nat} (h : i < l.length) (z : Int) : (l.set i z).getD i 0 = z := by
  rw [List.getD_eq_getElem?_getD, List.getElem?_set]; simp [h]
/-- The first i elements with the other sign. -/
def negI (l : List Int) (i : Nat) : List Int := (l.take i).map (- ·) ++ l.drop i
theorem negI_len (l : List Int) (i : Nat) : (negI l i).length = l.length := by unfold negI; simp; omega
theorem negI_get {l : List Int} {i : Nat} (h : i < l.length) : (negI l i).getD i 0 = l.getD i 0 := by
  unfold negI
  have e : ((l.take i).map (- ·)).length = i := by simp; omega
  rw [List.getD_eq_getElem?_getD, List.getD_eq_getElem?_getD, List.getElem?_append_right (by omega), e, Nat.sub_self, List.getElem?_drop, Nat.add_zero]
theorem negI_set {l : List Int} {i : Nat} (h : i < l.length) : (negI l i).set i (- l.getD i 0) = negI l (i + 1) := by
  unfold negI
  have e : ((l.take i).map (- ·)).length = i := by simp; omega
  rw [List.set_append_right _ _ (by omega), e, Nat.sub_self, take_snoc' h, List.map_append, List.drop_eq_getElem_cons h, List.set_cons_zero]
  simp
theorem negI_all (l : List Int) : negI l l.length = l.map (- ·) := by unfold negI; simp
theorem negI_0 (l : List Int) : negI l 0 = l := by unfold negI; simp
noncomputable def signedB : Code := atC [1, 1, 0, 1, 0, 0] ((Try.f101.body).getD .skip)
theorem signed_loop {B0 : Nat} {H0 : Heap} {v : Value} {l : List Int} (call : CallF) (m nt : Nat) {a : Fr} {H : Heap} {k : Nat} (hk : l.length < k) (hl : l.length ≤ 1000) (hb : ∀ x ∈ l, -4000000000000000000 ≤ x ∧ x ≤ 4000000000000000000)
    (ho : O B0 H v (ints l)) (old : Old B0 H0 H) (hw : WF H) (h1 : a 1 = .bool true) (h5 : a 5 = v) (h6 : a 6 = vi (0 : Nat)) :
    ∃ x a' H', loopN (evS Try.prog call m nt none signedB) k a H = some (x, a', H') ∧ x = .exit 0 ∧ O B0 H' v (ints (l.map (- ·))) ∧ Old B0 H0 H' ∧ WF H' ∧ a' 5 = v := by
  refine loop_up l.length (fun i a H' => a 1 = .bool true ∧ a 5 = v ∧ a 6 = vi i ∧ O B0 H' v (ints (negI l i)) ∧ Old B0 H0 H' ∧ WF H') _ ?_ ?_ hk ⟨h1, h5, h6, by rw [negI_0]; exact ho, old, hw⟩
  · intro i a H' hi ⟨h1, h5, h6, ho, old, hw⟩
    left
    rw [show signedB = atC [1, 1, 0, 1, 0, 0] ((Try.f101.body).getD .skip) from rfl]
    have hlen := negI_len l i
    have hx := hb _ (getD_mem hi)
    have e1 := negI_get hi
    have e2 : IntKind.i64.wrap (0 - l.getD i 0) = - l.getD i 0 := by rw [wr64 (by omega) (by omega)]; omega
    obtain ⟨H2, es, o2, old2, wf2⟩ := ho.setI hw (i := i) (by omega) (- l.getD i 0)
    have e3 : IntKind.i64.wrap ((i : Int) + 1) = ((i + 1 : Nat) : Int) := by rw [wr64 (by omega) (by omega)]; omega
    have hr := ho.R
    have hlt : (i : Int) < l.length := by omega
    simp (disch := omega) only [Try.f101, Option.getD_some, atC, es_seq, es_region, es_cond, es_block, es_skip, ops_nil, ops_cons, ops_consG, st_move, st_assign, sy_pick, pickS_true, sy_len uL, sy_addr eL, sy_load aI, sy_store zI, sy_bin, sy_neg, binS_lss, binS_add, bindO_some, bindF_some, bindX_normal, blkX_normal, condX_true, iteB_true, ev_tmp, ev_const, putA, upd_at, Option.map_some, ↓reduceIte, Nat.reduceEqDiff, Int.toNat_natCast, decide_true, yieldO_eq, yO, yV_bool, List.getElem?_cons_zero, List.getElem?_cons_succ, beq_self_eq_true, ↓bindO_some, ↓bindF_some, ↓bindX_normal, ↓condX_true, ↓iteB_true, h1, h5, h6, hr.lenI, hlen, hlt, hr.addrI, hr.loadI, e1, e2, es, e3]
    exact ⟨_, _, rfl, by simp only [upd_get, ↓reduceIte, Nat.reduceEqDiff, h1], by simp only [upd_get, ↓reduceIte, Nat.reduceEqDiff, h5], by simp only [upd_get, ↓reduceIte], by rw [← negI_set hi]; exact o2, old.trans old2, wf2⟩
  · intro a H' ⟨h1, h5, h6, ho, old, hw⟩
    rw [show signedB = atC [1, 1, 0, 1, 0, 0] ((Try.f101.body).getD .skip) from rfl]
    have hlen := negI_len l l.length
    have hr := ho.R
    simp (disch := omega) only [Try.f101, Option.getD_some, atC, es_seq, es_region, es_cond, es_exit, ops_nil, ops_cons, ops_consG, st_move, sy_pick, pickS_false, sy_len uL, sy_bin, binS_lss, bindO_some, bindF_some, bindX_normal, bindX_exit, condX_false, iteB_false, ev_tmp, ev_const, putA, upd_at, Option.map_some, ↓reduceIte, Nat.reduceEqDiff, decide_false, yieldO_eq, yO, yV_bool, some_true, List.getElem?_cons_zero, List.getElem?_cons_succ, ↓bindO_some, ↓bindF_some, ↓bindX_normal, ↓bindX_exit, ↓condX_false, ↓iteB_false, h5, h6, hr.lenI, hlen, Int.lt_irrefl]
    exact ⟨_, _, _, rfl, by simp, rfl, by rw [← negI_all]; exact ho, old, hw, by simp only [upd_get, ↓reduceIte, Nat.reduceEqDiff, h5]⟩
theorem signed_loop0 {v : Value} (call : CallF) (m nt : Nat) {a : Fr} {H : Heap} {k : Nat} (hk : 0 < k) {l : List Int} (ho : R H v (ints l)) (hl : l.length ≤ 1000) (h1 : a 1 = .bool false) (h5 : a 5 = v) (h6 : a 6 = vi (0 : Nat)) :
    ∃ x a' H', loopN (evS Try.prog call m nt none signedB) k a H = some (x, a', H') ∧ x = .exit 0 ∧ H' = H ∧ a' 5 = v := by
  refine loop_up 0 (fun i a H' => a 1 = .bool false ∧ a 5 = v ∧ a 6 = vi (0 : Nat) ∧ H' = H) _ (fun i a H' hi => by omega) ?_ hk ⟨h1, h5, h6, rfl⟩
  intro a H' ⟨h1, h5, h6, hH⟩
  subst hH
  rw [show signedB = atC [1, 1, 0, 1, 0, 0] ((Try.f101.body).getD .skip) from rfl]
  by_cases hz : ((0 : Nat) : Int) < l.length
  · simp (disch := omega) only [Try.f101, Option.getD_some, atC, es_seq, es_region, es_cond, es_exit, ops_nil, ops_cons, ops_consG, st_move, sy_pick, pickS_true, sy_len uL, sy_bin, binS_lss, bindO_some, bindF_some, bindX_normal, bindX_exit, condX_false, iteB_true, ev_tmp, putA, upd_at, Option.map_some, ↓reduceIte, Nat.reduceEqDiff, decide_true, yieldO_eq, yO, yV_bool, List.getElem?_cons_zero, List.getElem?_cons_succ, beq_self_eq_true, ↓bindO_some, ↓bindF_some, ↓bindX_normal, ↓bindX_exit, ↓condX_false, ↓iteB_true, h1, h5, h6, ho.lenI, hz]
    exact ⟨_, _, _, rfl, by simp, rfl, rfl, by simp only [upd_get, ↓reduceIte, Nat.reduceEqDiff, h5]⟩
  · simp (disch := omega) only [Try.f101, Option.getD_some, atC, es_seq, es_region, es_cond, es_exit, ops_nil, ops_cons, ops_consG, st_move, sy_pick, pickS_false, sy_len uL, sy_bin, binS_lss, bindO_some, bindF_some, bindX_normal, bindX_exit, condX_false, iteB_false, ev_tmp, ev_const, putA, upd_at, Option.map_some, ↓reduceIte, Nat.reduceEqDiff, decide_false, yieldO_eq, yO, yV_bool, some_true, List.getElem?_cons_zero, List.getElem?_cons_succ, ↓bindO_some, ↓bindF_some, ↓bindX_normal, ↓bindX_exit, ↓condX_false, ↓iteB_false, h5, h6, ho.lenI, hz]
    exact ⟨_, _, _, rfl, by simp, rfl, rfl, by simp only [upd_get, ↓reduceIte, Nat.reduceEqDiff, h5]⟩
theorem signed_run {H : Heap} {v : Value} {l : List Int} (hw : WF H) (hv : R H v (ints l)) (hl : l.length ≤ 1000) (hb : ∀ x ∈ l, -4000000000000000000 ≤ x ∧ x ≤ 4000000000000000000) (neg : Bool) (n : Nat) (hn : 2001 ≤ n) :
    OneL H (evB Try.prog noC n (.func (.func 101) #[] #[]) [v, .bool neg] H) (bif neg then (trimL l).map (- ·) else trimL l) := by
  refine run_of (F := 2000) (Q := fun x => OneL H x (bif neg then (trimL l).map (- ·) else trimL l)) (fun n hn => ?_) n hn
  rw [body_runS Try.func101 rfl (ok_fn (by rfl) Try.func101 rfl) (Nat.le_of_ble_eq_true rfl) (D := D0) (by kernel_rfl)]
  obtain ⟨v1, H1, e1, o1, old1, wf1⟩ := trim_run hw hv hl n (by omega)
  have hl1 := trimL_len l
  have eb : signedB = atC [1, 1, 0, 1, 0, 0] ((Try.f101.body).getD .skip) := rfl
  cases neg with
  | true =>
    have key := fun (A : Fr) => signed_loop (evB Try.prog noC n) n Try.f101.ntmps (a := A) (k := n) (by omega) (by omega) (fun x hx => hb x (trimL_mem hx)) o1 old1 wf1
    rw [eb] at key
    simp only [Try.f101, Option.getD_some, atC] at key
    simp (disch := omega) only [Try.f101, es_seq, es_region, es_block, es_loop, es_ret, ops_nil, ops_cons, st_move, st_assign, st_fun, bindO_some, bindF_some, bindX_normal, ev_tmp, ev_const, ev_func, putA, upd_at, ↓reduceIte, Nat.reduceEqDiff, frOf_0, List.map_cons, List.map_nil, ↓bindO_some, ↓bindF_some, ↓bindX_normal, e1]
    generalize hA : upd _ 6 _ = A
    obtain ⟨x, a', H', e, hx, o2, old2, wf2, h5⟩ := key A (by subst hA; rfl) (by subst hA; rfl) (by subst hA; rfl)
    subst hx
    rw [e]
    simp (disch := omega) only [bindX_normal, blkX_exit, upd_at, Option.map_some, ↓reduceIte, ↓bindX_normal, fin_r, res_nil, res_tmp, pack_1, h5, o2.R.scal]
    exact ⟨_, _, rfl, o2, old2, wf2⟩
  | false =>
    have key := fun (A : Fr) => signed_loop0 (evB Try.prog noC n) n Try.f101.ntmps (a := A) (k := n) (by omega) o1.R (by omega)
    rw [eb] at key
    simp only [Try.f101, Option.getD_some, atC] at key
    simp (disch := omega) only [Try.f101, es_seq, es_region, es_block, es_loop, es_ret, ops_nil, ops_cons, st_move, st_assign, st_fun, bindO_some, bindF_some, bindX_normal, ev_tmp, ev_const, ev_func, putA, upd_at, ↓reduceIte, Nat.reduceEqDiff, frOf_0, List.map_cons, List.map_nil, ↓bindO_some, ↓bindF_some, ↓bindX_normal, e1]
    generalize hA : upd _ 6 _ = A
    obtain ⟨x, a', H', e, hx, hH, h5⟩ := key A (by subst hA; rfl) (by subst hA; rfl) (by subst hA; rfl)
    subst hx
    subst hH
    rw [e]
    simp (disch := omega) only [bindX_normal, blkX_exit, upd_at, Option.map_some, ↓reduceIte, ↓bindX_normal, fin_r, res_nil, res_tmp, pack_1, h5, o1.R.scal]
    exact ⟨_, _, rfl, o1, old1, wf1⟩
end Go.Proofs.Ytmmgdgmjkhcfaaa
