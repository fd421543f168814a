/- Integers of the program: writing, small ones, signs, comparison. -/
import Derived.Test.YtmmgdgmjkhcfaaaSyF
set_option linter.all false
namespace Go.Proofs.Ytmmgdgmjkhcfaaa
open Go Go.Abs Go.Num
set_option maxRecDepth 10000
attribute [local congr] bindO_congr bindF_congr bindX_congr condX_congr iteB_congr binS_congr pickS_congr eqB_congr nilS_congr
theorem clone_run {H : Heap} {v : Value} {l : List Int} (hw : WF H) (hv : R H v (ints l)) (hl : l.length ≤ 10000) (n : Nat) (hn : 10 ≤ n) : OneL H (evB Try.prog noC n (.func (.func 61) #[] #[]) [v] H) l := by
  refine run_of (F := 9) (Q := fun x => OneL H x l) (fun n hn => ?_) n hn
  rw [body_runS Try.func61 rfl (ok_fn (by rfl) Try.func61 rfl) (Nat.le_of_ble_eq_true rfl) (D := D0) (by kernel_rfl)]
  have old1 := Old.app H [.cells H.length true []]
  obtain ⟨v2, H2, s2, o2, old2, wf2⟩ := (O.empty (H := H) (Nat.le_refl H.length)).app (hw.app (Nat.le_refl _)) (by simp) (hv.mono old1) (by rw [ints_len]; simp [maxA]; omega)
  have fin : nilS v H (rest none) = some (.bool false, H) → OneL H (some (v2, H2)) l := fun _ => ⟨_, _, rfl, o2, old1.trans old2, wf2⟩
  rcases hv with ⟨rfl, hl0⟩ | ⟨rfl, hl0⟩ | ⟨b, o, f, w, cs, rfl, h⟩
  · have : l = [] := by simpa [ints] using hl0
    subst this
    have hn : ∀ r, nilS (.slice none 0 0) H r = some (.bool true, H) := fun _ => rfl
    simp only [Try.f61, es_seq, es_region, es_cond, es_ret, ops_nil, ops_cons, st_move, st_assign, ↓sy_nil uL, hn, bindO_some, bindF_some, bindX_normal, bindX_ret, condX_true, ev_tmp, ev_const, putA, upd_at, frOf_0, ↓reduceIte, Nat.reduceEqDiff, fin_r, res_nil, res_tmp, pack_1, scal_nil, Option.map_some]
    exact ⟨_, _, rfl, O.nil _ _, Old.refl _ _, hw⟩
  · have hn : ∀ r, nilS lostSlice H r = some (.bool false, H) := fun _ => rfl
    simp only [Try.f61, es_seq, es_region, es_cond, es_ret, es_skip, ops_nil, ops_cons, st_move, st_assign, ↓sy_nil uL, hn, bindO_some, bindF_some, bindX_normal, condX_false, ev_tmp, ev_const, putA, upd_at, frOf_0, ↓reduceIte, Nat.reduceEqDiff, sy_build0 eL nI, sy_append eL pI, s2, o2.R.scal, fin_r, res_nil, res_tmp, pack_1, Option.map_some]
    exact ⟨_, _, rfl, o2, old1.trans old2, wf2⟩
  · have hn : ∀ r, nilS (sliceA b o (ints l).length 1) H r = some (.bool false, H) := fun _ => rfl
    simp only [Try.f61, es_seq, es_region, es_cond, es_ret, es_skip, ops_nil, ops_cons, st_move, st_assign, ↓sy_nil uL, hn, bindO_some, bindF_some, bindX_normal, condX_false, ev_tmp, ev_const, putA, upd_at, frOf_0, ↓reduceIte, Nat.reduceEqDiff, sy_build0 eL nI, sy_append eL pI, s2, o2.R.scal, fin_r, res_nil, res_tmp, pack_1, Option.map_some]
    exact ⟨_, _, rfl, o2, old1.trans old2, wf2⟩
noncomputable def listA : Code := atC [1, 1, 0, 1, 0, 1, 0, 0] ((Try.f86.body).getD .skip)
theorem list_loop {B0 : Nat} {H0 : Heap} {v : Value} {l : List Int} (call : CallF) (m nt : Nat) {a : Fr} {H : Heap} {k : Nat} (hk : l.length < k) (hl : l.length ≤ 1000) (hb : ∀ x ∈ l, -4000000000000000000 ≤ x ∧ x ≤ 4000000000000000000)
    (ho : O B0 H v (ints l)) (old : Old B0 H0 H) (hw : WF H) (h3 : a 3 = v) (h11 : a 11 = vi l.length) (h12 : a 12 = vi (0 : Nat)) :
    ∃ x a' H', loopN (evS Try.prog call m nt none listA) k a H = some (x, a', H') ∧ x = .exit 0 ∧ O B0 H' v (ints (l.map (- ·))) ∧ Old B0 H0 H' ∧ WF H' ∧ a' 3 = v := by
  refine loop_up l.length (fun i a H' => a 3 = v ∧ a 11 = vi l.length ∧ a 12 = vi i ∧ O B0 H' v (ints (negI l i)) ∧ Old B0 H0 H' ∧ WF H') _ ?_ ?_ hk ⟨h3, h11, h12, by rw [negI_0]; exact ho, old, hw⟩
  · intro i a H' hi ⟨h3, h11, h12, ho, old, hw⟩
    left
    rw [show listA = atC [1, 1, 0, 1, 0, 1, 0, 0] ((Try.f86.body).getD .skip) from rfl]
    have hlen := negI_len l i
    have hx := hb _ (getD_mem hi)
    have e1 := negI_get hi
    have e2 : IntKind.i64.wrap (0 - l.getD i 0) = - l.getD i 0 := by rw [wr64 (by omega) (by omega)]; omega
    obtain ⟨H2, es, o2, old2, wf2⟩ := ho.setI hw (i := i) (by omega) (- l.getD i 0)
    have e3 : IntKind.i64.wrap ((i : Int) + 1) = ((i + 1 : Nat) : Int) := by rw [wr64 (by omega) (by omega)]; omega
    have hr := ho.R
    have hlt : (i : Int) < l.length := by omega
    simp (disch := omega) only [Try.f86, Option.getD_some, atC, es_seq, es_region, es_cond, es_block, es_skip, ops_nil, ops_cons, st_move, st_assign, sy_addr eL, sy_load aI, sy_store zI, sy_bin, sy_neg, binS_lss, binS_add, bindO_some, bindF_some, bindX_normal, blkX_normal, condX_true, ev_tmp, ev_const, putA, upd_at, Option.map_some, ↓reduceIte, Nat.reduceEqDiff, Int.toNat_natCast, decide_true, ↓bindO_some, ↓bindF_some, ↓bindX_normal, ↓condX_true, h3, h11, h12, hlt, hr.addrI, hr.loadI, e1, e2, es, e3]
    exact ⟨_, _, rfl, by simp only [upd_get, ↓reduceIte, Nat.reduceEqDiff, h3], by simp only [upd_get, ↓reduceIte, Nat.reduceEqDiff, h11], by simp only [upd_get, ↓reduceIte], by rw [← negI_set hi]; exact o2, old.trans old2, wf2⟩
  · intro a H' ⟨h3, h11, h12, ho, old, hw⟩
    rw [show listA = atC [1, 1, 0, 1, 0, 1, 0, 0] ((Try.f86.body).getD .skip) from rfl]
    simp (disch := omega) only [Try.f86, Option.getD_some, atC, es_seq, es_region, es_cond, es_exit, ops_nil, ops_cons, sy_bin, binS_lss, bindO_some, bindF_some, bindX_normal, bindX_exit, condX_false, ev_tmp, putA, upd_at, ↓reduceIte, decide_false, ↓bindO_some, ↓bindF_some, ↓bindX_normal, ↓bindX_exit, ↓condX_false, h11, h12, Int.lt_irrefl]
    exact ⟨_, _, _, rfl, by simp, rfl, by rw [← negI_all]; exact ho, old, hw, by simp only [upd_get, ↓reduceIte, Nat.reduceEqDiff, h3]⟩
theorem list_run {H : Heap} {w : Value} {z : Int} (hw : WF H) {C : Nat} (hv : Wh C H w z) (hl : (nf z.natAbs).length ≤ 900) (n : Nat) (hn : 1010 ≤ n) :
    OneL H (evB Try.prog noC n (.func (.func 86) #[] #[]) [w] H) (nf z) := by
  obtain ⟨v, rfl, hr⟩ := hv
  have hr := hr.R
  generalize hnb : decide (z < 0) = nb
  refine run_of (F := 1009) (Q := fun r => OneL H r (nf z)) (fun n hn => ?_) n hn
  rw [body_runS Try.func86 rfl (ok_fn (by rfl) Try.func86 rfl) (Nat.le_of_ble_eq_true rfl) (D := D0) (by kernel_rfl)]
  have oldb := Old.app H [.cells H.length true [.bool nb, v]]
  have wfb := hw.app (Nat.le_refl H.length) (o := true) (cs := [.bool nb, v])
  have bb := BxM.made (B := H.length) (H := H) (Nat.le_refl _) [.bool nb, v]
  obtain ⟨v1, H1, s1, o1, old1, wf1⟩ := clone_run wfb (hr.mono oldb) (by omega) n (by omega)
  have f0 := bb.faddr 0
  have f1 := bb.faddr 1
  have l1 : loadS (bx (ptrA H.length 0) 1) (H ++ [.cells H.length true [.bool nb, v]]) = some v := bb.load 1
  have l0 : loadS (bx (ptrA H.length 0) 0) H1 = some (.bool nb) := (bb.mono old1).load 0
  have old01 := oldb.trans (old1.mono oldb.1)
  cases nb with
  | true =>
    have hz : z < 0 := by simpa using hnb
    have hlen := o1.R.lenI
    have key := fun (A : Fr) => list_loop (evB Try.prog noC n) n Try.f86.ntmps (a := A) (k := n) (by omega) (by omega) (nfb _) o1 old1 wf1
    rw [show listA = atC [1, 1, 0, 1, 0, 1, 0, 0] ((Try.f86.body).getD .skip) from rfl] at key
    simp only [Try.f86, Option.getD_some, atC] at key
    simp (disch := omega) only [Try.f86, es_seq, es_region, es_cond, es_block, es_loop, es_skip, es_ret, ops_nil, ops_cons, st_move, st_assign, st_fun, sy_len uL, sy_bin, bindO_some, bindF_some, bindX_normal, condX_true, ev_tmp, ev_const, ev_func, putA, upd_at, Option.map_some, ↓reduceIte, Nat.reduceEqDiff, frOf_0, List.map_cons, List.map_nil, ↓bindO_some, ↓bindF_some, ↓bindX_normal, ↓condX_true, sy_load aL, sy_load aB, sy_faddr fW0, sy_faddr fW1, sy_box, scal_agg, f0, f1, l1, s1, l0, hlen]
    generalize hA : upd _ 12 _ = A
    obtain ⟨r, a', H', e, hr', o2, old2, wf2, h3⟩ := key A (by subst hA; rfl) (by subst hA; rfl) (by subst hA; rfl)
    subst hr'
    rw [e]
    have hlen2 := o2.R.lenI
    rw [List.length_map] at hlen2
    have hne : (nf z.natAbs).length ≠ 0 := fun h => by have := nf_nil.1 (List.eq_nil_of_length_eq_zero h); omega
    have c1 : ¬ ((nf z.natAbs).length : Int) = 0 := by omega
    simp (disch := omega) only [binS_eql, bindO_some, bindF_some, bindX_normal, blkX_exit, condX_false, upd_at, Option.map_some, ↓reduceIte, Nat.reduceEqDiff, decide_false, ↓bindO_some, ↓bindF_some, ↓bindX_normal, ↓condX_false, fin_r, res_nil, res_tmp, pack_1, h3, hlen2, c1, o2.R.scal]
    refine ⟨_, _, rfl, ?_, oldb.trans (old2.mono oldb.1), wf2⟩
    rw [show nf z = (nf z.natAbs).map (- ·) from by rw [nf_neg']; congr 1; omega]
    exact o2.below oldb.1
  | false =>
    have hz : ¬ z < 0 := by simpa using hnb
    have hlen := o1.R.lenI
    rw [nf_natAbs_pos (by omega)] at o1 hlen hl
    by_cases hne : (nf z).length = 0
    · have c1 : (((nf z).length : Nat) : Int) = 0 := by omega
      have hnil := List.eq_nil_of_length_eq_zero hne
      simp (disch := omega) only [Try.f86, es_seq, es_region, es_cond, es_skip, es_ret, ops_nil, ops_cons, st_move, st_assign, st_fun, sy_len uL, sy_bin, binS_eql, bindO_some, bindF_some, bindX_normal, bindX_ret, condX_true, condX_false, ev_tmp, ev_const, ev_func, putA, upd_at, Option.map_some, ↓reduceIte, Nat.reduceEqDiff, frOf_0, List.map_cons, List.map_nil, decide_true, ↓bindO_some, ↓bindF_some, ↓bindX_normal, ↓bindX_ret, ↓condX_true, ↓condX_false, fin_r, res_nil, res_tmp, pack_1, scal_nil, sy_load aL, sy_load aB, sy_faddr fW0, sy_faddr fW1, sy_box, scal_agg, f0, f1, l1, s1, l0, hlen, c1]
      rw [hnil]
      exact ⟨_, _, rfl, O.nil _ _, old01, wf1⟩
    · have c1 : ¬ (((nf z).length : Nat) : Int) = 0 := by omega
      simp (disch := omega) only [Try.f86, es_seq, es_region, es_cond, es_skip, es_ret, ops_nil, ops_cons, st_move, st_assign, st_fun, sy_len uL, sy_bin, binS_eql, bindO_some, bindF_some, bindX_normal, condX_false, ev_tmp, ev_const, ev_func, putA, upd_at, Option.map_some, ↓reduceIte, Nat.reduceEqDiff, frOf_0, List.map_cons, List.map_nil, decide_false, ↓bindO_some, ↓bindF_some, ↓bindX_normal, ↓condX_false, fin_r, res_nil, res_tmp, pack_1, sy_load aL, sy_load aB, sy_faddr fW0, sy_faddr fW1, sy_box, scal_agg, f0, f1, l1, s1, l0, hlen, c1, o1.R.scal]
      exact ⟨_, _, rfl, o1.below oldb.1, old01, wf1⟩
theorem small_run {H : Heap} {z : Int} (hw : WF H) (h1 : -4000000000000000000 ≤ z) (h2 : z ≤ 4000000000000000000) (n : Nat) (hn : 2002 ≤ n) :
    OneW H (evB Try.prog noC n (.func (.func 110) #[] #[]) [vi z] H) z := by
  refine run_of (F := 2001) (Q := fun r => OneW H r z) (fun n hn => ?_) n hn
  rw [body_runS Try.func110 rfl (ok_fn (by rfl) Try.func110 rfl) (Nat.le_of_ble_eq_true rfl) (D := D0) (by kernel_rfl)]
  have oldb := Old.app H [.cells H.length true [.bool false, .slice none 0 0]]
  have wfb := hw.app (Nat.le_refl H.length) (o := true) (cs := [.bool false, .slice none 0 0])
  have bb := BxM.made (B := H.length) (H := H) (Nat.le_refl _) [.bool false, .slice none 0 0]
  have oldc := Old.app (H ++ [.cells H.length true [.bool false, .slice none 0 0]]) [.cells (H ++ [Blk.cells H.length true [.bool false, .slice none 0 0]]).length true [vi z]]
  obtain ⟨w, H2, s2, ⟨v, rfl, hv⟩, old2, wf2⟩ := read_run (wfb.app (Nat.le_refl _)) (.one (R.push (f := (H ++ [Blk.cells H.length true [.bool false, .slice none 0 0]]).length) (c := vi z)) h1 h2) n (by omega)
  have old12 := oldc.trans (old2.mono oldc.1)
  obtain ⟨H3, s3, bb3, old3, wf3, keep3⟩ := (bb.mono old12).store wf2 (vs := [.bool (decide (z < 0)), v]) rfl
  have s3 : storeN 2 (ptrA H.length 0) (.agg #[.bool (decide (z < 0)), v]) H2 = some H3 := s3
  have s4 : loadN 2 (ptrA H.length 0) H3 = some (.agg #[.bool (decide (z < 0)), v]) := bb3.loadAll
  simp (disch := omega) only [Try.f110, es_seq, es_region, es_ret, ops_nil, ops_cons, st_move, st_fun, sy_build1 eL oI, bindO_some, bindF_some, bindX_normal, ev_tmp, ev_func, putA, upd_at, Option.map_some, ↓reduceIte, Nat.reduceEqDiff, frOf_0, List.map_cons, List.map_nil, ↓bindO_some, ↓bindF_some, ↓bindX_normal, fin_r, res_nil, pack_1, scal_vi, sy_storeN zW, sy_alloc iW scal_agg, res_cell aW zW, s2, s3, s4]
  exact ⟨_, _, rfl, ⟨v, rfl, ((hv.below oldc.1).kept keep3).below oldb.1⟩, (oldb.trans (old12.mono oldb.1)).trans old3, wf3⟩
end Go.Proofs.Ytmmgdgmjkhcfaaa
