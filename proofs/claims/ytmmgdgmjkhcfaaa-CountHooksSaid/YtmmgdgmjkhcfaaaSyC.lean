/- Integers of the reference: sums. -/
import Derived.Test.YtmmgdgmjkhcfaaaSyB
set_option linter.all false
namespace Go.Proofs.Ytmmgdgmjkhcfaaa
open Go Go.Abs Go.Num
set_option maxRecDepth 10000
attribute [local congr] bindO_congr bindF_congr bindX_congr condX_congr iteB_congr binS_congr pickS_congr
/-- A list that is a number. -/
def NumV (H : Heap) (v : Value) (z : Int) : Prop := ∃ l, R H v (ints l) ∧ val l = z ∧ l.length ≤ 900 ∧ ∀ x ∈ l, -4000000000000000000 ≤ x ∧ x ≤ 4000000000000000000
theorem NumV.norm {H : Heap} {v : Value} {z : Int} (h : NumV H v z) (hw : WF H) (n : Nat) (hn : 2003 ≤ n) : OneL H (evB Try.prog noC n (.func (.func 80) #[] #[]) [v] H) (nf z) := by
  obtain ⟨l, hr, hz, hl, hb⟩ := h
  rw [← hz]
  exact norm_run hw hr hl hb n hn
theorem NumV.mono {H H' : Heap} {v : Value} {z : Int} (h : NumV H v z) (ho : Old H.length H H') : NumV H' v z := by
  obtain ⟨l, hr, h⟩ := h
  exact ⟨l, hr.mono ho, h⟩
theorem NumV.of {H : Heap} {v : Value} {z : Int} (h : R H v (ints (nf z))) (hl : (nf z).length ≤ 900) : NumV H v z :=
  ⟨nf z, h, nf_val z, hl, fun x hx => by have := nf_bound z x hx; unfold B at this; omega⟩
theorem NumV.one {H : Heap} {v : Value} {z : Int} (h : R H v (ints [z])) (h1 : -4000000000000000000 ≤ z) (h2 : z ≤ 4000000000000000000) : NumV H v z :=
  ⟨[z], h, by simp [val], by simp, fun x hx => by simp at hx; subst hx; exact ⟨h1, h2⟩⟩
theorem nfb (z : Int) : ∀ x ∈ nf z, -4000000000000000000 ≤ x ∧ x ≤ 4000000000000000000 := fun x hx => by have := nf_bound z x hx; unfold B at this; omega
theorem negative_run {H : Heap} {v : Value} {z : Int} (hv : R H v (ints (nf z))) (hl : (nf z).length ≤ 900) (n : Nat) (hn : 10 ≤ n) :
    evB Try.prog noC n (.func (.func 128) #[] #[]) [v] H = some (.bool (decide (z < 0)), H) := by
  refine run_of (F := 9) (Q := fun x => x = some (.bool (decide (z < 0)), H)) (fun n hn => ?_) n hn
  rw [body_runS Try.func128 rfl (ok_fn (by rfl) Try.func128 rfl) (Nat.le_of_ble_eq_true rfl) (D := D0) (by kernel_rfl)]
  by_cases hz : z = 0
  · subst hz
    rw [nf_zero] at hv
    have hl0 : lenS v = some 0 := hv.lenI
    have h1 : decide ((0 : Int) < ((0 : Nat) : Int)) = false := rfl
    have h2 : decide ((0 : Int) < 0) = false := rfl
    simp only [Try.f128, es_seq, es_region, es_ret, ops_nil, ops_cons, ops_consG, st_move, st_assign, sy_pick, pickS_false, sy_len uL, sy_bin, binS_gtr, bindO_some, bindF_some, bindX_normal, iteB_false, ev_tmp, ev_const, putA, upd_at, Option.map_some, ↓reduceIte, Nat.reduceEqDiff, frOf_0, yieldO_eq, yO, yV_bool, some_true, List.getElem?_cons_zero, List.getElem?_cons_succ, ↓bindO_some, ↓bindF_some, ↓bindX_normal, ↓iteB_false, fin_r, res_nil, res_tmp, pack_1, scal_bool, hl0, h1, h2]
  · obtain ⟨h1, h2⟩ := nf_last hz
    obtain ⟨c, hc⟩ : ∃ c, (nf z).length = c + 1 := ⟨(nf z).length - 1, by omega⟩
    rw [hc, Nat.add_sub_cancel] at h2
    have h3 : (0 : Int) < ((nf z).length : Int) := by omega
    have e1 : IntKind.i64.wrap (((nf z).length : Int) - 1) = (c : Int) := by rw [wr64 (by omega) (by omega)]; omega
    have e2 : decide ((nf z).getD c 0 < 0) = decide (z < 0) := by rw [decide_eq_decide]; exact h2
    have a1 : addrS 1 v (vi c) = some (pt v c) := by have := hv.addrI (i := (c : Int)) (by omega) (by omega); simpa using this
    have l1 : loadS (pt v c) H = some (vi ((nf z).getD c 0)) := hv.loadI (by omega)
    simp only [Try.f128, es_seq, es_region, es_ret, ops_nil, ops_cons, ops_consG, st_move, st_assign, sy_pick, pickS_true, sy_len uL, sy_addr eL, sy_load aI, sy_bin, binS_lss, binS_gtr, binS_sub, bindO_some, bindF_some, bindX_normal, iteB_true, ev_tmp, ev_const, putA, upd_at, Option.map_some, ↓reduceIte, Nat.reduceEqDiff, frOf_0, decide_true, yieldO_eq, yO, yV_bool, List.getElem?_cons_zero, List.getElem?_cons_succ, beq_self_eq_true, ↓bindO_some, ↓bindF_some, ↓bindX_normal, ↓iteB_true, fin_r, res_nil, res_tmp, pack_1, scal_bool, hv.lenI, h3, e1, a1, l1, e2]
theorem size_run {H : Heap} {v : Value} {z : Int} (hw : WF H) (hv : R H v (ints (nf z))) (hl : (nf z).length ≤ 900) (n : Nat) (hn : 2002 ≤ n) :
    OneL H (evB Try.prog noC n (.func (.func 127) #[] #[]) [v] H) (nf z.natAbs) := by
  refine run_of (F := 2001) (Q := fun x => OneL H x (nf z.natAbs)) (fun n hn => ?_) n hn
  rw [body_runS Try.func127 rfl (ok_fn (by rfl) Try.func127 rfl) (Nat.le_of_ble_eq_true rfl) (D := D0) (by kernel_rfl)]
  have s1 := negative_run hv hl n (by omega)
  obtain ⟨v2, H2, e2, o2, old2, wf2⟩ := signed_run hw hv (by omega) (nfb z) (decide (z < 0)) n (by omega)
  simp (disch := omega) only [Try.f127, es_seq, es_region, es_ret, ops_nil, ops_cons, st_move, st_assign, st_fun, bindO_some, bindF_some, bindX_normal, ev_tmp, ev_const, ev_func, putA, upd_at, Option.map_some, ↓reduceIte, Nat.reduceEqDiff, frOf_0, List.map_cons, List.map_nil, ↓bindO_some, ↓bindF_some, ↓bindX_normal, fin_r, res_nil, res_tmp, pack_1, s1, e2, o2.R.scal]
  refine ⟨_, _, rfl, ?_, old2, wf2⟩
  rw [← nf_abs]
  rw [trim_nf] at o2
  by_cases h : z < 0
  · simpa [h] using o2
  · simpa [h] using o2
theorem neg_run {H : Heap} {v : Value} {z : Int} (hw : WF H) (hv : NumV H v z) (hl : (nf z).length ≤ 900) (n : Nat) (hn : 2004 ≤ n) :
    OneL H (evB Try.prog noC n (.func (.func 64) #[] #[]) [v] H) (nf (-z)) := by
  refine run_of (F := 2003) (Q := fun x => OneL H x (nf (-z))) (fun n hn => ?_) n hn
  rw [body_runS Try.func64 rfl (ok_fn (by rfl) Try.func64 rfl) (Nat.le_of_ble_eq_true rfl) (D := D0) (by kernel_rfl)]
  obtain ⟨v1, H1, e1, o1, old1, wf1⟩ := hv.norm hw n (by omega)
  obtain ⟨v2, H2, e2, o2, old2, wf2⟩ := signed_run wf1 o1.R (by omega) (nfb z) true n (by omega)
  simp (disch := omega) only [Try.f64, es_seq, es_region, es_ret, ops_nil, ops_cons, st_move, st_assign, st_fun, bindO_some, bindF_some, bindX_normal, ev_tmp, ev_const, ev_func, putA, upd_at, Option.map_some, ↓reduceIte, Nat.reduceEqDiff, frOf_0, List.map_cons, List.map_nil, ↓bindO_some, ↓bindF_some, ↓bindX_normal, fin_r, res_nil, res_tmp, pack_1, e1, e2, o2.R.scal]
  refine ⟨_, _, rfl, ?_, old1.trans (old2.mono old1.1), wf2⟩
  rw [← nf_neg']
  rw [cond_true, trim_nf] at o2
  exact o2.below old1.1
noncomputable def addA : Code := atC [1, 1, 1, 0, 1, 0, 0] ((Try.f65.body).getD .skip)
theorem add_loop {H0 : Heap} {vx vy : Value} {x y : Int} (hw0 : WF H0) (hx : R H0 vx (ints (nf x))) (hy : R H0 vy (ints (nf y))) (lx : (nf x).length ≤ 900) (ly : (nf y).length ≤ 900) (call : CallF) (m nt : Nat) {a : Fr} {k : Nat} (hk : max (nf x).length (nf y).length < k)
    (h0 : a 0 = vx) (h1 : a 1 = vy) (h5 : a 5 = .slice none 0 0) (h6 : a 6 = vi (0 : Nat)) :
    ∃ r a' H', loopN (evS Try.prog call m nt none addA) k a H0 = some (r, a', H') ∧ r = .exit 0 ∧ ∃ vo out, a' 5 = vo ∧ O H0.length H' vo (ints out) ∧ Old H0.length H0 H' ∧ WF H' ∧ out.length ≤ 900 ∧ val out = x + y ∧ ∀ z ∈ out, -4000000000000000000 ≤ z ∧ z ≤ 4000000000000000000 := by
  refine loop_up (max (nf x).length (nf y).length) (fun i a H' => a 0 = vx ∧ a 1 = vy ∧ a 6 = vi i ∧ ∃ vo out, a 5 = vo ∧ O H0.length H' vo (ints out) ∧ Old H0.length H0 H' ∧ WF H' ∧ out.length = i ∧ val out = val ((nf x).take i) + val ((nf y).take i) ∧ ∀ z ∈ out, -4000000000000000000 ≤ z ∧ z ≤ 4000000000000000000) _ ?_ ?_ hk
    ⟨h0, h1, h6, _, [], h5, O.nil _ _, Old.refl _ _, hw0, rfl, by simp [val], fun z hz => by cases hz⟩
  · intro i a H' hi ⟨h0, h1, h6, vo, out, h5, ho, old, hw, hol, hval, hb⟩
    left
    rw [show addA = atC [1, 1, 1, 0, 1, 0, 0] ((Try.f65.body).getD .skip) from rfl]
    have hx2 := hx.keep (Nat.le_refl _) old
    have hy2 := hy.keep (Nat.le_refl _) old
    have bx := nf_getD x i
    have by_ := nf_getD y i
    have e3 : IntKind.i64.wrap ((i : Int) + 1) = ((i + 1 : Nat) : Int) := by rw [wr64 (by omega) (by omega)]; omega
    have e4 : IntKind.i64.wrap ((nf x).getD i 0 + (nf y).getD i 0) = (nf x).getD i 0 + (nf y).getD i 0 := wr64 (by omega) (by omega)
    have e5 : IntKind.i64.wrap (0 + (nf y).getD i 0) = 0 + (nf y).getD i 0 := wr64 (by omega) (by omega)
    have hv2 := fun z => val_snoc out z
    have ht1 := val_take_succ (nf x) i
    have ht2 := val_take_succ (nf y) i
    have hml := fun p : Int => Int.mul_add p ((nf x).getD i 0) ((nf y).getD i 0)
    have hb' : ∀ z, -4000000000000000000 ≤ z → z ≤ 4000000000000000000 → ∀ w ∈ out ++ [z], -4000000000000000000 ≤ w ∧ w ≤ 4000000000000000000 := fun z z1 z2 w hw => by
      rcases List.mem_append.1 hw with h | h
      · exact hb w h
      · simp at h; subst h; exact ⟨z1, z2⟩
    by_cases c1 : (i : Int) < (nf x).length
    · by_cases c2 : (i : Int) < (nf y).length
      · obtain ⟨v2, H2, ep, o2, old2, wf2⟩ := ho.pushI hw old.1 (by unfold maxA; omega) ((nf x).getD i 0 + (nf y).getD i 0)
        simp (disch := omega) only [Try.f65, Option.getD_some, atC, es_seq, es_region, es_cond, es_block, es_skip, ops_nil, ops_cons, ops_consG, st_move, st_assign, sy_pick, pickS_true, sy_len uL, sy_addr eL, sy_load aI, sy_bin, sy_append eL pI, sy_build1 eL oI, binS_lss, binS_add, bindO_some, bindF_some, bindX_normal, blkX_normal, condX_true, iteB_false, ev_tmp, ev_const, putA, upd_at, Option.map_some, ↓reduceIte, Nat.reduceEqDiff, Int.toNat_natCast, decide_true, Bool.not_true, yieldO_eq, yO, yV_bool, some_false, List.getElem?_cons_zero, List.getElem?_cons_succ, ↓bindO_some, ↓bindF_some, ↓bindX_normal, ↓condX_true, ↓iteB_false, scal_vi, h0, h1, h5, h6, hx2.lenI, hy2.lenI, c1, c2, hx2.addrI, hx2.loadI, hy2.addrI, hy2.loadI, e3, e4, ep]
        exact ⟨_, _, rfl, by simp only [upd_get, ↓reduceIte, Nat.reduceEqDiff, h0], by simp only [upd_get, ↓reduceIte, Nat.reduceEqDiff, h1], by simp only [upd_get, ↓reduceIte], v2, _, by simp only [upd_get, ↓reduceIte, Nat.reduceEqDiff], o2, old.trans old2, wf2, by simp [hol], by rw [hv2, hol, hval, ht1, ht2, hml]; omega, hb' _ (by omega) (by omega)⟩
      · have hz : (nf y).getD i 0 = 0 := by rw [List.getD_eq_getElem?_getD, List.getElem?_eq_none (by omega)]; rfl
        obtain ⟨v2, H2, ep, o2, old2, wf2⟩ := ho.pushI hw old.1 (by unfold maxA; omega) ((nf x).getD i 0)
        simp (disch := omega) only [Try.f65, Option.getD_some, atC, es_seq, es_region, es_cond, es_block, es_skip, ops_nil, ops_cons, ops_consG, st_move, st_assign, sy_pick, pickS_true, sy_len uL, sy_addr eL, sy_load aI, sy_bin, sy_append eL pI, sy_build1 eL oI, binS_lss, binS_add, bindO_some, bindF_some, bindX_normal, blkX_normal, condX_true, condX_false, iteB_false, ev_tmp, ev_const, putA, upd_at, Option.map_some, ↓reduceIte, Nat.reduceEqDiff, Int.toNat_natCast, decide_true, decide_false, Bool.not_true, yieldO_eq, yO, yV_bool, some_false, List.getElem?_cons_zero, List.getElem?_cons_succ, ↓bindO_some, ↓bindF_some, ↓bindX_normal, ↓condX_true, ↓condX_false, ↓iteB_false, scal_vi, h0, h1, h5, h6, hx2.lenI, hy2.lenI, c1, c2, hx2.addrI, hx2.loadI, e3, ep]
        exact ⟨_, _, rfl, by simp only [upd_get, ↓reduceIte, Nat.reduceEqDiff, h0], by simp only [upd_get, ↓reduceIte, Nat.reduceEqDiff, h1], by simp only [upd_get, ↓reduceIte], v2, _, by simp only [upd_get, ↓reduceIte, Nat.reduceEqDiff], o2, old.trans old2, wf2, by simp [hol], by rw [hv2, hol, hval, ht1, ht2, hz]; omega, hb' _ (by omega) (by omega)⟩
    · have c2 : (i : Int) < (nf y).length := by omega
      have hz : (nf x).getD i 0 = 0 := by rw [List.getD_eq_getElem?_getD, List.getElem?_eq_none (by omega)]; rfl
      obtain ⟨v2, H2, ep, o2, old2, wf2⟩ := ho.pushI hw old.1 (by unfold maxA; omega) (0 + (nf y).getD i 0)
      simp (disch := omega) only [Try.f65, Option.getD_some, atC, es_seq, es_region, es_cond, es_block, es_skip, ops_nil, ops_cons, ops_consG, st_move, st_assign, sy_pick, pickS_false, sy_len uL, sy_addr eL, sy_load aI, sy_bin, sy_append eL pI, sy_build1 eL oI, binS_lss, binS_add, bindO_some, bindF_some, bindX_normal, blkX_normal, condX_true, condX_false, iteB_true, ev_tmp, ev_const, putA, upd_at, Option.map_some, ↓reduceIte, Nat.reduceEqDiff, Int.toNat_natCast, decide_true, decide_false, yieldO_eq, yO, yV_bool, List.getElem?_cons_zero, List.getElem?_cons_succ, beq_self_eq_true, ↓bindO_some, ↓bindF_some, ↓bindX_normal, ↓condX_true, ↓condX_false, ↓iteB_true, scal_vi, h0, h1, h5, h6, hx2.lenI, hy2.lenI, c1, c2, hy2.addrI, hy2.loadI, e3, e5, ep]
      exact ⟨_, _, rfl, by simp only [upd_get, ↓reduceIte, Nat.reduceEqDiff, h0], by simp only [upd_get, ↓reduceIte, Nat.reduceEqDiff, h1], by simp only [upd_get, ↓reduceIte], v2, _, by simp only [upd_get, ↓reduceIte, Nat.reduceEqDiff], o2, old.trans old2, wf2, by simp [hol], by rw [hv2, hol, hval, ht1, ht2, hz, Int.zero_add]; omega, hb' _ (by omega) (by omega)⟩
  · intro a H' ⟨h0, h1, h6, vo, out, h5, ho, old, hw, hol, hval, hb⟩
    rw [show addA = atC [1, 1, 1, 0, 1, 0, 0] ((Try.f65.body).getD .skip) from rfl]
    have hx2 := hx.keep (Nat.le_refl _) old
    have hy2 := hy.keep (Nat.le_refl _) old
    have c1 : ¬ ((max (nf x).length (nf y).length : Nat) : Int) < (nf x).length := by omega
    have c2 : ¬ ((max (nf x).length (nf y).length : Nat) : Int) < (nf y).length := by omega
    simp (disch := omega) only [Try.f65, Option.getD_some, atC, es_seq, es_region, es_cond, es_exit, ops_nil, ops_cons, ops_consG, st_move, sy_pick, pickS_false, sy_len uL, sy_bin, binS_lss, bindO_some, bindF_some, bindX_normal, bindX_exit, condX_false, iteB_true, ev_tmp, putA, upd_at, Option.map_some, ↓reduceIte, Nat.reduceEqDiff, decide_false, yieldO_eq, yO, yV_bool, List.getElem?_cons_zero, List.getElem?_cons_succ, beq_self_eq_true, ↓bindO_some, ↓bindF_some, ↓bindX_normal, ↓bindX_exit, ↓condX_false, ↓iteB_true, h0, h1, h6, hx2.lenI, hy2.lenI, c1, c2]
    refine ⟨_, _, _, rfl, by simp, rfl, vo, out, by simp only [upd_get, ↓reduceIte, Nat.reduceEqDiff, h5], ho, old, hw, by omega, ?_, hb⟩
    rw [hval, List.take_of_length_le (by omega), List.take_of_length_le (by omega), nf_val, nf_val]
theorem add_run {H : Heap} {vx vy : Value} {x y : Int} (hw : WF H) (hx : NumV H vx x) (hy : NumV H vy y) (lx : (nf x).length ≤ 900) (ly : (nf y).length ≤ 900) (n : Nat) (hn : 2004 ≤ n) :
    OneL H (evB Try.prog noC n (.func (.func 65) #[] #[]) [vx, vy] H) (nf (x + y)) := by
  refine run_of (F := 2003) (Q := fun r => OneL H r (nf (x + y))) (fun n hn => ?_) n hn
  rw [body_runS Try.func65 rfl (ok_fn (by rfl) Try.func65 rfl) (Nat.le_of_ble_eq_true rfl) (D := D0) (by kernel_rfl)]
  obtain ⟨v1, H1, e1, o1, old1, wf1⟩ := hx.norm hw n (by omega)
  obtain ⟨v2, H2, e2, o2, old2, wf2⟩ := (hy.mono old1).norm wf1 n (by omega)
  have old12 := old1.trans (old2.mono old1.1)
  have key := fun (A : Fr) => add_loop wf2 (o1.R.mono old2) o2.R lx ly (evB Try.prog noC n) n Try.f65.ntmps (a := A) (k := n) (by omega)
  rw [show addA = atC [1, 1, 1, 0, 1, 0, 0] ((Try.f65.body).getD .skip) from rfl] at key
  simp only [Try.f65, Option.getD_some, atC] at key
  simp (disch := omega) only [Try.f65, es_seq, es_region, es_block, es_loop, es_ret, ops_nil, ops_cons, st_move, st_assign, st_fun, bindO_some, bindF_some, bindX_normal, ev_tmp, ev_const, ev_func, putA, upd_at, ↓reduceIte, Nat.reduceEqDiff, frOf_0, frOf_1, List.map_cons, List.map_nil, ↓bindO_some, ↓bindF_some, ↓bindX_normal, e1, e2]
  generalize hA : upd _ 6 _ = A
  obtain ⟨r, a', H', e, hr, vo, out, h5, ho, old, hwf, hol, hval, hb⟩ := key A (by subst hA; rfl) (by subst hA; rfl) (by subst hA; rfl) (by subst hA; rfl)
  subst hr
  rw [e]
  obtain ⟨v3, H3, e3, o3, old3, wf3⟩ := norm_run hwf ho.R hol hb n (by omega)
  simp (disch := omega) only [bindO_some, bindF_some, bindX_normal, blkX_exit, upd_at, Option.map_some, ↓reduceIte, ↓bindO_some, ↓bindF_some, ↓bindX_normal, fin_r, res_nil, res_tmp, pack_1, h5, e3, o3.R.scal]
  have old' := old12.trans (old.mono old12.1)
  refine ⟨_, _, rfl, ?_, old'.trans (old3.mono old'.1), wf3⟩
  rw [← hval]
  exact o3.below old'.1
theorem sub_run {H : Heap} {vx vy : Value} {x y : Int} (hw : WF H) (hx : NumV H vx x) (hy : NumV H vy y) (lx : (nf x).length ≤ 900) (ly : (nf y).length ≤ 900) (n : Nat) (hn : 2005 ≤ n) :
    OneL H (evB Try.prog noC n (.func (.func 75) #[] #[]) [vx, vy] H) (nf (x - y)) := by
  refine run_of (F := 2004) (Q := fun r => OneL H r (nf (x - y))) (fun n hn => ?_) n hn
  rw [body_runS Try.func75 rfl (ok_fn (by rfl) Try.func75 rfl) (Nat.le_of_ble_eq_true rfl) (D := D0) (by kernel_rfl)]
  have ln : (nf (-y)).length ≤ 900 := by rw [← nf_neg', List.length_map]; exact ly
  obtain ⟨v1, H1, e1, o1, old1, wf1⟩ := neg_run hw hy ly n (by omega)
  obtain ⟨v2, H2, e2, o2, old2, wf2⟩ := add_run wf1 (hx.mono old1) (.of o1.R ln) lx ln n (by omega)
  simp (disch := omega) only [Try.f75, es_seq, es_region, es_ret, ops_nil, ops_cons, st_move, st_assign, st_fun, bindO_some, bindF_some, bindX_normal, ev_tmp, ev_const, ev_func, putA, upd_at, Option.map_some, ↓reduceIte, Nat.reduceEqDiff, frOf_0, frOf_1, List.map_cons, List.map_nil, ↓bindO_some, ↓bindF_some, ↓bindX_normal, fin_r, res_nil, res_tmp, pack_1, e1, e2, o2.R.scal]
  refine ⟨_, _, rfl, ?_, old1.trans (old2.mono old1.1), wf2⟩
  rw [Int.sub_eq_add_neg]
  exact o2.below old1.1
end Go.Proofs.Ytmmgdgmjkhcfaaa
