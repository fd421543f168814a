/- Dimensions. -/
import Derived.Test.YtmmgdgmjkhcfaaaSzE
import Derived.Test.YtmmgdgmjkhcfaaaSyZ
set_option linter.all false
namespace Go.Proofs.Ytmmgdgmjkhcfaaa
open Go Go.Abs Go.Num
set_option maxRecDepth 10000
attribute [local congr] bindO_congr bindF_congr bindX_congr condX_congr iteB_congr binS_congr pickS_congr eqB_congr nilS_congr clsW_congr maxS_congr minS_congr
theorem row_take {r : List Int} {j : Nat} (h : j < r.length) (t : List Int) : t ++ r.take (j + 1) = (t ++ r.take j) ++ [r.getD j 0] := by rw [take_snoc' h, List.append_assoc]
noncomputable def dmA : Code := atC [1, 1, 0, 1, 0, 0] ((Try.f82.body).getD .skip)
noncomputable def dmB : Code := atC [1, 1, 0, 1, 0, 0, 1, 1, 0, 0, 1, 1, 0, 0] ((Try.f82.body).getD .skip)
theorem dm_inner {B0 : Nat} {H0 H : Heap} {vr vh vo : Value} {l : List Int} (hp : Part l) {i : Nat} (hi : i < l.length) (hB : B0 = H0.length) (old : Old B0 H0 H) (hw : WF H) (hr : R H vr (ints (hookRow l i))) (ho : O B0 H vo (ints (nf (prodL (hkT l i))))) (n m nt : Nat) (hn : 2020 ≤ n) {a : Fr} {k : Nat} (hk : 30 ≤ k) {v0 v11 v12 : Value} (h0 : a 0 = v0) (h3 : a 3 = vo) (h10 : a 10 = vh) (h11 : a 11 = v11) (h12 : a 12 = v12) (h16 : a 16 = vr) (h17 : a 17 = vi (hookRow l i).length) (h18 : a 18 = vi (0 : Nat)) :
    ∃ r a' H', loopN (evS Try.prog (evB Try.prog noC n) m nt none dmB) k a H = some (r, a', H') ∧ r = .exit 2 ∧ a' 0 = v0 ∧ a' 10 = vh ∧ a' 11 = v11 ∧ a' 12 = v12 ∧ Old H.length H H' ∧ WF H' ∧ ∃ vo, a' 3 = vo ∧ O B0 H' vo (ints (nf (prodL (hkT l (i + 1))))) := by
  have hg := hp.getD hi
  have hrl := hookRow_len l i
  refine loop_up (hookRow l i).length (fun j a H' => a 0 = v0 ∧ a 10 = vh ∧ a 11 = v11 ∧ a 12 = v12 ∧ a 16 = vr ∧ a 17 = vi (hookRow l i).length ∧ a 18 = vi j ∧ Old H.length H H' ∧ WF H' ∧ ∃ vo, a 3 = vo ∧ O B0 H' vo (ints (nf (prodL (hkT l i ++ (hookRow l i).take j))))) _ ?_ ?_ (by omega) ⟨h0, h10, h11, h12, h16, h17, h18, Old.refl _ _, hw, vo, h3, by rw [List.take_zero, List.append_nil]; exact ho⟩
  · intro j a H' hj ⟨h0, h10, h11, h12, h16, h17, h18, old2, hw, vo, h3, ho⟩
    left
    rw [show dmB = atC [1, 1, 0, 1, 0, 0, 1, 1, 0, 0, 1, 1, 0, 0] ((Try.f82.body).getD .skip) from rfl]
    have hr' := hr.mono old2
    have hlt : (j : Int) < (hookRow l i).length := by omega
    have e5 : IntKind.i64.wrap ((j : Int) + 1) = ((j + 1 : Nat) : Int) := by rw [wr64 (by omega) (by omega)]; omega
    have hm := hookRow_mem hp hi _ (getD_mem hj)
    have hb := dim_bd hp hi (Nat.le_of_lt hj)
    obtain ⟨v2, H2, s2, o2, old3, wf2⟩ := ctimes_run (z := (hookRow l i).getD j 0) hw (NumV.of ho.R (by omega)) (by omega) (by omega) (by omega) n (by omega)
    simp (disch := omega) only [Try.f82, Option.getD_some, atC, es_seq, es_region, es_cond, es_block, es_skip, ops_nil, ops_cons, st_move, st_assign, st_fun, sy_addr eL, sy_load aI, sy_bin, binS_lss, binS_add, bindO_some, bindF_some, bindX_normal, blkX_normal, condX_true, ev_tmp, ev_const, ev_func, putA, upd_at, Option.map_some, ↓reduceIte, Nat.reduceEqDiff, Int.toNat_natCast, List.map_cons, List.map_nil, decide_true, ↓bindO_some, ↓bindF_some, ↓bindX_normal, ↓condX_true, h3, h16, h17, h18, hlt, hr'.addrI, hr'.loadI, s2, e5]
    have g0 := old.1
    have g2 := old2.1
    exact ⟨_, _, rfl, h0, h10, h11, h12, h16, h17, rfl, old2.trans (old3.mono old2.1), wf2, v2, rfl, by rw [row_take hj, prodL_snoc]; exact o2.below (by omega)⟩
  · intro a H' ⟨h0, h10, h11, h12, h16, h17, h18, old2, hw, vo, h3, ho⟩
    rw [show dmB = atC [1, 1, 0, 1, 0, 0, 1, 1, 0, 0, 1, 1, 0, 0] ((Try.f82.body).getD .skip) from rfl]
    simp (disch := omega) only [Try.f82, Option.getD_some, atC, es_seq, es_region, es_cond, es_exit, ops_nil, ops_cons, sy_bin, binS_lss, bindO_some, bindF_some, bindX_normal, bindX_exit, condX_false, ev_tmp, putA, upd_at, ↓reduceIte, decide_false, ↓bindO_some, ↓bindF_some, ↓bindX_normal, ↓bindX_exit, ↓condX_false, h17, h18, Int.lt_irrefl]
    exact ⟨_, _, _, rfl, by simp, rfl, h0, h10, h11, h12, old2, hw, vo, h3, by rw [List.take_length] at ho; rw [hkT_succ hi]; exact ho⟩
theorem dim_run {H : Heap} {v : Value} {l : List Int} (hw : WF H) (hv : R H v (ints l)) (hp : Part l) (n : Nat) (hn : 100020000 ≤ n) : OneL H (evB Try.prog noC n (.func (.func 82) #[] #[]) [v] H) (nf (dimZ l)) := by
  refine run_of (F := 100019999) (Q := fun r => OneL H r (nf (dimZ l))) (fun n hn => ?_) n hn
  rw [body_runS Try.func82 rfl (ok_fn (by rfl) Try.func82 rfl) (Nat.le_of_ble_eq_true rfl) (D := D0) (by kernel_rfl)]
  have hl := hp.len
  have hs0 := hp.sum0
  have hs1 := hp.sum
  obtain ⟨v1, H1, s1, o1, old1, wf1⟩ := of_run (z := 1) hw (by omega) (by omega) n (by omega)
  obtain ⟨vh, H2, s2, oh, old2, wf2⟩ := hooks_run wf1 (hv.mono old1) hp n (by omega)
  have rl2 := oh.RL
  have ll2 := RG.len rl2
  rw [hooksL_len] at ll2
  have old02 := old1.trans (old2.mono old1.1)
  have g1 := old1.1
  have g2 := old2.1
  have key : ∀ A : Fr, A 0 = v → A 3 = v1 → A 10 = vh → A 11 = vi l.length → A 12 = vi (0 : Nat) → ∃ r a' H', loopN (evS Try.prog (evB Try.prog noC n) n Try.f82.ntmps none dmA) n A H2 = some (r, a', H') ∧ r = .exit 0 ∧ a' 0 = v ∧ ∃ vo, a' 3 = vo ∧ O H.length H' vo (ints (nf (prodL (hkT l l.length)))) ∧ Old H.length H H' ∧ WF H' := by
    intro A h0 h3 h10 h11 h12
    refine loop_up l.length (fun i a H' => a 0 = v ∧ a 10 = vh ∧ a 11 = vi l.length ∧ a 12 = vi i ∧ Old H2.length H2 H' ∧ WF H' ∧ ∃ vo, a 3 = vo ∧ O H.length H' vo (ints (nf (prodL (hkT l i))))) _ ?_ ?_ (by omega) ⟨h0, h10, h11, h12, Old.refl _ _, wf2, v1, h3, o1.mono old2⟩
    · intro i a H' hi ⟨h0, h10, h11, h12, old, hw, vo, h3, ho⟩
      left
      rw [show dmA = atC [1, 1, 0, 1, 0, 0] ((Try.f82.body).getD .skip) from rfl]
      have hlt : (i : Int) < l.length := by omega
      have e1 : IntKind.i64.wrap ((i : Int) + 1) = ((i + 1 : Nat) : Int) := by rw [wr64 (by omega) (by omega)]; omega
      have rl' := rl2.mono old
      obtain ⟨vr, lr, hr⟩ := rl'.row (i := i) (by rw [hooksL_len]; exact hi)
      rw [hooksL_get hi] at hr
      have ad := rl'.addr (i := i) (by rw [hooksL_len]; exact hi)
      have hrl := hookRow_len l i
      have hg := hp.getD hi
      have k1 := fun (F : Fr) => dm_inner (vh := vh) hp hi rfl (old02.trans (old.mono (by omega))) hw hr ho n n Try.f82.ntmps (by omega) (a := F) (k := n) (v0 := v) (v11 := vi l.length) (v12 := vi i) (by omega)
      rw [show dmB = atC [1, 1, 0, 1, 0, 0, 1, 1, 0, 0, 1, 1, 0, 0] ((Try.f82.body).getD .skip) from rfl] at k1
      simp only [Try.f82, Option.getD_some, atC] at k1
      simp (disch := omega) only [Try.f82, Option.getD_some, atC, es_seq, es_region, es_cond, es_block, es_loop, es_skip, ops_nil, ops_cons, st_move, st_assign, sy_len uL, sy_bin, binS_lss, bindO_some, bindF_some, bindX_normal, condX_true, ev_tmp, ev_const, putA, upd_at, Option.map_some, ↓reduceIte, Nat.reduceEqDiff, decide_true, ↓bindO_some, ↓bindF_some, ↓bindX_normal, ↓condX_true, sy_load aL, sy_addr eLL, h10, h11, h12, hlt, ad, lr, hr.lenI]
      generalize hF : upd _ 18 _ = F
      obtain ⟨r, a', H3, e, hr', g0, g10, g11, g12, old3, wf3, vo3, g3, ho3⟩ := k1 F (by subst hF; exact h0) (by subst hF; exact h3) (by subst hF; exact h10) (by subst hF; exact h11) (by subst hF; exact h12) (by subst hF; rfl) (by subst hF; rfl) (by subst hF; rfl)
      subst hr'
      rw [e]
      clear e k1
      simp (disch := omega) only [binS_add, bindO_some, bindF_some, bindX_normal, blkX_normal, blkX_exit, ↓reduceIte, ↓bindO_some, ↓bindF_some, ↓bindX_normal, g12, e1]
      exact ⟨_, _, rfl, g0, g10, g11, rfl, old.trans (old3.mono old.1), wf3, vo3, g3, ho3⟩
    · intro a H' ⟨h0, h10, h11, h12, old, hw, vo, h3, ho⟩
      rw [show dmA = atC [1, 1, 0, 1, 0, 0] ((Try.f82.body).getD .skip) from rfl]
      simp (disch := omega) only [Try.f82, Option.getD_some, atC, es_seq, es_region, es_cond, es_exit, ops_nil, ops_cons, sy_bin, binS_lss, bindO_some, bindF_some, bindX_normal, bindX_exit, condX_false, ev_tmp, putA, upd_at, ↓reduceIte, decide_false, ↓bindO_some, ↓bindF_some, ↓bindX_normal, ↓bindX_exit, ↓condX_false, h11, h12, Int.lt_irrefl]
      exact ⟨_, _, _, rfl, by simp, rfl, h0, vo, h3, ho, old02.trans (old.mono (by omega)), hw⟩
  rw [show dmA = atC [1, 1, 0, 1, 0, 0] ((Try.f82.body).getD .skip) from rfl] at key
  simp only [Try.f82, Option.getD_some, atC] at key
  simp (disch := omega) only [Try.f82, es_seq, es_region, es_block, es_loop, es_ret, ops_nil, ops_cons, st_move, st_assign, st_fun, bindO_some, bindF_some, bindX_normal, ev_tmp, ev_const, ev_func, putA, upd_at, Option.map_some, ↓reduceIte, Nat.reduceEqDiff, frOf_0, List.map_cons, List.map_nil, ↓bindO_some, ↓bindF_some, ↓bindX_normal, sy_len uLL, s1, s2, ll2]
  generalize hA : upd _ 12 _ = A
  obtain ⟨r, a', H', e, hr, h0, vo, h3, ho, old, wf⟩ := key A (by subst hA; rfl) (by subst hA; rfl) (by subst hA; rfl) (by subst hA; rfl) (by subst hA; rfl)
  subst hr
  rw [e]
  clear e key
  have s3 := csize_run (hv.mono old) hp.sm n (by omega)
  rw [show l.sum = ((l.sum.toNat : Nat) : Int) from by omega] at s3
  have lf := fct_len (k := l.sum.toNat) (by omega)
  have pf := fct_le (k := l.sum.toNat) (by omega)
  have hd := dimT_bd hp
  obtain ⟨v4, H4, s4, o4, old4, wf4⟩ := cfact_run (k := l.sum.toNat) wf (by omega) n (by omega)
  obtain ⟨v5, H5, s5, o5, old5, wf5⟩ := overC_run long_all wf4 (NumV.of o4.R (by omega)) (NumV.of (ho.R.mono old4) (by omega)) (by omega) (by omega) (by omega) (by omega) n (by omega)
  simp (disch := omega) only [bindO_some, bindF_some, bindX_normal, blkX_exit, upd_at, Option.map_some, ↓reduceIte, ↓bindO_some, ↓bindF_some, ↓bindX_normal, fin_r, res_nil, res_tmp, pack_1, h0, h3, s3, s4, s5, o5.R.scal]
  have old04 := old.trans (old4.mono old.1)
  exact ⟨_, _, rfl, o5.below old04.1, old04.trans (old5.mono old04.1), wf5⟩
noncomputable def rmA : Code := atC [1, 1, 1, 0, 1, 0, 0] ((Try.f50.body).getD .skip)
noncomputable def rmB : Code := atC [1, 1, 1, 0, 1, 0, 0, 1, 0, 0, 1, 0, 0] ((Try.f50.body).getD .skip)
theorem rm_inner {B0 : Nat} {H0 H : Heap} {vh vo : Value} {l : List Int} (hp : Part l) {i : Nat} (hi : i < l.length) (hB : B0 = H0.length) (old : Old B0 H0 H) (hw : WF H) (hr : RL H vh (hooksL l)) (ho : O B0 H vo (ints (nf (prodL (hkT l i))))) (n m nt : Nat) (hn : 2020 ≤ n) {a : Fr} {k : Nat} (hk : 30 ≤ k) {v0 : Value} (h0 : a 0 = v0) (h3 : a 3 = vh) (h4 : a 4 = vo) (h5 : a 5 = vi i) (h6 : a 6 = vi (0 : Nat)) :
    ∃ r a' H', loopN (evS Try.prog (evB Try.prog noC n) m nt none rmB) k a H = some (r, a', H') ∧ r = .exit 2 ∧ a' 0 = v0 ∧ a' 3 = vh ∧ a' 5 = vi i ∧ Old H.length H H' ∧ WF H' ∧ ∃ vo, a' 4 = vo ∧ O B0 H' vo (ints (nf (prodL (hkT l (i + 1))))) := by
  have hg := hp.getD hi
  have hrl := hookRow_len l i
  refine loop_up (hookRow l i).length (fun j a H' => a 0 = v0 ∧ a 3 = vh ∧ a 5 = vi i ∧ a 6 = vi j ∧ Old H.length H H' ∧ WF H' ∧ ∃ vo, a 4 = vo ∧ O B0 H' vo (ints (nf (prodL (hkT l i ++ (hookRow l i).take j))))) _ ?_ ?_ (by omega) ⟨h0, h3, h5, h6, Old.refl _ _, hw, vo, h4, by rw [List.take_zero, List.append_nil]; exact ho⟩
  · intro j a H' hj ⟨h0, h3, h5, h6, old2, hw, vo, h4, ho⟩
    left
    rw [show rmB = atC [1, 1, 1, 0, 1, 0, 0, 1, 0, 0, 1, 0, 0] ((Try.f50.body).getD .skip) from rfl]
    have hr' := hr.mono old2
    obtain ⟨vr, lr, hrow⟩ := hr'.row (i := i) (by rw [hooksL_len]; exact hi)
    rw [hooksL_get hi] at hrow
    have ad := hr'.addr (i := i) (by rw [hooksL_len]; exact hi)
    have hlt : (j : Int) < (hookRow l i).length := by omega
    have e5 : IntKind.i64.wrap ((j : Int) + 1) = ((j + 1 : Nat) : Int) := by rw [wr64 (by omega) (by omega)]; omega
    have hm := hookRow_mem hp hi _ (getD_mem hj)
    have hb := dim_bd hp hi (Nat.le_of_lt hj)
    obtain ⟨v2, H2, s2, o2, old3, wf2⟩ := rtimes_run (z := (hookRow l i).getD j 0) hw (NumV.of ho.R (by omega)) (by omega) (by omega) (by omega) n (by omega)
    simp (disch := omega) only [Try.f50, Option.getD_some, atC, es_seq, es_region, es_cond, es_block, es_skip, ops_nil, ops_cons, st_move, st_assign, st_fun, sy_len uL, sy_addr eL, sy_load aI, sy_bin, sy_build1 eL oI, binS_lss, binS_add, bindO_some, bindF_some, bindX_normal, blkX_normal, condX_true, ev_tmp, ev_const, ev_func, putA, upd_at, Option.map_some, ↓reduceIte, Nat.reduceEqDiff, Int.toNat_natCast, List.map_cons, List.map_nil, decide_true, ↓bindO_some, ↓bindF_some, ↓bindX_normal, ↓condX_true, scal_vi, sy_load aL, sy_addr eLL, h3, h4, h5, h6, ad, lr, hrow.lenI, hlt, hrow.addrI, hrow.loadI, s2, e5]
    have g0 := old.1
    have g2 := old2.1
    exact ⟨_, _, rfl, h0, h3, h5, rfl, old2.trans (old3.mono old2.1), wf2, v2, rfl, by rw [row_take hj, prodL_snoc]; exact o2.below (by omega)⟩
  · intro a H' ⟨h0, h3, h5, h6, old2, hw, vo, h4, ho⟩
    rw [show rmB = atC [1, 1, 1, 0, 1, 0, 0, 1, 0, 0, 1, 0, 0] ((Try.f50.body).getD .skip) from rfl]
    have hr' := hr.mono old2
    obtain ⟨vr, lr, hrow⟩ := hr'.row (i := i) (by rw [hooksL_len]; exact hi)
    rw [hooksL_get hi] at hrow
    have ad := hr'.addr (i := i) (by rw [hooksL_len]; exact hi)
    simp (disch := omega) only [Try.f50, Option.getD_some, atC, es_seq, es_region, es_cond, es_exit, ops_nil, ops_cons, st_move, sy_len uL, sy_bin, binS_lss, bindO_some, bindF_some, bindX_normal, bindX_exit, condX_false, ev_tmp, putA, upd_at, Option.map_some, ↓reduceIte, Nat.reduceEqDiff, decide_false, ↓bindO_some, ↓bindF_some, ↓bindX_normal, ↓bindX_exit, ↓condX_false, sy_load aL, sy_addr eLL, h3, h5, h6, ad, lr, hrow.lenI, Int.lt_irrefl]
    exact ⟨_, _, _, rfl, by simp, rfl, h0, h3, h5, old2, hw, vo, h4, by rw [List.take_length] at ho; rw [hkT_succ hi]; exact ho⟩
theorem rdim_run {H : Heap} {v : Value} {l : List Int} (hw : WF H) (hv : R H v (ints l)) (hp : Part l) (n : Nat) (hn : 2100 ≤ n) : OneL H (evB Try.prog noC n (.func (.func 50) #[] #[]) [v] H) (nf (dimZ l)) := by
  refine run_of (F := 2099) (Q := fun r => OneL H r (nf (dimZ l))) (fun n hn => ?_) n hn
  rw [body_runS Try.func50 rfl (ok_fn (by rfl) Try.func50 rfl) (Nat.le_of_ble_eq_true rfl) (D := D0) (by kernel_rfl)]
  have hl := hp.len
  have hs0 := hp.sum0
  have hs1 := hp.sum
  obtain ⟨vh, H1, s1, oh, old1, wf1⟩ := rhooks_run hw hv hp n (by omega)
  have rl1 := oh.RL
  have old2 := Old.app H1 [.cells H1.length true [vi 1]]
  have wf2 := wf1.app (Nat.le_refl H1.length) (o := true) (cs := [vi 1])
  have o2 : O H.length (H1 ++ [.cells H1.length true [vi 1]]) (sliceA H1.length 0 1 1) (ints (nf (prodL (hkT l 0)))) := by
    rw [show prodL (hkT l 0) = 1 from rfl, nf_small (by omega) (by omega)]
    exact O.made old1.1 [vi 1]
  generalize hH2 : H1 ++ [Blk.cells H1.length true [vi 1]] = H2 at *
  have g1 := old1.1
  have g2 := old2.1
  have old02 := old1.trans (old2.mono old1.1)
  have rl2 := rl1.mono old2
  have key : ∀ A : Fr, A 0 = v → A 3 = vh → A 4 = sliceA H1.length 0 1 1 → A 5 = vi (0 : Nat) → ∃ r a' H', loopN (evS Try.prog (evB Try.prog noC n) n Try.f50.ntmps none rmA) n A H2 = some (r, a', H') ∧ r = .exit 0 ∧ a' 0 = v ∧ ∃ vo, a' 4 = vo ∧ O H.length H' vo (ints (nf (prodL (hkT l l.length)))) ∧ Old H.length H H' ∧ WF H' := by
    intro A h0 h3 h4 h5
    refine loop_up l.length (fun i a H' => a 0 = v ∧ a 3 = vh ∧ a 5 = vi i ∧ Old H2.length H2 H' ∧ WF H' ∧ ∃ vo, a 4 = vo ∧ O H.length H' vo (ints (nf (prodL (hkT l i))))) _ ?_ ?_ (by omega) ⟨h0, h3, h5, Old.refl _ _, wf2, _, h4, o2⟩
    · intro i a H' hi ⟨h0, h3, h5, old, hw, vo, h4, ho⟩
      left
      rw [show rmA = atC [1, 1, 1, 0, 1, 0, 0] ((Try.f50.body).getD .skip) from rfl]
      have hlt : (i : Int) < l.length := by omega
      have e1 : IntKind.i64.wrap ((i : Int) + 1) = ((i + 1 : Nat) : Int) := by rw [wr64 (by omega) (by omega)]; omega
      have rl' := rl2.mono old
      have ll := RG.len rl'
      rw [hooksL_len] at ll
      have hrl := hookRow_len l i
      have hg := hp.getD hi
      have k1 := fun (F : Fr) => rm_inner hp hi rfl (old02.trans (old.mono (by omega))) hw rl' ho n n Try.f50.ntmps (by omega) (a := F) (k := n) (v0 := v) (by omega)
      rw [show rmB = atC [1, 1, 1, 0, 1, 0, 0, 1, 0, 0, 1, 0, 0] ((Try.f50.body).getD .skip) from rfl] at k1
      simp only [Try.f50, Option.getD_some, atC] at k1
      simp (disch := omega) only [Try.f50, Option.getD_some, atC, es_seq, es_region, es_cond, es_block, es_loop, es_skip, ops_nil, ops_cons, st_move, st_assign, sy_bin, binS_lss, bindO_some, bindF_some, bindX_normal, condX_true, ev_tmp, ev_const, putA, upd_at, Option.map_some, ↓reduceIte, Nat.reduceEqDiff, decide_true, ↓bindO_some, ↓bindF_some, ↓bindX_normal, ↓condX_true, sy_len uLL, h3, h5, ll, hlt]
      generalize hF : upd _ 6 _ = F
      obtain ⟨r, a', H3, e, hr', g0, g3, g5, old3, wf3, vo3, g4, ho3⟩ := k1 F (by subst hF; exact h0) (by subst hF; exact h3) (by subst hF; exact h4) (by subst hF; exact h5) (by subst hF; rfl)
      subst hr'
      rw [e]
      clear e k1
      simp (disch := omega) only [binS_add, bindO_some, bindF_some, bindX_normal, blkX_normal, blkX_exit, ↓reduceIte, ↓bindO_some, ↓bindF_some, ↓bindX_normal, g5, e1]
      exact ⟨_, _, rfl, g0, g3, rfl, old.trans (old3.mono old.1), wf3, vo3, g4, ho3⟩
    · intro a H' ⟨h0, h3, h5, old, hw, vo, h4, ho⟩
      rw [show rmA = atC [1, 1, 1, 0, 1, 0, 0] ((Try.f50.body).getD .skip) from rfl]
      have rl' := rl2.mono old
      have ll := RG.len rl'
      rw [hooksL_len] at ll
      simp (disch := omega) only [Try.f50, Option.getD_some, atC, es_seq, es_region, es_cond, es_exit, ops_nil, ops_cons, st_move, sy_bin, binS_lss, bindO_some, bindF_some, bindX_normal, bindX_exit, condX_false, ev_tmp, putA, upd_at, Option.map_some, ↓reduceIte, Nat.reduceEqDiff, decide_false, ↓bindO_some, ↓bindF_some, ↓bindX_normal, ↓bindX_exit, ↓condX_false, sy_len uLL, h3, h5, ll, Int.lt_irrefl]
      exact ⟨_, _, _, rfl, by simp, rfl, h0, vo, h4, ho, old02.trans (old.mono (by omega)), hw⟩
  rw [show rmA = atC [1, 1, 1, 0, 1, 0, 0] ((Try.f50.body).getD .skip) from rfl] at key
  simp only [Try.f50, Option.getD_some, atC] at key
  simp (disch := omega) only [Try.f50, es_seq, es_region, es_block, es_loop, es_ret, ops_nil, ops_cons, st_move, st_assign, st_fun, sy_build1 eL oI, bindO_some, bindF_some, bindX_normal, ev_tmp, ev_const, ev_func, putA, upd_at, ↓reduceIte, Nat.reduceEqDiff, frOf_0, List.map_cons, List.map_nil, ↓bindO_some, ↓bindF_some, ↓bindX_normal, scal_vi, s1, hH2]
  generalize hA : upd _ 5 _ = A
  obtain ⟨r, a', H', e, hr, h0, vo, h4, ho, old, wf⟩ := key A (by subst hA; rfl) (by subst hA; rfl) (by subst hA; rfl) (by subst hA; rfl)
  subst hr
  rw [e]
  clear e key
  have s3 := rsize_run (hv.mono old) hp.sm n (by omega)
  rw [show l.sum = ((l.sum.toNat : Nat) : Int) from by omega] at s3
  have lf := fct_len (k := l.sum.toNat) (by omega)
  have pf := fct_le (k := l.sum.toNat) (by omega)
  have hd := dimT_bd hp
  obtain ⟨v4, H4, s4, o4, old4, wf4⟩ := rfact_run (k := l.sum.toNat) wf (by omega) n (by omega)
  obtain ⟨v5, H5, s5, o5, old5, wf5⟩ := quot_run wf4 (NumV.of o4.R (by omega)) (NumV.of (ho.R.mono old4) (by omega)) (by omega) (by omega) (by omega) (by omega) n (by omega)
  simp (disch := omega) only [bindO_some, bindF_some, bindX_normal, blkX_exit, upd_at, Option.map_some, ↓reduceIte, ↓bindO_some, ↓bindF_some, ↓bindX_normal, fin_r, res_nil, res_tmp, pack_1, h0, h4, s3, s4, s5, o5.R.scal]
  have old04 := old.trans (old4.mono old.1)
  exact ⟨_, _, rfl, o5.below old04.1, old04.trans (old5.mono old04.1), wf5⟩
end Go.Proofs.Ytmmgdgmjkhcfaaa
