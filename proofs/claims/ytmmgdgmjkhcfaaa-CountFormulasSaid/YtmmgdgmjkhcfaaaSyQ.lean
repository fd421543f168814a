/- Rates and the formulas of the chapter. -/
import Derived.Test.YtmmgdgmjkhcfaaaSyP
set_option linter.all false
namespace Go.Proofs.Ytmmgdgmjkhcfaaa
open Go Go.Abs Go.Num
set_option maxRecDepth 10000
attribute [local congr] bindO_congr bindF_congr bindX_congr condX_congr iteB_congr binS_congr pickS_congr eqB_congr nilS_congr clsW_congr
theorem aR : isAggT Try.prog 34 = some true := by kernel_rfl
theorem zR : sizeT Try.prog 34 = some 2 := by kernel_rfl
theorem fR0 : fieldOff Try.prog 34 0 = some 0 := by kernel_rfl
theorem fR1 : fieldOff Try.prog 34 1 = some 1 := by kernel_rfl
theorem iR : zeroT Try.prog 34 = some (.agg #[.slice none 0 0, .slice none 0 0]) := by kernel_rfl
theorem uR : Try.prog.underlying 34 = some (.struct (sfs 34)) := by kernel_rfl
theorem oR : sizesOf Try.prog (sfs 34).toList = some [(0, 1), (1, 1)] := by kernel_rfl
theorem bR2 (u v : Value) (hu : scal u = some [u]) (hv : scal v = some [v]) : buildA Try.prog 34 [(0, u), (1, v)] = some (.agg #[u, v]) := by
  simp only [buildA, iR, uR, oR, fillL, hu, hv]
  rfl
theorem bR0 : buildA Try.prog 34 [] = some (.agg #[.slice none 0 0, .slice none 0 0]) := by kernel_rfl
/-- A rate of two lists of the call's own. -/
abbrev OneR (H : Heap) (r : Option (Value × Heap)) (l m : List Int) : Prop := TwoL H r (fun a b => .agg #[a, b]) l m
theorem rate_run {FL : Nat} (hLA : LongAll FL) {H : Heap} {vx vy : Value} {x y : Int} (hw : WF H) (hx : NumV H vx x) (hy : NumV H vy y) (x0 : 0 ≤ x) (y0 : 0 < y) (lx : (nf x).length ≤ 15) (ly : (nf y).length ≤ 15) (n : Nat) (hn : FL + 3022 ≤ n) :
    OneR H (evB Try.prog noC n (.func (.func 72) #[] #[]) [vx, vy] H) (nf (x / (Int.gcd x y : Int))) (nf (y / (Int.gcd x y : Int))) := by
  have hg : 0 < ((Int.gcd x y : Nat) : Int) := by
    have := Int.gcd_pos_of_ne_zero_right x (b := y) (by omega); omega
  have hl := gcd_le x0 (by omega : 0 ≤ y)
  refine run_of (F := FL + 3021) (Q := fun r => OneR H r (nf (x / (Int.gcd x y : Int))) (nf (y / (Int.gcd x y : Int)))) (fun n hn => ?_) n (by omega)
  rw [body_runS Try.func72 rfl (ok_fn (by rfl) Try.func72 rfl) (Nat.le_of_ble_eq_true rfl) (D := D0) (by kernel_rfl)]
  have old1 := Old.app H [.cells H.length true [.slice none 0 0, .slice none 0 0]]
  have wf1 := hw.app (Nat.le_refl H.length) (o := true) (cs := [.slice none 0 0, .slice none 0 0])
  have b1 := BxM.made (B := H.length) (H := H) (Nat.le_refl _) [.slice none 0 0, .slice none 0 0]
  generalize hH1 : H ++ [Blk.cells H.length true [.slice none 0 0, .slice none 0 0]] = H1 at *
  have g1 : H1.length = H.length + 1 := by rw [← hH1]; simp
  obtain ⟨vg, H2, s2, o2, old2, wf2⟩ := gcdP_run hLA wf1 (hx.mono old1) (hy.mono old1) x0 (by omega) lx ly n (by omega)
  have old02 := old1.trans (old2.mono old1.1)
  have ng := NumV.of o2.R (by omega)
  obtain ⟨v1, H3, s3, o3, old3, wf3⟩ := overC_run hLA wf2 (hx.mono old02) ng x0 hg (by omega) (by omega) n (by omega)
  have old03 := old02.trans (old3.mono old02.1)
  obtain ⟨v2, H4, s4, o4, old4, wf4⟩ := overC_run hLA wf3 (hy.mono old03) (ng.mono old3) (by omega) hg (by omega) (by omega) n (by omega)
  have old14 : Old H1.length H1 H4 := (old2.trans (old3.mono old2.1)).trans (old4.mono (Nat.le_trans old2.1 old3.1))
  obtain ⟨H5, s5, b5, old5, wf5, k5⟩ := (b1.mono old14).store wf4 (vs := [v1, v2]) rfl
  have s5 : storeN 2 (ptrA H.length 0) (.agg #[v1, v2]) H4 = some H5 := s5
  have l5 : loadN 2 (ptrA H.length 0) H5 = some (.agg #[v1, v2]) := b5.loadAll
  simp (disch := omega) only [Try.f72, es_seq, es_region, es_ret, ops_nil, ops_cons, st_move, st_assign, st_fun, bindO_some, bindF_some, bindX_normal, ev_tmp, ev_func, putA, upd_at, Option.map_some, ↓reduceIte, Nat.reduceEqDiff, frOf_0, frOf_1, List.map_cons, List.map_nil, ↓bindO_some, ↓bindF_some, ↓bindX_normal, fin_r, res_nil, pack_1, sy_build, sy_alloc iR scal_agg, hH1, s2, s3, s4, bR2 _ _ o3.R.scal o4.R.scal, sy_storeN zR, s5, res_cell aR zR, l5]
  have e2 := old2.1
  have e3 := old3.1
  exact ⟨_, _, _, rfl, (((o3.mono old4).below (by omega)).kept k5).below (by omega), ((o4.below (by omega)).kept k5).below (by omega), (old03.trans (old4.mono (by omega))).trans old5, wf5⟩
theorem rrate_run {H : Heap} {vx vy : Value} {x y : Int} (hw : WF H) (hx : NumV H vx x) (hy : NumV H vy y) (x0 : 0 ≤ x) (y0 : 0 < y) (lx : (nf x).length ≤ 15) (ly : (nf y).length ≤ 15) (n : Nat) (hn : 2020 ≤ n) :
    OneR H (evB Try.prog noC n (.func (.func 78) #[] #[]) [vx, vy] H) (nf (x / (Int.gcd x y : Int))) (nf (y / (Int.gcd x y : Int))) := by
  have hg : 0 < ((Int.gcd x y : Nat) : Int) := by
    have := Int.gcd_pos_of_ne_zero_right x (b := y) (by omega); omega
  have hl := gcd_le x0 (by omega : 0 ≤ y)
  refine run_of (F := 2019) (Q := fun r => OneR H r (nf (x / (Int.gcd x y : Int))) (nf (y / (Int.gcd x y : Int)))) (fun n hn => ?_) n (by omega)
  rw [body_runS Try.func78 rfl (ok_fn (by rfl) Try.func78 rfl) (Nat.le_of_ble_eq_true rfl) (D := D0) (by kernel_rfl)]
  have old1 := Old.app H [.cells H.length true [.slice none 0 0, .slice none 0 0]]
  have wf1 := hw.app (Nat.le_refl H.length) (o := true) (cs := [.slice none 0 0, .slice none 0 0])
  have b1 := BxM.made (B := H.length) (H := H) (Nat.le_refl _) [.slice none 0 0, .slice none 0 0]
  generalize hH1 : H ++ [Blk.cells H.length true [.slice none 0 0, .slice none 0 0]] = H1 at *
  have g1 : H1.length = H.length + 1 := by rw [← hH1]; simp
  obtain ⟨vg, H2, s2, o2, old2, wf2⟩ := gcd_run wf1 (hx.mono old1) (hy.mono old1) x0 (by omega) lx ly n (by omega)
  have old02 := old1.trans (old2.mono old1.1)
  have ng := NumV.of o2.R (by omega)
  obtain ⟨v1, H3, s3, o3, old3, wf3⟩ := quot_run wf2 (hx.mono old02) ng x0 hg (by omega) (by omega) n (by omega)
  have old03 := old02.trans (old3.mono old02.1)
  obtain ⟨v2, H4, s4, o4, old4, wf4⟩ := quot_run wf3 (hy.mono old03) (ng.mono old3) (by omega) hg (by omega) (by omega) n (by omega)
  have old14 : Old H1.length H1 H4 := (old2.trans (old3.mono old2.1)).trans (old4.mono (Nat.le_trans old2.1 old3.1))
  obtain ⟨H5, s5, b5, old5, wf5, k5⟩ := (b1.mono old14).store wf4 (vs := [v1, v2]) rfl
  have s5 : storeN 2 (ptrA H.length 0) (.agg #[v1, v2]) H4 = some H5 := s5
  have l5 : loadN 2 (ptrA H.length 0) H5 = some (.agg #[v1, v2]) := b5.loadAll
  simp (disch := omega) only [Try.f78, es_seq, es_region, es_ret, ops_nil, ops_cons, st_move, st_assign, st_fun, bindO_some, bindF_some, bindX_normal, ev_tmp, ev_func, putA, upd_at, Option.map_some, ↓reduceIte, Nat.reduceEqDiff, frOf_0, frOf_1, List.map_cons, List.map_nil, ↓bindO_some, ↓bindF_some, ↓bindX_normal, fin_r, res_nil, pack_1, sy_build, sy_alloc iR scal_agg, hH1, s2, s3, s4, bR2 _ _ o3.R.scal o4.R.scal, sy_storeN zR, s5, res_cell aR zR, l5]
  have e2 := old2.1
  have e3 := old3.1
  exact ⟨_, _, _, rfl, (((o3.mono old4).below (by omega)).kept k5).below (by omega), ((o4.below (by omega)).kept k5).below (by omega), (old03.trans (old4.mono (by omega))).trans old5, wf5⟩
/-- The sum of the divisors up to k. -/
def sig (n : Int) : Nat → Int
  | 0 => 0
  | k + 1 => sig n k + if n % ((k + 1 : Nat) : Int) = 0 then ((k + 1 : Nat) : Int) else 0
theorem sig_le (n : Int) : ∀ k : Nat, k ≤ 1000 → 0 ≤ sig n k ∧ sig n k ≤ 1000 * k := by
  intro k
  induction k with
  | zero => intro _; simp [sig]
  | succ k ih =>
    intro hk
    have := ih (by omega)
    simp only [sig]
    split <;> omega
noncomputable def torA : Code := atC [1, 1, 1, 0, 1, 0, 0] ((Try.f28.body).getD .skip)
theorem tor_loop {z : Int} (h0 : 1 ≤ z) (h1 : z ≤ 1000) (call : CallF) (m nt : Nat) {a : Fr} {H : Heap} {k : Nat} (hk : z.toNat < k) {v2 : Value} (i0 : a 0 = vi z) (i2 : a 2 = v2) (i4 : a 4 = vi 0) (i5 : a 5 = vi 1) :
    ∃ r a' H', loopN (evS Try.prog call m nt none torA) k a H = some (r, a', H') ∧ r = .exit 0 ∧ H' = H ∧ a' 0 = vi z ∧ a' 2 = v2 ∧ a' 4 = vi (sig z z.toNat) := by
  refine loop_up z.toNat (fun i a H' => H' = H ∧ a 0 = vi z ∧ a 2 = v2 ∧ a 4 = vi (sig z i) ∧ a 5 = vi ((i : Int) + 1)) _ ?_ ?_ hk ⟨rfl, i0, i2, i4, i5⟩
  · intro i a H' hi ⟨hH, i0, i2, i4, i5⟩
    subst hH
    left
    rw [show torA = atC [1, 1, 1, 0, 1, 0, 0] ((Try.f28.body).getD .skip) from rfl]
    have c1 : (i : Int) + 1 ≤ z := by omega
    have hs := sig_le z i (by omega)
    have e0 : z.tmod ((i : Int) + 1) = z % ((i : Int) + 1) := tmod_pos (by omega) _
    have e1 : IntKind.i64.wrap ((i : Int) + 1 + 1) = (i : Int) + 1 + 1 := wr64 (by omega) (by omega)
    have e2 : IntKind.i64.wrap (sig z i + ((i : Int) + 1)) = sig z i + ((i : Int) + 1) := wr64 (by omega) (by omega)
    by_cases hd : z % ((i : Int) + 1) = 0
    · simp (disch := omega) only [Try.f28, Option.getD_some, atC, es_seq, es_region, es_cond, es_block, es_skip, ops_nil, ops_cons, st_move, st_assign, sy_bin, binS_leq, binS_eql, binS_add, binS_rem, bindO_some, bindF_some, bindX_normal, blkX_normal, condX_true, ev_tmp, ev_const, putA, upd_at, ↓reduceIte, Nat.reduceEqDiff, decide_true, ↓bindO_some, ↓bindF_some, ↓bindX_normal, ↓condX_true, i0, i4, i5, c1, e0, hd, e1, e2]
      refine ⟨_, _, rfl, rfl, by simp only [upd_at, ↓reduceIte, Nat.reduceEqDiff, i0], by simp only [upd_at, ↓reduceIte, Nat.reduceEqDiff, i2], ?_, by simp only [upd_at, ↓reduceIte]; rfl⟩
      simp only [upd_at, ↓reduceIte, Nat.reduceEqDiff, sig]
      rw [show (((i + 1 : Nat) : Int)) = (i : Int) + 1 from rfl, if_pos hd]
    · simp (disch := omega) only [Try.f28, Option.getD_some, atC, es_seq, es_region, es_cond, es_block, es_skip, ops_nil, ops_cons, st_move, st_assign, sy_bin, binS_leq, binS_eql, binS_add, binS_rem, bindO_some, bindF_some, bindX_normal, blkX_normal, condX_true, condX_false, ev_tmp, ev_const, putA, upd_at, ↓reduceIte, Nat.reduceEqDiff, decide_true, decide_false, ↓bindO_some, ↓bindF_some, ↓bindX_normal, ↓condX_true, ↓condX_false, i0, i5, c1, e0, hd, e1]
      refine ⟨_, _, rfl, rfl, by simp only [upd_at, ↓reduceIte, Nat.reduceEqDiff, i0], by simp only [upd_at, ↓reduceIte, Nat.reduceEqDiff, i2], ?_, by simp only [upd_at, ↓reduceIte]; rfl⟩
      simp only [upd_at, ↓reduceIte, Nat.reduceEqDiff, sig]
      rw [show (((i + 1 : Nat) : Int)) = (i : Int) + 1 from rfl, if_neg hd, Int.add_zero, i4]
  · intro a H' ⟨hH, i0, i2, i4, i5⟩
    subst hH
    rw [show torA = atC [1, 1, 1, 0, 1, 0, 0] ((Try.f28.body).getD .skip) from rfl]
    have c1 : ¬ (z.toNat : Int) + 1 ≤ z := by omega
    simp (disch := omega) only [Try.f28, Option.getD_some, atC, es_seq, es_region, es_cond, es_exit, ops_nil, ops_cons, st_move, sy_bin, binS_leq, bindO_some, bindF_some, bindX_normal, bindX_exit, condX_false, ev_tmp, putA, upd_at, ↓reduceIte, Nat.reduceEqDiff, decide_false, ↓bindO_some, ↓bindF_some, ↓bindX_normal, ↓bindX_exit, ↓condX_false, i0, i5, c1]
    exact ⟨_, _, _, rfl, by simp, rfl, rfl, by simp only [upd_at, ↓reduceIte, Nat.reduceEqDiff, i0], by simp only [upd_at, ↓reduceIte, Nat.reduceEqDiff, i2], by simp only [upd_at, ↓reduceIte, Nat.reduceEqDiff, i4]⟩
noncomputable def sgA : Code := atC [1, 1, 0, 1, 0, 0] ((Try.f40.body).getD .skip)
theorem sg_loop {z : Int} (h0 : 1 ≤ z) (h1 : z ≤ 1000) (call : CallF) (m nt : Nat) {a : Fr} {H : Heap} {k : Nat} (hk : z.toNat < k) {v2 : Value} (i0 : a 0 = vi z) (i2 : a 2 = v2) (i4 : a 3 = vi 0) (i5 : a 4 = vi 1) :
    ∃ r a' H', loopN (evS Try.prog call m nt none sgA) k a H = some (r, a', H') ∧ r = .exit 0 ∧ H' = H ∧ a' 0 = vi z ∧ a' 2 = v2 ∧ a' 3 = vi (sig z z.toNat) := by
  refine loop_up z.toNat (fun i a H' => H' = H ∧ a 0 = vi z ∧ a 2 = v2 ∧ a 3 = vi (sig z i) ∧ a 4 = vi ((i : Int) + 1)) _ ?_ ?_ hk ⟨rfl, i0, i2, i4, i5⟩
  · intro i a H' hi ⟨hH, i0, i2, i4, i5⟩
    subst hH
    left
    rw [show sgA = atC [1, 1, 0, 1, 0, 0] ((Try.f40.body).getD .skip) from rfl]
    have c1 : (i : Int) + 1 ≤ z := by omega
    have hs := sig_le z i (by omega)
    have e0 : z.tmod ((i : Int) + 1) = z % ((i : Int) + 1) := tmod_pos (by omega) _
    have e1 : IntKind.i64.wrap ((i : Int) + 1 + 1) = (i : Int) + 1 + 1 := wr64 (by omega) (by omega)
    have e2 : IntKind.i64.wrap (sig z i + ((i : Int) + 1)) = sig z i + ((i : Int) + 1) := wr64 (by omega) (by omega)
    by_cases hd : z % ((i : Int) + 1) = 0
    · simp (disch := omega) only [Try.f40, Option.getD_some, atC, es_seq, es_region, es_cond, es_block, es_skip, ops_nil, ops_cons, st_move, st_assign, sy_bin, binS_leq, binS_eql, binS_add, binS_rem, bindO_some, bindF_some, bindX_normal, blkX_normal, condX_true, ev_tmp, ev_const, putA, upd_at, ↓reduceIte, Nat.reduceEqDiff, decide_true, ↓bindO_some, ↓bindF_some, ↓bindX_normal, ↓condX_true, i0, i4, i5, c1, e0, hd, e1, e2]
      refine ⟨_, _, rfl, rfl, by simp only [upd_at, ↓reduceIte, Nat.reduceEqDiff, i0], by simp only [upd_at, ↓reduceIte, Nat.reduceEqDiff, i2], ?_, by simp only [upd_at, ↓reduceIte]; rfl⟩
      simp only [upd_at, ↓reduceIte, Nat.reduceEqDiff, sig]
      rw [show (((i + 1 : Nat) : Int)) = (i : Int) + 1 from rfl, if_pos hd]
    · simp (disch := omega) only [Try.f40, Option.getD_some, atC, es_seq, es_region, es_cond, es_block, es_skip, ops_nil, ops_cons, st_move, st_assign, sy_bin, binS_leq, binS_eql, binS_add, binS_rem, bindO_some, bindF_some, bindX_normal, blkX_normal, condX_true, condX_false, ev_tmp, ev_const, putA, upd_at, ↓reduceIte, Nat.reduceEqDiff, decide_true, decide_false, ↓bindO_some, ↓bindF_some, ↓bindX_normal, ↓condX_true, ↓condX_false, i0, i5, c1, e0, hd, e1]
      refine ⟨_, _, rfl, rfl, by simp only [upd_at, ↓reduceIte, Nat.reduceEqDiff, i0], by simp only [upd_at, ↓reduceIte, Nat.reduceEqDiff, i2], ?_, by simp only [upd_at, ↓reduceIte]; rfl⟩
      simp only [upd_at, ↓reduceIte, Nat.reduceEqDiff, sig]
      rw [show (((i + 1 : Nat) : Int)) = (i : Int) + 1 from rfl, if_neg hd, Int.add_zero, i4]
  · intro a H' ⟨hH, i0, i2, i4, i5⟩
    subst hH
    rw [show sgA = atC [1, 1, 0, 1, 0, 0] ((Try.f40.body).getD .skip) from rfl]
    have c1 : ¬ (z.toNat : Int) + 1 ≤ z := by omega
    simp (disch := omega) only [Try.f40, Option.getD_some, atC, es_seq, es_region, es_cond, es_exit, ops_nil, ops_cons, st_move, sy_bin, binS_leq, bindO_some, bindF_some, bindX_normal, bindX_exit, condX_false, ev_tmp, putA, upd_at, ↓reduceIte, Nat.reduceEqDiff, decide_false, ↓bindO_some, ↓bindF_some, ↓bindX_normal, ↓bindX_exit, ↓condX_false, i0, i5, c1]
    exact ⟨_, _, _, rfl, by simp, rfl, rfl, by simp only [upd_at, ↓reduceIte, Nat.reduceEqDiff, i0], by simp only [upd_at, ↓reduceIte, Nat.reduceEqDiff, i2], by simp only [upd_at, ↓reduceIte, Nat.reduceEqDiff, i4]⟩
theorem sigma_run {z : Int} (h0 : 1 ≤ z) (h1 : z ≤ 1000) (H : Heap) (n : Nat) (hn : 1010 ≤ n) : evB Try.prog noC n (.func (.func 40) #[] #[]) [vi z] H = some (vi (sig z z.toNat), H) := by
  refine run_of (F := 1009) (Q := fun r => r = some (vi (sig z z.toNat), H)) (fun n hn => ?_) n hn
  rw [body_runS Try.func40 rfl (ok_fn (by rfl) Try.func40 rfl) (Nat.le_of_ble_eq_true rfl) (D := D0) (by kernel_rfl)]
  have key := fun (A : Fr) => sg_loop h0 h1 (evB Try.prog noC n) n Try.f40.ntmps (a := A) (H := H) (k := n) (v2 := vi 0) (by omega)
  rw [show sgA = atC [1, 1, 0, 1, 0, 0] ((Try.f40.body).getD .skip) from rfl] at key
  simp only [Try.f40, Option.getD_some, atC] at key
  simp (disch := omega) only [Try.f40, es_seq, es_region, es_block, es_loop, es_ret, ops_nil, ops_cons, st_move, st_assign, bindO_some, bindF_some, bindX_normal, ev_tmp, ev_const, putA, upd_at, ↓reduceIte, ↓bindO_some, ↓bindF_some, ↓bindX_normal]
  generalize hA : upd _ 4 _ = A
  obtain ⟨r, a', H', e, hr, hH, i0, i2, i4⟩ := key A (by subst hA; rfl) (by subst hA; rfl) (by subst hA; rfl) (by subst hA; rfl)
  subst hr
  rw [e]
  subst hH
  simp (disch := omega) only [bindX_normal, blkX_exit, upd_at, Option.map_some, ↓reduceIte, ↓bindX_normal, fin_r, res_nil, res_tmp, pack_1, scal_vi, i4]
def torE (z : Int) : Int := if z < 1 ∨ 1000 < z then 2 else 0
def torN (z : Int) : List Int := if z < 1 ∨ 1000 < z then [] else nf (sig z z.toNat / (Int.gcd (sig z z.toNat) z : Int))
def torD (z : Int) : List Int := if z < 1 ∨ 1000 < z then [] else nf (z / (Int.gcd (sig z z.toNat) z : Int))
theorem few {z : Int} (h0 : 0 ≤ z) (h1 : z ≤ 100000000000) : (nf z).length ≤ 2 := nf_len (by rw [show B ^ 2 = 10000000000000000 from rfl]; omega) (by rw [show B ^ 2 = 10000000000000000 from rfl]; omega)
theorem tori_run {FL : Nat} (hLA : LongAll FL) {H : Heap} {z : Int} (hw : WF H) (n : Nat) (hn : FL + 4000 ≤ n) :
    TwoL H (evB Try.prog noC n (.func (.func 28) #[] #[]) [vi z] H) (fun a b => .tuple #[.agg #[a, b], vi (torE z)]) (torN z) (torD z) := by
  refine run_of (F := FL + 3999) (Q := fun r => TwoL H r (fun a b => .tuple #[.agg #[a, b], vi (torE z)]) (torN z) (torD z)) (fun n hn => ?_) n (by omega)
  rw [body_runS Try.func28 rfl (ok_fn (by rfl) Try.func28 rfl) (Nat.le_of_ble_eq_true rfl) (D := D0) (by kernel_rfl)]
  have old1 := Old.app H [.cells H.length true [.slice none 0 0, .slice none 0 0]]
  have wf1 := hw.app (Nat.le_refl H.length) (o := true) (cs := [.slice none 0 0, .slice none 0 0])
  have b1 := BxM.made (B := H.length) (H := H) (Nat.le_refl _) [.slice none 0 0, .slice none 0 0]
  generalize hH1 : H ++ [Blk.cells H.length true [.slice none 0 0, .slice none 0 0]] = H1 at *
  have g1 : H1.length = H.length + 1 := by rw [← hH1]; simp
  by_cases hz : z < 1 ∨ 1000 < z
  · obtain ⟨H2, s2, b2, old2, wf2, k2⟩ := b1.store wf1 (vs := [.slice none 0 0, .slice none 0 0]) rfl
    have s2 : storeN 2 (ptrA H.length 0) (.agg #[.slice none 0 0, .slice none 0 0]) H1 = some H2 := s2
    have l2 : loadN 2 (ptrA H.length 0) H2 = some (.agg #[.slice none 0 0, .slice none 0 0]) := b2.loadAll
    rw [show torE z = 2 from if_pos hz, show torN z = [] from if_pos hz, show torD z = [] from if_pos hz]
    by_cases h1 : z < 1
    · simp (disch := omega) only [Try.f28, es_seq, es_region, es_cond, es_ret, ops_nil, ops_cons, ops_consG, st_move, st_assign, sy_pick, pickS_true, sy_bin, binS_lss, bindO_some, bindF_some, bindX_normal, bindX_ret, condX_true, iteB_false, ev_tmp, ev_const, putA, upd_at, Option.map_some, ↓reduceIte, Nat.reduceEqDiff, frOf_0, List.map_nil, decide_true, Bool.not_true, yieldO_eq, yO, yV_bool, some_false, List.getElem?_cons_zero, List.getElem?_cons_succ, ↓bindO_some, ↓bindF_some, ↓bindX_normal, ↓bindX_ret, ↓condX_true, ↓iteB_false, fin_r, res_nil, res_tmp, pack_2, scal_vi, sy_build, sy_alloc iR scal_agg, hH1, h1, bR0, sy_storeN zR, s2, res_cell aR zR, l2]
      exact ⟨_, _, _, rfl, O.nil _ _, O.nil _ _, old1.trans old2, wf2⟩
    · have h2 : 1000 < z := hz.resolve_left h1
      simp (disch := omega) only [Try.f28, es_seq, es_region, es_cond, es_ret, ops_nil, ops_cons, ops_consG, st_move, st_assign, sy_pick, pickS_false, sy_bin, binS_lss, binS_gtr, bindO_some, bindF_some, bindX_normal, bindX_ret, condX_true, iteB_true, ev_tmp, ev_const, putA, upd_at, Option.map_some, ↓reduceIte, Nat.reduceEqDiff, frOf_0, List.map_nil, decide_true, decide_false, yieldO_eq, yO, yV_bool, List.getElem?_cons_zero, List.getElem?_cons_succ, beq_self_eq_true, ↓bindO_some, ↓bindF_some, ↓bindX_normal, ↓bindX_ret, ↓condX_true, ↓iteB_true, fin_r, res_nil, res_tmp, pack_2, scal_vi, sy_build, sy_alloc iR scal_agg, hH1, h1, h2, bR0, sy_storeN zR, s2, res_cell aR zR, l2]
      exact ⟨_, _, _, rfl, O.nil _ _, O.nil _ _, old1.trans old2, wf2⟩
  · rw [show torE z = 0 from if_neg hz, show torN z = _ from if_neg hz, show torD z = _ from if_neg hz]
    have h1 : ¬ z < 1 := fun h => hz (.inl h)
    have h2 : ¬ 1000 < z := fun h => hz (.inr h)
    have hs := sig_le z z.toNat (by omega)
    have hs2 : sig z z.toNat ≤ 1000000 := by omega
    obtain ⟨v1, H2, s2, o2, old2, wf2⟩ := of_run (z := sig z z.toNat) wf1 (by omega) (by omega) n (by omega)
    obtain ⟨v2, H3, s3, o3, old3, wf3⟩ := of_run (z := z) wf2 (by omega) (by omega) n (by omega)
    have f1 := few (z := sig z z.toNat) (by omega) (by omega)
    have f2 := few (z := z) (by omega) (by omega)
    obtain ⟨u1, u2, H4, s4, q1, q2, old4, wf4⟩ := rate_run hLA wf3 (NumV.of (o2.R.mono old3) (by omega)) (NumV.of o3.R (by omega)) hs.1 (by omega) (by omega) (by omega) n (by omega)
    have old14 : Old H1.length H1 H4 := (old2.trans (old3.mono old2.1)).trans (old4.mono (Nat.le_trans old2.1 old3.1))
    obtain ⟨H5, s5, b5, old5, wf5, k5⟩ := (b1.mono old14).store wf4 (vs := [u1, u2]) rfl
    have s5 : storeN 2 (ptrA H.length 0) (.agg #[u1, u2]) H4 = some H5 := s5
    have l5 : loadN 2 (ptrA H.length 0) H5 = some (.agg #[u1, u2]) := b5.loadAll
    have e2 := old2.1
    have e3 := old3.1
    have key := fun (A : Fr) => tor_loop (z := z) (by omega) (by omega) (evB Try.prog noC n) n Try.f28.ntmps (a := A) (H := H1) (k := n) (v2 := ptrA H.length 0) (by omega)
    rw [show torA = atC [1, 1, 1, 0, 1, 0, 0] ((Try.f28.body).getD .skip) from rfl] at key
    simp only [Try.f28, Option.getD_some, atC] at key
    simp (disch := omega) only [Try.f28, es_seq, es_region, es_cond, es_block, es_loop, es_skip, es_ret, ops_nil, ops_cons, ops_consG, st_move, st_assign, sy_pick, pickS_false, st_fun, sy_bin, binS_lss, binS_gtr, bindO_some, bindF_some, bindX_normal, condX_false, iteB_true, ev_tmp, ev_const, ev_func, putA, upd_at, ↓reduceIte, Nat.reduceEqDiff, frOf_0, List.map_cons, List.map_nil, decide_false, yieldO_eq, yO, yV_bool, List.getElem?_cons_zero, List.getElem?_cons_succ, beq_self_eq_true, ↓bindO_some, ↓bindF_some, ↓bindX_normal, ↓condX_false, ↓iteB_true, sy_alloc iR scal_agg, hH1, h1, h2]
    generalize hA : upd _ 5 _ = A
    obtain ⟨r, a', H', e, hr, hH, i0, i2, i4⟩ := key A (by subst hA; rfl) (by subst hA; rfl) (by subst hA; rfl) (by subst hA; rfl)
    subst hr
    rw [e]
    subst hH
    simp (disch := omega) only [bindO_some, bindF_some, bindX_normal, blkX_exit, ev_tmp, upd_at, Option.map_some, ↓reduceIte, Nat.reduceEqDiff, ↓bindO_some, ↓bindF_some, ↓bindX_normal, fin_r, res_nil, res_tmp, pack_2, scal_vi, i0, i2, i4, s2, s3, s4, sy_storeN zR, s5, res_cell aR zR, l5]
    exact ⟨_, _, _, rfl, (q1.kept (Kept.mono k5 (by omega))).below (by omega), (q2.kept (Kept.mono k5 (by omega))).below (by omega), (old1.trans (old14.mono (by omega))).trans old5, wf5⟩
theorem within_runS (x lo hi : Int) (H : Heap) (n : Nat) (hn : 1 ≤ n) : evB Try.prog noC n (.func (.func 36) #[] #[]) [vi x, vi lo, vi hi] H = some (.bool (decide (lo ≤ x) && decide (x ≤ hi)), H) := by
  refine run_of (F := 0) (Q := fun r => r = some (.bool (decide (lo ≤ x) && decide (x ≤ hi)), H)) (fun n hn => ?_) n hn
  rw [body_runS Try.func36 rfl (ok_fn (by rfl) Try.func36 rfl) (Nat.le_of_ble_eq_true rfl) (D := D0) (by kernel_rfl)]
  by_cases h1 : lo ≤ x
  all_goals by_cases h2 : x ≤ hi
  all_goals simp (disch := omega) only [Try.f36, es_seq, es_region, es_ret, ops_nil, ops_cons, ops_consG, st_move, st_assign, sy_pick, pickS_true, pickS_false, sy_bin, binS_leq, binS_geq, bindO_some, bindF_some, bindX_normal, iteB_true, iteB_false, ev_tmp, ev_const, putA, upd_at, Option.map_some, ↓reduceIte, Nat.reduceEqDiff, frOf_0, frOf_1, frOf_2, decide_true, decide_false, yieldO_eq, yO, yV_bool, some_true, List.getElem?_cons_zero, List.getElem?_cons_succ, beq_self_eq_true, ↓bindO_some, ↓bindF_some, ↓bindX_normal, ↓iteB_true, ↓iteB_false, fin_r, res_nil, res_tmp, pack_1, scal_bool, h1, h2, Bool.and_self, Bool.and_false, Bool.and_true]
theorem rtori_run {H : Heap} {z : Int} (hw : WF H) (n : Nat) (hn : 4000 ≤ n) :
    TwoL H (evB Try.prog noC n (.func (.func 29) #[] #[]) [vi z] H) (fun a b => .tuple #[.agg #[a, b], vi (torE z)]) (torN z) (torD z) := by
  refine run_of (F := 3999) (Q := fun r => TwoL H r (fun a b => .tuple #[.agg #[a, b], vi (torE z)]) (torN z) (torD z)) (fun n hn => ?_) n hn
  rw [body_runS Try.func29 rfl (ok_fn (by rfl) Try.func29 rfl) (Nat.le_of_ble_eq_true rfl) (D := D0) (by kernel_rfl)]
  have old1 := Old.app H [.cells H.length true [.slice none 0 0, .slice none 0 0]]
  have wf1 := hw.app (Nat.le_refl H.length) (o := true) (cs := [.slice none 0 0, .slice none 0 0])
  have b1 := BxM.made (B := H.length) (H := H) (Nat.le_refl _) [.slice none 0 0, .slice none 0 0]
  generalize hH1 : H ++ [Blk.cells H.length true [.slice none 0 0, .slice none 0 0]] = H1 at *
  have g1 : H1.length = H.length + 1 := by rw [← hH1]; simp
  have s0 := within_runS z 1 1000 H1 n (by omega)
  by_cases hz : z < 1 ∨ 1000 < z
  · obtain ⟨H2, s2, b2, old2, wf2, k2⟩ := b1.store wf1 (vs := [.slice none 0 0, .slice none 0 0]) rfl
    have s2 : storeN 2 (ptrA H.length 0) (.agg #[.slice none 0 0, .slice none 0 0]) H1 = some H2 := s2
    have l2 : loadN 2 (ptrA H.length 0) H2 = some (.agg #[.slice none 0 0, .slice none 0 0]) := b2.loadAll
    rw [show torE z = 2 from if_pos hz, show torN z = [] from if_pos hz, show torD z = [] from if_pos hz]
    have hb : (decide (1 ≤ z) && decide (z ≤ 1000)) = false := by rw [Bool.and_eq_false_iff]; rcases hz with h | h <;> simp <;> omega
    rw [hb] at s0
    simp (disch := omega) only [Try.f29, es_seq, es_region, es_cond, es_ret, ops_nil, ops_cons, st_move, st_assign, st_fun, st_not, bindO_some, bindF_some, bindX_normal, bindX_ret, condX_true, ev_tmp, ev_const, ev_func, putA, upd_at, Option.map_some, ↓reduceIte, Nat.reduceEqDiff, frOf_0, List.map_cons, List.map_nil, Bool.not_false, ↓bindO_some, ↓bindF_some, ↓bindX_normal, ↓bindX_ret, ↓condX_true, fin_r, res_nil, res_tmp, pack_2, scal_vi, sy_build, sy_alloc iR scal_agg, hH1, s0, bR0, sy_storeN zR, s2, res_cell aR zR, l2]
    exact ⟨_, _, _, rfl, O.nil _ _, O.nil _ _, old1.trans old2, wf2⟩
  · rw [show torE z = 0 from if_neg hz, show torN z = _ from if_neg hz, show torD z = _ from if_neg hz]
    have h1 : ¬ z < 1 := fun h => hz (.inl h)
    have h2 : ¬ 1000 < z := fun h => hz (.inr h)
    have hb : (decide (1 ≤ z) && decide (z ≤ 1000)) = true := by simp; omega
    rw [hb] at s0
    have hs := sig_le z z.toNat (by omega)
    have hs2 : sig z z.toNat ≤ 1000000 := by omega
    have s1 := sigma_run (z := z) (by omega) (by omega) H1 n (by omega)
    have old2 := Old.app H1 [.cells H1.length true [vi (sig z z.toNat)]]
    have wf2 := wf1.app (Nat.le_refl H1.length) (o := true) (cs := [vi (sig z z.toNat)])
    have r2 := R.push (H := H1) (f := H1.length) (c := vi (sig z z.toNat))
    generalize hH2 : H1 ++ [Blk.cells H1.length true [vi (sig z z.toNat)]] = H2 at *
    have old3 := Old.app H2 [.cells H2.length true [vi z]]
    have wf3 := wf2.app (Nat.le_refl H2.length) (o := true) (cs := [vi z])
    have r3 := R.push (H := H2) (f := H2.length) (c := vi z)
    generalize hH3 : H2 ++ [Blk.cells H2.length true [vi z]] = H3 at *
    have f1 := few (z := sig z z.toNat) (by omega) (by omega)
    have f2 := few (z := z) (by omega) (by omega)
    have n2 : NumV H3 (sliceA H1.length 0 1 1) (sig z z.toNat) := NumV.one (r2.mono old3) (by omega) (by omega)
    have n3 : NumV H3 (sliceA H2.length 0 1 1) z := NumV.one r3 (by omega) (by omega)
    obtain ⟨u1, u2, H4, s4, q1, q2, old4, wf4⟩ := rrate_run wf3 n2 n3 hs.1 (by omega) (by omega) (by omega) n (by omega)
    have e2 := old2.1
    have e3 := old3.1
    have old14 : Old H1.length H1 H4 := (old2.trans (old3.mono e2)).trans (old4.mono (by omega))
    obtain ⟨H5, s5, b5, old5, wf5, k5⟩ := (b1.mono old14).store wf4 (vs := [u1, u2]) rfl
    have s5 : storeN 2 (ptrA H.length 0) (.agg #[u1, u2]) H4 = some H5 := s5
    have l5 : loadN 2 (ptrA H.length 0) H5 = some (.agg #[u1, u2]) := b5.loadAll
    simp (disch := omega) only [Try.f29, es_seq, es_region, es_cond, es_skip, es_ret, ops_nil, ops_cons, st_move, st_assign, st_fun, st_not, sy_build1 eL oI, bindO_some, bindF_some, bindX_normal, condX_false, ev_tmp, ev_const, ev_func, putA, upd_at, Option.map_some, ↓reduceIte, Nat.reduceEqDiff, frOf_0, List.map_cons, List.map_nil, Bool.not_true, ↓bindO_some, ↓bindF_some, ↓bindX_normal, ↓condX_false, fin_r, res_nil, res_tmp, pack_2, scal_vi, sy_alloc iR scal_agg, hH1, s0, s1, hH2, hH3, s4, sy_storeN zR, s5, res_cell aR zR, l5]
    exact ⟨_, _, _, rfl, (q1.kept (Kept.mono k5 (by omega))).below (by omega), (q2.kept (Kept.mono k5 (by omega))).below (by omega), (old1.trans (old14.mono (by omega))).trans old5, wf5⟩
end Go.Proofs.Ytmmgdgmjkhcfaaa
