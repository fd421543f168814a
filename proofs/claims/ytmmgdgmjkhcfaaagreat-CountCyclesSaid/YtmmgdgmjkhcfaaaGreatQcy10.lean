/- Of the law: texts of its proof, joined (part 10). -/
import Derived.Test.YtmmgdgmjkhcfaaaGreatQcy9
set_option linter.all false
namespace Go.Proofs.YtmmgdgmjkhcfaaaGreat
open Go Go.Abs
theorem uL : Tryz.prog.underlying 22 = some (.slice 3) := by kernel_rfl
theorem eL : sliceElem Tryz.prog 22 = some (3, 1) := by kernel_rfl
theorem aI : isAggT Tryz.prog 3 = some false := by kernel_rfl
theorem zI : sizeT Tryz.prog 3 = some 1 := by kernel_rfl
theorem pI : ((bytesT Tryz.prog 3).isSome && decide ((bytesT Tryz.prog 3).getD 0 ≤ maxA) && (zeros Tryz.prog 3 1 1).isSome) = true := by kernel_rfl
theorem yI : bytesT Tryz.prog 3 = some 8 := by kernel_rfl
theorem oI : zeros Tryz.prog 3 1 1 = some [vi 0] := by kernel_rfl
theorem nI : zeros Tryz.prog 3 1 0 = some [] := by kernel_rfl
theorem ok_fn {f : Nat} {fn : Func} {c : Code} (ho : okN f = true) (hf : Tryz.prog.funcs[f]? = some fn) (hb : fn.body = some c) : funcOk fn c = true := hF f fn c ho hf hb
theorem aL : isAggT Tryz.prog 22 = some false := by kernel_rfl
theorem aB : isAggT Tryz.prog 4 = some false := by kernel_rfl
theorem zL : sizeT Tryz.prog 22 = some 1 := by kernel_rfl
theorem zB : sizeT Tryz.prog 4 = some 1 := by kernel_rfl
theorem nB (x y : Operand) (p q : Bool) : pureVal Tryz.prog (do eqGuard .neq 4 x y (.bool p) (.bool q); binOp .neq 4 (.bool p) (.bool q)) = some (.bool (!(p == q))) := by kernel_rfl
theorem aW : isAggT Tryz.prog 68 = some true := by kernel_rfl
theorem zW : sizeT Tryz.prog 68 = some 2 := by kernel_rfl
theorem fW0 : fieldOff Tryz.prog 68 0 = some 0 := by kernel_rfl
theorem fW1 : fieldOff Tryz.prog 68 1 = some 1 := by kernel_rfl
theorem iW : zeroT Tryz.prog 68 = some (.agg #[.bool false, .slice none 0 0]) := by kernel_rfl
noncomputable def sfs (t : TypeId) : Array Field := match Tryz.prog.underlying t with
  | some (.struct fs) => fs
  | _ => #[]
theorem uW : Tryz.prog.underlying 68 = some (.struct (sfs 68)) := by kernel_rfl
theorem oW : sizesOf Tryz.prog (sfs 68).toList = some [(0, 1), (1, 1)] := by kernel_rfl
theorem bW2 (p : Bool) (v : Value) (h : scal v = some [v]) : buildA Tryz.prog 68 [(0, .bool p), (1, v)] = some (.agg #[.bool p, v]) := by
  have hb : ∀ q : Bool, scal (.bool q) = some [.bool q] := fun _ => rfl
  simp only [buildA, iW, uW, oW, fillL, hb, h]
  rfl
theorem bW1 (v : Value) (h : scal v = some [v]) : buildA Tryz.prog 68 [(1, v)] = some (.agg #[.bool false, v]) := by
  have hb : ∀ q : Bool, scal (.bool q) = some [.bool q] := fun _ => rfl
  simp only [buildA, iW, uW, oW, fillL, hb, h]
  rfl
theorem bW0 : buildA Tryz.prog 68 [] = some (.agg #[.bool false, .slice none 0 0]) := by kernel_rfl
theorem run_ofB {F : Nat} {fv : Value} {args : List Value} {H : Heap} {Q : Option (Value × Heap) → Prop} (h : ∀ n, F ≤ n → Q (evBody Tryz.prog (evB Tryz.prog bC n) n fv args H)) (n : Nat) (hn : F + 1 ≤ n) (hb : bC fv args H = none := by rfl) : Q (evB Tryz.prog bC n fv args H) := by
  obtain ⟨m, rfl⟩ : ∃ m, n = m + 1 := ⟨n - 1, by omega⟩
  have e : evB Tryz.prog bC (m + 1) fv args H = evBody Tryz.prog (evB Tryz.prog bC m) m fv args H := by
    show (match bC fv args H with | some r => some r | none => evBody Tryz.prog (evB Tryz.prog bC m) m fv args H) = _
    rw [hb]
  rw [e]
  exact h m (by omega)
end Go.Proofs.YtmmgdgmjkhcfaaaGreat
namespace Go.Proofs.YtmmgdgmjkhcfaaaGreat
open Go Go.Abs Go.Num
set_option maxRecDepth 10000
attribute [local congr] bindO_congr bindF_congr bindX_congr condX_congr iteB_congr binS_congr pickS_congr
theorem tdiv_pos {z : Int} (h : 0 ≤ z) (b : Int) : z.tdiv b = z / b := Int.tdiv_eq_ediv_of_nonneg h
theorem tmod_pos {z : Int} (h : 0 ≤ z) (b : Int) : z.tmod b = z % b := Int.tmod_eq_emod_of_nonneg h
theorem tdiv_neg' {z : Int} (b : Int) : z.tdiv b = -((-z).tdiv b) := by rw [Int.neg_tdiv]; omega
theorem tmod_neg' {z : Int} (b : Int) : z.tmod b = -((-z).tmod b) := by rw [Int.neg_tmod]; omega
theorem split_run {z : Int} (h1 : -4000000000000000000 ≤ z) (h2 : z ≤ 4000000000000000000) (n : Nat) (H : Heap) (hn : 10 ≤ n) : evB Tryz.prog bC n (.func (.func 64) #[] #[]) [vi z] H = some (.tuple #[vi (z / 100000000), vi (z % 100000000)], H) := by
  refine run_ofB (F := 9) (Q := fun x => x = some (.tuple #[vi (z / 100000000), vi (z % 100000000)], H)) (fun n _ => ?_) n hn
  rw [body_runS Tryz.func64 rfl (ok_fn (by rfl) Tryz.func64 rfl) (Nat.le_of_ble_eq_true rfl) (D := D0) (by kernel_rfl)]
  by_cases hz : 0 ≤ z
  · have e1 : z.tdiv 100000000 = z / 100000000 := tdiv_pos hz _
    have e2 : z.tmod 100000000 = z % 100000000 := tmod_pos hz _
    have h3 : ¬ z % 100000000 < 0 := by omega
    simp (disch := omega) only [Tryz.f64, es_seq, es_region, es_cond, es_skip, es_ret, ops_nil, ops_cons, st_move, st_assign, sy_bin, binS_lss, binS_quo, binS_rem, bindO_some, bindF_some, bindX_normal, condX_false, ev_tmp, ev_const, putA, upd_at, Option.map_some, ↓reduceIte, Nat.reduceEqDiff, frOf_0, decide_false, ↓bindO_some, ↓bindF_some, ↓bindX_normal, ↓condX_false, fin_r, res_nil, res_tmp, pack_2, scal_vi, e1, e2, wr64, h3]
  · have e1 : z.tdiv 100000000 = -((-z) / 100000000) := by rw [tdiv_neg', tdiv_pos (by omega)]
    have e2 : z.tmod 100000000 = -((-z) % 100000000) := by rw [tmod_neg', tmod_pos (by omega)]
    by_cases h3 : -((-z) % 100000000) < 0
    · simp (disch := omega) only [Tryz.f64, es_seq, es_region, es_cond, es_ret, ops_nil, ops_cons, st_move, st_assign, sy_bin, binS_lss, binS_add, binS_sub, binS_quo, binS_rem, bindO_some, bindF_some, bindX_normal, bindX_ret, condX_true, ev_tmp, ev_const, putA, upd_at, Option.map_some, ↓reduceIte, Nat.reduceEqDiff, frOf_0, decide_true, ↓bindO_some, ↓bindF_some, ↓bindX_normal, ↓bindX_ret, ↓condX_true, fin_r, res_nil, res_tmp, pack_2, scal_vi, e1, e2, wr64, h3]
      rw [show -(-z / 100000000) - 1 = z / 100000000 from by omega, show -(-z % 100000000) + 100000000 = z % 100000000 from by omega]
    · simp (disch := omega) only [Tryz.f64, es_seq, es_region, es_cond, es_skip, es_ret, ops_nil, ops_cons, st_move, st_assign, sy_bin, binS_lss, binS_quo, binS_rem, bindO_some, bindF_some, bindX_normal, condX_false, ev_tmp, ev_const, putA, upd_at, Option.map_some, ↓reduceIte, Nat.reduceEqDiff, frOf_0, decide_false, ↓bindO_some, ↓bindF_some, ↓bindX_normal, ↓condX_false, fin_r, res_nil, res_tmp, pack_2, scal_vi, e1, e2, wr64, h3]
      rw [show -(-z / 100000000) = z / 100000000 from by omega, show -(-z % 100000000) = z % 100000000 from by omega]
theorem take_snoc' {l : List Int} {c : Nat} (h : c < l.length) : l.take (c + 1) = l.take c ++ [l.getD c 0] := by
  rw [List.take_succ_eq_append_getElem h]
  simp [List.getD_eq_getElem?_getD, List.getElem?_eq_getElem h]
noncomputable def trimB : Code := atC [1, 1, 0, 0, 0] ((Tryz.f65.body).getD .skip)
theorem trim_loop {H : Heap} {v : Value} {l : List Int} (hv : R H v (ints l)) (call : CallF) (m nt : Nat) {a : Fr} {k : Nat} (hk : l.length < k) (hl : l.length ≤ 1000) (h0 : a 0 = v) (h3 : a 3 = vi l.length) :
    ∃ x a' H', loopN (evS Tryz.prog call m nt none trimB) k a H = some (x, a', H') ∧ x = .exit 0 ∧ H' = H ∧ a' 0 = v ∧ ∃ c : Nat, c ≤ l.length ∧ a' 3 = vi c ∧ l.take c = trimL l := by
  refine loop_wf (fun n a H' => H' = H ∧ a 0 = v ∧ a 3 = vi n ∧ n ≤ l.length ∧ trimL (l.take n) = trimL l) _ ?_ k l.length a H hk ⟨rfl, h0, h3, Nat.le_refl _, by rw [List.take_length]⟩
  intro n a H' ⟨hH, h0, h3, hn, ht⟩
  subst hH
  rw [show trimB = atC [1, 1, 0, 0, 0] ((Tryz.f65.body).getD .skip) from rfl]
  by_cases hz : n = 0
  · subst hz
    right
    have h1 : ¬ (0 : Int) < ((0 : Nat) : Int) := by omega
    simp (disch := omega) only [Tryz.f65, Option.getD_some, atC, es_seq, es_region, es_cond, es_exit, ops_nil, ops_cons, ops_consG, st_move, sy_pick, pickS_false, sy_bin, binS_gtr, bindO_some, bindF_some, bindX_normal, bindX_exit, condX_false, iteB_false, ev_tmp, ev_const, putA, upd_at, ↓reduceIte, Nat.reduceEqDiff, decide_false, yieldO_eq, yO, yV_bool, some_true, List.getElem?_cons_zero, List.getElem?_cons_succ, ↓bindO_some, ↓bindF_some, ↓bindX_normal, ↓bindX_exit, ↓condX_false, ↓iteB_false, h3, h1]
    exact ⟨_, _, _, rfl, by simp, rfl, rfl, by simp only [upd_get, ↓reduceIte, Nat.reduceEqDiff, h0], 0, by omega, by simp only [upd_get, ↓reduceIte, Nat.reduceEqDiff, h3], ht⟩
  · obtain ⟨c, rfl⟩ : ∃ c, n = c + 1 := ⟨n - 1, by omega⟩
    have h1 : (0 : Int) < ((c + 1 : Nat) : Int) := by omega
    have e1 : IntKind.i64.wrap (((c + 1 : Nat) : Int) - 1) = (c : Int) := by rw [wr64 (by omega) (by omega)]; omega
    have hx := take_snoc' (l := l) (c := c) (by omega)
    rw [hx, trimL_snoc] at ht
    by_cases hy : l.getD c 0 = 0
    · left
      rw [if_pos hy] at ht
      simp (disch := omega) only [Tryz.f65, Option.getD_some, atC, es_seq, es_region, es_cond, es_block, es_skip, ops_nil, ops_cons, ops_consG, st_move, st_assign, sy_pick, pickS_true, sy_addr eL, sy_load aI, sy_bin, binS_gtr, binS_eql, binS_sub, bindO_some, bindF_some, bindX_normal, blkX_normal, condX_true, iteB_true, ev_tmp, ev_const, putA, upd_at, Option.map_some, ↓reduceIte, Nat.reduceEqDiff, Int.toNat_natCast, decide_true, yieldO_eq, yO, yV_bool, List.getElem?_cons_zero, List.getElem?_cons_succ, beq_self_eq_true, ↓bindO_some, ↓bindF_some, ↓bindX_normal, ↓condX_true, ↓iteB_true, h0, h3, h1, e1, hv.addrI, hv.loadI, hy]
      exact ⟨_, _, rfl, c, by omega, rfl, by simp only [upd_get, ↓reduceIte, Nat.reduceEqDiff, h0], by simp only [upd_get, ↓reduceIte], by omega, ht⟩
    · right
      rw [if_neg hy] at ht
      simp (disch := omega) only [Tryz.f65, Option.getD_some, atC, es_seq, es_region, es_cond, es_exit, ops_nil, ops_cons, ops_consG, st_move, sy_pick, pickS_true, sy_addr eL, sy_load aI, sy_bin, binS_gtr, binS_eql, binS_sub, bindO_some, bindF_some, bindX_normal, bindX_exit, condX_false, iteB_true, ev_tmp, ev_const, putA, upd_at, Option.map_some, ↓reduceIte, Nat.reduceEqDiff, Int.toNat_natCast, decide_true, decide_false, yieldO_eq, yO, yV_bool, List.getElem?_cons_zero, List.getElem?_cons_succ, beq_self_eq_true, ↓bindO_some, ↓bindF_some, ↓bindX_normal, ↓bindX_exit, ↓condX_false, ↓iteB_true, h0, h3, h1, e1, hv.addrI, hv.loadI, hy]
      exact ⟨_, _, _, rfl, by simp, rfl, rfl, by simp only [upd_get, ↓reduceIte, Nat.reduceEqDiff, h0], c + 1, by omega, by simp only [upd_get, ↓reduceIte, Nat.reduceEqDiff, h3], by rw [hx]; exact ht⟩
def OneL (H : Heap) (r : Option (Value × Heap)) (l : List Int) : Prop := ∃ v' H', r = some (v', H') ∧ O H.length H' v' (ints l) ∧ Old H.length H H' ∧ WF H'
theorem trim_run {H : Heap} {v : Value} {l : List Int} (hw : WF H) (hv : R H v (ints l)) (hl : l.length ≤ 1000) (n : Nat) (hn : 2000 ≤ n) : OneL H (evB Tryz.prog bC n (.func (.func 65) #[] #[]) [v] H) (trimL l) := by
  refine run_ofB (F := 1999) (Q := fun x => OneL H x (trimL l)) (fun n hn => ?_) n hn
  rw [body_runS Tryz.func65 rfl (ok_fn (by rfl) Tryz.func65 rfl) (Nat.le_of_ble_eq_true rfl) (D := D0) (by kernel_rfl)]
  have key := fun (A : Fr) => trim_loop hv (evB Tryz.prog bC n) n Tryz.f65.ntmps (a := A) (k := n) (by omega) hl
  rw [show trimB = atC [1, 1, 0, 0, 0] ((Tryz.f65.body).getD .skip) from rfl] at key
  simp only [Tryz.f65, Option.getD_some, atC] at key
  simp (disch := omega) only [Tryz.f65, es_seq, es_region, es_block, es_loop, es_ret, ops_nil, ops_cons, st_move, st_assign, sy_len uL, sy_append eL pI, sy_build0 eL nI, sy_slice eL, bindO_some, bindF_some, bindX_normal, ev_tmp, ev_const, putA, upd_at, Option.map_some, ↓reduceIte, Nat.reduceEqDiff, frOf_0, ↓bindO_some, ↓bindF_some, ↓bindX_normal, hv.lenI]
  generalize hA : upd _ 3 _ = A
  obtain ⟨x, a', H', e, hx, hH, h0, c, hc, h3, ht⟩ := key A (by subst hA; rfl) (by subst hA; rfl)
  subst hx
  subst hH
  rw [e]
  obtain ⟨v1, e1, r1⟩ := hv.upto hc
  have ho := Old.app H' [.cells H'.length true []]
  obtain ⟨v2, H2, e2, o2, old2, wf2⟩ := (O.empty (H := H') (Nat.le_refl H'.length)).app (hw.app (Nat.le_refl _)) (by simp) (r1.mono ho) (by rw [ints_len, List.length_take]; simp [maxA]; omega)
  simp (disch := omega) only [bindO_some, bindF_some, bindX_normal, blkX_exit, upd_at, Option.map_some, ↓reduceIte, ↓bindO_some, ↓bindF_some, ↓bindX_normal, fin_r, res_nil, res_tmp, pack_1, h0, h3, e1, e2, Option.map_none, (o2.R).scal]
  refine ⟨_, _, rfl, ?_, ho.trans old2, wf2⟩
  rw [← ht]; exact o2
theorem getD_mem {l : List Int} {i : Nat} (h : i < l.length) : l.getD i 0 ∈ l := by
  rw [List.getD_eq_getElem?_getD, List.getElem?_eq_getElem h]; exact List.getElem_mem h
def negI (l : List Int) (i : Nat) : List Int := (l.take i).map (- ·) ++ l.drop i
theorem negI_len (l : List Int) (i : Nat) : (negI l i).length = l.length := by unfold negI; simp; omega
theorem negI_get {l : List Int} {i : Nat} (h : i < l.length) : (negI l i).getD i 0 = l.getD i 0 := by
  unfold negI
  have e : ((l.take i).map (- ·)).length = i := by simp; omega
  rw [List.getD_eq_getElem?_getD, List.getD_eq_getElem?_getD, List.getElem?_append_right (by omega), e, Nat.sub_self, List.getElem?_drop, Nat.add_zero]
theorem negI_set {l : List Int} {i : Nat} (h : i < l.length) : (negI l i).set i (- l.getD i 0) = negI l (i + 1) := by
  unfold negI
  have e : ((l.take i).map (- ·)).length = i := by simp; omega
  rw [List.set_append_right _ _ (by omega), e, Nat.sub_self, take_snoc' h, List.map_append, List.drop_eq_getElem_cons h, List.set_cons_zero]
  simp
theorem negI_all (l : List Int) : negI l l.length = l.map (- ·) := by unfold negI; simp
theorem negI_0 (l : List Int) : negI l 0 = l := by unfold negI; simp
noncomputable def signedB : Code := atC [1, 1, 0, 1, 0, 0] ((Tryz.f66.body).getD .skip)
theorem signed_loop {B0 : Nat} {H0 : Heap} {v : Value} {l : List Int} (call : CallF) (m nt : Nat) {a : Fr} {H : Heap} {k : Nat} (hk : l.length < k) (hl : l.length ≤ 1000) (hb : ∀ x ∈ l, -4000000000000000000 ≤ x ∧ x ≤ 4000000000000000000)
    (ho : O B0 H v (ints l)) (old : Old B0 H0 H) (hw : WF H) (h1 : a 1 = .bool true) (h5 : a 5 = v) (h6 : a 6 = vi (0 : Nat)) :
    ∃ x a' H', loopN (evS Tryz.prog call m nt none signedB) k a H = some (x, a', H') ∧ x = .exit 0 ∧ O B0 H' v (ints (l.map (- ·))) ∧ Old B0 H0 H' ∧ WF H' ∧ a' 5 = v := by
  refine loop_up l.length (fun i a H' => a 1 = .bool true ∧ a 5 = v ∧ a 6 = vi i ∧ O B0 H' v (ints (negI l i)) ∧ Old B0 H0 H' ∧ WF H') _ ?_ ?_ hk ⟨h1, h5, h6, by rw [negI_0]; exact ho, old, hw⟩
  · intro i a H' hi ⟨h1, h5, h6, ho, old, hw⟩
    left
    rw [show signedB = atC [1, 1, 0, 1, 0, 0] ((Tryz.f66.body).getD .skip) from rfl]
    have hlen := negI_len l i
    have hx := hb _ (getD_mem hi)
    have e1 := negI_get hi
    have e2 : IntKind.i64.wrap (0 - l.getD i 0) = - l.getD i 0 := by rw [wr64 (by omega) (by omega)]; omega
    obtain ⟨H2, es, o2, old2, wf2⟩ := ho.setI hw (i := i) (by omega) (- l.getD i 0)
    have e3 : IntKind.i64.wrap ((i : Int) + 1) = ((i + 1 : Nat) : Int) := by rw [wr64 (by omega) (by omega)]; omega
    have hr := ho.R
    have hlt : (i : Int) < l.length := by omega
    simp (disch := omega) only [Tryz.f66, Option.getD_some, atC, es_seq, es_region, es_cond, es_block, es_skip, ops_nil, ops_cons, ops_consG, st_move, st_assign, sy_pick, pickS_true, sy_len uL, sy_addr eL, sy_load aI, sy_store zI, sy_bin, sy_neg, binS_lss, binS_add, bindO_some, bindF_some, bindX_normal, blkX_normal, condX_true, iteB_true, ev_tmp, ev_const, putA, upd_at, Option.map_some, ↓reduceIte, Nat.reduceEqDiff, Int.toNat_natCast, decide_true, yieldO_eq, yO, yV_bool, List.getElem?_cons_zero, List.getElem?_cons_succ, beq_self_eq_true, ↓bindO_some, ↓bindF_some, ↓bindX_normal, ↓condX_true, ↓iteB_true, h1, h5, h6, hr.lenI, hlen, hlt, hr.addrI, hr.loadI, e1, e2, es, e3]
    exact ⟨_, _, rfl, by simp only [upd_get, ↓reduceIte, Nat.reduceEqDiff, h1], by simp only [upd_get, ↓reduceIte, Nat.reduceEqDiff, h5], by simp only [upd_get, ↓reduceIte], by rw [← negI_set hi]; exact o2, old.trans old2, wf2⟩
  · intro a H' ⟨h1, h5, h6, ho, old, hw⟩
    rw [show signedB = atC [1, 1, 0, 1, 0, 0] ((Tryz.f66.body).getD .skip) from rfl]
    have hlen := negI_len l l.length
    have hr := ho.R
    simp (disch := omega) only [Tryz.f66, Option.getD_some, atC, es_seq, es_region, es_cond, es_exit, ops_nil, ops_cons, ops_consG, st_move, sy_pick, pickS_false, sy_len uL, sy_bin, binS_lss, bindO_some, bindF_some, bindX_normal, bindX_exit, condX_false, iteB_false, ev_tmp, ev_const, putA, upd_at, Option.map_some, ↓reduceIte, Nat.reduceEqDiff, decide_false, yieldO_eq, yO, yV_bool, some_true, List.getElem?_cons_zero, List.getElem?_cons_succ, ↓bindO_some, ↓bindF_some, ↓bindX_normal, ↓bindX_exit, ↓condX_false, ↓iteB_false, h5, h6, hr.lenI, hlen, Int.lt_irrefl]
    exact ⟨_, _, _, rfl, by simp, rfl, by rw [← negI_all]; exact ho, old, hw, by simp only [upd_get, ↓reduceIte, Nat.reduceEqDiff, h5]⟩
theorem signed_loop0 {v : Value} (call : CallF) (m nt : Nat) {a : Fr} {H : Heap} {k : Nat} (hk : 0 < k) {l : List Int} (ho : R H v (ints l)) (hl : l.length ≤ 1000) (h1 : a 1 = .bool false) (h5 : a 5 = v) (h6 : a 6 = vi (0 : Nat)) :
    ∃ x a' H', loopN (evS Tryz.prog call m nt none signedB) k a H = some (x, a', H') ∧ x = .exit 0 ∧ H' = H ∧ a' 5 = v := by
  refine loop_up 0 (fun i a H' => a 1 = .bool false ∧ a 5 = v ∧ a 6 = vi (0 : Nat) ∧ H' = H) _ (fun i a H' hi => by omega) ?_ hk ⟨h1, h5, h6, rfl⟩
  intro a H' ⟨h1, h5, h6, hH⟩
  subst hH
  rw [show signedB = atC [1, 1, 0, 1, 0, 0] ((Tryz.f66.body).getD .skip) from rfl]
  by_cases hz : ((0 : Nat) : Int) < l.length
  · simp (disch := omega) only [Tryz.f66, Option.getD_some, atC, es_seq, es_region, es_cond, es_exit, ops_nil, ops_cons, ops_consG, st_move, sy_pick, pickS_true, sy_len uL, sy_bin, binS_lss, bindO_some, bindF_some, bindX_normal, bindX_exit, condX_false, iteB_true, ev_tmp, putA, upd_at, Option.map_some, ↓reduceIte, Nat.reduceEqDiff, decide_true, yieldO_eq, yO, yV_bool, List.getElem?_cons_zero, List.getElem?_cons_succ, beq_self_eq_true, ↓bindO_some, ↓bindF_some, ↓bindX_normal, ↓bindX_exit, ↓condX_false, ↓iteB_true, h1, h5, h6, ho.lenI, hz]
    exact ⟨_, _, _, rfl, by simp, rfl, rfl, by simp only [upd_get, ↓reduceIte, Nat.reduceEqDiff, h5]⟩
  · simp (disch := omega) only [Tryz.f66, Option.getD_some, atC, es_seq, es_region, es_cond, es_exit, ops_nil, ops_cons, ops_consG, st_move, sy_pick, pickS_false, sy_len uL, sy_bin, binS_lss, bindO_some, bindF_some, bindX_normal, bindX_exit, condX_false, iteB_false, ev_tmp, ev_const, putA, upd_at, Option.map_some, ↓reduceIte, Nat.reduceEqDiff, decide_false, yieldO_eq, yO, yV_bool, some_true, List.getElem?_cons_zero, List.getElem?_cons_succ, ↓bindO_some, ↓bindF_some, ↓bindX_normal, ↓bindX_exit, ↓condX_false, ↓iteB_false, h5, h6, ho.lenI, hz]
    exact ⟨_, _, _, rfl, by simp, rfl, rfl, by simp only [upd_get, ↓reduceIte, Nat.reduceEqDiff, h5]⟩
theorem signed_run {H : Heap} {v : Value} {l : List Int} (hw : WF H) (hv : R H v (ints l)) (hl : l.length ≤ 1000) (hb : ∀ x ∈ l, -4000000000000000000 ≤ x ∧ x ≤ 4000000000000000000) (neg : Bool) (n : Nat) (hn : 2001 ≤ n) :
    OneL H (evB Tryz.prog bC n (.func (.func 66) #[] #[]) [v, .bool neg] H) (bif neg then (trimL l).map (- ·) else trimL l) := by
  refine run_ofB (F := 2000) (Q := fun x => OneL H x (bif neg then (trimL l).map (- ·) else trimL l)) (fun n hn => ?_) n hn
  rw [body_runS Tryz.func66 rfl (ok_fn (by rfl) Tryz.func66 rfl) (Nat.le_of_ble_eq_true rfl) (D := D0) (by kernel_rfl)]
  obtain ⟨v1, H1, e1, o1, old1, wf1⟩ := trim_run hw hv hl n (by omega)
  have hl1 := trimL_len l
  have eb : signedB = atC [1, 1, 0, 1, 0, 0] ((Tryz.f66.body).getD .skip) := rfl
  cases neg with
  | true =>
    have key := fun (A : Fr) => signed_loop (evB Tryz.prog bC n) n Tryz.f66.ntmps (a := A) (k := n) (by omega) (by omega) (fun x hx => hb x (trimL_mem hx)) o1 old1 wf1
    rw [eb] at key
    simp only [Tryz.f66, Option.getD_some, atC] at key
    simp (disch := omega) only [Tryz.f66, es_seq, es_region, es_block, es_loop, es_ret, ops_nil, ops_cons, st_move, st_assign, st_fun, bindO_some, bindF_some, bindX_normal, ev_tmp, ev_const, ev_func, putA, upd_at, ↓reduceIte, Nat.reduceEqDiff, frOf_0, List.map_cons, List.map_nil, ↓bindO_some, ↓bindF_some, ↓bindX_normal, e1]
    generalize hA : upd _ 6 _ = A
    obtain ⟨x, a', H', e, hx, o2, old2, wf2, h5⟩ := key A (by subst hA; rfl) (by subst hA; rfl) (by subst hA; rfl)
    subst hx
    rw [e]
    simp (disch := omega) only [bindX_normal, blkX_exit, upd_at, Option.map_some, ↓reduceIte, ↓bindX_normal, fin_r, res_nil, res_tmp, pack_1, h5, o2.R.scal]
    exact ⟨_, _, rfl, o2, old2, wf2⟩
  | false =>
    have key := fun (A : Fr) => signed_loop0 (evB Tryz.prog bC n) n Tryz.f66.ntmps (a := A) (k := n) (by omega) o1.R (by omega)
    rw [eb] at key
    simp only [Tryz.f66, Option.getD_some, atC] at key
    simp (disch := omega) only [Tryz.f66, es_seq, es_region, es_block, es_loop, es_ret, ops_nil, ops_cons, st_move, st_assign, st_fun, bindO_some, bindF_some, bindX_normal, ev_tmp, ev_const, ev_func, putA, upd_at, ↓reduceIte, Nat.reduceEqDiff, frOf_0, List.map_cons, List.map_nil, ↓bindO_some, ↓bindF_some, ↓bindX_normal, e1]
    generalize hA : upd _ 6 _ = A
    obtain ⟨x, a', H', e, hx, hH, h5⟩ := key A (by subst hA; rfl) (by subst hA; rfl) (by subst hA; rfl)
    subst hx
    subst hH
    rw [e]
    simp (disch := omega) only [bindX_normal, blkX_exit, upd_at, Option.map_some, ↓reduceIte, ↓bindX_normal, fin_r, res_nil, res_tmp, pack_1, h5, o1.R.scal]
    exact ⟨_, _, rfl, o1, old1, wf1⟩
end Go.Proofs.YtmmgdgmjkhcfaaaGreat
namespace Go.Proofs.YtmmgdgmjkhcfaaaGreat
open Go Go.Abs Go.Num
theorem setList_all : ∀ (vs cs : List Value) (o : Nat), o + vs.length ≤ cs.length → setList cs o vs = cs.take o ++ vs ++ cs.drop (o + vs.length) := by
  intro vs
  induction vs with
  | nil => intro cs o _; simp [setList]
  | cons v vs ih =>
    intro cs o h
    simp only [List.length_cons] at h
    rw [setList, ih _ _ (by simp; omega)]
    have e1 : (cs.set o v).take (o + 1) = cs.take o ++ [v] := by
      rw [List.take_succ_eq_append_getElem (by simp; omega)]
      simp only [List.getElem_set_self]
      rw [List.take_set, List.set_eq_of_length_le (by rw [List.length_take]; omega)]
    have e2 : (cs.set o v).drop (o + 1 + vs.length) = cs.drop (o + 1 + vs.length) := by
      rw [List.drop_set]; rw [if_pos (by omega)]
    rw [e1, e2]
    simp [Nat.add_assoc, Nat.add_comm 1]
theorem sort_at {B : Nat} {H : Heap} {v : Value} {l : List Int} (h : O B H v (ints l)) (hw : WF H) (hl : l.length < 4611686018427387904) :
    ∃ H', bC (.func (.func 43) #[] #[]) [v, .func (.func 44) #[] #[]] H = some (.tuple #[], H') ∧ O B H' v (ints (fallS l)) ∧ Old B H H' ∧ WF H' := by
  rcases h with ⟨rfl, e⟩ | ⟨b, f, rfl, h1, h2, hb⟩
  · have : l = [] := by simpa [ints] using e
    subst this
    refine ⟨H, ?_, .inl ⟨rfl, by simp [fallS, ints]⟩, Old.refl _ _, hw⟩
    unfold bC
    simp only [if_true]
    rfl
  · have e1 : H.cellsAt b 0 (ints l).length = some (ints l) := by
      unfold Heap.cellsAt
      rw [hb]
      simp
    have e2 : unInts (ints l) = some l := unInts_map l
    have hle : (ints (fallS l)).length = (ints l).length := by rw [ints_len, ints_len, fallS_len]
    have e3 : H.write b 0 (ints (fallS l)) = some ((H.map (truncFam f 0)).set b (.cells f true (ints (fallS l)))) := by
      unfold Heap.write
      rw [hb]
      simp only [Nat.zero_add]
      rw [if_pos (by omega), setList_all _ _ _ (by omega), List.take_zero, List.nil_append, Nat.zero_add, List.drop_of_length_le (by omega), List.append_nil]
    refine ⟨(H.map (truncFam f 0)).set b (.cells f true (ints (fallS l))), ?_, .inr ⟨b, f, by rw [hle], h1, h2, ?_⟩, ?_, ?_⟩
    · unfold bC
      simp only [if_true]
      show (match sortC _ _ fallS _ _ _ with | some r => some r | none => _) = _
      have : sortC 43 44 fallS (.func (.func 43) #[] #[]) [sliceA b 0 (ints l).length 1, .func (.func 44) #[] #[]] H = some (.tuple #[], (H.map (truncFam f 0)).set b (.cells f true (ints (fallS l)))) := by
        simp only [sortC, sliceA]
        rw [if_pos ⟨trivial, trivial, by rw [ints_len]; exact hl, rfl⟩, e1]
        simp only [e2]
        rw [if_pos (fallS_len l)]
        rw [show (fallS l).map (Value.int .i64) = ints (fallS l) from rfl, e3]
        rfl
      rw [this]
    · rw [List.getElem?_set]
      simp [lt_of_blk hb]
    · have h3 := old_trunc hw h2 (k := 0)
      refine ⟨by simp, fun x hx => ?_⟩
      rw [List.getElem?_set, if_neg (by omega), h3.2 x hx]
    · intro b' f' o' cs' hb'
      rw [List.getElem?_set] at hb'
      split at hb'
      · rename_i e
        subst e
        split at hb'
        · injection hb' with hb'; injection hb' with e1 _ _; subst e1; exact hw b f true _ hb
        · cases hb'
      · exact wf_trunc hw b' f' o' cs' hb'
theorem sort_run {B : Nat} {H : Heap} {v : Value} {l : List Int} (h : O B H v (ints l)) (hw : WF H) (hl : l.length < 4611686018427387904) (n : Nat) (hn : 1 ≤ n) :
    ∃ H', evB Tryz.prog bC n (.func (.func 43) #[] #[]) [v, .func (.func 44) #[] #[]] H = some (.tuple #[], H') ∧ O B H' v (ints (fallS l)) ∧ Old B H H' ∧ WF H' := by
  obtain ⟨H', e, h'⟩ := sort_at h hw hl
  obtain ⟨m, rfl⟩ : ∃ m, n = m + 1 := ⟨n - 1, by omega⟩
  refine ⟨H', ?_, h'⟩
  show (match bC _ _ H with | some r => some r | none => evBody Tryz.prog (evB Tryz.prog bC m) m _ _ H) = _
  rw [e]
end Go.Proofs.YtmmgdgmjkhcfaaaGreat
namespace Go.Proofs.YtmmgdgmjkhcfaaaGreat
open Go Go.Abs Go.Num
set_option maxRecDepth 10000
attribute [local congr] bindO_congr bindF_congr bindX_congr condX_congr iteB_congr binS_congr pickS_congr eqB_congr nilS_congr clsW_congr maxS_congr minS_congr
def OneT (H : Heap) (r : Option (Value × Heap)) (f : Value → Value) (l : List Int) : Prop := ∃ v H', r = some (f v, H') ∧ O H.length H' v (ints l) ∧ Old H.length H H' ∧ WF H'
theorem within_runS (x lo hi : Int) (H : Heap) (n : Nat) (hn : 1 ≤ n) : evB Tryz.prog bC n (.func (.func 24) #[] #[]) [vi x, vi lo, vi hi] H = some (.bool (decide (lo ≤ x) && decide (x ≤ hi)), H) := by
  refine run_ofB (F := 0) (Q := fun r => r = some (.bool (decide (lo ≤ x) && decide (x ≤ hi)), H)) (fun n hn => ?_) n hn
  rw [body_runS Tryz.func24 rfl (ok_fn (by rfl) Tryz.func24 rfl) (Nat.le_of_ble_eq_true rfl) (D := D0) (by kernel_rfl)]
  by_cases h1 : lo ≤ x
  all_goals by_cases h2 : x ≤ hi
  all_goals simp (disch := omega) only [Tryz.f24, es_seq, es_region, es_ret, ops_nil, ops_cons, ops_consG, st_move, st_assign, sy_pick, pickS_true, pickS_false, sy_bin, binS_leq, binS_geq, bindO_some, bindF_some, bindX_normal, iteB_true, iteB_false, ev_tmp, ev_const, putA, upd_at, Option.map_some, ↓reduceIte, Nat.reduceEqDiff, frOf_0, frOf_1, frOf_2, decide_true, decide_false, yieldO_eq, yO, yV_bool, some_true, List.getElem?_cons_zero, List.getElem?_cons_succ, beq_self_eq_true, ↓bindO_some, ↓bindF_some, ↓bindX_normal, ↓iteB_true, ↓iteB_false, fin_r, res_nil, res_tmp, pack_1, scal_bool, h1, h2, Bool.and_self, Bool.and_false, Bool.and_true]
noncomputable def intA : Code := atC [1, 1, 0, 1, 0, 0] ((Tryz.f10.body).getD .skip)
theorem take_eq_succ {l m : List Int} {i : Nat} (h1 : i < l.length) (h2 : i < m.length) : l.take (i + 1) = m.take (i + 1) ↔ l.take i = m.take i ∧ l.getD i 0 = m.getD i 0 := by
  rw [take_snoc' h1, take_snoc' h2]
  constructor
  · intro h
    have := List.append_inj h (by rw [List.length_take, List.length_take]; omega)
    exact ⟨this.1, by simpa using this.2⟩
  · intro ⟨h3, h4⟩; rw [h3, h4]
theorem ints_run {H : Heap} {va vb : Value} {l m : List Int} (ha : R H va (ints l)) (hb : R H vb (ints m)) (ll : l.length ≤ 10000) (lm : m.length ≤ 10000) (n : Nat) (hn : 10002 ≤ n) :
    evB Tryz.prog bC n (.func (.func 10) #[] #[]) [va, vb] H = some (.bool (decide (l = m)), H) := by
  refine run_ofB (F := 10001) (Q := fun r => r = some (.bool (decide (l = m)), H)) (fun n hn => ?_) n hn
  rw [body_runS Tryz.func10 rfl (ok_fn (by rfl) Tryz.func10 rfl) (Nat.le_of_ble_eq_true rfl) (D := D0) (by kernel_rfl)]
  by_cases hl : l.length = m.length
  · have c1 : (l.length : Int) = (m.length : Int) := by omega
    have key : ∀ A : Fr, A 0 = va → A 1 = vb → A 5 = vi (0 : Nat) → ∃ r a' H', loopN (evS Tryz.prog (evB Tryz.prog bC n) n Tryz.f10.ntmps none intA) n A H = some (r, a', H') ∧ H' = H ∧ ((r = .exit 0 ∧ l = m) ∨ (r = .ret ∧ a' 4 = .bool false ∧ l ≠ m)) := by
      intro A h0 h1 h5
      refine loop_up l.length (fun i a H' => H' = H ∧ a 0 = va ∧ a 1 = vb ∧ a 5 = vi i ∧ l.take i = m.take i) _ ?_ ?_ (by omega) ⟨rfl, h0, h1, h5, rfl⟩
      · intro i a H' hi ⟨hH, h0, h1, h5, ht⟩
        subst hH
        rw [show intA = atC [1, 1, 0, 1, 0, 0] ((Tryz.f10.body).getD .skip) from rfl]
        have hlt : (i : Int) < l.length := by omega
        have e1 : IntKind.i64.wrap ((i : Int) + 1) = ((i + 1 : Nat) : Int) := by rw [wr64 (by omega) (by omega)]; omega
        by_cases he : l.getD i 0 = m.getD i 0
        · left
          simp (disch := omega) only [Tryz.f10, Option.getD_some, atC, es_seq, es_region, es_draw, d0, es_cond, es_block, es_skip, ops_nil, ops_cons, opsV_nil, opsV_cons, st_move, st_assign, sy_len uL, sy_addr eL, sy_load aI, sy_bin, binS_lss, binS_neq, binS_add, bindO_some, bindF_some, bindX_normal, blkX_normal, condX_true, condX_false, iteB_true, iteB_false, ev_tmp, ev_const, putA, upd_at, Option.map_some, ↓reduceIte, Nat.reduceEqDiff, Int.toNat_natCast, decide_true, Bool.not_true, ↓bindO_some, ↓bindF_some, ↓bindX_normal, ↓condX_true, ↓condX_false, ↓iteB_true, ↓iteB_false, reflV_load, reflV_move, reflV_bin, reflV_addr, vEq_vi, h0, h1, h5, ha.lenI, hlt, ha.addrI, ha.loadI, hb.addrI, hb.loadI, he, e1]
          exact ⟨_, _, rfl, rfl, h0, h1, rfl, (take_eq_succ hi (by omega)).2 ⟨ht, he⟩⟩
        · right
          simp (disch := omega) only [Tryz.f10, Option.getD_some, atC, es_seq, es_region, es_draw, d0, es_cond, es_block, es_skip, es_ret, ops_nil, ops_cons, opsV_nil, opsV_cons, st_move, st_assign, sy_len uL, sy_addr eL, sy_load aI, sy_bin, binS_lss, binS_neq, bindO_some, bindF_some, bindX_normal, bindX_ret, blkX_ret, condX_true, iteB_true, iteB_false, ev_tmp, ev_const, putA, upd_at, Option.map_some, ↓reduceIte, Nat.reduceEqDiff, Int.toNat_natCast, decide_true, decide_false, Bool.not_false, ↓bindO_some, ↓bindF_some, ↓bindX_normal, ↓bindX_ret, ↓condX_true, ↓iteB_true, ↓iteB_false, reflV_load, reflV_move, reflV_bin, reflV_addr, vEq_vi, h0, h1, h5, ha.lenI, hlt, ha.addrI, ha.loadI, hb.addrI, hb.loadI, he]
          refine ⟨_, _, _, rfl, by simp, rfl, .inr ⟨rfl, rfl, fun h => he (by rw [h])⟩⟩
      · intro a H' ⟨hH, h0, h1, h5, ht⟩
        subst hH
        rw [show intA = atC [1, 1, 0, 1, 0, 0] ((Tryz.f10.body).getD .skip) from rfl]
        simp (disch := omega) only [Tryz.f10, Option.getD_some, atC, es_seq, es_region, es_cond, es_exit, ops_nil, ops_cons, st_move, sy_len uL, sy_bin, binS_lss, bindO_some, bindF_some, bindX_normal, bindX_exit, condX_false, ev_tmp, putA, upd_at, Option.map_some, ↓reduceIte, Nat.reduceEqDiff, decide_false, ↓bindO_some, ↓bindF_some, ↓bindX_normal, ↓bindX_exit, ↓condX_false, h0, h5, ha.lenI, Int.lt_irrefl]
        rw [List.take_length, hl, List.take_length] at ht
        exact ⟨_, _, _, rfl, by simp, rfl, .inl ⟨rfl, ht⟩⟩
    rw [show intA = atC [1, 1, 0, 1, 0, 0] ((Tryz.f10.body).getD .skip) from rfl] at key
    simp only [Tryz.f10, Option.getD_some, atC] at key
    simp (disch := omega) only [Tryz.f10, es_seq, es_region, es_cond, es_block, es_loop, es_skip, es_ret, ops_nil, ops_cons, st_move, st_assign, sy_len uL, sy_bin, binS_neq, bindO_some, bindF_some, bindX_normal, condX_false, ev_tmp, ev_const, putA, upd_at, Option.map_some, ↓reduceIte, Nat.reduceEqDiff, frOf_0, frOf_1, decide_true, Bool.not_true, ↓bindO_some, ↓bindF_some, ↓bindX_normal, ↓condX_false, ha.lenI, hb.lenI, c1]
    generalize hA : upd _ 5 _ = A
    obtain ⟨r, a', H', e, hH, h⟩ := key A (by subst hA; rfl) (by subst hA; rfl) (by subst hA; rfl)
    subst hH
    rw [e]
    rcases h with ⟨rfl, rfl⟩ | ⟨rfl, h4, hne⟩
    · simp (disch := omega) only [bindX_normal, blkX_exit, upd_at, Option.map_some, ↓reduceIte, decide_true, ↓bindX_normal, fin_r, res_nil, res_tmp, pack_1, scal_bool]
    · rw [decide_eq_false hne]
      simp (disch := omega) only [bindX_ret, blkX_ret, Option.map_some, ↓bindX_ret, fin_r, res_nil, res_tmp, pack_1, scal_bool, h4]
  · have c1 : ¬ (l.length : Int) = (m.length : Int) := by omega
    rw [decide_eq_false (fun h => hl (by rw [h]))]
    simp (disch := omega) only [Tryz.f10, es_seq, es_region, es_cond, es_ret, ops_nil, ops_cons, st_move, st_assign, sy_len uL, sy_bin, binS_neq, bindO_some, bindF_some, bindX_normal, bindX_ret, condX_true, ev_tmp, ev_const, putA, upd_at, Option.map_some, ↓reduceIte, Nat.reduceEqDiff, frOf_0, frOf_1, decide_false, Bool.not_false, ↓bindO_some, ↓bindF_some, ↓bindX_normal, ↓bindX_ret, ↓condX_true, fin_r, res_nil, res_tmp, pack_1, scal_bool, ha.lenI, hb.lenI, c1]
end Go.Proofs.YtmmgdgmjkhcfaaaGreat
namespace Go.Proofs.YtmmgdgmjkhcfaaaGreat
open Go Go.Abs Go.Num
set_option maxRecDepth 10000
attribute [local congr] bindO_congr bindF_congr bindX_congr condX_congr iteB_congr binS_congr pickS_congr eqB_congr nilS_congr clsW_congr maxS_congr minS_congr
theorem eBl : sliceElem Tryz.prog 42 = some (4, 1) := by kernel_rfl
theorem yB : bytesT Tryz.prog 4 = some 1 := by kernel_rfl
def bools (l : List Bool) : List Value := l.map .bool
theorem bools_len (l : List Bool) : (bools l).length = l.length := by unfold bools; simp
theorem bools_set (l : List Bool) (i : Nat) (x : Bool) : (bools l).set i (.bool x) = bools (l.set i x) := by unfold bools; rw [List.map_set]
theorem bools_get {l : List Bool} {i : Nat} (h : i < l.length) : (bools l)[i]? = some (.bool (l.getD i true)) := by
  unfold bools
  rw [List.getElem?_map, List.getD_eq_getElem?_getD, List.getElem?_eq_getElem h]; rfl
theorem zeros_B (n : Nat) : zeros Tryz.prog 4 1 n = some (bools (List.replicate n false)) := by
  have h : ∀ n : Nat, repl n [.bool false] = bools (List.replicate n false) := by
    intro n
    induction n with
    | zero => rfl
    | succ n ih => rw [repl, ih, List.replicate_succ]; rfl
  have e : zeros Tryz.prog 4 1 n = some (repl n [.bool false]) := by
    have h0 : zeroT Tryz.prog 4 = some (.bool false) := by kernel_rfl
    unfold zeros
    rw [h0]
    rfl
  rw [e, h]
theorem om_bools {H : Heap} (s : List Bool) : OM H.length (H.length + 1) (H ++ [.cells H.length true (bools s)]) (sliceA H.length 0 s.length 1) (bools s) :=
  .inr ⟨H.length, H.length, by rw [bools_len], Nat.le_refl _, Nat.le_refl _, Nat.lt_succ_self _, Nat.lt_succ_self _, by simp⟩
theorem bools_at {H : Heap} {v : Value} {s : List Bool} (h : R H v (bools s)) {k : Nat} (hk : k < s.length) : addrS 1 v (vi (k : Int)) = some (pt v k) ∧ loadS (pt v k) H = some (.bool (s.getD k true)) :=
  ⟨h.addr (by omega) (by rw [bools_len]; omega), by rw [h.load (by rw [bools_len]; omega), bools_get hk]⟩
def inR (f : List Int) : Prop := ∀ i, i < f.length → 0 ≤ f.getD i 0 ∧ f.getD i 0 < f.length
theorem walkC_true {f : List Int} {m k : Nat} {s : List Bool} (h : s.getD k true = true) : walkC f m k s = (0, s) := by
  cases m with
  | zero => rfl
  | succ m => unfold walkC; rw [if_pos h]
noncomputable def cyB : Code := atC [1,1,1,0,1,0,0,1,1,0,0,1,1,0,1,0,0] ((Tryz.f23.body).getD .skip)
theorem cy_in {H : Heap} {v v3 w : Value} {f : List Int} (hv : R H v (ints f)) (hf : inR f) (hl : f.length ≤ 1000) {l : List Int} {i n : Nat} (hn : 1010 ≤ n) {s0 : List Bool} (hs0 : s0.length = f.length) (hi : i < f.length) {A : Fr} {H1 : Heap}
    (h0 : A 0 = v) (h3 : A 3 = v3) (h4 : A 4 = w) (h6 : A 6 = vi 0) (h7 : A 7 = vi i) (h12 : A 12 = vi f.length) (h13 : A 13 = vi i) (wf : WF H1) (old : Old H.length H H1) (om : OM H.length (H.length + 1) H1 v3 (bools s0)) (o : O (H.length + 1) H1 w (ints l)) :
    ∃ r a' H2, loopN (evS Tryz.prog (evB Tryz.prog bC n) n Tryz.f23.ntmps none cyB) n A H1 = some (r, a', H2) ∧ r = .exit 2 ∧ a' 0 = v ∧ a' 3 = v3 ∧ a' 4 = w ∧ a' 6 = vi (walkC f f.length i s0).1 ∧ a' 12 = vi f.length ∧ a' 13 = vi i ∧ WF H2 ∧ Old H.length H H2 ∧ OM H.length (H.length + 1) H2 v3 (bools (walkC f f.length i s0).2) ∧ O (H.length + 1) H2 w (ints l) := by
  refine loop_wf (fun m a H' => ∃ (k c : Nat) (s : List Bool), a 0 = v ∧ a 3 = v3 ∧ a 4 = w ∧ a 6 = vi c ∧ a 7 = vi k ∧ a 12 = vi f.length ∧ a 13 = vi i ∧ k < f.length ∧ s.length = f.length ∧ s.count false ≤ m ∧ c + m ≤ f.length ∧ c + (walkC f m k s).1 = (walkC f f.length i s0).1 ∧ (walkC f m k s).2 = (walkC f f.length i s0).2 ∧ WF H' ∧ Old H.length H H' ∧ OM H.length (H.length + 1) H' v3 (bools s) ∧ O (H.length + 1) H' w (ints l)) _ ?_ n f.length A H1 (by omega) ⟨i, 0, s0, h0, h3, h4, h6, h7, h12, h13, hi, hs0, by rw [← hs0]; exact List.count_le_length, by omega, by omega, rfl, wf, old, om, o⟩
  intro m a H' ⟨k, c, s, h0, h3, h4, h6, h7, h12, h13, hk, hs, hcnt, hcm, hN, hS, wf, old, om, o⟩
  have hvR := hv.mono old
  obtain ⟨au, lu⟩ := bools_at om.O.R (k := k) (by omega)
  rw [show cyB = atC [1,1,1,0,1,0,0,1,1,0,0,1,1,0,1,0,0] ((Tryz.f23.body).getD .skip) from rfl]
  cases hu : s.getD k true with
  | true =>
    right
    rw [hu] at lu
    rw [walkC_true hu] at hN hS
    simp (disch := omega) only [Tryz.f23, Option.getD_some, atC, es_seq, es_region, es_cond, es_exit, ops_nil, ops_cons, st_move, st_not, bindO_some, bindF_some, bindX_normal, bindX_exit, condX_false, ev_tmp, putA, upd_at, Option.map_some, ↓reduceIte, Nat.reduceEqDiff, Bool.not_true, ↓bindO_some, ↓bindF_some, ↓bindX_normal, ↓bindX_exit, ↓condX_false, sy_addr eBl, sy_load aB, h3, h7, au, lu]
    refine ⟨_, _, _, rfl, by simp, rfl, h0, h3, h4, ?_, h12, h13, wf, old, ?_, o⟩
    · show a 6 = _
      rw [h6, ← hN]; rfl
    · rw [← hS]; exact om
  | false =>
    left
    rw [hu] at lu
    have hsk : s[k]? = some false := by
      rw [List.getD_eq_getElem?_getD, List.getElem?_eq_getElem (by omega)] at hu
      rw [List.getElem?_eq_getElem (by omega)]
      exact congrArg some hu
    cases m with
    | zero =>
      have := count_zero s (by omega) k (by omega)
      rw [hsk] at this; cases this
    | succ m =>
      obtain ⟨H2, es, om2, old2, wf2, k2⟩ := om.set wf (i := k) (by rw [bools_len]; omega) (c := .bool true) rfl
      rw [bools_set] at om2
      have hvR2 := hv.mono (old.trans old2)
      have hf1 := hf k hk
      have e1 : IntKind.i64.wrap ((c : Int) + 1) = ((c + 1 : Nat) : Int) := by rw [wr64 (by omega) (by omega)]; omega
      have hcs := count_set_true s k hsk
      have hw : walkC f (m + 1) k s = ((walkC f m (f.getD k 0).toNat (s.set k true)).1 + 1, (walkC f m (f.getD k 0).toNat (s.set k true)).2) := by
        conv => lhs; unfold walkC
        rw [if_neg (by rw [hu]; simp)]
      rw [hw] at hN hS
      simp only at hN hS
      simp (disch := omega) only [Tryz.f23, Option.getD_some, atC, es_seq, es_region, es_cond, es_block, es_skip, ops_nil, ops_cons, st_move, st_assign, sy_addr eL, sy_load aI, sy_bin, st_not, binS_add, bindO_some, bindF_some, bindX_normal, blkX_normal, condX_true, ev_tmp, ev_const, putA, upd_at, Option.map_some, ↓reduceIte, Nat.reduceEqDiff, Int.toNat_natCast, Bool.not_false, ↓bindO_some, ↓bindF_some, ↓bindX_normal, ↓condX_true, sy_addr eBl, sy_load aB, sy_store zB, h0, h3, h6, h7, au, lu, es, e1, hvR2.addrI, hvR2.loadI]
      refine ⟨_, _, rfl, m, Nat.lt_succ_self m, (f.getD k 0).toNat, c + 1, s.set k true, h0, h3, h4, rfl, ?_, h12, h13, by omega, by rw [List.length_set]; exact hs, by omega, by omega, by omega, hS, wf2, old.trans old2, om2, k2 _ _ o⟩
      show vi _ = vi _
      rw [Int.toNat_of_nonneg hf1.1]
noncomputable def cyA : Code := atC [1,1,1,0,1,0,0] ((Tryz.f23.body).getD .skip)
theorem cy_out {H : Heap} {v v3 : Value} {f : List Int} (hv : R H v (ints f)) (hf : inR f) (hl : f.length ≤ 1000) {n : Nat} (hn : 1010 ≤ n) {A : Fr} {H1 : Heap}
    (h0 : A 0 = v) (h3 : A 3 = v3) (h4 : A 4 = .slice none 0 0) (h12 : A 12 = vi f.length) (h13 : A 13 = vi (0 : Nat)) (wf : WF H1) (old : Old H.length H H1) (hB : H.length + 1 ≤ H1.length) (om : OM H.length (H.length + 1) H1 v3 (bools (List.replicate f.length false))) :
    ∃ r a' H2, loopN (evS Tryz.prog (evB Tryz.prog bC n) n Tryz.f23.ntmps none cyA) n A H1 = some (r, a', H2) ∧ r = .exit 0 ∧ ∃ w, a' 4 = w ∧ WF H2 ∧ Old H.length H H2 ∧ H.length + 1 ≤ H2.length ∧ O (H.length + 1) H2 w (ints (cycL f)) := by
  refine loop_up f.length (fun i a H' => a 0 = v ∧ a 3 = v3 ∧ a 12 = vi f.length ∧ a 13 = vi i ∧ WF H' ∧ Old H.length H H' ∧ H.length + 1 ≤ H'.length ∧ OM H.length (H.length + 1) H' v3 (bools (cycSt f i).1) ∧ ∃ w, a 4 = w ∧ O (H.length + 1) H' w (ints (cycSt f i).2)) _ ?_ ?_ (by omega) ⟨h0, h3, h12, h13, wf, old, hB, om, _, h4, O.nil _ _⟩
  · intro i a H' hi ⟨h0, h3, h12, h13, wf, old, hB, om, w, h4, o⟩
    left
    have hlt : (i : Int) < f.length := by omega
    have e1 : IntKind.i64.wrap ((i : Int) + 1) = ((i + 1 : Nat) : Int) := by rw [wr64 (by omega) (by omega)]; omega
    have key := @cy_in H v v3 w f hv hf hl (cycSt f i).2 i n hn (cycSt f i).1 (cycSt_len f i) hi
    rw [show cyB = atC [1,1,1,0,1,0,0,1,1,0,0,1,1,0,1,0,0] ((Tryz.f23.body).getD .skip) from rfl] at key
    simp only [Tryz.f23, Option.getD_some, atC] at key
    rw [show cyA = atC [1,1,1,0,1,0,0] ((Tryz.f23.body).getD .skip) from rfl]
    simp (disch := omega) only [Tryz.f23, Option.getD_some, atC, es_seq, es_region, es_cond, es_block, es_loop, es_skip, ops_nil, ops_cons, st_move, st_assign, sy_bin, sy_append eL pI, sy_build1 eL oI, binS_lss, bindO_some, bindF_some, bindX_normal, condX_true, ev_tmp, ev_const, putA, upd_at, ↓reduceIte, Nat.reduceEqDiff, decide_true, ↓bindO_some, ↓bindF_some, ↓bindX_normal, ↓condX_true, h12, h13, hlt]
    generalize hA : upd _ 7 _ = A2
    obtain ⟨r, a2, H2, e, hr, g0, g3, g4, g6, g12, g13, wf2, old2, om2, o2⟩ := @key A2 H' (by subst hA; exact h0) (by subst hA; exact h3) (by subst hA; exact h4) (by subst hA; rfl) (by subst hA; rfl) (by subst hA; exact h12) (by subst hA; exact h13) wf old om o
    subst hr
    rw [e]
    by_cases hN : 0 < (walkC f f.length i (cycSt f i).1).1
    · have c1 : (0 : Int) < ((walkC f f.length i (cycSt f i).1).1 : Nat) := by omega
      have hle := cycSt_out f i
      have hlen2 : H.length + 1 ≤ H2.length := by
        rcases om2 with ⟨e, he⟩ | ⟨b, g, e, _, _, _, _, hb⟩
        · have := congrArg List.length he
          rw [bools_len, walkC_len, cycSt_len] at this
          have h0 : f.length = 0 := this
          omega
        · have := lt_of_blk hb; omega
      obtain ⟨w3, H3, s3, o3, old3, wf3⟩ := o2.pushI wf2 hlen2 (by unfold maxA; omega) ((walkC f f.length i (cycSt f i).1).1 : Int)
      simp (disch := omega) only [binS_gtr, binS_add, bindO_some, bindF_some, bindX_normal, blkX_normal, blkX_exit, condX_true, upd_at, ↓reduceIte, Nat.reduceEqDiff, decide_true, ↓bindO_some, ↓bindF_some, ↓bindX_normal, ↓condX_true, scal_vi, g4, g6, g13, c1, s3, e1]
      refine ⟨_, _, rfl, g0, g3, g12, rfl, wf3, old2.trans (old3.mono (Nat.le_succ _)), by have := old3.1; omega, ?_, w3, rfl, ?_⟩
      · simp only [cycSt]; exact om2.mono old3
      · simp only [cycSt]; rw [if_pos hN]; exact o3
    · have c1 : ¬ (0 : Int) < ((walkC f f.length i (cycSt f i).1).1 : Nat) := by omega
      have hlen2 : H.length + 1 ≤ H2.length := by
        rcases om2 with ⟨e, he⟩ | ⟨b, g, e, _, _, _, _, hb⟩
        · have := congrArg List.length he
          rw [bools_len, walkC_len, cycSt_len] at this
          have h0 : f.length = 0 := this
          omega
        · have := lt_of_blk hb; omega
      simp (disch := omega) only [binS_gtr, binS_add, bindO_some, bindF_some, bindX_normal, blkX_normal, blkX_exit, condX_false, upd_at, ↓reduceIte, Nat.reduceEqDiff, decide_false, ↓bindO_some, ↓bindF_some, ↓bindX_normal, ↓condX_false, g6, g13, c1, e1]
      refine ⟨_, _, rfl, g0, g3, g12, rfl, wf2, old2, hlen2, ?_, w, g4, ?_⟩
      · simp only [cycSt]; exact om2
      · simp only [cycSt]; rw [if_neg hN]; exact o2
  · intro a H' ⟨h0, h3, h12, h13, wf, old, hB, om, w, h4, o⟩
    rw [show cyA = atC [1,1,1,0,1,0,0] ((Tryz.f23.body).getD .skip) from rfl]
    simp (disch := omega) only [Tryz.f23, Option.getD_some, atC, es_seq, es_region, es_cond, es_exit, ops_nil, ops_cons, sy_bin, binS_lss, bindO_some, bindF_some, bindX_normal, bindX_exit, condX_false, ev_tmp, putA, upd_at, ↓reduceIte, decide_false, ↓bindO_some, ↓bindF_some, ↓bindX_normal, ↓bindX_exit, ↓condX_false, h12, h13, Int.lt_irrefl]
    exact ⟨_, _, _, rfl, by simp, rfl, w, h4, wf, old, hB, o⟩
theorem cycles_run {H : Heap} {v : Value} {f : List Int} (hw : WF H) (hv : R H v (ints f)) (hf : inR f) (hl : f.length ≤ 1000) (n : Nat) (hn : 1011 ≤ n) :
    OneL H (evB Tryz.prog bC n (.func (.func 23) #[] #[]) [v] H) (fallS (cycL f)) := by
  refine run_ofB (F := 1010) (Q := fun r => OneL H r (fallS (cycL f))) (fun n hn => ?_) n hn
  rw [body_runS Tryz.func23 rfl (ok_fn (by rfl) Tryz.func23 rfl) (Nat.le_of_ble_eq_true rfl) (D := D0) (by kernel_rfl)]
  have c1 : (f.length : Int) ≤ 1048576 := by omega
  have hz := zeros_B f.length
  have wf1 := hw.app (Nat.le_refl H.length) (o := true) (cs := bools (List.replicate f.length false))
  have old1 := Old.app H [.cells H.length true (bools (List.replicate f.length false))]
  have om1 := om_bools (H := H) (List.replicate f.length false)
  rw [List.length_replicate] at om1
  have hB1 : H.length + 1 ≤ (H ++ [Blk.cells H.length true (bools (List.replicate f.length false))]).length := by simp
  generalize hH1 : H ++ [Blk.cells H.length true (bools (List.replicate f.length false))] = H1 at *
  have key := @cy_out H v (sliceA H.length 0 f.length 1) f hv hf hl n hn
  rw [show cyA = atC [1,1,1,0,1,0,0] ((Tryz.f23.body).getD .skip) from rfl] at key
  simp only [Tryz.f23, Option.getD_some, atC] at key
  simp (disch := omega) only [Tryz.f23, es_seq, es_region, es_block, es_loop, es_ret, ops_nil, ops_cons, st_move, st_assign, st_fun, sy_len uL, bindO_some, bindF_some, bindX_normal, ev_tmp, ev_const, ev_func, putA, upd_at, Option.map_some, ↓reduceIte, Nat.reduceEqDiff, Int.toNat_natCast, Int.natCast_nonneg, frOf_0, List.map_cons, List.map_nil, ↓bindO_some, ↓bindF_some, ↓bindX_normal, hv.lenI, sy_make eBl yB (by decide), c1, Int.le_refl, and_self, hz, hH1]
  generalize hA : upd _ 13 _ = A
  obtain ⟨r, a', H2, e, hr, w, h4, wf2, old2, hB2, o2⟩ := @key A H1 (by subst hA; rfl) (by subst hA; rfl) (by subst hA; rfl) (by subst hA; rfl) (by subst hA; rfl) wf1 old1 hB1 om1
  subst hr
  rw [e]
  have hcl : (cycL f).length < 4611686018427387904 := by have := cycSt_out f f.length; unfold cycL; omega
  obtain ⟨H3, s3, o3, old3, wf3⟩ := sort_run o2 wf2 hcl n (by omega)
  simp (disch := omega) only [bindO_some, bindF_some, bindX_normal, blkX_exit, upd_at, Option.map_some, ↓reduceIte, Nat.reduceEqDiff, ↓bindO_some, ↓bindF_some, ↓bindX_normal, fin_r, res_nil, res_tmp, pack_1, h4, s3, o3.R.scal]
  exact ⟨_, _, rfl, o3.below (Nat.le_succ _), old2.trans (old3.mono (Nat.le_succ _)), wf3⟩
end Go.Proofs.YtmmgdgmjkhcfaaaGreat
namespace Go.Proofs.YtmmgdgmjkhcfaaaGreat
open Go Go.Abs Go.Num
set_option maxRecDepth 10000
attribute [local congr] bindO_congr bindF_congr bindX_congr condX_congr iteB_congr binS_congr pickS_congr eqB_congr nilS_congr clsW_congr maxS_congr minS_congr
noncomputable def rcB : Code := atC [1,1,1,0,1,0,0,1,0,0,1,0,1,0,0] ((Tryz.f14.body).getD .skip)
theorem rc_in {H : Heap} {v v3 w : Value} {f : List Int} (hv : R H v (ints f)) (hf : inR f) (hl : f.length ≤ 1000) {l : List Int} {i n : Nat} (hn : 1010 ≤ n) {s0 : List Bool} (hs0 : s0.length = f.length) (hi : i < f.length) {A : Fr} {H1 : Heap}
    (h0 : A 0 = v) (h3 : A 3 = v3) (h4 : A 4 = w) (h5 : A 5 = vi i) (h6 : A 6 = vi 0) (h7 : A 7 = vi i) (wf : WF H1) (old : Old H.length H H1) (om : OM H.length (H.length + 1) H1 v3 (bools s0)) (o : O (H.length + 1) H1 w (ints l)) :
    ∃ r a' H2, loopN (evS Tryz.prog (evB Tryz.prog bC n) n Tryz.f14.ntmps none rcB) n A H1 = some (r, a', H2) ∧ r = .exit 2 ∧ a' 0 = v ∧ a' 3 = v3 ∧ a' 4 = w ∧ a' 5 = vi i ∧ a' 6 = vi (walkC f f.length i s0).1 ∧ WF H2 ∧ Old H.length H H2 ∧ OM H.length (H.length + 1) H2 v3 (bools (walkC f f.length i s0).2) ∧ O (H.length + 1) H2 w (ints l) := by
  refine loop_wf (fun m a H' => ∃ (k c : Nat) (s : List Bool), a 0 = v ∧ a 3 = v3 ∧ a 4 = w ∧ a 5 = vi i ∧ a 6 = vi c ∧ a 7 = vi k ∧ k < f.length ∧ s.length = f.length ∧ s.count false ≤ m ∧ c + m ≤ f.length ∧ c + (walkC f m k s).1 = (walkC f f.length i s0).1 ∧ (walkC f m k s).2 = (walkC f f.length i s0).2 ∧ WF H' ∧ Old H.length H H' ∧ OM H.length (H.length + 1) H' v3 (bools s) ∧ O (H.length + 1) H' w (ints l)) _ ?_ n f.length A H1 (by omega) ⟨i, 0, s0, h0, h3, h4, h5, h6, h7, hi, hs0, by rw [← hs0]; exact List.count_le_length, by omega, by omega, rfl, wf, old, om, o⟩
  intro m a H' ⟨k, c, s, h0, h3, h4, h5, h6, h7, hk, hs, hcnt, hcm, hN, hS, wf, old, om, o⟩
  have hvR := hv.mono old
  obtain ⟨au, lu⟩ := bools_at om.O.R (k := k) (by omega)
  rw [show rcB = atC [1,1,1,0,1,0,0,1,0,0,1,0,1,0,0] ((Tryz.f14.body).getD .skip) from rfl]
  cases hu : s.getD k true with
  | true =>
    right
    rw [hu] at lu
    rw [walkC_true hu] at hN hS
    simp (disch := omega) only [Tryz.f14, Option.getD_some, atC, es_seq, es_region, es_cond, es_exit, ops_nil, ops_cons, st_move, st_not, bindO_some, bindF_some, bindX_normal, bindX_exit, condX_false, ev_tmp, putA, upd_at, Option.map_some, ↓reduceIte, Nat.reduceEqDiff, Bool.not_true, ↓bindO_some, ↓bindF_some, ↓bindX_normal, ↓bindX_exit, ↓condX_false, sy_addr eBl, sy_load aB, h3, h7, au, lu]
    refine ⟨_, _, _, rfl, by simp, rfl, h0, h3, h4, h5, ?_, wf, old, ?_, o⟩
    · show a 6 = _
      rw [h6, ← hN]; rfl
    · rw [← hS]; exact om
  | false =>
    left
    rw [hu] at lu
    have hsk : s[k]? = some false := by
      rw [List.getD_eq_getElem?_getD, List.getElem?_eq_getElem (by omega)] at hu
      rw [List.getElem?_eq_getElem (by omega)]
      exact congrArg some hu
    cases m with
    | zero =>
      have := count_zero s (by omega) k (by omega)
      rw [hsk] at this; cases this
    | succ m =>
      obtain ⟨H2, es, om2, old2, wf2, k2⟩ := om.set wf (i := k) (by rw [bools_len]; omega) (c := .bool true) rfl
      rw [bools_set] at om2
      have hvR2 := hv.mono (old.trans old2)
      have hf1 := hf k hk
      have e1 : IntKind.i64.wrap ((c : Int) + 1) = ((c + 1 : Nat) : Int) := by rw [wr64 (by omega) (by omega)]; omega
      have hcs := count_set_true s k hsk
      have hw : walkC f (m + 1) k s = ((walkC f m (f.getD k 0).toNat (s.set k true)).1 + 1, (walkC f m (f.getD k 0).toNat (s.set k true)).2) := by
        conv => lhs; unfold walkC
        rw [if_neg (by rw [hu]; simp)]
      rw [hw] at hN hS
      simp only at hN hS
      simp (disch := omega) only [Tryz.f14, Option.getD_some, atC, es_seq, es_region, es_cond, es_block, es_skip, ops_nil, ops_cons, st_move, st_assign, sy_addr eL, sy_load aI, sy_bin, st_not, binS_add, bindO_some, bindF_some, bindX_normal, blkX_normal, condX_true, ev_tmp, ev_const, putA, upd_at, Option.map_some, ↓reduceIte, Nat.reduceEqDiff, Int.toNat_natCast, Bool.not_false, ↓bindO_some, ↓bindF_some, ↓bindX_normal, ↓condX_true, sy_addr eBl, sy_load aB, sy_store zB, h0, h3, h6, h7, au, lu, es, e1, hvR2.addrI, hvR2.loadI]
      refine ⟨_, _, rfl, m, Nat.lt_succ_self m, (f.getD k 0).toNat, c + 1, s.set k true, h0, h3, h4, h5, rfl, ?_, by omega, by rw [List.length_set]; exact hs, by omega, by omega, by omega, hS, wf2, old.trans old2, om2, k2 _ _ o⟩
      show vi _ = vi _
      rw [Int.toNat_of_nonneg hf1.1]
noncomputable def rcA : Code := atC [1,1,1,0,1,0,0] ((Tryz.f14.body).getD .skip)
theorem rc_out {H : Heap} {v v3 : Value} {f : List Int} (hv : R H v (ints f)) (hf : inR f) (hl : f.length ≤ 1000) {n : Nat} (hn : 1010 ≤ n) {A : Fr} {H1 : Heap}
    (h0 : A 0 = v) (h3 : A 3 = v3) (h4 : A 4 = .slice none 0 0) (h5 : A 5 = vi (0 : Nat)) (wf : WF H1) (old : Old H.length H H1) (hB : H.length + 1 ≤ H1.length) (om : OM H.length (H.length + 1) H1 v3 (bools (List.replicate f.length false))) :
    ∃ r a' H2, loopN (evS Tryz.prog (evB Tryz.prog bC n) n Tryz.f14.ntmps none rcA) n A H1 = some (r, a', H2) ∧ r = .exit 0 ∧ ∃ w, a' 4 = w ∧ WF H2 ∧ Old H.length H H2 ∧ H.length + 1 ≤ H2.length ∧ O (H.length + 1) H2 w (ints (cycL f)) := by
  refine loop_up f.length (fun i a H' => a 0 = v ∧ a 3 = v3 ∧ a 5 = vi i ∧ WF H' ∧ Old H.length H H' ∧ H.length + 1 ≤ H'.length ∧ OM H.length (H.length + 1) H' v3 (bools (cycSt f i).1) ∧ ∃ w, a 4 = w ∧ O (H.length + 1) H' w (ints (cycSt f i).2)) _ ?_ ?_ (by omega) ⟨h0, h3, h5, wf, old, hB, om, _, h4, O.nil _ _⟩
  · intro i a H' hi ⟨h0, h3, h5, wf, old, hB, om, w, h4, o⟩
    left
    have hlt : (i : Int) < f.length := by omega
    have hvR := hv.mono old
    have e1 : IntKind.i64.wrap ((i : Int) + 1) = ((i + 1 : Nat) : Int) := by rw [wr64 (by omega) (by omega)]; omega
    have key := @rc_in H v v3 w f hv hf hl (cycSt f i).2 i n hn (cycSt f i).1 (cycSt_len f i) hi
    rw [show rcB = atC [1,1,1,0,1,0,0,1,0,0,1,0,1,0,0] ((Tryz.f14.body).getD .skip) from rfl] at key
    simp only [Tryz.f14, Option.getD_some, atC] at key
    rw [show rcA = atC [1,1,1,0,1,0,0] ((Tryz.f14.body).getD .skip) from rfl]
    simp (disch := omega) only [Tryz.f14, Option.getD_some, atC, es_seq, es_region, es_cond, es_block, es_loop, es_skip, ops_nil, ops_cons, st_move, st_assign, sy_len uL, sy_bin, sy_append eL pI, sy_build1 eL oI, binS_lss, bindO_some, bindF_some, bindX_normal, condX_true, ev_tmp, ev_const, putA, upd_at, Option.map_some, ↓reduceIte, Nat.reduceEqDiff, decide_true, ↓bindO_some, ↓bindF_some, ↓bindX_normal, ↓condX_true, h0, h5, hlt, hvR.lenI]
    generalize hA : upd _ 7 _ = A2
    obtain ⟨r, a2, H2, e, hr, g0, g3, g4, g5, g6, wf2, old2, om2, o2⟩ := @key A2 H' (by subst hA; exact h0) (by subst hA; exact h3) (by subst hA; exact h4) (by subst hA; exact h5) (by subst hA; rfl) (by subst hA; rfl) wf old om o
    subst hr
    rw [e]
    have hlen2 : H.length + 1 ≤ H2.length := by
      rcases om2 with ⟨e, he⟩ | ⟨b, g, e, _, _, _, _, hb⟩
      · have := congrArg List.length he
        rw [bools_len, walkC_len, cycSt_len] at this
        have h0 : f.length = 0 := this
        omega
      · have := lt_of_blk hb; omega
    by_cases hN : 0 < (walkC f f.length i (cycSt f i).1).1
    · have c1 : (0 : Int) < ((walkC f f.length i (cycSt f i).1).1 : Nat) := by omega
      have hle := cycSt_out f i
      obtain ⟨w3, H3, s3, o3, old3, wf3⟩ := o2.pushI wf2 hlen2 (by unfold maxA; omega) ((walkC f f.length i (cycSt f i).1).1 : Int)
      simp (disch := omega) only [binS_gtr, binS_add, bindO_some, bindF_some, bindX_normal, blkX_normal, blkX_exit, condX_true, upd_at, ↓reduceIte, Nat.reduceEqDiff, decide_true, ↓bindO_some, ↓bindF_some, ↓bindX_normal, ↓condX_true, scal_vi, g4, g5, g6, c1, s3, e1]
      refine ⟨_, _, rfl, g0, g3, rfl, wf3, old2.trans (old3.mono (Nat.le_succ _)), by have := old3.1; omega, ?_, w3, rfl, ?_⟩
      · simp only [cycSt]; exact om2.mono old3
      · simp only [cycSt]; rw [if_pos hN]; exact o3
    · have c1 : ¬ (0 : Int) < ((walkC f f.length i (cycSt f i).1).1 : Nat) := by omega
      simp (disch := omega) only [binS_gtr, binS_add, bindO_some, bindF_some, bindX_normal, blkX_normal, blkX_exit, condX_false, upd_at, ↓reduceIte, Nat.reduceEqDiff, decide_false, ↓bindO_some, ↓bindF_some, ↓bindX_normal, ↓condX_false, g5, g6, c1, e1]
      refine ⟨_, _, rfl, g0, g3, rfl, wf2, old2, hlen2, ?_, w, g4, ?_⟩
      · simp only [cycSt]; exact om2
      · simp only [cycSt]; rw [if_neg hN]; exact o2
  · intro a H' ⟨h0, h3, h5, wf, old, hB, om, w, h4, o⟩
    have hvR := hv.mono old
    rw [show rcA = atC [1,1,1,0,1,0,0] ((Tryz.f14.body).getD .skip) from rfl]
    simp (disch := omega) only [Tryz.f14, Option.getD_some, atC, es_seq, es_region, es_cond, es_exit, ops_nil, ops_cons, st_move, sy_len uL, sy_bin, binS_lss, bindO_some, bindF_some, bindX_normal, bindX_exit, condX_false, ev_tmp, putA, upd_at, Option.map_some, ↓reduceIte, Nat.reduceEqDiff, decide_false, ↓bindO_some, ↓bindF_some, ↓bindX_normal, ↓bindX_exit, ↓condX_false, h0, h5, hvR.lenI, Int.lt_irrefl]
    exact ⟨_, _, _, rfl, by simp, rfl, w, h4, wf, old, hB, o⟩
noncomputable def faB : Code := atC [1,1,0,1,0,0,1,0,0,1,0,0,0] ((Tryz.f29.body).getD .skip)
def putN (x : Int) : List Int → Nat
  | [] => 0
  | y :: l => if y ≥ x then putN x l + 1 else 0
theorem putN_le (x : Int) (l : List Int) : putN x l ≤ l.length := by
  induction l with
  | nil => exact Nat.le_refl _
  | cons y l ih => unfold putN; split <;> simp; exact ih
theorem putN_ge (x : Int) (l : List Int) : ∀ j, j < putN x l → l.getD j 0 ≥ x := by
  induction l with
  | nil => intro j h; simp [putN] at h
  | cons y l ih =>
    intro j h
    unfold putN at h
    split at h
    · cases j with
      | zero => simpa
      | succ j => simpa using ih j (by omega)
    · omega
theorem putN_lt (x : Int) (l : List Int) (h : putN x l < l.length) : l.getD (putN x l) 0 < x := by
  induction l with
  | nil => simp at h
  | cons y l ih =>
    unfold putN at h ⊢
    split
    · rename_i hy
      rw [if_pos hy] at h
      simpa using ih (by simpa using h)
    · rename_i hy
      simp; omega
theorem putN_put (x : Int) (l : List Int) : l.take (putN x l) ++ [x] ++ l.drop (putN x l) = putF x l :=
  (putF_at x l (putN x l) (putN_le x l) (fun j hj h => by have := putN_ge x l j h; rw [List.getD_eq_getElem?_getD, List.getElem?_eq_getElem hj] at this; exact this) (fun hj => by have := putN_lt x l hj; rw [List.getD_eq_getElem?_getD, List.getElem?_eq_getElem hj] at this; exact this)).symm
def D8 : Nat → Bool := fun id => id == 8
theorem d86 : D8 6 = false := (rfl)
theorem et_at {P : Program} {call : CallF} {ops : Array Oper} {k nt id : Nat} {rd : Option Nat} {a : Fr} {H : Heap} {D : Nat → Bool} (hd : D id = true) (bs : Array Nat) (hb : Region.before ops = bs) (Q : Fr → Heap → Prop) (h : ∃ r, evOpsI P call ops 0 ops.toList a H [(none, H)] [] = some r ∧ (∀ G ∈ r.2.2.1, ∀ q ∈ r.2.2.2, ordB bs G.1 q.1 = false → stillReads P G.2 q.2.1 q.2.2.1 q.2.2.2 = true) ∧ Q r.1 r.2.1) :
    ∃ a' H', evT P call k nt rd D (.region id ops true) a H = some (.normal, a', H') ∧ Q a' H' := by
  obtain ⟨a', H', e, q⟩ := et_idx (k := k) (nt := nt) (id := id) (rd := rd) bs hb Q h
  refine ⟨a', H', ?_, q⟩
  rw [es_draw] at e ⊢
  rw [hd]; exact e
theorem fa_r8 {H He H3 H4 H5 : Heap} {vl w p v1 v2 v3 v4 v5 : Value} {i j : Nat} {z : Int} (call : CallF) (k nt : Nat) (rd : Option Nat) {a : Fr} (h0 : a 0 = vl) (h3 : a 3 = w) (h4 : a 4 = vi i) (h5 : a 5 = vi j)
    (hHe : H ++ [.cells H.length true []] = He) (t1 : subS w none (some (vi j)) = some v1) (s3 : appS (sliceA H.length 0 0 1) v1 He = some (v3, H3)) (ad : addrS 1 vl (vi i) = some p) (ld : ∀ G, G = H ∨ G = He ∨ G = H3 → loadS p G = some (vi z))
    (s4 : appS v3 (sliceA H3.length 0 1 1) (H3 ++ [.cells H3.length true [vi z]]) = some (v4, H4)) (t2 : subS w (some (vi j)) none = some v2) (s5 : appS v4 v2 H4 = some (v5, H5)) :
    ∃ a' H', evT Tryz.prog call k nt rd D8 (atC [1,1,0,1,0,0,1,0,0,1,1] ((Tryz.f29.body).getD .skip)) a H = some (.normal, a', H') ∧ H' = H5 ∧ a' 0 = vl ∧ a' 3 = v5 ∧ a' 4 = vi i := by
  simp only [Tryz.f29, Option.getD_some, atC]
  refine et_at (by rfl) #[0, 0, 0, 6, 15, 0, 0, 96, 224, 480, 1023, 0, 0, 6144, 16383, 32767] (by kernel_rfl) (fun a' H' => H' = H5 ∧ a' 0 = vl ∧ a' 3 = v5 ∧ a' 4 = vi i) ?_
  have e1 := ld H (.inl rfl)
  have e2 := ld He (.inr (.inl rfl))
  have e3 := ld H3 (.inr (.inr rfl))
  simp (disch := omega) only [st_move, st_assign, sy_addr eL, sy_load aI, sy_append eL pI, sy_build1 eL oI, sy_build0 eL nI, sy_slice eL, bindO_some, ev_tmp, putA, upd_at, Option.map_some, ↓reduceIte, Nat.reduceEqDiff, Nat.zero_add, ↓bindO_some, scal_vi, opsI_nil, opsI_cons, Nat.reduceAdd, clsW_eff, clsW_all, clsW_read, clsW_pure, ↓clsW_eff, ↓clsW_all, ↓clsW_read, ↓clsW_pure, cls_move, cls_assign, cls_addr, cls_load, cls_append, cls_buildS, cls_slice, Option.map_none, h0, h3, h4, h5, hHe, t1, s3, ad, e3, s4, t2, s5]
  refine ⟨_, rfl, ?_, rfl, ?_, ?_, ?_⟩
  · intro G hG r hr
    simp only [List.mem_cons, List.not_mem_nil, or_false] at hG hr
    subst hr
    rcases hG with rfl | rfl | rfl | rfl | rfl <;> first
      | (intro h; dsimp only at h; exact absurd h (by decide))
      | (intro _; simp only [still_ld aI, ev_tmp, upd_at, ↓reduceIte, vEq_vi, e1, e3])
  · simp only [upd_at, ↓reduceIte, Nat.reduceEqDiff, h0]
  · simp only [upd_at, ↓reduceIte]
  · simp only [upd_at, ↓reduceIte, Nat.reduceEqDiff, h4]
theorem fa_in {H : Heap} {v w : Value} {l out : List Int} (hv : R H v (ints l)) (ho : R H w (ints out)) (hl : out.length ≤ 1000) {i n : Nat} (hi : i < l.length) (hn : 1010 ≤ n) {A : Fr} (h0 : A 0 = v) (h3 : A 3 = w) (h4 : A 4 = vi i) (h5 : A 5 = vi 0) :
    ∃ r a' H2, loopN (evT Tryz.prog (evB Tryz.prog bC n) n Tryz.f29.ntmps none D8 faB) n A H = some (r, a', H2) ∧ r = .exit 2 ∧ H2 = H ∧ a' 0 = v ∧ a' 3 = w ∧ a' 4 = vi i ∧ a' 5 = vi (putN (l.getD i 0) out) := by
  have hple := putN_le (l.getD i 0) out
  refine loop_up (putN (l.getD i 0) out) (fun k a H' => H' = H ∧ a 0 = v ∧ a 3 = w ∧ a 4 = vi i ∧ a 5 = vi k) _ ?_ ?_ (by omega) ⟨rfl, h0, h3, h4, h5⟩
  · intro k a H' hk ⟨hH, h0, h3, h4, h5⟩
    subst hH
    left
    have c1 : (k : Int) < out.length := by omega
    have c2 := putN_ge (l.getD i 0) out k hk
    have c3 : l.getD i 0 ≤ out.getD k 0 := c2
    have e1 : IntKind.i64.wrap ((k : Int) + 1) = ((k + 1 : Nat) : Int) := by rw [wr64 (by omega) (by omega)]; omega
    rw [show faB = atC [1,1,0,1,0,0,1,0,0,1,0,0,0] ((Tryz.f29.body).getD .skip) from rfl]
    simp (disch := omega) only [Tryz.f29, Option.getD_some, atC, es_seq, es_region, es_draw, es_cond, es_block, es_skip, ops_nil, ops_cons, opsV_nil, opsV_cons, opsV_consG, st_move, st_assign, sy_pick, pickS_true, sy_len uL, sy_addr eL, sy_load aI, sy_bin, binS_lss, binS_geq, binS_add, bindO_some, bindF_some, bindX_normal, blkX_normal, condX_true, iteB_true, iteB_false, ev_tmp, ev_const, putA, upd_at, Option.map_some, ↓reduceIte, Nat.reduceEqDiff, Int.toNat_natCast, decide_true, yieldO_eq, yO, yV_bool, List.getElem?_cons_zero, List.getElem?_cons_succ, beq_self_eq_true, ↓bindO_some, ↓bindF_some, ↓bindX_normal, ↓condX_true, ↓iteB_true, ↓iteB_false, reflV_load, reflV_move, reflV_pick, reflV_bin, reflV_addr, reflV_call, vEq_vi, d86, h0, h3, h4, h5, ho.lenI, ho.addrI, ho.loadI, hv.addrI, hv.loadI, c1, c2, e1]
    exact ⟨_, _, rfl, rfl, h0, h3, h4, rfl⟩
  · intro a H' ⟨hH, h0, h3, h4, h5⟩
    subst hH
    rw [show faB = atC [1,1,0,1,0,0,1,0,0,1,0,0,0] ((Tryz.f29.body).getD .skip) from rfl]
    by_cases hp : putN (l.getD i 0) out < out.length
    · have c1 : (putN (l.getD i 0) out : Int) < out.length := by omega
      have c2 : ¬ out.getD (putN (l.getD i 0) out) 0 ≥ l.getD i 0 := by have := putN_lt (l.getD i 0) out hp; omega
      have c3 : ¬ l.getD i 0 ≤ out.getD (putN (l.getD i 0) out) 0 := c2
      simp (disch := omega) only [Tryz.f29, Option.getD_some, atC, es_seq, es_draw, es_cond, es_exit, opsV_nil, opsV_cons, opsV_consG, st_move, sy_pick, pickS_true, sy_len uL, sy_addr eL, sy_load aI, sy_bin, binS_lss, binS_geq, bindO_some, bindF_some, bindX_normal, bindX_exit, condX_false, iteB_true, iteB_false, ev_tmp, putA, upd_at, Option.map_some, ↓reduceIte, Nat.reduceEqDiff, Int.toNat_natCast, decide_true, decide_false, yieldO_eq, yO, yV_bool, List.getElem?_cons_zero, List.getElem?_cons_succ, beq_self_eq_true, ↓bindO_some, ↓bindF_some, ↓bindX_normal, ↓bindX_exit, ↓condX_false, ↓iteB_true, ↓iteB_false, reflV_load, reflV_move, reflV_pick, reflV_bin, reflV_addr, reflV_call, vEq_vi, d86, h0, h3, h4, h5, ho.lenI, ho.addrI, ho.loadI, hv.addrI, hv.loadI, c1, c2]
      exact ⟨_, _, _, rfl, by simp, rfl, rfl, h0, h3, h4, h5⟩
    · have c1 : ¬ (putN (l.getD i 0) out : Int) < out.length := by omega
      simp (disch := omega) only [Tryz.f29, Option.getD_some, atC, es_seq, es_draw, es_cond, es_exit, opsV_nil, opsV_cons, opsV_consG, st_move, sy_pick, pickS_false, sy_len uL, sy_bin, binS_lss, bindO_some, bindF_some, bindX_normal, bindX_exit, condX_false, iteB_true, iteB_false, ev_tmp, ev_const, putA, upd_at, Option.map_some, ↓reduceIte, Nat.reduceEqDiff, decide_false, yieldO_eq, yO, yV_bool, some_true, List.getElem?_cons_zero, List.getElem?_cons_succ, ↓bindO_some, ↓bindF_some, ↓bindX_normal, ↓bindX_exit, ↓condX_false, ↓iteB_true, ↓iteB_false, reflV_move, reflV_pick, reflV_bin, reflV_call, d86, h3, h5, ho.lenI, c1]
      exact ⟨_, _, _, rfl, by simp, rfl, rfl, h0, h3, h4, h5⟩
noncomputable def faA : Code := atC [1,1,0,1,0,0] ((Tryz.f29.body).getD .skip)
theorem foldl_take_succ {l : List Int} {i : Nat} (hi : i < l.length) : (l.take (i + 1)).foldl (fun out x => putF x out) [] = putF (l.getD i 0) ((l.take i).foldl (fun out x => putF x out) []) := by
  rw [List.take_succ_eq_append_getElem hi, List.foldl_append]
  simp [hi]
theorem fold_len (l : List Int) : (l.foldl (fun out x => putF x out) []).length = l.length := by
  have := (fallI_aux l [] .nil).2.length_eq
  simpa using this
theorem falling_run {H : Heap} {v : Value} {l : List Int} (hw : WF H) (hv : R H v (ints l)) (hl : l.length ≤ 1000) (n : Nat) (hn : 1011 ≤ n) :
    OneL H (evB Tryz.prog bC n (.func (.func 29) #[] #[]) [v] H) (fallI l) := by
  refine run_ofB (F := 1010) (Q := fun r => OneL H r (fallI l)) (fun n hn => ?_) n hn
  rw [body_runS Tryz.func29 rfl (ok_fn (by rfl) Tryz.func29 rfl) (Nat.le_of_ble_eq_true rfl) (D := D8) (by kernel_rfl)]
  have key : ∀ A : Fr, A 0 = v → A 3 = .slice none 0 0 → A 4 = vi (0 : Nat) → ∃ r a' H2, loopN (evT Tryz.prog (evB Tryz.prog bC n) n Tryz.f29.ntmps none D8 faA) n A H = some (r, a', H2) ∧ r = .exit 0 ∧ WF H2 ∧ Old H.length H H2 ∧ ∃ w, a' 3 = w ∧ O H.length H2 w (ints (fallI l)) := by
    intro A h0 h3 h4
    refine loop_up l.length (fun i a H' => a 0 = v ∧ a 4 = vi i ∧ WF H' ∧ Old H.length H H' ∧ ∃ w, a 3 = w ∧ O H.length H' w (ints ((l.take i).foldl (fun out x => putF x out) []))) _ ?_ ?_ (by omega) ⟨h0, h4, hw, Old.refl _ _, _, h3, O.nil _ _⟩
    · intro i a H' hi ⟨h0, h4, wf, old, w, h3, o⟩
      left
      have hlt : (i : Int) < l.length := by omega
      have hvR := hv.mono old
      have hol : ((l.take i).foldl (fun out x => putF x out) []).length = i := by rw [fold_len, List.length_take]; omega
      generalize hout : (l.take i).foldl (fun out x => putF x out) [] = out at *
      have e1 : IntKind.i64.wrap ((i : Int) + 1) = ((i + 1 : Nat) : Int) := by rw [wr64 (by omega) (by omega)]; omega
      have key := @fa_in H' v w l out hvR o.R (by omega) i n hi hn
      rw [show faB = atC [1,1,0,1,0,0,1,0,0,1,0,0,0] ((Tryz.f29.body).getD .skip) from rfl] at key
      simp only [Tryz.f29, Option.getD_some, atC] at key
      rw [show faA = atC [1,1,0,1,0,0] ((Tryz.f29.body).getD .skip) from rfl]
      simp (disch := omega) only [Tryz.f29, Option.getD_some, atC, es_seq, es_region, es_cond, es_block, es_loop, es_skip, ops_nil, ops_cons, st_move, st_assign, sy_len uL, sy_bin, binS_lss, bindO_some, bindF_some, bindX_normal, condX_true, ev_tmp, ev_const, putA, upd_at, Option.map_some, ↓reduceIte, Nat.reduceEqDiff, decide_true, ↓bindO_some, ↓bindF_some, ↓bindX_normal, ↓condX_true, h0, h4, hlt, hvR.lenI]
      generalize hA : upd _ 5 _ = A2
      obtain ⟨r, a2, H2, e, hr, hH2, g0, g3, g4, g5⟩ := @key A2 (by subst hA; exact h0) (by subst hA; exact h3) (by subst hA; exact h4) (by subst hA; rfl)
      subst hr
      subst hH2
      rw [e]
      have hple := putN_le (l.getD i 0) out
      have oe := O.empty (B := H2.length) (H := H2) (Nat.le_refl _)
      have olde := Old.app H2 [.cells H2.length true []]
      have wfe := wf.app (Nat.le_refl H2.length) (o := true) (cs := [])
      have hlee : H2.length + 1 = (H2 ++ [Blk.cells H2.length true []]).length := by simp
      obtain ⟨v1, t1, rt⟩ := o.R.upto (c := putN (l.getD i 0) out) hple
      obtain ⟨v2, t2, rd⟩ := o.R.from (c := putN (l.getD i 0) out) hple
      generalize hHe : H2 ++ [Blk.cells H2.length true []] = He at *
      have olde' := olde.1
      obtain ⟨v3, H3, s3, o3, old3, wf3⟩ := oe.app wfe (by omega) (rt.mono olde) (by rw [ints_len, List.length_take]; simp [maxA]; omega)
      rw [List.nil_append] at o3
      have old3' := old3.1
      have hvR3 := hvR.mono (olde.trans old3)
      obtain ⟨v4, H4, s4, o4, old4, wf4⟩ := o3.pushI wf3 (by omega) (by rw [List.length_take]; unfold maxA; omega) (l.getD i 0)
      have old4' := old4.1
      obtain ⟨v5, H5, s5, o5, old5, wf5⟩ := o4.app wf4 (by omega) (rd.mono ((olde.trans old3).trans old4)) (by rw [ints_len, ints_len]; simp [maxA]; omega)
      rw [← ints_app, putN_put] at o5
      have ld : ∀ G, G = H2 ∨ G = He ∨ G = H3 → loadS (pt v i) G = some (vi (l.getD i 0)) := by
        rintro G (rfl | rfl | rfl)
        · exact hvR.loadI hi
        · exact (hvR.mono olde).loadI hi
        · exact hvR3.loadI hi
      have ad : addrS 1 v (vi (i : Int)) = some (pt v i) := hvR.addrI (by omega) (by omega)
      obtain ⟨a3, H6, e8, hH6, k0, k3, k4⟩ := fa_r8 (evB Tryz.prog bC n) n Tryz.f29.ntmps none g0 g3 g4 g5 hHe t1 s3 ad ld s4 t2 s5
      subst hH6
      simp only [Tryz.f29, Option.getD_some, atC] at e8
      simp (disch := omega) only [binS_add, bindO_some, bindF_some, bindX_normal, blkX_normal, blkX_exit, ↓reduceIte, ↓bindO_some, ↓bindF_some, ↓bindX_normal, e8, k4, e1]
      refine ⟨_, _, rfl, k0, rfl, wf5, old.trans ((((olde.trans old3).trans old4).trans old5).mono old.1), v5, k3, ?_⟩
      rw [foldl_take_succ hi, hout]
      exact o5.below old.1
    · intro a H' ⟨h0, h4, wf, old, w, h3, o⟩
      have hvR := hv.mono old
      rw [show faA = atC [1,1,0,1,0,0] ((Tryz.f29.body).getD .skip) from rfl]
      simp (disch := omega) only [Tryz.f29, Option.getD_some, atC, es_seq, es_region, es_cond, es_exit, ops_nil, ops_cons, st_move, sy_len uL, sy_bin, binS_lss, bindO_some, bindF_some, bindX_normal, bindX_exit, condX_false, ev_tmp, putA, upd_at, Option.map_some, ↓reduceIte, Nat.reduceEqDiff, decide_false, ↓bindO_some, ↓bindF_some, ↓bindX_normal, ↓bindX_exit, ↓condX_false, h0, h4, hvR.lenI, Int.lt_irrefl]
      rw [List.take_length] at o
      exact ⟨_, _, _, rfl, by simp, rfl, wf, old, w, h3, o⟩
  rw [show faA = atC [1,1,0,1,0,0] ((Tryz.f29.body).getD .skip) from rfl] at key
  simp only [Tryz.f29, Option.getD_some, atC] at key
  simp (disch := omega) only [Tryz.f29, es_seq, es_region, es_block, es_loop, es_ret, ops_nil, ops_cons, st_move, st_assign, bindO_some, bindF_some, bindX_normal, ev_tmp, ev_const, putA, upd_at, ↓reduceIte, ↓bindO_some, ↓bindF_some, ↓bindX_normal]
  generalize hA : upd _ 4 _ = A
  obtain ⟨r, a', H2, e, hr, wf2, old2, w, h3, o⟩ := @key A (by subst hA; rfl) (by subst hA; rfl) (by subst hA; rfl)
  subst hr
  rw [e]
  simp (disch := omega) only [bindX_normal, blkX_exit, upd_at, Option.map_some, ↓reduceIte, ↓bindX_normal, fin_r, res_nil, res_tmp, pack_1, h3, o.R.scal]
  exact ⟨_, _, rfl, o, old2, wf2⟩
theorem rcycle_run {H : Heap} {v : Value} {f : List Int} (hw : WF H) (hv : R H v (ints f)) (hf : inR f) (hl : f.length ≤ 1000) (n : Nat) (hn : 1012 ≤ n) :
    OneL H (evB Tryz.prog bC n (.func (.func 14) #[] #[]) [v] H) (fallS (cycL f)) := by
  refine run_ofB (F := 1011) (Q := fun r => OneL H r (fallS (cycL f))) (fun n hn => ?_) n hn
  rw [body_runS Tryz.func14 rfl (ok_fn (by rfl) Tryz.func14 rfl) (Nat.le_of_ble_eq_true rfl) (D := D0) (by kernel_rfl)]
  have c1 : (f.length : Int) ≤ 1048576 := by omega
  have hz := zeros_B f.length
  have wf1 := hw.app (Nat.le_refl H.length) (o := true) (cs := bools (List.replicate f.length false))
  have old1 := Old.app H [.cells H.length true (bools (List.replicate f.length false))]
  have om1 := om_bools (H := H) (List.replicate f.length false)
  rw [List.length_replicate] at om1
  have hB1 : H.length + 1 ≤ (H ++ [Blk.cells H.length true (bools (List.replicate f.length false))]).length := by simp
  generalize hH1 : H ++ [Blk.cells H.length true (bools (List.replicate f.length false))] = H1 at *
  have key := @rc_out H v (sliceA H.length 0 f.length 1) f hv hf hl n (by omega)
  rw [show rcA = atC [1,1,1,0,1,0,0] ((Tryz.f14.body).getD .skip) from rfl] at key
  simp only [Tryz.f14, Option.getD_some, atC] at key
  simp (disch := omega) only [Tryz.f14, es_seq, es_region, es_block, es_loop, es_ret, ops_nil, ops_cons, st_move, st_assign, st_fun, sy_len uL, bindO_some, bindF_some, bindX_normal, ev_tmp, ev_const, ev_func, putA, upd_at, Option.map_some, ↓reduceIte, Nat.reduceEqDiff, Int.toNat_natCast, Int.natCast_nonneg, frOf_0, List.map_cons, List.map_nil, ↓bindO_some, ↓bindF_some, ↓bindX_normal, hv.lenI, sy_make eBl yB (by decide), c1, Int.le_refl, and_self, hz, hH1]
  generalize hA : upd _ 5 _ = A
  obtain ⟨r, a', H2, e, hr, w, h4, wf2, old2, hB2, o2⟩ := @key A H1 (by subst hA; rfl) (by subst hA; rfl) (by subst hA; rfl) (by subst hA; rfl) wf1 old1 hB1 om1
  subst hr
  rw [e]
  have hcl : (cycL f).length ≤ 1000 := by have := cycSt_out f f.length; unfold cycL; omega
  obtain ⟨v3, H3, s3, o3, old3, wf3⟩ := falling_run wf2 o2.R hcl n (by omega)
  rw [fallI_eq] at o3
  simp (disch := omega) only [bindO_some, bindF_some, bindX_normal, blkX_exit, upd_at, Option.map_some, ↓reduceIte, ↓bindO_some, ↓bindF_some, ↓bindX_normal, fin_r, res_nil, res_tmp, pack_1, h4, s3, o3.R.scal]
  exact ⟨_, _, rfl, o3.below (by have := old2.1; omega), old2.trans (old3.mono (by have := old2.1; omega)), wf3⟩
end Go.Proofs.YtmmgdgmjkhcfaaaGreat
namespace Go.Proofs.YtmmgdgmjkhcfaaaGreat
open Go Go.Abs Go.Num
set_option maxRecDepth 10000
attribute [local congr] bindO_congr bindF_congr bindX_congr condX_congr iteB_congr binS_congr pickS_congr
noncomputable def normA : Code := atC [1, 1, 1, 0, 1, 0, 0] ((Tryz.f46.body).getD .skip)
noncomputable def normB : Code := atC [1, 1, 1, 1, 0, 0, 0] ((Tryz.f46.body).getD .skip)
noncomputable def normC : Code := atC [1, 1, 1, 1, 1, 1, 1, 1, 0, 1, 0, 0] ((Tryz.f46.body).getD .skip)
theorem norm_loop1 {H0 : Heap} {v : Value} {l : List Int} (hw0 : WF H0) (hv : R H0 v (ints l)) (hl : l.length ≤ 900) (hb : ∀ x ∈ l, -4000000000000000000 ≤ x ∧ x ≤ 4000000000000000000) (n m nt : Nat) (hn : 10 ≤ n) {a : Fr} {k : Nat} (hk : l.length < k)
    (h0 : a 0 = v) (h3 : a 3 = .slice none 0 0) (h4 : a 4 = vi 0) (h5 : a 5 = vi (0 : Nat)) :
    ∃ x a' H', loopN (evS Tryz.prog (evB Tryz.prog bC n) m nt none normA) k a H0 = some (x, a', H') ∧ x = .exit 0 ∧ ∃ vo out c, a' 3 = vo ∧ a' 4 = vi c ∧ O H0.length H' vo (ints out) ∧ Old H0.length H0 H' ∧ WF H' ∧ out.length = l.length ∧ Dg out ∧ val out + B ^ out.length * c = val l ∧ -100000000000 ≤ c ∧ c ≤ 100000000000 := by
  refine loop_up l.length (fun i a H' => a 0 = v ∧ a 5 = vi i ∧ ∃ vo out c, a 3 = vo ∧ a 4 = vi c ∧ O H0.length H' vo (ints out) ∧ Old H0.length H0 H' ∧ WF H' ∧ out.length = i ∧ Dg out ∧ val out + B ^ i * c = val (l.take i) ∧ -100000000000 ≤ c ∧ c ≤ 100000000000) _ ?_ ?_ hk
    ⟨h0, h5, _, [], 0, h3, h4, O.nil _ _, Old.refl _ _, hw0, rfl, Dg.nil, by simp [val], by omega, by omega⟩
  · intro i a H' hi ⟨h0, h5, vo, out, c, h3, h4, ho, old, hw, hol, hd, hval, hc1, hc2⟩
    left
    rw [show normA = atC [1, 1, 1, 0, 1, 0, 0] ((Tryz.f46.body).getD .skip) from rfl]
    have hx := hb _ (getD_mem hi)
    have hr := hv.keep (Nat.le_refl _) old
    have hlt : (i : Int) < l.length := by omega
    have s1 := split_run hx.1 hx.2 n H' hn
    have e1 : IntKind.i64.wrap (l.getD i 0 % 100000000 + c) = l.getD i 0 % 100000000 + c := wr64 (by omega) (by omega)
    have s2 := split_run (z := l.getD i 0 % 100000000 + c) (by omega) (by omega) n H' hn
    have e2 : IntKind.i64.wrap (l.getD i 0 / 100000000 + (l.getD i 0 % 100000000 + c) / 100000000) = l.getD i 0 / 100000000 + (l.getD i 0 % 100000000 + c) / 100000000 := wr64 (by omega) (by omega)
    have e3 : IntKind.i64.wrap ((i : Int) + 1) = ((i + 1 : Nat) : Int) := by rw [wr64 (by omega) (by omega)]; omega
    obtain ⟨v2, H2, ep, o2, old2, wf2⟩ := ho.pushI hw old.1 (by unfold maxA; omega) ((l.getD i 0 % 100000000 + c) % 100000000)
    simp (disch := omega) only [Tryz.f46, Option.getD_some, atC, es_seq, es_region, es_cond, es_block, es_skip, ops_nil, ops_cons, st_move, st_assign, st_fun, sy_len uL, sy_addr eL, sy_load aI, sy_bin, sy_append eL pI, sy_build1 eL oI, sy_ext, ext_20, ext_21, binS_lss, binS_add, bindO_some, bindF_some, bindX_normal, blkX_normal, condX_true, ev_tmp, ev_const, ev_func, putA, upd_at, Option.map_some, ↓reduceIte, Nat.reduceEqDiff, Int.toNat_natCast, List.map_cons, List.map_nil, decide_true, ↓bindO_some, ↓bindF_some, ↓bindX_normal, ↓condX_true, scal_vi, h0, h3, h4, h5, hr.lenI, hlt, hr.addrI, hr.loadI, s1, s2, e1, e2, e3, ep]
    refine ⟨_, _, rfl, by simp only [upd_get, ↓reduceIte, Nat.reduceEqDiff, h0], by simp only [upd_get, ↓reduceIte], v2, _, l.getD i 0 / 100000000 + (l.getD i 0 % 100000000 + c) / 100000000, by simp only [upd_get, ↓reduceIte, Nat.reduceEqDiff], by simp only [upd_get, ↓reduceIte, Nat.reduceEqDiff], o2, old.trans old2, wf2, by simp [hol], hd.app (Dg.one (by omega) (by unfold B; omega)), ?_, by omega, by omega⟩
    rw [take_snoc' hi]
    exact norm_step hol hval (by rw [List.length_take]; omega)
  · intro a H' ⟨h0, h5, vo, out, c, h3, h4, ho, old, hw, hol, hd, hval, hc1, hc2⟩
    rw [show normA = atC [1, 1, 1, 0, 1, 0, 0] ((Tryz.f46.body).getD .skip) from rfl]
    have hr := hv.keep (Nat.le_refl _) old
    simp (disch := omega) only [Tryz.f46, Option.getD_some, atC, es_seq, es_region, es_cond, es_exit, ops_nil, ops_cons, st_move, sy_len uL, sy_bin, binS_lss, bindO_some, bindF_some, bindX_normal, bindX_exit, condX_false, ev_tmp, putA, upd_at, Option.map_some, ↓reduceIte, Nat.reduceEqDiff, decide_false, ↓bindO_some, ↓bindF_some, ↓bindX_normal, ↓bindX_exit, ↓condX_false, h0, h5, hr.lenI, Int.lt_irrefl]
    exact ⟨_, _, _, rfl, by simp, rfl, vo, out, c, by simp only [upd_get, ↓reduceIte, Nat.reduceEqDiff, h3], by simp only [upd_get, ↓reduceIte, Nat.reduceEqDiff, h4], ho, old, hw, hol, hd, by rw [hol, hval, List.take_length], hc1, hc2⟩
def MM (n : Nat) (c : Int) : Prop := (n = 0 ∧ (c = 0 ∨ c = -1)) ∨ (n = 1 ∧ -10000000 ≤ c ∧ c ≤ 10000000) ∨ (n = 2 ∧ -100000000000 ≤ c ∧ c ≤ 100000000000)
theorem norm_loop2 {H0 : Heap} {L : Nat} {z : Int} (hL : L ≤ 1000) (n m nt : Nat) (hn : 10 ≤ n) {a : Fr} {H : Heap} {k : Nat} (hk : 2 < k) {vo : Value} {out : List Int} {c : Int}
    (h3 : a 3 = vo) (h4 : a 4 = vi c) (ho : O H0.length H vo (ints out)) (old : Old H0.length H0 H) (hw : WF H) (hol : out.length + 2 ≤ L) (hd : Dg out) (hval : val out + B ^ out.length * c = z) (hc1 : -100000000000 ≤ c) (hc2 : c ≤ 100000000000) :
    ∃ x a' H', loopN (evS Tryz.prog (evB Tryz.prog bC n) m nt none normB) k a H = some (x, a', H') ∧ x = .exit 2 ∧ ∃ vo out c, a' 3 = vo ∧ a' 4 = vi c ∧ O H0.length H' vo (ints out) ∧ Old H0.length H0 H' ∧ WF H' ∧ out.length ≤ L ∧ Dg out ∧ val out + B ^ out.length * c = z ∧ (c = 0 ∨ c = -1) := by
  refine loop_wf (fun n a H' => ∃ vo out c, a 3 = vo ∧ a 4 = vi c ∧ O H0.length H' vo (ints out) ∧ Old H0.length H0 H' ∧ WF H' ∧ out.length + n ≤ L ∧ Dg out ∧ val out + B ^ out.length * c = z ∧ MM n c) _ ?_ k 2 a H hk ⟨vo, out, c, h3, h4, ho, old, hw, hol, hd, hval, .inr (.inr ⟨rfl, hc1, hc2⟩)⟩
  intro q a H' ⟨vo, out, c, h3, h4, ho, old, hw, hol, hd, hval, hM⟩
  rw [show normB = atC [1, 1, 1, 1, 0, 0, 0] ((Tryz.f46.body).getD .skip) from rfl]
  by_cases hz : c = 0
  · right
    simp (disch := omega) only [Tryz.f46, Option.getD_some, atC, es_seq, es_region, es_cond, es_exit, ops_nil, ops_cons, ops_consG, st_move, sy_pick, pickS_false, sy_bin, binS_neq, bindO_some, bindF_some, bindX_normal, bindX_exit, condX_false, iteB_false, ev_tmp, ev_const, putA, upd_at, ↓reduceIte, Nat.reduceEqDiff, decide_true, Bool.not_true, yieldO_eq, yO, yV_bool, some_true, List.getElem?_cons_zero, List.getElem?_cons_succ, ↓bindO_some, ↓bindF_some, ↓bindX_normal, ↓bindX_exit, ↓condX_false, ↓iteB_false, h4, hz]
    exact ⟨_, _, _, rfl, by simp, rfl, vo, out, 0, by simp only [upd_get, ↓reduceIte, Nat.reduceEqDiff, h3], by simp only [upd_get, ↓reduceIte, Nat.reduceEqDiff, h4, hz], ho, old, hw, by omega, hd, by rw [← hz]; exact hval, .inl rfl⟩
  · by_cases hy : c = -1
    · right
      simp (disch := omega) only [Tryz.f46, Option.getD_some, atC, es_seq, es_region, es_cond, es_block, es_skip, es_exit, ops_nil, ops_cons, ops_consG, st_move, st_assign, sy_pick, st_fun, sy_bin, sy_append eL pI, sy_build1 eL oI, sy_ext, binS_neq, bindO_some, bindF_some, ev_tmp, ev_const, ev_func, putA, upd_at, ↓reduceIte, Nat.reduceEqDiff, List.map_cons, List.map_nil, decide_true, Bool.not_true, yieldO_eq, yO, yV_bool, some_true, List.getElem?_cons_zero, List.getElem?_cons_succ, ↓bindO_some, ↓bindF_some, h4, hy]
      exact ⟨_, _, _, rfl, by simp, rfl, vo, out, -1, by simp only [upd_get, ↓reduceIte, Nat.reduceEqDiff, h3], by simp only [upd_get, ↓reduceIte, Nat.reduceEqDiff, h4, hy], ho, old, hw, by omega, hd, by rw [← hy]; exact hval, .inr rfl⟩
    · left
      have s1 := split_run (z := c) (by rcases hM with h | h | h <;> omega) (by rcases hM with h | h | h <;> omega) n H' hn
      obtain ⟨v2, H2, ep, o2, old2, wf2⟩ := ho.pushI hw old.1 (by unfold maxA; omega) (c % 100000000)
      simp (disch := omega) only [Tryz.f46, Option.getD_some, atC, es_seq, es_region, es_cond, es_block, es_skip, ops_nil, ops_cons, ops_consG, st_move, st_assign, sy_pick, pickS_true, st_fun, sy_bin, sy_append eL pI, sy_build1 eL oI, sy_ext, ext_20, ext_21, binS_neq, bindO_some, bindF_some, bindX_normal, blkX_normal, condX_true, iteB_true, ev_tmp, ev_const, ev_func, putA, upd_at, Option.map_some, ↓reduceIte, Nat.reduceEqDiff, List.map_cons, List.map_nil, decide_false, Bool.not_false, yieldO_eq, yO, yV_bool, List.getElem?_cons_zero, List.getElem?_cons_succ, beq_self_eq_true, ↓bindO_some, ↓bindF_some, ↓bindX_normal, ↓condX_true, ↓iteB_true, scal_vi, h3, h4, hz, hy, s1, ep]
      refine ⟨_, _, rfl, q - 1, by rcases hM with h | h | h <;> omega, v2, _, c / 100000000, by simp only [upd_get, ↓reduceIte, Nat.reduceEqDiff], by simp only [upd_get, ↓reduceIte], o2, old.trans old2, wf2, by rw [List.length_append, List.length_singleton]; rcases hM with h | h | h <;> omega, hd.app (Dg.one (by omega) (by unfold B; omega)), carry_step z hval, ?_⟩
      rcases hM with h | h | h
      · omega
      · exact .inl ⟨by omega, by omega⟩
      · exact .inr (.inl ⟨by omega, by omega, by omega⟩)
theorem norm_loop3 {H0 H1 : Heap} {vo : Value} {out : List Int} (ho : R H1 vo (ints out)) (hd : Dg out) (old0 : Old H0.length H0 H1) (hw1 : WF H1) (hol : out.length ≤ 1000) (call : CallF) (m nt : Nat) {a : Fr} {k : Nat} (hk : out.length < k)
    (h3 : a 3 = vo) (h12 : a 12 = .slice none 0 0) (h13 : a 13 = vi 0) (h14 : a 14 = vi (0 : Nat)) :
    ∃ x a' H', loopN (evS Tryz.prog call m nt none normC) k a H1 = some (x, a', H') ∧ x = .exit 4 ∧ ∃ vs sz b, a' 12 = vs ∧ a' 13 = vi b ∧ O H1.length H' vs (ints sz) ∧ Old H1.length H1 H' ∧ WF H' ∧ sz.length = out.length ∧ Dg sz ∧ val sz = b * B ^ out.length - val out ∧ (b = 0 ∨ b = 1) := by
  refine loop_up out.length (fun i a H' => a 3 = vo ∧ a 14 = vi i ∧ ∃ vs sz b, a 12 = vs ∧ a 13 = vi b ∧ O H1.length H' vs (ints sz) ∧ Old H1.length H1 H' ∧ WF H' ∧ sz.length = i ∧ Dg sz ∧ val sz = b * B ^ i - val (out.take i) ∧ (b = 0 ∨ b = 1)) _ ?_ ?_ hk
    ⟨h3, h14, _, [], 0, h12, h13, O.nil _ _, Old.refl _ _, hw1, rfl, Dg.nil, by simp [val], .inl rfl⟩
  · intro i a H' hi ⟨h3, h14, vs, sz, b, h12, h13, hs, old, hw, hsl, hds, hval, hb⟩
    left
    rw [show normC = atC [1, 1, 1, 1, 1, 1, 1, 1, 0, 1, 0, 0] ((Tryz.f46.body).getD .skip) from rfl]
    have hr := ho.keep (Nat.le_refl _) old
    have hx := hd _ (getD_mem hi)
    unfold B at hx
    have hlt : (i : Int) < out.length := by omega
    have e1 : IntKind.i64.wrap (0 - out.getD i 0) = - out.getD i 0 := by rw [wr64 (by omega) (by omega)]; omega
    have e2 : IntKind.i64.wrap (- out.getD i 0 - b) = - out.getD i 0 - b := wr64 (by omega) (by omega)
    have e3 : IntKind.i64.wrap ((i : Int) + 1) = ((i + 1 : Nat) : Int) := by rw [wr64 (by omega) (by omega)]; omega
    have hst := fun (b2 : Int) => compl_step (o := out.getD i 0) (b2 := b2) hsl (by rw [List.length_take]; omega) hval
    by_cases hneg : - out.getD i 0 - b < 0
    · have e4 : IntKind.i64.wrap (- out.getD i 0 - b + 100000000) = - out.getD i 0 - b + 100000000 := wr64 (by omega) (by omega)
      obtain ⟨v2, H2, ep, o2, old2, wf2⟩ := hs.pushI hw old.1 (by unfold maxA; omega) (- out.getD i 0 - b + 100000000)
      simp (disch := omega) only [Tryz.f46, Option.getD_some, atC, es_seq, es_region, es_cond, es_block, es_skip, ops_nil, ops_cons, st_move, st_assign, sy_len uL, sy_addr eL, sy_load aI, sy_bin, sy_neg, sy_append eL pI, sy_build1 eL oI, binS_lss, binS_add, binS_sub, bindO_some, bindF_some, bindX_normal, blkX_normal, condX_true, ev_tmp, ev_const, putA, upd_at, Option.map_some, ↓reduceIte, Nat.reduceEqDiff, Int.toNat_natCast, decide_true, ↓bindO_some, ↓bindF_some, ↓bindX_normal, ↓condX_true, scal_vi, h3, h12, h13, h14, hr.lenI, hlt, hr.addrI, hr.loadI, e1, e2, hneg, e4, e3, ep]
      exact ⟨_, _, rfl, by simp only [upd_get, ↓reduceIte, Nat.reduceEqDiff, h3], by simp only [upd_get, ↓reduceIte], v2, _, 1, by simp only [upd_get, ↓reduceIte, Nat.reduceEqDiff], by simp only [upd_get, ↓reduceIte, Nat.reduceEqDiff], o2, old.trans old2, wf2, by simp [hsl], hds.app (Dg.one (by omega) (by unfold B; omega)), by rw [take_snoc' hi]; exact hst 1, .inr rfl⟩
    · obtain ⟨v2, H2, ep, o2, old2, wf2⟩ := hs.pushI hw old.1 (by unfold maxA; omega) (- out.getD i 0 - b)
      simp (disch := omega) only [Tryz.f46, Option.getD_some, atC, es_seq, es_region, es_cond, es_block, es_skip, ops_nil, ops_cons, st_move, st_assign, sy_len uL, sy_addr eL, sy_load aI, sy_bin, sy_neg, sy_append eL pI, sy_build1 eL oI, binS_lss, binS_add, binS_sub, bindO_some, bindF_some, bindX_normal, blkX_normal, condX_true, condX_false, ev_tmp, ev_const, putA, upd_at, Option.map_some, ↓reduceIte, Nat.reduceEqDiff, Int.toNat_natCast, decide_true, decide_false, ↓bindO_some, ↓bindF_some, ↓bindX_normal, ↓condX_true, ↓condX_false, scal_vi, h3, h12, h13, h14, hr.lenI, hlt, hr.addrI, hr.loadI, e1, e2, hneg, e3, ep]
      exact ⟨_, _, rfl, by simp only [upd_get, ↓reduceIte, Nat.reduceEqDiff, h3], by simp only [upd_get, ↓reduceIte], v2, _, 0, by simp only [upd_get, ↓reduceIte, Nat.reduceEqDiff], by simp only [upd_get, ↓reduceIte, Nat.reduceEqDiff], o2, old.trans old2, wf2, by simp [hsl], hds.app (Dg.one (by omega) (by unfold B; omega)), by rw [take_snoc' hi]; have := hst 0; simpa using this, .inl rfl⟩
  · intro a H' ⟨h3, h14, vs, sz, b, h12, h13, hs, old, hw, hsl, hds, hval, hb⟩
    rw [show normC = atC [1, 1, 1, 1, 1, 1, 1, 1, 0, 1, 0, 0] ((Tryz.f46.body).getD .skip) from rfl]
    have hr := ho.keep (Nat.le_refl _) old
    simp (disch := omega) only [Tryz.f46, Option.getD_some, atC, es_seq, es_region, es_cond, es_exit, ops_nil, ops_cons, st_move, sy_len uL, sy_bin, binS_lss, bindO_some, bindF_some, bindX_normal, bindX_exit, condX_false, ev_tmp, putA, upd_at, Option.map_some, ↓reduceIte, Nat.reduceEqDiff, decide_false, ↓bindO_some, ↓bindF_some, ↓bindX_normal, ↓bindX_exit, ↓condX_false, h3, h14, hr.lenI, Int.lt_irrefl]
    exact ⟨_, _, _, rfl, by simp, rfl, vs, sz, b, by simp only [upd_get, ↓reduceIte, Nat.reduceEqDiff, h12], by simp only [upd_get, ↓reduceIte, Nat.reduceEqDiff, h13], hs, old, hw, hsl, hds, by rw [hval, List.take_length], hb⟩
theorem OneL.trans {H H1 : Heap} {r : Option (Value × Heap)} {l : List Int} (ho : Old H.length H H1) (h : OneL H1 r l) : OneL H r l := by
  obtain ⟨v', H', e, o, old, wf⟩ := h
  exact ⟨v', H', e, o.below ho.1, ho.trans (old.mono ho.1), wf⟩
theorem norm_run {H : Heap} {v : Value} {l : List Int} (hw : WF H) (hv : R H v (ints l)) (hl : l.length ≤ 900) (hb : ∀ x ∈ l, -4000000000000000000 ≤ x ∧ x ≤ 4000000000000000000) (n : Nat) (hn : 2003 ≤ n) :
    OneL H (evB Tryz.prog bC n (.func (.func 46) #[] #[]) [v] H) (nf (val l)) := by
  refine run_ofB (F := 2002) (Q := fun x => OneL H x (nf (val l))) (fun n hn => ?_) n hn
  rw [body_runS Tryz.func46 rfl (ok_fn (by rfl) Tryz.func46 rfl) (Nat.le_of_ble_eq_true rfl) (D := D0) (by kernel_rfl)]
  have key1 := fun (A : Fr) => norm_loop1 hw hv hl hb n n Tryz.f46.ntmps (by omega) (a := A) (k := n) (by omega)
  have key2 := fun (A : Fr) {H' : Heap} {vo : Value} {out : List Int} {c : Int} (ho : out.length + 2 ≤ 902) => norm_loop2 (H0 := H) (L := 902) (z := val l) (by omega) n n Tryz.f46.ntmps (by omega) (a := A) (H := H') (k := n) (by omega) (vo := vo) (out := out) (c := c)
  have key3 := fun (A : Fr) {H1 : Heap} {vo : Value} {out : List Int} (hol : out.length ≤ 902) (ho : R H1 vo (ints out)) (hd : Dg out) (old0 : Old H.length H H1) (hw1 : WF H1) => norm_loop3 (H0 := H) ho hd old0 hw1 (by omega) (evB Tryz.prog bC n) n Tryz.f46.ntmps (a := A) (k := n) (by omega)
  rw [show normA = atC [1, 1, 1, 0, 1, 0, 0] ((Tryz.f46.body).getD .skip) from rfl] at key1
  rw [show normB = atC [1, 1, 1, 1, 0, 0, 0] ((Tryz.f46.body).getD .skip) from rfl] at key2
  rw [show normC = atC [1, 1, 1, 1, 1, 1, 1, 1, 0, 1, 0, 0] ((Tryz.f46.body).getD .skip) from rfl] at key3
  simp only [Tryz.f46, Option.getD_some, atC] at key1 key2 key3
  simp (disch := omega) only [Tryz.f46, es_seq, es_region, es_cond, es_block, es_loop, es_skip, es_ret, ops_nil, ops_cons, st_move, st_assign, st_fun, sy_bin, sy_append eL pI, sy_build1 eL oI, bindO_some, bindF_some, bindX_normal, ev_tmp, ev_const, ev_func, putA, upd_at, ↓reduceIte, Nat.reduceEqDiff, List.map_cons, List.map_nil, ↓bindO_some, ↓bindF_some, ↓bindX_normal, scal_vi]
  generalize hA : upd _ 5 _ = A
  obtain ⟨x, a1, H1, e1, hx, vo, out, c, h3, h4, o1, old1, wf1, hol, hd, hval, hc1, hc2⟩ := key1 A (by subst hA; rfl) (by subst hA; rfl) (by subst hA; rfl) (by subst hA; rfl)
  subst hx
  rw [e1]
  simp (disch := omega) only [bindX_normal, blkX_exit, ↓reduceIte, ↓bindX_normal]
  clear key1 e1
  obtain ⟨x, a2, H2, e2, hx, vo, out, c, h3, h4, o2, old2, wf2, hol, hd, hval, hc⟩ := key2 a1 (by omega) h3 h4 o1 old1 wf1 (by omega) hd hval hc1 hc2
  subst hx
  rw [e2]
  simp (disch := omega) only [bindX_normal, blkX_exit, ↓reduceIte, ↓bindX_normal]
  clear key2 e2
  rcases hc with rfl | rfl
  · rw [Int.mul_zero, Int.add_zero] at hval
    obtain ⟨v3, H3, e3, o3, old3, wf3⟩ := trim_run wf2 o2.R (by omega) n (by omega)
    simp (disch := omega) only [binS_eql, bindO_some, bindF_some, bindX_normal, bindX_ret, condX_true, upd_at, Option.map_some, ↓reduceIte, Nat.reduceEqDiff, decide_true, ↓bindO_some, ↓bindF_some, ↓bindX_normal, ↓bindX_ret, ↓condX_true, fin_r, res_nil, res_tmp, pack_1, h3, h4, e3, o3.R.scal]
    refine ⟨_, _, rfl, ?_, old2.trans (old3.mono old2.1), wf3⟩
    rw [← nf_of_digs hd hval]
    exact o3.below old2.1
  · have hneg := hd.val
    have hz : ¬ (-1 : Int) = 0 := by omega
    simp (disch := omega) only [binS_eql, bindO_some, bindF_some, bindX_normal, condX_false, upd_at, ↓reduceIte, decide_false, ↓bindO_some, ↓bindF_some, ↓bindX_normal, ↓condX_false, h4, hz]
    generalize hA : upd _ 14 _ = A
    obtain ⟨x, a3, H3, e3, hx, vs, sz, b, h12, h13, o3, old3, wf3, hsl, hds, hvs, hb'⟩ := key3 A (by omega) o2.R hd old2 wf2 (by subst hA; exact h3) (by subst hA; rfl) (by subst hA; rfl) (by subst hA; rfl)
    subst hx
    rw [e3]
    clear key3 e3
    simp (disch := omega) only [bindX_normal, blkX_exit, ↓reduceIte, ↓bindX_normal]
    have bd : ∀ {m : List Int}, Dg m → ∀ x ∈ m, -4000000000000000000 ≤ x ∧ x ≤ 4000000000000000000 := fun h x hx => by have := h x hx; unfold B at this; omega
    have old23 := old2.trans (old3.mono old2.1)
    rcases hb' with rfl | rfl
    · obtain ⟨v4, H4, e4, o4, old4, wf4⟩ := o3.pushI wf3 old3.1 (by unfold maxA; omega) 1
      obtain ⟨v5, H5, e5, o5, old5, wf5⟩ := signed_run wf4 o4.R (by rw [List.length_append, List.length_singleton]; omega) (bd (hds.app (Dg.one (by omega) (by unfold B; omega)))) true n (by omega)
      have old24 := old23.trans (old4.mono old2.1)
      simp (disch := omega) only [binS_eql, bindO_some, bindF_some, bindX_normal, condX_true, upd_at, Option.map_some, ↓reduceIte, Nat.reduceEqDiff, decide_true, ↓bindO_some, ↓bindF_some, ↓bindX_normal, ↓condX_true, fin_r, res_nil, res_tmp, pack_1, h12, h13, e4, e5, o5.R.scal]
      refine ⟨_, _, rfl, ?_, old24.trans (old5.mono old24.1), wf5⟩
      have := nf_of_neg (l := sz ++ [1]) (z := val l) (hds.app (Dg.one (by omega) (by unfold B; omega))) (by rw [val_snoc, hvs, hsl]; omega)
      rw [← this]
      exact o5.below old24.1
    · obtain ⟨v5, H5, e5, o5, old5, wf5⟩ := signed_run wf3 o3.R (by omega) (bd hds) true n (by omega)
      have hone : ¬ (1 : Int) = 0 := by omega
      simp (disch := omega) only [binS_eql, bindO_some, bindF_some, bindX_normal, condX_false, upd_at, Option.map_some, ↓reduceIte, Nat.reduceEqDiff, decide_false, ↓bindO_some, ↓bindF_some, ↓bindX_normal, ↓condX_false, fin_r, res_nil, res_tmp, pack_1, h12, h13, e5, hone, o5.R.scal]
      refine ⟨_, _, rfl, ?_, old23.trans (old5.mono old23.1), wf5⟩
      have := nf_of_neg (l := sz) (z := val l) hds (by rw [hvs]; omega)
      rw [← this]
      exact o5.below old23.1
end Go.Proofs.YtmmgdgmjkhcfaaaGreat
namespace Go.Proofs.YtmmgdgmjkhcfaaaGreat
open Go Go.Abs Go.Num
set_option maxRecDepth 10000
attribute [local congr] bindO_congr bindF_congr bindX_congr condX_congr iteB_congr binS_congr pickS_congr
def NumV (H : Heap) (v : Value) (z : Int) : Prop := ∃ l, R H v (ints l) ∧ val l = z ∧ l.length ≤ 900 ∧ ∀ x ∈ l, -4000000000000000000 ≤ x ∧ x ≤ 4000000000000000000
theorem NumV.norm {H : Heap} {v : Value} {z : Int} (h : NumV H v z) (hw : WF H) (n : Nat) (hn : 2003 ≤ n) : OneL H (evB Tryz.prog bC n (.func (.func 46) #[] #[]) [v] H) (nf z) := by
  obtain ⟨l, hr, hz, hl, hb⟩ := h
  rw [← hz]
  exact norm_run hw hr hl hb n hn
theorem NumV.mono {H H' : Heap} {v : Value} {z : Int} (h : NumV H v z) (ho : Old H.length H H') : NumV H' v z := by
  obtain ⟨l, hr, h⟩ := h
  exact ⟨l, hr.mono ho, h⟩
theorem NumV.of {H : Heap} {v : Value} {z : Int} (h : R H v (ints (nf z))) (hl : (nf z).length ≤ 900) : NumV H v z :=
  ⟨nf z, h, nf_val z, hl, fun x hx => by have := nf_bound z x hx; unfold B at this; omega⟩
theorem NumV.one {H : Heap} {v : Value} {z : Int} (h : R H v (ints [z])) (h1 : -4000000000000000000 ≤ z) (h2 : z ≤ 4000000000000000000) : NumV H v z :=
  ⟨[z], h, by simp [val], by simp, fun x hx => by simp at hx; subst hx; exact ⟨h1, h2⟩⟩
theorem nfb (z : Int) : ∀ x ∈ nf z, -4000000000000000000 ≤ x ∧ x ≤ 4000000000000000000 := fun x hx => by have := nf_bound z x hx; unfold B at this; omega
theorem negative_run {H : Heap} {v : Value} {z : Int} (hv : R H v (ints (nf z))) (hl : (nf z).length ≤ 900) (n : Nat) (hn : 10 ≤ n) :
    evB Tryz.prog bC n (.func (.func 69) #[] #[]) [v] H = some (.bool (decide (z < 0)), H) := by
  refine run_ofB (F := 9) (Q := fun x => x = some (.bool (decide (z < 0)), H)) (fun n hn => ?_) n hn
  rw [body_runS Tryz.func69 rfl (ok_fn (by rfl) Tryz.func69 rfl) (Nat.le_of_ble_eq_true rfl) (D := D0) (by kernel_rfl)]
  by_cases hz : z = 0
  · subst hz
    rw [nf_zero] at hv
    have hl0 : lenS v = some 0 := hv.lenI
    have h1 : decide ((0 : Int) < ((0 : Nat) : Int)) = false := rfl
    have h2 : decide ((0 : Int) < 0) = false := rfl
    simp only [Tryz.f69, es_seq, es_region, es_ret, ops_nil, ops_cons, ops_consG, st_move, st_assign, sy_pick, pickS_false, sy_len uL, sy_bin, binS_gtr, bindO_some, bindF_some, bindX_normal, iteB_false, ev_tmp, ev_const, putA, upd_at, Option.map_some, ↓reduceIte, Nat.reduceEqDiff, frOf_0, yieldO_eq, yO, yV_bool, some_true, List.getElem?_cons_zero, List.getElem?_cons_succ, ↓bindO_some, ↓bindF_some, ↓bindX_normal, ↓iteB_false, fin_r, res_nil, res_tmp, pack_1, scal_bool, hl0, h1, h2]
  · obtain ⟨h1, h2⟩ := nf_last hz
    obtain ⟨c, hc⟩ : ∃ c, (nf z).length = c + 1 := ⟨(nf z).length - 1, by omega⟩
    rw [hc, Nat.add_sub_cancel] at h2
    have h3 : (0 : Int) < ((nf z).length : Int) := by omega
    have e1 : IntKind.i64.wrap (((nf z).length : Int) - 1) = (c : Int) := by rw [wr64 (by omega) (by omega)]; omega
    have e2 : decide ((nf z).getD c 0 < 0) = decide (z < 0) := by rw [decide_eq_decide]; exact h2
    have a1 : addrS 1 v (vi c) = some (pt v c) := by have := hv.addrI (i := (c : Int)) (by omega) (by omega); simpa using this
    have l1 : loadS (pt v c) H = some (vi ((nf z).getD c 0)) := hv.loadI (by omega)
    simp only [Tryz.f69, es_seq, es_region, es_ret, ops_nil, ops_cons, ops_consG, st_move, st_assign, sy_pick, pickS_true, sy_len uL, sy_addr eL, sy_load aI, sy_bin, binS_lss, binS_gtr, binS_sub, bindO_some, bindF_some, bindX_normal, iteB_true, ev_tmp, ev_const, putA, upd_at, Option.map_some, ↓reduceIte, Nat.reduceEqDiff, frOf_0, decide_true, yieldO_eq, yO, yV_bool, List.getElem?_cons_zero, List.getElem?_cons_succ, beq_self_eq_true, ↓bindO_some, ↓bindF_some, ↓bindX_normal, ↓iteB_true, fin_r, res_nil, res_tmp, pack_1, scal_bool, hv.lenI, h3, e1, a1, l1, e2]
theorem size_run {H : Heap} {v : Value} {z : Int} (hw : WF H) (hv : R H v (ints (nf z))) (hl : (nf z).length ≤ 900) (n : Nat) (hn : 2002 ≤ n) :
    OneL H (evB Tryz.prog bC n (.func (.func 68) #[] #[]) [v] H) (nf z.natAbs) := by
  refine run_ofB (F := 2001) (Q := fun x => OneL H x (nf z.natAbs)) (fun n hn => ?_) n hn
  rw [body_runS Tryz.func68 rfl (ok_fn (by rfl) Tryz.func68 rfl) (Nat.le_of_ble_eq_true rfl) (D := D0) (by kernel_rfl)]
  have s1 := negative_run hv hl n (by omega)
  obtain ⟨v2, H2, e2, o2, old2, wf2⟩ := signed_run hw hv (by omega) (nfb z) (decide (z < 0)) n (by omega)
  simp (disch := omega) only [Tryz.f68, es_seq, es_region, es_ret, ops_nil, ops_cons, st_move, st_assign, st_fun, bindO_some, bindF_some, bindX_normal, ev_tmp, ev_const, ev_func, putA, upd_at, Option.map_some, ↓reduceIte, Nat.reduceEqDiff, frOf_0, List.map_cons, List.map_nil, ↓bindO_some, ↓bindF_some, ↓bindX_normal, fin_r, res_nil, res_tmp, pack_1, s1, e2, o2.R.scal]
  refine ⟨_, _, rfl, ?_, old2, wf2⟩
  rw [← nf_abs]
  rw [trim_nf] at o2
  by_cases h : z < 0
  · simpa [h] using o2
  · simpa [h] using o2
theorem neg_run {H : Heap} {v : Value} {z : Int} (hw : WF H) (hv : NumV H v z) (hl : (nf z).length ≤ 900) (n : Nat) (hn : 2004 ≤ n) :
    OneL H (evB Tryz.prog bC n (.func (.func 70) #[] #[]) [v] H) (nf (-z)) := by
  refine run_ofB (F := 2003) (Q := fun x => OneL H x (nf (-z))) (fun n hn => ?_) n hn
  rw [body_runS Tryz.func70 rfl (ok_fn (by rfl) Tryz.func70 rfl) (Nat.le_of_ble_eq_true rfl) (D := D0) (by kernel_rfl)]
  obtain ⟨v1, H1, e1, o1, old1, wf1⟩ := hv.norm hw n (by omega)
  obtain ⟨v2, H2, e2, o2, old2, wf2⟩ := signed_run wf1 o1.R (by omega) (nfb z) true n (by omega)
  simp (disch := omega) only [Tryz.f70, es_seq, es_region, es_ret, ops_nil, ops_cons, st_move, st_assign, st_fun, bindO_some, bindF_some, bindX_normal, ev_tmp, ev_const, ev_func, putA, upd_at, Option.map_some, ↓reduceIte, Nat.reduceEqDiff, frOf_0, List.map_cons, List.map_nil, ↓bindO_some, ↓bindF_some, ↓bindX_normal, fin_r, res_nil, res_tmp, pack_1, e1, e2, o2.R.scal]
  refine ⟨_, _, rfl, ?_, old1.trans (old2.mono old1.1), wf2⟩
  rw [← nf_neg']
  rw [cond_true, trim_nf] at o2
  exact o2.below old1.1
noncomputable def addA : Code := atC [1, 1, 1, 0, 1, 0, 0] ((Tryz.f47.body).getD .skip)
theorem add_loop {H0 : Heap} {vx vy : Value} {x y : Int} (hw0 : WF H0) (hx : R H0 vx (ints (nf x))) (hy : R H0 vy (ints (nf y))) (lx : (nf x).length ≤ 900) (ly : (nf y).length ≤ 900) (call : CallF) (m nt : Nat) {a : Fr} {k : Nat} (hk : max (nf x).length (nf y).length < k)
    (h0 : a 0 = vx) (h1 : a 1 = vy) (h5 : a 5 = .slice none 0 0) (h6 : a 6 = vi (0 : Nat)) :
    ∃ r a' H', loopN (evS Tryz.prog call m nt none addA) k a H0 = some (r, a', H') ∧ r = .exit 0 ∧ ∃ vo out, a' 5 = vo ∧ O H0.length H' vo (ints out) ∧ Old H0.length H0 H' ∧ WF H' ∧ out.length ≤ 900 ∧ val out = x + y ∧ ∀ z ∈ out, -4000000000000000000 ≤ z ∧ z ≤ 4000000000000000000 := by
  refine loop_up (max (nf x).length (nf y).length) (fun i a H' => a 0 = vx ∧ a 1 = vy ∧ a 6 = vi i ∧ ∃ vo out, a 5 = vo ∧ O H0.length H' vo (ints out) ∧ Old H0.length H0 H' ∧ WF H' ∧ out.length = i ∧ val out = val ((nf x).take i) + val ((nf y).take i) ∧ ∀ z ∈ out, -4000000000000000000 ≤ z ∧ z ≤ 4000000000000000000) _ ?_ ?_ hk
    ⟨h0, h1, h6, _, [], h5, O.nil _ _, Old.refl _ _, hw0, rfl, by simp [val], fun z hz => by cases hz⟩
  · intro i a H' hi ⟨h0, h1, h6, vo, out, h5, ho, old, hw, hol, hval, hb⟩
    left
    rw [show addA = atC [1, 1, 1, 0, 1, 0, 0] ((Tryz.f47.body).getD .skip) from rfl]
    have hx2 := hx.keep (Nat.le_refl _) old
    have hy2 := hy.keep (Nat.le_refl _) old
    have bx := nf_getD x i
    have by_ := nf_getD y i
    have e3 : IntKind.i64.wrap ((i : Int) + 1) = ((i + 1 : Nat) : Int) := by rw [wr64 (by omega) (by omega)]; omega
    have e4 : IntKind.i64.wrap ((nf x).getD i 0 + (nf y).getD i 0) = (nf x).getD i 0 + (nf y).getD i 0 := wr64 (by omega) (by omega)
    have e5 : IntKind.i64.wrap (0 + (nf y).getD i 0) = 0 + (nf y).getD i 0 := wr64 (by omega) (by omega)
    have hv2 := fun z => val_snoc out z
    have ht1 := val_take_succ (nf x) i
    have ht2 := val_take_succ (nf y) i
    have hml := fun p : Int => Int.mul_add p ((nf x).getD i 0) ((nf y).getD i 0)
    have hb' : ∀ z, -4000000000000000000 ≤ z → z ≤ 4000000000000000000 → ∀ w ∈ out ++ [z], -4000000000000000000 ≤ w ∧ w ≤ 4000000000000000000 := fun z z1 z2 w hw => by
      rcases List.mem_append.1 hw with h | h
      · exact hb w h
      · simp at h; subst h; exact ⟨z1, z2⟩
    by_cases c1 : (i : Int) < (nf x).length
    · by_cases c2 : (i : Int) < (nf y).length
      · obtain ⟨v2, H2, ep, o2, old2, wf2⟩ := ho.pushI hw old.1 (by unfold maxA; omega) ((nf x).getD i 0 + (nf y).getD i 0)
        simp (disch := omega) only [Tryz.f47, Option.getD_some, atC, es_seq, es_region, es_cond, es_block, es_skip, ops_nil, ops_cons, ops_consG, st_move, st_assign, sy_pick, pickS_true, sy_len uL, sy_addr eL, sy_load aI, sy_bin, sy_append eL pI, sy_build1 eL oI, binS_lss, binS_add, bindO_some, bindF_some, bindX_normal, blkX_normal, condX_true, iteB_false, ev_tmp, ev_const, putA, upd_at, Option.map_some, ↓reduceIte, Nat.reduceEqDiff, Int.toNat_natCast, decide_true, Bool.not_true, yieldO_eq, yO, yV_bool, some_false, List.getElem?_cons_zero, List.getElem?_cons_succ, ↓bindO_some, ↓bindF_some, ↓bindX_normal, ↓condX_true, ↓iteB_false, scal_vi, h0, h1, h5, h6, hx2.lenI, hy2.lenI, c1, c2, hx2.addrI, hx2.loadI, hy2.addrI, hy2.loadI, e3, e4, ep]
        exact ⟨_, _, rfl, by simp only [upd_get, ↓reduceIte, Nat.reduceEqDiff, h0], by simp only [upd_get, ↓reduceIte, Nat.reduceEqDiff, h1], by simp only [upd_get, ↓reduceIte], v2, _, by simp only [upd_get, ↓reduceIte, Nat.reduceEqDiff], o2, old.trans old2, wf2, by simp [hol], by rw [hv2, hol, hval, ht1, ht2, hml]; omega, hb' _ (by omega) (by omega)⟩
      · have hz : (nf y).getD i 0 = 0 := by rw [List.getD_eq_getElem?_getD, List.getElem?_eq_none (by omega)]; rfl
        obtain ⟨v2, H2, ep, o2, old2, wf2⟩ := ho.pushI hw old.1 (by unfold maxA; omega) ((nf x).getD i 0)
        simp (disch := omega) only [Tryz.f47, Option.getD_some, atC, es_seq, es_region, es_cond, es_block, es_skip, ops_nil, ops_cons, ops_consG, st_move, st_assign, sy_pick, pickS_true, sy_len uL, sy_addr eL, sy_load aI, sy_bin, sy_append eL pI, sy_build1 eL oI, binS_lss, binS_add, bindO_some, bindF_some, bindX_normal, blkX_normal, condX_true, condX_false, iteB_false, ev_tmp, ev_const, putA, upd_at, Option.map_some, ↓reduceIte, Nat.reduceEqDiff, Int.toNat_natCast, decide_true, decide_false, Bool.not_true, yieldO_eq, yO, yV_bool, some_false, List.getElem?_cons_zero, List.getElem?_cons_succ, ↓bindO_some, ↓bindF_some, ↓bindX_normal, ↓condX_true, ↓condX_false, ↓iteB_false, scal_vi, h0, h1, h5, h6, hx2.lenI, hy2.lenI, c1, c2, hx2.addrI, hx2.loadI, e3, ep]
        exact ⟨_, _, rfl, by simp only [upd_get, ↓reduceIte, Nat.reduceEqDiff, h0], by simp only [upd_get, ↓reduceIte, Nat.reduceEqDiff, h1], by simp only [upd_get, ↓reduceIte], v2, _, by simp only [upd_get, ↓reduceIte, Nat.reduceEqDiff], o2, old.trans old2, wf2, by simp [hol], by rw [hv2, hol, hval, ht1, ht2, hz]; omega, hb' _ (by omega) (by omega)⟩
    · have c2 : (i : Int) < (nf y).length := by omega
      have hz : (nf x).getD i 0 = 0 := by rw [List.getD_eq_getElem?_getD, List.getElem?_eq_none (by omega)]; rfl
      obtain ⟨v2, H2, ep, o2, old2, wf2⟩ := ho.pushI hw old.1 (by unfold maxA; omega) (0 + (nf y).getD i 0)
      simp (disch := omega) only [Tryz.f47, Option.getD_some, atC, es_seq, es_region, es_cond, es_block, es_skip, ops_nil, ops_cons, ops_consG, st_move, st_assign, sy_pick, pickS_false, sy_len uL, sy_addr eL, sy_load aI, sy_bin, sy_append eL pI, sy_build1 eL oI, binS_lss, binS_add, bindO_some, bindF_some, bindX_normal, blkX_normal, condX_true, condX_false, iteB_true, ev_tmp, ev_const, putA, upd_at, Option.map_some, ↓reduceIte, Nat.reduceEqDiff, Int.toNat_natCast, decide_true, decide_false, yieldO_eq, yO, yV_bool, List.getElem?_cons_zero, List.getElem?_cons_succ, beq_self_eq_true, ↓bindO_some, ↓bindF_some, ↓bindX_normal, ↓condX_true, ↓condX_false, ↓iteB_true, scal_vi, h0, h1, h5, h6, hx2.lenI, hy2.lenI, c1, c2, hy2.addrI, hy2.loadI, e3, e5, ep]
      exact ⟨_, _, rfl, by simp only [upd_get, ↓reduceIte, Nat.reduceEqDiff, h0], by simp only [upd_get, ↓reduceIte, Nat.reduceEqDiff, h1], by simp only [upd_get, ↓reduceIte], v2, _, by simp only [upd_get, ↓reduceIte, Nat.reduceEqDiff], o2, old.trans old2, wf2, by simp [hol], by rw [hv2, hol, hval, ht1, ht2, hz, Int.zero_add]; omega, hb' _ (by omega) (by omega)⟩
  · intro a H' ⟨h0, h1, h6, vo, out, h5, ho, old, hw, hol, hval, hb⟩
    rw [show addA = atC [1, 1, 1, 0, 1, 0, 0] ((Tryz.f47.body).getD .skip) from rfl]
    have hx2 := hx.keep (Nat.le_refl _) old
    have hy2 := hy.keep (Nat.le_refl _) old
    have c1 : ¬ ((max (nf x).length (nf y).length : Nat) : Int) < (nf x).length := by omega
    have c2 : ¬ ((max (nf x).length (nf y).length : Nat) : Int) < (nf y).length := by omega
    simp (disch := omega) only [Tryz.f47, Option.getD_some, atC, es_seq, es_region, es_cond, es_exit, ops_nil, ops_cons, ops_consG, st_move, sy_pick, pickS_false, sy_len uL, sy_bin, binS_lss, bindO_some, bindF_some, bindX_normal, bindX_exit, condX_false, iteB_true, ev_tmp, putA, upd_at, Option.map_some, ↓reduceIte, Nat.reduceEqDiff, decide_false, yieldO_eq, yO, yV_bool, List.getElem?_cons_zero, List.getElem?_cons_succ, beq_self_eq_true, ↓bindO_some, ↓bindF_some, ↓bindX_normal, ↓bindX_exit, ↓condX_false, ↓iteB_true, h0, h1, h6, hx2.lenI, hy2.lenI, c1, c2]
    refine ⟨_, _, _, rfl, by simp, rfl, vo, out, by simp only [upd_get, ↓reduceIte, Nat.reduceEqDiff, h5], ho, old, hw, by omega, ?_, hb⟩
    rw [hval, List.take_of_length_le (by omega), List.take_of_length_le (by omega), nf_val, nf_val]
theorem add_run {H : Heap} {vx vy : Value} {x y : Int} (hw : WF H) (hx : NumV H vx x) (hy : NumV H vy y) (lx : (nf x).length ≤ 900) (ly : (nf y).length ≤ 900) (n : Nat) (hn : 2004 ≤ n) :
    OneL H (evB Tryz.prog bC n (.func (.func 47) #[] #[]) [vx, vy] H) (nf (x + y)) := by
  refine run_ofB (F := 2003) (Q := fun r => OneL H r (nf (x + y))) (fun n hn => ?_) n hn
  rw [body_runS Tryz.func47 rfl (ok_fn (by rfl) Tryz.func47 rfl) (Nat.le_of_ble_eq_true rfl) (D := D0) (by kernel_rfl)]
  obtain ⟨v1, H1, e1, o1, old1, wf1⟩ := hx.norm hw n (by omega)
  obtain ⟨v2, H2, e2, o2, old2, wf2⟩ := (hy.mono old1).norm wf1 n (by omega)
  have old12 := old1.trans (old2.mono old1.1)
  have key := fun (A : Fr) => add_loop wf2 (o1.R.mono old2) o2.R lx ly (evB Tryz.prog bC n) n Tryz.f47.ntmps (a := A) (k := n) (by omega)
  rw [show addA = atC [1, 1, 1, 0, 1, 0, 0] ((Tryz.f47.body).getD .skip) from rfl] at key
  simp only [Tryz.f47, Option.getD_some, atC] at key
  simp (disch := omega) only [Tryz.f47, es_seq, es_region, es_block, es_loop, es_ret, ops_nil, ops_cons, st_move, st_assign, st_fun, bindO_some, bindF_some, bindX_normal, ev_tmp, ev_const, ev_func, putA, upd_at, ↓reduceIte, Nat.reduceEqDiff, frOf_0, frOf_1, List.map_cons, List.map_nil, ↓bindO_some, ↓bindF_some, ↓bindX_normal, e1, e2]
  generalize hA : upd _ 6 _ = A
  obtain ⟨r, a', H', e, hr, vo, out, h5, ho, old, hwf, hol, hval, hb⟩ := key A (by subst hA; rfl) (by subst hA; rfl) (by subst hA; rfl) (by subst hA; rfl)
  subst hr
  rw [e]
  obtain ⟨v3, H3, e3, o3, old3, wf3⟩ := norm_run hwf ho.R hol hb n (by omega)
  simp (disch := omega) only [bindO_some, bindF_some, bindX_normal, blkX_exit, upd_at, Option.map_some, ↓reduceIte, ↓bindO_some, ↓bindF_some, ↓bindX_normal, fin_r, res_nil, res_tmp, pack_1, h5, e3, o3.R.scal]
  have old' := old12.trans (old.mono old12.1)
  refine ⟨_, _, rfl, ?_, old'.trans (old3.mono old'.1), wf3⟩
  rw [← hval]
  exact o3.below old'.1
theorem sub_run {H : Heap} {vx vy : Value} {x y : Int} (hw : WF H) (hx : NumV H vx x) (hy : NumV H vy y) (lx : (nf x).length ≤ 900) (ly : (nf y).length ≤ 900) (n : Nat) (hn : 2005 ≤ n) :
    OneL H (evB Tryz.prog bC n (.func (.func 71) #[] #[]) [vx, vy] H) (nf (x - y)) := by
  refine run_ofB (F := 2004) (Q := fun r => OneL H r (nf (x - y))) (fun n hn => ?_) n hn
  rw [body_runS Tryz.func71 rfl (ok_fn (by rfl) Tryz.func71 rfl) (Nat.le_of_ble_eq_true rfl) (D := D0) (by kernel_rfl)]
  have ln : (nf (-y)).length ≤ 900 := by rw [← nf_neg', List.length_map]; exact ly
  obtain ⟨v1, H1, e1, o1, old1, wf1⟩ := neg_run hw hy ly n (by omega)
  obtain ⟨v2, H2, e2, o2, old2, wf2⟩ := add_run wf1 (hx.mono old1) (.of o1.R ln) lx ln n (by omega)
  simp (disch := omega) only [Tryz.f71, es_seq, es_region, es_ret, ops_nil, ops_cons, st_move, st_assign, st_fun, bindO_some, bindF_some, bindX_normal, ev_tmp, ev_const, ev_func, putA, upd_at, Option.map_some, ↓reduceIte, Nat.reduceEqDiff, frOf_0, frOf_1, List.map_cons, List.map_nil, ↓bindO_some, ↓bindF_some, ↓bindX_normal, fin_r, res_nil, res_tmp, pack_1, e1, e2, o2.R.scal]
  refine ⟨_, _, rfl, ?_, old1.trans (old2.mono old1.1), wf2⟩
  rw [Int.sub_eq_add_neg]
  exact o2.below old1.1
end Go.Proofs.YtmmgdgmjkhcfaaaGreat
namespace Go.Proofs.YtmmgdgmjkhcfaaaGreat
open Go Go.Abs Go.Num
set_option maxRecDepth 10000
attribute [local congr] bindO_congr bindF_congr bindX_congr condX_congr iteB_congr binS_congr pickS_congr
theorem zeros_I : ∀ n : Nat, zeros Tryz.prog 3 1 n = some (ints (List.replicate n 0)) := by
  have h : ∀ n : Nat, repl n [vi 0] = ints (List.replicate n 0) := by
    intro n
    induction n with
    | zero => rfl
    | succ n ih => rw [repl, ih, List.replicate_succ]; rfl
  intro n
  have e : zeros Tryz.prog 3 1 n = some (repl n [vi 0]) := by
    have h0 : zeroT Tryz.prog 3 = some (vi 0) := by kernel_rfl
    unfold zeros
    rw [h0]
    rfl
  rw [e, h]
theorem val_zeros (n : Nat) : val (List.replicate n 0) = 0 := by
  induction n with
  | zero => rfl
  | succ n ih => rw [List.replicate_succ]; simp [val, ih]
noncomputable def mulA : Code := atC [1, 1, 1, 0, 1, 0, 0] ((Tryz.f26.body).getD .skip)
noncomputable def mulB : Code := atC [1, 1, 1, 0, 1, 0, 0, 1, 0, 0, 1, 0, 1, 0, 0] ((Tryz.f26.body).getD .skip)
theorem prod_bd {a b : Int} (ha : -100000000 < a ∧ a < 100000000) (hb : -100000000 < b ∧ b < 100000000) : -10000000000000000 ≤ a * b ∧ a * b ≤ 10000000000000000 := by
  have h1 : a.natAbs ≤ 100000000 := by omega
  have h2 : b.natAbs ≤ 100000000 := by omega
  have h3 : a.natAbs * b.natAbs ≤ 100000000 * 100000000 := Nat.mul_le_mul h1 h2
  have h4 : (a * b).natAbs = a.natAbs * b.natAbs := Int.natAbs_mul a b
  omega
theorem mul_inner {H0 : Heap} {vx vy vr : Value} {x y : Int} {i : Nat} {row0 : List Int} (hx : R H0 vx (ints (nf x))) (hy : R H0 vy (ints (nf y))) (hi : i < (nf x).length) (lx : (nf x).length ≤ 400) (ly : (nf y).length ≤ 400)
    {B0 : Nat} {H : Heap} (hB0 : H0.length ≤ B0) (old0 : Old B0 H0 H) (hBH : B0 ≤ H.length) (hw : WF H) (ho : O B0 H vr (ints row0)) (hr0 : row0.length = i) (hv0 : val row0 = 0) (hz0 : ∀ z ∈ row0, -10000000000000000 ≤ z ∧ z ≤ 10000000000000000) (call : CallF) (m nt : Nat) {a : Fr} {k : Nat} (hk : (nf y).length < k)
    (h0 : a 0 = vx) (h1 : a 1 = vy) (h6 : a 6 = vi i) (h7 : a 7 = vr) (h8 : a 8 = vi (0 : Nat)) (v5 : Value) (h5 : a 5 = v5) :
    ∃ r a' H', loopN (evS Tryz.prog call m nt none mulB) k a H = some (r, a', H') ∧ r = .exit 2 ∧ a' 0 = vx ∧ a' 1 = vy ∧ a' 6 = vi i ∧ a' 5 = v5 ∧ ∃ vo out, a' 7 = vo ∧ O B0 H' vo (ints out) ∧ Old B0 H H' ∧ WF H' ∧ out.length ≤ 900 ∧ val out = B ^ i * ((nf x).getD i 0 * y) ∧ (∀ z ∈ out, -10000000000000000 ≤ z ∧ z ≤ 10000000000000000) := by
  refine loop_up (nf y).length (fun j a H' => a 0 = vx ∧ a 1 = vy ∧ a 6 = vi i ∧ a 5 = v5 ∧ a 8 = vi j ∧ ∃ vo out, a 7 = vo ∧ O B0 H' vo (ints out) ∧ Old B0 H H' ∧ WF H' ∧ out.length = i + j ∧ val out = B ^ i * ((nf x).getD i 0 * val ((nf y).take j)) ∧ (∀ z ∈ out, -10000000000000000 ≤ z ∧ z ≤ 10000000000000000)) _ ?_ ?_ hk
    ⟨h0, h1, h6, h5, h8, _, row0, h7, ho, Old.refl _ _, hw, hr0, by simp [val, hv0], hz0⟩
  · intro j a H' hj ⟨h0, h1, h6, h5, h8, vo, out, h7, ho, old, hw, hol, hval, hb⟩
    left
    rw [show mulB = atC [1, 1, 1, 0, 1, 0, 0, 1, 0, 0, 1, 0, 1, 0, 0] ((Tryz.f26.body).getD .skip) from rfl]
    have hx2 := hx.keep hB0 (old0.trans old)
    have hy2 := hy.keep hB0 (old0.trans old)
    have bx := nf_getD x i
    have by_ := nf_getD y j
    have bp := prod_bd bx by_
    have hlt : (j : Int) < (nf y).length := by omega
    have e3 : IntKind.i64.wrap ((j : Int) + 1) = ((j + 1 : Nat) : Int) := by rw [wr64 (by omega) (by omega)]; omega
    have e4 : IntKind.i64.wrap ((nf x).getD i 0 * (nf y).getD j 0) = (nf x).getD i 0 * (nf y).getD j 0 := wr64 (by omega) (by omega)
    obtain ⟨v2, H2, ep, o2, old2, wf2⟩ := ho.pushI hw (Nat.le_trans hBH old.1) (by unfold maxA; omega) ((nf x).getD i 0 * (nf y).getD j 0)
    simp (disch := omega) only [Tryz.f26, Option.getD_some, atC, es_seq, es_region, es_draw, d0, es_cond, es_block, es_skip, ops_nil, ops_cons, opsV_nil, opsV_cons, st_move, st_assign, sy_len uL, sy_addr eL, sy_load aI, sy_bin, sy_append eL pI, sy_build1 eL oI, binS_lss, binS_add, binS_mul, bindO_some, bindF_some, bindX_normal, blkX_normal, condX_true, iteB_true, iteB_false, ev_tmp, ev_const, putA, upd_at, Option.map_some, ↓reduceIte, Nat.reduceEqDiff, Int.toNat_natCast, decide_true, ↓bindO_some, ↓bindF_some, ↓bindX_normal, ↓condX_true, ↓iteB_true, ↓iteB_false, reflV_load, reflV_move, reflV_assign, reflV_bin, reflV_addr, reflV_call, reflV_build, vEq_vi, scal_vi, h0, h1, h6, h7, h8, hy2.lenI, hlt, hx2.addrI, hx2.loadI, hy2.addrI, hy2.loadI, e3, e4, ep]
    refine ⟨_, _, rfl, by simp only [upd_get, ↓reduceIte, Nat.reduceEqDiff, h0], by simp only [upd_get, ↓reduceIte, Nat.reduceEqDiff, h1], by simp only [upd_get, ↓reduceIte, Nat.reduceEqDiff, h6], by simp only [upd_get, ↓reduceIte, Nat.reduceEqDiff, h5], by simp only [upd_get, ↓reduceIte], v2, _, by simp only [upd_get, ↓reduceIte, Nat.reduceEqDiff], o2, old.trans old2, wf2, by rw [List.length_append, List.length_singleton]; omega, ?_, fun w hw => ?_⟩
    · rw [val_snoc, hol, hval, val_take_succ, Int.mul_add, Int.mul_add, Int.pow_add]
      congr 1
      rw [Int.mul_assoc, Int.mul_left_comm (B ^ j)]
    · rcases List.mem_append.1 hw with h | h
      · exact hb w h
      · simp at h; subst h; simpa using bp
  · intro a H' ⟨h0, h1, h6, h5, h8, vo, out, h7, ho, old, hw, hol, hval, hb⟩
    rw [show mulB = atC [1, 1, 1, 0, 1, 0, 0, 1, 0, 0, 1, 0, 1, 0, 0] ((Tryz.f26.body).getD .skip) from rfl]
    have hy2 := hy.keep hB0 (old0.trans old)
    simp (disch := omega) only [Tryz.f26, Option.getD_some, atC, es_seq, es_region, es_cond, es_exit, ops_nil, ops_cons, st_move, sy_len uL, sy_bin, binS_lss, bindO_some, bindF_some, bindX_normal, bindX_exit, condX_false, ev_tmp, putA, upd_at, Option.map_some, ↓reduceIte, Nat.reduceEqDiff, decide_false, ↓bindO_some, ↓bindF_some, ↓bindX_normal, ↓bindX_exit, ↓condX_false, h1, h8, hy2.lenI, Int.lt_irrefl]
    exact ⟨_, _, _, rfl, by simp, rfl, by simp only [upd_get, ↓reduceIte, Nat.reduceEqDiff, h0], by simp only [upd_get, ↓reduceIte, Nat.reduceEqDiff, h1], by simp only [upd_get, ↓reduceIte, Nat.reduceEqDiff, h6], by simp only [upd_get, ↓reduceIte, Nat.reduceEqDiff, h5], vo, out, by simp only [upd_get, ↓reduceIte, Nat.reduceEqDiff, h7], ho, old, hw, by omega, by rw [hval, List.take_length, nf_val], hb⟩
theorem mul_outer {H0 : Heap} {vx vy : Value} {x y : Int} (hw0 : WF H0) (hx : R H0 vx (ints (nf x))) (hy : R H0 vy (ints (nf y))) (lx : (nf x).length ≤ 400) (ly : (nf y).length ≤ 400) (n m nt : Nat) (hn : 2010 ≤ n) (hm : 1000 ≤ m) {a : Fr} {k : Nat} (hk : (nf x).length < k)
    (h0 : a 0 = vx) (h1 : a 1 = vy) (h5 : a 5 = .slice none 0 0) (h6 : a 6 = vi (0 : Nat)) :
    ∃ r a' H', loopN (evS Tryz.prog (evB Tryz.prog bC n) m nt none mulA) k a H0 = some (r, a', H') ∧ r = .exit 0 ∧ ∃ vo, a' 5 = vo ∧ R H' vo (ints (nf (x * y))) ∧ Old H0.length H0 H' ∧ WF H' := by
  refine loop_up (nf x).length (fun i a H' => a 0 = vx ∧ a 1 = vy ∧ a 6 = vi i ∧ ∃ vo, a 5 = vo ∧ R H' vo (ints (nf (val ((nf x).take i) * y))) ∧ Old H0.length H0 H' ∧ WF H') _ ?_ ?_ hk
    ⟨h0, h1, h6, _, h5, by simp [val, nf_zero]; exact .inl ⟨rfl, rfl⟩, Old.refl _ _, hw0⟩
  · intro i a H' hi ⟨h0, h1, h6, vo, h5, ho, old, hw⟩
    left
    rw [show mulA = atC [1, 1, 1, 0, 1, 0, 0] ((Tryz.f26.body).getD .skip) from rfl]
    have hx2 := hx.keep (Nat.le_refl _) old
    have hy2 := hy.keep (Nat.le_refl _) old
    have hlt : (i : Int) < (nf x).length := by omega
    have e3 : IntKind.i64.wrap ((i : Int) + 1) = ((i + 1 : Nat) : Int) := by rw [wr64 (by omega) (by omega)]; omega
    have hm1 : (i : Int) ≤ 1048576 := by omega
    have hz := zeros_I i
    have hlr : (ints (List.replicate i (0 : Int))).length = i := by rw [ints_len, List.length_replicate]
    have or := O.made (B := H'.length) (Nat.le_refl _) (ints (List.replicate i (0 : Int)))
    rw [hlr] at or
    have oldr := Old.app H' [.cells H'.length true (ints (List.replicate i (0 : Int)))]
    have wfr := hw.app (Nat.le_refl H'.length) (o := true) (cs := ints (List.replicate i (0 : Int)))
    have key := fun (A : Fr) => mul_inner hx2 hy2 hi lx ly (Nat.le_refl _) oldr oldr.1 wfr or (List.length_replicate ..) (val_zeros i) (fun z hz => by have := List.eq_of_mem_replicate hz; omega) (evB Tryz.prog bC n) m nt (a := A) (k := m) (by omega)
    rw [show mulB = atC [1, 1, 1, 0, 1, 0, 0, 1, 0, 0, 1, 0, 1, 0, 0] ((Tryz.f26.body).getD .skip) from rfl] at key
    simp only [Tryz.f26, Option.getD_some, atC] at key
    simp (disch := omega) only [Tryz.f26, Option.getD_some, atC, es_seq, es_region, es_cond, es_block, es_loop, es_skip, ops_nil, ops_cons, st_move, st_assign, st_fun, sy_len uL, sy_bin, sy_make eL yI (by decide), binS_lss, bindO_some, bindF_some, bindX_normal, condX_true, ev_tmp, ev_const, ev_func, putA, upd_at, Option.map_some, ↓reduceIte, Nat.reduceEqDiff, Int.toNat_natCast, Int.natCast_nonneg, List.map_cons, List.map_nil, decide_true, ↓bindO_some, ↓bindF_some, ↓bindX_normal, ↓condX_true, h0, h6, hx2.lenI, hlt, hm1, Int.le_refl, and_true, hz]
    generalize hA : upd _ 8 _ = A
    obtain ⟨r, a2, H2, e, hr, g0, g1, g6, g5, v7, out, h7, o2, old2, wf2, hol, hval, hb⟩ := key A (by subst hA; exact h0) (by subst hA; exact h1) (by subst hA; exact h6) (by subst hA; rfl) (by subst hA; rfl) vo (by subst hA; exact h5)
    subst hr
    rw [e]
    clear key e
    have oldo := oldr.trans old2
    have hl1 := nf_len_mul (val ((nf x).take i)) y
    have hl2 := take_len x i
    have hl3 : (nf (val out)).length ≤ 900 := by
      rw [hval]
      have e1 := nf_len_mul (B ^ i) ((nf x).getD i 0 * y)
      have e2 := nf_len_mul ((nf x).getD i 0) y
      have e4 : (nf (B ^ i)).length ≤ i + 1 := nf_len (by have := pow_pos i; have := pow_pos (i + 1); omega) (by rw [pow_succ']; have := pow_pos i; omega)
      have e5 : (nf ((nf x).getD i 0)).length ≤ 1 := nf_len (by rw [show B ^ 1 = 100000000 from rfl]; exact (nf_getD x i).1) (by rw [show B ^ 1 = 100000000 from rfl]; exact (nf_getD x i).2)
      omega
    obtain ⟨v3, H3, e3', o3, old3, wf3⟩ := add_run wf2 (.of (ho.mono oldo) (by omega)) ⟨out, o2.R, rfl, hol, fun z hz => by have := hb z hz; omega⟩ (by omega) hl3 n (by omega)
    simp (disch := omega) only [binS_add, bindO_some, bindF_some, bindX_normal, blkX_normal, blkX_exit, upd_at, ↓reduceIte, Nat.reduceEqDiff, ↓bindO_some, ↓bindF_some, ↓bindX_normal, g5, g6, h7, e3', e3]
    have oldf := oldo.trans (old3.mono oldo.1)
    refine ⟨_, _, rfl, by simp only [upd_get, ↓reduceIte, Nat.reduceEqDiff, g0], by simp only [upd_get, ↓reduceIte, Nat.reduceEqDiff, g1], by simp only [upd_get, ↓reduceIte], v3, by simp only [upd_get, ↓reduceIte, Nat.reduceEqDiff], ?_, old.trans (oldf.mono old.1), wf3⟩
    have e6 : val ((nf x).take (i + 1)) * y = val ((nf x).take i) * y + val out := by
      rw [val_take_succ, Int.add_mul, hval, Int.mul_assoc]
    rw [e6]
    exact o3.R
  · intro a H' ⟨h0, h1, h6, vo, h5, ho, old, hw⟩
    rw [show mulA = atC [1, 1, 1, 0, 1, 0, 0] ((Tryz.f26.body).getD .skip) from rfl]
    have hx2 := hx.keep (Nat.le_refl _) old
    simp (disch := omega) only [Tryz.f26, Option.getD_some, atC, es_seq, es_region, es_cond, es_exit, ops_nil, ops_cons, st_move, sy_len uL, sy_bin, binS_lss, bindO_some, bindF_some, bindX_normal, bindX_exit, condX_false, ev_tmp, putA, upd_at, Option.map_some, ↓reduceIte, Nat.reduceEqDiff, decide_false, ↓bindO_some, ↓bindF_some, ↓bindX_normal, ↓bindX_exit, ↓condX_false, h0, h6, hx2.lenI, Int.lt_irrefl]
    exact ⟨_, _, _, rfl, by simp, rfl, vo, by simp only [upd_get, ↓reduceIte, Nat.reduceEqDiff, h5], by rw [List.take_length, nf_val] at ho; exact ho, old, hw⟩
theorem mul_run {H : Heap} {vx vy : Value} {x y : Int} (hw : WF H) (hx : NumV H vx x) (hy : NumV H vy y) (lx : (nf x).length ≤ 400) (ly : (nf y).length ≤ 400) (n : Nat) (hn : 2011 ≤ n) :
    OneL H (evB Tryz.prog bC n (.func (.func 26) #[] #[]) [vx, vy] H) (nf (x * y)) := by
  refine run_ofB (F := 2010) (Q := fun r => OneL H r (nf (x * y))) (fun n hn => ?_) n hn
  rw [body_runS Tryz.func26 rfl (ok_fn (by rfl) Tryz.func26 rfl) (Nat.le_of_ble_eq_true rfl) (D := D0) (by kernel_rfl)]
  obtain ⟨v1, H1, e1, o1, old1, wf1⟩ := hx.norm hw n (by omega)
  obtain ⟨v2, H2, e2, o2, old2, wf2⟩ := (hy.mono old1).norm wf1 n (by omega)
  have old12 := old1.trans (old2.mono old1.1)
  have key := fun (A : Fr) => mul_outer wf2 (o1.R.mono old2) o2.R lx ly n n Tryz.f26.ntmps (by omega) (by omega) (a := A) (k := n) (by omega)
  rw [show mulA = atC [1, 1, 1, 0, 1, 0, 0] ((Tryz.f26.body).getD .skip) from rfl] at key
  simp only [Tryz.f26, Option.getD_some, atC] at key
  simp (disch := omega) only [Tryz.f26, es_seq, es_region, es_block, es_loop, es_ret, ops_nil, ops_cons, st_move, st_assign, st_fun, bindO_some, bindF_some, bindX_normal, ev_tmp, ev_const, ev_func, putA, upd_at, ↓reduceIte, Nat.reduceEqDiff, frOf_0, frOf_1, List.map_cons, List.map_nil, ↓bindO_some, ↓bindF_some, ↓bindX_normal, e1, e2]
  generalize hA : upd _ 6 _ = A
  obtain ⟨r, a', H', e, hr, vo, h5, ho, old, hwf⟩ := key A (by subst hA; rfl) (by subst hA; rfl) (by subst hA; rfl) (by subst hA; rfl)
  subst hr
  rw [e]
  have hlm := nf_len_mul x y
  obtain ⟨v3, H3, e3, o3, old3, wf3⟩ := norm_run hwf ho (by omega) (nfb _) n (by omega)
  simp (disch := omega) only [bindO_some, bindF_some, bindX_normal, blkX_exit, upd_at, Option.map_some, ↓reduceIte, ↓bindO_some, ↓bindF_some, ↓bindX_normal, fin_r, res_nil, res_tmp, pack_1, h5, e3, o3.R.scal]
  have old' := old12.trans (old.mono old12.1)
  refine ⟨_, _, rfl, ?_, old'.trans (old3.mono old'.1), wf3⟩
  rw [nf_val] at o3
  exact o3.below old'.1
noncomputable def lessA : Code := atC [1, 1, 0, 1, 0, 0] ((Tryz.f94.body).getD .skip)
theorem less_loop {H : Heap} {vx vy : Value} {x y : Int} (hx : R H vx (ints (nf x))) (hy : R H vy (ints (nf y))) (x0 : 0 ≤ x) (y0 : 0 ≤ y) (lx : (nf x).length ≤ 900) (hl : (nf x).length = (nf y).length) (call : CallF) (m nt : Nat) {a : Fr} {k : Nat} (hk : (nf x).length < k)
    (h0 : a 0 = vx) (h1 : a 1 = vy) (h5 : a 5 = vi (((nf x).length : Int) - 1)) :
    ∃ r a' H', loopN (evS Tryz.prog call m nt none lessA) k a H = some (r, a', H') ∧ H' = H ∧ ((r = .exit 0 ∧ x = y) ∨ (r = .ret ∧ a' 4 = .bool (decide (x < y)))) := by
  refine loop_wf (fun j a H' => H' = H ∧ a 0 = vx ∧ a 1 = vy ∧ a 5 = vi ((j : Int) - 1) ∧ j ≤ (nf x).length ∧ (nf x).drop j = (nf y).drop j) _ ?_ k (nf x).length a H hk ⟨rfl, h0, h1, h5, Nat.le_refl _, by rw [List.drop_length, hl, List.drop_length]⟩
  intro j a H' ⟨hH, h0, h1, h5, hj, hd⟩
  subst hH
  rw [show lessA = atC [1, 1, 0, 1, 0, 0] ((Tryz.f94.body).getD .skip) from rfl]
  by_cases hz : j = 0
  · subst hz
    right
    have c1 : decide ((0 : Int) ≤ ((0 : Nat) : Int) - 1) = false := rfl
    simp (disch := omega) only [Tryz.f94, Option.getD_some, atC, es_seq, es_region, es_cond, es_exit, ops_nil, ops_cons, st_move, sy_bin, binS_geq, bindO_some, bindF_some, bindX_normal, bindX_exit, condX_false, ev_tmp, ev_const, putA, upd_at, ↓reduceIte, ↓bindO_some, ↓bindF_some, ↓bindX_normal, ↓bindX_exit, ↓condX_false, h5, c1]
    refine ⟨_, _, _, rfl, by simp, rfl, .inl ⟨rfl, ?_⟩⟩
    have := congrArg val hd
    rw [List.drop_zero, List.drop_zero, nf_val, nf_val] at this
    exact this
  · obtain ⟨i, rfl⟩ : ∃ i, j = i + 1 := ⟨j - 1, by omega⟩
    rw [show ((i + 1 : Nat) : Int) - 1 = (i : Int) from by omega] at h5
    have c1 : (0 : Int) ≤ (i : Int) := by omega
    have e1 : IntKind.i64.wrap ((i : Int) - 1) = (i : Int) - 1 := wr64 (by omega) (by omega)
    have hc := cmp_at (nf_dg x0) (nf_dg y0) (i := i) (by omega) (by omega) hd
    rw [nf_val, nf_val] at hc
    by_cases he : (nf x).getD i 0 = (nf y).getD i 0
    · left
      simp (disch := omega) only [Tryz.f94, Option.getD_some, atC, es_seq, es_region, es_draw, d0, es_cond, es_block, es_skip, ops_nil, ops_cons, opsV_nil, opsV_cons, st_move, st_assign, sy_addr eL, sy_load aI, sy_bin, binS_geq, binS_neq, binS_sub, bindO_some, bindF_some, bindX_normal, blkX_normal, condX_true, condX_false, iteB_true, iteB_false, ev_tmp, ev_const, putA, upd_at, Option.map_some, ↓reduceIte, Nat.reduceEqDiff, Int.toNat_natCast, decide_true, Bool.not_true, ↓bindO_some, ↓bindF_some, ↓bindX_normal, ↓condX_true, ↓condX_false, ↓iteB_true, ↓iteB_false, reflV_load, reflV_move, reflV_bin, reflV_addr, vEq_vi, h0, h1, h5, c1, hx.addrI, hx.loadI, hy.addrI, hy.loadI, he, e1]
      exact ⟨_, _, rfl, i, by omega, rfl, by simp only [upd_get, ↓reduceIte, Nat.reduceEqDiff, h0], by simp only [upd_get, ↓reduceIte, Nat.reduceEqDiff, h1], by simp only [upd_get, ↓reduceIte], by omega, by rw [drop_getD (by omega), drop_getD (l := nf y) (by omega), hd, he]⟩
    · right
      have e2 : decide ((nf x).getD i 0 < (nf y).getD i 0) = decide (x < y) := by
        rw [decide_eq_decide]
        exact ⟨hc.1, fun h => by
          apply Decidable.byContradiction
          intro h2
          have := hc.2 (by omega)
          omega⟩
      simp (disch := omega) only [Tryz.f94, Option.getD_some, atC, es_seq, es_region, es_draw, d0, es_cond, es_block, es_skip, es_ret, ops_nil, ops_cons, opsV_nil, opsV_cons, st_move, st_assign, sy_addr eL, sy_load aI, sy_bin, binS_lss, binS_geq, binS_neq, bindO_some, bindF_some, bindX_normal, bindX_ret, blkX_ret, condX_true, iteB_true, iteB_false, ev_tmp, ev_const, putA, upd_at, Option.map_some, ↓reduceIte, Nat.reduceEqDiff, Int.toNat_natCast, decide_true, decide_false, Bool.not_false, ↓bindO_some, ↓bindF_some, ↓bindX_normal, ↓bindX_ret, ↓condX_true, ↓iteB_true, ↓iteB_false, reflV_load, reflV_move, reflV_assign, reflV_bin, reflV_addr, vEq_vi, h0, h1, h5, c1, hx.addrI, hx.loadI, hy.addrI, hy.loadI, he, e2]
      exact ⟨_, _, _, rfl, by simp, rfl, .inr ⟨rfl, by simp only [upd_get, ↓reduceIte]⟩⟩
theorem less_run {H : Heap} {vx vy : Value} {x y : Int} (hx : R H vx (ints (nf x))) (hy : R H vy (ints (nf y))) (x0 : 0 ≤ x) (y0 : 0 ≤ y) (lx : (nf x).length ≤ 900) (ly : (nf y).length ≤ 900) (n : Nat) (hn : 1002 ≤ n) :
    evB Tryz.prog bC n (.func (.func 94) #[] #[]) [vx, vy] H = some (.bool (decide (x < y)), H) := by
  refine run_ofB (F := 1001) (Q := fun r => r = some (.bool (decide (x < y)), H)) (fun n hn => ?_) n hn
  rw [body_runS Tryz.func94 rfl (ok_fn (by rfl) Tryz.func94 rfl) (Nat.le_of_ble_eq_true rfl) (D := D0) (by kernel_rfl)]
  by_cases hl : (nf x).length = (nf y).length
  · have c1 : (((nf x).length : Int) = (nf y).length) := by omega
    have e1 : IntKind.i64.wrap (((nf y).length : Int) - 1) = ((nf y).length : Int) - 1 := wr64 (by omega) (by omega)
    have key := fun (A : Fr) => less_loop hx hy x0 y0 lx hl (evB Tryz.prog bC n) n Tryz.f94.ntmps (a := A) (k := n) (by omega)
    rw [show lessA = atC [1, 1, 0, 1, 0, 0] ((Tryz.f94.body).getD .skip) from rfl] at key
    simp only [Tryz.f94, Option.getD_some, atC] at key
    simp (disch := omega) only [Tryz.f94, es_seq, es_region, es_cond, es_block, es_loop, es_skip, es_ret, ops_nil, ops_cons, st_move, st_assign, sy_len uL, sy_bin, binS_neq, binS_sub, bindO_some, bindF_some, bindX_normal, condX_false, ev_tmp, ev_const, putA, upd_at, Option.map_some, ↓reduceIte, Nat.reduceEqDiff, frOf_0, frOf_1, decide_true, Bool.not_true, ↓bindO_some, ↓bindF_some, ↓bindX_normal, ↓condX_false, hx.lenI, hy.lenI, c1, e1]
    generalize hA : upd _ 5 _ = A
    obtain ⟨r, a', H', e, hH, h⟩ := key A (by subst hA; rfl) (by subst hA; rfl) (by subst hA; rw [c1]; rfl)
    subst hH
    rw [e]
    rcases h with ⟨rfl, rfl⟩ | ⟨rfl, h4⟩
    · have c2 : decide (x < x) = false := by simp
      simp (disch := omega) only [bindX_normal, blkX_exit, upd_at, Option.map_some, ↓reduceIte, ↓bindX_normal, fin_r, res_nil, res_tmp, pack_1, scal_bool, c2]
    · simp (disch := omega) only [bindX_ret, blkX_ret, Option.map_some, ↓bindX_ret, fin_r, res_nil, res_tmp, pack_1, scal_bool, h4]
  · have c1 : ¬ (((nf x).length : Int) = (nf y).length) := by omega
    have e2 : decide (((nf x).length : Int) < (nf y).length) = decide (x < y) := by
      rw [decide_eq_decide]
      constructor
      · intro h; exact nf_len_lt x0 y0 (by omega)
      · intro h
        apply Decidable.byContradiction
        intro h2
        have := nf_len_lt y0 x0 (by omega)
        omega
    simp (disch := omega) only [Tryz.f94, es_seq, es_region, es_cond, es_ret, ops_nil, ops_cons, st_move, st_assign, sy_len uL, sy_bin, binS_lss, binS_neq, bindO_some, bindF_some, bindX_normal, bindX_ret, condX_true, ev_tmp, ev_const, putA, upd_at, Option.map_some, ↓reduceIte, Nat.reduceEqDiff, frOf_0, frOf_1, decide_false, Bool.not_false, ↓bindO_some, ↓bindF_some, ↓bindX_normal, ↓bindX_ret, ↓condX_true, fin_r, res_nil, res_tmp, pack_1, scal_bool, hx.lenI, hy.lenI, c1, e2]
end Go.Proofs.YtmmgdgmjkhcfaaaGreat
namespace Go.Proofs.YtmmgdgmjkhcfaaaGreat
open Go Go.Abs Go.Num
set_option maxRecDepth 10000
attribute [local congr] bindO_congr bindF_congr bindX_congr condX_congr iteB_congr binS_congr pickS_congr
noncomputable def divA : Code := atC [1, 1, 1, 0, 1, 0, 0] ((Tryz.f67.body).getD .skip)
noncomputable def divB : Code := atC [1, 1, 1, 0, 1, 0, 0, 1, 0, 0, 1, 1, 0, 0, 0] ((Tryz.f67.body).getD .skip)
theorem one_len {z : Int} (h0 : 0 ≤ z) (h1 : z < 100000000) : (nf z).length ≤ 1 := nf_len (by rw [show B ^ 1 = 100000000 from rfl]; omega) (by rw [show B ^ 1 = 100000000 from rfl]; omega)
theorem div_inner {H : Heap} {vb vr : Value} {y r : Int} (hw : WF H) (hb : R H vb (ints (nf y))) (hr : R H vr (ints (nf r))) (hy : 0 < y) (r0 : 0 ≤ r) (r1 : r < 100000000 * y) (ly : (nf y).length ≤ 400) (lr : (nf r).length ≤ 900) (n m nt : Nat) (hn : 2011 ≤ n) {a : Fr} {k : Nat} (hk : 27 < k)
    (h1 : a 1 = vb) (h7 : a 7 = vr) (h9 : a 9 = vi 0) (h10 : a 10 = vi 99999999) {v0 v6 v8 : Value} (h0 : a 0 = v0) (h6 : a 6 = v6) (h8 : a 8 = v8) :
    ∃ x a' H', loopN (evS Tryz.prog (evB Tryz.prog bC n) m nt none divB) k a H = some (x, a', H') ∧ x = .exit 2 ∧ a' 9 = vi (r / y) ∧ a' 0 = v0 ∧ a' 1 = vb ∧ a' 6 = v6 ∧ a' 7 = vr ∧ a' 8 = v8 ∧ Old H.length H H' ∧ WF H' := by
  have q0 : 0 ≤ r / y := Int.ediv_nonneg r0 (by omega)
  have q1 : r / y < 100000000 := Int.ediv_lt_of_lt_mul hy r1
  refine loop_wf (fun c a H' => a 0 = v0 ∧ a 1 = vb ∧ a 6 = v6 ∧ a 7 = vr ∧ a 8 = v8 ∧ Old H.length H H' ∧ WF H' ∧ ∃ low high : Int, a 9 = vi low ∧ a 10 = vi high ∧ 0 ≤ low ∧ low ≤ r / y ∧ r / y ≤ high ∧ high ≤ 99999999 ∧ high - low < ((2 ^ c : Nat) : Int)) _ ?_ k 27 a H hk
    ⟨h0, h1, h6, h7, h8, Old.refl _ _, hw, 0, 99999999, h9, h10, by omega, q0, by omega, by omega, by decide⟩
  intro c a H' ⟨h0, h1, h6, h7, h8, old, hw, low, high, h9, h10, b1, b2, b3, b4, b5⟩
  rw [show divB = atC [1, 1, 1, 0, 1, 0, 0, 1, 0, 0, 1, 1, 0, 0, 0] ((Tryz.f67.body).getD .skip) from rfl]
  by_cases hlt : low < high
  · left
    obtain ⟨d, rfl⟩ : ∃ d, c = d + 1 := ⟨c - 1, by
      cases c with
      | zero => simp at b5; omega
      | succ c => omega⟩
    rw [Nat.pow_succ] at b5
    have e1 : IntKind.i64.wrap (low + high) = low + high := wr64 (by omega) (by omega)
    have e2 : IntKind.i64.wrap (low + high + 1) = low + high + 1 := wr64 (by omega) (by omega)
    have e3 : (low + high + 1).tdiv 2 = (low + high + 1) / 2 := tdiv_pos (by omega) _
    have e4 : IntKind.i64.wrap ((low + high + 1) / 2) = (low + high + 1) / 2 := wr64 (by omega) (by omega)
    have e5 : IntKind.i64.wrap ((low + high + 1) / 2 - 1) = (low + high + 1) / 2 - 1 := wr64 (by omega) (by omega)
    have hb2 := hb.keep (Nat.le_refl _) old
    have hr2 := hr.keep (Nat.le_refl _) old
    have oldp := Old.app H' [.cells H'.length true [vi ((low + high + 1) / 2)]]
    have lm : (nf ((low + high + 1) / 2)).length ≤ 1 := one_len (by omega) (by omega)
    obtain ⟨v2, H2, s1, o2, old2, wf2⟩ := mul_run (hw.app (Nat.le_refl _)) (.of (hb2.mono oldp) (by omega)) (.one (Abs.R.push (f := H'.length) (c := vi ((low + high + 1) / 2))) (by omega) (by omega)) ly (by omega) n hn
    have lp := nf_len_mul y ((low + high + 1) / 2)
    have old12 := oldp.trans (old2.mono oldp.1)
    have ym0 : 0 ≤ y * ((low + high + 1) / 2) := Int.mul_nonneg (by omega) (by omega)
    have s2 := less_run (hr2.mono old12) o2.R r0 ym0 lr (by omega) n (by omega)
    by_cases hc : r < y * ((low + high + 1) / 2)
    · have hq : r / y < (low + high + 1) / 2 := Int.ediv_lt_of_lt_mul hy (by rw [Int.mul_comm]; exact hc)
      simp (disch := omega) only [Tryz.f67, Option.getD_some, atC, es_seq, es_region, es_cond, es_block, es_skip, ops_nil, ops_cons, st_move, st_assign, st_fun, sy_bin, sy_build1 eL oI, binS_lss, binS_add, binS_sub, binS_quo, bindO_some, bindF_some, bindX_normal, blkX_normal, condX_true, ev_tmp, ev_const, ev_func, putA, upd_at, ↓reduceIte, Nat.reduceEqDiff, List.map_cons, List.map_nil, decide_true, ↓bindO_some, ↓bindF_some, ↓bindX_normal, ↓condX_true, scal_vi, h1, h7, h9, h10, hlt, e1, e2, e3, e4, e5, s1, s2, hc]
      exact ⟨_, _, rfl, d, by omega, by simp only [upd_get, ↓reduceIte, Nat.reduceEqDiff, h0], by simp only [upd_get, ↓reduceIte, Nat.reduceEqDiff, h1], by simp only [upd_get, ↓reduceIte, Nat.reduceEqDiff, h6], by simp only [upd_get, ↓reduceIte, Nat.reduceEqDiff, h7], by simp only [upd_get, ↓reduceIte, Nat.reduceEqDiff, h8], old.trans (old12.mono old.1), wf2, low, (low + high + 1) / 2 - 1, by simp only [upd_get, ↓reduceIte, Nat.reduceEqDiff, h9], by simp only [upd_get, ↓reduceIte], b1, b2, by omega, by omega, by omega⟩
    · have hq : (low + high + 1) / 2 ≤ r / y := Int.le_ediv_of_mul_le hy (by rw [Int.mul_comm]; omega)
      simp (disch := omega) only [Tryz.f67, Option.getD_some, atC, es_seq, es_region, es_cond, es_block, es_skip, ops_nil, ops_cons, st_move, st_assign, st_fun, sy_bin, sy_build1 eL oI, binS_lss, binS_add, binS_quo, bindO_some, bindF_some, bindX_normal, blkX_normal, condX_true, condX_false, ev_tmp, ev_const, ev_func, putA, upd_at, ↓reduceIte, Nat.reduceEqDiff, List.map_cons, List.map_nil, decide_true, decide_false, ↓bindO_some, ↓bindF_some, ↓bindX_normal, ↓condX_true, ↓condX_false, scal_vi, h1, h7, h9, h10, hlt, e1, e2, e3, e4, s1, s2, hc]
      exact ⟨_, _, rfl, d, by omega, by simp only [upd_get, ↓reduceIte, Nat.reduceEqDiff, h0], by simp only [upd_get, ↓reduceIte, Nat.reduceEqDiff, h1], by simp only [upd_get, ↓reduceIte, Nat.reduceEqDiff, h6], by simp only [upd_get, ↓reduceIte, Nat.reduceEqDiff, h7], by simp only [upd_get, ↓reduceIte, Nat.reduceEqDiff, h8], old.trans (old12.mono old.1), wf2, (low + high + 1) / 2, high, by simp only [upd_get, ↓reduceIte], by simp only [upd_get, ↓reduceIte, Nat.reduceEqDiff, h10], by omega, hq, b3, b4, by omega⟩
  · right
    simp (disch := omega) only [Tryz.f67, Option.getD_some, atC, es_seq, es_region, es_cond, es_exit, ops_nil, ops_cons, st_move, sy_bin, binS_lss, bindO_some, bindF_some, bindX_normal, bindX_exit, condX_false, ev_tmp, putA, upd_at, ↓reduceIte, Nat.reduceEqDiff, decide_false, ↓bindO_some, ↓bindF_some, ↓bindX_normal, ↓bindX_exit, ↓condX_false, h9, h10, hlt]
    exact ⟨_, _, _, rfl, by simp, rfl, by simp only [upd_get, ↓reduceIte, Nat.reduceEqDiff, h9]; congr 1; omega, by simp only [upd_get, ↓reduceIte, Nat.reduceEqDiff, h0], by simp only [upd_get, ↓reduceIte, Nat.reduceEqDiff, h1], by simp only [upd_get, ↓reduceIte, Nat.reduceEqDiff, h6], by simp only [upd_get, ↓reduceIte, Nat.reduceEqDiff, h7], by simp only [upd_get, ↓reduceIte, Nat.reduceEqDiff, h8], old, hw⟩
theorem div_outer {H0 H : Heap} {va vb vq : Value} {x y : Int} {ql : List Int} (ha : R H0 va (ints (nf x))) (hb : R H0 vb (ints (nf y))) (x0 : 0 ≤ x) (hy : 0 < y) (lx : (nf x).length ≤ 390) (ly : (nf y).length ≤ 390)
    {B1 : Nat} (hB : H0.length ≤ B1) (hBH : B1 ≤ H.length) (old0 : Old H0.length H0 H) (hw : WF H) (hq : OM H0.length B1 H vq (ints ql)) (hql : ql.length = (nf x).length) (hqd : Dg ql) (n m nt : Nat) (hn : 2011 ≤ n) (hm : 1000 ≤ m) {a : Fr} {k : Nat} (hk : (nf x).length < k)
    (h0 : a 0 = va) (h1 : a 1 = vb) (h6 : a 6 = vq) (h7 : a 7 = .slice none 0 0) (h8 : a 8 = vi (((nf x).length : Int) - 1)) :
    ∃ r a' H', loopN (evS Tryz.prog (evB Tryz.prog bC n) m nt none divA) k a H = some (r, a', H') ∧ r = .exit 0 ∧ a' 6 = vq ∧ Old H0.length H0 H' ∧ WF H' ∧ ∃ vr ql, a' 7 = vr ∧ O H0.length H' vq (ints ql) ∧ O H0.length H' vr (ints (nf (x % y))) ∧ Dg ql ∧ val ql = x / y ∧ ql.length = (nf x).length := by
  refine loop_wf (fun j a H' => a 0 = va ∧ a 1 = vb ∧ a 6 = vq ∧ a 8 = vi ((j : Int) - 1) ∧ j ≤ (nf x).length ∧ B1 ≤ H'.length ∧ Old H0.length H0 H' ∧ WF H' ∧ ∃ vr ql R, a 7 = vr ∧ OM H0.length B1 H' vq (ints ql) ∧ O B1 H' vr (ints (nf R)) ∧ Dg ql ∧ ql.length = (nf x).length ∧ 0 ≤ R ∧ R < y ∧ val ((nf x).drop j) = y * val (ql.drop j) + R) _ ?_ k (nf x).length a H hk
    ⟨h0, h1, h6, h8, Nat.le_refl _, hBH, old0, hw, _, ql, 0, h7, hq, by rw [nf_zero]; exact O.nil _ _, hqd, hql, by omega, hy, by rw [List.drop_length, ← hql, List.drop_length]; simp [val]⟩
  intro j a H' ⟨h0, h1, h6, h8, hj, hBH, old, hw, vr, ql, R, h7, hq, hr, hqd, hql, R0, R1, hval⟩
  rw [show divA = atC [1, 1, 1, 0, 1, 0, 0] ((Tryz.f67.body).getD .skip) from rfl]
  by_cases hz : j = 0
  · subst hz
    right
    have c1 : decide ((0 : Int) ≤ ((0 : Nat) : Int) - 1) = false := rfl
    simp (disch := omega) only [Tryz.f67, Option.getD_some, atC, es_seq, es_region, es_cond, es_exit, ops_nil, ops_cons, st_move, sy_bin, binS_geq, bindO_some, bindF_some, bindX_normal, bindX_exit, condX_false, ev_tmp, ev_const, putA, upd_at, ↓reduceIte, ↓bindO_some, ↓bindF_some, ↓bindX_normal, ↓bindX_exit, ↓condX_false, h8, c1]
    rw [List.drop_zero, List.drop_zero, nf_val] at hval
    have hdm := Int.mul_ediv_add_emod x y
    have e1 : x / y = val ql := by
      rw [hval, Int.add_comm, Int.add_mul_ediv_left _ _ (by omega), Int.ediv_eq_zero_of_lt R0 R1, Int.zero_add]
    have e2 : x % y = R := by rw [e1] at hdm; omega
    exact ⟨_, _, _, rfl, by simp, rfl, by simp only [upd_get, ↓reduceIte, Nat.reduceEqDiff, h6], old, hw, vr, ql, by simp only [upd_get, ↓reduceIte, Nat.reduceEqDiff, h7], hq.O, by rw [e2]; exact hr.below hB, hqd, e1.symm, hql⟩
  · obtain ⟨i, rfl⟩ : ∃ i, j = i + 1 := ⟨j - 1, by omega⟩
    left
    rw [show ((i + 1 : Nat) : Int) - 1 = (i : Int) from by omega] at h8
    have c1 : (0 : Int) ≤ (i : Int) := by omega
    have e1 : IntKind.i64.wrap ((i : Int) - 1) = (i : Int) - 1 := wr64 (by omega) (by omega)
    have ha2 := ha.keep (Nat.le_refl _) old
    have hdx := (nf_dg x0).getD i
    have hi : i < (nf x).length := by omega
    -- the digit before the rest
    have oldp := Old.app H' [.cells H'.length true [vi ((nf x).getD i 0)]]
    have op : O B1 (H' ++ [.cells H'.length true [vi ((nf x).getD i 0)]]) (sliceA H'.length 0 1 1) [vi ((nf x).getD i 0)] := O.made (B := B1) hBH [vi ((nf x).getD i 0)]
    have wfp := hw.app (Nat.le_refl H'.length) (o := true) (cs := [vi ((nf x).getD i 0)])
    have lR : (nf R).length ≤ 390 := by
      have h1 := nf_size y
      exact Nat.le_trans (nf_len (by have := pow_pos (nf y).length; omega) (by omega)) ly
    obtain ⟨v2, H2, s2, o2, old2, wf2⟩ := op.app wfp (Nat.le_trans hBH oldp.1) (hr.R.mono oldp) (by rw [ints_len]; unfold maxA; simp; omega)
    rw [show [vi ((nf x).getD i 0)] ++ ints (nf R) = ints ((nf x).getD i 0 :: nf R) from rfl] at o2
    have bd : ∀ {m : List Int}, Dg m → ∀ x ∈ m, -4000000000000000000 ≤ x ∧ x ≤ 4000000000000000000 := fun h x hx => by have := h x hx; unfold B at this; omega
    have hdc : Dg ((nf x).getD i 0 :: nf R) := by
      intro z hz
      rcases List.mem_cons.1 hz with rfl | hz
      · exact hdx
      · exact nf_dg R0 z hz
    obtain ⟨v3, H3, s3, o3, old3, wf3⟩ := trim_run wf2 o2.R (by rw [List.length_cons]; omega) n (by omega)
    have et : trimL ((nf x).getD i 0 :: nf R) = nf ((nf x).getD i 0 + B * R) := nf_of_digs hdc (by simp only [val, nf_val])
    rw [et] at o3
    have old13 : Old B1 H' H3 := ((oldp.mono hBH).trans old2).trans (old3.mono (Nat.le_trans (Nat.le_trans hBH oldp.1) old2.1))
    have oldH3 : Old H0.length H0 H3 := old.trans (old13.mono hB)
    -- the search
    have Rn0 : 0 ≤ (nf x).getD i 0 + B * R := by unfold B; omega
    have Rn1 : (nf x).getD i 0 + B * R < 100000000 * y := by unfold B; omega
    have lRn : (nf ((nf x).getD i 0 + B * R)).length ≤ 900 := by
      rw [← et]
      exact Nat.le_trans (trimL_len _) (by rw [List.length_cons]; omega)
    have hb3 := hb.keep (Nat.le_refl _) oldH3
    have key := fun (A : Fr) => div_inner wf3 hb3 o3.R hy Rn0 Rn1 (by omega) lRn n m nt hn (a := A) (k := m) (by omega)
    rw [show divB = atC [1, 1, 1, 0, 1, 0, 0, 1, 0, 0, 1, 1, 0, 0, 0] ((Tryz.f67.body).getD .skip) from rfl] at key
    simp only [Tryz.f67, Option.getD_some, atC] at key
    simp (disch := omega) only [Tryz.f67, Option.getD_some, atC, es_seq, es_region, es_cond, es_block, es_loop, es_skip, ops_nil, ops_cons, st_move, st_assign, st_fun, sy_addr eL, sy_load aI, sy_store zI, sy_bin, sy_append eL pI, sy_build1 eL oI, binS_geq, bindO_some, bindF_some, bindX_normal, condX_true, ev_tmp, ev_const, ev_func, putA, upd_at, Option.map_some, ↓reduceIte, Nat.reduceEqDiff, Int.toNat_natCast, List.map_cons, List.map_nil, decide_true, ↓bindO_some, ↓bindF_some, ↓bindX_normal, ↓condX_true, scal_vi, h0, h7, h8, c1, ha2.addrI, ha2.loadI, s2, s3]
    generalize hA : upd _ 10 _ = A
    obtain ⟨r, a4, H4, e4, hr4, g9, g0, g1, g6, g7, g8, old4, wf4⟩ := key A (by subst hA; exact h1) (by subst hA; rfl) (by subst hA; rfl) (by subst hA; rfl) (v0 := va) (v6 := vq) (v8 := vi i) (by subst hA; exact h0) (by subst hA; exact h6) (by subst hA; exact h8)
    subst hr4
    rw [e4]
    clear key e4
    -- the quotient's digit
    have q0 : 0 ≤ ((nf x).getD i 0 + B * R) / y := Int.ediv_nonneg Rn0 (by omega)
    have q1 : ((nf x).getD i 0 + B * R) / y < 100000000 := Int.ediv_lt_of_lt_mul hy Rn1
    have old14 : Old B1 H' H4 := old13.trans (old4.mono (Nat.le_trans hBH old13.1))
    have hq4 := hq.mono old14
    obtain ⟨H5, s5, q5, old5, wf5, keep5⟩ := hq4.setI wf4 (i := i) (by omega) (((nf x).getD i 0 + B * R) / y)
    have hr5 := keep5 _ _ ((o3.below (Nat.le_trans (Nat.le_trans hBH oldp.1) old2.1)).mono old4)
    have oldH5 : Old H0.length H0 H5 := (old.trans (old14.mono hB)).trans old5
    have hb5 := hb.keep (Nat.le_refl _) oldH5
    have hq5R := q5.O.R
    have lq : (nf (((nf x).getD i 0 + B * R) / y)).length ≤ 1 := one_len q0 q1
    have oldp5 := Old.app H5 [.cells H5.length true [vi (((nf x).getD i 0 + B * R) / y)]]
    obtain ⟨v6, H6, s6, o6, old6, wf6⟩ := mul_run (wf5.app (Nat.le_refl _)) (.of (hb5.mono oldp5) (by omega)) (.one (Abs.R.push (f := H5.length) (c := vi (((nf x).getD i 0 + B * R) / y))) (by omega) (by omega)) (by omega) (by omega) n (by omega)
    have lp := nf_len_mul y (((nf x).getD i 0 + B * R) / y)
    have old56 := oldp5.trans (old6.mono oldp5.1)
    obtain ⟨v7, H7, s7, o7, old7, wf7⟩ := sub_run wf6 (.of (hr5.R.mono old56) (by omega)) (.of o6.R (by omega)) (by omega) (by omega) n (by omega)
    have old57 := old56.trans (old7.mono old56.1)
    have aq := hq4.O.R.addrI (i := (i : Int)) (by omega) (by omega)
    rw [Int.toNat_natCast] at aq
    simp (disch := omega) only [binS_sub, bindO_some, bindF_some, bindX_normal, blkX_normal, blkX_exit, upd_at, Option.map_some, ↓reduceIte, Nat.reduceEqDiff, ↓bindO_some, ↓bindF_some, ↓bindX_normal, scal_vi, g1, g6, g7, g8, g9, aq, s5, s6, s7, e1]
    have hB5 : B1 ≤ H5.length := Nat.le_trans (Nat.le_trans hBH old14.1) old5.1
    refine ⟨_, _, rfl, i, by omega, by simp only [upd_get, ↓reduceIte, Nat.reduceEqDiff, g0], by simp only [upd_get, ↓reduceIte, Nat.reduceEqDiff, g1], by simp only [upd_get, ↓reduceIte, Nat.reduceEqDiff, g6], by simp only [upd_get, ↓reduceIte], by omega, Nat.le_trans hB5 old57.1, oldH5.trans (old57.mono oldH5.1), wf7, v7, _, ((nf x).getD i 0 + B * R) % y, by simp only [upd_get, ↓reduceIte, Nat.reduceEqDiff], q5.mono (old57.mono hB5), ?_, hqd.set i q0 q1, by rw [List.length_set]; exact hql, Int.emod_nonneg _ (by omega), Int.emod_lt_of_pos _ hy, div_step hi (by omega) hy hval⟩
    have e8 : (nf x).getD i 0 + B * R - y * (((nf x).getD i 0 + B * R) / y) = ((nf x).getD i 0 + B * R) % y := by
      have := Int.mul_ediv_add_emod ((nf x).getD i 0 + B * R) y
      omega
    rw [← e8]
    exact o7.below (Nat.le_trans hB5 old56.1)
def TwoL (H : Heap) (r : Option (Value × Heap)) (f : Value → Value → Value) (l m : List Int) : Prop := ∃ v1 v2 H', r = some (f v1 v2, H') ∧ O H.length H' v1 (ints l) ∧ O H.length H' v2 (ints m) ∧ Old H.length H H' ∧ WF H'
theorem divide_run {H : Heap} {va vb : Value} {x y : Int} (hw : WF H) (ha : R H va (ints (nf x))) (hb : R H vb (ints (nf y))) (x0 : 0 ≤ x) (hy : 0 < y) (lx : (nf x).length ≤ 390) (ly : (nf y).length ≤ 390) (n : Nat) (hn : 2012 ≤ n) :
    TwoL H (evB Tryz.prog bC n (.func (.func 67) #[] #[]) [va, vb] H) (fun q r => .tuple #[q, r]) (nf (x / y)) (nf (x % y)) := by
  refine run_ofB (F := 2011) (Q := fun z => TwoL H z (fun q r => .tuple #[q, r]) (nf (x / y)) (nf (x % y))) (fun n hn => ?_) n hn
  rw [body_runS Tryz.func67 rfl (ok_fn (by rfl) Tryz.func67 rfl) (Nat.le_of_ble_eq_true rfl) (D := D0) (by kernel_rfl)]
  have hlr : (ints (List.replicate (nf x).length (0 : Int))).length = (nf x).length := by rw [ints_len, List.length_replicate]
  have or := O.made (B := H.length) (Nat.le_refl _) (ints (List.replicate (nf x).length (0 : Int)))
  rw [hlr] at or
  have oldr := Old.app H [.cells H.length true (ints (List.replicate (nf x).length (0 : Int)))]
  have wfr := hw.app (Nat.le_refl H.length) (o := true) (cs := ints (List.replicate (nf x).length (0 : Int)))
  have hz := zeros_I (nf x).length
  have hm1 : ((nf x).length : Int) ≤ 1048576 := by omega
  have e1 : IntKind.i64.wrap (((nf x).length : Int) - 1) = ((nf x).length : Int) - 1 := wr64 (by omega) (by omega)
  have dz : Dg (List.replicate (nf x).length (0 : Int)) := fun z hz => by have := List.eq_of_mem_replicate hz; subst this; exact ⟨by omega, by decide⟩
  have key := fun (A : Fr) => div_outer ha hb x0 hy lx ly (B1 := (H ++ [Blk.cells H.length true (ints (List.replicate (nf x).length (0 : Int)))]).length) oldr.1 (Nat.le_refl _) oldr wfr (OM.of or wfr) (List.length_replicate ..) dz n n Tryz.f67.ntmps hn (by omega) (a := A) (k := n) (by omega)
  rw [show divA = atC [1, 1, 1, 0, 1, 0, 0] ((Tryz.f67.body).getD .skip) from rfl] at key
  simp only [Tryz.f67, Option.getD_some, atC] at key
  simp (disch := omega) only [Tryz.f67, es_seq, es_region, es_block, es_loop, es_ret, ops_nil, ops_cons, st_move, st_assign, st_fun, sy_len uL, sy_bin, sy_make eL yI (by decide), binS_sub, bindO_some, bindF_some, bindX_normal, ev_tmp, ev_const, ev_func, putA, upd_at, Option.map_some, ↓reduceIte, Nat.reduceEqDiff, Int.toNat_natCast, Int.natCast_nonneg, frOf_0, List.map_cons, List.map_nil, ↓bindO_some, ↓bindF_some, ↓bindX_normal, ha.lenI, hm1, Int.le_refl, and_true, hz, e1]
  generalize hA : upd _ 8 _ = A
  obtain ⟨r, a', H', e, hr, g6, old, hwf, vr, ql, g7, oq, orr, hqd, hqv, hql⟩ := key A (by subst hA; rfl) (by subst hA; rfl) (by subst hA; rfl) (by subst hA; rfl) (by subst hA; rfl)
  subst hr
  rw [e]
  clear key e
  obtain ⟨v2, H2, s2, o2, old2, wf2⟩ := trim_run hwf oq.R (by omega) n (by omega)
  have or2 := orr.mono old2
  simp (disch := omega) only [bindO_some, bindF_some, bindX_normal, blkX_exit, upd_at, Option.map_some, ↓reduceIte, Nat.reduceEqDiff, ↓bindO_some, ↓bindF_some, ↓bindX_normal, fin_r, res_nil, res_tmp, pack_2, g6, g7, s2, o2.R.scal, or2.R.scal]
  refine ⟨_, _, _, rfl, ?_, or2, old.trans (old2.mono old.1), wf2⟩
  rw [nf_of_digs hqd hqv] at o2
  exact o2.below old.1
theorem natAbs_pos {x : Int} (h : 0 ≤ x) : (x.natAbs : Int) = x := by omega
theorem divmod_run {H : Heap} {vx vy : Value} {x y : Int} (hw : WF H) (hx : NumV H vx x) (hy : NumV H vy y) (x0 : 0 ≤ x) (y0 : 0 < y) (lx : (nf x).length ≤ 390) (ly : (nf y).length ≤ 390) (n : Nat) (hn : 2013 ≤ n) :
    TwoL H (evB Tryz.prog bC n (.func (.func 48) #[] #[]) [vx, vy] H) (fun q r => .tuple #[q, r, vi 0]) (nf (x / y)) (nf (x % y)) := by
  refine run_ofB (F := 2012) (Q := fun z => TwoL H z (fun q r => .tuple #[q, r, vi 0]) (nf (x / y)) (nf (x % y))) (fun n hn => ?_) n hn
  rw [body_runS Tryz.func48 rfl (ok_fn (by rfl) Tryz.func48 rfl) (Nat.le_of_ble_eq_true rfl) (D := D0) (by kernel_rfl)]
  obtain ⟨v1, H1, s1, o1, old1, wf1⟩ := hx.norm hw n (by omega)
  obtain ⟨v2, H2, s2, o2, old2, wf2⟩ := (hy.mono old1).norm wf1 n (by omega)
  have old12 := old1.trans (old2.mono old1.1)
  obtain ⟨v3, H3, s3, o3, old3, wf3⟩ := size_run wf2 (o1.R.mono old2) (by omega) n (by omega)
  obtain ⟨v4, H4, s4, o4, old4, wf4⟩ := size_run wf3 (o2.R.mono old3) (by omega) n (by omega)
  rw [natAbs_pos x0] at o3
  rw [natAbs_pos (by omega)] at o4
  have old14 := (old12.trans (old3.mono old12.1)).trans (old4.mono (Nat.le_trans old12.1 old3.1))
  obtain ⟨v5, v6, H5, s5, o5, o6, old5, wf5⟩ := divide_run wf4 (o3.R.mono old4) o4.R x0 y0 lx ly n (by omega)
  have old15 := old14.trans (old5.mono old14.1)
  have old35 := (old3.trans (old4.mono old3.1)).trans (old5.mono (Nat.le_trans old3.1 old4.1))
  have s6 := negative_run (z := x) ((o1.R.mono old2).mono old35) (by omega) n (by omega)
  have s7 := negative_run (z := y) (o2.R.mono old35) (by omega) n (by omega)
  have c1 : decide (x < 0) = false := by simp; omega
  have c2 : decide (y < 0) = false := by simp; omega
  have hly : (nf y).length ≠ 0 := fun h => by have := nf_nil.1 (List.eq_nil_of_length_eq_zero h); omega
  have c3 : ¬ ((nf y).length : Int) = 0 := by omega
  have r2 := o2.R.lenI
  simp (disch := omega) only [Tryz.f48, es_seq, es_region, es_cond, es_skip, es_ret, ops_nil, ops_cons, st_move, st_assign, st_fun, sy_len uL, sy_bin, sy_ext, ext_20, ext_21, binS_eql, bindO_some, bindF_some, bindX_normal, condX_false, ev_tmp, ev_const, ev_func, putA, upd_at, Option.map_some, ↓reduceIte, Nat.reduceEqDiff, frOf_0, frOf_1, List.map_cons, List.map_nil, decide_false, ↓bindO_some, ↓bindF_some, ↓bindX_normal, ↓condX_false, fin_r, res_nil, res_tmp, pack_3, scal_vi, s1, s2, s3, s4, s5, s6, s7, c1, c2, c3, r2, o5.R.scal, o6.R.scal]
  exact ⟨_, _, _, rfl, o5.below old14.1, o6.below old14.1, old15, wf5⟩
theorem quot_run {H : Heap} {vx vy : Value} {x y : Int} (hw : WF H) (hx : NumV H vx x) (hy : NumV H vy y) (x0 : 0 ≤ x) (y0 : 0 < y) (lx : (nf x).length ≤ 390) (ly : (nf y).length ≤ 390) (n : Nat) (hn : 2014 ≤ n) :
    OneL H (evB Tryz.prog bC n (.func (.func 27) #[] #[]) [vx, vy] H) (nf (x / y)) := by
  refine run_ofB (F := 2013) (Q := fun z => OneL H z (nf (x / y))) (fun n hn => ?_) n hn
  rw [body_runS Tryz.func27 rfl (ok_fn (by rfl) Tryz.func27 rfl) (Nat.le_of_ble_eq_true rfl) (D := D0) (by kernel_rfl)]
  obtain ⟨v1, v2, H1, s1, o1, o2, old1, wf1⟩ := divmod_run hw hx hy x0 y0 lx ly n (by omega)
  simp (disch := omega) only [Tryz.f27, es_seq, es_region, es_ret, ops_nil, ops_cons, st_move, st_assign, st_fun, sy_ext, bindO_some, bindF_some, bindX_normal, ev_tmp, ev_const, ev_func, putA, upd_at, Option.map_some, ↓reduceIte, Nat.reduceEqDiff, frOf_0, frOf_1, List.map_cons, List.map_nil, ↓bindO_some, ↓bindF_some, ↓bindX_normal, fin_r, res_nil, res_tmp, pack_1, s1, ext_30, ext_31, ext_32, o1.R.scal]
  exact ⟨_, _, rfl, o1, old1, wf1⟩
end Go.Proofs.YtmmgdgmjkhcfaaaGreat
namespace Go.Proofs.YtmmgdgmjkhcfaaaGreat
open Go Go.Abs Go.Num
set_option maxRecDepth 10000
attribute [local congr] bindO_congr bindF_congr bindX_congr condX_congr iteB_congr binS_congr pickS_congr eqB_congr
theorem floored_run {z : Int} (h1 : -4000000000000000000 ≤ z) (h2 : z ≤ 4000000000000000000) (n : Nat) (H : Heap) (hn : 10 ≤ n) : evB Tryz.prog bC n (.func (.func 95) #[] #[]) [vi z] H = some (.tuple #[vi (z / 100000000), vi (z % 100000000)], H) := by
  refine run_ofB (F := 9) (Q := fun x => x = some (.tuple #[vi (z / 100000000), vi (z % 100000000)], H)) (fun n _ => ?_) n hn
  rw [body_runS Tryz.func95 rfl (ok_fn (by rfl) Tryz.func95 rfl) (Nat.le_of_ble_eq_true rfl) (D := D0) (by kernel_rfl)]
  by_cases hz : 0 ≤ z
  · have e1 : z.tdiv 100000000 = z / 100000000 := tdiv_pos hz _
    have e2 : z.tmod 100000000 = z % 100000000 := tmod_pos hz _
    have h3 : ¬ z % 100000000 < 0 := by omega
    simp (disch := omega) only [Tryz.f95, es_seq, es_region, es_cond, es_skip, es_ret, ops_nil, ops_cons, st_move, st_assign, sy_bin, binS_lss, binS_quo, binS_rem, bindO_some, bindF_some, bindX_normal, condX_false, ev_tmp, ev_const, putA, upd_at, Option.map_some, ↓reduceIte, Nat.reduceEqDiff, frOf_0, decide_false, ↓bindO_some, ↓bindF_some, ↓bindX_normal, ↓condX_false, fin_r, res_nil, res_tmp, pack_2, scal_vi, e1, e2, wr64, h3]
  · have e1 : z.tdiv 100000000 = -((-z) / 100000000) := by rw [tdiv_neg', tdiv_pos (by omega)]
    have e2 : z.tmod 100000000 = -((-z) % 100000000) := by rw [tmod_neg', tmod_pos (by omega)]
    by_cases h3 : -((-z) % 100000000) < 0
    · simp (disch := omega) only [Tryz.f95, es_seq, es_region, es_cond, es_ret, ops_nil, ops_cons, st_move, st_assign, sy_bin, binS_lss, binS_add, binS_sub, binS_quo, binS_rem, bindO_some, bindF_some, bindX_normal, bindX_ret, condX_true, ev_tmp, ev_const, putA, upd_at, Option.map_some, ↓reduceIte, Nat.reduceEqDiff, frOf_0, decide_true, ↓bindO_some, ↓bindF_some, ↓bindX_normal, ↓bindX_ret, ↓condX_true, fin_r, res_nil, res_tmp, pack_2, scal_vi, e1, e2, wr64, h3]
      rw [show -(-z / 100000000) - 1 = z / 100000000 from by omega, show -(-z % 100000000) + 100000000 = z % 100000000 from by omega]
    · simp (disch := omega) only [Tryz.f95, es_seq, es_region, es_cond, es_skip, es_ret, ops_nil, ops_cons, st_move, st_assign, sy_bin, binS_lss, binS_quo, binS_rem, bindO_some, bindF_some, bindX_normal, condX_false, ev_tmp, ev_const, putA, upd_at, Option.map_some, ↓reduceIte, Nat.reduceEqDiff, frOf_0, decide_false, ↓bindO_some, ↓bindF_some, ↓bindX_normal, ↓condX_false, fin_r, res_nil, res_tmp, pack_2, scal_vi, e1, e2, wr64, h3]
      rw [show -(-z / 100000000) = z / 100000000 from by omega, show -(-z % 100000000) = z % 100000000 from by omega]
noncomputable def trmA : Code := atC [1, 0, 0, 0] ((Tryz.f96.body).getD .skip)
theorem trimmed_run {C : Nat} {H : Heap} {v : Value} {l : List Int} (hv : RO C H v (ints l)) (hl : l.length ≤ 1000) (n : Nat) (hn : 2000 ≤ n) : ∃ v', evB Tryz.prog bC n (.func (.func 96) #[] #[]) [v] H = some (v', H) ∧ RO C H v' (ints (trimL l)) := by
  refine run_ofB (F := 1999) (Q := fun x => ∃ v', x = some (v', H) ∧ RO C H v' (ints (trimL l))) (fun n hn => ?_) n hn
  rw [body_runS Tryz.func96 rfl (ok_fn (by rfl) Tryz.func96 rfl) (Nat.le_of_ble_eq_true rfl) (D := D0) (by kernel_rfl)]
  have key : ∀ A : Fr, A 0 = v → ∃ x a' H', loopN (evS Tryz.prog (evB Tryz.prog bC n) n Tryz.f96.ntmps none trmA) n A H = some (x, a', H') ∧ x = .exit 0 ∧ H' = H ∧ ∃ v', a' 0 = v' ∧ RO C H v' (ints (trimL l)) := by
    intro A h0
    refine loop_wf (fun n a H' => H' = H ∧ ∃ v', a 0 = v' ∧ RO C H v' (ints (l.take n)) ∧ n ≤ l.length ∧ trimL (l.take n) = trimL l) _ ?_ n l.length A H (by omega) ⟨rfl, v, h0, by rw [List.take_length]; exact hv, Nat.le_refl _, by rw [List.take_length]⟩
    intro c a H' ⟨hH, v', h0, hr, hc, ht⟩
    subst hH
    have hlc : (l.take c).length = c := by rw [List.length_take]; omega
    have hlen := hr.R.lenI
    rw [hlc] at hlen
    rw [show trmA = atC [1, 0, 0, 0] ((Tryz.f96.body).getD .skip) from rfl]
    by_cases hz : c = 0
    · subst hz
      right
      have c1 : decide ((0 : Int) < ((0 : Nat) : Int)) = false := rfl
      simp (disch := omega) only [Tryz.f96, Option.getD_some, atC, es_seq, es_region, es_cond, es_exit, ops_nil, ops_cons, ops_consG, st_move, sy_pick, pickS_false, sy_len uL, sy_bin, binS_gtr, bindO_some, bindF_some, bindX_normal, bindX_exit, condX_false, iteB_false, ev_tmp, ev_const, putA, upd_at, Option.map_some, ↓reduceIte, Nat.reduceEqDiff, yieldO_eq, yO, yV_bool, some_true, List.getElem?_cons_zero, List.getElem?_cons_succ, ↓bindO_some, ↓bindF_some, ↓bindX_normal, ↓bindX_exit, ↓condX_false, ↓iteB_false, h0, hlen, c1]
      exact ⟨_, _, _, rfl, by simp, rfl, rfl, v', by simp only [upd_get, ↓reduceIte, Nat.reduceEqDiff, h0], by rw [← ht]; exact hr⟩
    · obtain ⟨d, rfl⟩ : ∃ d, c = d + 1 := ⟨c - 1, by omega⟩
      have c1 : (0 : Int) < ((d + 1 : Nat) : Int) := by omega
      have e1 : IntKind.i64.wrap (((d + 1 : Nat) : Int) - 1) = (d : Int) := by rw [wr64 (by omega) (by omega)]; omega
      have hx := take_snoc' (l := l) (c := d) (by omega)
      have a1 : addrS 1 v' (vi d) = some (pt v' d) := by have := hr.R.addrI (i := (d : Int)) (by omega) (by omega); simpa using this
      have l1 : loadS (pt v' d) H' = some (vi (l.getD d 0)) := by
        have := hr.R.loadI (i := d) (by omega)
        rw [this, hx, List.getD_eq_getElem?_getD, List.getElem?_append_right (by rw [List.length_take]; omega), List.length_take, Nat.min_eq_left (by omega), Nat.sub_self]
        rfl
      rw [hx, trimL_snoc] at ht
      by_cases hy : l.getD d 0 = 0
      · left
        rw [if_pos hy] at ht
        obtain ⟨v2, s2, r2⟩ := hr.upto (c := d) (by omega)
        rw [List.take_take, Nat.min_eq_left (by omega)] at r2
        simp (disch := omega) only [Tryz.f96, Option.getD_some, atC, es_seq, es_region, es_cond, es_block, es_skip, ops_nil, ops_cons, ops_consG, st_move, st_assign, sy_pick, pickS_true, sy_len uL, sy_addr eL, sy_load aI, sy_bin, sy_slice eL, binS_gtr, binS_eql, binS_sub, bindO_some, bindF_some, bindX_normal, blkX_normal, condX_true, iteB_true, ev_tmp, ev_const, putA, upd_at, Option.map_some, ↓reduceIte, Nat.reduceEqDiff, decide_true, yieldO_eq, yO, yV_bool, List.getElem?_cons_zero, List.getElem?_cons_succ, beq_self_eq_true, ↓bindO_some, ↓bindF_some, ↓bindX_normal, ↓condX_true, ↓iteB_true, h0, hlen, c1, e1, a1, l1, hy, Option.map_none, s2]
        exact ⟨_, _, rfl, d, by omega, rfl, v2, by simp only [upd_get, ↓reduceIte], r2, by omega, ht⟩
      · right
        rw [if_neg hy] at ht
        simp (disch := omega) only [Tryz.f96, Option.getD_some, atC, es_seq, es_region, es_cond, es_exit, ops_nil, ops_cons, ops_consG, st_move, sy_pick, pickS_true, sy_len uL, sy_addr eL, sy_load aI, sy_bin, binS_gtr, binS_eql, binS_sub, bindO_some, bindF_some, bindX_normal, bindX_exit, condX_false, iteB_true, ev_tmp, ev_const, putA, upd_at, Option.map_some, ↓reduceIte, Nat.reduceEqDiff, decide_true, decide_false, yieldO_eq, yO, yV_bool, List.getElem?_cons_zero, List.getElem?_cons_succ, beq_self_eq_true, ↓bindO_some, ↓bindF_some, ↓bindX_normal, ↓bindX_exit, ↓condX_false, ↓iteB_true, h0, hlen, c1, e1, a1, l1, hy]
        exact ⟨_, _, _, rfl, by simp, rfl, rfl, v', by simp only [upd_get, ↓reduceIte, Nat.reduceEqDiff, h0], by rw [← ht, ← hx]; exact hr⟩
  rw [show trmA = atC [1, 0, 0, 0] ((Tryz.f96.body).getD .skip) from rfl] at key
  simp only [Tryz.f96, Option.getD_some, atC] at key
  simp (disch := omega) only [Tryz.f96, es_seq, es_region, es_block, es_loop, es_ret, ops_nil, ops_cons, st_move, st_assign, bindO_some, bindF_some, bindX_normal, ev_tmp, ev_const, putA, upd_at, ↓reduceIte, ↓bindO_some, ↓bindF_some, ↓bindX_normal]
  generalize hA : upd _ 2 _ = A
  obtain ⟨x, a', H', e, hx, hH, v', h0, r⟩ := key A (by subst hA; rfl)
  subst hx
  subst hH
  rw [e]
  simp (disch := omega) only [bindX_normal, blkX_exit, upd_at, Option.map_some, ↓reduceIte, ↓bindX_normal, fin_r, res_nil, res_tmp, pack_1, h0, r.R.scal]
  exact ⟨_, rfl, r⟩
def Wh (C : Nat) (H : Heap) (w : Value) (z : Int) : Prop := ∃ v, w = .agg #[.bool (decide (z < 0)), v] ∧ RO C H v (ints (nf z.natAbs))
def OneW (H : Heap) (r : Option (Value × Heap)) (z : Int) : Prop := ∃ w H', r = some (w, H') ∧ Wh H.length H' w z ∧ Old H.length H H' ∧ WF H'
theorem Wh.mono {C : Nat} {H H' : Heap} {w : Value} {z : Int} (h : Wh C H w z) (ho : Old H.length H H') : Wh C H' w z := by
  obtain ⟨v, h1, h2⟩ := h
  exact ⟨v, h1, h2.mono ho⟩
theorem Wh.below {C C' : Nat} {H : Heap} {w : Value} {z : Int} (h : Wh C H w z) (hc : C' ≤ C) : Wh C' H w z := by
  obtain ⟨v, h1, h2⟩ := h
  exact ⟨v, h1, h2.below hc⟩
theorem Wh.kept {C : Nat} {H H' : Heap} {w : Value} {z : Int} (h : Wh C H w z) (k : Kept C H H') : Wh C H' w z := by
  obtain ⟨v, h1, h2⟩ := h
  exact ⟨v, h1, h2.kept k⟩
noncomputable def readA_ : Code := atC [1, 1, 1, 0, 1, 0, 0] ((Tryz.f72.body).getD .skip)
noncomputable def readB : Code := atC [1, 1, 1, 1, 1, 1, 0, 1, 0, 0] ((Tryz.f72.body).getD .skip)
theorem read_loop1 {H0 H : Heap} {v p : Value} {l : List Int} (hv : R H0 v (ints l)) (old0 : Old H0.length H0 H) (hw : WF H) (hl : l.length ≤ 900) (hb : ∀ x ∈ l, -4000000000000000000 ≤ x ∧ x ≤ 4000000000000000000) (n m nt : Nat) (hn : 10 ≤ n) {a : Fr} {k : Nat} (hk : l.length + 2 < k)
    (h0 : a 0 = v) (h2 : a 2 = p) (h3 : a 3 = .slice none 0 0) (h4 : a 4 = vi 0) (h5 : a 5 = vi (0 : Nat)) :
    ∃ x a' H', loopN (evS Tryz.prog (evB Tryz.prog bC n) m nt none readA_) k a H = some (x, a', H') ∧ x = .exit 0 ∧ a' 2 = p ∧ ∃ vo out c, a' 3 = vo ∧ a' 4 = vi c ∧ O H.length H' vo (ints out) ∧ Old H.length H H' ∧ WF H' ∧ out.length ≤ l.length + 2 ∧ Dg out ∧ val out + B ^ out.length * c = val l ∧ (c = 0 ∨ c = -1) := by
  refine loop_wf (fun q a H' => a 0 = v ∧ a 2 = p ∧ ∃ vo out c, a 3 = vo ∧ a 4 = vi c ∧ a 5 = vi (out.length : Nat) ∧ O H.length H' vo (ints out) ∧ Old H.length H H' ∧ WF H' ∧ out.length + q ≤ l.length + 2 ∧ Dg out ∧ val out + B ^ out.length * c = val (l.take out.length) ∧ ((out.length < l.length ∧ q = l.length - out.length + 2 ∧ -100000000000 ≤ c ∧ c ≤ 100000000000) ∨ (l.length ≤ out.length ∧ MM q c))) _ ?_ k (l.length + 2) a H hk ?_
  · intro q a H' ⟨h0, h2, vo, out, c, h3, h4, h5, ho, old, hw, hq, hd, hval, hM⟩
    rw [show readA_ = atC [1, 1, 1, 0, 1, 0, 0] ((Tryz.f72.body).getD .skip) from rfl]
    have hr := hv.keep (Nat.le_refl _) (old0.trans (old.mono old0.1))
    have e3 : IntKind.i64.wrap ((out.length : Int) + 1) = ((out.length + 1 : Nat) : Int) := by rw [wr64 (by omega) (by omega)]; omega
    rcases hM with ⟨hlt, hqe, hc1, hc2⟩ | ⟨hge, hM⟩
    · left
      have hx := hb _ (getD_mem hlt)
      have c1 : ((out.length : Int) < l.length) := by omega
      have s1 := floored_run hx.1 hx.2 n H' hn
      have e1 : IntKind.i64.wrap (l.getD out.length 0 % 100000000 + c) = l.getD out.length 0 % 100000000 + c := wr64 (by omega) (by omega)
      have s2 := floored_run (z := l.getD out.length 0 % 100000000 + c) (by omega) (by omega) n H' hn
      have e2 : IntKind.i64.wrap (l.getD out.length 0 / 100000000 + (l.getD out.length 0 % 100000000 + c) / 100000000) = l.getD out.length 0 / 100000000 + (l.getD out.length 0 % 100000000 + c) / 100000000 := wr64 (by omega) (by omega)
      obtain ⟨v2, H2, ep, o2, old2, wf2⟩ := ho.pushI hw old.1 (by unfold maxA; omega) ((l.getD out.length 0 % 100000000 + c) % 100000000)
      simp (disch := omega) only [Tryz.f72, Option.getD_some, atC, es_seq, es_region, es_cond, es_block, es_skip, ops_nil, ops_cons, ops_consG, st_move, st_assign, sy_pick, pickS_true, st_fun, sy_len uL, sy_addr eL, sy_load aI, sy_bin, sy_append eL pI, sy_build1 eL oI, sy_ext, ext_20, ext_21, binS_lss, binS_add, bindO_some, bindF_some, bindX_normal, blkX_normal, condX_true, iteB_false, ev_tmp, ev_const, ev_func, putA, upd_at, Option.map_some, ↓reduceIte, Nat.reduceEqDiff, Int.toNat_natCast, List.map_cons, List.map_nil, decide_true, Bool.not_true, yieldO_eq, yO, yV_bool, yV_undef, none_some, some_false, List.getElem?_cons_zero, List.getElem?_cons_succ, ↓bindO_some, ↓bindF_some, ↓bindX_normal, ↓condX_true, ↓iteB_false, scal_vi, h0, h3, h4, h5, hr.lenI, c1, hr.addrI, hr.loadI, s1, s2, e1, e2, e3, ep]
      have hvl := norm_step (x := l.getD out.length 0) rfl hval (by rw [List.length_take]; omega)
      rw [← take_snoc' hlt] at hvl
      refine ⟨_, _, rfl, q - 1, by omega, by simp only [upd_get, ↓reduceIte, Nat.reduceEqDiff, h0], by simp only [upd_get, ↓reduceIte, Nat.reduceEqDiff, h2], v2, out ++ [(l.getD out.length 0 % 100000000 + c) % 100000000], l.getD out.length 0 / 100000000 + (l.getD out.length 0 % 100000000 + c) / 100000000, by simp only [upd_get, ↓reduceIte, Nat.reduceEqDiff], by simp only [upd_get, ↓reduceIte, Nat.reduceEqDiff], by simp only [upd_get, ↓reduceIte, List.length_append, List.length_singleton], o2, old.trans old2, wf2, by rw [List.length_append, List.length_singleton]; omega, hd.app (Dg.one (by omega) (by unfold B; omega)), by rw [List.length_append, List.length_singleton]; exact hvl, ?_⟩
      rw [List.length_append, List.length_singleton]
      by_cases hl2 : out.length + 1 < l.length
      · exact .inl ⟨hl2, by omega, by omega, by omega⟩
      · exact .inr ⟨by omega, .inr (.inr ⟨by omega, by omega, by omega⟩)⟩
    · have c1 : ¬ ((out.length : Int) < l.length) := by omega
      have ht : l.take out.length = l := List.take_of_length_le hge
      rw [ht] at hval
      by_cases hz : c = 0
      · right
        simp (disch := omega) only [Tryz.f72, Option.getD_some, atC, es_seq, es_region, es_cond, es_exit, ops_nil, ops_cons, ops_consG, st_move, sy_pick, pickS_false, sy_len uL, sy_bin, binS_lss, binS_neq, bindO_some, bindF_some, bindX_normal, bindX_exit, condX_false, iteB_true, iteB_false, ev_tmp, ev_const, putA, upd_at, Option.map_some, ↓reduceIte, Nat.reduceEqDiff, decide_true, decide_false, Bool.not_true, yieldO_eq, yO, yV_bool, some_true, List.getElem?_cons_zero, List.getElem?_cons_succ, beq_self_eq_true, ↓bindO_some, ↓bindF_some, ↓bindX_normal, ↓bindX_exit, ↓condX_false, ↓iteB_true, ↓iteB_false, h0, h4, h5, hr.lenI, c1, hz]
        exact ⟨_, _, _, rfl, by simp, rfl, by simp only [upd_get, ↓reduceIte, Nat.reduceEqDiff, h2], vo, out, 0, by simp only [upd_get, ↓reduceIte, Nat.reduceEqDiff, h3], by simp only [upd_get, ↓reduceIte, Nat.reduceEqDiff, h4, hz], ho, old, hw, by omega, hd, by rw [← hz]; exact hval, .inl rfl⟩
      · by_cases hy : c = -1
        · right
          have d1 : decide (c = 0) = false := by simp [hz]
          have d2 : decide (c = -1) = true := by simp [hy]
          simp (disch := omega) only [Tryz.f72, Option.getD_some, atC, es_seq, es_region, es_cond, es_exit, ops_nil, ops_cons, ops_consG, st_move, sy_pick, pickS_true, pickS_false, sy_len uL, sy_bin, binS_lss, binS_neq, bindO_some, bindF_some, bindX_normal, bindX_exit, condX_false, iteB_true, ev_tmp, ev_const, putA, upd_at, Option.map_some, ↓reduceIte, Nat.reduceEqDiff, decide_false, Bool.not_true, Bool.not_false, yieldO_eq, yO, yV_bool, List.getElem?_cons_zero, List.getElem?_cons_succ, beq_self_eq_true, ↓bindO_some, ↓bindF_some, ↓bindX_normal, ↓bindX_exit, ↓condX_false, ↓iteB_true, h0, h4, h5, hr.lenI, c1, d1, d2]
          exact ⟨_, _, _, rfl, by simp, rfl, by simp only [upd_get, ↓reduceIte, Nat.reduceEqDiff, h2], vo, out, -1, by simp only [upd_get, ↓reduceIte, Nat.reduceEqDiff, h3], by simp only [upd_get, ↓reduceIte, Nat.reduceEqDiff, h4, hy], ho, old, hw, by omega, hd, by rw [← hy]; exact hval, .inr rfl⟩
        · left
          have s1 := floored_run (z := c) (by rcases hM with h | h | h <;> omega) (by rcases hM with h | h | h <;> omega) n H' hn
          have e0 : IntKind.i64.wrap (0 + c) = c := by rw [wr64 (by rcases hM with h | h | h <;> omega) (by rcases hM with h | h | h <;> omega)]; omega
          have e4 : IntKind.i64.wrap (0 + c / 100000000) = c / 100000000 := by rw [wr64 (by rcases hM with h | h | h <;> omega) (by rcases hM with h | h | h <;> omega)]; omega
          obtain ⟨v2, H2, ep, o2, old2, wf2⟩ := ho.pushI hw old.1 (by unfold maxA; omega) (c % 100000000)
          simp (disch := omega) only [Tryz.f72, Option.getD_some, atC, es_seq, es_region, es_cond, es_block, es_skip, ops_nil, ops_cons, ops_consG, st_move, st_assign, sy_pick, pickS_true, pickS_false, st_fun, sy_len uL, sy_bin, sy_append eL pI, sy_build1 eL oI, sy_ext, ext_20, ext_21, binS_lss, binS_neq, binS_add, bindO_some, bindF_some, bindX_normal, blkX_normal, condX_true, condX_false, iteB_true, ev_tmp, ev_const, ev_func, putA, upd_at, Option.map_some, ↓reduceIte, Nat.reduceEqDiff, List.map_cons, List.map_nil, decide_false, Bool.not_false, yieldO_eq, yO, yV_bool, List.getElem?_cons_zero, List.getElem?_cons_succ, beq_self_eq_true, ↓bindO_some, ↓bindF_some, ↓bindX_normal, ↓condX_true, ↓condX_false, ↓iteB_true, scal_vi, h0, h3, h4, h5, hr.lenI, c1, hz, hy, e0, s1, e4, e3, ep]
          refine ⟨_, _, rfl, q - 1, by rcases hM with h | h | h <;> omega, by simp only [upd_get, ↓reduceIte, Nat.reduceEqDiff, h0], by simp only [upd_get, ↓reduceIte, Nat.reduceEqDiff, h2], v2, out ++ [c % 100000000], c / 100000000, by simp only [upd_get, ↓reduceIte, Nat.reduceEqDiff], by simp only [upd_get, ↓reduceIte, Nat.reduceEqDiff], by simp only [upd_get, ↓reduceIte, List.length_append, List.length_singleton], o2, old.trans old2, wf2, by rw [List.length_append, List.length_singleton]; rcases hM with h | h | h <;> omega, hd.app (Dg.one (by omega) (by unfold B; omega)), by rw [List.take_of_length_le (by rw [List.length_append]; omega)]; exact carry_step _ hval, .inr ⟨by rw [List.length_append]; omega, ?_⟩⟩
          rcases hM with h | h | h
          · omega
          · exact .inl ⟨by omega, by omega⟩
          · exact .inr (.inl ⟨by omega, by omega, by omega⟩)
  · refine ⟨h0, h2, _, [], 0, h3, h4, h5, O.nil _ _, Old.refl _ _, hw, by simp, Dg.nil, by simp [val], ?_⟩
    by_cases hl0 : 0 < l.length
    · exact .inl ⟨by simpa using hl0, by simp, by omega, by omega⟩
    · have hl1 : l.length = 0 := by omega
      exact .inr ⟨by rw [hl1]; exact Nat.zero_le _, .inr (.inr ⟨by omega, by omega, by omega⟩)⟩
def cpl (l : List Int) (z : List Int) (i : Nat) : List Int := z ++ l.drop i
theorem cpl_get {l z : List Int} {i : Nat} (hz : z.length = i) (h : i < l.length) : (cpl l z i).getD i 0 = l.getD i 0 := by
  unfold cpl
  rw [List.getD_eq_getElem?_getD, List.getD_eq_getElem?_getD, List.getElem?_append_right (by omega), hz, Nat.sub_self, List.getElem?_drop, Nat.add_zero]
theorem cpl_set {l z : List Int} {i : Nat} (hz : z.length = i) (h : i < l.length) (x : Int) : (cpl l z i).set i x = cpl l (z ++ [x]) (i + 1) := by
  unfold cpl
  rw [List.set_append_right _ _ (by omega), hz, Nat.sub_self, drop_getD h, List.set_cons_zero]
  simp
theorem cpl_len {l z : List Int} {i : Nat} (hz : z.length = i) (h : i ≤ l.length) : (cpl l z i).length = l.length := by
  unfold cpl
  rw [List.length_append, List.length_drop]; omega
theorem read_loop2 {B0 : Nat} {H0 H : Heap} {vo p : Value} {out : List Int} (hB : B0 ≤ H.length) (ho : O B0 H vo (ints out)) (hd : Dg out) (old0 : Old B0 H0 H) (hw : WF H) (hol : out.length ≤ 1000) (call : CallF) (m nt : Nat) {a : Fr} {k : Nat} (hk : out.length < k)
    (h2 : a 2 = p) (h3 : a 3 = vo) (h10 : a 10 = vi 0) (h58 : a 58 = vo) (h59 : a 59 = vi (out.length : Nat)) (h60 : a 60 = vi (0 : Nat)) :
    ∃ x a' H', loopN (evS Tryz.prog call m nt none readB) k a H = some (x, a', H') ∧ x = .exit 2 ∧ a' 2 = p ∧ a' 3 = vo ∧ ∃ sz b, a' 10 = vi b ∧ O B0 H' vo (ints sz) ∧ Old B0 H0 H' ∧ WF H' ∧ sz.length = out.length ∧ Dg sz ∧ val sz = b * B ^ out.length - val out ∧ (b = 0 ∨ b = 1) ∧ H.length ≤ H'.length := by
  refine loop_up out.length (fun i a H' => a 2 = p ∧ a 3 = vo ∧ a 58 = vo ∧ a 59 = vi (out.length : Nat) ∧ a 60 = vi i ∧ H.length ≤ H'.length ∧ ∃ sz b, a 10 = vi b ∧ O B0 H' vo (ints (cpl out sz i)) ∧ Old B0 H0 H' ∧ WF H' ∧ sz.length = i ∧ Dg sz ∧ val sz = b * B ^ i - val (out.take i) ∧ (b = 0 ∨ b = 1)) _ ?_ ?_ hk
    ⟨h2, h3, h58, h59, h60, Nat.le_refl _, [], 0, h10, by simpa [cpl] using ho, old0, hw, rfl, Dg.nil, by simp [val], .inl rfl⟩
  · intro i a H' hi ⟨h2, h3, h58, h59, h60, hlen, sz, b, h10, ho, old, hw, hsl, hds, hval, hb⟩
    left
    rw [show readB = atC [1, 1, 1, 1, 1, 1, 0, 1, 0, 0] ((Tryz.f72.body).getD .skip) from rfl]
    have hx := hd.getD i
    have hr := ho.R
    have hcl := cpl_len hsl (by omega : i ≤ out.length)
    have hcg := cpl_get hsl hi
    have hlt : (i : Int) < out.length := by omega
    have e1 : IntKind.i64.wrap (0 - out.getD i 0) = - out.getD i 0 := by rw [wr64 (by omega) (by omega)]; omega
    have e2 : IntKind.i64.wrap (- out.getD i 0 - b) = - out.getD i 0 - b := wr64 (by omega) (by omega)
    have e3 : IntKind.i64.wrap ((i : Int) + 1) = ((i + 1 : Nat) : Int) := by rw [wr64 (by omega) (by omega)]; omega
    have a1 : addrS 1 vo (vi i) = some (pt vo i) := by have := hr.addrI (i := (i : Int)) (by omega) (by omega); simpa using this
    have l1 : loadS (pt vo i) H' = some (vi (out.getD i 0)) := by rw [hr.loadI (by omega), hcg]
    have hst := fun (b2 : Int) => compl_step (o := out.getD i 0) (b2 := b2) hsl (by rw [List.length_take]; omega) hval
    obtain ⟨H2, s2, o2, old2, wf2⟩ := ho.setI hw (i := i) (by omega) (- out.getD i 0 - b)
    rw [cpl_set hsl hi] at o2
    have l2 : loadS (pt vo i) H2 = some (vi (- out.getD i 0 - b)) := by
      rw [o2.R.loadI (by rw [cpl_len (by simp [hsl]) (by omega)]; omega)]
      unfold cpl
      rw [List.getD_eq_getElem?_getD, List.append_assoc, List.getElem?_append_right (by omega), hsl, Nat.sub_self]
      rfl
    by_cases hneg : - out.getD i 0 - b < 0
    · have e4 : IntKind.i64.wrap (- out.getD i 0 - b + 100000000) = - out.getD i 0 - b + 100000000 := wr64 (by omega) (by omega)
      obtain ⟨H3, s3, o3, old3, wf3⟩ := o2.setI wf2 (i := i) (by rw [cpl_len (by simp [hsl]) (by omega)]; omega) (- out.getD i 0 - b + 100000000)
      have e5 : (cpl out (sz ++ [- out.getD i 0 - b]) (i + 1)).set i (- out.getD i 0 - b + 100000000) = cpl out (sz ++ [- out.getD i 0 - b + 100000000]) (i + 1) := by
        unfold cpl
        rw [List.append_assoc, List.append_assoc, List.set_append_right _ _ (by omega), hsl, Nat.sub_self]; rfl
      rw [e5] at o3
      simp (disch := omega) only [Tryz.f72, Option.getD_some, atC, es_seq, es_region, es_cond, es_block, es_skip, ops_nil, ops_cons, st_move, st_assign, sy_addr eL, sy_load aI, sy_store zI, sy_bin, sy_neg, binS_lss, binS_add, binS_sub, bindO_some, bindF_some, bindX_normal, blkX_normal, condX_true, ev_tmp, ev_const, putA, upd_at, Option.map_some, ↓reduceIte, Nat.reduceEqDiff, decide_true, ↓bindO_some, ↓bindF_some, ↓bindX_normal, ↓condX_true, h3, h10, h58, h59, h60, hlt, a1, l1, e1, e2, s2, l2, hneg, e4, s3, e3]
      exact ⟨_, _, rfl, by simp only [upd_get, ↓reduceIte, Nat.reduceEqDiff, h2], by simp only [upd_get, ↓reduceIte, Nat.reduceEqDiff, h3], by simp only [upd_get, ↓reduceIte, Nat.reduceEqDiff, h58], by simp only [upd_get, ↓reduceIte, Nat.reduceEqDiff, h59], by simp only [upd_get, ↓reduceIte], Nat.le_trans hlen (Nat.le_trans old2.1 old3.1), _, 1, by simp only [upd_get, ↓reduceIte, Nat.reduceEqDiff], o3, (old.trans old2).trans old3, wf3, by simp [hsl], hds.app (Dg.one (by omega) (by unfold B; omega)), by rw [take_snoc' hi]; exact hst 1, .inr rfl⟩
    · simp (disch := omega) only [Tryz.f72, Option.getD_some, atC, es_seq, es_region, es_cond, es_block, es_skip, ops_nil, ops_cons, st_move, st_assign, sy_addr eL, sy_load aI, sy_store zI, sy_bin, sy_neg, binS_lss, binS_add, binS_sub, bindO_some, bindF_some, bindX_normal, blkX_normal, condX_true, condX_false, ev_tmp, ev_const, putA, upd_at, Option.map_some, ↓reduceIte, Nat.reduceEqDiff, decide_true, decide_false, ↓bindO_some, ↓bindF_some, ↓bindX_normal, ↓condX_true, ↓condX_false, h3, h10, h58, h59, h60, hlt, a1, l1, e1, e2, s2, l2, hneg, e3]
      exact ⟨_, _, rfl, by simp only [upd_get, ↓reduceIte, Nat.reduceEqDiff, h2], by simp only [upd_get, ↓reduceIte, Nat.reduceEqDiff, h3], by simp only [upd_get, ↓reduceIte, Nat.reduceEqDiff, h58], by simp only [upd_get, ↓reduceIte, Nat.reduceEqDiff, h59], by simp only [upd_get, ↓reduceIte], Nat.le_trans hlen old2.1, _, 0, by simp only [upd_get, ↓reduceIte, Nat.reduceEqDiff], o2, old.trans old2, wf2, by simp [hsl], hds.app (Dg.one (by omega) (by unfold B; omega)), by rw [take_snoc' hi]; have := hst 0; simpa using this, .inl rfl⟩
  · intro a H' ⟨h2, h3, h58, h59, h60, hlen, sz, b, h10, ho, old, hw, hsl, hds, hval, hb⟩
    rw [show readB = atC [1, 1, 1, 1, 1, 1, 0, 1, 0, 0] ((Tryz.f72.body).getD .skip) from rfl]
    simp (disch := omega) only [Tryz.f72, Option.getD_some, atC, es_seq, es_region, es_cond, es_exit, ops_nil, ops_cons, sy_bin, binS_lss, bindO_some, bindF_some, bindX_normal, bindX_exit, condX_false, ev_tmp, putA, upd_at, ↓reduceIte, decide_false, ↓bindO_some, ↓bindF_some, ↓bindX_normal, ↓bindX_exit, ↓condX_false, h59, h60, Int.lt_irrefl]
    have e0 : cpl out sz out.length = sz := by unfold cpl; rw [List.drop_length, List.append_nil]
    rw [e0] at ho
    exact ⟨_, _, _, rfl, by simp, rfl, by simp only [upd_get, ↓reduceIte, Nat.reduceEqDiff, h2], by simp only [upd_get, ↓reduceIte, Nat.reduceEqDiff, h3], sz, b, by simp only [upd_get, ↓reduceIte, Nat.reduceEqDiff, h10], ho, old, hw, hsl, hds, by rw [hval, List.take_length], hb, hlen⟩
theorem nf_natAbs_pos {z : Int} (h : 0 ≤ z) : nf z.natAbs = nf z := by rw [natAbs_pos h]
theorem read_run {H : Heap} {v : Value} {z : Int} (hw : WF H) (hv : NumV H v z) (n : Nat) (hn : 2001 ≤ n) :
    OneW H (evB Tryz.prog bC n (.func (.func 72) #[] #[]) [v] H) z := by
  obtain ⟨l, hr, hz, hl, hb⟩ := hv
  refine run_ofB (F := 2000) (Q := fun r => OneW H r z) (fun n hn => ?_) n hn
  rw [body_runS Tryz.func72 rfl (ok_fn (by rfl) Tryz.func72 rfl) (Nat.le_of_ble_eq_true rfl) (D := D0) (by kernel_rfl)]
  have oldb := Old.app H [.cells H.length true [.bool false, .slice none 0 0]]
  have wfb := hw.app (Nat.le_refl H.length) (o := true) (cs := [.bool false, .slice none 0 0])
  have bx := BxM.made (B := H.length) (H := H) (Nat.le_refl _) [.bool false, .slice none 0 0]
  have key1 := fun (A : Fr) => read_loop1 (p := ptrA H.length 0) hr oldb wfb hl hb n n Tryz.f72.ntmps (by omega) (a := A) (k := n) (by omega)
  have key2 := fun (A : Fr) {B0 : Nat} {H0 H1 : Heap} {vo : Value} {out : List Int} (hol : out.length ≤ 902) (hB : B0 ≤ H1.length) (ho : O B0 H1 vo (ints out)) (hd : Dg out) (old0 : Old B0 H0 H1) (hw : WF H1) => read_loop2 (p := ptrA H.length 0) hB ho hd old0 hw (by omega) (evB Tryz.prog bC n) n Tryz.f72.ntmps (a := A) (k := n) (by omega)
  rw [show readA_ = atC [1, 1, 1, 0, 1, 0, 0] ((Tryz.f72.body).getD .skip) from rfl] at key1
  rw [show readB = atC [1, 1, 1, 1, 1, 1, 0, 1, 0, 0] ((Tryz.f72.body).getD .skip) from rfl] at key2
  simp only [Tryz.f72, Option.getD_some, atC] at key1 key2
  simp (disch := omega) only [Tryz.f72, es_seq, es_region, es_cond, es_block, es_loop, es_skip, es_ret, ops_nil, ops_cons, st_move, st_assign, st_fun, sy_len uL, sy_bin, sy_append eL pI, sy_build1 eL oI, bindO_some, bindF_some, bindX_normal, ev_tmp, ev_const, ev_func, putA, upd_at, ↓reduceIte, Nat.reduceEqDiff, List.map_cons, List.map_nil, ↓bindO_some, ↓bindF_some, ↓bindX_normal, scal_vi, sy_storeN zW, sy_alloc iW scal_agg, sy_build]
  generalize hA : upd _ 5 _ = A
  obtain ⟨x, a1, H1, e1, hx, g2, vo, out, c, h3, h4, o1, old1, wf1, hol, hd, hval, hc⟩ := key1 A (by subst hA; rfl) (by subst hA; rfl) (by subst hA; rfl) (by subst hA; rfl) (by subst hA; rfl)
  subst hx
  rw [e1]
  clear key1 e1
  have bx1 := bx.mono old1
  rcases hc with rfl | rfl
  · rw [Int.mul_zero, Int.add_zero] at hval
    obtain ⟨v3, s3, r3⟩ := trimmed_run o1.RO (by omega) n (by omega)
    obtain ⟨H4, s4, bx4, old4, wf4, keep4⟩ := bx1.store wf1 (vs := [.bool false, v3]) rfl
    have s5 : loadN 2 (ptrA H.length 0) H4 = some (.agg #[.bool false, v3]) := bx4.loadAll
    have s4 : storeN 2 (ptrA H.length 0) (.agg #[.bool false, v3]) H1 = some H4 := s4
    have hz0 : 0 ≤ z := by have := hd.val; omega
    simp (disch := omega) only [binS_eql, bindO_some, bindF_some, bindX_normal, bindX_ret, blkX_exit, condX_true, upd_at, Option.map_some, ↓reduceIte, Nat.reduceEqDiff, decide_true, ↓bindO_some, ↓bindF_some, ↓bindX_normal, ↓bindX_ret, ↓condX_true, fin_r, res_nil, pack_1, res_cell aW zW, g2, h3, h4, s3, bW1 v3 r3.R.scal, s4, s5]
    have hzp : decide (z < 0) = false := by simp; omega
    refine ⟨_, _, rfl, ⟨v3, by rw [hzp], ?_⟩, (oldb.trans (old1.mono oldb.1)).trans old4, wf4⟩
    rw [nf_natAbs_pos hz0, ← nf_of_digs hd (hval.trans hz)]
    exact (r3.kept keep4).below oldb.1
  · have hneg := hd.val
    have hz1 : ¬ (-1 : Int) = 0 := by omega
    have hrl := o1.R.lenI
    simp (disch := omega) only [binS_eql, bindO_some, bindF_some, bindX_normal, blkX_exit, condX_false, upd_at, Option.map_some, ↓reduceIte, Nat.reduceEqDiff, decide_false, ↓bindO_some, ↓bindF_some, ↓bindX_normal, ↓condX_false, h3, h4, hz1, hrl]
    generalize hA : upd _ 60 _ = A
    obtain ⟨x, a2, H2, e2, hx, g2', g3, sz, b, h10, o2, old2, wf2, hsl, hds, hvs, hb', hlen2⟩ := key2 A (H0 := H ++ [.cells H.length true [.bool false, .slice none 0 0]]) (by omega) old1.1 o1 hd old1 wf1 (by subst hA; exact g2) (by subst hA; exact h3) (by subst hA; rfl) (by subst hA; rfl) (by subst hA; rfl) (by subst hA; rfl)
    subst hx
    rw [e2]
    clear key2 e2
    have bx2 := bx.mono old2
    have fin : ∀ (H3 : Heap) (v3 : Value) (l3 : List Int), RO (H ++ [Blk.cells H.length true [.bool false, .slice none 0 0]]).length H3 v3 (ints l3) → WF H3 → Old (H ++ [Blk.cells H.length true [.bool false, .slice none 0 0]]).length H2 H3 → Dg l3 → l3.length ≤ 1000 → val l3 = -z → ∃ v4 H4, evB Tryz.prog bC n (.func (.func 96) #[] #[]) [v3] H3 = some (v4, H3) ∧ Abs.scal v4 = some [v4] ∧ storeN 2 (ptrA H.length 0) (.agg #[.bool true, v4]) H3 = some H4 ∧ loadN 2 (ptrA H.length 0) H4 = some (.agg #[.bool true, v4]) ∧ RO H.length H4 v4 (ints (nf z.natAbs)) ∧ Old H.length H H4 ∧ WF H4 := by
      intro H3 v3 l3 r3 wf3 old3 hd3 hl3 hv3
      obtain ⟨v4, s4, r4⟩ := trimmed_run r3 hl3 n (by omega)
      obtain ⟨H4, s5, bx5, old5, wf5, keep5⟩ := (bx2.mono old3).store wf3 (vs := [.bool true, v4]) rfl
      have s6 := bx5.loadAll
      refine ⟨v4, H4, s4, r4.R.scal, s5, s6, ?_, ((oldb.trans (old2.mono oldb.1)).trans (old3.mono oldb.1)).trans old5, wf5⟩
      have hv := hd3.val
      rw [show ((z.natAbs : Nat) : Int) = -z from by omega, ← nf_of_digs hd3 hv3]
      exact (r4.kept keep5).below oldb.1
    have hzneg : decide (z < 0) = true := by simp; omega
    rcases hb' with rfl | rfl
    · obtain ⟨v5, H5, s5, o5, old5, wf5⟩ := o2.pushI wf2 (Nat.le_trans old1.1 hlen2) (by unfold maxA; omega) 1
      obtain ⟨v4, H4, s4, sc4, s6, s7, r4, old4, wf4⟩ := fin H5 v5 _ o5.RO wf5 old5 (hds.app (Dg.one (by omega) (by unfold B; omega))) (by rw [List.length_append, List.length_singleton]; omega) (by rw [val_snoc, hvs, hsl]; omega)
      simp (disch := omega) only [binS_eql, bindO_some, bindF_some, bindX_normal, blkX_exit, condX_true, upd_at, Option.map_some, ↓reduceIte, Nat.reduceEqDiff, decide_true, ↓bindO_some, ↓bindF_some, ↓bindX_normal, ↓condX_true, fin_r, res_nil, pack_1, res_cell aW zW, g2', g3, h10, s5, s4, bW2 true v4 sc4, s6, s7]
      exact ⟨_, _, rfl, ⟨v4, by rw [hzneg], r4⟩, old4, wf4⟩
    · obtain ⟨v4, H4, s4, sc4, s6, s7, r4, old4, wf4⟩ := fin H2 vo _ o2.RO wf2 (Old.refl _ _) hds (by omega) (by rw [hvs]; omega)
      have hone : ¬ (1 : Int) = 0 := by omega
      simp (disch := omega) only [binS_eql, bindO_some, bindF_some, bindX_normal, blkX_exit, condX_false, upd_at, Option.map_some, ↓reduceIte, Nat.reduceEqDiff, decide_false, ↓bindO_some, ↓bindF_some, ↓bindX_normal, ↓condX_false, fin_r, res_nil, pack_1, res_cell aW zW, g2', g3, h10, hone, s4, bW2 true v4 sc4, s6, s7]
      exact ⟨_, _, rfl, ⟨v4, by rw [hzneg], r4⟩, old4, wf4⟩
end Go.Proofs.YtmmgdgmjkhcfaaaGreat
namespace Go.Proofs.YtmmgdgmjkhcfaaaGreat
open Go Go.Abs Go.Num
set_option maxRecDepth 10000
attribute [local congr] bindO_congr bindF_congr bindX_congr condX_congr iteB_congr binS_congr pickS_congr eqB_congr nilS_congr
theorem clone_run {H : Heap} {v : Value} {l : List Int} (hw : WF H) (hv : R H v (ints l)) (hl : l.length ≤ 10000) (n : Nat) (hn : 10 ≤ n) : OneL H (evB Tryz.prog bC n (.func (.func 31) #[] #[]) [v] H) l := by
  refine run_ofB (F := 9) (Q := fun x => OneL H x l) (fun n hn => ?_) n hn
  rw [body_runS Tryz.func31 rfl (ok_fn (by rfl) Tryz.func31 rfl) (Nat.le_of_ble_eq_true rfl) (D := D0) (by kernel_rfl)]
  have old1 := Old.app H [.cells H.length true []]
  obtain ⟨v2, H2, s2, o2, old2, wf2⟩ := (O.empty (H := H) (Nat.le_refl H.length)).app (hw.app (Nat.le_refl _)) (by simp) (hv.mono old1) (by rw [ints_len]; simp [maxA]; omega)
  have fin : nilS v H (rest none) = some (.bool false, H) → OneL H (some (v2, H2)) l := fun _ => ⟨_, _, rfl, o2, old1.trans old2, wf2⟩
  rcases hv with ⟨rfl, hl0⟩ | ⟨rfl, hl0⟩ | ⟨b, o, f, w, cs, rfl, h⟩
  · have : l = [] := by simpa [ints] using hl0
    subst this
    have hn : ∀ r, nilS (.slice none 0 0) H r = some (.bool true, H) := fun _ => rfl
    simp only [Tryz.f31, es_seq, es_region, es_cond, es_ret, ops_nil, ops_cons, st_move, st_assign, ↓sy_nil uL, hn, bindO_some, bindF_some, bindX_normal, bindX_ret, condX_true, ev_tmp, ev_const, putA, upd_at, frOf_0, ↓reduceIte, Nat.reduceEqDiff, fin_r, res_nil, res_tmp, pack_1, scal_nil, Option.map_some]
    exact ⟨_, _, rfl, O.nil _ _, Old.refl _ _, hw⟩
  · have hn : ∀ r, nilS lostSlice H r = some (.bool false, H) := fun _ => rfl
    simp only [Tryz.f31, es_seq, es_region, es_cond, es_ret, es_skip, ops_nil, ops_cons, st_move, st_assign, ↓sy_nil uL, hn, bindO_some, bindF_some, bindX_normal, condX_false, ev_tmp, ev_const, putA, upd_at, frOf_0, ↓reduceIte, Nat.reduceEqDiff, sy_build0 eL nI, sy_append eL pI, s2, o2.R.scal, fin_r, res_nil, res_tmp, pack_1, Option.map_some]
    exact ⟨_, _, rfl, o2, old1.trans old2, wf2⟩
  · have hn : ∀ r, nilS (sliceA b o (ints l).length 1) H r = some (.bool false, H) := fun _ => rfl
    simp only [Tryz.f31, es_seq, es_region, es_cond, es_ret, es_skip, ops_nil, ops_cons, st_move, st_assign, ↓sy_nil uL, hn, bindO_some, bindF_some, bindX_normal, condX_false, ev_tmp, ev_const, putA, upd_at, frOf_0, ↓reduceIte, Nat.reduceEqDiff, sy_build0 eL nI, sy_append eL pI, s2, o2.R.scal, fin_r, res_nil, res_tmp, pack_1, Option.map_some]
    exact ⟨_, _, rfl, o2, old1.trans old2, wf2⟩
noncomputable def listA : Code := atC [1, 1, 0, 1, 0, 1, 0, 0] ((Tryz.f59.body).getD .skip)
theorem list_loop {B0 : Nat} {H0 : Heap} {v : Value} {l : List Int} (call : CallF) (m nt : Nat) {a : Fr} {H : Heap} {k : Nat} (hk : l.length < k) (hl : l.length ≤ 1000) (hb : ∀ x ∈ l, -4000000000000000000 ≤ x ∧ x ≤ 4000000000000000000)
    (ho : O B0 H v (ints l)) (old : Old B0 H0 H) (hw : WF H) (h3 : a 3 = v) (h11 : a 11 = vi l.length) (h12 : a 12 = vi (0 : Nat)) :
    ∃ x a' H', loopN (evS Tryz.prog call m nt none listA) k a H = some (x, a', H') ∧ x = .exit 0 ∧ O B0 H' v (ints (l.map (- ·))) ∧ Old B0 H0 H' ∧ WF H' ∧ a' 3 = v := by
  refine loop_up l.length (fun i a H' => a 3 = v ∧ a 11 = vi l.length ∧ a 12 = vi i ∧ O B0 H' v (ints (negI l i)) ∧ Old B0 H0 H' ∧ WF H') _ ?_ ?_ hk ⟨h3, h11, h12, by rw [negI_0]; exact ho, old, hw⟩
  · intro i a H' hi ⟨h3, h11, h12, ho, old, hw⟩
    left
    rw [show listA = atC [1, 1, 0, 1, 0, 1, 0, 0] ((Tryz.f59.body).getD .skip) from rfl]
    have hlen := negI_len l i
    have hx := hb _ (getD_mem hi)
    have e1 := negI_get hi
    have e2 : IntKind.i64.wrap (0 - l.getD i 0) = - l.getD i 0 := by rw [wr64 (by omega) (by omega)]; omega
    obtain ⟨H2, es, o2, old2, wf2⟩ := ho.setI hw (i := i) (by omega) (- l.getD i 0)
    have e3 : IntKind.i64.wrap ((i : Int) + 1) = ((i + 1 : Nat) : Int) := by rw [wr64 (by omega) (by omega)]; omega
    have hr := ho.R
    have hlt : (i : Int) < l.length := by omega
    simp (disch := omega) only [Tryz.f59, Option.getD_some, atC, es_seq, es_region, es_cond, es_block, es_skip, ops_nil, ops_cons, st_move, st_assign, sy_addr eL, sy_load aI, sy_store zI, sy_bin, sy_neg, binS_lss, binS_add, bindO_some, bindF_some, bindX_normal, blkX_normal, condX_true, ev_tmp, ev_const, putA, upd_at, Option.map_some, ↓reduceIte, Nat.reduceEqDiff, Int.toNat_natCast, decide_true, ↓bindO_some, ↓bindF_some, ↓bindX_normal, ↓condX_true, h3, h11, h12, hlt, hr.addrI, hr.loadI, e1, e2, es, e3]
    exact ⟨_, _, rfl, by simp only [upd_get, ↓reduceIte, Nat.reduceEqDiff, h3], by simp only [upd_get, ↓reduceIte, Nat.reduceEqDiff, h11], by simp only [upd_get, ↓reduceIte], by rw [← negI_set hi]; exact o2, old.trans old2, wf2⟩
  · intro a H' ⟨h3, h11, h12, ho, old, hw⟩
    rw [show listA = atC [1, 1, 0, 1, 0, 1, 0, 0] ((Tryz.f59.body).getD .skip) from rfl]
    simp (disch := omega) only [Tryz.f59, Option.getD_some, atC, es_seq, es_region, es_cond, es_exit, ops_nil, ops_cons, sy_bin, binS_lss, bindO_some, bindF_some, bindX_normal, bindX_exit, condX_false, ev_tmp, putA, upd_at, ↓reduceIte, decide_false, ↓bindO_some, ↓bindF_some, ↓bindX_normal, ↓bindX_exit, ↓condX_false, h11, h12, Int.lt_irrefl]
    exact ⟨_, _, _, rfl, by simp, rfl, by rw [← negI_all]; exact ho, old, hw, by simp only [upd_get, ↓reduceIte, Nat.reduceEqDiff, h3]⟩
theorem list_run {H : Heap} {w : Value} {z : Int} (hw : WF H) {C : Nat} (hv : Wh C H w z) (hl : (nf z.natAbs).length ≤ 900) (n : Nat) (hn : 1010 ≤ n) :
    OneL H (evB Tryz.prog bC n (.func (.func 59) #[] #[]) [w] H) (nf z) := by
  obtain ⟨v, rfl, hr⟩ := hv
  have hr := hr.R
  generalize hnb : decide (z < 0) = nb
  refine run_ofB (F := 1009) (Q := fun r => OneL H r (nf z)) (fun n hn => ?_) n hn
  rw [body_runS Tryz.func59 rfl (ok_fn (by rfl) Tryz.func59 rfl) (Nat.le_of_ble_eq_true rfl) (D := D0) (by kernel_rfl)]
  have oldb := Old.app H [.cells H.length true [.bool nb, v]]
  have wfb := hw.app (Nat.le_refl H.length) (o := true) (cs := [.bool nb, v])
  have bb := BxM.made (B := H.length) (H := H) (Nat.le_refl _) [.bool nb, v]
  obtain ⟨v1, H1, s1, o1, old1, wf1⟩ := clone_run wfb (hr.mono oldb) (by omega) n (by omega)
  have f0 := bb.faddr 0
  have f1 := bb.faddr 1
  have l1 : loadS (bx (ptrA H.length 0) 1) (H ++ [.cells H.length true [.bool nb, v]]) = some v := bb.load 1
  have l0 : loadS (bx (ptrA H.length 0) 0) H1 = some (.bool nb) := (bb.mono old1).load 0
  have old01 := oldb.trans (old1.mono oldb.1)
  cases nb with
  | true =>
    have hz : z < 0 := by simpa using hnb
    have hlen := o1.R.lenI
    have key := fun (A : Fr) => list_loop (evB Tryz.prog bC n) n Tryz.f59.ntmps (a := A) (k := n) (by omega) (by omega) (nfb _) o1 old1 wf1
    rw [show listA = atC [1, 1, 0, 1, 0, 1, 0, 0] ((Tryz.f59.body).getD .skip) from rfl] at key
    simp only [Tryz.f59, Option.getD_some, atC] at key
    simp (disch := omega) only [Tryz.f59, es_seq, es_region, es_cond, es_block, es_loop, es_skip, es_ret, ops_nil, ops_cons, st_move, st_assign, st_fun, sy_len uL, sy_bin, bindO_some, bindF_some, bindX_normal, condX_true, ev_tmp, ev_const, ev_func, putA, upd_at, Option.map_some, ↓reduceIte, Nat.reduceEqDiff, frOf_0, List.map_cons, List.map_nil, ↓bindO_some, ↓bindF_some, ↓bindX_normal, ↓condX_true, sy_load aL, sy_load aB, sy_faddr fW0, sy_faddr fW1, sy_box, scal_agg, f0, f1, l1, s1, l0, hlen]
    generalize hA : upd _ 12 _ = A
    obtain ⟨r, a', H', e, hr', o2, old2, wf2, h3⟩ := key A (by subst hA; rfl) (by subst hA; rfl) (by subst hA; rfl)
    subst hr'
    rw [e]
    have hlen2 := o2.R.lenI
    rw [List.length_map] at hlen2
    have hne : (nf z.natAbs).length ≠ 0 := fun h => by have := nf_nil.1 (List.eq_nil_of_length_eq_zero h); omega
    have c1 : ¬ ((nf z.natAbs).length : Int) = 0 := by omega
    simp (disch := omega) only [binS_eql, bindO_some, bindF_some, bindX_normal, blkX_exit, condX_false, upd_at, Option.map_some, ↓reduceIte, Nat.reduceEqDiff, decide_false, ↓bindO_some, ↓bindF_some, ↓bindX_normal, ↓condX_false, fin_r, res_nil, res_tmp, pack_1, h3, hlen2, c1, o2.R.scal]
    refine ⟨_, _, rfl, ?_, oldb.trans (old2.mono oldb.1), wf2⟩
    rw [show nf z = (nf z.natAbs).map (- ·) from by rw [nf_neg']; congr 1; omega]
    exact o2.below oldb.1
  | false =>
    have hz : ¬ z < 0 := by simpa using hnb
    have hlen := o1.R.lenI
    rw [nf_natAbs_pos (by omega)] at o1 hlen hl
    by_cases hne : (nf z).length = 0
    · have c1 : (((nf z).length : Nat) : Int) = 0 := by omega
      have hnil := List.eq_nil_of_length_eq_zero hne
      simp (disch := omega) only [Tryz.f59, es_seq, es_region, es_cond, es_skip, es_ret, ops_nil, ops_cons, st_move, st_assign, st_fun, sy_len uL, sy_bin, binS_eql, bindO_some, bindF_some, bindX_normal, bindX_ret, condX_true, condX_false, ev_tmp, ev_const, ev_func, putA, upd_at, Option.map_some, ↓reduceIte, Nat.reduceEqDiff, frOf_0, List.map_cons, List.map_nil, decide_true, ↓bindO_some, ↓bindF_some, ↓bindX_normal, ↓bindX_ret, ↓condX_true, ↓condX_false, fin_r, res_nil, res_tmp, pack_1, scal_nil, sy_load aL, sy_load aB, sy_faddr fW0, sy_faddr fW1, sy_box, scal_agg, f0, f1, l1, s1, l0, hlen, c1]
      rw [hnil]
      exact ⟨_, _, rfl, O.nil _ _, old01, wf1⟩
    · have c1 : ¬ (((nf z).length : Nat) : Int) = 0 := by omega
      simp (disch := omega) only [Tryz.f59, es_seq, es_region, es_cond, es_skip, es_ret, ops_nil, ops_cons, st_move, st_assign, st_fun, sy_len uL, sy_bin, binS_eql, bindO_some, bindF_some, bindX_normal, condX_false, ev_tmp, ev_const, ev_func, putA, upd_at, Option.map_some, ↓reduceIte, Nat.reduceEqDiff, frOf_0, List.map_cons, List.map_nil, decide_false, ↓bindO_some, ↓bindF_some, ↓bindX_normal, ↓condX_false, fin_r, res_nil, res_tmp, pack_1, sy_load aL, sy_load aB, sy_faddr fW0, sy_faddr fW1, sy_box, scal_agg, f0, f1, l1, s1, l0, hlen, c1, o1.R.scal]
      exact ⟨_, _, rfl, o1.below oldb.1, old01, wf1⟩
theorem small_run {H : Heap} {z : Int} (hw : WF H) (h1 : -4000000000000000000 ≤ z) (h2 : z ≤ 4000000000000000000) (n : Nat) (hn : 2002 ≤ n) :
    OneW H (evB Tryz.prog bC n (.func (.func 58) #[] #[]) [vi z] H) z := by
  refine run_ofB (F := 2001) (Q := fun r => OneW H r z) (fun n hn => ?_) n hn
  rw [body_runS Tryz.func58 rfl (ok_fn (by rfl) Tryz.func58 rfl) (Nat.le_of_ble_eq_true rfl) (D := D0) (by kernel_rfl)]
  have oldb := Old.app H [.cells H.length true [.bool false, .slice none 0 0]]
  have wfb := hw.app (Nat.le_refl H.length) (o := true) (cs := [.bool false, .slice none 0 0])
  have bb := BxM.made (B := H.length) (H := H) (Nat.le_refl _) [.bool false, .slice none 0 0]
  have oldc := Old.app (H ++ [.cells H.length true [.bool false, .slice none 0 0]]) [.cells (H ++ [Blk.cells H.length true [.bool false, .slice none 0 0]]).length true [vi z]]
  obtain ⟨w, H2, s2, ⟨v, rfl, hv⟩, old2, wf2⟩ := read_run (wfb.app (Nat.le_refl _)) (.one (R.push (f := (H ++ [Blk.cells H.length true [.bool false, .slice none 0 0]]).length) (c := vi z)) h1 h2) n (by omega)
  have old12 := oldc.trans (old2.mono oldc.1)
  obtain ⟨H3, s3, bb3, old3, wf3, keep3⟩ := (bb.mono old12).store wf2 (vs := [.bool (decide (z < 0)), v]) rfl
  have s3 : storeN 2 (ptrA H.length 0) (.agg #[.bool (decide (z < 0)), v]) H2 = some H3 := s3
  have s4 : loadN 2 (ptrA H.length 0) H3 = some (.agg #[.bool (decide (z < 0)), v]) := bb3.loadAll
  simp (disch := omega) only [Tryz.f58, es_seq, es_region, es_ret, ops_nil, ops_cons, st_move, st_fun, sy_build1 eL oI, bindO_some, bindF_some, bindX_normal, ev_tmp, ev_func, putA, upd_at, Option.map_some, ↓reduceIte, Nat.reduceEqDiff, frOf_0, List.map_cons, List.map_nil, ↓bindO_some, ↓bindF_some, ↓bindX_normal, fin_r, res_nil, pack_1, scal_vi, sy_storeN zW, sy_alloc iW scal_agg, res_cell aW zW, s2, s3, s4]
  exact ⟨_, _, rfl, ⟨v, rfl, ((hv.below oldc.1).kept keep3).below oldb.1⟩, (oldb.trans (old12.mono oldb.1)).trans old3, wf3⟩
end Go.Proofs.YtmmgdgmjkhcfaaaGreat
namespace Go.Proofs.YtmmgdgmjkhcfaaaGreat
open Go Go.Abs Go.Num
set_option maxRecDepth 10000
attribute [local congr] bindO_congr bindF_congr bindX_congr condX_congr iteB_congr binS_congr pickS_congr eqB_congr nilS_congr clsW_congr maxS_congr minS_congr
noncomputable def ixA : Code := atC [1, 0, 1, 0, 0] ((Tryz.f42.body).getD .skip)
theorem index_run {H : Heap} {v : Value} {l : List Int} (hv : R H v (ints l)) (hl : l.length ≤ 1000) (x : Int) (n : Nat) (hn : 1010 ≤ n) : ∃ r, evB Tryz.prog bC n (.func (.func 42) #[] #[]) [v, vi x] H = some (vi r, H) ∧ (0 ≤ r ↔ x ∈ l) := by
  refine run_ofB (F := 1009) (Q := fun q => ∃ r, q = some (vi r, H) ∧ (0 ≤ r ↔ x ∈ l)) (fun n hn => ?_) n hn
  rw [body_runS Tryz.func42 rfl (ok_fn (by rfl) Tryz.func42 rfl) (Nat.le_of_ble_eq_true rfl) (D := D0) (by kernel_rfl)]
  have key : ∀ A : Fr, A 0 = v → A 1 = vi x → A 7 = vi l.length → A 8 = vi (0 : Nat) → ∃ r a' H', loopN (evS Tryz.prog (evB Tryz.prog bC n) n Tryz.f42.ntmps none ixA) n A H = some (r, a', H') ∧ H' = H ∧ ((r = .exit 0 ∧ x ∉ l) ∨ (r = .ret ∧ x ∈ l ∧ ∃ i : Nat, a' 4 = vi i)) := by
    intro A h0 h1 h7 h8
    refine loop_up l.length (fun i a H' => H' = H ∧ a 0 = v ∧ a 1 = vi x ∧ a 7 = vi l.length ∧ a 8 = vi i ∧ ∀ t, t < i → x ≠ l.getD t 0) _ ?_ ?_ (by omega) ⟨rfl, h0, h1, h7, h8, fun t ht => by omega⟩
    · intro i a H' hi ⟨hH, h0, h1, h7, h8, ht⟩
      subst hH
      rw [show ixA = atC [1, 0, 1, 0, 0] ((Tryz.f42.body).getD .skip) from rfl]
      have hlt : (i : Int) < l.length := by omega
      have e1 : IntKind.i64.wrap ((i : Int) + 1) = ((i + 1 : Nat) : Int) := by rw [wr64 (by omega) (by omega)]; omega
      by_cases hx : x = l.getD i 0
      · right
        have c1 : decide (x = l.getD i 0) = true := decide_eq_true hx
        simp (disch := omega) only [Tryz.f42, Option.getD_some, atC, es_seq, es_region, es_cond, es_block, es_skip, es_ret, ops_nil, ops_cons, st_move, st_assign, sy_addr eL, sy_load aI, sy_bin, binS_lss, binS_eql, bindO_some, bindF_some, bindX_normal, bindX_ret, blkX_ret, condX_true, ev_tmp, putA, upd_at, Option.map_some, ↓reduceIte, Nat.reduceEqDiff, Int.toNat_natCast, decide_true, ↓bindO_some, ↓bindF_some, ↓bindX_normal, ↓bindX_ret, ↓condX_true, h0, h1, h7, h8, hlt, hv.addrI, hv.loadI, c1]
        exact ⟨_, _, _, rfl, by simp, rfl, .inr ⟨rfl, by rw [hx]; exact getD_mem hi, i, rfl⟩⟩
      · left
        have c1 : decide (x = l.getD i 0) = false := decide_eq_false hx
        simp (disch := omega) only [Tryz.f42, Option.getD_some, atC, es_seq, es_region, es_cond, es_block, es_skip, ops_nil, ops_cons, st_move, st_assign, sy_addr eL, sy_load aI, sy_bin, binS_lss, binS_eql, binS_add, bindO_some, bindF_some, bindX_normal, blkX_normal, condX_true, condX_false, ev_tmp, ev_const, putA, upd_at, Option.map_some, ↓reduceIte, Nat.reduceEqDiff, Int.toNat_natCast, decide_true, ↓bindO_some, ↓bindF_some, ↓bindX_normal, ↓condX_true, ↓condX_false, h0, h1, h7, h8, hlt, hv.addrI, hv.loadI, c1, e1]
        refine ⟨_, _, rfl, rfl, h0, h1, h7, rfl, fun t h => ?_⟩
        by_cases e : t = i
        · subst e; exact hx
        · exact ht t (by omega)
    · intro a H' ⟨hH, h0, h1, h7, h8, ht⟩
      subst hH
      rw [show ixA = atC [1, 0, 1, 0, 0] ((Tryz.f42.body).getD .skip) from rfl]
      simp (disch := omega) only [Tryz.f42, Option.getD_some, atC, es_seq, es_region, es_cond, es_exit, ops_nil, ops_cons, sy_bin, binS_lss, bindO_some, bindF_some, bindX_normal, bindX_exit, condX_false, ev_tmp, putA, upd_at, ↓reduceIte, decide_false, ↓bindO_some, ↓bindF_some, ↓bindX_normal, ↓bindX_exit, ↓condX_false, h7, h8, Int.lt_irrefl]
      refine ⟨_, _, _, rfl, by simp, rfl, .inl ⟨rfl, fun hm => ?_⟩⟩
      obtain ⟨t, ht', e⟩ := List.getElem_of_mem hm
      have := ht t ht'
      rw [List.getD_eq_getElem?_getD, List.getElem?_eq_getElem ht'] at this
      exact this (by simp only [Option.getD_some]; exact e.symm)
  rw [show ixA = atC [1, 0, 1, 0, 0] ((Tryz.f42.body).getD .skip) from rfl] at key
  simp only [Tryz.f42, Option.getD_some, atC] at key
  simp (disch := omega) only [Tryz.f42, es_seq, es_region, es_block, es_loop, es_ret, ops_nil, ops_cons, st_move, st_assign, sy_len uL, bindO_some, bindF_some, bindX_normal, ev_tmp, ev_const, putA, upd_at, Option.map_some, ↓reduceIte, Nat.reduceEqDiff, frOf_0, ↓bindO_some, ↓bindF_some, ↓bindX_normal, hv.lenI]
  generalize hA : upd _ 8 _ = A
  obtain ⟨r, a', H', e, hH, h⟩ := key A (by subst hA; rfl) (by subst hA; rfl) (by subst hA; rfl) (by subst hA; rfl)
  subst hH
  rw [e]
  rcases h with ⟨rfl, hm⟩ | ⟨rfl, hm, i, h4⟩
  · simp (disch := omega) only [bindX_normal, blkX_exit, upd_at, Option.map_some, ↓reduceIte, ↓bindX_normal, fin_r, res_nil, res_tmp, pack_1, scal_vi]
    exact ⟨_, rfl, ⟨fun h => by omega, fun h => absurd h hm⟩⟩
  · simp (disch := omega) only [bindX_ret, blkX_ret, Option.map_some, ↓bindX_ret, fin_r, res_nil, res_tmp, pack_1, scal_vi, h4]
    exact ⟨_, rfl, ⟨fun _ => hm, fun _ => by omega⟩⟩
theorem contains_run {H : Heap} {v : Value} {l : List Int} (hv : R H v (ints l)) (hl : l.length ≤ 1000) (x : Int) (n : Nat) (hn : 1011 ≤ n) : evB Tryz.prog bC n (.func (.func 22) #[] #[]) [v, vi x] H = some (.bool (decide (x ∈ l)), H) := by
  refine run_ofB (F := 1010) (Q := fun q => q = some (.bool (decide (x ∈ l)), H)) (fun n hn => ?_) n hn
  rw [body_runS Tryz.func22 rfl (ok_fn (by rfl) Tryz.func22 rfl) (Nat.le_of_ble_eq_true rfl) (D := D0) (by kernel_rfl)]
  obtain ⟨r, s1, hr⟩ := index_run hv hl x n hn
  have e : decide (0 ≤ r) = decide (x ∈ l) := decide_eq_decide.2 hr
  simp (disch := omega) only [Tryz.f22, es_seq, es_region, es_ret, ops_nil, ops_cons, st_move, st_assign, st_fun, sy_bin, binS_geq, bindO_some, bindF_some, bindX_normal, ev_tmp, ev_const, ev_func, putA, upd_at, Option.map_some, ↓reduceIte, Nat.reduceEqDiff, frOf_0, frOf_1, List.map_cons, List.map_nil, ↓bindO_some, ↓bindF_some, ↓bindX_normal, fin_r, res_nil, res_tmp, pack_1, scal_bool, s1, e]
end Go.Proofs.YtmmgdgmjkhcfaaaGreat
namespace Go.Proofs.YtmmgdgmjkhcfaaaGreat
open Go Go.Abs Go.Num
set_option maxRecDepth 10000
attribute [local congr] bindO_congr bindF_congr bindX_congr condX_congr iteB_congr binS_congr pickS_congr eqB_congr nilS_congr clsW_congr maxS_congr minS_congr
def Sm (l : List Int) : Prop := l.length ≤ 1000 ∧ ∀ x ∈ l, -1000000 ≤ x ∧ x ≤ 1000000
theorem Sm.getD {l : List Int} (h : Sm l) (i : Nat) : -1000000 ≤ l.getD i 0 ∧ l.getD i 0 ≤ 1000000 := by
  by_cases hi : i < l.length
  · exact h.2 _ (getD_mem hi)
  · rw [List.getD_eq_getElem?_getD, List.getElem?_eq_none (by omega)]; simp
theorem Sm.sum {l : List Int} (h : Sm l) (i : Nat) : -1000000000 ≤ (l.take i).sum ∧ (l.take i).sum ≤ 1000000000 := by
  have := sum_bd (b := 1000000) (by omega) fun x (hx : x ∈ l.take i) => h.2 x (List.mem_of_mem_take hx)
  have h2 : (l.take i).length ≤ 1000 := Nat.le_trans (List.length_take_le' ..) h.1
  omega
noncomputable def cszA : Code := atC [1, 1, 0, 1, 0, 0] ((Tryz.f30.body).getD .skip)
theorem csize_run {H : Heap} {v : Value} {l : List Int} (hv : R H v (ints l)) (hs : Sm l) (n : Nat) (hn : 1010 ≤ n) : evB Tryz.prog bC n (.func (.func 30) #[] #[]) [v] H = some (vi l.sum, H) := by
  refine run_ofB (F := 1009) (Q := fun r => r = some (vi l.sum, H)) (fun n hn => ?_) n hn
  rw [body_runS Tryz.func30 rfl (ok_fn (by rfl) Tryz.func30 rfl) (Nat.le_of_ble_eq_true rfl) (D := D0) (by kernel_rfl)]
  have hl := hs.1
  have key : ∀ A : Fr, A 3 = vi 0 → A 6 = v → A 7 = vi l.length → A 8 = vi (0 : Nat) → ∃ r a' H', loopN (evS Tryz.prog (evB Tryz.prog bC n) n Tryz.f30.ntmps none cszA) n A H = some (r, a', H') ∧ H' = H ∧ r = .exit 0 ∧ a' 3 = vi l.sum := by
    intro A h3 h6 h7 h8
    refine loop_up l.length (fun i a H' => H' = H ∧ a 3 = vi (l.take i).sum ∧ a 6 = v ∧ a 7 = vi l.length ∧ a 8 = vi i) _ ?_ ?_ (by omega) ⟨rfl, by rw [h3]; rfl, h6, h7, h8⟩
    · intro i a H' hi ⟨hH, h3, h6, h7, h8⟩
      subst hH
      left
      rw [show cszA = atC [1, 1, 0, 1, 0, 0] ((Tryz.f30.body).getD .skip) from rfl]
      have hlt : (i : Int) < l.length := by omega
      have e1 : IntKind.i64.wrap ((i : Int) + 1) = ((i + 1 : Nat) : Int) := by rw [wr64 (by omega) (by omega)]; omega
      have b1 := hs.sum i
      have b2 := hs.getD i
      have e2 : IntKind.i64.wrap ((l.take i).sum + l.getD i 0) = (l.take (i + 1)).sum := by rw [sum_take_succ hi]; exact wr64 (by omega) (by omega)
      simp (disch := omega) only [Tryz.f30, Option.getD_some, atC, es_seq, es_region, es_cond, es_block, es_skip, ops_nil, ops_cons, st_move, st_assign, sy_addr eL, sy_load aI, sy_bin, binS_lss, binS_add, bindO_some, bindF_some, bindX_normal, blkX_normal, condX_true, ev_tmp, ev_const, putA, upd_at, Option.map_some, ↓reduceIte, Nat.reduceEqDiff, Int.toNat_natCast, decide_true, ↓bindO_some, ↓bindF_some, ↓bindX_normal, ↓condX_true, h3, h6, h7, h8, hlt, hv.addrI, hv.loadI, e1, e2]
      exact ⟨_, _, rfl, rfl, rfl, h6, h7, rfl⟩
    · intro a H' ⟨hH, h3, h6, h7, h8⟩
      subst hH
      rw [show cszA = atC [1, 1, 0, 1, 0, 0] ((Tryz.f30.body).getD .skip) from rfl]
      simp (disch := omega) only [Tryz.f30, Option.getD_some, atC, es_seq, es_region, es_cond, es_exit, ops_nil, ops_cons, sy_bin, binS_lss, bindO_some, bindF_some, bindX_normal, bindX_exit, condX_false, ev_tmp, putA, upd_at, ↓reduceIte, decide_false, ↓bindO_some, ↓bindF_some, ↓bindX_normal, ↓bindX_exit, ↓condX_false, h7, h8, Int.lt_irrefl]
      rw [List.take_length] at h3
      exact ⟨_, _, _, rfl, by simp, rfl, rfl, h3⟩
  rw [show cszA = atC [1, 1, 0, 1, 0, 0] ((Tryz.f30.body).getD .skip) from rfl] at key
  simp only [Tryz.f30, Option.getD_some, atC] at key
  simp (disch := omega) only [Tryz.f30, es_seq, es_region, es_block, es_loop, es_ret, ops_nil, ops_cons, st_move, st_assign, sy_len uL, bindO_some, bindF_some, bindX_normal, ev_tmp, ev_const, putA, upd_at, Option.map_some, ↓reduceIte, Nat.reduceEqDiff, frOf_0, ↓bindO_some, ↓bindF_some, ↓bindX_normal, hv.lenI]
  generalize hA : upd _ 8 _ = A
  obtain ⟨r, a', H', e, hH, hr, h3⟩ := key A (by subst hA; rfl) (by subst hA; rfl) (by subst hA; rfl) (by subst hA; rfl)
  subst hr
  rw [e]
  subst hH
  simp (disch := omega) only [bindX_normal, blkX_exit, upd_at, Option.map_some, ↓reduceIte, ↓bindX_normal, fin_r, res_nil, res_tmp, pack_1, scal_vi, h3]
noncomputable def rszA : Code := atC [1, 1, 0, 1, 0, 0] ((Tryz.f25.body).getD .skip)
theorem rsize_run {H : Heap} {v : Value} {l : List Int} (hv : R H v (ints l)) (hs : Sm l) (n : Nat) (hn : 1010 ≤ n) : evB Tryz.prog bC n (.func (.func 25) #[] #[]) [v] H = some (vi l.sum, H) := by
  refine run_ofB (F := 1009) (Q := fun r => r = some (vi l.sum, H)) (fun n hn => ?_) n hn
  rw [body_runS Tryz.func25 rfl (ok_fn (by rfl) Tryz.func25 rfl) (Nat.le_of_ble_eq_true rfl) (D := D0) (by kernel_rfl)]
  have hl := hs.1
  have key : ∀ A : Fr, A 0 = v → A 3 = vi 0 → A 4 = vi (0 : Nat) → ∃ r a' H', loopN (evS Tryz.prog (evB Tryz.prog bC n) n Tryz.f25.ntmps none rszA) n A H = some (r, a', H') ∧ H' = H ∧ r = .exit 0 ∧ a' 3 = vi l.sum := by
    intro A h0 h3 h4
    refine loop_up l.length (fun i a H' => H' = H ∧ a 0 = v ∧ a 3 = vi (l.take i).sum ∧ a 4 = vi i) _ ?_ ?_ (by omega) ⟨rfl, h0, by rw [h3]; rfl, h4⟩
    · intro i a H' hi ⟨hH, h0, h3, h4⟩
      subst hH
      left
      rw [show rszA = atC [1, 1, 0, 1, 0, 0] ((Tryz.f25.body).getD .skip) from rfl]
      have hlt : (i : Int) < l.length := by omega
      have e1 : IntKind.i64.wrap ((i : Int) + 1) = ((i + 1 : Nat) : Int) := by rw [wr64 (by omega) (by omega)]; omega
      have b1 := hs.sum i
      have b2 := hs.getD i
      have e2 : IntKind.i64.wrap ((l.take i).sum + l.getD i 0) = (l.take (i + 1)).sum := by rw [sum_take_succ hi]; exact wr64 (by omega) (by omega)
      simp (disch := omega) only [Tryz.f25, Option.getD_some, atC, es_seq, es_region, es_cond, es_block, es_skip, ops_nil, ops_cons, st_move, st_assign, sy_len uL, sy_addr eL, sy_load aI, sy_bin, binS_lss, binS_add, bindO_some, bindF_some, bindX_normal, blkX_normal, condX_true, ev_tmp, ev_const, putA, upd_at, Option.map_some, ↓reduceIte, Nat.reduceEqDiff, Int.toNat_natCast, decide_true, ↓bindO_some, ↓bindF_some, ↓bindX_normal, ↓condX_true, h0, h3, h4, hlt, hv.lenI, hv.addrI, hv.loadI, e1, e2]
      exact ⟨_, _, rfl, rfl, h0, rfl, rfl⟩
    · intro a H' ⟨hH, h0, h3, h4⟩
      subst hH
      rw [show rszA = atC [1, 1, 0, 1, 0, 0] ((Tryz.f25.body).getD .skip) from rfl]
      simp (disch := omega) only [Tryz.f25, Option.getD_some, atC, es_seq, es_region, es_cond, es_exit, ops_nil, ops_cons, st_move, sy_len uL, sy_bin, binS_lss, bindO_some, bindF_some, bindX_normal, bindX_exit, condX_false, ev_tmp, putA, upd_at, Option.map_some, ↓reduceIte, Nat.reduceEqDiff, decide_false, ↓bindO_some, ↓bindF_some, ↓bindX_normal, ↓bindX_exit, ↓condX_false, h0, h4, hv.lenI, Int.lt_irrefl]
      rw [List.take_length] at h3
      exact ⟨_, _, _, rfl, by simp, rfl, rfl, h3⟩
  rw [show rszA = atC [1, 1, 0, 1, 0, 0] ((Tryz.f25.body).getD .skip) from rfl] at key
  simp only [Tryz.f25, Option.getD_some, atC] at key
  simp (disch := omega) only [Tryz.f25, es_seq, es_region, es_block, es_loop, es_ret, ops_nil, ops_cons, st_move, st_assign, bindO_some, bindF_some, bindX_normal, ev_tmp, ev_const, putA, upd_at, ↓reduceIte, ↓bindO_some, ↓bindF_some, ↓bindX_normal]
  generalize hA : upd _ 4 _ = A
  obtain ⟨r, a', H', e, hH, hr, h3⟩ := key A (by subst hA; rfl) (by subst hA; rfl) (by subst hA; rfl)
  subst hr
  rw [e]
  subst hH
  simp (disch := omega) only [bindX_normal, blkX_exit, upd_at, Option.map_some, ↓reduceIte, ↓bindX_normal, fin_r, res_nil, res_tmp, pack_1, scal_vi, h3]
theorem part_sm {l : List Int} (h1 : l.length ≤ 1000) (h : chkGo none l = none) : Sm l := ⟨h1, fun x hx => by have := chkGo_none h x hx; omega⟩
noncomputable def cckA : Code := atC [1, 1, 0, 1, 0, 0] ((Tryz.f19.body).getD .skip)
theorem ccheck_run {H : Heap} {v : Value} {l : List Int} (hv : R H v (ints l)) (hl : l.length ≤ 1000) (n : Nat) (hn : 1011 ≤ n) : evB Tryz.prog bC n (.func (.func 19) #[] #[]) [v] H = some (vi (chk l), H) := by
  refine run_ofB (F := 1010) (Q := fun r => r = some (vi (chk l), H)) (fun n hn => ?_) n hn
  rw [body_runS Tryz.func19 rfl (ok_fn (by rfl) Tryz.func19 rfl) (Nat.le_of_ble_eq_true rfl) (D := D0) (by kernel_rfl)]
  by_cases hbig : 20 < l.length
  · have c1 : (20 : Int) < (l.length : Int) := by omega
    rw [show chk l = 8 from if_pos hbig]
    simp (disch := omega) only [Tryz.f19, es_seq, es_region, es_cond, es_ret, ops_nil, ops_cons, st_move, st_assign, sy_len uL, sy_bin, binS_gtr, bindO_some, bindF_some, bindX_normal, bindX_ret, condX_true, ev_tmp, ev_const, putA, upd_at, Option.map_some, ↓reduceIte, Nat.reduceEqDiff, frOf_0, decide_true, ↓bindO_some, ↓bindF_some, ↓bindX_normal, ↓bindX_ret, ↓condX_true, fin_r, res_nil, res_tmp, pack_1, scal_vi, hv.lenI, c1]
  · have c1 : ¬ (20 : Int) < (l.length : Int) := by omega
    rw [show chk l = _ from if_neg hbig]
    have key : ∀ A : Fr, A 0 = v → A 8 = v → A 9 = vi l.length → A 10 = vi (0 : Nat) → ∃ r a' H', loopN (evS Tryz.prog (evB Tryz.prog bC n) n Tryz.f19.ntmps none cckA) n A H = some (r, a', H') ∧ H' = H ∧ ((r = .exit 0 ∧ a' 0 = v ∧ chkGo none l = none) ∨ ∃ e, r = .ret ∧ a' 2 = vi e ∧ chkGo none l = some e) := by
      intro A h0 h8 h9 h10
      refine loop_up l.length (fun i a H' => H' = H ∧ a 0 = v ∧ a 8 = v ∧ a 9 = vi l.length ∧ a 10 = vi i ∧ chkGo none l = chkGo (prv l i) (l.drop i)) _ ?_ ?_ (by omega) ⟨rfl, h0, h8, h9, h10, rfl⟩
      · intro i a H' hi ⟨hH, h0, h8, h9, h10, hg⟩
        subst hH
        rw [show cckA = atC [1, 1, 0, 1, 0, 0] ((Tryz.f19.body).getD .skip) from rfl]
        have hlt : (i : Int) < l.length := by omega
        have e1 : IntKind.i64.wrap ((i : Int) + 1) = ((i + 1 : Nat) : Int) := by rw [wr64 (by omega) (by omega)]; omega
        rw [chkGo_at hi] at hg
        by_cases hx1 : l.getD i 0 < 1
        · right
          rw [show bad (prv l i) (l.getD i 0) = some 2 from if_pos hx1] at hg
          simp (disch := omega) only [Tryz.f19, Option.getD_some, atC, es_seq, es_region, es_cond, es_block, es_skip, es_ret, ops_nil, ops_cons, ops_consG, st_move, st_assign, sy_pick, pickS_true, sy_addr eL, sy_load aI, sy_bin, binS_lss, bindO_some, bindF_some, bindX_normal, bindX_ret, blkX_ret, condX_true, iteB_false, ev_tmp, ev_const, putA, upd_at, Option.map_some, ↓reduceIte, Nat.reduceEqDiff, Int.toNat_natCast, decide_true, Bool.not_true, yieldO_eq, yO, yV_bool, some_false, List.getElem?_cons_zero, List.getElem?_cons_succ, ↓bindO_some, ↓bindF_some, ↓bindX_normal, ↓bindX_ret, ↓condX_true, ↓iteB_false, h8, h9, h10, hlt, hv.addrI, hv.loadI, hx1]
          exact ⟨_, _, _, rfl, by simp, rfl, .inr ⟨2, rfl, rfl, hg⟩⟩
        · by_cases hx2 : 20 < l.getD i 0
          · right
            rw [show bad (prv l i) (l.getD i 0) = some 2 from by unfold bad; rw [if_neg hx1, if_pos hx2]] at hg
            simp (disch := omega) only [Tryz.f19, Option.getD_some, atC, es_seq, es_region, es_cond, es_block, es_skip, es_ret, ops_nil, ops_cons, ops_consG, st_move, st_assign, sy_pick, pickS_false, sy_addr eL, sy_load aI, sy_bin, binS_lss, binS_gtr, bindO_some, bindF_some, bindX_normal, bindX_ret, blkX_ret, condX_true, iteB_true, ev_tmp, ev_const, putA, upd_at, Option.map_some, ↓reduceIte, Nat.reduceEqDiff, Int.toNat_natCast, decide_true, decide_false, yieldO_eq, yO, yV_bool, List.getElem?_cons_zero, List.getElem?_cons_succ, beq_self_eq_true, ↓bindO_some, ↓bindF_some, ↓bindX_normal, ↓bindX_ret, ↓condX_true, ↓iteB_true, h8, h9, h10, hlt, hv.addrI, hv.loadI, hx1, hx2]
            exact ⟨_, _, _, rfl, by simp, rfl, .inr ⟨2, rfl, rfl, hg⟩⟩
          · cases i with
            | zero =>
              left
              rw [show bad (prv l 0) (l.getD 0 0) = none from by unfold bad; rw [if_neg hx1, if_neg hx2]; rfl] at hg
              have c0 : decide ((0 : Int) < ((0 : Nat) : Int)) = false := rfl
              simp (disch := omega) only [Tryz.f19, Option.getD_some, atC, es_seq, es_region, es_cond, es_block, es_skip, ops_nil, ops_cons, ops_consG, st_move, st_assign, sy_pick, pickS_false, sy_addr eL, sy_load aI, sy_bin, binS_lss, binS_gtr, binS_add, bindO_some, bindF_some, bindX_normal, blkX_normal, condX_true, condX_false, iteB_true, iteB_false, ev_tmp, ev_const, putA, upd_at, Option.map_some, ↓reduceIte, Nat.reduceEqDiff, Nat.zero_add, Int.toNat_natCast, decide_true, decide_false, yieldO_eq, yO, yV_bool, some_true, List.getElem?_cons_zero, List.getElem?_cons_succ, beq_self_eq_true, ↓bindO_some, ↓bindF_some, ↓bindX_normal, ↓condX_true, ↓condX_false, ↓iteB_true, ↓iteB_false, h8, h9, h10, hlt, hv.addrI, hv.loadI, hx1, hx2, c0, e1]
              exact ⟨_, _, rfl, rfl, h0, h8, h9, rfl, hg⟩
            | succ j =>
              have c0 : (0 : Int) < ((j + 1 : Nat) : Int) := by omega
              have e2 : IntKind.i64.wrap (((j + 1 : Nat) : Int) - 1) = (j : Int) := by rw [wr64 (by omega) (by omega)]; omega
              by_cases hq : l.getD j 0 < l.getD (j + 1) 0
              · right
                rw [show bad (prv l (j + 1)) (l.getD (j + 1) 0) = some 9 from by unfold bad; rw [if_neg hx1, if_neg hx2]; exact if_pos hq] at hg
                simp (disch := omega) only [Tryz.f19, Option.getD_some, atC, es_seq, es_region, es_cond, es_block, es_skip, es_ret, ops_nil, ops_cons, ops_consG, st_move, st_assign, sy_pick, pickS_true, pickS_false, sy_addr eL, sy_load aI, sy_bin, binS_lss, binS_gtr, binS_sub, bindO_some, bindF_some, bindX_normal, bindX_ret, blkX_ret, condX_true, condX_false, iteB_true, ev_tmp, ev_const, putA, upd_at, Option.map_some, ↓reduceIte, Nat.reduceEqDiff, Int.toNat_natCast, decide_true, decide_false, yieldO_eq, yO, yV_bool, List.getElem?_cons_zero, List.getElem?_cons_succ, beq_self_eq_true, ↓bindO_some, ↓bindF_some, ↓bindX_normal, ↓bindX_ret, ↓condX_true, ↓condX_false, ↓iteB_true, h0, h8, h9, h10, hlt, hv.addrI, hv.loadI, hx1, hx2, c0, e2, hq]
                exact ⟨_, _, _, rfl, by simp, rfl, .inr ⟨9, rfl, rfl, hg⟩⟩
              · left
                rw [show bad (prv l (j + 1)) (l.getD (j + 1) 0) = none from by unfold bad; rw [if_neg hx1, if_neg hx2]; exact if_neg hq] at hg
                simp (disch := omega) only [Tryz.f19, Option.getD_some, atC, es_seq, es_region, es_cond, es_block, es_skip, ops_nil, ops_cons, ops_consG, st_move, st_assign, sy_pick, pickS_true, pickS_false, sy_addr eL, sy_load aI, sy_bin, binS_lss, binS_gtr, binS_add, binS_sub, bindO_some, bindF_some, bindX_normal, blkX_normal, condX_true, condX_false, iteB_true, ev_tmp, ev_const, putA, upd_at, Option.map_some, ↓reduceIte, Nat.reduceEqDiff, Int.toNat_natCast, decide_true, decide_false, yieldO_eq, yO, yV_bool, List.getElem?_cons_zero, List.getElem?_cons_succ, beq_self_eq_true, ↓bindO_some, ↓bindF_some, ↓bindX_normal, ↓condX_true, ↓condX_false, ↓iteB_true, h0, h8, h9, h10, hlt, hv.addrI, hv.loadI, hx1, hx2, c0, e2, hq, e1]
                exact ⟨_, _, rfl, rfl, h0, h8, h9, rfl, hg⟩
      · intro a H' ⟨hH, h0, h8, h9, h10, hg⟩
        subst hH
        rw [show cckA = atC [1, 1, 0, 1, 0, 0] ((Tryz.f19.body).getD .skip) from rfl]
        simp (disch := omega) only [Tryz.f19, Option.getD_some, atC, es_seq, es_region, es_cond, es_exit, ops_nil, ops_cons, sy_bin, binS_lss, bindO_some, bindF_some, bindX_normal, bindX_exit, condX_false, ev_tmp, putA, upd_at, ↓reduceIte, decide_false, ↓bindO_some, ↓bindF_some, ↓bindX_normal, ↓bindX_exit, ↓condX_false, h9, h10, Int.lt_irrefl]
        rw [List.drop_length] at hg
        exact ⟨_, _, _, rfl, by simp, rfl, .inl ⟨rfl, h0, hg⟩⟩
    rw [show cckA = atC [1, 1, 0, 1, 0, 0] ((Tryz.f19.body).getD .skip) from rfl] at key
    simp only [Tryz.f19, Option.getD_some, atC] at key
    simp (disch := omega) only [Tryz.f19, es_seq, es_region, es_cond, es_block, es_loop, es_skip, es_ret, ops_nil, ops_cons, st_move, st_assign, st_fun, sy_len uL, sy_bin, binS_gtr, bindO_some, bindF_some, bindX_normal, condX_false, ev_tmp, ev_const, ev_func, putA, upd_at, Option.map_some, ↓reduceIte, Nat.reduceEqDiff, frOf_0, List.map_cons, List.map_nil, decide_false, ↓bindO_some, ↓bindF_some, ↓bindX_normal, ↓condX_false, hv.lenI, c1]
    generalize hA : upd _ 10 _ = A
    obtain ⟨r, a', H', e, hH, h⟩ := key A (by subst hA; rfl) (by subst hA; rfl) (by subst hA; rfl) (by subst hA; rfl)
    rw [e]
    subst hH
    rcases h with ⟨rfl, h0, hg⟩ | ⟨e2, rfl, h2, hg⟩
    · rw [hg]
      have s1 := csize_run hv (part_sm hl hg) n (by omega)
      by_cases hb : 20 < l.sum
      · simp (disch := omega) only [binS_gtr, bindO_some, bindF_some, bindX_normal, bindX_ret, blkX_exit, condX_true, upd_at, Option.map_some, ↓reduceIte, decide_true, ↓bindO_some, ↓bindF_some, ↓bindX_normal, ↓bindX_ret, ↓condX_true, fin_r, res_nil, res_tmp, pack_1, scal_vi, h0, s1, hb]
      · simp (disch := omega) only [binS_gtr, bindO_some, bindF_some, bindX_normal, blkX_exit, condX_false, upd_at, Option.map_some, ↓reduceIte, decide_false, ↓bindO_some, ↓bindF_some, ↓bindX_normal, ↓condX_false, fin_r, res_nil, res_tmp, pack_1, scal_vi, h0, s1, hb]
    · rw [hg]
      simp (disch := omega) only [bindX_ret, blkX_ret, Option.map_some, ↓bindX_ret, fin_r, res_nil, res_tmp, pack_1, scal_vi, h2]
noncomputable def rckA : Code := atC [1, 1, 0, 1, 0, 0] ((Tryz.f9.body).getD .skip)
theorem rcheck_run {H : Heap} {v : Value} {l : List Int} (hv : R H v (ints l)) (hl : l.length ≤ 1000) (n : Nat) (hn : 1011 ≤ n) : evB Tryz.prog bC n (.func (.func 9) #[] #[]) [v] H = some (vi (chk l), H) := by
  refine run_ofB (F := 1010) (Q := fun r => r = some (vi (chk l), H)) (fun n hn => ?_) n hn
  rw [body_runS Tryz.func9 rfl (ok_fn (by rfl) Tryz.func9 rfl) (Nat.le_of_ble_eq_true rfl) (D := D0) (by kernel_rfl)]
  by_cases hbig : 20 < l.length
  · have c1 : (20 : Int) < (l.length : Int) := by omega
    rw [show chk l = 8 from if_pos hbig]
    simp (disch := omega) only [Tryz.f9, es_seq, es_region, es_cond, es_ret, ops_nil, ops_cons, st_move, st_assign, sy_len uL, sy_bin, binS_gtr, bindO_some, bindF_some, bindX_normal, bindX_ret, condX_true, ev_tmp, ev_const, putA, upd_at, Option.map_some, ↓reduceIte, Nat.reduceEqDiff, frOf_0, decide_true, ↓bindO_some, ↓bindF_some, ↓bindX_normal, ↓bindX_ret, ↓condX_true, fin_r, res_nil, res_tmp, pack_1, scal_vi, hv.lenI, c1]
  · have c1 : ¬ (20 : Int) < (l.length : Int) := by omega
    rw [show chk l = _ from if_neg hbig]
    have key : ∀ A : Fr, A 0 = v → A 3 = vi (0 : Nat) → ∃ r a' H', loopN (evS Tryz.prog (evB Tryz.prog bC n) n Tryz.f9.ntmps none rckA) n A H = some (r, a', H') ∧ H' = H ∧ ((r = .exit 0 ∧ a' 0 = v ∧ chkGo none l = none) ∨ ∃ e, r = .ret ∧ a' 2 = vi e ∧ chkGo none l = some e) := by
      intro A h0 h3
      refine loop_up l.length (fun i a H' => H' = H ∧ a 0 = v ∧ a 3 = vi i ∧ chkGo none l = chkGo (prv l i) (l.drop i)) _ ?_ ?_ (by omega) ⟨rfl, h0, h3, rfl⟩
      · intro i a H' hi ⟨hH, h0, h3, hg⟩
        subst hH
        rw [show rckA = atC [1, 1, 0, 1, 0, 0] ((Tryz.f9.body).getD .skip) from rfl]
        have hlt : (i : Int) < l.length := by omega
        have e1 : IntKind.i64.wrap ((i : Int) + 1) = ((i + 1 : Nat) : Int) := by rw [wr64 (by omega) (by omega)]; omega
        rw [chkGo_at hi] at hg
        have s0 := within_runS (l.getD i 0) 1 20 H' n (by omega)
        by_cases hx : l.getD i 0 < 1 ∨ 20 < l.getD i 0
        · right
          rw [show bad (prv l i) (l.getD i 0) = some 2 from by unfold bad; split; · rfl
                                                               · rw [if_pos (by omega)]] at hg
          rw [show (decide (1 ≤ l.getD i 0) && decide (l.getD i 0 ≤ 20)) = false from by rw [Bool.and_eq_false_iff]; exact hx.imp (fun h => decide_eq_false (by omega)) (fun h => decide_eq_false (by omega))] at s0
          simp (disch := omega) only [Tryz.f9, Option.getD_some, atC, es_seq, es_region, es_cond, es_block, es_skip, es_ret, ops_nil, ops_cons, st_move, st_assign, st_fun, sy_len uL, sy_addr eL, sy_load aI, sy_bin, st_not, binS_lss, bindO_some, bindF_some, bindX_normal, bindX_ret, blkX_ret, condX_true, ev_tmp, ev_const, ev_func, putA, upd_at, Option.map_some, ↓reduceIte, Nat.reduceEqDiff, Int.toNat_natCast, List.map_cons, List.map_nil, decide_true, Bool.not_false, ↓bindO_some, ↓bindF_some, ↓bindX_normal, ↓bindX_ret, ↓condX_true, h0, h3, hv.lenI, hlt, hv.addrI, hv.loadI, s0]
          exact ⟨_, _, _, rfl, by simp, rfl, .inr ⟨2, rfl, rfl, hg⟩⟩
        · have hx1 : ¬ l.getD i 0 < 1 := fun h => hx (.inl h)
          have hx2 : ¬ 20 < l.getD i 0 := fun h => hx (.inr h)
          rw [show (decide (1 ≤ l.getD i 0) && decide (l.getD i 0 ≤ 20)) = true from by rw [Bool.and_eq_true, decide_eq_true_eq, decide_eq_true_eq]; omega] at s0
          cases i with
          | zero =>
            left
            rw [show bad (prv l 0) (l.getD 0 0) = none from by unfold bad; rw [if_neg hx1, if_neg hx2]; rfl] at hg
            have c0 : decide ((0 : Int) < ((0 : Nat) : Int)) = false := rfl
            simp (disch := omega) only [Tryz.f9, Option.getD_some, atC, es_seq, es_region, es_draw, d0, es_cond, es_block, es_skip, ops_nil, ops_cons, opsV_nil, opsV_cons, opsV_consG, st_move, st_assign, sy_pick, pickS_false, st_fun, sy_len uL, sy_addr eL, sy_load aI, sy_bin, st_not, binS_lss, binS_gtr, binS_add, bindO_some, bindF_some, bindX_normal, blkX_normal, condX_true, condX_false, iteB_true, iteB_false, ev_tmp, ev_const, ev_func, putA, upd_at, Option.map_some, ↓reduceIte, Nat.reduceEqDiff, Nat.zero_add, Int.toNat_natCast, List.map_cons, List.map_nil, decide_true, Bool.not_true, yieldO_eq, yO, yV_bool, some_true, List.getElem?_cons_zero, List.getElem?_cons_succ, ↓bindO_some, ↓bindF_some, ↓bindX_normal, ↓condX_true, ↓condX_false, ↓iteB_true, ↓iteB_false, reflV_move, reflV_pick, reflV_bin, h0, h3, hv.lenI, hlt, hv.addrI, hv.loadI, s0, c0, e1]
            exact ⟨_, _, rfl, rfl, h0, rfl, hg⟩
          | succ j =>
            have c0 : (0 : Int) < ((j + 1 : Nat) : Int) := by omega
            have e2 : IntKind.i64.wrap (((j + 1 : Nat) : Int) - 1) = (j : Int) := by rw [wr64 (by omega) (by omega)]; omega
            by_cases hq : l.getD j 0 < l.getD (j + 1) 0
            · right
              rw [show bad (prv l (j + 1)) (l.getD (j + 1) 0) = some 9 from by unfold bad; rw [if_neg hx1, if_neg hx2]; exact if_pos hq] at hg
              simp (disch := omega) only [Tryz.f9, Option.getD_some, atC, es_seq, es_region, es_draw, d0, es_cond, es_block, es_skip, es_ret, ops_nil, ops_cons, opsV_nil, opsV_cons, opsV_consG, st_move, st_assign, sy_pick, pickS_true, st_fun, sy_len uL, sy_addr eL, sy_load aI, sy_bin, st_not, binS_lss, binS_gtr, binS_sub, bindO_some, bindF_some, bindX_normal, bindX_ret, blkX_ret, condX_true, condX_false, iteB_true, iteB_false, ev_tmp, ev_const, ev_func, putA, upd_at, Option.map_some, ↓reduceIte, Nat.reduceEqDiff, Int.toNat_natCast, List.map_cons, List.map_nil, decide_true, Bool.not_true, yieldO_eq, yO, yV_bool, List.getElem?_cons_zero, List.getElem?_cons_succ, beq_self_eq_true, ↓bindO_some, ↓bindF_some, ↓bindX_normal, ↓bindX_ret, ↓condX_true, ↓condX_false, ↓iteB_true, ↓iteB_false, reflV_load, reflV_move, reflV_pick, reflV_bin, reflV_addr, vEq_vi, h0, h3, hv.lenI, hlt, hv.addrI, hv.loadI, s0, c0, e2, hq]
              exact ⟨_, _, _, rfl, by simp, rfl, .inr ⟨9, rfl, rfl, hg⟩⟩
            · left
              rw [show bad (prv l (j + 1)) (l.getD (j + 1) 0) = none from by unfold bad; rw [if_neg hx1, if_neg hx2]; exact if_neg hq] at hg
              simp (disch := omega) only [Tryz.f9, Option.getD_some, atC, es_seq, es_region, es_draw, d0, es_cond, es_block, es_skip, ops_nil, ops_cons, opsV_nil, opsV_cons, opsV_consG, st_move, st_assign, sy_pick, pickS_true, st_fun, sy_len uL, sy_addr eL, sy_load aI, sy_bin, st_not, binS_lss, binS_gtr, binS_add, binS_sub, bindO_some, bindF_some, bindX_normal, blkX_normal, condX_true, condX_false, iteB_true, iteB_false, ev_tmp, ev_const, ev_func, putA, upd_at, Option.map_some, ↓reduceIte, Nat.reduceEqDiff, Int.toNat_natCast, List.map_cons, List.map_nil, decide_true, decide_false, Bool.not_true, yieldO_eq, yO, yV_bool, List.getElem?_cons_zero, List.getElem?_cons_succ, beq_self_eq_true, ↓bindO_some, ↓bindF_some, ↓bindX_normal, ↓condX_true, ↓condX_false, ↓iteB_true, ↓iteB_false, reflV_load, reflV_move, reflV_pick, reflV_bin, reflV_addr, vEq_vi, h0, h3, hv.lenI, hlt, hv.addrI, hv.loadI, s0, c0, e2, hq, e1]
              exact ⟨_, _, rfl, rfl, h0, rfl, hg⟩
      · intro a H' ⟨hH, h0, h3, hg⟩
        subst hH
        rw [show rckA = atC [1, 1, 0, 1, 0, 0] ((Tryz.f9.body).getD .skip) from rfl]
        simp (disch := omega) only [Tryz.f9, Option.getD_some, atC, es_seq, es_region, es_cond, es_exit, ops_nil, ops_cons, st_move, sy_len uL, sy_bin, binS_lss, bindO_some, bindF_some, bindX_normal, bindX_exit, condX_false, ev_tmp, putA, upd_at, Option.map_some, ↓reduceIte, Nat.reduceEqDiff, decide_false, ↓bindO_some, ↓bindF_some, ↓bindX_normal, ↓bindX_exit, ↓condX_false, h0, h3, hv.lenI, Int.lt_irrefl]
        rw [List.drop_length] at hg
        exact ⟨_, _, _, rfl, by simp, rfl, .inl ⟨rfl, h0, hg⟩⟩
    rw [show rckA = atC [1, 1, 0, 1, 0, 0] ((Tryz.f9.body).getD .skip) from rfl] at key
    simp only [Tryz.f9, Option.getD_some, atC] at key
    simp (disch := omega) only [Tryz.f9, es_seq, es_region, es_cond, es_block, es_loop, es_skip, es_ret, ops_nil, ops_cons, st_move, st_assign, st_fun, sy_len uL, sy_bin, binS_gtr, bindO_some, bindF_some, bindX_normal, condX_false, ev_tmp, ev_const, ev_func, putA, upd_at, Option.map_some, ↓reduceIte, Nat.reduceEqDiff, frOf_0, List.map_cons, List.map_nil, decide_false, ↓bindO_some, ↓bindF_some, ↓bindX_normal, ↓condX_false, hv.lenI, c1]
    generalize hA : upd _ 3 _ = A
    obtain ⟨r, a', H', e, hH, h⟩ := key A (by subst hA; rfl) (by subst hA; rfl)
    rw [e]
    subst hH
    rcases h with ⟨rfl, h0, hg⟩ | ⟨e2, rfl, h2, hg⟩
    · rw [hg]
      have s1 := rsize_run hv (part_sm hl hg) n (by omega)
      by_cases hb : 20 < l.sum
      · simp (disch := omega) only [binS_gtr, bindO_some, bindF_some, bindX_normal, bindX_ret, blkX_exit, condX_true, upd_at, Option.map_some, ↓reduceIte, decide_true, ↓bindO_some, ↓bindF_some, ↓bindX_normal, ↓bindX_ret, ↓condX_true, fin_r, res_nil, res_tmp, pack_1, scal_vi, h0, s1, hb]
      · simp (disch := omega) only [binS_gtr, bindO_some, bindF_some, bindX_normal, blkX_exit, condX_false, upd_at, Option.map_some, ↓reduceIte, decide_false, ↓bindO_some, ↓bindF_some, ↓bindX_normal, ↓condX_false, fin_r, res_nil, res_tmp, pack_1, scal_vi, h0, s1, hb]
    · rw [hg]
      simp (disch := omega) only [bindX_ret, blkX_ret, Option.map_some, ↓bindX_ret, fin_r, res_nil, res_tmp, pack_1, scal_vi, h2]
theorem long_run {H : Heap} {v : Value} {l : List Int} (hv : R H v (ints l)) (n : Nat) (hn : 1 ≤ n) : evB Tryz.prog bC n (.func (.func 4) #[] #[]) [v] H = some (.bool (decide (40 < (l.length : Int))), H) := by
  refine run_ofB (F := 0) (Q := fun r => r = some (.bool (decide (40 < (l.length : Int))), H)) (fun n hn => ?_) n hn
  rw [body_runS Tryz.func4 rfl (ok_fn (by rfl) Tryz.func4 rfl) (Nat.le_of_ble_eq_true rfl) (D := D0) (by kernel_rfl)]
  simp (disch := omega) only [Tryz.f4, es_seq, es_region, es_ret, ops_nil, ops_cons, st_move, st_assign, sy_len uL, sy_bin, binS_gtr, bindO_some, bindF_some, bindX_normal, ev_tmp, ev_const, putA, upd_at, Option.map_some, ↓reduceIte, Nat.reduceEqDiff, frOf_0, ↓bindO_some, ↓bindF_some, ↓bindX_normal, fin_r, res_nil, res_tmp, pack_1, scal_bool, hv.lenI]
end Go.Proofs.YtmmgdgmjkhcfaaaGreat
namespace Go.Proofs.YtmmgdgmjkhcfaaaGreat
open Go Go.Abs Go.Num
set_option maxRecDepth 10000
attribute [local congr] bindO_congr bindF_congr bindX_congr condX_congr iteB_congr binS_congr pickS_congr eqB_congr nilS_congr
theorem isnan_run (x : Int) (H : Heap) (n : Nat) (hn : 1 ≤ n) : evB Tryz.prog bC n (.func (.func 63) #[] #[]) [vi x] H = some (.bool false, H) := by
  refine run_ofB (F := 0) (Q := fun r => r = some (.bool false, H)) (fun n hn => ?_) n hn
  rw [body_runS Tryz.func63 rfl (ok_fn (by rfl) Tryz.func63 rfl) (Nat.le_of_ble_eq_true rfl) (D := D0) (by kernel_rfl)]
  have e : decide (x = x) = true := by simp
  simp only [Tryz.f63, es_seq, es_region, es_ret, ops_nil, ops_cons, st_move, st_assign, sy_bin, binS_neq, bindO_some, bindF_some, bindX_normal, ev_tmp, ev_const, putA, upd_at, Option.map_some, ↓reduceIte, Nat.reduceEqDiff, frOf_0, decide_true, Bool.not_true, ↓bindO_some, ↓bindF_some, ↓bindX_normal, fin_r, res_nil, res_tmp, pack_1, scal_bool]
theorem compare_run (x y : Int) (H : Heap) (n : Nat) (hn : 2 ≤ n) : evB Tryz.prog bC n (.func (.func 45) #[] #[]) [vi x, vi y] H = some (vi (cmpZ x y), H) := by
  refine run_ofB (F := 1) (Q := fun r => r = some (vi (cmpZ x y), H)) (fun n hn => ?_) n hn
  rw [body_runS Tryz.func45 rfl (ok_fn (by rfl) Tryz.func45 rfl) (Nat.le_of_ble_eq_true rfl) (D := D0) (by kernel_rfl)]
  have s1 := isnan_run x H n hn
  have s2 := isnan_run y H n hn
  unfold cmpZ
  by_cases h1 : x < y
  · simp only [Tryz.f45, es_seq, es_region, es_cond, es_skip, es_ret, ops_nil, ops_cons, st_move, st_assign, st_fun, sy_bin, binS_lss, bindO_some, bindF_some, bindX_normal, bindX_ret, condX_true, condX_false, ev_tmp, ev_const, ev_func, putA, upd_at, Option.map_some, ↓reduceIte, Nat.reduceEqDiff, frOf_0, frOf_1, List.map_cons, List.map_nil, decide_true, ↓bindO_some, ↓bindF_some, ↓bindX_normal, ↓bindX_ret, ↓condX_true, ↓condX_false, fin_r, res_nil, res_tmp, pack_1, scal_vi, s1, s2, h1]
  · by_cases h2 : y < x
    · simp only [Tryz.f45, es_seq, es_region, es_cond, es_skip, es_ret, ops_nil, ops_cons, st_move, st_assign, st_fun, sy_bin, binS_lss, binS_gtr, bindO_some, bindF_some, bindX_normal, bindX_ret, condX_true, condX_false, ev_tmp, ev_const, ev_func, putA, upd_at, Option.map_some, ↓reduceIte, Nat.reduceEqDiff, frOf_0, frOf_1, List.map_cons, List.map_nil, decide_true, decide_false, ↓bindO_some, ↓bindF_some, ↓bindX_normal, ↓bindX_ret, ↓condX_true, ↓condX_false, fin_r, res_nil, res_tmp, pack_1, scal_vi, s1, s2, h1, h2]
    · simp only [Tryz.f45, es_seq, es_region, es_cond, es_skip, es_ret, ops_nil, ops_cons, st_move, st_assign, st_fun, sy_bin, binS_lss, binS_gtr, bindO_some, bindF_some, bindX_normal, condX_false, ev_tmp, ev_const, ev_func, putA, upd_at, Option.map_some, ↓reduceIte, Nat.reduceEqDiff, frOf_0, frOf_1, List.map_cons, List.map_nil, decide_false, ↓bindO_some, ↓bindF_some, ↓bindX_normal, ↓condX_false, fin_r, res_nil, res_tmp, pack_1, scal_vi, s1, s2, h1, h2]
noncomputable def szA : Code := atC [1, 1, 0, 1, 0, 0] ((Tryz.f97.body).getD .skip)
theorem sizes_loop {H : Heap} {vx vy : Value} {x y : Int} (hx : R H vx (ints (nf x))) (hy : R H vy (ints (nf y))) (x0 : 0 ≤ x) (y0 : 0 ≤ y) (lx : (nf x).length ≤ 900) (hl : (nf x).length = (nf y).length) (n m nt : Nat) (hn : 2 ≤ n) {a : Fr} {k : Nat} (hk : (nf x).length < k)
    (h0 : a 0 = vx) (h1 : a 1 = vy) (h5 : a 5 = vi (((nf x).length : Int) - 1)) :
    ∃ r a' H', loopN (evS Tryz.prog (evB Tryz.prog bC n) m nt none szA) k a H = some (r, a', H') ∧ H' = H ∧ ((r = .exit 0 ∧ x = y) ∨ (r = .ret ∧ a' 4 = vi (cmpZ x y))) := by
  refine loop_wf (fun j a H' => H' = H ∧ a 0 = vx ∧ a 1 = vy ∧ a 5 = vi ((j : Int) - 1) ∧ j ≤ (nf x).length ∧ (nf x).drop j = (nf y).drop j) _ ?_ k (nf x).length a H hk ⟨rfl, h0, h1, h5, Nat.le_refl _, by rw [List.drop_length, hl, List.drop_length]⟩
  intro j a H' ⟨hH, h0, h1, h5, hj, hd⟩
  subst hH
  rw [show szA = atC [1, 1, 0, 1, 0, 0] ((Tryz.f97.body).getD .skip) from rfl]
  by_cases hz : j = 0
  · subst hz
    right
    have c1 : decide ((0 : Int) ≤ ((0 : Nat) : Int) - 1) = false := rfl
    simp (disch := omega) only [Tryz.f97, Option.getD_some, atC, es_seq, es_region, es_cond, es_exit, ops_nil, ops_cons, st_move, sy_bin, binS_geq, bindO_some, bindF_some, bindX_normal, bindX_exit, condX_false, ev_tmp, ev_const, putA, upd_at, ↓reduceIte, ↓bindO_some, ↓bindF_some, ↓bindX_normal, ↓bindX_exit, ↓condX_false, h5, c1]
    refine ⟨_, _, _, rfl, by simp, rfl, .inl ⟨rfl, ?_⟩⟩
    have := congrArg val hd
    rw [List.drop_zero, List.drop_zero, nf_val, nf_val] at this
    exact this
  · obtain ⟨i, rfl⟩ : ∃ i, j = i + 1 := ⟨j - 1, by omega⟩
    rw [show ((i + 1 : Nat) : Int) - 1 = (i : Int) from by omega] at h5
    have c1 : (0 : Int) ≤ (i : Int) := by omega
    have e1 : IntKind.i64.wrap ((i : Int) - 1) = (i : Int) - 1 := wr64 (by omega) (by omega)
    have hc := cmp_at (nf_dg x0) (nf_dg y0) (i := i) (by omega) (by omega) hd
    rw [nf_val, nf_val] at hc
    by_cases he : (nf x).getD i 0 = (nf y).getD i 0
    · left
      simp (disch := omega) only [Tryz.f97, Option.getD_some, atC, es_seq, es_region, es_draw, d0, es_cond, es_block, es_skip, ops_nil, ops_cons, opsV_nil, opsV_cons, st_move, st_assign, sy_addr eL, sy_load aI, sy_bin, binS_geq, binS_neq, binS_sub, bindO_some, bindF_some, bindX_normal, blkX_normal, condX_true, condX_false, iteB_true, iteB_false, ev_tmp, ev_const, putA, upd_at, Option.map_some, ↓reduceIte, Nat.reduceEqDiff, Int.toNat_natCast, decide_true, Bool.not_true, ↓bindO_some, ↓bindF_some, ↓bindX_normal, ↓condX_true, ↓condX_false, ↓iteB_true, ↓iteB_false, reflV_load, reflV_move, reflV_bin, reflV_addr, vEq_vi, h0, h1, h5, c1, hx.addrI, hx.loadI, hy.addrI, hy.loadI, he, e1]
      exact ⟨_, _, rfl, i, by omega, rfl, by simp only [upd_get, ↓reduceIte, Nat.reduceEqDiff, h0], by simp only [upd_get, ↓reduceIte, Nat.reduceEqDiff, h1], by simp only [upd_get, ↓reduceIte], by omega, by rw [drop_getD (by omega), drop_getD (l := nf y) (by omega), hd, he]⟩
    · right
      have s1 := compare_run ((nf x).getD i 0) ((nf y).getD i 0) H' n hn
      have e2 : cmpZ ((nf x).getD i 0) ((nf y).getD i 0) = cmpZ x y := by
        unfold cmpZ
        by_cases hlt : (nf x).getD i 0 < (nf y).getD i 0
        · rw [if_pos hlt, if_pos (hc.1 hlt)]
        · have hgt : (nf y).getD i 0 < (nf x).getD i 0 := by omega
          have := hc.2 hgt
          rw [if_neg hlt, if_pos hgt, if_neg (by omega), if_pos this]
      simp (disch := omega) only [Tryz.f97, Option.getD_some, atC, es_seq, es_region, es_draw, d0, es_cond, es_block, es_skip, es_ret, ops_nil, ops_cons, opsV_nil, opsV_cons, st_move, st_assign, st_fun, sy_addr eL, sy_load aI, sy_bin, binS_geq, binS_neq, bindO_some, bindF_some, bindX_normal, bindX_ret, blkX_ret, condX_true, iteB_true, iteB_false, ev_tmp, ev_const, ev_func, putA, upd_at, Option.map_some, ↓reduceIte, Nat.reduceEqDiff, Int.toNat_natCast, List.map_cons, List.map_nil, decide_true, decide_false, Bool.not_false, ↓bindO_some, ↓bindF_some, ↓bindX_normal, ↓bindX_ret, ↓condX_true, ↓iteB_true, ↓iteB_false, reflV_load, reflV_move, reflV_assign, reflV_bin, reflV_addr, reflV_call, vEq_vi, h0, h1, h5, c1, hx.addrI, hx.loadI, hy.addrI, hy.loadI, he, s1, e2]
      exact ⟨_, _, _, rfl, by simp, rfl, .inr ⟨rfl, by simp only [upd_get, ↓reduceIte]⟩⟩
theorem sizes_run {H : Heap} {vx vy : Value} {x y : Int} (hx : R H vx (ints (nf x))) (hy : R H vy (ints (nf y))) (x0 : 0 ≤ x) (y0 : 0 ≤ y) (lx : (nf x).length ≤ 900) (ly : (nf y).length ≤ 900) (n : Nat) (hn : 1002 ≤ n) :
    evB Tryz.prog bC n (.func (.func 97) #[] #[]) [vx, vy] H = some (vi (cmpZ x y), H) := by
  refine run_ofB (F := 1001) (Q := fun r => r = some (vi (cmpZ x y), H)) (fun n hn => ?_) n hn
  rw [body_runS Tryz.func97 rfl (ok_fn (by rfl) Tryz.func97 rfl) (Nat.le_of_ble_eq_true rfl) (D := D0) (by kernel_rfl)]
  by_cases hl : (nf x).length = (nf y).length
  · have c1 : (((nf x).length : Int) = (nf y).length) := by omega
    have e1 : IntKind.i64.wrap (((nf y).length : Int) - 1) = ((nf y).length : Int) - 1 := wr64 (by omega) (by omega)
    have key := fun (A : Fr) => sizes_loop hx hy x0 y0 lx hl n n Tryz.f97.ntmps (by omega) (a := A) (k := n) (by omega)
    rw [show szA = atC [1, 1, 0, 1, 0, 0] ((Tryz.f97.body).getD .skip) from rfl] at key
    simp only [Tryz.f97, Option.getD_some, atC] at key
    simp (disch := omega) only [Tryz.f97, es_seq, es_region, es_cond, es_block, es_loop, es_skip, es_ret, ops_nil, ops_cons, st_move, st_assign, sy_len uL, sy_bin, binS_neq, binS_sub, bindO_some, bindF_some, bindX_normal, condX_false, ev_tmp, ev_const, putA, upd_at, Option.map_some, ↓reduceIte, Nat.reduceEqDiff, frOf_0, frOf_1, decide_true, Bool.not_true, ↓bindO_some, ↓bindF_some, ↓bindX_normal, ↓condX_false, hx.lenI, hy.lenI, c1, e1]
    generalize hA : upd _ 5 _ = A
    obtain ⟨r, a', H', e, hH, h⟩ := key A (by subst hA; rfl) (by subst hA; rfl) (by subst hA; rw [c1]; rfl)
    subst hH
    rw [e]
    rcases h with ⟨rfl, rfl⟩ | ⟨rfl, h4⟩
    · have c2 : cmpZ x x = 0 := by simp [cmpZ]
      simp (disch := omega) only [bindX_normal, blkX_exit, upd_at, Option.map_some, ↓reduceIte, ↓bindX_normal, fin_r, res_nil, res_tmp, pack_1, scal_vi, c2]
    · simp (disch := omega) only [bindX_ret, blkX_ret, Option.map_some, ↓bindX_ret, fin_r, res_nil, res_tmp, pack_1, scal_vi, h4]
  · have c1 : ¬ (((nf x).length : Int) = (nf y).length) := by omega
    have s1 := compare_run (((nf x).length : Nat) : Int) (((nf y).length : Nat) : Int) H n (by omega)
    have e2 : cmpZ (((nf x).length : Nat) : Int) (((nf y).length : Nat) : Int) = cmpZ x y := by
      unfold cmpZ
      by_cases hlt : (nf x).length < (nf y).length
      · rw [if_pos (by omega), if_pos (nf_len_lt x0 y0 hlt)]
      · have hgt : (nf y).length < (nf x).length := by omega
        have := nf_len_lt y0 x0 hgt
        rw [if_neg (by omega), if_pos (by omega), if_neg (by omega), if_pos this]
    simp (disch := omega) only [Tryz.f97, es_seq, es_region, es_cond, es_ret, ops_nil, ops_cons, st_move, st_assign, st_fun, sy_len uL, sy_bin, binS_neq, bindO_some, bindF_some, bindX_normal, bindX_ret, condX_true, ev_tmp, ev_const, ev_func, putA, upd_at, Option.map_some, ↓reduceIte, Nat.reduceEqDiff, frOf_0, frOf_1, List.map_cons, List.map_nil, decide_false, Bool.not_false, ↓bindO_some, ↓bindF_some, ↓bindX_normal, ↓bindX_ret, ↓condX_true, fin_r, res_nil, res_tmp, pack_1, scal_vi, hx.lenI, hy.lenI, c1, s1, e2]
theorem sign_run {C : Nat} {H : Heap} {w : Value} {z : Int} (hw : WF H) (hv : Wh C H w z) (hl : (nf z.natAbs).length ≤ 900) (n : Nat) (hn : 10 ≤ n) :
    ∃ H', evB Tryz.prog bC n (.func (.func 82) #[] #[]) [w] H = some (vi (cmpZ z 0), H') ∧ Old H.length H H' ∧ WF H' := by
  obtain ⟨v, rfl, hr⟩ := hv
  have hr := hr.R
  generalize hnb : decide (z < 0) = nb
  refine run_ofB (F := 9) (Q := fun r => ∃ H', r = some (vi (cmpZ z 0), H') ∧ Old H.length H H' ∧ WF H') (fun n hn => ?_) n hn
  rw [body_runS Tryz.func82 rfl (ok_fn (by rfl) Tryz.func82 rfl) (Nat.le_of_ble_eq_true rfl) (D := D0) (by kernel_rfl)]
  have oldb := Old.app H [.cells H.length true [.bool nb, v]]
  have wfb := hw.app (Nat.le_refl H.length) (o := true) (cs := [.bool nb, v])
  have bb := BxM.made (B := H.length) (H := H) (Nat.le_refl _) [.bool nb, v]
  have f0 := bb.faddr 0
  have f1 := bb.faddr 1
  have l1 : loadS (bx (ptrA H.length 0) 1) (H ++ [.cells H.length true [.bool nb, v]]) = some v := bb.load 1
  have l0 : loadS (bx (ptrA H.length 0) 0) (H ++ [.cells H.length true [.bool nb, v]]) = some (.bool nb) := bb.load 0
  have hlen := hr.lenI
  by_cases hz : z = 0
  · subst hz
    have c1 : (((nf ((0 : Int).natAbs : Int)).length : Nat) : Int) = 0 := by rw [show ((0 : Int).natAbs : Int) = 0 from rfl, nf_zero]; rfl
    have e : cmpZ 0 0 = 0 := rfl
    simp (disch := omega) only [Tryz.f82, es_seq, es_region, es_cond, es_block, es_ret, ops_nil, ops_cons, st_assign, sy_len uL, sy_bin, binS_eql, bindO_some, bindF_some, bindX_normal, bindX_ret, blkX_ret, condX_true, ev_tmp, ev_const, putA, upd_at, Option.map_some, ↓reduceIte, Nat.reduceEqDiff, frOf_0, decide_true, ↓bindO_some, ↓bindF_some, ↓bindX_normal, ↓bindX_ret, ↓condX_true, fin_r, res_nil, res_tmp, pack_1, scal_vi, sy_load aL, sy_faddr fW1, sy_box, scal_agg, f1, l1, hlen, c1, e]
    exact ⟨_, rfl, oldb, wfb⟩
  · have hne : (nf z.natAbs).length ≠ 0 := fun h => by have := nf_nil.1 (List.eq_nil_of_length_eq_zero h); omega
    have c1 : ¬ (((nf z.natAbs).length : Nat) : Int) = 0 := by omega
    cases nb with
    | true =>
      have e : cmpZ z 0 = -1 := if_pos (by simpa using hnb)
      simp (disch := omega) only [Tryz.f82, es_seq, es_region, es_cond, es_block, es_ret, ops_nil, ops_cons, st_assign, sy_len uL, sy_bin, binS_eql, bindO_some, bindF_some, bindX_normal, bindX_ret, blkX_ret, condX_true, condX_false, ev_tmp, ev_const, putA, upd_at, Option.map_some, ↓reduceIte, Nat.reduceEqDiff, frOf_0, decide_false, ↓bindO_some, ↓bindF_some, ↓bindX_normal, ↓bindX_ret, ↓condX_true, ↓condX_false, fin_r, res_nil, res_tmp, pack_1, scal_vi, sy_load aL, sy_load aB, sy_faddr fW0, sy_faddr fW1, sy_box, scal_agg, f1, l1, hlen, c1, f0, l0, e]
      exact ⟨_, rfl, oldb, wfb⟩
    | false =>
      have hn' : ¬ z < 0 := by simpa using hnb
      have e : cmpZ z 0 = 1 := by unfold cmpZ; rw [if_neg hn', if_pos (by omega)]
      simp (disch := omega) only [Tryz.f82, es_seq, es_region, es_cond, es_block, es_skip, es_ret, ops_nil, ops_cons, st_assign, sy_len uL, sy_bin, binS_eql, bindO_some, bindF_some, bindX_normal, blkX_normal, condX_false, ev_tmp, ev_const, putA, upd_at, Option.map_some, ↓reduceIte, Nat.reduceEqDiff, frOf_0, decide_false, ↓bindO_some, ↓bindF_some, ↓bindX_normal, ↓condX_false, fin_r, res_nil, res_tmp, pack_1, scal_vi, sy_load aL, sy_load aB, sy_faddr fW0, sy_faddr fW1, sy_box, scal_agg, f1, l1, hlen, c1, f0, l0, e]
      exact ⟨_, rfl, oldb, wfb⟩
end Go.Proofs.YtmmgdgmjkhcfaaaGreat
namespace Go.Proofs.YtmmgdgmjkhcfaaaGreat
open Go Go.Abs Go.Num
set_option maxRecDepth 10000
attribute [local congr] bindO_congr bindF_congr bindX_congr condX_congr iteB_congr binS_congr pickS_congr eqB_congr nilS_congr clsW_congr
noncomputable def timA : Code := atC [1, 1, 1, 0, 1, 0, 0] ((Tryz.f77.body).getD .skip)
noncomputable def timB : Code := atC [1, 1, 1, 0, 1, 0, 0, 1, 1, 0, 0, 1, 1, 0, 1, 0, 0] ((Tryz.f77.body).getD .skip)
theorem app_getD {l z : List Int} {j : Nat} (h : j < l.length) : (l ++ z).getD j 0 = l.getD j 0 := by
  rw [List.getD_eq_getElem?_getD, List.getD_eq_getElem?_getD, List.getElem?_append_left h]
theorem app_set {l z : List Int} {j : Nat} (h : j < l.length) (x : Int) : (l ++ z).set j x = l.set j x ++ z := List.set_append_left _ _ h
theorem tim_inner {B0 : Nat} {H : Heap} {vb vo : Value} {w q : Int} {i : Nat} {lo z : List Int} (hb : ∀ G, Old B0 H G → R G vb (ints (nf w))) (w0 : 0 ≤ w) (lw : (nf w).length ≤ 400) (hq : 0 ≤ q ∧ q < 100000000) (ho : O B0 H vo (ints (lo ++ z))) (hlo : lo.length = i + (nf w).length) (hd : Dg lo) (hi : i ≤ 400) (hw : WF H) (call : CallF) (m nt : Nat) {a : Fr} {k : Nat} (hk : (nf w).length < k)
    (h5 : a 5 = vo) (h6 : a 6 = vi i) (h7 : a 7 = vi q) (h8 : a 8 = vi 0) (h40 : a 40 = vb) (h41 : a 41 = vi (nf w).length) (h42 : a 42 = vi (0 : Nat)) {v2 v3 v4 v32 v33 v34 : Value} (h2 : a 2 = v2) (h3 : a 3 = v3) (h4 : a 4 = v4) (h32 : a 32 = v32) (h33 : a 33 = v33) (h34 : a 34 = v34) :
    ∃ r a' H', loopN (evT Tryz.prog call m nt none D1 timB) k a H = some (r, a', H') ∧ r = .exit 2 ∧ (a' 5 = vo ∧ a' 6 = vi i ∧ a' 2 = v2 ∧ a' 3 = v3 ∧ a' 4 = v4 ∧ a' 32 = v32 ∧ a' 33 = v33 ∧ a' 34 = v34) ∧ Old B0 H H' ∧ WF H' ∧ ∃ lo' c, a' 8 = vi c ∧ O B0 H' vo (ints (lo' ++ z)) ∧ lo'.length = lo.length ∧ Dg lo' ∧ 0 ≤ c ∧ c < 100000000 ∧ val lo' + B ^ (i + (nf w).length) * c = val lo + B ^ i * (q * w) := by
  refine loop_up (nf w).length (fun j a H' => (a 5 = vo ∧ a 6 = vi i ∧ a 2 = v2 ∧ a 3 = v3 ∧ a 4 = v4 ∧ a 32 = v32 ∧ a 33 = v33 ∧ a 34 = v34) ∧ a 7 = vi q ∧ a 40 = vb ∧ a 41 = vi (nf w).length ∧ a 42 = vi j ∧ Old B0 H H' ∧ WF H' ∧ ∃ lo' c, a 8 = vi c ∧ O B0 H' vo (ints (lo' ++ z)) ∧ lo'.length = lo.length ∧ Dg lo' ∧ 0 ≤ c ∧ c < 100000000 ∧ val lo' + B ^ (i + j) * c = val lo + B ^ i * (q * val ((nf w).take j))) _ ?_ ?_ hk
    ⟨⟨h5, h6, h2, h3, h4, h32, h33, h34⟩, h7, h40, h41, h42, Old.refl _ _, hw, lo, 0, h8, ho, rfl, hd, by omega, by omega, by simp [val]⟩
  · intro j a H' hj ⟨⟨h5, h6, h2, h3, h4, h32, h33, h34⟩, h7, h40, h41, h42, old, hw, lo', c, h8, ho, hl, hd, c0, c1, hval⟩
    left
    rw [show timB = atC [1, 1, 1, 0, 1, 0, 0, 1, 1, 0, 0, 1, 1, 0, 1, 0, 0] ((Tryz.f77.body).getD .skip) from rfl]
    have hm := (nf_dg w0).getD j
    have hx := hd.getD (i + j)
    have hp := prod_le hq hm
    have hrb := hb H' old
    have hro := ho.R
    have hjl : i + j < lo'.length := by omega
    have hlt : (j : Int) < (nf w).length := by omega
    have e0 : IntKind.i64.wrap ((i : Int) + (j : Int)) = ((i + j : Nat) : Int) := by rw [wr64 (by omega) (by omega)]; omega
    have a1 : addrS 1 vo (vi ((i + j : Nat) : Int)) = some (pt vo (i + j)) := by have := hro.addrI (i := ((i + j : Nat) : Int)) (by omega) (by rw [List.length_append]; omega); rwa [Int.toNat_natCast] at this
    have l1 : loadS (pt vo (i + j)) H' = some (vi (lo'.getD (i + j) 0)) := by rw [hro.loadI (by rw [List.length_append]; omega), app_getD hjl]
    have e1 : IntKind.i64.wrap (q * (nf w).getD j 0) = q * (nf w).getD j 0 := wr64 (by omega) (by omega)
    have e2 : IntKind.i64.wrap (lo'.getD (i + j) 0 + q * (nf w).getD j 0) = lo'.getD (i + j) 0 + q * (nf w).getD j 0 := wr64 (by omega) (by omega)
    have e3 : IntKind.i64.wrap (lo'.getD (i + j) 0 + q * (nf w).getD j 0 + c) = lo'.getD (i + j) 0 + q * (nf w).getD j 0 + c := wr64 (by omega) (by omega)
    have e4 : (lo'.getD (i + j) 0 + q * (nf w).getD j 0 + c).tmod 100000000 = (lo'.getD (i + j) 0 + q * (nf w).getD j 0 + c) % 100000000 := tmod_pos (by omega) _
    have e5 : (lo'.getD (i + j) 0 + q * (nf w).getD j 0 + c).tdiv 100000000 = (lo'.getD (i + j) 0 + q * (nf w).getD j 0 + c) / 100000000 := tdiv_pos (by omega) _
    have e6 : IntKind.i64.wrap ((lo'.getD (i + j) 0 + q * (nf w).getD j 0 + c) / 100000000) = (lo'.getD (i + j) 0 + q * (nf w).getD j 0 + c) / 100000000 := wr64 (by omega) (by omega)
    have e7 : IntKind.i64.wrap ((j : Int) + 1) = ((j + 1 : Nat) : Int) := by rw [wr64 (by omega) (by omega)]; omega
    obtain ⟨H2, s2, o2, old2, wf2⟩ := ho.setI hw (i := i + j) (by rw [List.length_append]; omega) ((lo'.getD (i + j) 0 + q * (nf w).getD j 0 + c) % 100000000)
    rw [app_set hjl] at o2
    simp (disch := omega) only [Tryz.f77, Option.getD_some, atC, es_seq, es_region, es_cond, es_block, es_skip, ops_nil, ops_cons, st_move, st_assign, sy_addr eL, sy_load aI, sy_store zI, sy_bin, binS_lss, binS_add, binS_mul, binS_quo, binS_rem, bindO_some, bindF_some, bindX_normal, blkX_normal, condX_true, ev_tmp, ev_const, putA, upd_at, Option.map_some, ↓reduceIte, Nat.reduceEqDiff, Int.toNat_natCast, decide_true, ↓bindO_some, ↓bindF_some, ↓bindX_normal, ↓condX_true, h5, h6, h7, h8, h40, h41, h42, hlt, hrb.addrI, hrb.loadI, e0, a1, l1, e1, e2, e3, e4, e5, e6, s2, e7]
    refine ⟨_, _, rfl, ⟨h5, h6, h2, h3, h4, h32, h33, h34⟩, h7, h40, h41, rfl, old.trans old2, wf2, _, (lo'.getD (i + j) 0 + q * (nf w).getD j 0 + c) / 100000000, rfl, o2, by rw [List.length_set]; exact hl, hd.set _ (by omega) (by omega), by omega, by omega, ?_⟩
    rw [show i + (j + 1) = i + j + 1 from rfl, times_step hjl, hval, val_take_succ, Int.mul_add, Int.mul_add, Int.pow_add, Int.mul_left_comm q (B ^ j), Int.mul_assoc (B ^ i) (B ^ j)]
    omega
  · intro a H' ⟨hs, h7, h40, h41, h42, old, hw, lo', c, h8, ho, hl, hd, c0, c1, hval⟩
    rw [show timB = atC [1, 1, 1, 0, 1, 0, 0, 1, 1, 0, 0, 1, 1, 0, 1, 0, 0] ((Tryz.f77.body).getD .skip) from rfl]
    simp (disch := omega) only [Tryz.f77, Option.getD_some, atC, es_seq, es_region, es_cond, es_exit, ops_nil, ops_cons, sy_bin, binS_lss, bindO_some, bindF_some, bindX_normal, bindX_exit, condX_false, ev_tmp, putA, upd_at, ↓reduceIte, decide_false, ↓bindO_some, ↓bindF_some, ↓bindX_normal, ↓bindX_exit, ↓condX_false, h41, h42, Int.lt_irrefl]
    exact ⟨_, _, _, rfl, by simp, rfl, by simpa only [upd_at, ↓reduceIte, Nat.reduceEqDiff] using hs, old, hw, lo', c, h8, ho, hl, hd, c0, c1, by rw [hval, List.take_length, nf_val]⟩
theorem repl_snoc (l : List Int) (c : Int) {n : Nat} (h : 0 < n) : (l ++ List.replicate n 0).set l.length c = (l ++ [c]) ++ List.replicate (n - 1) 0 := by
  rw [List.set_append_right _ _ (Nat.le_refl _), Nat.sub_self, List.append_assoc]
  obtain ⟨m, rfl⟩ : ∃ m, n = m + 1 := ⟨n - 1, by omega⟩
  rw [List.replicate_succ]; rfl
theorem tim_outer {B0 : Nat} {H : Heap} {va vb vo p2 p3 p4 q3 : Value} {u w : Int} (hB : B0 ≤ H.length) (f31 : faddrS 1 p3 = some q3) (l31 : ∀ G, Old B0 H G → loadS q3 G = some vb) (ha : ∀ G, Old B0 H G → R G va (ints (nf u))) (hb : ∀ G, Old B0 H G → R G vb (ints (nf w))) (u0 : 0 ≤ u) (w0 : 0 ≤ w) (lu : (nf u).length ≤ 400) (lw : (nf w).length ≤ 400) (ho : O B0 H vo (ints (List.replicate ((nf w).length + (nf u).length) 0))) (hw : WF H) (call : CallF) (m nt : Nat) (hm : 1000 ≤ m) {a : Fr} {k : Nat} (hk : (nf u).length < k)
    (h2 : a 2 = p2) (h3 : a 3 = p3) (h4 : a 4 = p4) (h5 : a 5 = vo) (h32 : a 32 = va) (h33 : a 33 = vi (nf u).length) (h34 : a 34 = vi (0 : Nat)) :
    ∃ r a' H', loopN (evT Tryz.prog call m nt none D1 timA) k a H = some (r, a', H') ∧ r = .exit 0 ∧ a' 2 = p2 ∧ a' 3 = p3 ∧ a' 4 = p4 ∧ a' 5 = vo ∧ Old B0 H H' ∧ WF H' ∧ ∃ lo, O B0 H' vo (ints lo) ∧ Dg lo ∧ lo.length = (nf u).length + (nf w).length ∧ val lo = u * w := by
  refine loop_up (nf u).length (fun i a H' => a 2 = p2 ∧ a 3 = p3 ∧ a 4 = p4 ∧ a 5 = vo ∧ a 32 = va ∧ a 33 = vi (nf u).length ∧ a 34 = vi i ∧ Old B0 H H' ∧ WF H' ∧ ∃ lo, O B0 H' vo (ints (lo ++ List.replicate ((nf u).length - i) 0)) ∧ lo.length = i + (nf w).length ∧ Dg lo ∧ val lo = val ((nf u).take i) * w) _ ?_ ?_ hk
    ⟨h2, h3, h4, h5, h32, h33, h34, Old.refl _ _, hw, List.replicate (nf w).length 0, by rw [Nat.sub_zero, List.replicate_append_replicate]; exact ho, by simp, fun x hx => by have := List.eq_of_mem_replicate hx; subst this; unfold B; omega, by simp [val, val_zeros]⟩
  · intro i a H' hi ⟨h2, h3, h4, h5, h32, h33, h34, old, hw, lo, ho, hl, hd, hval⟩
    left
    rw [show timA = atC [1, 1, 1, 0, 1, 0, 0] ((Tryz.f77.body).getD .skip) from rfl]
    have hlt : (i : Int) < (nf u).length := by omega
    have hra := ha H' old
    have hrb := hb H' old
    have ld1 := l31 H' old
    have hq := (nf_dg u0).getD i
    have key := fun (A : Fr) => tim_inner (fun G hG => hb G (old.trans hG)) w0 lw hq ho (by omega) hd (by omega) hw call m nt (a := A) (k := m) (by omega)
    rw [show timB = atC [1, 1, 1, 0, 1, 0, 0, 1, 1, 0, 0, 1, 1, 0, 1, 0, 0] ((Tryz.f77.body).getD .skip) from rfl] at key
    simp only [Tryz.f77, Option.getD_some, atC] at key
    have e1 : IntKind.i64.wrap ((i : Int) + ((nf w).length : Int)) = ((i + (nf w).length : Nat) : Int) := by rw [wr64 (by omega) (by omega)]; omega
    have e2 : IntKind.i64.wrap ((i : Int) + 1) = ((i + 1 : Nat) : Int) := by rw [wr64 (by omega) (by omega)]; omega
    simp (disch := omega) only [Tryz.f77, Option.getD_some, atC, es_seq, es_region, es_cond, es_block, es_loop, es_skip, ops_nil, ops_cons, st_move, st_assign, sy_len uL, sy_addr eL, sy_load aI, sy_store zI, sy_bin, binS_lss, bindO_some, bindF_some, bindX_normal, condX_true, ev_tmp, ev_const, putA, upd_at, Option.map_some, ↓reduceIte, Nat.reduceEqDiff, Int.toNat_natCast, decide_true, ↓bindO_some, ↓bindF_some, ↓bindX_normal, ↓condX_true, sy_load aL, sy_faddr fW1, h3, h32, h33, h34, hlt, f31, ld1, hra.addrI, hra.loadI, hrb.lenI]
    generalize hA : upd _ 42 _ = A
    obtain ⟨r, a', H2, e, hr, ⟨g5, g6, g2, g3, g4, g32, g33, g34⟩, old2, wf2, lo', c, g8, ho', hl', hd', c0, c1, hval'⟩ := key A (by subst hA; exact h5) (by subst hA; rfl) (by subst hA; rfl) (by subst hA; rfl) (by subst hA; rfl) (by subst hA; rfl) (by subst hA; rfl) (by subst hA; exact h2) (by subst hA; exact h3) (by subst hA; exact h4) (by subst hA; exact h32) (by subst hA; exact h33) (by subst hA; exact h34)
    subst hr
    rw [e]
    clear e key
    have ld2 := l31 H2 (old.trans old2)
    have hrb2 := hb H2 (old.trans old2)
    have ro := ho'.R
    have a1 : addrS 1 vo (vi ((i + (nf w).length : Nat) : Int)) = some (pt vo (i + (nf w).length)) := by have := ro.addrI (i := ((i + (nf w).length : Nat) : Int)) (by omega) (by rw [List.length_append, List.length_replicate]; omega); rwa [Int.toNat_natCast] at this
    obtain ⟨H3, s3, o3, old3, wf3⟩ := ho'.setI wf2 (i := i + (nf w).length) (by rw [List.length_append, List.length_replicate]; omega) c
    rw [show i + (nf w).length = lo'.length from by omega, repl_snoc _ _ (by omega)] at o3
    simp (disch := omega) only [binS_add, bindO_some, bindF_some, bindX_normal, blkX_normal, blkX_exit, upd_at, Option.map_some, ↓reduceIte, Nat.reduceEqDiff, ↓bindO_some, ↓bindF_some, ↓bindX_normal, g3, g5, g6, g8, g34, f31, ld2, hrb2.lenI, e1, a1, s3, e2]
    refine ⟨_, _, rfl, g2, g3, g4, g5, g32, g33, rfl, (old.trans old2).trans old3, wf3, lo' ++ [c], by rw [show (nf u).length - (i + 1) = (nf u).length - i - 1 from by omega]; exact o3, by rw [List.length_append, List.length_singleton]; omega, hd'.app (Dg.one c0 c1), ?_⟩
    rw [val_snoc, hl', hl, hval', hval, val_take_succ, Int.add_mul, Int.mul_assoc]
  · intro a H' ⟨h2, h3, h4, h5, h32, h33, h34, old, hw, lo, ho, hl, hd, hval⟩
    rw [show timA = atC [1, 1, 1, 0, 1, 0, 0] ((Tryz.f77.body).getD .skip) from rfl]
    simp (disch := omega) only [Tryz.f77, Option.getD_some, atC, es_seq, es_region, es_cond, es_exit, ops_nil, ops_cons, sy_bin, binS_lss, bindO_some, bindF_some, bindX_normal, bindX_exit, condX_false, ev_tmp, putA, upd_at, ↓reduceIte, decide_false, ↓bindO_some, ↓bindF_some, ↓bindX_normal, ↓bindX_exit, ↓condX_false, h33, h34, Int.lt_irrefl]
    rw [Nat.sub_self, List.replicate_zero, List.append_nil] at ho
    exact ⟨_, _, _, rfl, by simp, rfl, h2, h3, h4, h5, old, hw, lo, ho, hd, hl, by rw [hval, List.take_length, nf_val]⟩
theorem tim_r16 {H H6 : Heap} {px py p4 vo d : Value} {nx ny : Bool} (call : CallF) (k nt : Nat) (rd : Option Nat) {a : Fr} {q0 q1 : Value} (h2 : a 2 = px) (h3 : a 3 = py) (h4 : a 4 = p4) (h5 : a 5 = vo) (f0 : faddrS 0 px = some q0) (f1 : faddrS 0 py = some q1)
    (l0 : ∀ G, G = H ∨ G = H6 → loadS q0 G = some (.bool nx)) (l1 : ∀ G, G = H ∨ G = H6 → loadS q1 G = some (.bool ny))
    (s1 : call (.func (.func 96) #[] #[]) [vo] H = some (d, H)) (sd : Abs.scal d = some [d]) (s3 : storeN 2 p4 (.agg #[.bool (!(nx == ny)), d]) H = some H6) :
    ∃ a' H', evT Tryz.prog call k nt rd D1 (atC [1, 1, 1, 1, 0] ((Tryz.f77.body).getD .skip)) a H = some (.normal, a', H') ∧ H' = H6 ∧ a' 4 = p4 := by
  simp only [Tryz.f77, Option.getD_some, atC]
  refine et_from (fun a' H' => H' = H6 ∧ a' 4 = p4) ?_
  have e0 := l0 H (.inl rfl)
  have e1 := l1 H (.inl rfl)
  simp (disch := omega) only [st_move, st_fun, bindO_some, ev_tmp, ev_func, putA, upd_at, Option.map_some, ↓reduceIte, Nat.reduceEqDiff, List.map_cons, List.map_nil, ↓bindO_some, sy_load aB, sy_faddr fW0, sy_storeN zW, sy_build, sy_ne nB, eqB_bool, Bool.true_xor, opsW_nil, opsW_cons, clsW_eff, clsW_read, clsW_pure, ↓clsW_eff, ↓clsW_read, ↓clsW_pure, cls_move, cls_bin, cls_load, cls_callF, cls_store, cls_faddr, cls_build, h2, h3, h4, h5, f0, f1, e0, e1, s1, bW2 (!(nx == ny)) d sd, s3]
  refine ⟨_, rfl, ?_, rfl, ?_⟩
  · intro G hG r hr
    simp only [List.mem_cons, List.not_mem_nil, or_false] at hG hr
    have hG' : G = H ∨ G = H6 := by
      rcases hG with h | h | h
      · exact .inr h
      all_goals exact .inl h
    have e0 := l0 G hG'
    have e1 := l1 G hG'
    rcases hr with rfl | rfl
    all_goals simp only [still_ld aB, ev_tmp, upd_at, ↓reduceIte, vEq_bool, e0, e1]
  · simp only [upd_at, ↓reduceIte, Nat.reduceEqDiff, h4]
theorem mul_sign {x y : Int} {nx ny : Bool} (hx : decide (x < 0) = nx) (hy : decide (y < 0) = ny) (h1 : x ≠ 0) (h2 : y ≠ 0) : decide (x * y < 0) = !(nx == ny) := by
  subst hx; subst hy
  rcases Int.lt_or_gt_of_ne h1 with a | a <;> rcases Int.lt_or_gt_of_ne h2 with b | b
  · have := Int.mul_pos_of_neg_of_neg a b
    simp [a, b]; omega
  · have := Int.mul_neg_of_neg_of_pos a b
    have c : ¬ y < 0 := by omega
    simp [a, c, this]
  · have := Int.mul_neg_of_pos_of_neg a b
    have c : ¬ x < 0 := by omega
    simp [b, c, this]
  · have := Int.mul_pos a b
    have c : ¬ x < 0 := by omega
    have d : ¬ y < 0 := by omega
    simp [c, d]; omega
theorem times_run {C : Nat} {H : Heap} {wx wy : Value} {x y : Int} (hw : WF H) (hx : Wh C H wx x) (hy : Wh C H wy y) (lx : (nf x.natAbs).length ≤ 390) (ly : (nf y.natAbs).length ≤ 390) (n : Nat) (hn : 2010 ≤ n) :
    OneW H (evB Tryz.prog bC n (.func (.func 77) #[] #[]) [wx, wy] H) (x * y) := by
  obtain ⟨vx, rfl, hx⟩ := hx
  obtain ⟨vy, rfl, hy⟩ := hy
  have hx := hx.R
  have hy := hy.R
  generalize hnx : decide (x < 0) = nx
  generalize hny : decide (y < 0) = ny
  refine run_ofB (F := 2009) (Q := fun r => OneW H r (x * y)) (fun n hn => ?_) n hn
  rw [body_runS Tryz.func77 rfl (ok_fn (by rfl) Tryz.func77 rfl) (Nat.le_of_ble_eq_true rfl) (D := D1) (by kernel_rfl)]
  have old1 := Old.app H [.cells H.length true [.bool nx, vx]]
  have wf1 := hw.app (Nat.le_refl H.length) (o := true) (cs := [.bool nx, vx])
  have b1 := BxM.made (B := H.length) (H := H) (Nat.le_refl _) [.bool nx, vx]
  generalize hH1 : H ++ [Blk.cells H.length true [.bool nx, vx]] = H1 at *
  have old2 := Old.app H1 [.cells H1.length true [.bool ny, vy]]
  have wf2 := wf1.app (Nat.le_refl H1.length) (o := true) (cs := [.bool ny, vy])
  have b2 := BxM.made (B := H1.length) (H := H1) (Nat.le_refl _) [.bool ny, vy]
  generalize hH2 : H1 ++ [Blk.cells H1.length true [.bool ny, vy]] = H2 at *
  have old3 := Old.app H2 [.cells H2.length true [.bool false, .slice none 0 0]]
  have wf3 := wf2.app (Nat.le_refl H2.length) (o := true) (cs := [.bool false, .slice none 0 0])
  have b3 := BxM.made (B := H2.length) (H := H2) (Nat.le_refl _) [.bool false, .slice none 0 0]
  generalize hH3 : H2 ++ [Blk.cells H2.length true [.bool false, .slice none 0 0]] = H3 at *
  have old13 := old2.trans (old3.mono old2.1)
  have old03 := old1.trans (old13.mono old1.1)
  have b1 := b1.mono old13
  have b2 := b2.mono old3
  have f10 := b1.faddr 0
  have f11 := b1.faddr 1
  have f20 := b2.faddr 0
  have f21 := b2.faddr 1
  have l11 : loadS (bx (ptrA H.length 0) 1) H3 = some vx := b1.load 1
  have l21 : loadS (bx (ptrA H1.length 0) 1) H3 = some vy := b2.load 1
  have hx3 := hx.mono old03
  have hy3 := hy.mono old03
  have hlx := hx.lenI
  have hly := hy.lenI
  -- the end: the box of the result
  have fin : ∀ (H4 : Heap) (v : Value) (nb : Bool) (z : Int), Old H3.length H3 H4 → WF H4 → RO H3.length H4 v (ints (nf z.natAbs)) → decide (z < 0) = nb → ∃ H5, storeN 2 (ptrA H2.length 0) (.agg #[.bool nb, v]) H4 = some H5 ∧ loadN 2 (ptrA H2.length 0) H5 = some (.agg #[.bool nb, v]) ∧ OneW H (some (.agg #[.bool nb, v], H5)) z ∧ Old H2.length H3 H5 := by
    intro H4 v nb z old4 wf4 r4 hz
    obtain ⟨H5, s5, b5, old5, wf5, keep5⟩ := (b3.mono old4).store wf4 (vs := [.bool nb, v]) rfl
    exact ⟨H5, s5, b5.loadAll, ⟨_, _, rfl, ⟨v, by rw [hz], (r4.kept keep5).below old03.1⟩, (old03.trans (old4.mono old03.1)).trans (old5.mono (Nat.le_trans old1.1 old2.1)), wf5⟩, (old4.mono old3.1).trans old5⟩
  by_cases hx0 : x = 0
  · have hz : x * y = 0 := by rw [hx0]; exact Int.zero_mul y
    have e0 : ((nf x.natAbs).length : Int) = 0 := by rw [hx0, show ((0 : Int).natAbs : Int) = 0 from rfl, nf_zero]; rfl
    have e1 : decide (((nf x.natAbs).length : Int) = 0) = true := by rw [e0]; rfl
    obtain ⟨H5, s5, s6, ow, _⟩ := fin H3 (.slice none 0 0) false (x * y) (Old.refl _ _) wf3 (by rw [hz, show ((0 : Int).natAbs : Int) = 0 from rfl, nf_zero]; exact .inl ⟨rfl, rfl⟩) (by rw [hz]; rfl)
    simp (disch := omega) only [Tryz.f77, es_seq, es_region, es_cond, es_ret, ops_nil, ops_cons, ops_consG, st_move, sy_pick, pickS_true, sy_len uL, sy_bin, binS_eql, bindO_some, bindF_some, bindX_normal, bindX_ret, condX_true, iteB_false, ev_tmp, ev_const, putA, upd_at, Option.map_some, ↓reduceIte, Nat.reduceEqDiff, frOf_0, frOf_1, List.map_nil, Bool.not_true, yieldO_eq, yO, yV_bool, some_false, List.getElem?_cons_zero, List.getElem?_cons_succ, ↓bindO_some, ↓bindF_some, ↓bindX_normal, ↓bindX_ret, ↓condX_true, ↓iteB_false, fin_r, res_nil, pack_1, sy_load aL, sy_faddr fW1, sy_storeN zW, sy_alloc iW scal_agg, sy_box, sy_build, bW0, res_cell aW zW, scal_agg, hH1, hH2, hH3, f11, l11, hlx, e1, s5, s6]
    exact ow
  · have ex : decide (((nf x.natAbs).length : Int) = 0) = false := decide_eq_false (by have := (nf_last (z := (x.natAbs : Int)) (by omega)).1; omega)
    by_cases hy0 : y = 0
    · have hz : x * y = 0 := by rw [hy0]; exact Int.mul_zero x
      have e0 : ((nf y.natAbs).length : Int) = 0 := by rw [hy0, show ((0 : Int).natAbs : Int) = 0 from rfl, nf_zero]; rfl
      have e1 : decide (((nf y.natAbs).length : Int) = 0) = true := by rw [e0]; rfl
      obtain ⟨H5, s5, s6, ow, _⟩ := fin H3 (.slice none 0 0) false (x * y) (Old.refl _ _) wf3 (by rw [hz, show ((0 : Int).natAbs : Int) = 0 from rfl, nf_zero]; exact .inl ⟨rfl, rfl⟩) (by rw [hz]; rfl)
      simp (disch := omega) only [Tryz.f77, es_seq, es_region, es_cond, es_ret, ops_nil, ops_cons, ops_consG, st_move, sy_pick, pickS_false, sy_len uL, sy_bin, binS_eql, bindO_some, bindF_some, bindX_normal, bindX_ret, condX_true, iteB_true, ev_tmp, ev_const, putA, upd_at, Option.map_some, ↓reduceIte, Nat.reduceEqDiff, frOf_0, frOf_1, List.map_nil, yieldO_eq, yO, yV_bool, List.getElem?_cons_zero, List.getElem?_cons_succ, beq_self_eq_true, ↓bindO_some, ↓bindF_some, ↓bindX_normal, ↓bindX_ret, ↓condX_true, ↓iteB_true, fin_r, res_nil, pack_1, sy_load aL, sy_faddr fW1, sy_storeN zW, sy_alloc iW scal_agg, sy_box, sy_build, bW0, res_cell aW zW, scal_agg, hH1, hH2, hH3, f11, f21, l11, l21, hlx, hly, ex, e1, s5, s6]
      exact ow
    · have ey : decide (((nf y.natAbs).length : Int) = 0) = false := decide_eq_false (by have := (nf_last (z := (y.natAbs : Int)) (by omega)).1; omega)
      have hsg := mul_sign hnx hny hx0 hy0
      have hab : ((x * y).natAbs : Int) = x.natAbs * y.natAbs := by rw [Int.natAbs_mul]; exact Int.natCast_mul ..
      have e1 : IntKind.i64.wrap (((nf x.natAbs).length : Int) + ((nf y.natAbs).length : Int)) = (((nf y.natAbs).length + (nf x.natAbs).length : Nat) : Int) := by rw [wr64 (by omega) (by omega)]; omega
      have c2 : (0 : Int) ≤ (((nf y.natAbs).length + (nf x.natAbs).length : Nat) : Int) := by omega
      have c3 : (((nf y.natAbs).length + (nf x.natAbs).length : Nat) : Int) ≤ 1048576 := by omega
      have hz := zeros_I ((nf y.natAbs).length + (nf x.natAbs).length)
      have hlr : (ints (List.replicate ((nf y.natAbs).length + (nf x.natAbs).length) (0 : Int))).length = (nf y.natAbs).length + (nf x.natAbs).length := by rw [ints_len, List.length_replicate]
      have or := O.made (B := H3.length) (Nat.le_refl H3.length) (ints (List.replicate ((nf y.natAbs).length + (nf x.natAbs).length) (0 : Int)))
      rw [hlr] at or
      have oldm := Old.app H3 [.cells H3.length true (ints (List.replicate ((nf y.natAbs).length + (nf x.natAbs).length) (0 : Int)))]
      have wfm := wf3.app (Nat.le_refl H3.length) (o := true) (cs := ints (List.replicate ((nf y.natAbs).length + (nf x.natAbs).length) (0 : Int)))
      have l11m : loadS (bx (ptrA H.length 0) 1) (H3 ++ [.cells H3.length true (ints (List.replicate ((nf y.natAbs).length + (nf x.natAbs).length) (0 : Int)))]) = some vx := (b1.mono (oldm.mono (by have := old2.1; have := old3.1; omega))).load 1
      have key := fun (A : Fr) => tim_outer (p2 := ptrA H.length 0) (p4 := ptrA H2.length 0) oldm.1 f21 (fun G hG => (b2.mono ((oldm.trans hG).mono old3.1)).load 1) (fun G hG => hx3.mono (oldm.trans hG)) (fun G hG => hy3.mono (oldm.trans hG)) (by omega) (by omega) (by omega) (by omega) or wfm (evB Tryz.prog bC n) n Tryz.f77.ntmps (by omega) (a := A) (k := n) (by omega)
      rw [show timA = atC [1, 1, 1, 0, 1, 0, 0] ((Tryz.f77.body).getD .skip) from rfl] at key
      have kr := fun (A : Fr) {G G' : Heap} {vo d : Value} => tim_r16 (H := G) (H6 := G') (px := ptrA H.length 0) (py := ptrA H1.length 0) (p4 := ptrA H2.length 0) (vo := vo) (d := d) (nx := nx) (ny := ny) (evB Tryz.prog bC n) n Tryz.f77.ntmps none (a := A) (q0 := bx (ptrA H.length 0) 0) (q1 := bx (ptrA H1.length 0) 0)
      simp only [Tryz.f77, Option.getD_some, atC] at key kr
      simp (disch := omega) only [Tryz.f77, es_seq, es_region, es_cond, es_block, es_loop, es_skip, es_ret, ops_nil, ops_cons, ops_consG, st_move, st_assign, sy_pick, pickS_false, sy_len uL, sy_bin, sy_make eL yI (by decide), binS_eql, binS_add, bindO_some, bindF_some, bindX_normal, condX_false, iteB_true, ev_tmp, ev_const, putA, upd_at, Option.map_some, ↓reduceIte, Nat.reduceEqDiff, Int.toNat_natCast, frOf_0, frOf_1, yieldO_eq, yO, yV_bool, List.getElem?_cons_zero, List.getElem?_cons_succ, beq_self_eq_true, ↓bindO_some, ↓bindF_some, ↓bindX_normal, ↓condX_false, ↓iteB_true, sy_load aL, sy_faddr fW1, sy_alloc iW scal_agg, sy_box, scal_agg, hH1, hH2, hH3, f11, f21, l11, l21, hlx, hly, ex, ey, e1, c2, c3, Int.le_refl, and_self, hz, l11m]
      generalize hA : upd _ 34 _ = A
      obtain ⟨r, a', H', e, hr, g2, g3, g4, g5, old4, wf4, lo, ol, hd, hll, hval⟩ := key A (by subst hA; rfl) (by subst hA; rfl) (by subst hA; rfl) (by subst hA; rfl) (by subst hA; rfl) (by subst hA; rfl) (by subst hA; rfl)
      subst hr
      rw [e]
      clear e key
      have old34 := oldm.trans old4
      obtain ⟨d, sd, rd⟩ := trimmed_run ol.RO (by omega) n (by omega)
      rw [nf_of_digs hd hval, ← hab] at rd
      obtain ⟨H5, s5, s6, ow, old5⟩ := fin H' d _ (x * y) old34 wf4 rd hsg
      have old5' := old5.mono old2.1
      have old35 := old34.mono (Nat.le_trans old2.1 old3.1)
      obtain ⟨a2, H2', e2, hH', g4'⟩ := kr a' (G := H') (G' := H5) g2 g3 g4 g5 f10 f20 (fun G h => by
        rcases h with rfl | rfl
        · exact (b1.mono old35).load 0
        · exact (b1.mono old5').load 0) (fun G h => by
        rcases h with rfl | rfl
        · exact (b2.mono (old34.mono old3.1)).load 0
        · exact (b2.mono old5).load 0) sd rd.R.scal s5
      subst hH'
      simp (disch := omega) only [bindX_normal, blkX_exit, ↓reduceIte, ↓bindX_normal]
      rw [e2]
      simp (disch := omega) only [bindX_normal, Option.map_some, ↓bindX_normal, fin_r, res_nil, pack_1, res_cell aW zW, g4', s6]
      exact ow
end Go.Proofs.YtmmgdgmjkhcfaaaGreat
