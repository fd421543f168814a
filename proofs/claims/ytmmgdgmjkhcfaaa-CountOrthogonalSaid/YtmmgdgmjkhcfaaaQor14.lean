/- Of the law: texts of its proof, joined (part 14). -/
import Derived.Test.YtmmgdgmjkhcfaaaQor13
set_option linter.all false
namespace Go.Proofs.Ytmmgdgmjkhcfaaa
open Go Go.Abs
theorem uL : Try.prog.underlying 22 = some (.slice 3) := by kernel_rfl
theorem eL : sliceElem Try.prog 22 = some (3, 1) := by kernel_rfl
theorem aI : isAggT Try.prog 3 = some false := by kernel_rfl
theorem zI : sizeT Try.prog 3 = some 1 := by kernel_rfl
theorem pI : ((bytesT Try.prog 3).isSome && decide ((bytesT Try.prog 3).getD 0 ≤ maxA) && (zeros Try.prog 3 1 1).isSome) = true := by kernel_rfl
theorem yI : bytesT Try.prog 3 = some 8 := by kernel_rfl
theorem oI : zeros Try.prog 3 1 1 = some [vi 0] := by kernel_rfl
theorem nI : zeros Try.prog 3 1 0 = some [] := by kernel_rfl
theorem ok_fn {f : Nat} {fn : Func} {c : Code} (ho : okN f = true) (hf : Try.prog.funcs[f]? = some fn) (hb : fn.body = some c) : funcOk fn c = true := hF f fn c ho hf hb
theorem aL : isAggT Try.prog 22 = some false := by kernel_rfl
theorem aB : isAggT Try.prog 4 = some false := by kernel_rfl
theorem zL : sizeT Try.prog 22 = some 1 := by kernel_rfl
theorem zB : sizeT Try.prog 4 = some 1 := by kernel_rfl
theorem qB (x y : Operand) (p q : Bool) : pureVal Try.prog (do eqGuard .eql 4 x y (.bool p) (.bool q); binOp .eql 4 (.bool p) (.bool q)) = some (.bool (p == q)) := by kernel_rfl
theorem nB (x y : Operand) (p q : Bool) : pureVal Try.prog (do eqGuard .neq 4 x y (.bool p) (.bool q); binOp .neq 4 (.bool p) (.bool q)) = some (.bool (!(p == q))) := by kernel_rfl
theorem aW : isAggT Try.prog 85 = some true := by kernel_rfl
theorem zW : sizeT Try.prog 85 = some 2 := by kernel_rfl
theorem fW0 : fieldOff Try.prog 85 0 = some 0 := by kernel_rfl
theorem fW1 : fieldOff Try.prog 85 1 = some 1 := by kernel_rfl
theorem iW : zeroT Try.prog 85 = some (.agg #[.bool false, .slice none 0 0]) := by kernel_rfl
noncomputable def sfs (t : TypeId) : Array Field := match Try.prog.underlying t with
  | some (.struct fs) => fs
  | _ => #[]
theorem uW : Try.prog.underlying 85 = some (.struct (sfs 85)) := by kernel_rfl
theorem oW : sizesOf Try.prog (sfs 85).toList = some [(0, 1), (1, 1)] := by kernel_rfl
theorem bW2 (p : Bool) (v : Value) (h : scal v = some [v]) : buildA Try.prog 85 [(0, .bool p), (1, v)] = some (.agg #[.bool p, v]) := by
  have hb : ∀ q : Bool, scal (.bool q) = some [.bool q] := fun _ => rfl
  simp only [buildA, iW, uW, oW, fillL, hb, h]
  rfl
theorem bW1 (v : Value) (h : scal v = some [v]) : buildA Try.prog 85 [(1, v)] = some (.agg #[.bool false, v]) := by
  have hb : ∀ q : Bool, scal (.bool q) = some [.bool q] := fun _ => rfl
  simp only [buildA, iW, uW, oW, fillL, hb, h]
  rfl
theorem bW0 : buildA Try.prog 85 [] = some (.agg #[.bool false, .slice none 0 0]) := by kernel_rfl
end Go.Proofs.Ytmmgdgmjkhcfaaa
namespace Go.Proofs.Ytmmgdgmjkhcfaaa
open Go Go.Abs Go.Num
set_option maxRecDepth 10000
attribute [local congr] bindO_congr bindF_congr bindX_congr condX_congr iteB_congr binS_congr pickS_congr
theorem tdiv_pos {z : Int} (h : 0 ≤ z) (b : Int) : z.tdiv b = z / b := Int.tdiv_eq_ediv_of_nonneg h
theorem tmod_pos {z : Int} (h : 0 ≤ z) (b : Int) : z.tmod b = z % b := Int.tmod_eq_emod_of_nonneg h
theorem tdiv_neg' {z : Int} (b : Int) : z.tdiv b = -((-z).tdiv b) := by rw [Int.neg_tdiv]; omega
theorem tmod_neg' {z : Int} (b : Int) : z.tmod b = -((-z).tmod b) := by rw [Int.neg_tmod]; omega
theorem split_run {z : Int} (h1 : -4000000000000000000 ≤ z) (h2 : z ≤ 4000000000000000000) (n : Nat) (H : Heap) (hn : 10 ≤ n) : evB Try.prog noC n (.func (.func 111) #[] #[]) [vi z] H = some (.tuple #[vi (z / 100000000), vi (z % 100000000)], H) := by
  refine run_of (F := 9) (Q := fun x => x = some (.tuple #[vi (z / 100000000), vi (z % 100000000)], H)) (fun n _ => ?_) n hn
  rw [body_runS Try.func111 rfl (ok_fn (by rfl) Try.func111 rfl) (Nat.le_of_ble_eq_true rfl) (D := D0) (by kernel_rfl)]
  by_cases hz : 0 ≤ z
  · have e1 : z.tdiv 100000000 = z / 100000000 := tdiv_pos hz _
    have e2 : z.tmod 100000000 = z % 100000000 := tmod_pos hz _
    have h3 : ¬ z % 100000000 < 0 := by omega
    simp (disch := omega) only [Try.f111, es_seq, es_region, es_cond, es_skip, es_ret, ops_nil, ops_cons, st_move, st_assign, sy_bin, binS_lss, binS_quo, binS_rem, bindO_some, bindF_some, bindX_normal, condX_false, ev_tmp, ev_const, putA, upd_at, Option.map_some, ↓reduceIte, Nat.reduceEqDiff, frOf_0, decide_false, ↓bindO_some, ↓bindF_some, ↓bindX_normal, ↓condX_false, fin_r, res_nil, res_tmp, pack_2, scal_vi, e1, e2, wr64, h3]
  · have e1 : z.tdiv 100000000 = -((-z) / 100000000) := by rw [tdiv_neg', tdiv_pos (by omega)]
    have e2 : z.tmod 100000000 = -((-z) % 100000000) := by rw [tmod_neg', tmod_pos (by omega)]
    by_cases h3 : -((-z) % 100000000) < 0
    · simp (disch := omega) only [Try.f111, es_seq, es_region, es_cond, es_ret, ops_nil, ops_cons, st_move, st_assign, sy_bin, binS_lss, binS_add, binS_sub, binS_quo, binS_rem, bindO_some, bindF_some, bindX_normal, bindX_ret, condX_true, ev_tmp, ev_const, putA, upd_at, Option.map_some, ↓reduceIte, Nat.reduceEqDiff, frOf_0, decide_true, ↓bindO_some, ↓bindF_some, ↓bindX_normal, ↓bindX_ret, ↓condX_true, fin_r, res_nil, res_tmp, pack_2, scal_vi, e1, e2, wr64, h3]
      rw [show -(-z / 100000000) - 1 = z / 100000000 from by omega, show -(-z % 100000000) + 100000000 = z % 100000000 from by omega]
    · simp (disch := omega) only [Try.f111, es_seq, es_region, es_cond, es_skip, es_ret, ops_nil, ops_cons, st_move, st_assign, sy_bin, binS_lss, binS_quo, binS_rem, bindO_some, bindF_some, bindX_normal, condX_false, ev_tmp, ev_const, putA, upd_at, Option.map_some, ↓reduceIte, Nat.reduceEqDiff, frOf_0, decide_false, ↓bindO_some, ↓bindF_some, ↓bindX_normal, ↓condX_false, fin_r, res_nil, res_tmp, pack_2, scal_vi, e1, e2, wr64, h3]
      rw [show -(-z / 100000000) = z / 100000000 from by omega, show -(-z % 100000000) = z % 100000000 from by omega]
theorem take_snoc' {l : List Int} {c : Nat} (h : c < l.length) : l.take (c + 1) = l.take c ++ [l.getD c 0] := by
  rw [List.take_succ_eq_append_getElem h]
  simp [List.getD_eq_getElem?_getD, List.getElem?_eq_getElem h]
noncomputable def trimB : Code := atC [1, 1, 0, 0, 0] ((Try.f112.body).getD .skip)
theorem trim_loop {H : Heap} {v : Value} {l : List Int} (hv : R H v (ints l)) (call : CallF) (m nt : Nat) {a : Fr} {k : Nat} (hk : l.length < k) (hl : l.length ≤ 1000) (h0 : a 0 = v) (h3 : a 3 = vi l.length) :
    ∃ x a' H', loopN (evS Try.prog call m nt none trimB) k a H = some (x, a', H') ∧ x = .exit 0 ∧ H' = H ∧ a' 0 = v ∧ ∃ c : Nat, c ≤ l.length ∧ a' 3 = vi c ∧ l.take c = trimL l := by
  refine loop_wf (fun n a H' => H' = H ∧ a 0 = v ∧ a 3 = vi n ∧ n ≤ l.length ∧ trimL (l.take n) = trimL l) _ ?_ k l.length a H hk ⟨rfl, h0, h3, Nat.le_refl _, by rw [List.take_length]⟩
  intro n a H' ⟨hH, h0, h3, hn, ht⟩
  subst hH
  rw [show trimB = atC [1, 1, 0, 0, 0] ((Try.f112.body).getD .skip) from rfl]
  by_cases hz : n = 0
  · subst hz
    right
    have h1 : ¬ (0 : Int) < ((0 : Nat) : Int) := by omega
    simp (disch := omega) only [Try.f112, Option.getD_some, atC, es_seq, es_region, es_cond, es_exit, ops_nil, ops_cons, ops_consG, st_move, sy_pick, pickS_false, sy_bin, binS_gtr, bindO_some, bindF_some, bindX_normal, bindX_exit, condX_false, iteB_false, ev_tmp, ev_const, putA, upd_at, ↓reduceIte, Nat.reduceEqDiff, decide_false, yieldO_eq, yO, yV_bool, some_true, List.getElem?_cons_zero, List.getElem?_cons_succ, ↓bindO_some, ↓bindF_some, ↓bindX_normal, ↓bindX_exit, ↓condX_false, ↓iteB_false, h3, h1]
    exact ⟨_, _, _, rfl, by simp, rfl, rfl, by simp only [upd_get, ↓reduceIte, Nat.reduceEqDiff, h0], 0, by omega, by simp only [upd_get, ↓reduceIte, Nat.reduceEqDiff, h3], ht⟩
  · obtain ⟨c, rfl⟩ : ∃ c, n = c + 1 := ⟨n - 1, by omega⟩
    have h1 : (0 : Int) < ((c + 1 : Nat) : Int) := by omega
    have e1 : IntKind.i64.wrap (((c + 1 : Nat) : Int) - 1) = (c : Int) := by rw [wr64 (by omega) (by omega)]; omega
    have hx := take_snoc' (l := l) (c := c) (by omega)
    rw [hx, trimL_snoc] at ht
    by_cases hy : l.getD c 0 = 0
    · left
      rw [if_pos hy] at ht
      simp (disch := omega) only [Try.f112, Option.getD_some, atC, es_seq, es_region, es_cond, es_block, es_skip, ops_nil, ops_cons, ops_consG, st_move, st_assign, sy_pick, pickS_true, sy_addr eL, sy_load aI, sy_bin, binS_gtr, binS_eql, binS_sub, bindO_some, bindF_some, bindX_normal, blkX_normal, condX_true, iteB_true, ev_tmp, ev_const, putA, upd_at, Option.map_some, ↓reduceIte, Nat.reduceEqDiff, Int.toNat_natCast, decide_true, yieldO_eq, yO, yV_bool, List.getElem?_cons_zero, List.getElem?_cons_succ, beq_self_eq_true, ↓bindO_some, ↓bindF_some, ↓bindX_normal, ↓condX_true, ↓iteB_true, h0, h3, h1, e1, hv.addrI, hv.loadI, hy]
      exact ⟨_, _, rfl, c, by omega, rfl, by simp only [upd_get, ↓reduceIte, Nat.reduceEqDiff, h0], by simp only [upd_get, ↓reduceIte], by omega, ht⟩
    · right
      rw [if_neg hy] at ht
      simp (disch := omega) only [Try.f112, Option.getD_some, atC, es_seq, es_region, es_cond, es_exit, ops_nil, ops_cons, ops_consG, st_move, sy_pick, pickS_true, sy_addr eL, sy_load aI, sy_bin, binS_gtr, binS_eql, binS_sub, bindO_some, bindF_some, bindX_normal, bindX_exit, condX_false, iteB_true, ev_tmp, ev_const, putA, upd_at, Option.map_some, ↓reduceIte, Nat.reduceEqDiff, Int.toNat_natCast, decide_true, decide_false, yieldO_eq, yO, yV_bool, List.getElem?_cons_zero, List.getElem?_cons_succ, beq_self_eq_true, ↓bindO_some, ↓bindF_some, ↓bindX_normal, ↓bindX_exit, ↓condX_false, ↓iteB_true, h0, h3, h1, e1, hv.addrI, hv.loadI, hy]
      exact ⟨_, _, _, rfl, by simp, rfl, rfl, by simp only [upd_get, ↓reduceIte, Nat.reduceEqDiff, h0], c + 1, by omega, by simp only [upd_get, ↓reduceIte, Nat.reduceEqDiff, h3], by rw [hx]; exact ht⟩
def OneL (H : Heap) (r : Option (Value × Heap)) (l : List Int) : Prop := ∃ v' H', r = some (v', H') ∧ O H.length H' v' (ints l) ∧ Old H.length H H' ∧ WF H'
theorem trim_run {H : Heap} {v : Value} {l : List Int} (hw : WF H) (hv : R H v (ints l)) (hl : l.length ≤ 1000) (n : Nat) (hn : 2000 ≤ n) : OneL H (evB Try.prog noC n (.func (.func 112) #[] #[]) [v] H) (trimL l) := by
  refine run_of (F := 1999) (Q := fun x => OneL H x (trimL l)) (fun n hn => ?_) n hn
  rw [body_runS Try.func112 rfl (ok_fn (by rfl) Try.func112 rfl) (Nat.le_of_ble_eq_true rfl) (D := D0) (by kernel_rfl)]
  have key := fun (A : Fr) => trim_loop hv (evB Try.prog noC n) n Try.f112.ntmps (a := A) (k := n) (by omega) hl
  rw [show trimB = atC [1, 1, 0, 0, 0] ((Try.f112.body).getD .skip) from rfl] at key
  simp only [Try.f112, Option.getD_some, atC] at key
  simp (disch := omega) only [Try.f112, es_seq, es_region, es_block, es_loop, es_ret, ops_nil, ops_cons, st_move, st_assign, sy_len uL, sy_append eL pI, sy_build0 eL nI, sy_slice eL, bindO_some, bindF_some, bindX_normal, ev_tmp, ev_const, putA, upd_at, Option.map_some, ↓reduceIte, Nat.reduceEqDiff, frOf_0, ↓bindO_some, ↓bindF_some, ↓bindX_normal, hv.lenI]
  generalize hA : upd _ 3 _ = A
  obtain ⟨x, a', H', e, hx, hH, h0, c, hc, h3, ht⟩ := key A (by subst hA; rfl) (by subst hA; rfl)
  subst hx
  subst hH
  rw [e]
  obtain ⟨v1, e1, r1⟩ := hv.upto hc
  have ho := Old.app H' [.cells H'.length true []]
  obtain ⟨v2, H2, e2, o2, old2, wf2⟩ := (O.empty (H := H') (Nat.le_refl H'.length)).app (hw.app (Nat.le_refl _)) (by simp) (r1.mono ho) (by rw [ints_len, List.length_take]; simp [maxA]; omega)
  simp (disch := omega) only [bindO_some, bindF_some, bindX_normal, blkX_exit, upd_at, Option.map_some, ↓reduceIte, ↓bindO_some, ↓bindF_some, ↓bindX_normal, fin_r, res_nil, res_tmp, pack_1, h0, h3, e1, e2, Option.map_none, (o2.R).scal]
  refine ⟨_, _, rfl, ?_, ho.trans old2, wf2⟩
  rw [← ht]; exact o2
theorem getD_mem {l : List Int} {i : Nat} (h : i < l.length) : l.getD i 0 ∈ l := by
  rw [List.getD_eq_getElem?_getD, List.getElem?_eq_getElem h]; exact List.getElem_mem h
def negI (l : List Int) (i : Nat) : List Int := (l.take i).map (- ·) ++ l.drop i
theorem negI_len (l : List Int) (i : Nat) : (negI l i).length = l.length := by unfold negI; simp; omega
theorem negI_get {l : List Int} {i : Nat} (h : i < l.length) : (negI l i).getD i 0 = l.getD i 0 := by
  unfold negI
  have e : ((l.take i).map (- ·)).length = i := by simp; omega
  rw [List.getD_eq_getElem?_getD, List.getD_eq_getElem?_getD, List.getElem?_append_right (by omega), e, Nat.sub_self, List.getElem?_drop, Nat.add_zero]
theorem negI_set {l : List Int} {i : Nat} (h : i < l.length) : (negI l i).set i (- l.getD i 0) = negI l (i + 1) := by
  unfold negI
  have e : ((l.take i).map (- ·)).length = i := by simp; omega
  rw [List.set_append_right _ _ (by omega), e, Nat.sub_self, take_snoc' h, List.map_append, List.drop_eq_getElem_cons h, List.set_cons_zero]
  simp
theorem negI_all (l : List Int) : negI l l.length = l.map (- ·) := by unfold negI; simp
theorem negI_0 (l : List Int) : negI l 0 = l := by unfold negI; simp
noncomputable def signedB : Code := atC [1, 1, 0, 1, 0, 0] ((Try.f101.body).getD .skip)
theorem signed_loop {B0 : Nat} {H0 : Heap} {v : Value} {l : List Int} (call : CallF) (m nt : Nat) {a : Fr} {H : Heap} {k : Nat} (hk : l.length < k) (hl : l.length ≤ 1000) (hb : ∀ x ∈ l, -4000000000000000000 ≤ x ∧ x ≤ 4000000000000000000)
    (ho : O B0 H v (ints l)) (old : Old B0 H0 H) (hw : WF H) (h1 : a 1 = .bool true) (h5 : a 5 = v) (h6 : a 6 = vi (0 : Nat)) :
    ∃ x a' H', loopN (evS Try.prog call m nt none signedB) k a H = some (x, a', H') ∧ x = .exit 0 ∧ O B0 H' v (ints (l.map (- ·))) ∧ Old B0 H0 H' ∧ WF H' ∧ a' 5 = v := by
  refine loop_up l.length (fun i a H' => a 1 = .bool true ∧ a 5 = v ∧ a 6 = vi i ∧ O B0 H' v (ints (negI l i)) ∧ Old B0 H0 H' ∧ WF H') _ ?_ ?_ hk ⟨h1, h5, h6, by rw [negI_0]; exact ho, old, hw⟩
  · intro i a H' hi ⟨h1, h5, h6, ho, old, hw⟩
    left
    rw [show signedB = atC [1, 1, 0, 1, 0, 0] ((Try.f101.body).getD .skip) from rfl]
    have hlen := negI_len l i
    have hx := hb _ (getD_mem hi)
    have e1 := negI_get hi
    have e2 : IntKind.i64.wrap (0 - l.getD i 0) = - l.getD i 0 := by rw [wr64 (by omega) (by omega)]; omega
    obtain ⟨H2, es, o2, old2, wf2⟩ := ho.setI hw (i := i) (by omega) (- l.getD i 0)
    have e3 : IntKind.i64.wrap ((i : Int) + 1) = ((i + 1 : Nat) : Int) := by rw [wr64 (by omega) (by omega)]; omega
    have hr := ho.R
    have hlt : (i : Int) < l.length := by omega
    simp (disch := omega) only [Try.f101, Option.getD_some, atC, es_seq, es_region, es_cond, es_block, es_skip, ops_nil, ops_cons, ops_consG, st_move, st_assign, sy_pick, pickS_true, sy_len uL, sy_addr eL, sy_load aI, sy_store zI, sy_bin, sy_neg, binS_lss, binS_add, bindO_some, bindF_some, bindX_normal, blkX_normal, condX_true, iteB_true, ev_tmp, ev_const, putA, upd_at, Option.map_some, ↓reduceIte, Nat.reduceEqDiff, Int.toNat_natCast, decide_true, yieldO_eq, yO, yV_bool, List.getElem?_cons_zero, List.getElem?_cons_succ, beq_self_eq_true, ↓bindO_some, ↓bindF_some, ↓bindX_normal, ↓condX_true, ↓iteB_true, h1, h5, h6, hr.lenI, hlen, hlt, hr.addrI, hr.loadI, e1, e2, es, e3]
    exact ⟨_, _, rfl, by simp only [upd_get, ↓reduceIte, Nat.reduceEqDiff, h1], by simp only [upd_get, ↓reduceIte, Nat.reduceEqDiff, h5], by simp only [upd_get, ↓reduceIte], by rw [← negI_set hi]; exact o2, old.trans old2, wf2⟩
  · intro a H' ⟨h1, h5, h6, ho, old, hw⟩
    rw [show signedB = atC [1, 1, 0, 1, 0, 0] ((Try.f101.body).getD .skip) from rfl]
    have hlen := negI_len l l.length
    have hr := ho.R
    simp (disch := omega) only [Try.f101, Option.getD_some, atC, es_seq, es_region, es_cond, es_exit, ops_nil, ops_cons, ops_consG, st_move, sy_pick, pickS_false, sy_len uL, sy_bin, binS_lss, bindO_some, bindF_some, bindX_normal, bindX_exit, condX_false, iteB_false, ev_tmp, ev_const, putA, upd_at, Option.map_some, ↓reduceIte, Nat.reduceEqDiff, decide_false, yieldO_eq, yO, yV_bool, some_true, List.getElem?_cons_zero, List.getElem?_cons_succ, ↓bindO_some, ↓bindF_some, ↓bindX_normal, ↓bindX_exit, ↓condX_false, ↓iteB_false, h5, h6, hr.lenI, hlen, Int.lt_irrefl]
    exact ⟨_, _, _, rfl, by simp, rfl, by rw [← negI_all]; exact ho, old, hw, by simp only [upd_get, ↓reduceIte, Nat.reduceEqDiff, h5]⟩
theorem signed_loop0 {v : Value} (call : CallF) (m nt : Nat) {a : Fr} {H : Heap} {k : Nat} (hk : 0 < k) {l : List Int} (ho : R H v (ints l)) (hl : l.length ≤ 1000) (h1 : a 1 = .bool false) (h5 : a 5 = v) (h6 : a 6 = vi (0 : Nat)) :
    ∃ x a' H', loopN (evS Try.prog call m nt none signedB) k a H = some (x, a', H') ∧ x = .exit 0 ∧ H' = H ∧ a' 5 = v := by
  refine loop_up 0 (fun i a H' => a 1 = .bool false ∧ a 5 = v ∧ a 6 = vi (0 : Nat) ∧ H' = H) _ (fun i a H' hi => by omega) ?_ hk ⟨h1, h5, h6, rfl⟩
  intro a H' ⟨h1, h5, h6, hH⟩
  subst hH
  rw [show signedB = atC [1, 1, 0, 1, 0, 0] ((Try.f101.body).getD .skip) from rfl]
  by_cases hz : ((0 : Nat) : Int) < l.length
  · simp (disch := omega) only [Try.f101, Option.getD_some, atC, es_seq, es_region, es_cond, es_exit, ops_nil, ops_cons, ops_consG, st_move, sy_pick, pickS_true, sy_len uL, sy_bin, binS_lss, bindO_some, bindF_some, bindX_normal, bindX_exit, condX_false, iteB_true, ev_tmp, putA, upd_at, Option.map_some, ↓reduceIte, Nat.reduceEqDiff, decide_true, yieldO_eq, yO, yV_bool, List.getElem?_cons_zero, List.getElem?_cons_succ, beq_self_eq_true, ↓bindO_some, ↓bindF_some, ↓bindX_normal, ↓bindX_exit, ↓condX_false, ↓iteB_true, h1, h5, h6, ho.lenI, hz]
    exact ⟨_, _, _, rfl, by simp, rfl, rfl, by simp only [upd_get, ↓reduceIte, Nat.reduceEqDiff, h5]⟩
  · simp (disch := omega) only [Try.f101, Option.getD_some, atC, es_seq, es_region, es_cond, es_exit, ops_nil, ops_cons, ops_consG, st_move, sy_pick, pickS_false, sy_len uL, sy_bin, binS_lss, bindO_some, bindF_some, bindX_normal, bindX_exit, condX_false, iteB_false, ev_tmp, ev_const, putA, upd_at, Option.map_some, ↓reduceIte, Nat.reduceEqDiff, decide_false, yieldO_eq, yO, yV_bool, some_true, List.getElem?_cons_zero, List.getElem?_cons_succ, ↓bindO_some, ↓bindF_some, ↓bindX_normal, ↓bindX_exit, ↓condX_false, ↓iteB_false, h5, h6, ho.lenI, hz]
    exact ⟨_, _, _, rfl, by simp, rfl, rfl, by simp only [upd_get, ↓reduceIte, Nat.reduceEqDiff, h5]⟩
theorem signed_run {H : Heap} {v : Value} {l : List Int} (hw : WF H) (hv : R H v (ints l)) (hl : l.length ≤ 1000) (hb : ∀ x ∈ l, -4000000000000000000 ≤ x ∧ x ≤ 4000000000000000000) (neg : Bool) (n : Nat) (hn : 2001 ≤ n) :
    OneL H (evB Try.prog noC n (.func (.func 101) #[] #[]) [v, .bool neg] H) (bif neg then (trimL l).map (- ·) else trimL l) := by
  refine run_of (F := 2000) (Q := fun x => OneL H x (bif neg then (trimL l).map (- ·) else trimL l)) (fun n hn => ?_) n hn
  rw [body_runS Try.func101 rfl (ok_fn (by rfl) Try.func101 rfl) (Nat.le_of_ble_eq_true rfl) (D := D0) (by kernel_rfl)]
  obtain ⟨v1, H1, e1, o1, old1, wf1⟩ := trim_run hw hv hl n (by omega)
  have hl1 := trimL_len l
  have eb : signedB = atC [1, 1, 0, 1, 0, 0] ((Try.f101.body).getD .skip) := rfl
  cases neg with
  | true =>
    have key := fun (A : Fr) => signed_loop (evB Try.prog noC n) n Try.f101.ntmps (a := A) (k := n) (by omega) (by omega) (fun x hx => hb x (trimL_mem hx)) o1 old1 wf1
    rw [eb] at key
    simp only [Try.f101, Option.getD_some, atC] at key
    simp (disch := omega) only [Try.f101, es_seq, es_region, es_block, es_loop, es_ret, ops_nil, ops_cons, st_move, st_assign, st_fun, bindO_some, bindF_some, bindX_normal, ev_tmp, ev_const, ev_func, putA, upd_at, ↓reduceIte, Nat.reduceEqDiff, frOf_0, List.map_cons, List.map_nil, ↓bindO_some, ↓bindF_some, ↓bindX_normal, e1]
    generalize hA : upd _ 6 _ = A
    obtain ⟨x, a', H', e, hx, o2, old2, wf2, h5⟩ := key A (by subst hA; rfl) (by subst hA; rfl) (by subst hA; rfl)
    subst hx
    rw [e]
    simp (disch := omega) only [bindX_normal, blkX_exit, upd_at, Option.map_some, ↓reduceIte, ↓bindX_normal, fin_r, res_nil, res_tmp, pack_1, h5, o2.R.scal]
    exact ⟨_, _, rfl, o2, old2, wf2⟩
  | false =>
    have key := fun (A : Fr) => signed_loop0 (evB Try.prog noC n) n Try.f101.ntmps (a := A) (k := n) (by omega) o1.R (by omega)
    rw [eb] at key
    simp only [Try.f101, Option.getD_some, atC] at key
    simp (disch := omega) only [Try.f101, es_seq, es_region, es_block, es_loop, es_ret, ops_nil, ops_cons, st_move, st_assign, st_fun, bindO_some, bindF_some, bindX_normal, ev_tmp, ev_const, ev_func, putA, upd_at, ↓reduceIte, Nat.reduceEqDiff, frOf_0, List.map_cons, List.map_nil, ↓bindO_some, ↓bindF_some, ↓bindX_normal, e1]
    generalize hA : upd _ 6 _ = A
    obtain ⟨x, a', H', e, hx, hH, h5⟩ := key A (by subst hA; rfl) (by subst hA; rfl) (by subst hA; rfl)
    subst hx
    subst hH
    rw [e]
    simp (disch := omega) only [bindX_normal, blkX_exit, upd_at, Option.map_some, ↓reduceIte, ↓bindX_normal, fin_r, res_nil, res_tmp, pack_1, h5, o1.R.scal]
    exact ⟨_, _, rfl, o1, old1, wf1⟩
end Go.Proofs.Ytmmgdgmjkhcfaaa
namespace Go.Proofs.Ytmmgdgmjkhcfaaa
open Go Go.Abs Go.Num
set_option maxRecDepth 10000
attribute [local congr] bindO_congr bindF_congr bindX_congr condX_congr iteB_congr binS_congr pickS_congr eqB_congr nilS_congr clsW_congr maxS_congr minS_congr
def OneT (H : Heap) (r : Option (Value × Heap)) (f : Value → Value) (l : List Int) : Prop := ∃ v H', r = some (f v, H') ∧ O H.length H' v (ints l) ∧ Old H.length H H' ∧ WF H'
theorem within_runS (x lo hi : Int) (H : Heap) (n : Nat) (hn : 1 ≤ n) : evB Try.prog noC n (.func (.func 36) #[] #[]) [vi x, vi lo, vi hi] H = some (.bool (decide (lo ≤ x) && decide (x ≤ hi)), H) := by
  refine run_of (F := 0) (Q := fun r => r = some (.bool (decide (lo ≤ x) && decide (x ≤ hi)), H)) (fun n hn => ?_) n hn
  rw [body_runS Try.func36 rfl (ok_fn (by rfl) Try.func36 rfl) (Nat.le_of_ble_eq_true rfl) (D := D0) (by kernel_rfl)]
  by_cases h1 : lo ≤ x
  all_goals by_cases h2 : x ≤ hi
  all_goals simp (disch := omega) only [Try.f36, es_seq, es_region, es_ret, ops_nil, ops_cons, ops_consG, st_move, st_assign, sy_pick, pickS_true, pickS_false, sy_bin, binS_leq, binS_geq, bindO_some, bindF_some, bindX_normal, iteB_true, iteB_false, ev_tmp, ev_const, putA, upd_at, Option.map_some, ↓reduceIte, Nat.reduceEqDiff, frOf_0, frOf_1, frOf_2, decide_true, decide_false, yieldO_eq, yO, yV_bool, some_true, List.getElem?_cons_zero, List.getElem?_cons_succ, beq_self_eq_true, ↓bindO_some, ↓bindF_some, ↓bindX_normal, ↓iteB_true, ↓iteB_false, fin_r, res_nil, res_tmp, pack_1, scal_bool, h1, h2, Bool.and_self, Bool.and_false, Bool.and_true]
noncomputable def intA : Code := atC [1, 1, 0, 1, 0, 0] ((Try.f19.body).getD .skip)
theorem take_eq_succ {l m : List Int} {i : Nat} (h1 : i < l.length) (h2 : i < m.length) : l.take (i + 1) = m.take (i + 1) ↔ l.take i = m.take i ∧ l.getD i 0 = m.getD i 0 := by
  rw [take_snoc' h1, take_snoc' h2]
  constructor
  · intro h
    have := List.append_inj h (by rw [List.length_take, List.length_take]; omega)
    exact ⟨this.1, by simpa using this.2⟩
  · intro ⟨h3, h4⟩; rw [h3, h4]
theorem ints_run {H : Heap} {va vb : Value} {l m : List Int} (ha : R H va (ints l)) (hb : R H vb (ints m)) (ll : l.length ≤ 10000) (lm : m.length ≤ 10000) (n : Nat) (hn : 10002 ≤ n) :
    evB Try.prog noC n (.func (.func 19) #[] #[]) [va, vb] H = some (.bool (decide (l = m)), H) := by
  refine run_of (F := 10001) (Q := fun r => r = some (.bool (decide (l = m)), H)) (fun n hn => ?_) n hn
  rw [body_runS Try.func19 rfl (ok_fn (by rfl) Try.func19 rfl) (Nat.le_of_ble_eq_true rfl) (D := D0) (by kernel_rfl)]
  by_cases hl : l.length = m.length
  · have c1 : (l.length : Int) = (m.length : Int) := by omega
    have key : ∀ A : Fr, A 0 = va → A 1 = vb → A 5 = vi (0 : Nat) → ∃ r a' H', loopN (evS Try.prog (evB Try.prog noC n) n Try.f19.ntmps none intA) n A H = some (r, a', H') ∧ H' = H ∧ ((r = .exit 0 ∧ l = m) ∨ (r = .ret ∧ a' 4 = .bool false ∧ l ≠ m)) := by
      intro A h0 h1 h5
      refine loop_up l.length (fun i a H' => H' = H ∧ a 0 = va ∧ a 1 = vb ∧ a 5 = vi i ∧ l.take i = m.take i) _ ?_ ?_ (by omega) ⟨rfl, h0, h1, h5, rfl⟩
      · intro i a H' hi ⟨hH, h0, h1, h5, ht⟩
        subst hH
        rw [show intA = atC [1, 1, 0, 1, 0, 0] ((Try.f19.body).getD .skip) from rfl]
        have hlt : (i : Int) < l.length := by omega
        have e1 : IntKind.i64.wrap ((i : Int) + 1) = ((i + 1 : Nat) : Int) := by rw [wr64 (by omega) (by omega)]; omega
        by_cases he : l.getD i 0 = m.getD i 0
        · left
          simp (disch := omega) only [Try.f19, Option.getD_some, atC, es_seq, es_region, es_draw, d0, es_cond, es_block, es_skip, ops_nil, ops_cons, opsV_nil, opsV_cons, st_move, st_assign, sy_len uL, sy_addr eL, sy_load aI, sy_bin, binS_lss, binS_neq, binS_add, bindO_some, bindF_some, bindX_normal, blkX_normal, condX_true, condX_false, iteB_true, iteB_false, ev_tmp, ev_const, putA, upd_at, Option.map_some, ↓reduceIte, Nat.reduceEqDiff, Int.toNat_natCast, decide_true, Bool.not_true, ↓bindO_some, ↓bindF_some, ↓bindX_normal, ↓condX_true, ↓condX_false, ↓iteB_true, ↓iteB_false, reflV_load, reflV_move, reflV_bin, reflV_addr, vEq_vi, h0, h1, h5, ha.lenI, hlt, ha.addrI, ha.loadI, hb.addrI, hb.loadI, he, e1]
          exact ⟨_, _, rfl, rfl, h0, h1, rfl, (take_eq_succ hi (by omega)).2 ⟨ht, he⟩⟩
        · right
          simp (disch := omega) only [Try.f19, Option.getD_some, atC, es_seq, es_region, es_draw, d0, es_cond, es_block, es_skip, es_ret, ops_nil, ops_cons, opsV_nil, opsV_cons, st_move, st_assign, sy_len uL, sy_addr eL, sy_load aI, sy_bin, binS_lss, binS_neq, bindO_some, bindF_some, bindX_normal, bindX_ret, blkX_ret, condX_true, iteB_true, iteB_false, ev_tmp, ev_const, putA, upd_at, Option.map_some, ↓reduceIte, Nat.reduceEqDiff, Int.toNat_natCast, decide_true, decide_false, Bool.not_false, ↓bindO_some, ↓bindF_some, ↓bindX_normal, ↓bindX_ret, ↓condX_true, ↓iteB_true, ↓iteB_false, reflV_load, reflV_move, reflV_bin, reflV_addr, vEq_vi, h0, h1, h5, ha.lenI, hlt, ha.addrI, ha.loadI, hb.addrI, hb.loadI, he]
          refine ⟨_, _, _, rfl, by simp, rfl, .inr ⟨rfl, rfl, fun h => he (by rw [h])⟩⟩
      · intro a H' ⟨hH, h0, h1, h5, ht⟩
        subst hH
        rw [show intA = atC [1, 1, 0, 1, 0, 0] ((Try.f19.body).getD .skip) from rfl]
        simp (disch := omega) only [Try.f19, Option.getD_some, atC, es_seq, es_region, es_cond, es_exit, ops_nil, ops_cons, st_move, sy_len uL, sy_bin, binS_lss, bindO_some, bindF_some, bindX_normal, bindX_exit, condX_false, ev_tmp, putA, upd_at, Option.map_some, ↓reduceIte, Nat.reduceEqDiff, decide_false, ↓bindO_some, ↓bindF_some, ↓bindX_normal, ↓bindX_exit, ↓condX_false, h0, h5, ha.lenI, Int.lt_irrefl]
        rw [List.take_length, hl, List.take_length] at ht
        exact ⟨_, _, _, rfl, by simp, rfl, .inl ⟨rfl, ht⟩⟩
    rw [show intA = atC [1, 1, 0, 1, 0, 0] ((Try.f19.body).getD .skip) from rfl] at key
    simp only [Try.f19, Option.getD_some, atC] at key
    simp (disch := omega) only [Try.f19, es_seq, es_region, es_cond, es_block, es_loop, es_skip, es_ret, ops_nil, ops_cons, st_move, st_assign, sy_len uL, sy_bin, binS_neq, bindO_some, bindF_some, bindX_normal, condX_false, ev_tmp, ev_const, putA, upd_at, Option.map_some, ↓reduceIte, Nat.reduceEqDiff, frOf_0, frOf_1, decide_true, Bool.not_true, ↓bindO_some, ↓bindF_some, ↓bindX_normal, ↓condX_false, ha.lenI, hb.lenI, c1]
    generalize hA : upd _ 5 _ = A
    obtain ⟨r, a', H', e, hH, h⟩ := key A (by subst hA; rfl) (by subst hA; rfl) (by subst hA; rfl)
    subst hH
    rw [e]
    rcases h with ⟨rfl, rfl⟩ | ⟨rfl, h4, hne⟩
    · simp (disch := omega) only [bindX_normal, blkX_exit, upd_at, Option.map_some, ↓reduceIte, decide_true, ↓bindX_normal, fin_r, res_nil, res_tmp, pack_1, scal_bool]
    · rw [decide_eq_false hne]
      simp (disch := omega) only [bindX_ret, blkX_ret, Option.map_some, ↓bindX_ret, fin_r, res_nil, res_tmp, pack_1, scal_bool, h4]
  · have c1 : ¬ (l.length : Int) = (m.length : Int) := by omega
    rw [decide_eq_false (fun h => hl (by rw [h]))]
    simp (disch := omega) only [Try.f19, es_seq, es_region, es_cond, es_ret, ops_nil, ops_cons, st_move, st_assign, sy_len uL, sy_bin, binS_neq, bindO_some, bindF_some, bindX_normal, bindX_ret, condX_true, ev_tmp, ev_const, putA, upd_at, Option.map_some, ↓reduceIte, Nat.reduceEqDiff, frOf_0, frOf_1, decide_false, Bool.not_false, ↓bindO_some, ↓bindF_some, ↓bindX_normal, ↓bindX_ret, ↓condX_true, fin_r, res_nil, res_tmp, pack_1, scal_bool, ha.lenI, hb.lenI, c1]
theorem uLL : Try.prog.underlying 53 = some (.slice 22) := by kernel_rfl
theorem eLL : sliceElem Try.prog 53 = some (22, 1) := by kernel_rfl
theorem oLL : zeros Try.prog 22 1 1 = some [.slice none 0 0] := by kernel_rfl
theorem pLL : ((bytesT Try.prog 22).isSome && decide ((bytesT Try.prog 22).getD 0 ≤ maxA) && (zeros Try.prog 22 1 1).isSome) = true := by kernel_rfl
end Go.Proofs.Ytmmgdgmjkhcfaaa
namespace Go.Proofs.Ytmmgdgmjkhcfaaa
open Go Go.Abs Go.Num
set_option maxRecDepth 10000
attribute [local congr] bindO_congr bindF_congr bindX_congr condX_congr iteB_congr binS_congr pickS_congr eqB_congr nilS_congr clsW_congr maxS_congr minS_congr
def rowB : Nat → List (List Nat) → List Blk
  | _, [] => []
  | j, l :: ls => .cells j true (l.map posV) :: rowB (j + 1) ls
theorem ren_rows (d : Nat) : ∀ (ls : List (List Nat)) (j : Nat), mapO (renS fun b => some (b + d)) (rowsV j ls) = some (rowsV (j + d) ls) := by
  intro ls
  induction ls with
  | nil => intro j; rfl
  | cons l ls ih =>
    intro j
    rw [rowsV, mapO, ih (j + 1), rowsV]
    rw [show j + 1 + d = j + d + 1 from by omega]
    rfl
theorem ren_ints (d : Nat) : ∀ l : List Nat, mapO (renS fun b => some (b + d)) (l.map posV) = some (l.map posV) := by
  intro l
  induction l with
  | nil => rfl
  | cons x l ih => rw [List.map_cons, mapO, ih]; rfl
theorem mk_rows (d : Nat) : ∀ (ls : List (List Nat)) (j : Nat), mkBlks d j (ls.map fun l => l.map posV) = some (rowB j ls) := by
  intro ls
  induction ls with
  | nil => intro j; rfl
  | cons l ls ih => intro j; rw [List.map_cons, mkBlks, ih (j + 1), ren_ints, rowB]
theorem mk_llB (d j : Nat) (ls : List (List Nat)) : mkBlks d j (llB ls) = some (.cells j true (rowsV (1 + d) ls) :: rowB (j + 1) ls) := by
  rw [llB, mkBlks, mk_rows, ren_rows]
theorem rowsV_len : ∀ (ls : List (List Nat)) (j : Nat), (rowsV j ls).length = ls.length := by
  intro ls
  induction ls with
  | nil => intro j; rfl
  | cons l ls ih => intro j; rw [rowsV, List.length_cons, ih, List.length_cons]
theorem rowB_len : ∀ (ls : List (List Nat)) (j : Nat), (rowB j ls).length = ls.length := by
  intro ls
  induction ls with
  | nil => intro j; rfl
  | cons l ls ih => intro j; rw [rowB, List.length_cons, ih, List.length_cons]
theorem rowsV_get : ∀ (ls : List (List Nat)) (j i : Nat) (l : List Nat), ls[i]? = some l → (rowsV j ls)[i]? = some (sliceA (j + i) 0 l.length 1) := by
  intro ls
  induction ls with
  | nil => intro j i l h; simp at h
  | cons l0 ls ih =>
    intro j i l h
    cases i with
    | zero => simp at h; subst h; rfl
    | succ i =>
      rw [rowsV, List.getElem?_cons_succ, ih (j + 1) i l (by simpa using h)]
      rw [show j + 1 + i = j + (i + 1) from by omega]
theorem rowB_get : ∀ (ls : List (List Nat)) (j i : Nat) (l : List Nat), ls[i]? = some l → (rowB j ls)[i]? = some (.cells (j + i) true (l.map posV)) := by
  intro ls
  induction ls with
  | nil => intro j i l h; simp at h
  | cons l0 ls ih =>
    intro j i l h
    cases i with
    | zero => simp at h; subst h; rfl
    | succ i =>
      rw [rowB, List.getElem?_cons_succ, ih (j + 1) i l (by simpa using h)]
      rw [show j + 1 + i = j + (i + 1) from by omega]
theorem posV_ints (l : List Nat) : l.map posV = ints (l.map Int.ofNat) := by unfold ints; rw [List.map_map]; rfl
def natLL (ls : List (List Nat)) : List (List Int) := ls.map fun l => l.map Int.ofNat
theorem llB_RL {H : Heap} (hw : WF H) (ls : List (List Nat)) : RL (H ++ (.cells H.length true (rowsV (1 + H.length) ls) :: rowB (H.length + 1) ls)) (sliceA H.length 0 ls.length 1) (natLL ls) ∧ Old H.length H (H ++ (.cells H.length true (rowsV (1 + H.length) ls) :: rowB (H.length + 1) ls)) ∧ WF (H ++ (.cells H.length true (rowsV (1 + H.length) ls) :: rowB (H.length + 1) ls)) := by
  have hrow : ∀ (i : Nat) (l : List Nat), ls[i]? = some l → (H ++ (Blk.cells H.length true (rowsV (1 + H.length) ls) :: rowB (H.length + 1) ls))[1 + H.length + i]? = some (.cells (H.length + 1 + i) true (ints (l.map Int.ofNat))) := by
    intro i l h
    rw [List.getElem?_append_right (by omega), show 1 + H.length + i - H.length = i + 1 from by omega, List.getElem?_cons_succ, rowB_get _ _ _ _ h, posV_ints]
  refine ⟨.inr ⟨H.length, H.length, true, (rowsV (1 + H.length) ls).map fun v => [v], ?_, ?_, ?_, ?_, ?_⟩, Old.app _ _, ?_⟩
  · rw [List.length_map, rowsV_len]
  · rw [List.getElem?_append_right (Nat.le_refl _), Nat.sub_self, List.getElem?_cons_zero]
    congr 2
    induction rowsV (1 + H.length) ls with
    | nil => rfl
    | cons v vs ih => rw [List.map_cons, List.flatten_cons, ← ih]; rfl
  · intro c hc
    obtain ⟨v, _, rfl⟩ := List.mem_map.1 hc
    rfl
  · rw [List.length_map, rowsV_len]; unfold natLL; rw [List.length_map]
  · intro i c a hc ha
    unfold natLL at ha
    rw [List.getElem?_map] at ha hc
    cases hl : ls[i]? with
    | none => rw [hl] at ha; cases ha
    | some l =>
      rw [hl] at ha
      injection ha with ha
      subst ha
      rw [rowsV_get _ _ _ _ hl] at hc
      injection hc with hc
      subst hc
      refine ⟨_, rfl, .inr (.inr ⟨1 + H.length + i, 0, H.length + 1 + i, true, _, ?_, hrow i l hl, by simp, by simp⟩)⟩
      rw [ints_len, List.length_map]
  · intro b f o cs hb
    by_cases hlt : b < H.length
    · rw [List.getElem?_append_left hlt] at hb; exact hw b f o cs hb
    · rw [List.getElem?_append_right (by omega)] at hb
      cases hk : b - H.length with
      | zero => rw [hk] at hb; injection hb with hb; injection hb with hb; omega
      | succ k =>
        rw [hk, List.getElem?_cons_succ] at hb
        cases hl : ls[k]? with
        | none =>
          have : (rowB (H.length + 1) ls)[k]? = none := by rw [List.getElem?_eq_none_iff, rowB_len]; exact List.getElem?_eq_none_iff.1 hl
          rw [this] at hb; cases hb
        | some l =>
          rw [rowB_get _ _ _ _ hl] at hb
          injection hb with hb; injection hb with hb
          omega
theorem i_of {z : Int} (h : 1 ≤ z) : Ytmmgdgmjkhcfaaa.i z.toNat = .imm (.int .i64 z) := by
  show Arg.imm (.int .i64 (Int.ofNat z.toNat)) = _
  rw [show Int.ofNat z.toNat = z from by show ((z.toNat : Nat) : Int) = z; omega]
theorem pa_line {f : Nat} {g : Nat → Res} {l0 l1 : List Line} (e0 : l0 = (List.range 8).map fun k => ([Ytmmgdgmjkhcfaaa.i (k + 1)], g (k + 1))) (e1 : l1 = (List.range 4).map fun k => ([Ytmmgdgmjkhcfaaa.i (k + 9)], g (k + 9))) (h0 : ∀ x ∈ l0, LineOK Try.prog f x.1 x.2) (h1 : ∀ x ∈ l1, LineOK Try.prog f x.1 x.2) {z : Int} (hz : 1 ≤ z ∧ z ≤ 12) : LineOK Try.prog f [.imm (.int .i64 z)] (g z.toNat) := by
  rw [← i_of hz.1]
  obtain ⟨k, hk⟩ : ∃ k, z.toNat = k + 1 := ⟨z.toNat - 1, by omega⟩
  rw [hk]
  by_cases h8 : k < 8
  · exact h0 ([Ytmmgdgmjkhcfaaa.i (k + 1)], g (k + 1)) (by rw [e0]; exact List.mem_map.2 ⟨k, List.mem_range.2 h8, rfl⟩)
  · obtain ⟨m, rfl⟩ : ∃ m, k = m + 8 := ⟨k - 8, by omega⟩
    exact h1 ([Ytmmgdgmjkhcfaaa.i (m + 9)], g (m + 9)) (by rw [e1]; exact List.mem_map.2 ⟨m, List.mem_range.2 (by omega), rfl⟩)
theorem tab_none {sp : Nat → List Arg → Option Res} {f : Nat} (h : ∀ xs, sp f xs = none) (args : List Value) (H : Heap) : tabC sp (.func (.func f) #[] #[]) args H = none := by
  unfold tabC
  simp only
  split
  · split
    · rename_i xs _
      rw [h xs]
    · rfl
  · rfl
theorem tab_int {sp : Nat → List Arg → Option Res} {f : Nat} {z : Int} {v : Value} {bs : List (List Value)} (h : sp f [.imm (.int .i64 z)] = some (v, bs)) {H : Heap} {v' : Value} {l : List Blk} (hv : renV (fun b => some (b + H.length)) v = some v') (hb : mkBlks H.length H.length bs = some l) : tabC sp (.func (.func f) #[] #[]) [vi z] H = some (v', H ++ l) := by
  have e : mapO (readArg H) [vi z] = some [.imm (.int .i64 z)] := rfl
  unfold tabC
  simp only
  rw [e]
  simp only
  rw [h]
  simp only
  rw [hv, hb]
  rfl
end Go.Proofs.Ytmmgdgmjkhcfaaa
namespace Go.Proofs.Ytmmgdgmjkhcfaaa
open Go Go.Abs Go.Num
set_option maxRecDepth 10000
attribute [local congr] bindO_congr bindF_congr bindX_congr condX_congr iteB_congr binS_congr pickS_congr eqB_congr nilS_congr clsW_congr maxS_congr minS_congr
def Sm (l : List Int) : Prop := l.length ≤ 1000 ∧ ∀ x ∈ l, -1000000 ≤ x ∧ x ≤ 1000000
theorem Sm.getD {l : List Int} (h : Sm l) (i : Nat) : -1000000 ≤ l.getD i 0 ∧ l.getD i 0 ≤ 1000000 := by
  by_cases hi : i < l.length
  · exact h.2 _ (getD_mem hi)
  · rw [List.getD_eq_getElem?_getD, List.getElem?_eq_none (by omega)]; simp
theorem Sm.sum {l : List Int} (h : Sm l) (i : Nat) : -1000000000 ≤ (l.take i).sum ∧ (l.take i).sum ≤ 1000000000 := by
  have := sum_bd (b := 1000000) (by omega) fun x (hx : x ∈ l.take i) => h.2 x (List.mem_of_mem_take hx)
  have h2 : (l.take i).length ≤ 1000 := Nat.le_trans (List.length_take_le' ..) h.1
  omega
noncomputable def cszA : Code := atC [1, 1, 0, 1, 0, 0] ((Try.f60.body).getD .skip)
theorem csize_run {H : Heap} {v : Value} {l : List Int} (hv : R H v (ints l)) (hs : Sm l) (n : Nat) (hn : 1010 ≤ n) : evB Try.prog noC n (.func (.func 60) #[] #[]) [v] H = some (vi l.sum, H) := by
  refine run_of (F := 1009) (Q := fun r => r = some (vi l.sum, H)) (fun n hn => ?_) n hn
  rw [body_runS Try.func60 rfl (ok_fn (by rfl) Try.func60 rfl) (Nat.le_of_ble_eq_true rfl) (D := D0) (by kernel_rfl)]
  have hl := hs.1
  have key : ∀ A : Fr, A 3 = vi 0 → A 6 = v → A 7 = vi l.length → A 8 = vi (0 : Nat) → ∃ r a' H', loopN (evS Try.prog (evB Try.prog noC n) n Try.f60.ntmps none cszA) n A H = some (r, a', H') ∧ H' = H ∧ r = .exit 0 ∧ a' 3 = vi l.sum := by
    intro A h3 h6 h7 h8
    refine loop_up l.length (fun i a H' => H' = H ∧ a 3 = vi (l.take i).sum ∧ a 6 = v ∧ a 7 = vi l.length ∧ a 8 = vi i) _ ?_ ?_ (by omega) ⟨rfl, by rw [h3]; rfl, h6, h7, h8⟩
    · intro i a H' hi ⟨hH, h3, h6, h7, h8⟩
      subst hH
      left
      rw [show cszA = atC [1, 1, 0, 1, 0, 0] ((Try.f60.body).getD .skip) from rfl]
      have hlt : (i : Int) < l.length := by omega
      have e1 : IntKind.i64.wrap ((i : Int) + 1) = ((i + 1 : Nat) : Int) := by rw [wr64 (by omega) (by omega)]; omega
      have b1 := hs.sum i
      have b2 := hs.getD i
      have e2 : IntKind.i64.wrap ((l.take i).sum + l.getD i 0) = (l.take (i + 1)).sum := by rw [sum_take_succ hi]; exact wr64 (by omega) (by omega)
      simp (disch := omega) only [Try.f60, Option.getD_some, atC, es_seq, es_region, es_cond, es_block, es_skip, ops_nil, ops_cons, st_move, st_assign, sy_addr eL, sy_load aI, sy_bin, binS_lss, binS_add, bindO_some, bindF_some, bindX_normal, blkX_normal, condX_true, ev_tmp, ev_const, putA, upd_at, Option.map_some, ↓reduceIte, Nat.reduceEqDiff, Int.toNat_natCast, decide_true, ↓bindO_some, ↓bindF_some, ↓bindX_normal, ↓condX_true, h3, h6, h7, h8, hlt, hv.addrI, hv.loadI, e1, e2]
      exact ⟨_, _, rfl, rfl, rfl, h6, h7, rfl⟩
    · intro a H' ⟨hH, h3, h6, h7, h8⟩
      subst hH
      rw [show cszA = atC [1, 1, 0, 1, 0, 0] ((Try.f60.body).getD .skip) from rfl]
      simp (disch := omega) only [Try.f60, Option.getD_some, atC, es_seq, es_region, es_cond, es_exit, ops_nil, ops_cons, sy_bin, binS_lss, bindO_some, bindF_some, bindX_normal, bindX_exit, condX_false, ev_tmp, putA, upd_at, ↓reduceIte, decide_false, ↓bindO_some, ↓bindF_some, ↓bindX_normal, ↓bindX_exit, ↓condX_false, h7, h8, Int.lt_irrefl]
      rw [List.take_length] at h3
      exact ⟨_, _, _, rfl, by simp, rfl, rfl, h3⟩
  rw [show cszA = atC [1, 1, 0, 1, 0, 0] ((Try.f60.body).getD .skip) from rfl] at key
  simp only [Try.f60, Option.getD_some, atC] at key
  simp (disch := omega) only [Try.f60, es_seq, es_region, es_block, es_loop, es_ret, ops_nil, ops_cons, st_move, st_assign, sy_len uL, bindO_some, bindF_some, bindX_normal, ev_tmp, ev_const, putA, upd_at, Option.map_some, ↓reduceIte, Nat.reduceEqDiff, frOf_0, ↓bindO_some, ↓bindF_some, ↓bindX_normal, hv.lenI]
  generalize hA : upd _ 8 _ = A
  obtain ⟨r, a', H', e, hH, hr, h3⟩ := key A (by subst hA; rfl) (by subst hA; rfl) (by subst hA; rfl) (by subst hA; rfl)
  subst hr
  rw [e]
  subst hH
  simp (disch := omega) only [bindX_normal, blkX_exit, upd_at, Option.map_some, ↓reduceIte, ↓bindX_normal, fin_r, res_nil, res_tmp, pack_1, scal_vi, h3]
theorem part_sm {l : List Int} (h1 : l.length ≤ 1000) (h : chkGo none l = none) : Sm l := ⟨h1, fun x hx => by have := chkGo_none h x hx; omega⟩
noncomputable def cckA : Code := atC [1, 1, 0, 1, 0, 0] ((Try.f44.body).getD .skip)
theorem ccheck_run {H : Heap} {v : Value} {l : List Int} (hv : R H v (ints l)) (hl : l.length ≤ 1000) (n : Nat) (hn : 1011 ≤ n) : evB Try.prog noC n (.func (.func 44) #[] #[]) [v] H = some (vi (chk l), H) := by
  refine run_of (F := 1010) (Q := fun r => r = some (vi (chk l), H)) (fun n hn => ?_) n hn
  rw [body_runS Try.func44 rfl (ok_fn (by rfl) Try.func44 rfl) (Nat.le_of_ble_eq_true rfl) (D := D0) (by kernel_rfl)]
  by_cases hbig : 20 < l.length
  · have c1 : (20 : Int) < (l.length : Int) := by omega
    rw [show chk l = 8 from if_pos hbig]
    simp (disch := omega) only [Try.f44, es_seq, es_region, es_cond, es_ret, ops_nil, ops_cons, st_move, st_assign, sy_len uL, sy_bin, binS_gtr, bindO_some, bindF_some, bindX_normal, bindX_ret, condX_true, ev_tmp, ev_const, putA, upd_at, Option.map_some, ↓reduceIte, Nat.reduceEqDiff, frOf_0, decide_true, ↓bindO_some, ↓bindF_some, ↓bindX_normal, ↓bindX_ret, ↓condX_true, fin_r, res_nil, res_tmp, pack_1, scal_vi, hv.lenI, c1]
  · have c1 : ¬ (20 : Int) < (l.length : Int) := by omega
    rw [show chk l = _ from if_neg hbig]
    have key : ∀ A : Fr, A 0 = v → A 8 = v → A 9 = vi l.length → A 10 = vi (0 : Nat) → ∃ r a' H', loopN (evS Try.prog (evB Try.prog noC n) n Try.f44.ntmps none cckA) n A H = some (r, a', H') ∧ H' = H ∧ ((r = .exit 0 ∧ a' 0 = v ∧ chkGo none l = none) ∨ ∃ e, r = .ret ∧ a' 2 = vi e ∧ chkGo none l = some e) := by
      intro A h0 h8 h9 h10
      refine loop_up l.length (fun i a H' => H' = H ∧ a 0 = v ∧ a 8 = v ∧ a 9 = vi l.length ∧ a 10 = vi i ∧ chkGo none l = chkGo (prv l i) (l.drop i)) _ ?_ ?_ (by omega) ⟨rfl, h0, h8, h9, h10, rfl⟩
      · intro i a H' hi ⟨hH, h0, h8, h9, h10, hg⟩
        subst hH
        rw [show cckA = atC [1, 1, 0, 1, 0, 0] ((Try.f44.body).getD .skip) from rfl]
        have hlt : (i : Int) < l.length := by omega
        have e1 : IntKind.i64.wrap ((i : Int) + 1) = ((i + 1 : Nat) : Int) := by rw [wr64 (by omega) (by omega)]; omega
        rw [chkGo_at hi] at hg
        by_cases hx1 : l.getD i 0 < 1
        · right
          rw [show bad (prv l i) (l.getD i 0) = some 2 from if_pos hx1] at hg
          simp (disch := omega) only [Try.f44, Option.getD_some, atC, es_seq, es_region, es_cond, es_block, es_skip, es_ret, ops_nil, ops_cons, ops_consG, st_move, st_assign, sy_pick, pickS_true, sy_addr eL, sy_load aI, sy_bin, binS_lss, bindO_some, bindF_some, bindX_normal, bindX_ret, blkX_ret, condX_true, iteB_false, ev_tmp, ev_const, putA, upd_at, Option.map_some, ↓reduceIte, Nat.reduceEqDiff, Int.toNat_natCast, decide_true, Bool.not_true, yieldO_eq, yO, yV_bool, some_false, List.getElem?_cons_zero, List.getElem?_cons_succ, ↓bindO_some, ↓bindF_some, ↓bindX_normal, ↓bindX_ret, ↓condX_true, ↓iteB_false, h8, h9, h10, hlt, hv.addrI, hv.loadI, hx1]
          exact ⟨_, _, _, rfl, by simp, rfl, .inr ⟨2, rfl, rfl, hg⟩⟩
        · by_cases hx2 : 20 < l.getD i 0
          · right
            rw [show bad (prv l i) (l.getD i 0) = some 2 from by unfold bad; rw [if_neg hx1, if_pos hx2]] at hg
            simp (disch := omega) only [Try.f44, Option.getD_some, atC, es_seq, es_region, es_cond, es_block, es_skip, es_ret, ops_nil, ops_cons, ops_consG, st_move, st_assign, sy_pick, pickS_false, sy_addr eL, sy_load aI, sy_bin, binS_lss, binS_gtr, bindO_some, bindF_some, bindX_normal, bindX_ret, blkX_ret, condX_true, iteB_true, ev_tmp, ev_const, putA, upd_at, Option.map_some, ↓reduceIte, Nat.reduceEqDiff, Int.toNat_natCast, decide_true, decide_false, yieldO_eq, yO, yV_bool, List.getElem?_cons_zero, List.getElem?_cons_succ, beq_self_eq_true, ↓bindO_some, ↓bindF_some, ↓bindX_normal, ↓bindX_ret, ↓condX_true, ↓iteB_true, h8, h9, h10, hlt, hv.addrI, hv.loadI, hx1, hx2]
            exact ⟨_, _, _, rfl, by simp, rfl, .inr ⟨2, rfl, rfl, hg⟩⟩
          · cases i with
            | zero =>
              left
              rw [show bad (prv l 0) (l.getD 0 0) = none from by unfold bad; rw [if_neg hx1, if_neg hx2]; rfl] at hg
              have c0 : decide ((0 : Int) < ((0 : Nat) : Int)) = false := rfl
              simp (disch := omega) only [Try.f44, Option.getD_some, atC, es_seq, es_region, es_cond, es_block, es_skip, ops_nil, ops_cons, ops_consG, st_move, st_assign, sy_pick, pickS_false, sy_addr eL, sy_load aI, sy_bin, binS_lss, binS_gtr, binS_add, bindO_some, bindF_some, bindX_normal, blkX_normal, condX_true, condX_false, iteB_true, iteB_false, ev_tmp, ev_const, putA, upd_at, Option.map_some, ↓reduceIte, Nat.reduceEqDiff, Nat.zero_add, Int.toNat_natCast, decide_true, decide_false, yieldO_eq, yO, yV_bool, some_true, List.getElem?_cons_zero, List.getElem?_cons_succ, beq_self_eq_true, ↓bindO_some, ↓bindF_some, ↓bindX_normal, ↓condX_true, ↓condX_false, ↓iteB_true, ↓iteB_false, h8, h9, h10, hlt, hv.addrI, hv.loadI, hx1, hx2, c0, e1]
              exact ⟨_, _, rfl, rfl, h0, h8, h9, rfl, hg⟩
            | succ j =>
              have c0 : (0 : Int) < ((j + 1 : Nat) : Int) := by omega
              have e2 : IntKind.i64.wrap (((j + 1 : Nat) : Int) - 1) = (j : Int) := by rw [wr64 (by omega) (by omega)]; omega
              by_cases hq : l.getD j 0 < l.getD (j + 1) 0
              · right
                rw [show bad (prv l (j + 1)) (l.getD (j + 1) 0) = some 9 from by unfold bad; rw [if_neg hx1, if_neg hx2]; exact if_pos hq] at hg
                simp (disch := omega) only [Try.f44, Option.getD_some, atC, es_seq, es_region, es_cond, es_block, es_skip, es_ret, ops_nil, ops_cons, ops_consG, st_move, st_assign, sy_pick, pickS_true, pickS_false, sy_addr eL, sy_load aI, sy_bin, binS_lss, binS_gtr, binS_sub, bindO_some, bindF_some, bindX_normal, bindX_ret, blkX_ret, condX_true, condX_false, iteB_true, ev_tmp, ev_const, putA, upd_at, Option.map_some, ↓reduceIte, Nat.reduceEqDiff, Int.toNat_natCast, decide_true, decide_false, yieldO_eq, yO, yV_bool, List.getElem?_cons_zero, List.getElem?_cons_succ, beq_self_eq_true, ↓bindO_some, ↓bindF_some, ↓bindX_normal, ↓bindX_ret, ↓condX_true, ↓condX_false, ↓iteB_true, h0, h8, h9, h10, hlt, hv.addrI, hv.loadI, hx1, hx2, c0, e2, hq]
                exact ⟨_, _, _, rfl, by simp, rfl, .inr ⟨9, rfl, rfl, hg⟩⟩
              · left
                rw [show bad (prv l (j + 1)) (l.getD (j + 1) 0) = none from by unfold bad; rw [if_neg hx1, if_neg hx2]; exact if_neg hq] at hg
                simp (disch := omega) only [Try.f44, Option.getD_some, atC, es_seq, es_region, es_cond, es_block, es_skip, ops_nil, ops_cons, ops_consG, st_move, st_assign, sy_pick, pickS_true, pickS_false, sy_addr eL, sy_load aI, sy_bin, binS_lss, binS_gtr, binS_add, binS_sub, bindO_some, bindF_some, bindX_normal, blkX_normal, condX_true, condX_false, iteB_true, ev_tmp, ev_const, putA, upd_at, Option.map_some, ↓reduceIte, Nat.reduceEqDiff, Int.toNat_natCast, decide_true, decide_false, yieldO_eq, yO, yV_bool, List.getElem?_cons_zero, List.getElem?_cons_succ, beq_self_eq_true, ↓bindO_some, ↓bindF_some, ↓bindX_normal, ↓condX_true, ↓condX_false, ↓iteB_true, h0, h8, h9, h10, hlt, hv.addrI, hv.loadI, hx1, hx2, c0, e2, hq, e1]
                exact ⟨_, _, rfl, rfl, h0, h8, h9, rfl, hg⟩
      · intro a H' ⟨hH, h0, h8, h9, h10, hg⟩
        subst hH
        rw [show cckA = atC [1, 1, 0, 1, 0, 0] ((Try.f44.body).getD .skip) from rfl]
        simp (disch := omega) only [Try.f44, Option.getD_some, atC, es_seq, es_region, es_cond, es_exit, ops_nil, ops_cons, sy_bin, binS_lss, bindO_some, bindF_some, bindX_normal, bindX_exit, condX_false, ev_tmp, putA, upd_at, ↓reduceIte, decide_false, ↓bindO_some, ↓bindF_some, ↓bindX_normal, ↓bindX_exit, ↓condX_false, h9, h10, Int.lt_irrefl]
        rw [List.drop_length] at hg
        exact ⟨_, _, _, rfl, by simp, rfl, .inl ⟨rfl, h0, hg⟩⟩
    rw [show cckA = atC [1, 1, 0, 1, 0, 0] ((Try.f44.body).getD .skip) from rfl] at key
    simp only [Try.f44, Option.getD_some, atC] at key
    simp (disch := omega) only [Try.f44, es_seq, es_region, es_cond, es_block, es_loop, es_skip, es_ret, ops_nil, ops_cons, st_move, st_assign, st_fun, sy_len uL, sy_bin, binS_gtr, bindO_some, bindF_some, bindX_normal, condX_false, ev_tmp, ev_const, ev_func, putA, upd_at, Option.map_some, ↓reduceIte, Nat.reduceEqDiff, frOf_0, List.map_cons, List.map_nil, decide_false, ↓bindO_some, ↓bindF_some, ↓bindX_normal, ↓condX_false, hv.lenI, c1]
    generalize hA : upd _ 10 _ = A
    obtain ⟨r, a', H', e, hH, h⟩ := key A (by subst hA; rfl) (by subst hA; rfl) (by subst hA; rfl) (by subst hA; rfl)
    rw [e]
    subst hH
    rcases h with ⟨rfl, h0, hg⟩ | ⟨e2, rfl, h2, hg⟩
    · rw [hg]
      have s1 := csize_run hv (part_sm hl hg) n (by omega)
      by_cases hb : 20 < l.sum
      · simp (disch := omega) only [binS_gtr, bindO_some, bindF_some, bindX_normal, bindX_ret, blkX_exit, condX_true, upd_at, Option.map_some, ↓reduceIte, decide_true, ↓bindO_some, ↓bindF_some, ↓bindX_normal, ↓bindX_ret, ↓condX_true, fin_r, res_nil, res_tmp, pack_1, scal_vi, h0, s1, hb]
      · simp (disch := omega) only [binS_gtr, bindO_some, bindF_some, bindX_normal, blkX_exit, condX_false, upd_at, Option.map_some, ↓reduceIte, decide_false, ↓bindO_some, ↓bindF_some, ↓bindX_normal, ↓condX_false, fin_r, res_nil, res_tmp, pack_1, scal_vi, h0, s1, hb]
    · rw [hg]
      simp (disch := omega) only [bindX_ret, blkX_ret, Option.map_some, ↓bindX_ret, fin_r, res_nil, res_tmp, pack_1, scal_vi, h2]
end Go.Proofs.Ytmmgdgmjkhcfaaa
namespace Go.Proofs.Ytmmgdgmjkhcfaaa
open Go Go.Abs Go.Num
set_option maxRecDepth 10000
attribute [local congr] bindO_congr bindF_congr bindX_congr condX_congr iteB_congr binS_congr pickS_congr eqB_congr nilS_congr clsW_congr maxS_congr minS_congr
theorem Part.head {l : List Int} (hp : Part l) : 0 ≤ l.getD 0 0 ∧ l.getD 0 0 ≤ 1000 := by
  by_cases h : 0 < l.length
  · have := hp.getD h; omega
  · rw [List.getD_eq_getElem?_getD, List.getElem?_eq_none (by omega)]; simp
theorem map_range_succ {α : Type} (f : Nat → α) (i : Nat) : (List.range (i + 1)).map f = (List.range i).map f ++ [f i] := by rw [List.range_succ, List.map_append]; rfl
noncomputable def cjA : Code := atC [1, 1, 1, 0, 1, 0, 0] ((Try.f81.body).getD .skip)
noncomputable def cjB : Code := atC [1, 1, 1, 0, 1, 0, 0, 1, 1, 0, 0, 1, 1, 0, 0, 0] ((Try.f81.body).getD .skip)
theorem cj_inner {H : Heap} {v : Value} {l : List Int} (hv : R H v (ints l)) (hl : l.length ≤ 1000) (j : Nat) (call : CallF) (m nt : Nat) {a : Fr} {k : Nat} (hk : l.length < k) {v3 v12 v13 : Value} (h0 : a 0 = v) (h3 : a 3 = v3) (h4 : a 4 = vi j) (h5 : a 5 = vi (0 : Nat)) (h12 : a 12 = v12) (h13 : a 13 = v13) :
    ∃ r a' H', loopN (evS Try.prog call m nt none cjB) k a H = some (r, a', H') ∧ r = .exit 2 ∧ H' = H ∧ a' 0 = v ∧ a' 3 = v3 ∧ a' 5 = vi (tw l j : Nat) ∧ a' 12 = v12 ∧ a' 13 = v13 := by
  refine loop_up l.length (fun i a H' => H' = H ∧ a 0 = v ∧ a 3 = v3 ∧ a 4 = vi j ∧ a 5 = vi i ∧ a 12 = v12 ∧ a 13 = v13 ∧ ∀ t, t < i → (j : Int) < l.getD t 0) _ ?_ ?_ hk ⟨rfl, h0, h3, h4, h5, h12, h13, fun t ht => by omega⟩
  · intro i a H' hi ⟨hH, h0, h3, h4, h5, h12, h13, ht⟩
    subst hH
    rw [show cjB = atC [1, 1, 1, 0, 1, 0, 0, 1, 1, 0, 0, 1, 1, 0, 0, 0] ((Try.f81.body).getD .skip) from rfl]
    have hlt : (i : Int) < l.length := by omega
    have e1 : IntKind.i64.wrap ((i : Int) + 1) = ((i + 1 : Nat) : Int) := by rw [wr64 (by omega) (by omega)]; omega
    by_cases hj : (j : Int) < l.getD i 0
    · left
      simp (disch := omega) only [Try.f81, Option.getD_some, atC, es_seq, es_region, es_cond, es_block, es_skip, ops_nil, ops_cons, ops_consG, st_move, st_assign, sy_pick, pickS_true, sy_len uL, sy_addr eL, sy_load aI, sy_bin, binS_lss, binS_gtr, binS_add, bindO_some, bindF_some, bindX_normal, blkX_normal, condX_true, iteB_true, ev_tmp, ev_const, putA, upd_at, Option.map_some, ↓reduceIte, Nat.reduceEqDiff, Int.toNat_natCast, decide_true, yieldO_eq, yO, yV_bool, List.getElem?_cons_zero, List.getElem?_cons_succ, beq_self_eq_true, ↓bindO_some, ↓bindF_some, ↓bindX_normal, ↓condX_true, ↓iteB_true, h0, h4, h5, hv.lenI, hlt, hv.addrI, hv.loadI, hj, e1]
      refine ⟨_, _, rfl, rfl, h0, h3, h4, rfl, h12, h13, fun t h => ?_⟩
      by_cases e : t = i
      · subst e; exact hj
      · exact ht t (by omega)
    · right
      simp (disch := omega) only [Try.f81, Option.getD_some, atC, es_seq, es_region, es_cond, es_exit, ops_nil, ops_cons, ops_consG, st_move, sy_pick, pickS_true, sy_len uL, sy_addr eL, sy_load aI, sy_bin, binS_lss, binS_gtr, bindO_some, bindF_some, bindX_normal, bindX_exit, condX_false, iteB_true, ev_tmp, putA, upd_at, Option.map_some, ↓reduceIte, Nat.reduceEqDiff, Int.toNat_natCast, decide_true, decide_false, yieldO_eq, yO, yV_bool, List.getElem?_cons_zero, List.getElem?_cons_succ, beq_self_eq_true, ↓bindO_some, ↓bindF_some, ↓bindX_normal, ↓bindX_exit, ↓condX_false, ↓iteB_true, h0, h4, h5, hv.lenI, hlt, hv.addrI, hv.loadI, hj]
      refine ⟨_, _, _, rfl, by simp, rfl, rfl, h0, h3, ?_, h12, h13⟩
      rw [← tw_eq (by omega : i ≤ l.length) ht (.inr hj)]
      simp only [upd_at, ↓reduceIte, Nat.reduceEqDiff, h5]
  · intro a H' ⟨hH, h0, h3, h4, h5, h12, h13, ht⟩
    subst hH
    rw [show cjB = atC [1, 1, 1, 0, 1, 0, 0, 1, 1, 0, 0, 1, 1, 0, 0, 0] ((Try.f81.body).getD .skip) from rfl]
    simp (disch := omega) only [Try.f81, Option.getD_some, atC, es_seq, es_region, es_cond, es_exit, ops_nil, ops_cons, ops_consG, st_move, sy_pick, pickS_false, sy_len uL, sy_bin, binS_lss, bindO_some, bindF_some, bindX_normal, bindX_exit, condX_false, iteB_false, ev_tmp, ev_const, putA, upd_at, Option.map_some, ↓reduceIte, Nat.reduceEqDiff, decide_false, yieldO_eq, yO, yV_bool, some_true, List.getElem?_cons_zero, List.getElem?_cons_succ, ↓bindO_some, ↓bindF_some, ↓bindX_normal, ↓bindX_exit, ↓condX_false, ↓iteB_false, h0, h5, hv.lenI, Int.lt_irrefl]
    refine ⟨_, _, _, rfl, by simp, rfl, rfl, h0, h3, ?_, h12, h13⟩
    rw [← tw_eq (Nat.le_refl _) ht (.inl rfl)]
    simp only [upd_at, ↓reduceIte, Nat.reduceEqDiff, h5]
theorem conj_run {H : Heap} {v : Value} {l : List Int} (hw : WF H) (hv : R H v (ints l)) (hl : l.length ≤ 1000) (h0 : 0 ≤ l.getD 0 0) (h1 : l.getD 0 0 ≤ 1000) (n : Nat) (hn : 1010 ≤ n) : OneL H (evB Try.prog noC n (.func (.func 81) #[] #[]) [v] H) (conjP l) := by
  refine run_of (F := 1009) (Q := fun r => OneL H r (conjP l)) (fun n hn => ?_) n hn
  rw [body_runS Try.func81 rfl (ok_fn (by rfl) Try.func81 rfl) (Nat.le_of_ble_eq_true rfl) (D := D0) (by kernel_rfl)]
  by_cases hz : l.length = 0
  · have c1 : (l.length : Int) = 0 := by omega
    have : l = [] := List.eq_nil_of_length_eq_zero hz
    simp (disch := omega) only [Try.f81, es_seq, es_region, es_cond, es_ret, ops_nil, ops_cons, st_move, st_assign, sy_len uL, sy_bin, binS_eql, bindO_some, bindF_some, bindX_normal, bindX_ret, condX_true, ev_tmp, ev_const, putA, upd_at, Option.map_some, ↓reduceIte, Nat.reduceEqDiff, frOf_0, decide_true, ↓bindO_some, ↓bindF_some, ↓bindX_normal, ↓bindX_ret, ↓condX_true, fin_r, res_nil, res_tmp, pack_1, scal_nil, hv.lenI, c1]
    rw [this]
    exact ⟨_, _, rfl, O.nil _ _, Old.refl _ _, hw⟩
  · have c1 : ¬ (l.length : Int) = 0 := by omega
    have a1 : addrS 1 v (vi 0) = some (pt v 0) := hv.addrI (i := 0) (by omega) (by omega)
    have key : ∀ A : Fr, A 0 = v → A 3 = .slice none 0 0 → A 12 = vi (l.getD 0 0) → A 13 = vi (0 : Nat) → ∃ r a' H', loopN (evS Try.prog (evB Try.prog noC n) n Try.f81.ntmps none cjA) n A H = some (r, a', H') ∧ r = .exit 0 ∧ ∃ vo, a' 3 = vo ∧ O H.length H' vo (ints (conjP l)) ∧ Old H.length H H' ∧ WF H' := by
      intro A h0' h3 h12 h13
      refine loop_up (l.getD 0 0).toNat (fun i a H' => a 0 = v ∧ a 12 = vi (l.getD 0 0) ∧ a 13 = vi i ∧ Old H.length H H' ∧ WF H' ∧ ∃ vo, a 3 = vo ∧ O H.length H' vo (ints ((List.range i).map fun (j : Nat) => ((tw l (j : Int) : Nat) : Int)))) _ ?_ ?_ (by omega) ⟨h0', h12, h13, Old.refl _ _, hw, _, h3, O.nil _ _⟩
      · intro i a H' hi ⟨h0', h12, h13, old, hw, vo, h3, ho⟩
        left
        rw [show cjA = atC [1, 1, 1, 0, 1, 0, 0] ((Try.f81.body).getD .skip) from rfl]
        have hlt : (i : Int) < l.getD 0 0 := by omega
        have e1 : IntKind.i64.wrap ((i : Int) + 1) = ((i + 1 : Nat) : Int) := by rw [wr64 (by omega) (by omega)]; omega
        have hv' := hv.mono old
        have k1 := fun (F : Fr) => cj_inner hv' hl i (evB Try.prog noC n) n Try.f81.ntmps (a := F) (k := n) (v3 := vo) (v12 := vi (l.getD 0 0)) (v13 := vi i) (by omega)
        rw [show cjB = atC [1, 1, 1, 0, 1, 0, 0, 1, 1, 0, 0, 1, 1, 0, 0, 0] ((Try.f81.body).getD .skip) from rfl] at k1
        simp only [Try.f81, Option.getD_some, atC] at k1
        obtain ⟨v2, H2, s2, o2, old2, wf2⟩ := ho.pushI hw old.1 (by rw [List.length_map, List.length_range]; unfold maxA; omega) ((tw l (i : Int) : Nat) : Int)
        simp (disch := omega) only [Try.f81, Option.getD_some, atC, es_seq, es_region, es_cond, es_block, es_loop, es_skip, ops_nil, ops_cons, st_move, st_assign, sy_bin, sy_append eL pI, sy_build1 eL oI, binS_lss, bindO_some, bindF_some, bindX_normal, condX_true, ev_tmp, ev_const, putA, upd_at, ↓reduceIte, Nat.reduceEqDiff, decide_true, ↓bindO_some, ↓bindF_some, ↓bindX_normal, ↓condX_true, h12, h13, hlt]
        generalize hF : upd _ 5 _ = F
        obtain ⟨r, a', H3, e, hr, hH, g0, g3, g5, g12, g13⟩ := k1 F (by subst hF; exact h0') (by subst hF; exact h3) (by subst hF; rfl) (by subst hF; rfl) (by subst hF; exact h12) (by subst hF; exact h13)
        subst hr
        rw [e]
        clear e k1
        subst hH
        simp (disch := omega) only [binS_add, bindO_some, bindF_some, bindX_normal, blkX_normal, blkX_exit, upd_at, ↓reduceIte, Nat.reduceEqDiff, ↓bindO_some, ↓bindF_some, ↓bindX_normal, scal_vi, g3, g5, g13, scal_vi, s2, e1]
        exact ⟨_, _, rfl, g0, g12, rfl, old.trans old2, wf2, v2, rfl, by rw [map_range_succ]; exact o2⟩
      · intro a H' ⟨h0', h12, h13, old, hw, vo, h3, ho⟩
        rw [show cjA = atC [1, 1, 1, 0, 1, 0, 0] ((Try.f81.body).getD .skip) from rfl]
        have hlt : ¬ ((l.getD 0 0).toNat : Int) < l.getD 0 0 := by omega
        simp (disch := omega) only [Try.f81, Option.getD_some, atC, es_seq, es_region, es_cond, es_exit, ops_nil, ops_cons, sy_bin, binS_lss, bindO_some, bindF_some, bindX_normal, bindX_exit, condX_false, ev_tmp, putA, upd_at, ↓reduceIte, decide_false, ↓bindO_some, ↓bindF_some, ↓bindX_normal, ↓bindX_exit, ↓condX_false, h12, h13, hlt]
        exact ⟨_, _, _, rfl, by simp, rfl, vo, h3, ho, old, hw⟩
    rw [show cjA = atC [1, 1, 1, 0, 1, 0, 0] ((Try.f81.body).getD .skip) from rfl] at key
    simp only [Try.f81, Option.getD_some, atC] at key
    simp (disch := omega) only [Try.f81, es_seq, es_region, es_cond, es_block, es_loop, es_skip, es_ret, ops_nil, ops_cons, st_move, st_assign, sy_len uL, sy_addr eL, sy_load aI, sy_bin, binS_eql, bindO_some, bindF_some, bindX_normal, condX_false, ev_tmp, ev_const, putA, upd_at, Option.map_some, ↓reduceIte, Nat.reduceEqDiff, frOf_0, decide_false, ↓bindO_some, ↓bindF_some, ↓bindX_normal, ↓condX_false, hv.lenI, c1, a1, hv.loadI]
    generalize hA : upd _ 13 _ = A
    obtain ⟨r, a', H', e, hr, vo, h3, ho, old, wf⟩ := key A (by subst hA; rfl) (by subst hA; rfl) (by subst hA; rfl) (by subst hA; rfl)
    subst hr
    rw [e]
    simp (disch := omega) only [bindX_normal, blkX_exit, upd_at, Option.map_some, ↓reduceIte, ↓bindX_normal, fin_r, res_nil, res_tmp, pack_1, h3, ho.R.scal]
    exact ⟨_, _, rfl, ho, old, wf⟩
end Go.Proofs.Ytmmgdgmjkhcfaaa
namespace Go.Proofs.Ytmmgdgmjkhcfaaa
open Go Go.Abs Go.Num
set_option maxRecDepth 10000
attribute [local congr] bindO_congr bindF_congr bindX_congr condX_congr iteB_congr binS_congr pickS_congr
noncomputable def normA : Code := atC [1, 1, 1, 0, 1, 0, 0] ((Try.f80.body).getD .skip)
noncomputable def normB : Code := atC [1, 1, 1, 1, 0, 0, 0] ((Try.f80.body).getD .skip)
noncomputable def normC : Code := atC [1, 1, 1, 1, 1, 1, 1, 1, 0, 1, 0, 0] ((Try.f80.body).getD .skip)
theorem norm_loop1 {H0 : Heap} {v : Value} {l : List Int} (hw0 : WF H0) (hv : R H0 v (ints l)) (hl : l.length ≤ 900) (hb : ∀ x ∈ l, -4000000000000000000 ≤ x ∧ x ≤ 4000000000000000000) (n m nt : Nat) (hn : 10 ≤ n) {a : Fr} {k : Nat} (hk : l.length < k)
    (h0 : a 0 = v) (h3 : a 3 = .slice none 0 0) (h4 : a 4 = vi 0) (h5 : a 5 = vi (0 : Nat)) :
    ∃ x a' H', loopN (evS Try.prog (evB Try.prog noC n) m nt none normA) k a H0 = some (x, a', H') ∧ x = .exit 0 ∧ ∃ vo out c, a' 3 = vo ∧ a' 4 = vi c ∧ O H0.length H' vo (ints out) ∧ Old H0.length H0 H' ∧ WF H' ∧ out.length = l.length ∧ Dg out ∧ val out + B ^ out.length * c = val l ∧ -100000000000 ≤ c ∧ c ≤ 100000000000 := by
  refine loop_up l.length (fun i a H' => a 0 = v ∧ a 5 = vi i ∧ ∃ vo out c, a 3 = vo ∧ a 4 = vi c ∧ O H0.length H' vo (ints out) ∧ Old H0.length H0 H' ∧ WF H' ∧ out.length = i ∧ Dg out ∧ val out + B ^ i * c = val (l.take i) ∧ -100000000000 ≤ c ∧ c ≤ 100000000000) _ ?_ ?_ hk
    ⟨h0, h5, _, [], 0, h3, h4, O.nil _ _, Old.refl _ _, hw0, rfl, Dg.nil, by simp [val], by omega, by omega⟩
  · intro i a H' hi ⟨h0, h5, vo, out, c, h3, h4, ho, old, hw, hol, hd, hval, hc1, hc2⟩
    left
    rw [show normA = atC [1, 1, 1, 0, 1, 0, 0] ((Try.f80.body).getD .skip) from rfl]
    have hx := hb _ (getD_mem hi)
    have hr := hv.keep (Nat.le_refl _) old
    have hlt : (i : Int) < l.length := by omega
    have s1 := split_run hx.1 hx.2 n H' hn
    have e1 : IntKind.i64.wrap (l.getD i 0 % 100000000 + c) = l.getD i 0 % 100000000 + c := wr64 (by omega) (by omega)
    have s2 := split_run (z := l.getD i 0 % 100000000 + c) (by omega) (by omega) n H' hn
    have e2 : IntKind.i64.wrap (l.getD i 0 / 100000000 + (l.getD i 0 % 100000000 + c) / 100000000) = l.getD i 0 / 100000000 + (l.getD i 0 % 100000000 + c) / 100000000 := wr64 (by omega) (by omega)
    have e3 : IntKind.i64.wrap ((i : Int) + 1) = ((i + 1 : Nat) : Int) := by rw [wr64 (by omega) (by omega)]; omega
    obtain ⟨v2, H2, ep, o2, old2, wf2⟩ := ho.pushI hw old.1 (by unfold maxA; omega) ((l.getD i 0 % 100000000 + c) % 100000000)
    simp (disch := omega) only [Try.f80, Option.getD_some, atC, es_seq, es_region, es_cond, es_block, es_skip, ops_nil, ops_cons, st_move, st_assign, st_fun, sy_len uL, sy_addr eL, sy_load aI, sy_bin, sy_append eL pI, sy_build1 eL oI, sy_ext, ext_20, ext_21, binS_lss, binS_add, bindO_some, bindF_some, bindX_normal, blkX_normal, condX_true, ev_tmp, ev_const, ev_func, putA, upd_at, Option.map_some, ↓reduceIte, Nat.reduceEqDiff, Int.toNat_natCast, List.map_cons, List.map_nil, decide_true, ↓bindO_some, ↓bindF_some, ↓bindX_normal, ↓condX_true, scal_vi, h0, h3, h4, h5, hr.lenI, hlt, hr.addrI, hr.loadI, s1, s2, e1, e2, e3, ep]
    refine ⟨_, _, rfl, by simp only [upd_get, ↓reduceIte, Nat.reduceEqDiff, h0], by simp only [upd_get, ↓reduceIte], v2, _, l.getD i 0 / 100000000 + (l.getD i 0 % 100000000 + c) / 100000000, by simp only [upd_get, ↓reduceIte, Nat.reduceEqDiff], by simp only [upd_get, ↓reduceIte, Nat.reduceEqDiff], o2, old.trans old2, wf2, by simp [hol], hd.app (Dg.one (by omega) (by unfold B; omega)), ?_, by omega, by omega⟩
    rw [take_snoc' hi]
    exact norm_step hol hval (by rw [List.length_take]; omega)
  · intro a H' ⟨h0, h5, vo, out, c, h3, h4, ho, old, hw, hol, hd, hval, hc1, hc2⟩
    rw [show normA = atC [1, 1, 1, 0, 1, 0, 0] ((Try.f80.body).getD .skip) from rfl]
    have hr := hv.keep (Nat.le_refl _) old
    simp (disch := omega) only [Try.f80, Option.getD_some, atC, es_seq, es_region, es_cond, es_exit, ops_nil, ops_cons, st_move, sy_len uL, sy_bin, binS_lss, bindO_some, bindF_some, bindX_normal, bindX_exit, condX_false, ev_tmp, putA, upd_at, Option.map_some, ↓reduceIte, Nat.reduceEqDiff, decide_false, ↓bindO_some, ↓bindF_some, ↓bindX_normal, ↓bindX_exit, ↓condX_false, h0, h5, hr.lenI, Int.lt_irrefl]
    exact ⟨_, _, _, rfl, by simp, rfl, vo, out, c, by simp only [upd_get, ↓reduceIte, Nat.reduceEqDiff, h3], by simp only [upd_get, ↓reduceIte, Nat.reduceEqDiff, h4], ho, old, hw, hol, hd, by rw [hol, hval, List.take_length], hc1, hc2⟩
def MM (n : Nat) (c : Int) : Prop := (n = 0 ∧ (c = 0 ∨ c = -1)) ∨ (n = 1 ∧ -10000000 ≤ c ∧ c ≤ 10000000) ∨ (n = 2 ∧ -100000000000 ≤ c ∧ c ≤ 100000000000)
theorem norm_loop2 {H0 : Heap} {L : Nat} {z : Int} (hL : L ≤ 1000) (n m nt : Nat) (hn : 10 ≤ n) {a : Fr} {H : Heap} {k : Nat} (hk : 2 < k) {vo : Value} {out : List Int} {c : Int}
    (h3 : a 3 = vo) (h4 : a 4 = vi c) (ho : O H0.length H vo (ints out)) (old : Old H0.length H0 H) (hw : WF H) (hol : out.length + 2 ≤ L) (hd : Dg out) (hval : val out + B ^ out.length * c = z) (hc1 : -100000000000 ≤ c) (hc2 : c ≤ 100000000000) :
    ∃ x a' H', loopN (evS Try.prog (evB Try.prog noC n) m nt none normB) k a H = some (x, a', H') ∧ x = .exit 2 ∧ ∃ vo out c, a' 3 = vo ∧ a' 4 = vi c ∧ O H0.length H' vo (ints out) ∧ Old H0.length H0 H' ∧ WF H' ∧ out.length ≤ L ∧ Dg out ∧ val out + B ^ out.length * c = z ∧ (c = 0 ∨ c = -1) := by
  refine loop_wf (fun n a H' => ∃ vo out c, a 3 = vo ∧ a 4 = vi c ∧ O H0.length H' vo (ints out) ∧ Old H0.length H0 H' ∧ WF H' ∧ out.length + n ≤ L ∧ Dg out ∧ val out + B ^ out.length * c = z ∧ MM n c) _ ?_ k 2 a H hk ⟨vo, out, c, h3, h4, ho, old, hw, hol, hd, hval, .inr (.inr ⟨rfl, hc1, hc2⟩)⟩
  intro q a H' ⟨vo, out, c, h3, h4, ho, old, hw, hol, hd, hval, hM⟩
  rw [show normB = atC [1, 1, 1, 1, 0, 0, 0] ((Try.f80.body).getD .skip) from rfl]
  by_cases hz : c = 0
  · right
    simp (disch := omega) only [Try.f80, Option.getD_some, atC, es_seq, es_region, es_cond, es_exit, ops_nil, ops_cons, ops_consG, st_move, sy_pick, pickS_false, sy_bin, binS_neq, bindO_some, bindF_some, bindX_normal, bindX_exit, condX_false, iteB_false, ev_tmp, ev_const, putA, upd_at, ↓reduceIte, Nat.reduceEqDiff, decide_true, Bool.not_true, yieldO_eq, yO, yV_bool, some_true, List.getElem?_cons_zero, List.getElem?_cons_succ, ↓bindO_some, ↓bindF_some, ↓bindX_normal, ↓bindX_exit, ↓condX_false, ↓iteB_false, h4, hz]
    exact ⟨_, _, _, rfl, by simp, rfl, vo, out, 0, by simp only [upd_get, ↓reduceIte, Nat.reduceEqDiff, h3], by simp only [upd_get, ↓reduceIte, Nat.reduceEqDiff, h4, hz], ho, old, hw, by omega, hd, by rw [← hz]; exact hval, .inl rfl⟩
  · by_cases hy : c = -1
    · right
      simp (disch := omega) only [Try.f80, Option.getD_some, atC, es_seq, es_region, es_cond, es_block, es_skip, es_exit, ops_nil, ops_cons, ops_consG, st_move, st_assign, sy_pick, st_fun, sy_bin, sy_append eL pI, sy_build1 eL oI, sy_ext, binS_neq, bindO_some, bindF_some, ev_tmp, ev_const, ev_func, putA, upd_at, ↓reduceIte, Nat.reduceEqDiff, List.map_cons, List.map_nil, decide_true, Bool.not_true, yieldO_eq, yO, yV_bool, some_true, List.getElem?_cons_zero, List.getElem?_cons_succ, ↓bindO_some, ↓bindF_some, h4, hy]
      exact ⟨_, _, _, rfl, by simp, rfl, vo, out, -1, by simp only [upd_get, ↓reduceIte, Nat.reduceEqDiff, h3], by simp only [upd_get, ↓reduceIte, Nat.reduceEqDiff, h4, hy], ho, old, hw, by omega, hd, by rw [← hy]; exact hval, .inr rfl⟩
    · left
      have s1 := split_run (z := c) (by rcases hM with h | h | h <;> omega) (by rcases hM with h | h | h <;> omega) n H' hn
      obtain ⟨v2, H2, ep, o2, old2, wf2⟩ := ho.pushI hw old.1 (by unfold maxA; omega) (c % 100000000)
      simp (disch := omega) only [Try.f80, Option.getD_some, atC, es_seq, es_region, es_cond, es_block, es_skip, ops_nil, ops_cons, ops_consG, st_move, st_assign, sy_pick, pickS_true, st_fun, sy_bin, sy_append eL pI, sy_build1 eL oI, sy_ext, ext_20, ext_21, binS_neq, bindO_some, bindF_some, bindX_normal, blkX_normal, condX_true, iteB_true, ev_tmp, ev_const, ev_func, putA, upd_at, Option.map_some, ↓reduceIte, Nat.reduceEqDiff, List.map_cons, List.map_nil, decide_false, Bool.not_false, yieldO_eq, yO, yV_bool, List.getElem?_cons_zero, List.getElem?_cons_succ, beq_self_eq_true, ↓bindO_some, ↓bindF_some, ↓bindX_normal, ↓condX_true, ↓iteB_true, scal_vi, h3, h4, hz, hy, s1, ep]
      refine ⟨_, _, rfl, q - 1, by rcases hM with h | h | h <;> omega, v2, _, c / 100000000, by simp only [upd_get, ↓reduceIte, Nat.reduceEqDiff], by simp only [upd_get, ↓reduceIte], o2, old.trans old2, wf2, by rw [List.length_append, List.length_singleton]; rcases hM with h | h | h <;> omega, hd.app (Dg.one (by omega) (by unfold B; omega)), carry_step z hval, ?_⟩
      rcases hM with h | h | h
      · omega
      · exact .inl ⟨by omega, by omega⟩
      · exact .inr (.inl ⟨by omega, by omega, by omega⟩)
theorem norm_loop3 {H0 H1 : Heap} {vo : Value} {out : List Int} (ho : R H1 vo (ints out)) (hd : Dg out) (old0 : Old H0.length H0 H1) (hw1 : WF H1) (hol : out.length ≤ 1000) (call : CallF) (m nt : Nat) {a : Fr} {k : Nat} (hk : out.length < k)
    (h3 : a 3 = vo) (h12 : a 12 = .slice none 0 0) (h13 : a 13 = vi 0) (h14 : a 14 = vi (0 : Nat)) :
    ∃ x a' H', loopN (evS Try.prog call m nt none normC) k a H1 = some (x, a', H') ∧ x = .exit 4 ∧ ∃ vs sz b, a' 12 = vs ∧ a' 13 = vi b ∧ O H1.length H' vs (ints sz) ∧ Old H1.length H1 H' ∧ WF H' ∧ sz.length = out.length ∧ Dg sz ∧ val sz = b * B ^ out.length - val out ∧ (b = 0 ∨ b = 1) := by
  refine loop_up out.length (fun i a H' => a 3 = vo ∧ a 14 = vi i ∧ ∃ vs sz b, a 12 = vs ∧ a 13 = vi b ∧ O H1.length H' vs (ints sz) ∧ Old H1.length H1 H' ∧ WF H' ∧ sz.length = i ∧ Dg sz ∧ val sz = b * B ^ i - val (out.take i) ∧ (b = 0 ∨ b = 1)) _ ?_ ?_ hk
    ⟨h3, h14, _, [], 0, h12, h13, O.nil _ _, Old.refl _ _, hw1, rfl, Dg.nil, by simp [val], .inl rfl⟩
  · intro i a H' hi ⟨h3, h14, vs, sz, b, h12, h13, hs, old, hw, hsl, hds, hval, hb⟩
    left
    rw [show normC = atC [1, 1, 1, 1, 1, 1, 1, 1, 0, 1, 0, 0] ((Try.f80.body).getD .skip) from rfl]
    have hr := ho.keep (Nat.le_refl _) old
    have hx := hd _ (getD_mem hi)
    unfold B at hx
    have hlt : (i : Int) < out.length := by omega
    have e1 : IntKind.i64.wrap (0 - out.getD i 0) = - out.getD i 0 := by rw [wr64 (by omega) (by omega)]; omega
    have e2 : IntKind.i64.wrap (- out.getD i 0 - b) = - out.getD i 0 - b := wr64 (by omega) (by omega)
    have e3 : IntKind.i64.wrap ((i : Int) + 1) = ((i + 1 : Nat) : Int) := by rw [wr64 (by omega) (by omega)]; omega
    have hst := fun (b2 : Int) => compl_step (o := out.getD i 0) (b2 := b2) hsl (by rw [List.length_take]; omega) hval
    by_cases hneg : - out.getD i 0 - b < 0
    · have e4 : IntKind.i64.wrap (- out.getD i 0 - b + 100000000) = - out.getD i 0 - b + 100000000 := wr64 (by omega) (by omega)
      obtain ⟨v2, H2, ep, o2, old2, wf2⟩ := hs.pushI hw old.1 (by unfold maxA; omega) (- out.getD i 0 - b + 100000000)
      simp (disch := omega) only [Try.f80, Option.getD_some, atC, es_seq, es_region, es_cond, es_block, es_skip, ops_nil, ops_cons, st_move, st_assign, sy_len uL, sy_addr eL, sy_load aI, sy_bin, sy_neg, sy_append eL pI, sy_build1 eL oI, binS_lss, binS_add, binS_sub, bindO_some, bindF_some, bindX_normal, blkX_normal, condX_true, ev_tmp, ev_const, putA, upd_at, Option.map_some, ↓reduceIte, Nat.reduceEqDiff, Int.toNat_natCast, decide_true, ↓bindO_some, ↓bindF_some, ↓bindX_normal, ↓condX_true, scal_vi, h3, h12, h13, h14, hr.lenI, hlt, hr.addrI, hr.loadI, e1, e2, hneg, e4, e3, ep]
      exact ⟨_, _, rfl, by simp only [upd_get, ↓reduceIte, Nat.reduceEqDiff, h3], by simp only [upd_get, ↓reduceIte], v2, _, 1, by simp only [upd_get, ↓reduceIte, Nat.reduceEqDiff], by simp only [upd_get, ↓reduceIte, Nat.reduceEqDiff], o2, old.trans old2, wf2, by simp [hsl], hds.app (Dg.one (by omega) (by unfold B; omega)), by rw [take_snoc' hi]; exact hst 1, .inr rfl⟩
    · obtain ⟨v2, H2, ep, o2, old2, wf2⟩ := hs.pushI hw old.1 (by unfold maxA; omega) (- out.getD i 0 - b)
      simp (disch := omega) only [Try.f80, Option.getD_some, atC, es_seq, es_region, es_cond, es_block, es_skip, ops_nil, ops_cons, st_move, st_assign, sy_len uL, sy_addr eL, sy_load aI, sy_bin, sy_neg, sy_append eL pI, sy_build1 eL oI, binS_lss, binS_add, binS_sub, bindO_some, bindF_some, bindX_normal, blkX_normal, condX_true, condX_false, ev_tmp, ev_const, putA, upd_at, Option.map_some, ↓reduceIte, Nat.reduceEqDiff, Int.toNat_natCast, decide_true, decide_false, ↓bindO_some, ↓bindF_some, ↓bindX_normal, ↓condX_true, ↓condX_false, scal_vi, h3, h12, h13, h14, hr.lenI, hlt, hr.addrI, hr.loadI, e1, e2, hneg, e3, ep]
      exact ⟨_, _, rfl, by simp only [upd_get, ↓reduceIte, Nat.reduceEqDiff, h3], by simp only [upd_get, ↓reduceIte], v2, _, 0, by simp only [upd_get, ↓reduceIte, Nat.reduceEqDiff], by simp only [upd_get, ↓reduceIte, Nat.reduceEqDiff], o2, old.trans old2, wf2, by simp [hsl], hds.app (Dg.one (by omega) (by unfold B; omega)), by rw [take_snoc' hi]; have := hst 0; simpa using this, .inl rfl⟩
  · intro a H' ⟨h3, h14, vs, sz, b, h12, h13, hs, old, hw, hsl, hds, hval, hb⟩
    rw [show normC = atC [1, 1, 1, 1, 1, 1, 1, 1, 0, 1, 0, 0] ((Try.f80.body).getD .skip) from rfl]
    have hr := ho.keep (Nat.le_refl _) old
    simp (disch := omega) only [Try.f80, Option.getD_some, atC, es_seq, es_region, es_cond, es_exit, ops_nil, ops_cons, st_move, sy_len uL, sy_bin, binS_lss, bindO_some, bindF_some, bindX_normal, bindX_exit, condX_false, ev_tmp, putA, upd_at, Option.map_some, ↓reduceIte, Nat.reduceEqDiff, decide_false, ↓bindO_some, ↓bindF_some, ↓bindX_normal, ↓bindX_exit, ↓condX_false, h3, h14, hr.lenI, Int.lt_irrefl]
    exact ⟨_, _, _, rfl, by simp, rfl, vs, sz, b, by simp only [upd_get, ↓reduceIte, Nat.reduceEqDiff, h12], by simp only [upd_get, ↓reduceIte, Nat.reduceEqDiff, h13], hs, old, hw, hsl, hds, by rw [hval, List.take_length], hb⟩
theorem OneL.trans {H H1 : Heap} {r : Option (Value × Heap)} {l : List Int} (ho : Old H.length H H1) (h : OneL H1 r l) : OneL H r l := by
  obtain ⟨v', H', e, o, old, wf⟩ := h
  exact ⟨v', H', e, o.below ho.1, ho.trans (old.mono ho.1), wf⟩
theorem norm_run {H : Heap} {v : Value} {l : List Int} (hw : WF H) (hv : R H v (ints l)) (hl : l.length ≤ 900) (hb : ∀ x ∈ l, -4000000000000000000 ≤ x ∧ x ≤ 4000000000000000000) (n : Nat) (hn : 2003 ≤ n) :
    OneL H (evB Try.prog noC n (.func (.func 80) #[] #[]) [v] H) (nf (val l)) := by
  refine run_of (F := 2002) (Q := fun x => OneL H x (nf (val l))) (fun n hn => ?_) n hn
  rw [body_runS Try.func80 rfl (ok_fn (by rfl) Try.func80 rfl) (Nat.le_of_ble_eq_true rfl) (D := D0) (by kernel_rfl)]
  have key1 := fun (A : Fr) => norm_loop1 hw hv hl hb n n Try.f80.ntmps (by omega) (a := A) (k := n) (by omega)
  have key2 := fun (A : Fr) {H' : Heap} {vo : Value} {out : List Int} {c : Int} (ho : out.length + 2 ≤ 902) => norm_loop2 (H0 := H) (L := 902) (z := val l) (by omega) n n Try.f80.ntmps (by omega) (a := A) (H := H') (k := n) (by omega) (vo := vo) (out := out) (c := c)
  have key3 := fun (A : Fr) {H1 : Heap} {vo : Value} {out : List Int} (hol : out.length ≤ 902) (ho : R H1 vo (ints out)) (hd : Dg out) (old0 : Old H.length H H1) (hw1 : WF H1) => norm_loop3 (H0 := H) ho hd old0 hw1 (by omega) (evB Try.prog noC n) n Try.f80.ntmps (a := A) (k := n) (by omega)
  rw [show normA = atC [1, 1, 1, 0, 1, 0, 0] ((Try.f80.body).getD .skip) from rfl] at key1
  rw [show normB = atC [1, 1, 1, 1, 0, 0, 0] ((Try.f80.body).getD .skip) from rfl] at key2
  rw [show normC = atC [1, 1, 1, 1, 1, 1, 1, 1, 0, 1, 0, 0] ((Try.f80.body).getD .skip) from rfl] at key3
  simp only [Try.f80, Option.getD_some, atC] at key1 key2 key3
  simp (disch := omega) only [Try.f80, es_seq, es_region, es_cond, es_block, es_loop, es_skip, es_ret, ops_nil, ops_cons, st_move, st_assign, st_fun, sy_bin, sy_append eL pI, sy_build1 eL oI, bindO_some, bindF_some, bindX_normal, ev_tmp, ev_const, ev_func, putA, upd_at, ↓reduceIte, Nat.reduceEqDiff, List.map_cons, List.map_nil, ↓bindO_some, ↓bindF_some, ↓bindX_normal, scal_vi]
  generalize hA : upd _ 5 _ = A
  obtain ⟨x, a1, H1, e1, hx, vo, out, c, h3, h4, o1, old1, wf1, hol, hd, hval, hc1, hc2⟩ := key1 A (by subst hA; rfl) (by subst hA; rfl) (by subst hA; rfl) (by subst hA; rfl)
  subst hx
  rw [e1]
  simp (disch := omega) only [bindX_normal, blkX_exit, ↓reduceIte, ↓bindX_normal]
  clear key1 e1
  obtain ⟨x, a2, H2, e2, hx, vo, out, c, h3, h4, o2, old2, wf2, hol, hd, hval, hc⟩ := key2 a1 (by omega) h3 h4 o1 old1 wf1 (by omega) hd hval hc1 hc2
  subst hx
  rw [e2]
  simp (disch := omega) only [bindX_normal, blkX_exit, ↓reduceIte, ↓bindX_normal]
  clear key2 e2
  rcases hc with rfl | rfl
  · rw [Int.mul_zero, Int.add_zero] at hval
    obtain ⟨v3, H3, e3, o3, old3, wf3⟩ := trim_run wf2 o2.R (by omega) n (by omega)
    simp (disch := omega) only [binS_eql, bindO_some, bindF_some, bindX_normal, bindX_ret, condX_true, upd_at, Option.map_some, ↓reduceIte, Nat.reduceEqDiff, decide_true, ↓bindO_some, ↓bindF_some, ↓bindX_normal, ↓bindX_ret, ↓condX_true, fin_r, res_nil, res_tmp, pack_1, h3, h4, e3, o3.R.scal]
    refine ⟨_, _, rfl, ?_, old2.trans (old3.mono old2.1), wf3⟩
    rw [← nf_of_digs hd hval]
    exact o3.below old2.1
  · have hneg := hd.val
    have hz : ¬ (-1 : Int) = 0 := by omega
    simp (disch := omega) only [binS_eql, bindO_some, bindF_some, bindX_normal, condX_false, upd_at, ↓reduceIte, decide_false, ↓bindO_some, ↓bindF_some, ↓bindX_normal, ↓condX_false, h4, hz]
    generalize hA : upd _ 14 _ = A
    obtain ⟨x, a3, H3, e3, hx, vs, sz, b, h12, h13, o3, old3, wf3, hsl, hds, hvs, hb'⟩ := key3 A (by omega) o2.R hd old2 wf2 (by subst hA; exact h3) (by subst hA; rfl) (by subst hA; rfl) (by subst hA; rfl)
    subst hx
    rw [e3]
    clear key3 e3
    simp (disch := omega) only [bindX_normal, blkX_exit, ↓reduceIte, ↓bindX_normal]
    have bd : ∀ {m : List Int}, Dg m → ∀ x ∈ m, -4000000000000000000 ≤ x ∧ x ≤ 4000000000000000000 := fun h x hx => by have := h x hx; unfold B at this; omega
    have old23 := old2.trans (old3.mono old2.1)
    rcases hb' with rfl | rfl
    · obtain ⟨v4, H4, e4, o4, old4, wf4⟩ := o3.pushI wf3 old3.1 (by unfold maxA; omega) 1
      obtain ⟨v5, H5, e5, o5, old5, wf5⟩ := signed_run wf4 o4.R (by rw [List.length_append, List.length_singleton]; omega) (bd (hds.app (Dg.one (by omega) (by unfold B; omega)))) true n (by omega)
      have old24 := old23.trans (old4.mono old2.1)
      simp (disch := omega) only [binS_eql, bindO_some, bindF_some, bindX_normal, condX_true, upd_at, Option.map_some, ↓reduceIte, Nat.reduceEqDiff, decide_true, ↓bindO_some, ↓bindF_some, ↓bindX_normal, ↓condX_true, fin_r, res_nil, res_tmp, pack_1, h12, h13, e4, e5, o5.R.scal]
      refine ⟨_, _, rfl, ?_, old24.trans (old5.mono old24.1), wf5⟩
      have := nf_of_neg (l := sz ++ [1]) (z := val l) (hds.app (Dg.one (by omega) (by unfold B; omega))) (by rw [val_snoc, hvs, hsl]; omega)
      rw [← this]
      exact o5.below old24.1
    · obtain ⟨v5, H5, e5, o5, old5, wf5⟩ := signed_run wf3 o3.R (by omega) (bd hds) true n (by omega)
      have hone : ¬ (1 : Int) = 0 := by omega
      simp (disch := omega) only [binS_eql, bindO_some, bindF_some, bindX_normal, condX_false, upd_at, Option.map_some, ↓reduceIte, Nat.reduceEqDiff, decide_false, ↓bindO_some, ↓bindF_some, ↓bindX_normal, ↓condX_false, fin_r, res_nil, res_tmp, pack_1, h12, h13, e5, hone, o5.R.scal]
      refine ⟨_, _, rfl, ?_, old23.trans (old5.mono old23.1), wf5⟩
      have := nf_of_neg (l := sz) (z := val l) hds (by rw [hvs]; omega)
      rw [← this]
      exact o5.below old23.1
end Go.Proofs.Ytmmgdgmjkhcfaaa
namespace Go.Proofs.Ytmmgdgmjkhcfaaa
open Go Go.Abs Go.Num
set_option maxRecDepth 10000
attribute [local congr] bindO_congr bindF_congr bindX_congr condX_congr iteB_congr binS_congr pickS_congr
def NumV (H : Heap) (v : Value) (z : Int) : Prop := ∃ l, R H v (ints l) ∧ val l = z ∧ l.length ≤ 900 ∧ ∀ x ∈ l, -4000000000000000000 ≤ x ∧ x ≤ 4000000000000000000
theorem NumV.norm {H : Heap} {v : Value} {z : Int} (h : NumV H v z) (hw : WF H) (n : Nat) (hn : 2003 ≤ n) : OneL H (evB Try.prog noC n (.func (.func 80) #[] #[]) [v] H) (nf z) := by
  obtain ⟨l, hr, hz, hl, hb⟩ := h
  rw [← hz]
  exact norm_run hw hr hl hb n hn
theorem NumV.mono {H H' : Heap} {v : Value} {z : Int} (h : NumV H v z) (ho : Old H.length H H') : NumV H' v z := by
  obtain ⟨l, hr, h⟩ := h
  exact ⟨l, hr.mono ho, h⟩
theorem NumV.of {H : Heap} {v : Value} {z : Int} (h : R H v (ints (nf z))) (hl : (nf z).length ≤ 900) : NumV H v z :=
  ⟨nf z, h, nf_val z, hl, fun x hx => by have := nf_bound z x hx; unfold B at this; omega⟩
theorem NumV.one {H : Heap} {v : Value} {z : Int} (h : R H v (ints [z])) (h1 : -4000000000000000000 ≤ z) (h2 : z ≤ 4000000000000000000) : NumV H v z :=
  ⟨[z], h, by simp [val], by simp, fun x hx => by simp at hx; subst hx; exact ⟨h1, h2⟩⟩
theorem nfb (z : Int) : ∀ x ∈ nf z, -4000000000000000000 ≤ x ∧ x ≤ 4000000000000000000 := fun x hx => by have := nf_bound z x hx; unfold B at this; omega
noncomputable def addA : Code := atC [1, 1, 1, 0, 1, 0, 0] ((Try.f65.body).getD .skip)
theorem add_loop {H0 : Heap} {vx vy : Value} {x y : Int} (hw0 : WF H0) (hx : R H0 vx (ints (nf x))) (hy : R H0 vy (ints (nf y))) (lx : (nf x).length ≤ 900) (ly : (nf y).length ≤ 900) (call : CallF) (m nt : Nat) {a : Fr} {k : Nat} (hk : max (nf x).length (nf y).length < k)
    (h0 : a 0 = vx) (h1 : a 1 = vy) (h5 : a 5 = .slice none 0 0) (h6 : a 6 = vi (0 : Nat)) :
    ∃ r a' H', loopN (evS Try.prog call m nt none addA) k a H0 = some (r, a', H') ∧ r = .exit 0 ∧ ∃ vo out, a' 5 = vo ∧ O H0.length H' vo (ints out) ∧ Old H0.length H0 H' ∧ WF H' ∧ out.length ≤ 900 ∧ val out = x + y ∧ ∀ z ∈ out, -4000000000000000000 ≤ z ∧ z ≤ 4000000000000000000 := by
  refine loop_up (max (nf x).length (nf y).length) (fun i a H' => a 0 = vx ∧ a 1 = vy ∧ a 6 = vi i ∧ ∃ vo out, a 5 = vo ∧ O H0.length H' vo (ints out) ∧ Old H0.length H0 H' ∧ WF H' ∧ out.length = i ∧ val out = val ((nf x).take i) + val ((nf y).take i) ∧ ∀ z ∈ out, -4000000000000000000 ≤ z ∧ z ≤ 4000000000000000000) _ ?_ ?_ hk
    ⟨h0, h1, h6, _, [], h5, O.nil _ _, Old.refl _ _, hw0, rfl, by simp [val], fun z hz => by cases hz⟩
  · intro i a H' hi ⟨h0, h1, h6, vo, out, h5, ho, old, hw, hol, hval, hb⟩
    left
    rw [show addA = atC [1, 1, 1, 0, 1, 0, 0] ((Try.f65.body).getD .skip) from rfl]
    have hx2 := hx.keep (Nat.le_refl _) old
    have hy2 := hy.keep (Nat.le_refl _) old
    have bx := nf_getD x i
    have by_ := nf_getD y i
    have e3 : IntKind.i64.wrap ((i : Int) + 1) = ((i + 1 : Nat) : Int) := by rw [wr64 (by omega) (by omega)]; omega
    have e4 : IntKind.i64.wrap ((nf x).getD i 0 + (nf y).getD i 0) = (nf x).getD i 0 + (nf y).getD i 0 := wr64 (by omega) (by omega)
    have e5 : IntKind.i64.wrap (0 + (nf y).getD i 0) = 0 + (nf y).getD i 0 := wr64 (by omega) (by omega)
    have hv2 := fun z => val_snoc out z
    have ht1 := val_take_succ (nf x) i
    have ht2 := val_take_succ (nf y) i
    have hml := fun p : Int => Int.mul_add p ((nf x).getD i 0) ((nf y).getD i 0)
    have hb' : ∀ z, -4000000000000000000 ≤ z → z ≤ 4000000000000000000 → ∀ w ∈ out ++ [z], -4000000000000000000 ≤ w ∧ w ≤ 4000000000000000000 := fun z z1 z2 w hw => by
      rcases List.mem_append.1 hw with h | h
      · exact hb w h
      · simp at h; subst h; exact ⟨z1, z2⟩
    by_cases c1 : (i : Int) < (nf x).length
    · by_cases c2 : (i : Int) < (nf y).length
      · obtain ⟨v2, H2, ep, o2, old2, wf2⟩ := ho.pushI hw old.1 (by unfold maxA; omega) ((nf x).getD i 0 + (nf y).getD i 0)
        simp (disch := omega) only [Try.f65, Option.getD_some, atC, es_seq, es_region, es_cond, es_block, es_skip, ops_nil, ops_cons, ops_consG, st_move, st_assign, sy_pick, pickS_true, sy_len uL, sy_addr eL, sy_load aI, sy_bin, sy_append eL pI, sy_build1 eL oI, binS_lss, binS_add, bindO_some, bindF_some, bindX_normal, blkX_normal, condX_true, iteB_false, ev_tmp, ev_const, putA, upd_at, Option.map_some, ↓reduceIte, Nat.reduceEqDiff, Int.toNat_natCast, decide_true, Bool.not_true, yieldO_eq, yO, yV_bool, some_false, List.getElem?_cons_zero, List.getElem?_cons_succ, ↓bindO_some, ↓bindF_some, ↓bindX_normal, ↓condX_true, ↓iteB_false, scal_vi, h0, h1, h5, h6, hx2.lenI, hy2.lenI, c1, c2, hx2.addrI, hx2.loadI, hy2.addrI, hy2.loadI, e3, e4, ep]
        exact ⟨_, _, rfl, by simp only [upd_get, ↓reduceIte, Nat.reduceEqDiff, h0], by simp only [upd_get, ↓reduceIte, Nat.reduceEqDiff, h1], by simp only [upd_get, ↓reduceIte], v2, _, by simp only [upd_get, ↓reduceIte, Nat.reduceEqDiff], o2, old.trans old2, wf2, by simp [hol], by rw [hv2, hol, hval, ht1, ht2, hml]; omega, hb' _ (by omega) (by omega)⟩
      · have hz : (nf y).getD i 0 = 0 := by rw [List.getD_eq_getElem?_getD, List.getElem?_eq_none (by omega)]; rfl
        obtain ⟨v2, H2, ep, o2, old2, wf2⟩ := ho.pushI hw old.1 (by unfold maxA; omega) ((nf x).getD i 0)
        simp (disch := omega) only [Try.f65, Option.getD_some, atC, es_seq, es_region, es_cond, es_block, es_skip, ops_nil, ops_cons, ops_consG, st_move, st_assign, sy_pick, pickS_true, sy_len uL, sy_addr eL, sy_load aI, sy_bin, sy_append eL pI, sy_build1 eL oI, binS_lss, binS_add, bindO_some, bindF_some, bindX_normal, blkX_normal, condX_true, condX_false, iteB_false, ev_tmp, ev_const, putA, upd_at, Option.map_some, ↓reduceIte, Nat.reduceEqDiff, Int.toNat_natCast, decide_true, decide_false, Bool.not_true, yieldO_eq, yO, yV_bool, some_false, List.getElem?_cons_zero, List.getElem?_cons_succ, ↓bindO_some, ↓bindF_some, ↓bindX_normal, ↓condX_true, ↓condX_false, ↓iteB_false, scal_vi, h0, h1, h5, h6, hx2.lenI, hy2.lenI, c1, c2, hx2.addrI, hx2.loadI, e3, ep]
        exact ⟨_, _, rfl, by simp only [upd_get, ↓reduceIte, Nat.reduceEqDiff, h0], by simp only [upd_get, ↓reduceIte, Nat.reduceEqDiff, h1], by simp only [upd_get, ↓reduceIte], v2, _, by simp only [upd_get, ↓reduceIte, Nat.reduceEqDiff], o2, old.trans old2, wf2, by simp [hol], by rw [hv2, hol, hval, ht1, ht2, hz]; omega, hb' _ (by omega) (by omega)⟩
    · have c2 : (i : Int) < (nf y).length := by omega
      have hz : (nf x).getD i 0 = 0 := by rw [List.getD_eq_getElem?_getD, List.getElem?_eq_none (by omega)]; rfl
      obtain ⟨v2, H2, ep, o2, old2, wf2⟩ := ho.pushI hw old.1 (by unfold maxA; omega) (0 + (nf y).getD i 0)
      simp (disch := omega) only [Try.f65, Option.getD_some, atC, es_seq, es_region, es_cond, es_block, es_skip, ops_nil, ops_cons, ops_consG, st_move, st_assign, sy_pick, pickS_false, sy_len uL, sy_addr eL, sy_load aI, sy_bin, sy_append eL pI, sy_build1 eL oI, binS_lss, binS_add, bindO_some, bindF_some, bindX_normal, blkX_normal, condX_true, condX_false, iteB_true, ev_tmp, ev_const, putA, upd_at, Option.map_some, ↓reduceIte, Nat.reduceEqDiff, Int.toNat_natCast, decide_true, decide_false, yieldO_eq, yO, yV_bool, List.getElem?_cons_zero, List.getElem?_cons_succ, beq_self_eq_true, ↓bindO_some, ↓bindF_some, ↓bindX_normal, ↓condX_true, ↓condX_false, ↓iteB_true, scal_vi, h0, h1, h5, h6, hx2.lenI, hy2.lenI, c1, c2, hy2.addrI, hy2.loadI, e3, e5, ep]
      exact ⟨_, _, rfl, by simp only [upd_get, ↓reduceIte, Nat.reduceEqDiff, h0], by simp only [upd_get, ↓reduceIte, Nat.reduceEqDiff, h1], by simp only [upd_get, ↓reduceIte], v2, _, by simp only [upd_get, ↓reduceIte, Nat.reduceEqDiff], o2, old.trans old2, wf2, by simp [hol], by rw [hv2, hol, hval, ht1, ht2, hz, Int.zero_add]; omega, hb' _ (by omega) (by omega)⟩
  · intro a H' ⟨h0, h1, h6, vo, out, h5, ho, old, hw, hol, hval, hb⟩
    rw [show addA = atC [1, 1, 1, 0, 1, 0, 0] ((Try.f65.body).getD .skip) from rfl]
    have hx2 := hx.keep (Nat.le_refl _) old
    have hy2 := hy.keep (Nat.le_refl _) old
    have c1 : ¬ ((max (nf x).length (nf y).length : Nat) : Int) < (nf x).length := by omega
    have c2 : ¬ ((max (nf x).length (nf y).length : Nat) : Int) < (nf y).length := by omega
    simp (disch := omega) only [Try.f65, Option.getD_some, atC, es_seq, es_region, es_cond, es_exit, ops_nil, ops_cons, ops_consG, st_move, sy_pick, pickS_false, sy_len uL, sy_bin, binS_lss, bindO_some, bindF_some, bindX_normal, bindX_exit, condX_false, iteB_true, ev_tmp, putA, upd_at, Option.map_some, ↓reduceIte, Nat.reduceEqDiff, decide_false, yieldO_eq, yO, yV_bool, List.getElem?_cons_zero, List.getElem?_cons_succ, beq_self_eq_true, ↓bindO_some, ↓bindF_some, ↓bindX_normal, ↓bindX_exit, ↓condX_false, ↓iteB_true, h0, h1, h6, hx2.lenI, hy2.lenI, c1, c2]
    refine ⟨_, _, _, rfl, by simp, rfl, vo, out, by simp only [upd_get, ↓reduceIte, Nat.reduceEqDiff, h5], ho, old, hw, by omega, ?_, hb⟩
    rw [hval, List.take_of_length_le (by omega), List.take_of_length_le (by omega), nf_val, nf_val]
theorem add_run {H : Heap} {vx vy : Value} {x y : Int} (hw : WF H) (hx : NumV H vx x) (hy : NumV H vy y) (lx : (nf x).length ≤ 900) (ly : (nf y).length ≤ 900) (n : Nat) (hn : 2004 ≤ n) :
    OneL H (evB Try.prog noC n (.func (.func 65) #[] #[]) [vx, vy] H) (nf (x + y)) := by
  refine run_of (F := 2003) (Q := fun r => OneL H r (nf (x + y))) (fun n hn => ?_) n hn
  rw [body_runS Try.func65 rfl (ok_fn (by rfl) Try.func65 rfl) (Nat.le_of_ble_eq_true rfl) (D := D0) (by kernel_rfl)]
  obtain ⟨v1, H1, e1, o1, old1, wf1⟩ := hx.norm hw n (by omega)
  obtain ⟨v2, H2, e2, o2, old2, wf2⟩ := (hy.mono old1).norm wf1 n (by omega)
  have old12 := old1.trans (old2.mono old1.1)
  have key := fun (A : Fr) => add_loop wf2 (o1.R.mono old2) o2.R lx ly (evB Try.prog noC n) n Try.f65.ntmps (a := A) (k := n) (by omega)
  rw [show addA = atC [1, 1, 1, 0, 1, 0, 0] ((Try.f65.body).getD .skip) from rfl] at key
  simp only [Try.f65, Option.getD_some, atC] at key
  simp (disch := omega) only [Try.f65, es_seq, es_region, es_block, es_loop, es_ret, ops_nil, ops_cons, st_move, st_assign, st_fun, bindO_some, bindF_some, bindX_normal, ev_tmp, ev_const, ev_func, putA, upd_at, ↓reduceIte, Nat.reduceEqDiff, frOf_0, frOf_1, List.map_cons, List.map_nil, ↓bindO_some, ↓bindF_some, ↓bindX_normal, e1, e2]
  generalize hA : upd _ 6 _ = A
  obtain ⟨r, a', H', e, hr, vo, out, h5, ho, old, hwf, hol, hval, hb⟩ := key A (by subst hA; rfl) (by subst hA; rfl) (by subst hA; rfl) (by subst hA; rfl)
  subst hr
  rw [e]
  obtain ⟨v3, H3, e3, o3, old3, wf3⟩ := norm_run hwf ho.R hol hb n (by omega)
  simp (disch := omega) only [bindO_some, bindF_some, bindX_normal, blkX_exit, upd_at, Option.map_some, ↓reduceIte, ↓bindO_some, ↓bindF_some, ↓bindX_normal, fin_r, res_nil, res_tmp, pack_1, h5, e3, o3.R.scal]
  have old' := old12.trans (old.mono old12.1)
  refine ⟨_, _, rfl, ?_, old'.trans (old3.mono old'.1), wf3⟩
  rw [← hval]
  exact o3.below old'.1
end Go.Proofs.Ytmmgdgmjkhcfaaa
namespace Go.Proofs.Ytmmgdgmjkhcfaaa
open Go Go.Abs Go.Num
set_option maxRecDepth 10000
attribute [local congr] bindO_congr bindF_congr bindX_congr condX_congr iteB_congr binS_congr pickS_congr
theorem zeros_I : ∀ n : Nat, zeros Try.prog 3 1 n = some (ints (List.replicate n 0)) := by
  have h : ∀ n : Nat, repl n [vi 0] = ints (List.replicate n 0) := by
    intro n
    induction n with
    | zero => rfl
    | succ n ih => rw [repl, ih, List.replicate_succ]; rfl
  intro n
  have e : zeros Try.prog 3 1 n = some (repl n [vi 0]) := by
    have h0 : zeroT Try.prog 3 = some (vi 0) := by kernel_rfl
    unfold zeros
    rw [h0]
    rfl
  rw [e, h]
theorem val_zeros (n : Nat) : val (List.replicate n 0) = 0 := by
  induction n with
  | zero => rfl
  | succ n ih => rw [List.replicate_succ]; simp [val, ih]
noncomputable def mulA : Code := atC [1, 1, 1, 0, 1, 0, 0] ((Try.f68.body).getD .skip)
noncomputable def mulB : Code := atC [1, 1, 1, 0, 1, 0, 0, 1, 0, 0, 1, 0, 1, 0, 0] ((Try.f68.body).getD .skip)
theorem prod_bd {a b : Int} (ha : -100000000 < a ∧ a < 100000000) (hb : -100000000 < b ∧ b < 100000000) : -10000000000000000 ≤ a * b ∧ a * b ≤ 10000000000000000 := by
  have h1 : a.natAbs ≤ 100000000 := by omega
  have h2 : b.natAbs ≤ 100000000 := by omega
  have h3 : a.natAbs * b.natAbs ≤ 100000000 * 100000000 := Nat.mul_le_mul h1 h2
  have h4 : (a * b).natAbs = a.natAbs * b.natAbs := Int.natAbs_mul a b
  omega
theorem mul_inner {H0 : Heap} {vx vy vr : Value} {x y : Int} {i : Nat} {row0 : List Int} (hx : R H0 vx (ints (nf x))) (hy : R H0 vy (ints (nf y))) (hi : i < (nf x).length) (lx : (nf x).length ≤ 400) (ly : (nf y).length ≤ 400)
    {B0 : Nat} {H : Heap} (hB0 : H0.length ≤ B0) (old0 : Old B0 H0 H) (hBH : B0 ≤ H.length) (hw : WF H) (ho : O B0 H vr (ints row0)) (hr0 : row0.length = i) (hv0 : val row0 = 0) (hz0 : ∀ z ∈ row0, -10000000000000000 ≤ z ∧ z ≤ 10000000000000000) (call : CallF) (m nt : Nat) {a : Fr} {k : Nat} (hk : (nf y).length < k)
    (h0 : a 0 = vx) (h1 : a 1 = vy) (h6 : a 6 = vi i) (h7 : a 7 = vr) (h8 : a 8 = vi (0 : Nat)) (v5 : Value) (h5 : a 5 = v5) :
    ∃ r a' H', loopN (evS Try.prog call m nt none mulB) k a H = some (r, a', H') ∧ r = .exit 2 ∧ a' 0 = vx ∧ a' 1 = vy ∧ a' 6 = vi i ∧ a' 5 = v5 ∧ ∃ vo out, a' 7 = vo ∧ O B0 H' vo (ints out) ∧ Old B0 H H' ∧ WF H' ∧ out.length ≤ 900 ∧ val out = B ^ i * ((nf x).getD i 0 * y) ∧ (∀ z ∈ out, -10000000000000000 ≤ z ∧ z ≤ 10000000000000000) := by
  refine loop_up (nf y).length (fun j a H' => a 0 = vx ∧ a 1 = vy ∧ a 6 = vi i ∧ a 5 = v5 ∧ a 8 = vi j ∧ ∃ vo out, a 7 = vo ∧ O B0 H' vo (ints out) ∧ Old B0 H H' ∧ WF H' ∧ out.length = i + j ∧ val out = B ^ i * ((nf x).getD i 0 * val ((nf y).take j)) ∧ (∀ z ∈ out, -10000000000000000 ≤ z ∧ z ≤ 10000000000000000)) _ ?_ ?_ hk
    ⟨h0, h1, h6, h5, h8, _, row0, h7, ho, Old.refl _ _, hw, hr0, by simp [val, hv0], hz0⟩
  · intro j a H' hj ⟨h0, h1, h6, h5, h8, vo, out, h7, ho, old, hw, hol, hval, hb⟩
    left
    rw [show mulB = atC [1, 1, 1, 0, 1, 0, 0, 1, 0, 0, 1, 0, 1, 0, 0] ((Try.f68.body).getD .skip) from rfl]
    have hx2 := hx.keep hB0 (old0.trans old)
    have hy2 := hy.keep hB0 (old0.trans old)
    have bx := nf_getD x i
    have by_ := nf_getD y j
    have bp := prod_bd bx by_
    have hlt : (j : Int) < (nf y).length := by omega
    have e3 : IntKind.i64.wrap ((j : Int) + 1) = ((j + 1 : Nat) : Int) := by rw [wr64 (by omega) (by omega)]; omega
    have e4 : IntKind.i64.wrap ((nf x).getD i 0 * (nf y).getD j 0) = (nf x).getD i 0 * (nf y).getD j 0 := wr64 (by omega) (by omega)
    obtain ⟨v2, H2, ep, o2, old2, wf2⟩ := ho.pushI hw (Nat.le_trans hBH old.1) (by unfold maxA; omega) ((nf x).getD i 0 * (nf y).getD j 0)
    simp (disch := omega) only [Try.f68, Option.getD_some, atC, es_seq, es_region, es_draw, d0, es_cond, es_block, es_skip, ops_nil, ops_cons, opsV_nil, opsV_cons, st_move, st_assign, sy_len uL, sy_addr eL, sy_load aI, sy_bin, sy_append eL pI, sy_build1 eL oI, binS_lss, binS_add, binS_mul, bindO_some, bindF_some, bindX_normal, blkX_normal, condX_true, iteB_true, iteB_false, ev_tmp, ev_const, putA, upd_at, Option.map_some, ↓reduceIte, Nat.reduceEqDiff, Int.toNat_natCast, decide_true, ↓bindO_some, ↓bindF_some, ↓bindX_normal, ↓condX_true, ↓iteB_true, ↓iteB_false, reflV_load, reflV_move, reflV_assign, reflV_bin, reflV_addr, reflV_call, reflV_build, vEq_vi, scal_vi, h0, h1, h6, h7, h8, hy2.lenI, hlt, hx2.addrI, hx2.loadI, hy2.addrI, hy2.loadI, e3, e4, ep]
    refine ⟨_, _, rfl, by simp only [upd_get, ↓reduceIte, Nat.reduceEqDiff, h0], by simp only [upd_get, ↓reduceIte, Nat.reduceEqDiff, h1], by simp only [upd_get, ↓reduceIte, Nat.reduceEqDiff, h6], by simp only [upd_get, ↓reduceIte, Nat.reduceEqDiff, h5], by simp only [upd_get, ↓reduceIte], v2, _, by simp only [upd_get, ↓reduceIte, Nat.reduceEqDiff], o2, old.trans old2, wf2, by rw [List.length_append, List.length_singleton]; omega, ?_, fun w hw => ?_⟩
    · rw [val_snoc, hol, hval, val_take_succ, Int.mul_add, Int.mul_add, Int.pow_add]
      congr 1
      rw [Int.mul_assoc, Int.mul_left_comm (B ^ j)]
    · rcases List.mem_append.1 hw with h | h
      · exact hb w h
      · simp at h; subst h; simpa using bp
  · intro a H' ⟨h0, h1, h6, h5, h8, vo, out, h7, ho, old, hw, hol, hval, hb⟩
    rw [show mulB = atC [1, 1, 1, 0, 1, 0, 0, 1, 0, 0, 1, 0, 1, 0, 0] ((Try.f68.body).getD .skip) from rfl]
    have hy2 := hy.keep hB0 (old0.trans old)
    simp (disch := omega) only [Try.f68, Option.getD_some, atC, es_seq, es_region, es_cond, es_exit, ops_nil, ops_cons, st_move, sy_len uL, sy_bin, binS_lss, bindO_some, bindF_some, bindX_normal, bindX_exit, condX_false, ev_tmp, putA, upd_at, Option.map_some, ↓reduceIte, Nat.reduceEqDiff, decide_false, ↓bindO_some, ↓bindF_some, ↓bindX_normal, ↓bindX_exit, ↓condX_false, h1, h8, hy2.lenI, Int.lt_irrefl]
    exact ⟨_, _, _, rfl, by simp, rfl, by simp only [upd_get, ↓reduceIte, Nat.reduceEqDiff, h0], by simp only [upd_get, ↓reduceIte, Nat.reduceEqDiff, h1], by simp only [upd_get, ↓reduceIte, Nat.reduceEqDiff, h6], by simp only [upd_get, ↓reduceIte, Nat.reduceEqDiff, h5], vo, out, by simp only [upd_get, ↓reduceIte, Nat.reduceEqDiff, h7], ho, old, hw, by omega, by rw [hval, List.take_length, nf_val], hb⟩
theorem mul_outer {H0 : Heap} {vx vy : Value} {x y : Int} (hw0 : WF H0) (hx : R H0 vx (ints (nf x))) (hy : R H0 vy (ints (nf y))) (lx : (nf x).length ≤ 400) (ly : (nf y).length ≤ 400) (n m nt : Nat) (hn : 2010 ≤ n) (hm : 1000 ≤ m) {a : Fr} {k : Nat} (hk : (nf x).length < k)
    (h0 : a 0 = vx) (h1 : a 1 = vy) (h5 : a 5 = .slice none 0 0) (h6 : a 6 = vi (0 : Nat)) :
    ∃ r a' H', loopN (evS Try.prog (evB Try.prog noC n) m nt none mulA) k a H0 = some (r, a', H') ∧ r = .exit 0 ∧ ∃ vo, a' 5 = vo ∧ R H' vo (ints (nf (x * y))) ∧ Old H0.length H0 H' ∧ WF H' := by
  refine loop_up (nf x).length (fun i a H' => a 0 = vx ∧ a 1 = vy ∧ a 6 = vi i ∧ ∃ vo, a 5 = vo ∧ R H' vo (ints (nf (val ((nf x).take i) * y))) ∧ Old H0.length H0 H' ∧ WF H') _ ?_ ?_ hk
    ⟨h0, h1, h6, _, h5, by simp [val, nf_zero]; exact .inl ⟨rfl, rfl⟩, Old.refl _ _, hw0⟩
  · intro i a H' hi ⟨h0, h1, h6, vo, h5, ho, old, hw⟩
    left
    rw [show mulA = atC [1, 1, 1, 0, 1, 0, 0] ((Try.f68.body).getD .skip) from rfl]
    have hx2 := hx.keep (Nat.le_refl _) old
    have hy2 := hy.keep (Nat.le_refl _) old
    have hlt : (i : Int) < (nf x).length := by omega
    have e3 : IntKind.i64.wrap ((i : Int) + 1) = ((i + 1 : Nat) : Int) := by rw [wr64 (by omega) (by omega)]; omega
    have hm1 : (i : Int) ≤ 1048576 := by omega
    have hz := zeros_I i
    have hlr : (ints (List.replicate i (0 : Int))).length = i := by rw [ints_len, List.length_replicate]
    have or := O.made (B := H'.length) (Nat.le_refl _) (ints (List.replicate i (0 : Int)))
    rw [hlr] at or
    have oldr := Old.app H' [.cells H'.length true (ints (List.replicate i (0 : Int)))]
    have wfr := hw.app (Nat.le_refl H'.length) (o := true) (cs := ints (List.replicate i (0 : Int)))
    have key := fun (A : Fr) => mul_inner hx2 hy2 hi lx ly (Nat.le_refl _) oldr oldr.1 wfr or (List.length_replicate ..) (val_zeros i) (fun z hz => by have := List.eq_of_mem_replicate hz; omega) (evB Try.prog noC n) m nt (a := A) (k := m) (by omega)
    rw [show mulB = atC [1, 1, 1, 0, 1, 0, 0, 1, 0, 0, 1, 0, 1, 0, 0] ((Try.f68.body).getD .skip) from rfl] at key
    simp only [Try.f68, Option.getD_some, atC] at key
    simp (disch := omega) only [Try.f68, Option.getD_some, atC, es_seq, es_region, es_cond, es_block, es_loop, es_skip, ops_nil, ops_cons, st_move, st_assign, st_fun, sy_len uL, sy_bin, sy_make eL yI (by decide), binS_lss, bindO_some, bindF_some, bindX_normal, condX_true, ev_tmp, ev_const, ev_func, putA, upd_at, Option.map_some, ↓reduceIte, Nat.reduceEqDiff, Int.toNat_natCast, Int.natCast_nonneg, List.map_cons, List.map_nil, decide_true, ↓bindO_some, ↓bindF_some, ↓bindX_normal, ↓condX_true, h0, h6, hx2.lenI, hlt, hm1, Int.le_refl, and_true, hz]
    generalize hA : upd _ 8 _ = A
    obtain ⟨r, a2, H2, e, hr, g0, g1, g6, g5, v7, out, h7, o2, old2, wf2, hol, hval, hb⟩ := key A (by subst hA; exact h0) (by subst hA; exact h1) (by subst hA; exact h6) (by subst hA; rfl) (by subst hA; rfl) vo (by subst hA; exact h5)
    subst hr
    rw [e]
    clear key e
    have oldo := oldr.trans old2
    have hl1 := nf_len_mul (val ((nf x).take i)) y
    have hl2 := take_len x i
    have hl3 : (nf (val out)).length ≤ 900 := by
      rw [hval]
      have e1 := nf_len_mul (B ^ i) ((nf x).getD i 0 * y)
      have e2 := nf_len_mul ((nf x).getD i 0) y
      have e4 : (nf (B ^ i)).length ≤ i + 1 := nf_len (by have := pow_pos i; have := pow_pos (i + 1); omega) (by rw [pow_succ']; have := pow_pos i; omega)
      have e5 : (nf ((nf x).getD i 0)).length ≤ 1 := nf_len (by rw [show B ^ 1 = 100000000 from rfl]; exact (nf_getD x i).1) (by rw [show B ^ 1 = 100000000 from rfl]; exact (nf_getD x i).2)
      omega
    obtain ⟨v3, H3, e3', o3, old3, wf3⟩ := add_run wf2 (.of (ho.mono oldo) (by omega)) ⟨out, o2.R, rfl, hol, fun z hz => by have := hb z hz; omega⟩ (by omega) hl3 n (by omega)
    simp (disch := omega) only [binS_add, bindO_some, bindF_some, bindX_normal, blkX_normal, blkX_exit, upd_at, ↓reduceIte, Nat.reduceEqDiff, ↓bindO_some, ↓bindF_some, ↓bindX_normal, g5, g6, h7, e3', e3]
    have oldf := oldo.trans (old3.mono oldo.1)
    refine ⟨_, _, rfl, by simp only [upd_get, ↓reduceIte, Nat.reduceEqDiff, g0], by simp only [upd_get, ↓reduceIte, Nat.reduceEqDiff, g1], by simp only [upd_get, ↓reduceIte], v3, by simp only [upd_get, ↓reduceIte, Nat.reduceEqDiff], ?_, old.trans (oldf.mono old.1), wf3⟩
    have e6 : val ((nf x).take (i + 1)) * y = val ((nf x).take i) * y + val out := by
      rw [val_take_succ, Int.add_mul, hval, Int.mul_assoc]
    rw [e6]
    exact o3.R
  · intro a H' ⟨h0, h1, h6, vo, h5, ho, old, hw⟩
    rw [show mulA = atC [1, 1, 1, 0, 1, 0, 0] ((Try.f68.body).getD .skip) from rfl]
    have hx2 := hx.keep (Nat.le_refl _) old
    simp (disch := omega) only [Try.f68, Option.getD_some, atC, es_seq, es_region, es_cond, es_exit, ops_nil, ops_cons, st_move, sy_len uL, sy_bin, binS_lss, bindO_some, bindF_some, bindX_normal, bindX_exit, condX_false, ev_tmp, putA, upd_at, Option.map_some, ↓reduceIte, Nat.reduceEqDiff, decide_false, ↓bindO_some, ↓bindF_some, ↓bindX_normal, ↓bindX_exit, ↓condX_false, h0, h6, hx2.lenI, Int.lt_irrefl]
    exact ⟨_, _, _, rfl, by simp, rfl, vo, by simp only [upd_get, ↓reduceIte, Nat.reduceEqDiff, h5], by rw [List.take_length, nf_val] at ho; exact ho, old, hw⟩
theorem mul_run {H : Heap} {vx vy : Value} {x y : Int} (hw : WF H) (hx : NumV H vx x) (hy : NumV H vy y) (lx : (nf x).length ≤ 400) (ly : (nf y).length ≤ 400) (n : Nat) (hn : 2011 ≤ n) :
    OneL H (evB Try.prog noC n (.func (.func 68) #[] #[]) [vx, vy] H) (nf (x * y)) := by
  refine run_of (F := 2010) (Q := fun r => OneL H r (nf (x * y))) (fun n hn => ?_) n hn
  rw [body_runS Try.func68 rfl (ok_fn (by rfl) Try.func68 rfl) (Nat.le_of_ble_eq_true rfl) (D := D0) (by kernel_rfl)]
  obtain ⟨v1, H1, e1, o1, old1, wf1⟩ := hx.norm hw n (by omega)
  obtain ⟨v2, H2, e2, o2, old2, wf2⟩ := (hy.mono old1).norm wf1 n (by omega)
  have old12 := old1.trans (old2.mono old1.1)
  have key := fun (A : Fr) => mul_outer wf2 (o1.R.mono old2) o2.R lx ly n n Try.f68.ntmps (by omega) (by omega) (a := A) (k := n) (by omega)
  rw [show mulA = atC [1, 1, 1, 0, 1, 0, 0] ((Try.f68.body).getD .skip) from rfl] at key
  simp only [Try.f68, Option.getD_some, atC] at key
  simp (disch := omega) only [Try.f68, es_seq, es_region, es_block, es_loop, es_ret, ops_nil, ops_cons, st_move, st_assign, st_fun, bindO_some, bindF_some, bindX_normal, ev_tmp, ev_const, ev_func, putA, upd_at, ↓reduceIte, Nat.reduceEqDiff, frOf_0, frOf_1, List.map_cons, List.map_nil, ↓bindO_some, ↓bindF_some, ↓bindX_normal, e1, e2]
  generalize hA : upd _ 6 _ = A
  obtain ⟨r, a', H', e, hr, vo, h5, ho, old, hwf⟩ := key A (by subst hA; rfl) (by subst hA; rfl) (by subst hA; rfl) (by subst hA; rfl)
  subst hr
  rw [e]
  have hlm := nf_len_mul x y
  obtain ⟨v3, H3, e3, o3, old3, wf3⟩ := norm_run hwf ho (by omega) (nfb _) n (by omega)
  simp (disch := omega) only [bindO_some, bindF_some, bindX_normal, blkX_exit, upd_at, Option.map_some, ↓reduceIte, ↓bindO_some, ↓bindF_some, ↓bindX_normal, fin_r, res_nil, res_tmp, pack_1, h5, e3, o3.R.scal]
  have old' := old12.trans (old.mono old12.1)
  refine ⟨_, _, rfl, ?_, old'.trans (old3.mono old'.1), wf3⟩
  rw [nf_val] at o3
  exact o3.below old'.1
end Go.Proofs.Ytmmgdgmjkhcfaaa
namespace Go.Proofs.Ytmmgdgmjkhcfaaa
open Go Go.Abs Go.Num
set_option maxRecDepth 10000
attribute [local congr] bindO_congr bindF_congr bindX_congr condX_congr iteB_congr binS_congr pickS_congr
theorem one_len {z : Int} (h0 : 0 ≤ z) (h1 : z < 100000000) : (nf z).length ≤ 1 := nf_len (by rw [show B ^ 1 = 100000000 from rfl]; omega) (by rw [show B ^ 1 = 100000000 from rfl]; omega)
def TwoL (H : Heap) (r : Option (Value × Heap)) (f : Value → Value → Value) (l m : List Int) : Prop := ∃ v1 v2 H', r = some (f v1 v2, H') ∧ O H.length H' v1 (ints l) ∧ O H.length H' v2 (ints m) ∧ Old H.length H H' ∧ WF H'
theorem natAbs_pos {x : Int} (h : 0 ≤ x) : (x.natAbs : Int) = x := by omega
end Go.Proofs.Ytmmgdgmjkhcfaaa
namespace Go.Proofs.Ytmmgdgmjkhcfaaa
open Go Go.Abs Go.Num
set_option maxRecDepth 10000
attribute [local congr] bindO_congr bindF_congr bindX_congr condX_congr iteB_congr binS_congr pickS_congr eqB_congr
theorem floored_run {z : Int} (h1 : -4000000000000000000 ≤ z) (h2 : z ≤ 4000000000000000000) (n : Nat) (H : Heap) (hn : 10 ≤ n) : evB Try.prog noC n (.func (.func 113) #[] #[]) [vi z] H = some (.tuple #[vi (z / 100000000), vi (z % 100000000)], H) := by
  refine run_of (F := 9) (Q := fun x => x = some (.tuple #[vi (z / 100000000), vi (z % 100000000)], H)) (fun n _ => ?_) n hn
  rw [body_runS Try.func113 rfl (ok_fn (by rfl) Try.func113 rfl) (Nat.le_of_ble_eq_true rfl) (D := D0) (by kernel_rfl)]
  by_cases hz : 0 ≤ z
  · have e1 : z.tdiv 100000000 = z / 100000000 := tdiv_pos hz _
    have e2 : z.tmod 100000000 = z % 100000000 := tmod_pos hz _
    have h3 : ¬ z % 100000000 < 0 := by omega
    simp (disch := omega) only [Try.f113, es_seq, es_region, es_cond, es_skip, es_ret, ops_nil, ops_cons, st_move, st_assign, sy_bin, binS_lss, binS_quo, binS_rem, bindO_some, bindF_some, bindX_normal, condX_false, ev_tmp, ev_const, putA, upd_at, Option.map_some, ↓reduceIte, Nat.reduceEqDiff, frOf_0, decide_false, ↓bindO_some, ↓bindF_some, ↓bindX_normal, ↓condX_false, fin_r, res_nil, res_tmp, pack_2, scal_vi, e1, e2, wr64, h3]
  · have e1 : z.tdiv 100000000 = -((-z) / 100000000) := by rw [tdiv_neg', tdiv_pos (by omega)]
    have e2 : z.tmod 100000000 = -((-z) % 100000000) := by rw [tmod_neg', tmod_pos (by omega)]
    by_cases h3 : -((-z) % 100000000) < 0
    · simp (disch := omega) only [Try.f113, es_seq, es_region, es_cond, es_ret, ops_nil, ops_cons, st_move, st_assign, sy_bin, binS_lss, binS_add, binS_sub, binS_quo, binS_rem, bindO_some, bindF_some, bindX_normal, bindX_ret, condX_true, ev_tmp, ev_const, putA, upd_at, Option.map_some, ↓reduceIte, Nat.reduceEqDiff, frOf_0, decide_true, ↓bindO_some, ↓bindF_some, ↓bindX_normal, ↓bindX_ret, ↓condX_true, fin_r, res_nil, res_tmp, pack_2, scal_vi, e1, e2, wr64, h3]
      rw [show -(-z / 100000000) - 1 = z / 100000000 from by omega, show -(-z % 100000000) + 100000000 = z % 100000000 from by omega]
    · simp (disch := omega) only [Try.f113, es_seq, es_region, es_cond, es_skip, es_ret, ops_nil, ops_cons, st_move, st_assign, sy_bin, binS_lss, binS_quo, binS_rem, bindO_some, bindF_some, bindX_normal, condX_false, ev_tmp, ev_const, putA, upd_at, Option.map_some, ↓reduceIte, Nat.reduceEqDiff, frOf_0, decide_false, ↓bindO_some, ↓bindF_some, ↓bindX_normal, ↓condX_false, fin_r, res_nil, res_tmp, pack_2, scal_vi, e1, e2, wr64, h3]
      rw [show -(-z / 100000000) = z / 100000000 from by omega, show -(-z % 100000000) = z % 100000000 from by omega]
noncomputable def trmA : Code := atC [1, 0, 0, 0] ((Try.f114.body).getD .skip)
theorem trimmed_run {C : Nat} {H : Heap} {v : Value} {l : List Int} (hv : RO C H v (ints l)) (hl : l.length ≤ 1000) (n : Nat) (hn : 2000 ≤ n) : ∃ v', evB Try.prog noC n (.func (.func 114) #[] #[]) [v] H = some (v', H) ∧ RO C H v' (ints (trimL l)) := by
  refine run_of (F := 1999) (Q := fun x => ∃ v', x = some (v', H) ∧ RO C H v' (ints (trimL l))) (fun n hn => ?_) n hn
  rw [body_runS Try.func114 rfl (ok_fn (by rfl) Try.func114 rfl) (Nat.le_of_ble_eq_true rfl) (D := D0) (by kernel_rfl)]
  have key : ∀ A : Fr, A 0 = v → ∃ x a' H', loopN (evS Try.prog (evB Try.prog noC n) n Try.f114.ntmps none trmA) n A H = some (x, a', H') ∧ x = .exit 0 ∧ H' = H ∧ ∃ v', a' 0 = v' ∧ RO C H v' (ints (trimL l)) := by
    intro A h0
    refine loop_wf (fun n a H' => H' = H ∧ ∃ v', a 0 = v' ∧ RO C H v' (ints (l.take n)) ∧ n ≤ l.length ∧ trimL (l.take n) = trimL l) _ ?_ n l.length A H (by omega) ⟨rfl, v, h0, by rw [List.take_length]; exact hv, Nat.le_refl _, by rw [List.take_length]⟩
    intro c a H' ⟨hH, v', h0, hr, hc, ht⟩
    subst hH
    have hlc : (l.take c).length = c := by rw [List.length_take]; omega
    have hlen := hr.R.lenI
    rw [hlc] at hlen
    rw [show trmA = atC [1, 0, 0, 0] ((Try.f114.body).getD .skip) from rfl]
    by_cases hz : c = 0
    · subst hz
      right
      have c1 : decide ((0 : Int) < ((0 : Nat) : Int)) = false := rfl
      simp (disch := omega) only [Try.f114, Option.getD_some, atC, es_seq, es_region, es_cond, es_exit, ops_nil, ops_cons, ops_consG, st_move, sy_pick, pickS_false, sy_len uL, sy_bin, binS_gtr, bindO_some, bindF_some, bindX_normal, bindX_exit, condX_false, iteB_false, ev_tmp, ev_const, putA, upd_at, Option.map_some, ↓reduceIte, Nat.reduceEqDiff, yieldO_eq, yO, yV_bool, some_true, List.getElem?_cons_zero, List.getElem?_cons_succ, ↓bindO_some, ↓bindF_some, ↓bindX_normal, ↓bindX_exit, ↓condX_false, ↓iteB_false, h0, hlen, c1]
      exact ⟨_, _, _, rfl, by simp, rfl, rfl, v', by simp only [upd_get, ↓reduceIte, Nat.reduceEqDiff, h0], by rw [← ht]; exact hr⟩
    · obtain ⟨d, rfl⟩ : ∃ d, c = d + 1 := ⟨c - 1, by omega⟩
      have c1 : (0 : Int) < ((d + 1 : Nat) : Int) := by omega
      have e1 : IntKind.i64.wrap (((d + 1 : Nat) : Int) - 1) = (d : Int) := by rw [wr64 (by omega) (by omega)]; omega
      have hx := take_snoc' (l := l) (c := d) (by omega)
      have a1 : addrS 1 v' (vi d) = some (pt v' d) := by have := hr.R.addrI (i := (d : Int)) (by omega) (by omega); simpa using this
      have l1 : loadS (pt v' d) H' = some (vi (l.getD d 0)) := by
        have := hr.R.loadI (i := d) (by omega)
        rw [this, hx, List.getD_eq_getElem?_getD, List.getElem?_append_right (by rw [List.length_take]; omega), List.length_take, Nat.min_eq_left (by omega), Nat.sub_self]
        rfl
      rw [hx, trimL_snoc] at ht
      by_cases hy : l.getD d 0 = 0
      · left
        rw [if_pos hy] at ht
        obtain ⟨v2, s2, r2⟩ := hr.upto (c := d) (by omega)
        rw [List.take_take, Nat.min_eq_left (by omega)] at r2
        simp (disch := omega) only [Try.f114, Option.getD_some, atC, es_seq, es_region, es_cond, es_block, es_skip, ops_nil, ops_cons, ops_consG, st_move, st_assign, sy_pick, pickS_true, sy_len uL, sy_addr eL, sy_load aI, sy_bin, sy_slice eL, binS_gtr, binS_eql, binS_sub, bindO_some, bindF_some, bindX_normal, blkX_normal, condX_true, iteB_true, ev_tmp, ev_const, putA, upd_at, Option.map_some, ↓reduceIte, Nat.reduceEqDiff, decide_true, yieldO_eq, yO, yV_bool, List.getElem?_cons_zero, List.getElem?_cons_succ, beq_self_eq_true, ↓bindO_some, ↓bindF_some, ↓bindX_normal, ↓condX_true, ↓iteB_true, h0, hlen, c1, e1, a1, l1, hy, Option.map_none, s2]
        exact ⟨_, _, rfl, d, by omega, rfl, v2, by simp only [upd_get, ↓reduceIte], r2, by omega, ht⟩
      · right
        rw [if_neg hy] at ht
        simp (disch := omega) only [Try.f114, Option.getD_some, atC, es_seq, es_region, es_cond, es_exit, ops_nil, ops_cons, ops_consG, st_move, sy_pick, pickS_true, sy_len uL, sy_addr eL, sy_load aI, sy_bin, binS_gtr, binS_eql, binS_sub, bindO_some, bindF_some, bindX_normal, bindX_exit, condX_false, iteB_true, ev_tmp, ev_const, putA, upd_at, Option.map_some, ↓reduceIte, Nat.reduceEqDiff, decide_true, decide_false, yieldO_eq, yO, yV_bool, List.getElem?_cons_zero, List.getElem?_cons_succ, beq_self_eq_true, ↓bindO_some, ↓bindF_some, ↓bindX_normal, ↓bindX_exit, ↓condX_false, ↓iteB_true, h0, hlen, c1, e1, a1, l1, hy]
        exact ⟨_, _, _, rfl, by simp, rfl, rfl, v', by simp only [upd_get, ↓reduceIte, Nat.reduceEqDiff, h0], by rw [← ht, ← hx]; exact hr⟩
  rw [show trmA = atC [1, 0, 0, 0] ((Try.f114.body).getD .skip) from rfl] at key
  simp only [Try.f114, Option.getD_some, atC] at key
  simp (disch := omega) only [Try.f114, es_seq, es_region, es_block, es_loop, es_ret, ops_nil, ops_cons, st_move, st_assign, bindO_some, bindF_some, bindX_normal, ev_tmp, ev_const, putA, upd_at, ↓reduceIte, ↓bindO_some, ↓bindF_some, ↓bindX_normal]
  generalize hA : upd _ 2 _ = A
  obtain ⟨x, a', H', e, hx, hH, v', h0, r⟩ := key A (by subst hA; rfl)
  subst hx
  subst hH
  rw [e]
  simp (disch := omega) only [bindX_normal, blkX_exit, upd_at, Option.map_some, ↓reduceIte, ↓bindX_normal, fin_r, res_nil, res_tmp, pack_1, h0, r.R.scal]
  exact ⟨_, rfl, r⟩
def Wh (C : Nat) (H : Heap) (w : Value) (z : Int) : Prop := ∃ v, w = .agg #[.bool (decide (z < 0)), v] ∧ RO C H v (ints (nf z.natAbs))
def OneW (H : Heap) (r : Option (Value × Heap)) (z : Int) : Prop := ∃ w H', r = some (w, H') ∧ Wh H.length H' w z ∧ Old H.length H H' ∧ WF H'
theorem Wh.mono {C : Nat} {H H' : Heap} {w : Value} {z : Int} (h : Wh C H w z) (ho : Old H.length H H') : Wh C H' w z := by
  obtain ⟨v, h1, h2⟩ := h
  exact ⟨v, h1, h2.mono ho⟩
theorem Wh.below {C C' : Nat} {H : Heap} {w : Value} {z : Int} (h : Wh C H w z) (hc : C' ≤ C) : Wh C' H w z := by
  obtain ⟨v, h1, h2⟩ := h
  exact ⟨v, h1, h2.below hc⟩
theorem Wh.kept {C : Nat} {H H' : Heap} {w : Value} {z : Int} (h : Wh C H w z) (k : Kept C H H') : Wh C H' w z := by
  obtain ⟨v, h1, h2⟩ := h
  exact ⟨v, h1, h2.kept k⟩
noncomputable def readA_ : Code := atC [1, 1, 1, 0, 1, 0, 0] ((Try.f83.body).getD .skip)
noncomputable def readB : Code := atC [1, 1, 1, 1, 1, 1, 0, 1, 0, 0] ((Try.f83.body).getD .skip)
theorem read_loop1 {H0 H : Heap} {v p : Value} {l : List Int} (hv : R H0 v (ints l)) (old0 : Old H0.length H0 H) (hw : WF H) (hl : l.length ≤ 900) (hb : ∀ x ∈ l, -4000000000000000000 ≤ x ∧ x ≤ 4000000000000000000) (n m nt : Nat) (hn : 10 ≤ n) {a : Fr} {k : Nat} (hk : l.length + 2 < k)
    (h0 : a 0 = v) (h2 : a 2 = p) (h3 : a 3 = .slice none 0 0) (h4 : a 4 = vi 0) (h5 : a 5 = vi (0 : Nat)) :
    ∃ x a' H', loopN (evS Try.prog (evB Try.prog noC n) m nt none readA_) k a H = some (x, a', H') ∧ x = .exit 0 ∧ a' 2 = p ∧ ∃ vo out c, a' 3 = vo ∧ a' 4 = vi c ∧ O H.length H' vo (ints out) ∧ Old H.length H H' ∧ WF H' ∧ out.length ≤ l.length + 2 ∧ Dg out ∧ val out + B ^ out.length * c = val l ∧ (c = 0 ∨ c = -1) := by
  refine loop_wf (fun q a H' => a 0 = v ∧ a 2 = p ∧ ∃ vo out c, a 3 = vo ∧ a 4 = vi c ∧ a 5 = vi (out.length : Nat) ∧ O H.length H' vo (ints out) ∧ Old H.length H H' ∧ WF H' ∧ out.length + q ≤ l.length + 2 ∧ Dg out ∧ val out + B ^ out.length * c = val (l.take out.length) ∧ ((out.length < l.length ∧ q = l.length - out.length + 2 ∧ -100000000000 ≤ c ∧ c ≤ 100000000000) ∨ (l.length ≤ out.length ∧ MM q c))) _ ?_ k (l.length + 2) a H hk ?_
  · intro q a H' ⟨h0, h2, vo, out, c, h3, h4, h5, ho, old, hw, hq, hd, hval, hM⟩
    rw [show readA_ = atC [1, 1, 1, 0, 1, 0, 0] ((Try.f83.body).getD .skip) from rfl]
    have hr := hv.keep (Nat.le_refl _) (old0.trans (old.mono old0.1))
    have e3 : IntKind.i64.wrap ((out.length : Int) + 1) = ((out.length + 1 : Nat) : Int) := by rw [wr64 (by omega) (by omega)]; omega
    rcases hM with ⟨hlt, hqe, hc1, hc2⟩ | ⟨hge, hM⟩
    · left
      have hx := hb _ (getD_mem hlt)
      have c1 : ((out.length : Int) < l.length) := by omega
      have s1 := floored_run hx.1 hx.2 n H' hn
      have e1 : IntKind.i64.wrap (l.getD out.length 0 % 100000000 + c) = l.getD out.length 0 % 100000000 + c := wr64 (by omega) (by omega)
      have s2 := floored_run (z := l.getD out.length 0 % 100000000 + c) (by omega) (by omega) n H' hn
      have e2 : IntKind.i64.wrap (l.getD out.length 0 / 100000000 + (l.getD out.length 0 % 100000000 + c) / 100000000) = l.getD out.length 0 / 100000000 + (l.getD out.length 0 % 100000000 + c) / 100000000 := wr64 (by omega) (by omega)
      obtain ⟨v2, H2, ep, o2, old2, wf2⟩ := ho.pushI hw old.1 (by unfold maxA; omega) ((l.getD out.length 0 % 100000000 + c) % 100000000)
      simp (disch := omega) only [Try.f83, Option.getD_some, atC, es_seq, es_region, es_cond, es_block, es_skip, ops_nil, ops_cons, ops_consG, st_move, st_assign, sy_pick, pickS_true, st_fun, sy_len uL, sy_addr eL, sy_load aI, sy_bin, sy_append eL pI, sy_build1 eL oI, sy_ext, ext_20, ext_21, binS_lss, binS_add, bindO_some, bindF_some, bindX_normal, blkX_normal, condX_true, iteB_false, ev_tmp, ev_const, ev_func, putA, upd_at, Option.map_some, ↓reduceIte, Nat.reduceEqDiff, Int.toNat_natCast, List.map_cons, List.map_nil, decide_true, Bool.not_true, yieldO_eq, yO, yV_bool, yV_undef, none_some, some_false, List.getElem?_cons_zero, List.getElem?_cons_succ, ↓bindO_some, ↓bindF_some, ↓bindX_normal, ↓condX_true, ↓iteB_false, scal_vi, h0, h3, h4, h5, hr.lenI, c1, hr.addrI, hr.loadI, s1, s2, e1, e2, e3, ep]
      have hvl := norm_step (x := l.getD out.length 0) rfl hval (by rw [List.length_take]; omega)
      rw [← take_snoc' hlt] at hvl
      refine ⟨_, _, rfl, q - 1, by omega, by simp only [upd_get, ↓reduceIte, Nat.reduceEqDiff, h0], by simp only [upd_get, ↓reduceIte, Nat.reduceEqDiff, h2], v2, out ++ [(l.getD out.length 0 % 100000000 + c) % 100000000], l.getD out.length 0 / 100000000 + (l.getD out.length 0 % 100000000 + c) / 100000000, by simp only [upd_get, ↓reduceIte, Nat.reduceEqDiff], by simp only [upd_get, ↓reduceIte, Nat.reduceEqDiff], by simp only [upd_get, ↓reduceIte, List.length_append, List.length_singleton], o2, old.trans old2, wf2, by rw [List.length_append, List.length_singleton]; omega, hd.app (Dg.one (by omega) (by unfold B; omega)), by rw [List.length_append, List.length_singleton]; exact hvl, ?_⟩
      rw [List.length_append, List.length_singleton]
      by_cases hl2 : out.length + 1 < l.length
      · exact .inl ⟨hl2, by omega, by omega, by omega⟩
      · exact .inr ⟨by omega, .inr (.inr ⟨by omega, by omega, by omega⟩)⟩
    · have c1 : ¬ ((out.length : Int) < l.length) := by omega
      have ht : l.take out.length = l := List.take_of_length_le hge
      rw [ht] at hval
      by_cases hz : c = 0
      · right
        simp (disch := omega) only [Try.f83, Option.getD_some, atC, es_seq, es_region, es_cond, es_exit, ops_nil, ops_cons, ops_consG, st_move, sy_pick, pickS_false, sy_len uL, sy_bin, binS_lss, binS_neq, bindO_some, bindF_some, bindX_normal, bindX_exit, condX_false, iteB_true, iteB_false, ev_tmp, ev_const, putA, upd_at, Option.map_some, ↓reduceIte, Nat.reduceEqDiff, decide_true, decide_false, Bool.not_true, yieldO_eq, yO, yV_bool, some_true, List.getElem?_cons_zero, List.getElem?_cons_succ, beq_self_eq_true, ↓bindO_some, ↓bindF_some, ↓bindX_normal, ↓bindX_exit, ↓condX_false, ↓iteB_true, ↓iteB_false, h0, h4, h5, hr.lenI, c1, hz]
        exact ⟨_, _, _, rfl, by simp, rfl, by simp only [upd_get, ↓reduceIte, Nat.reduceEqDiff, h2], vo, out, 0, by simp only [upd_get, ↓reduceIte, Nat.reduceEqDiff, h3], by simp only [upd_get, ↓reduceIte, Nat.reduceEqDiff, h4, hz], ho, old, hw, by omega, hd, by rw [← hz]; exact hval, .inl rfl⟩
      · by_cases hy : c = -1
        · right
          have d1 : decide (c = 0) = false := by simp [hz]
          have d2 : decide (c = -1) = true := by simp [hy]
          simp (disch := omega) only [Try.f83, Option.getD_some, atC, es_seq, es_region, es_cond, es_exit, ops_nil, ops_cons, ops_consG, st_move, sy_pick, pickS_true, pickS_false, sy_len uL, sy_bin, binS_lss, binS_neq, bindO_some, bindF_some, bindX_normal, bindX_exit, condX_false, iteB_true, ev_tmp, ev_const, putA, upd_at, Option.map_some, ↓reduceIte, Nat.reduceEqDiff, decide_false, Bool.not_true, Bool.not_false, yieldO_eq, yO, yV_bool, List.getElem?_cons_zero, List.getElem?_cons_succ, beq_self_eq_true, ↓bindO_some, ↓bindF_some, ↓bindX_normal, ↓bindX_exit, ↓condX_false, ↓iteB_true, h0, h4, h5, hr.lenI, c1, d1, d2]
          exact ⟨_, _, _, rfl, by simp, rfl, by simp only [upd_get, ↓reduceIte, Nat.reduceEqDiff, h2], vo, out, -1, by simp only [upd_get, ↓reduceIte, Nat.reduceEqDiff, h3], by simp only [upd_get, ↓reduceIte, Nat.reduceEqDiff, h4, hy], ho, old, hw, by omega, hd, by rw [← hy]; exact hval, .inr rfl⟩
        · left
          have s1 := floored_run (z := c) (by rcases hM with h | h | h <;> omega) (by rcases hM with h | h | h <;> omega) n H' hn
          have e0 : IntKind.i64.wrap (0 + c) = c := by rw [wr64 (by rcases hM with h | h | h <;> omega) (by rcases hM with h | h | h <;> omega)]; omega
          have e4 : IntKind.i64.wrap (0 + c / 100000000) = c / 100000000 := by rw [wr64 (by rcases hM with h | h | h <;> omega) (by rcases hM with h | h | h <;> omega)]; omega
          obtain ⟨v2, H2, ep, o2, old2, wf2⟩ := ho.pushI hw old.1 (by unfold maxA; omega) (c % 100000000)
          simp (disch := omega) only [Try.f83, Option.getD_some, atC, es_seq, es_region, es_cond, es_block, es_skip, ops_nil, ops_cons, ops_consG, st_move, st_assign, sy_pick, pickS_true, pickS_false, st_fun, sy_len uL, sy_bin, sy_append eL pI, sy_build1 eL oI, sy_ext, ext_20, ext_21, binS_lss, binS_neq, binS_add, bindO_some, bindF_some, bindX_normal, blkX_normal, condX_true, condX_false, iteB_true, ev_tmp, ev_const, ev_func, putA, upd_at, Option.map_some, ↓reduceIte, Nat.reduceEqDiff, List.map_cons, List.map_nil, decide_false, Bool.not_false, yieldO_eq, yO, yV_bool, List.getElem?_cons_zero, List.getElem?_cons_succ, beq_self_eq_true, ↓bindO_some, ↓bindF_some, ↓bindX_normal, ↓condX_true, ↓condX_false, ↓iteB_true, scal_vi, h0, h3, h4, h5, hr.lenI, c1, hz, hy, e0, s1, e4, e3, ep]
          refine ⟨_, _, rfl, q - 1, by rcases hM with h | h | h <;> omega, by simp only [upd_get, ↓reduceIte, Nat.reduceEqDiff, h0], by simp only [upd_get, ↓reduceIte, Nat.reduceEqDiff, h2], v2, out ++ [c % 100000000], c / 100000000, by simp only [upd_get, ↓reduceIte, Nat.reduceEqDiff], by simp only [upd_get, ↓reduceIte, Nat.reduceEqDiff], by simp only [upd_get, ↓reduceIte, List.length_append, List.length_singleton], o2, old.trans old2, wf2, by rw [List.length_append, List.length_singleton]; rcases hM with h | h | h <;> omega, hd.app (Dg.one (by omega) (by unfold B; omega)), by rw [List.take_of_length_le (by rw [List.length_append]; omega)]; exact carry_step _ hval, .inr ⟨by rw [List.length_append]; omega, ?_⟩⟩
          rcases hM with h | h | h
          · omega
          · exact .inl ⟨by omega, by omega⟩
          · exact .inr (.inl ⟨by omega, by omega, by omega⟩)
  · refine ⟨h0, h2, _, [], 0, h3, h4, h5, O.nil _ _, Old.refl _ _, hw, by simp, Dg.nil, by simp [val], ?_⟩
    by_cases hl0 : 0 < l.length
    · exact .inl ⟨by simpa using hl0, by simp, by omega, by omega⟩
    · have hl1 : l.length = 0 := by omega
      exact .inr ⟨by rw [hl1]; exact Nat.zero_le _, .inr (.inr ⟨by omega, by omega, by omega⟩)⟩
def cpl (l : List Int) (z : List Int) (i : Nat) : List Int := z ++ l.drop i
theorem cpl_get {l z : List Int} {i : Nat} (hz : z.length = i) (h : i < l.length) : (cpl l z i).getD i 0 = l.getD i 0 := by
  unfold cpl
  rw [List.getD_eq_getElem?_getD, List.getD_eq_getElem?_getD, List.getElem?_append_right (by omega), hz, Nat.sub_self, List.getElem?_drop, Nat.add_zero]
theorem cpl_set {l z : List Int} {i : Nat} (hz : z.length = i) (h : i < l.length) (x : Int) : (cpl l z i).set i x = cpl l (z ++ [x]) (i + 1) := by
  unfold cpl
  rw [List.set_append_right _ _ (by omega), hz, Nat.sub_self, drop_getD h, List.set_cons_zero]
  simp
theorem cpl_len {l z : List Int} {i : Nat} (hz : z.length = i) (h : i ≤ l.length) : (cpl l z i).length = l.length := by
  unfold cpl
  rw [List.length_append, List.length_drop]; omega
theorem read_loop2 {B0 : Nat} {H0 H : Heap} {vo p : Value} {out : List Int} (hB : B0 ≤ H.length) (ho : O B0 H vo (ints out)) (hd : Dg out) (old0 : Old B0 H0 H) (hw : WF H) (hol : out.length ≤ 1000) (call : CallF) (m nt : Nat) {a : Fr} {k : Nat} (hk : out.length < k)
    (h2 : a 2 = p) (h3 : a 3 = vo) (h10 : a 10 = vi 0) (h58 : a 58 = vo) (h59 : a 59 = vi (out.length : Nat)) (h60 : a 60 = vi (0 : Nat)) :
    ∃ x a' H', loopN (evS Try.prog call m nt none readB) k a H = some (x, a', H') ∧ x = .exit 2 ∧ a' 2 = p ∧ a' 3 = vo ∧ ∃ sz b, a' 10 = vi b ∧ O B0 H' vo (ints sz) ∧ Old B0 H0 H' ∧ WF H' ∧ sz.length = out.length ∧ Dg sz ∧ val sz = b * B ^ out.length - val out ∧ (b = 0 ∨ b = 1) ∧ H.length ≤ H'.length := by
  refine loop_up out.length (fun i a H' => a 2 = p ∧ a 3 = vo ∧ a 58 = vo ∧ a 59 = vi (out.length : Nat) ∧ a 60 = vi i ∧ H.length ≤ H'.length ∧ ∃ sz b, a 10 = vi b ∧ O B0 H' vo (ints (cpl out sz i)) ∧ Old B0 H0 H' ∧ WF H' ∧ sz.length = i ∧ Dg sz ∧ val sz = b * B ^ i - val (out.take i) ∧ (b = 0 ∨ b = 1)) _ ?_ ?_ hk
    ⟨h2, h3, h58, h59, h60, Nat.le_refl _, [], 0, h10, by simpa [cpl] using ho, old0, hw, rfl, Dg.nil, by simp [val], .inl rfl⟩
  · intro i a H' hi ⟨h2, h3, h58, h59, h60, hlen, sz, b, h10, ho, old, hw, hsl, hds, hval, hb⟩
    left
    rw [show readB = atC [1, 1, 1, 1, 1, 1, 0, 1, 0, 0] ((Try.f83.body).getD .skip) from rfl]
    have hx := hd.getD i
    have hr := ho.R
    have hcl := cpl_len hsl (by omega : i ≤ out.length)
    have hcg := cpl_get hsl hi
    have hlt : (i : Int) < out.length := by omega
    have e1 : IntKind.i64.wrap (0 - out.getD i 0) = - out.getD i 0 := by rw [wr64 (by omega) (by omega)]; omega
    have e2 : IntKind.i64.wrap (- out.getD i 0 - b) = - out.getD i 0 - b := wr64 (by omega) (by omega)
    have e3 : IntKind.i64.wrap ((i : Int) + 1) = ((i + 1 : Nat) : Int) := by rw [wr64 (by omega) (by omega)]; omega
    have a1 : addrS 1 vo (vi i) = some (pt vo i) := by have := hr.addrI (i := (i : Int)) (by omega) (by omega); simpa using this
    have l1 : loadS (pt vo i) H' = some (vi (out.getD i 0)) := by rw [hr.loadI (by omega), hcg]
    have hst := fun (b2 : Int) => compl_step (o := out.getD i 0) (b2 := b2) hsl (by rw [List.length_take]; omega) hval
    obtain ⟨H2, s2, o2, old2, wf2⟩ := ho.setI hw (i := i) (by omega) (- out.getD i 0 - b)
    rw [cpl_set hsl hi] at o2
    have l2 : loadS (pt vo i) H2 = some (vi (- out.getD i 0 - b)) := by
      rw [o2.R.loadI (by rw [cpl_len (by simp [hsl]) (by omega)]; omega)]
      unfold cpl
      rw [List.getD_eq_getElem?_getD, List.append_assoc, List.getElem?_append_right (by omega), hsl, Nat.sub_self]
      rfl
    by_cases hneg : - out.getD i 0 - b < 0
    · have e4 : IntKind.i64.wrap (- out.getD i 0 - b + 100000000) = - out.getD i 0 - b + 100000000 := wr64 (by omega) (by omega)
      obtain ⟨H3, s3, o3, old3, wf3⟩ := o2.setI wf2 (i := i) (by rw [cpl_len (by simp [hsl]) (by omega)]; omega) (- out.getD i 0 - b + 100000000)
      have e5 : (cpl out (sz ++ [- out.getD i 0 - b]) (i + 1)).set i (- out.getD i 0 - b + 100000000) = cpl out (sz ++ [- out.getD i 0 - b + 100000000]) (i + 1) := by
        unfold cpl
        rw [List.append_assoc, List.append_assoc, List.set_append_right _ _ (by omega), hsl, Nat.sub_self]; rfl
      rw [e5] at o3
      simp (disch := omega) only [Try.f83, Option.getD_some, atC, es_seq, es_region, es_cond, es_block, es_skip, ops_nil, ops_cons, st_move, st_assign, sy_addr eL, sy_load aI, sy_store zI, sy_bin, sy_neg, binS_lss, binS_add, binS_sub, bindO_some, bindF_some, bindX_normal, blkX_normal, condX_true, ev_tmp, ev_const, putA, upd_at, Option.map_some, ↓reduceIte, Nat.reduceEqDiff, decide_true, ↓bindO_some, ↓bindF_some, ↓bindX_normal, ↓condX_true, h3, h10, h58, h59, h60, hlt, a1, l1, e1, e2, s2, l2, hneg, e4, s3, e3]
      exact ⟨_, _, rfl, by simp only [upd_get, ↓reduceIte, Nat.reduceEqDiff, h2], by simp only [upd_get, ↓reduceIte, Nat.reduceEqDiff, h3], by simp only [upd_get, ↓reduceIte, Nat.reduceEqDiff, h58], by simp only [upd_get, ↓reduceIte, Nat.reduceEqDiff, h59], by simp only [upd_get, ↓reduceIte], Nat.le_trans hlen (Nat.le_trans old2.1 old3.1), _, 1, by simp only [upd_get, ↓reduceIte, Nat.reduceEqDiff], o3, (old.trans old2).trans old3, wf3, by simp [hsl], hds.app (Dg.one (by omega) (by unfold B; omega)), by rw [take_snoc' hi]; exact hst 1, .inr rfl⟩
    · simp (disch := omega) only [Try.f83, Option.getD_some, atC, es_seq, es_region, es_cond, es_block, es_skip, ops_nil, ops_cons, st_move, st_assign, sy_addr eL, sy_load aI, sy_store zI, sy_bin, sy_neg, binS_lss, binS_add, binS_sub, bindO_some, bindF_some, bindX_normal, blkX_normal, condX_true, condX_false, ev_tmp, ev_const, putA, upd_at, Option.map_some, ↓reduceIte, Nat.reduceEqDiff, decide_true, decide_false, ↓bindO_some, ↓bindF_some, ↓bindX_normal, ↓condX_true, ↓condX_false, h3, h10, h58, h59, h60, hlt, a1, l1, e1, e2, s2, l2, hneg, e3]
      exact ⟨_, _, rfl, by simp only [upd_get, ↓reduceIte, Nat.reduceEqDiff, h2], by simp only [upd_get, ↓reduceIte, Nat.reduceEqDiff, h3], by simp only [upd_get, ↓reduceIte, Nat.reduceEqDiff, h58], by simp only [upd_get, ↓reduceIte, Nat.reduceEqDiff, h59], by simp only [upd_get, ↓reduceIte], Nat.le_trans hlen old2.1, _, 0, by simp only [upd_get, ↓reduceIte, Nat.reduceEqDiff], o2, old.trans old2, wf2, by simp [hsl], hds.app (Dg.one (by omega) (by unfold B; omega)), by rw [take_snoc' hi]; have := hst 0; simpa using this, .inl rfl⟩
  · intro a H' ⟨h2, h3, h58, h59, h60, hlen, sz, b, h10, ho, old, hw, hsl, hds, hval, hb⟩
    rw [show readB = atC [1, 1, 1, 1, 1, 1, 0, 1, 0, 0] ((Try.f83.body).getD .skip) from rfl]
    simp (disch := omega) only [Try.f83, Option.getD_some, atC, es_seq, es_region, es_cond, es_exit, ops_nil, ops_cons, sy_bin, binS_lss, bindO_some, bindF_some, bindX_normal, bindX_exit, condX_false, ev_tmp, putA, upd_at, ↓reduceIte, decide_false, ↓bindO_some, ↓bindF_some, ↓bindX_normal, ↓bindX_exit, ↓condX_false, h59, h60, Int.lt_irrefl]
    have e0 : cpl out sz out.length = sz := by unfold cpl; rw [List.drop_length, List.append_nil]
    rw [e0] at ho
    exact ⟨_, _, _, rfl, by simp, rfl, by simp only [upd_get, ↓reduceIte, Nat.reduceEqDiff, h2], by simp only [upd_get, ↓reduceIte, Nat.reduceEqDiff, h3], sz, b, by simp only [upd_get, ↓reduceIte, Nat.reduceEqDiff, h10], ho, old, hw, hsl, hds, by rw [hval, List.take_length], hb, hlen⟩
theorem nf_natAbs_pos {z : Int} (h : 0 ≤ z) : nf z.natAbs = nf z := by rw [natAbs_pos h]
theorem read_run {H : Heap} {v : Value} {z : Int} (hw : WF H) (hv : NumV H v z) (n : Nat) (hn : 2001 ≤ n) :
    OneW H (evB Try.prog noC n (.func (.func 83) #[] #[]) [v] H) z := by
  obtain ⟨l, hr, hz, hl, hb⟩ := hv
  refine run_of (F := 2000) (Q := fun r => OneW H r z) (fun n hn => ?_) n hn
  rw [body_runS Try.func83 rfl (ok_fn (by rfl) Try.func83 rfl) (Nat.le_of_ble_eq_true rfl) (D := D0) (by kernel_rfl)]
  have oldb := Old.app H [.cells H.length true [.bool false, .slice none 0 0]]
  have wfb := hw.app (Nat.le_refl H.length) (o := true) (cs := [.bool false, .slice none 0 0])
  have bx := BxM.made (B := H.length) (H := H) (Nat.le_refl _) [.bool false, .slice none 0 0]
  have key1 := fun (A : Fr) => read_loop1 (p := ptrA H.length 0) hr oldb wfb hl hb n n Try.f83.ntmps (by omega) (a := A) (k := n) (by omega)
  have key2 := fun (A : Fr) {B0 : Nat} {H0 H1 : Heap} {vo : Value} {out : List Int} (hol : out.length ≤ 902) (hB : B0 ≤ H1.length) (ho : O B0 H1 vo (ints out)) (hd : Dg out) (old0 : Old B0 H0 H1) (hw : WF H1) => read_loop2 (p := ptrA H.length 0) hB ho hd old0 hw (by omega) (evB Try.prog noC n) n Try.f83.ntmps (a := A) (k := n) (by omega)
  rw [show readA_ = atC [1, 1, 1, 0, 1, 0, 0] ((Try.f83.body).getD .skip) from rfl] at key1
  rw [show readB = atC [1, 1, 1, 1, 1, 1, 0, 1, 0, 0] ((Try.f83.body).getD .skip) from rfl] at key2
  simp only [Try.f83, Option.getD_some, atC] at key1 key2
  simp (disch := omega) only [Try.f83, es_seq, es_region, es_cond, es_block, es_loop, es_skip, es_ret, ops_nil, ops_cons, st_move, st_assign, st_fun, sy_len uL, sy_bin, sy_append eL pI, sy_build1 eL oI, bindO_some, bindF_some, bindX_normal, ev_tmp, ev_const, ev_func, putA, upd_at, ↓reduceIte, Nat.reduceEqDiff, List.map_cons, List.map_nil, ↓bindO_some, ↓bindF_some, ↓bindX_normal, scal_vi, sy_storeN zW, sy_alloc iW scal_agg, sy_build]
  generalize hA : upd _ 5 _ = A
  obtain ⟨x, a1, H1, e1, hx, g2, vo, out, c, h3, h4, o1, old1, wf1, hol, hd, hval, hc⟩ := key1 A (by subst hA; rfl) (by subst hA; rfl) (by subst hA; rfl) (by subst hA; rfl) (by subst hA; rfl)
  subst hx
  rw [e1]
  clear key1 e1
  have bx1 := bx.mono old1
  rcases hc with rfl | rfl
  · rw [Int.mul_zero, Int.add_zero] at hval
    obtain ⟨v3, s3, r3⟩ := trimmed_run o1.RO (by omega) n (by omega)
    obtain ⟨H4, s4, bx4, old4, wf4, keep4⟩ := bx1.store wf1 (vs := [.bool false, v3]) rfl
    have s5 : loadN 2 (ptrA H.length 0) H4 = some (.agg #[.bool false, v3]) := bx4.loadAll
    have s4 : storeN 2 (ptrA H.length 0) (.agg #[.bool false, v3]) H1 = some H4 := s4
    have hz0 : 0 ≤ z := by have := hd.val; omega
    simp (disch := omega) only [binS_eql, bindO_some, bindF_some, bindX_normal, bindX_ret, blkX_exit, condX_true, upd_at, Option.map_some, ↓reduceIte, Nat.reduceEqDiff, decide_true, ↓bindO_some, ↓bindF_some, ↓bindX_normal, ↓bindX_ret, ↓condX_true, fin_r, res_nil, pack_1, res_cell aW zW, g2, h3, h4, s3, bW1 v3 r3.R.scal, s4, s5]
    have hzp : decide (z < 0) = false := by simp; omega
    refine ⟨_, _, rfl, ⟨v3, by rw [hzp], ?_⟩, (oldb.trans (old1.mono oldb.1)).trans old4, wf4⟩
    rw [nf_natAbs_pos hz0, ← nf_of_digs hd (hval.trans hz)]
    exact (r3.kept keep4).below oldb.1
  · have hneg := hd.val
    have hz1 : ¬ (-1 : Int) = 0 := by omega
    have hrl := o1.R.lenI
    simp (disch := omega) only [binS_eql, bindO_some, bindF_some, bindX_normal, blkX_exit, condX_false, upd_at, Option.map_some, ↓reduceIte, Nat.reduceEqDiff, decide_false, ↓bindO_some, ↓bindF_some, ↓bindX_normal, ↓condX_false, h3, h4, hz1, hrl]
    generalize hA : upd _ 60 _ = A
    obtain ⟨x, a2, H2, e2, hx, g2', g3, sz, b, h10, o2, old2, wf2, hsl, hds, hvs, hb', hlen2⟩ := key2 A (H0 := H ++ [.cells H.length true [.bool false, .slice none 0 0]]) (by omega) old1.1 o1 hd old1 wf1 (by subst hA; exact g2) (by subst hA; exact h3) (by subst hA; rfl) (by subst hA; rfl) (by subst hA; rfl) (by subst hA; rfl)
    subst hx
    rw [e2]
    clear key2 e2
    have bx2 := bx.mono old2
    have fin : ∀ (H3 : Heap) (v3 : Value) (l3 : List Int), RO (H ++ [Blk.cells H.length true [.bool false, .slice none 0 0]]).length H3 v3 (ints l3) → WF H3 → Old (H ++ [Blk.cells H.length true [.bool false, .slice none 0 0]]).length H2 H3 → Dg l3 → l3.length ≤ 1000 → val l3 = -z → ∃ v4 H4, evB Try.prog noC n (.func (.func 114) #[] #[]) [v3] H3 = some (v4, H3) ∧ Abs.scal v4 = some [v4] ∧ storeN 2 (ptrA H.length 0) (.agg #[.bool true, v4]) H3 = some H4 ∧ loadN 2 (ptrA H.length 0) H4 = some (.agg #[.bool true, v4]) ∧ RO H.length H4 v4 (ints (nf z.natAbs)) ∧ Old H.length H H4 ∧ WF H4 := by
      intro H3 v3 l3 r3 wf3 old3 hd3 hl3 hv3
      obtain ⟨v4, s4, r4⟩ := trimmed_run r3 hl3 n (by omega)
      obtain ⟨H4, s5, bx5, old5, wf5, keep5⟩ := (bx2.mono old3).store wf3 (vs := [.bool true, v4]) rfl
      have s6 := bx5.loadAll
      refine ⟨v4, H4, s4, r4.R.scal, s5, s6, ?_, ((oldb.trans (old2.mono oldb.1)).trans (old3.mono oldb.1)).trans old5, wf5⟩
      have hv := hd3.val
      rw [show ((z.natAbs : Nat) : Int) = -z from by omega, ← nf_of_digs hd3 hv3]
      exact (r4.kept keep5).below oldb.1
    have hzneg : decide (z < 0) = true := by simp; omega
    rcases hb' with rfl | rfl
    · obtain ⟨v5, H5, s5, o5, old5, wf5⟩ := o2.pushI wf2 (Nat.le_trans old1.1 hlen2) (by unfold maxA; omega) 1
      obtain ⟨v4, H4, s4, sc4, s6, s7, r4, old4, wf4⟩ := fin H5 v5 _ o5.RO wf5 old5 (hds.app (Dg.one (by omega) (by unfold B; omega))) (by rw [List.length_append, List.length_singleton]; omega) (by rw [val_snoc, hvs, hsl]; omega)
      simp (disch := omega) only [binS_eql, bindO_some, bindF_some, bindX_normal, blkX_exit, condX_true, upd_at, Option.map_some, ↓reduceIte, Nat.reduceEqDiff, decide_true, ↓bindO_some, ↓bindF_some, ↓bindX_normal, ↓condX_true, fin_r, res_nil, pack_1, res_cell aW zW, g2', g3, h10, s5, s4, bW2 true v4 sc4, s6, s7]
      exact ⟨_, _, rfl, ⟨v4, by rw [hzneg], r4⟩, old4, wf4⟩
    · obtain ⟨v4, H4, s4, sc4, s6, s7, r4, old4, wf4⟩ := fin H2 vo _ o2.RO wf2 (Old.refl _ _) hds (by omega) (by rw [hvs]; omega)
      have hone : ¬ (1 : Int) = 0 := by omega
      simp (disch := omega) only [binS_eql, bindO_some, bindF_some, bindX_normal, blkX_exit, condX_false, upd_at, Option.map_some, ↓reduceIte, Nat.reduceEqDiff, decide_false, ↓bindO_some, ↓bindF_some, ↓bindX_normal, ↓condX_false, fin_r, res_nil, pack_1, res_cell aW zW, g2', g3, h10, hone, s4, bW2 true v4 sc4, s6, s7]
      exact ⟨_, _, rfl, ⟨v4, by rw [hzneg], r4⟩, old4, wf4⟩
end Go.Proofs.Ytmmgdgmjkhcfaaa
namespace Go.Proofs.Ytmmgdgmjkhcfaaa
open Go Go.Abs Go.Num
set_option maxRecDepth 10000
attribute [local congr] bindO_congr bindF_congr bindX_congr condX_congr iteB_congr binS_congr pickS_congr eqB_congr nilS_congr
theorem clone_run {H : Heap} {v : Value} {l : List Int} (hw : WF H) (hv : R H v (ints l)) (hl : l.length ≤ 10000) (n : Nat) (hn : 10 ≤ n) : OneL H (evB Try.prog noC n (.func (.func 61) #[] #[]) [v] H) l := by
  refine run_of (F := 9) (Q := fun x => OneL H x l) (fun n hn => ?_) n hn
  rw [body_runS Try.func61 rfl (ok_fn (by rfl) Try.func61 rfl) (Nat.le_of_ble_eq_true rfl) (D := D0) (by kernel_rfl)]
  have old1 := Old.app H [.cells H.length true []]
  obtain ⟨v2, H2, s2, o2, old2, wf2⟩ := (O.empty (H := H) (Nat.le_refl H.length)).app (hw.app (Nat.le_refl _)) (by simp) (hv.mono old1) (by rw [ints_len]; simp [maxA]; omega)
  have fin : nilS v H (rest none) = some (.bool false, H) → OneL H (some (v2, H2)) l := fun _ => ⟨_, _, rfl, o2, old1.trans old2, wf2⟩
  rcases hv with ⟨rfl, hl0⟩ | ⟨rfl, hl0⟩ | ⟨b, o, f, w, cs, rfl, h⟩
  · have : l = [] := by simpa [ints] using hl0
    subst this
    have hn : ∀ r, nilS (.slice none 0 0) H r = some (.bool true, H) := fun _ => rfl
    simp only [Try.f61, es_seq, es_region, es_cond, es_ret, ops_nil, ops_cons, st_move, st_assign, ↓sy_nil uL, hn, bindO_some, bindF_some, bindX_normal, bindX_ret, condX_true, ev_tmp, ev_const, putA, upd_at, frOf_0, ↓reduceIte, Nat.reduceEqDiff, fin_r, res_nil, res_tmp, pack_1, scal_nil, Option.map_some]
    exact ⟨_, _, rfl, O.nil _ _, Old.refl _ _, hw⟩
  · have hn : ∀ r, nilS lostSlice H r = some (.bool false, H) := fun _ => rfl
    simp only [Try.f61, es_seq, es_region, es_cond, es_ret, es_skip, ops_nil, ops_cons, st_move, st_assign, ↓sy_nil uL, hn, bindO_some, bindF_some, bindX_normal, condX_false, ev_tmp, ev_const, putA, upd_at, frOf_0, ↓reduceIte, Nat.reduceEqDiff, sy_build0 eL nI, sy_append eL pI, s2, o2.R.scal, fin_r, res_nil, res_tmp, pack_1, Option.map_some]
    exact ⟨_, _, rfl, o2, old1.trans old2, wf2⟩
  · have hn : ∀ r, nilS (sliceA b o (ints l).length 1) H r = some (.bool false, H) := fun _ => rfl
    simp only [Try.f61, es_seq, es_region, es_cond, es_ret, es_skip, ops_nil, ops_cons, st_move, st_assign, ↓sy_nil uL, hn, bindO_some, bindF_some, bindX_normal, condX_false, ev_tmp, ev_const, putA, upd_at, frOf_0, ↓reduceIte, Nat.reduceEqDiff, sy_build0 eL nI, sy_append eL pI, s2, o2.R.scal, fin_r, res_nil, res_tmp, pack_1, Option.map_some]
    exact ⟨_, _, rfl, o2, old1.trans old2, wf2⟩
noncomputable def listA : Code := atC [1, 1, 0, 1, 0, 1, 0, 0] ((Try.f86.body).getD .skip)
theorem list_loop {B0 : Nat} {H0 : Heap} {v : Value} {l : List Int} (call : CallF) (m nt : Nat) {a : Fr} {H : Heap} {k : Nat} (hk : l.length < k) (hl : l.length ≤ 1000) (hb : ∀ x ∈ l, -4000000000000000000 ≤ x ∧ x ≤ 4000000000000000000)
    (ho : O B0 H v (ints l)) (old : Old B0 H0 H) (hw : WF H) (h3 : a 3 = v) (h11 : a 11 = vi l.length) (h12 : a 12 = vi (0 : Nat)) :
    ∃ x a' H', loopN (evS Try.prog call m nt none listA) k a H = some (x, a', H') ∧ x = .exit 0 ∧ O B0 H' v (ints (l.map (- ·))) ∧ Old B0 H0 H' ∧ WF H' ∧ a' 3 = v := by
  refine loop_up l.length (fun i a H' => a 3 = v ∧ a 11 = vi l.length ∧ a 12 = vi i ∧ O B0 H' v (ints (negI l i)) ∧ Old B0 H0 H' ∧ WF H') _ ?_ ?_ hk ⟨h3, h11, h12, by rw [negI_0]; exact ho, old, hw⟩
  · intro i a H' hi ⟨h3, h11, h12, ho, old, hw⟩
    left
    rw [show listA = atC [1, 1, 0, 1, 0, 1, 0, 0] ((Try.f86.body).getD .skip) from rfl]
    have hlen := negI_len l i
    have hx := hb _ (getD_mem hi)
    have e1 := negI_get hi
    have e2 : IntKind.i64.wrap (0 - l.getD i 0) = - l.getD i 0 := by rw [wr64 (by omega) (by omega)]; omega
    obtain ⟨H2, es, o2, old2, wf2⟩ := ho.setI hw (i := i) (by omega) (- l.getD i 0)
    have e3 : IntKind.i64.wrap ((i : Int) + 1) = ((i + 1 : Nat) : Int) := by rw [wr64 (by omega) (by omega)]; omega
    have hr := ho.R
    have hlt : (i : Int) < l.length := by omega
    simp (disch := omega) only [Try.f86, Option.getD_some, atC, es_seq, es_region, es_cond, es_block, es_skip, ops_nil, ops_cons, st_move, st_assign, sy_addr eL, sy_load aI, sy_store zI, sy_bin, sy_neg, binS_lss, binS_add, bindO_some, bindF_some, bindX_normal, blkX_normal, condX_true, ev_tmp, ev_const, putA, upd_at, Option.map_some, ↓reduceIte, Nat.reduceEqDiff, Int.toNat_natCast, decide_true, ↓bindO_some, ↓bindF_some, ↓bindX_normal, ↓condX_true, h3, h11, h12, hlt, hr.addrI, hr.loadI, e1, e2, es, e3]
    exact ⟨_, _, rfl, by simp only [upd_get, ↓reduceIte, Nat.reduceEqDiff, h3], by simp only [upd_get, ↓reduceIte, Nat.reduceEqDiff, h11], by simp only [upd_get, ↓reduceIte], by rw [← negI_set hi]; exact o2, old.trans old2, wf2⟩
  · intro a H' ⟨h3, h11, h12, ho, old, hw⟩
    rw [show listA = atC [1, 1, 0, 1, 0, 1, 0, 0] ((Try.f86.body).getD .skip) from rfl]
    simp (disch := omega) only [Try.f86, Option.getD_some, atC, es_seq, es_region, es_cond, es_exit, ops_nil, ops_cons, sy_bin, binS_lss, bindO_some, bindF_some, bindX_normal, bindX_exit, condX_false, ev_tmp, putA, upd_at, ↓reduceIte, decide_false, ↓bindO_some, ↓bindF_some, ↓bindX_normal, ↓bindX_exit, ↓condX_false, h11, h12, Int.lt_irrefl]
    exact ⟨_, _, _, rfl, by simp, rfl, by rw [← negI_all]; exact ho, old, hw, by simp only [upd_get, ↓reduceIte, Nat.reduceEqDiff, h3]⟩
theorem list_run {H : Heap} {w : Value} {z : Int} (hw : WF H) {C : Nat} (hv : Wh C H w z) (hl : (nf z.natAbs).length ≤ 900) (n : Nat) (hn : 1010 ≤ n) :
    OneL H (evB Try.prog noC n (.func (.func 86) #[] #[]) [w] H) (nf z) := by
  obtain ⟨v, rfl, hr⟩ := hv
  have hr := hr.R
  generalize hnb : decide (z < 0) = nb
  refine run_of (F := 1009) (Q := fun r => OneL H r (nf z)) (fun n hn => ?_) n hn
  rw [body_runS Try.func86 rfl (ok_fn (by rfl) Try.func86 rfl) (Nat.le_of_ble_eq_true rfl) (D := D0) (by kernel_rfl)]
  have oldb := Old.app H [.cells H.length true [.bool nb, v]]
  have wfb := hw.app (Nat.le_refl H.length) (o := true) (cs := [.bool nb, v])
  have bb := BxM.made (B := H.length) (H := H) (Nat.le_refl _) [.bool nb, v]
  obtain ⟨v1, H1, s1, o1, old1, wf1⟩ := clone_run wfb (hr.mono oldb) (by omega) n (by omega)
  have f0 := bb.faddr 0
  have f1 := bb.faddr 1
  have l1 : loadS (bx (ptrA H.length 0) 1) (H ++ [.cells H.length true [.bool nb, v]]) = some v := bb.load 1
  have l0 : loadS (bx (ptrA H.length 0) 0) H1 = some (.bool nb) := (bb.mono old1).load 0
  have old01 := oldb.trans (old1.mono oldb.1)
  cases nb with
  | true =>
    have hz : z < 0 := by simpa using hnb
    have hlen := o1.R.lenI
    have key := fun (A : Fr) => list_loop (evB Try.prog noC n) n Try.f86.ntmps (a := A) (k := n) (by omega) (by omega) (nfb _) o1 old1 wf1
    rw [show listA = atC [1, 1, 0, 1, 0, 1, 0, 0] ((Try.f86.body).getD .skip) from rfl] at key
    simp only [Try.f86, Option.getD_some, atC] at key
    simp (disch := omega) only [Try.f86, es_seq, es_region, es_cond, es_block, es_loop, es_skip, es_ret, ops_nil, ops_cons, st_move, st_assign, st_fun, sy_len uL, sy_bin, bindO_some, bindF_some, bindX_normal, condX_true, ev_tmp, ev_const, ev_func, putA, upd_at, Option.map_some, ↓reduceIte, Nat.reduceEqDiff, frOf_0, List.map_cons, List.map_nil, ↓bindO_some, ↓bindF_some, ↓bindX_normal, ↓condX_true, sy_load aL, sy_load aB, sy_faddr fW0, sy_faddr fW1, sy_box, scal_agg, f0, f1, l1, s1, l0, hlen]
    generalize hA : upd _ 12 _ = A
    obtain ⟨r, a', H', e, hr', o2, old2, wf2, h3⟩ := key A (by subst hA; rfl) (by subst hA; rfl) (by subst hA; rfl)
    subst hr'
    rw [e]
    have hlen2 := o2.R.lenI
    rw [List.length_map] at hlen2
    have hne : (nf z.natAbs).length ≠ 0 := fun h => by have := nf_nil.1 (List.eq_nil_of_length_eq_zero h); omega
    have c1 : ¬ ((nf z.natAbs).length : Int) = 0 := by omega
    simp (disch := omega) only [binS_eql, bindO_some, bindF_some, bindX_normal, blkX_exit, condX_false, upd_at, Option.map_some, ↓reduceIte, Nat.reduceEqDiff, decide_false, ↓bindO_some, ↓bindF_some, ↓bindX_normal, ↓condX_false, fin_r, res_nil, res_tmp, pack_1, h3, hlen2, c1, o2.R.scal]
    refine ⟨_, _, rfl, ?_, oldb.trans (old2.mono oldb.1), wf2⟩
    rw [show nf z = (nf z.natAbs).map (- ·) from by rw [nf_neg']; congr 1; omega]
    exact o2.below oldb.1
  | false =>
    have hz : ¬ z < 0 := by simpa using hnb
    have hlen := o1.R.lenI
    rw [nf_natAbs_pos (by omega)] at o1 hlen hl
    by_cases hne : (nf z).length = 0
    · have c1 : (((nf z).length : Nat) : Int) = 0 := by omega
      have hnil := List.eq_nil_of_length_eq_zero hne
      simp (disch := omega) only [Try.f86, es_seq, es_region, es_cond, es_skip, es_ret, ops_nil, ops_cons, st_move, st_assign, st_fun, sy_len uL, sy_bin, binS_eql, bindO_some, bindF_some, bindX_normal, bindX_ret, condX_true, condX_false, ev_tmp, ev_const, ev_func, putA, upd_at, Option.map_some, ↓reduceIte, Nat.reduceEqDiff, frOf_0, List.map_cons, List.map_nil, decide_true, ↓bindO_some, ↓bindF_some, ↓bindX_normal, ↓bindX_ret, ↓condX_true, ↓condX_false, fin_r, res_nil, res_tmp, pack_1, scal_nil, sy_load aL, sy_load aB, sy_faddr fW0, sy_faddr fW1, sy_box, scal_agg, f0, f1, l1, s1, l0, hlen, c1]
      rw [hnil]
      exact ⟨_, _, rfl, O.nil _ _, old01, wf1⟩
    · have c1 : ¬ (((nf z).length : Nat) : Int) = 0 := by omega
      simp (disch := omega) only [Try.f86, es_seq, es_region, es_cond, es_skip, es_ret, ops_nil, ops_cons, st_move, st_assign, st_fun, sy_len uL, sy_bin, binS_eql, bindO_some, bindF_some, bindX_normal, condX_false, ev_tmp, ev_const, ev_func, putA, upd_at, Option.map_some, ↓reduceIte, Nat.reduceEqDiff, frOf_0, List.map_cons, List.map_nil, decide_false, ↓bindO_some, ↓bindF_some, ↓bindX_normal, ↓condX_false, fin_r, res_nil, res_tmp, pack_1, sy_load aL, sy_load aB, sy_faddr fW0, sy_faddr fW1, sy_box, scal_agg, f0, f1, l1, s1, l0, hlen, c1, o1.R.scal]
      exact ⟨_, _, rfl, o1.below oldb.1, old01, wf1⟩
theorem small_run {H : Heap} {z : Int} (hw : WF H) (h1 : -4000000000000000000 ≤ z) (h2 : z ≤ 4000000000000000000) (n : Nat) (hn : 2002 ≤ n) :
    OneW H (evB Try.prog noC n (.func (.func 110) #[] #[]) [vi z] H) z := by
  refine run_of (F := 2001) (Q := fun r => OneW H r z) (fun n hn => ?_) n hn
  rw [body_runS Try.func110 rfl (ok_fn (by rfl) Try.func110 rfl) (Nat.le_of_ble_eq_true rfl) (D := D0) (by kernel_rfl)]
  have oldb := Old.app H [.cells H.length true [.bool false, .slice none 0 0]]
  have wfb := hw.app (Nat.le_refl H.length) (o := true) (cs := [.bool false, .slice none 0 0])
  have bb := BxM.made (B := H.length) (H := H) (Nat.le_refl _) [.bool false, .slice none 0 0]
  have oldc := Old.app (H ++ [.cells H.length true [.bool false, .slice none 0 0]]) [.cells (H ++ [Blk.cells H.length true [.bool false, .slice none 0 0]]).length true [vi z]]
  obtain ⟨w, H2, s2, ⟨v, rfl, hv⟩, old2, wf2⟩ := read_run (wfb.app (Nat.le_refl _)) (.one (R.push (f := (H ++ [Blk.cells H.length true [.bool false, .slice none 0 0]]).length) (c := vi z)) h1 h2) n (by omega)
  have old12 := oldc.trans (old2.mono oldc.1)
  obtain ⟨H3, s3, bb3, old3, wf3, keep3⟩ := (bb.mono old12).store wf2 (vs := [.bool (decide (z < 0)), v]) rfl
  have s3 : storeN 2 (ptrA H.length 0) (.agg #[.bool (decide (z < 0)), v]) H2 = some H3 := s3
  have s4 : loadN 2 (ptrA H.length 0) H3 = some (.agg #[.bool (decide (z < 0)), v]) := bb3.loadAll
  simp (disch := omega) only [Try.f110, es_seq, es_region, es_ret, ops_nil, ops_cons, st_move, st_fun, sy_build1 eL oI, bindO_some, bindF_some, bindX_normal, ev_tmp, ev_func, putA, upd_at, Option.map_some, ↓reduceIte, Nat.reduceEqDiff, frOf_0, List.map_cons, List.map_nil, ↓bindO_some, ↓bindF_some, ↓bindX_normal, fin_r, res_nil, pack_1, scal_vi, sy_storeN zW, sy_alloc iW scal_agg, res_cell aW zW, s2, s3, s4]
  exact ⟨_, _, rfl, ⟨v, rfl, ((hv.below oldc.1).kept keep3).below oldb.1⟩, (oldb.trans (old12.mono oldb.1)).trans old3, wf3⟩
end Go.Proofs.Ytmmgdgmjkhcfaaa
namespace Go.Proofs.Ytmmgdgmjkhcfaaa
open Go Go.Abs Go.Num
set_option maxRecDepth 10000
attribute [local congr] bindO_congr bindF_congr bindX_congr condX_congr iteB_congr binS_congr pickS_congr eqB_congr nilS_congr
theorem isnan_run (x : Int) (H : Heap) (n : Nat) (hn : 1 ≤ n) : evB Try.prog noC n (.func (.func 124) #[] #[]) [vi x] H = some (.bool false, H) := by
  refine run_of (F := 0) (Q := fun r => r = some (.bool false, H)) (fun n hn => ?_) n hn
  rw [body_runS Try.func124 rfl (ok_fn (by rfl) Try.func124 rfl) (Nat.le_of_ble_eq_true rfl) (D := D0) (by kernel_rfl)]
  have e : decide (x = x) = true := by simp
  simp only [Try.f124, es_seq, es_region, es_ret, ops_nil, ops_cons, st_move, st_assign, sy_bin, binS_neq, bindO_some, bindF_some, bindX_normal, ev_tmp, ev_const, putA, upd_at, Option.map_some, ↓reduceIte, Nat.reduceEqDiff, frOf_0, decide_true, Bool.not_true, ↓bindO_some, ↓bindF_some, ↓bindX_normal, fin_r, res_nil, res_tmp, pack_1, scal_bool]
theorem compare_run (x y : Int) (H : Heap) (n : Nat) (hn : 2 ≤ n) : evB Try.prog noC n (.func (.func 98) #[] #[]) [vi x, vi y] H = some (vi (cmpZ x y), H) := by
  refine run_of (F := 1) (Q := fun r => r = some (vi (cmpZ x y), H)) (fun n hn => ?_) n hn
  rw [body_runS Try.func98 rfl (ok_fn (by rfl) Try.func98 rfl) (Nat.le_of_ble_eq_true rfl) (D := D0) (by kernel_rfl)]
  have s1 := isnan_run x H n hn
  have s2 := isnan_run y H n hn
  unfold cmpZ
  by_cases h1 : x < y
  · simp only [Try.f98, es_seq, es_region, es_cond, es_skip, es_ret, ops_nil, ops_cons, st_move, st_assign, st_fun, sy_bin, binS_lss, bindO_some, bindF_some, bindX_normal, bindX_ret, condX_true, condX_false, ev_tmp, ev_const, ev_func, putA, upd_at, Option.map_some, ↓reduceIte, Nat.reduceEqDiff, frOf_0, frOf_1, List.map_cons, List.map_nil, decide_true, ↓bindO_some, ↓bindF_some, ↓bindX_normal, ↓bindX_ret, ↓condX_true, ↓condX_false, fin_r, res_nil, res_tmp, pack_1, scal_vi, s1, s2, h1]
  · by_cases h2 : y < x
    · simp only [Try.f98, es_seq, es_region, es_cond, es_skip, es_ret, ops_nil, ops_cons, st_move, st_assign, st_fun, sy_bin, binS_lss, binS_gtr, bindO_some, bindF_some, bindX_normal, bindX_ret, condX_true, condX_false, ev_tmp, ev_const, ev_func, putA, upd_at, Option.map_some, ↓reduceIte, Nat.reduceEqDiff, frOf_0, frOf_1, List.map_cons, List.map_nil, decide_true, decide_false, ↓bindO_some, ↓bindF_some, ↓bindX_normal, ↓bindX_ret, ↓condX_true, ↓condX_false, fin_r, res_nil, res_tmp, pack_1, scal_vi, s1, s2, h1, h2]
    · simp only [Try.f98, es_seq, es_region, es_cond, es_skip, es_ret, ops_nil, ops_cons, st_move, st_assign, st_fun, sy_bin, binS_lss, binS_gtr, bindO_some, bindF_some, bindX_normal, condX_false, ev_tmp, ev_const, ev_func, putA, upd_at, Option.map_some, ↓reduceIte, Nat.reduceEqDiff, frOf_0, frOf_1, List.map_cons, List.map_nil, decide_false, ↓bindO_some, ↓bindF_some, ↓bindX_normal, ↓condX_false, fin_r, res_nil, res_tmp, pack_1, scal_vi, s1, s2, h1, h2]
noncomputable def szA : Code := atC [1, 1, 0, 1, 0, 0] ((Try.f115.body).getD .skip)
theorem sizes_loop {H : Heap} {vx vy : Value} {x y : Int} (hx : R H vx (ints (nf x))) (hy : R H vy (ints (nf y))) (x0 : 0 ≤ x) (y0 : 0 ≤ y) (lx : (nf x).length ≤ 900) (hl : (nf x).length = (nf y).length) (n m nt : Nat) (hn : 2 ≤ n) {a : Fr} {k : Nat} (hk : (nf x).length < k)
    (h0 : a 0 = vx) (h1 : a 1 = vy) (h5 : a 5 = vi (((nf x).length : Int) - 1)) :
    ∃ r a' H', loopN (evS Try.prog (evB Try.prog noC n) m nt none szA) k a H = some (r, a', H') ∧ H' = H ∧ ((r = .exit 0 ∧ x = y) ∨ (r = .ret ∧ a' 4 = vi (cmpZ x y))) := by
  refine loop_wf (fun j a H' => H' = H ∧ a 0 = vx ∧ a 1 = vy ∧ a 5 = vi ((j : Int) - 1) ∧ j ≤ (nf x).length ∧ (nf x).drop j = (nf y).drop j) _ ?_ k (nf x).length a H hk ⟨rfl, h0, h1, h5, Nat.le_refl _, by rw [List.drop_length, hl, List.drop_length]⟩
  intro j a H' ⟨hH, h0, h1, h5, hj, hd⟩
  subst hH
  rw [show szA = atC [1, 1, 0, 1, 0, 0] ((Try.f115.body).getD .skip) from rfl]
  by_cases hz : j = 0
  · subst hz
    right
    have c1 : decide ((0 : Int) ≤ ((0 : Nat) : Int) - 1) = false := rfl
    simp (disch := omega) only [Try.f115, Option.getD_some, atC, es_seq, es_region, es_cond, es_exit, ops_nil, ops_cons, st_move, sy_bin, binS_geq, bindO_some, bindF_some, bindX_normal, bindX_exit, condX_false, ev_tmp, ev_const, putA, upd_at, ↓reduceIte, ↓bindO_some, ↓bindF_some, ↓bindX_normal, ↓bindX_exit, ↓condX_false, h5, c1]
    refine ⟨_, _, _, rfl, by simp, rfl, .inl ⟨rfl, ?_⟩⟩
    have := congrArg val hd
    rw [List.drop_zero, List.drop_zero, nf_val, nf_val] at this
    exact this
  · obtain ⟨i, rfl⟩ : ∃ i, j = i + 1 := ⟨j - 1, by omega⟩
    rw [show ((i + 1 : Nat) : Int) - 1 = (i : Int) from by omega] at h5
    have c1 : (0 : Int) ≤ (i : Int) := by omega
    have e1 : IntKind.i64.wrap ((i : Int) - 1) = (i : Int) - 1 := wr64 (by omega) (by omega)
    have hc := cmp_at (nf_dg x0) (nf_dg y0) (i := i) (by omega) (by omega) hd
    rw [nf_val, nf_val] at hc
    by_cases he : (nf x).getD i 0 = (nf y).getD i 0
    · left
      simp (disch := omega) only [Try.f115, Option.getD_some, atC, es_seq, es_region, es_draw, d0, es_cond, es_block, es_skip, ops_nil, ops_cons, opsV_nil, opsV_cons, st_move, st_assign, sy_addr eL, sy_load aI, sy_bin, binS_geq, binS_neq, binS_sub, bindO_some, bindF_some, bindX_normal, blkX_normal, condX_true, condX_false, iteB_true, iteB_false, ev_tmp, ev_const, putA, upd_at, Option.map_some, ↓reduceIte, Nat.reduceEqDiff, Int.toNat_natCast, decide_true, Bool.not_true, ↓bindO_some, ↓bindF_some, ↓bindX_normal, ↓condX_true, ↓condX_false, ↓iteB_true, ↓iteB_false, reflV_load, reflV_move, reflV_bin, reflV_addr, vEq_vi, h0, h1, h5, c1, hx.addrI, hx.loadI, hy.addrI, hy.loadI, he, e1]
      exact ⟨_, _, rfl, i, by omega, rfl, by simp only [upd_get, ↓reduceIte, Nat.reduceEqDiff, h0], by simp only [upd_get, ↓reduceIte, Nat.reduceEqDiff, h1], by simp only [upd_get, ↓reduceIte], by omega, by rw [drop_getD (by omega), drop_getD (l := nf y) (by omega), hd, he]⟩
    · right
      have s1 := compare_run ((nf x).getD i 0) ((nf y).getD i 0) H' n hn
      have e2 : cmpZ ((nf x).getD i 0) ((nf y).getD i 0) = cmpZ x y := by
        unfold cmpZ
        by_cases hlt : (nf x).getD i 0 < (nf y).getD i 0
        · rw [if_pos hlt, if_pos (hc.1 hlt)]
        · have hgt : (nf y).getD i 0 < (nf x).getD i 0 := by omega
          have := hc.2 hgt
          rw [if_neg hlt, if_pos hgt, if_neg (by omega), if_pos this]
      simp (disch := omega) only [Try.f115, Option.getD_some, atC, es_seq, es_region, es_draw, d0, es_cond, es_block, es_skip, es_ret, ops_nil, ops_cons, opsV_nil, opsV_cons, st_move, st_assign, st_fun, sy_addr eL, sy_load aI, sy_bin, binS_geq, binS_neq, bindO_some, bindF_some, bindX_normal, bindX_ret, blkX_ret, condX_true, iteB_true, iteB_false, ev_tmp, ev_const, ev_func, putA, upd_at, Option.map_some, ↓reduceIte, Nat.reduceEqDiff, Int.toNat_natCast, List.map_cons, List.map_nil, decide_true, decide_false, Bool.not_false, ↓bindO_some, ↓bindF_some, ↓bindX_normal, ↓bindX_ret, ↓condX_true, ↓iteB_true, ↓iteB_false, reflV_load, reflV_move, reflV_assign, reflV_bin, reflV_addr, reflV_call, vEq_vi, h0, h1, h5, c1, hx.addrI, hx.loadI, hy.addrI, hy.loadI, he, s1, e2]
      exact ⟨_, _, _, rfl, by simp, rfl, .inr ⟨rfl, by simp only [upd_get, ↓reduceIte]⟩⟩
theorem sizes_run {H : Heap} {vx vy : Value} {x y : Int} (hx : R H vx (ints (nf x))) (hy : R H vy (ints (nf y))) (x0 : 0 ≤ x) (y0 : 0 ≤ y) (lx : (nf x).length ≤ 900) (ly : (nf y).length ≤ 900) (n : Nat) (hn : 1002 ≤ n) :
    evB Try.prog noC n (.func (.func 115) #[] #[]) [vx, vy] H = some (vi (cmpZ x y), H) := by
  refine run_of (F := 1001) (Q := fun r => r = some (vi (cmpZ x y), H)) (fun n hn => ?_) n hn
  rw [body_runS Try.func115 rfl (ok_fn (by rfl) Try.func115 rfl) (Nat.le_of_ble_eq_true rfl) (D := D0) (by kernel_rfl)]
  by_cases hl : (nf x).length = (nf y).length
  · have c1 : (((nf x).length : Int) = (nf y).length) := by omega
    have e1 : IntKind.i64.wrap (((nf y).length : Int) - 1) = ((nf y).length : Int) - 1 := wr64 (by omega) (by omega)
    have key := fun (A : Fr) => sizes_loop hx hy x0 y0 lx hl n n Try.f115.ntmps (by omega) (a := A) (k := n) (by omega)
    rw [show szA = atC [1, 1, 0, 1, 0, 0] ((Try.f115.body).getD .skip) from rfl] at key
    simp only [Try.f115, Option.getD_some, atC] at key
    simp (disch := omega) only [Try.f115, es_seq, es_region, es_cond, es_block, es_loop, es_skip, es_ret, ops_nil, ops_cons, st_move, st_assign, sy_len uL, sy_bin, binS_neq, binS_sub, bindO_some, bindF_some, bindX_normal, condX_false, ev_tmp, ev_const, putA, upd_at, Option.map_some, ↓reduceIte, Nat.reduceEqDiff, frOf_0, frOf_1, decide_true, Bool.not_true, ↓bindO_some, ↓bindF_some, ↓bindX_normal, ↓condX_false, hx.lenI, hy.lenI, c1, e1]
    generalize hA : upd _ 5 _ = A
    obtain ⟨r, a', H', e, hH, h⟩ := key A (by subst hA; rfl) (by subst hA; rfl) (by subst hA; rw [c1]; rfl)
    subst hH
    rw [e]
    rcases h with ⟨rfl, rfl⟩ | ⟨rfl, h4⟩
    · have c2 : cmpZ x x = 0 := by simp [cmpZ]
      simp (disch := omega) only [bindX_normal, blkX_exit, upd_at, Option.map_some, ↓reduceIte, ↓bindX_normal, fin_r, res_nil, res_tmp, pack_1, scal_vi, c2]
    · simp (disch := omega) only [bindX_ret, blkX_ret, Option.map_some, ↓bindX_ret, fin_r, res_nil, res_tmp, pack_1, scal_vi, h4]
  · have c1 : ¬ (((nf x).length : Int) = (nf y).length) := by omega
    have s1 := compare_run (((nf x).length : Nat) : Int) (((nf y).length : Nat) : Int) H n (by omega)
    have e2 : cmpZ (((nf x).length : Nat) : Int) (((nf y).length : Nat) : Int) = cmpZ x y := by
      unfold cmpZ
      by_cases hlt : (nf x).length < (nf y).length
      · rw [if_pos (by omega), if_pos (nf_len_lt x0 y0 hlt)]
      · have hgt : (nf y).length < (nf x).length := by omega
        have := nf_len_lt y0 x0 hgt
        rw [if_neg (by omega), if_pos (by omega), if_neg (by omega), if_pos this]
    simp (disch := omega) only [Try.f115, es_seq, es_region, es_cond, es_ret, ops_nil, ops_cons, st_move, st_assign, st_fun, sy_len uL, sy_bin, binS_neq, bindO_some, bindF_some, bindX_normal, bindX_ret, condX_true, ev_tmp, ev_const, ev_func, putA, upd_at, Option.map_some, ↓reduceIte, Nat.reduceEqDiff, frOf_0, frOf_1, List.map_cons, List.map_nil, decide_false, Bool.not_false, ↓bindO_some, ↓bindF_some, ↓bindX_normal, ↓bindX_ret, ↓condX_true, fin_r, res_nil, res_tmp, pack_1, scal_vi, hx.lenI, hy.lenI, c1, s1, e2]
theorem sign_run {C : Nat} {H : Heap} {w : Value} {z : Int} (hw : WF H) (hv : Wh C H w z) (hl : (nf z.natAbs).length ≤ 900) (n : Nat) (hn : 10 ≤ n) :
    ∃ H', evB Try.prog noC n (.func (.func 145) #[] #[]) [w] H = some (vi (cmpZ z 0), H') ∧ Old H.length H H' ∧ WF H' := by
  obtain ⟨v, rfl, hr⟩ := hv
  have hr := hr.R
  generalize hnb : decide (z < 0) = nb
  refine run_of (F := 9) (Q := fun r => ∃ H', r = some (vi (cmpZ z 0), H') ∧ Old H.length H H' ∧ WF H') (fun n hn => ?_) n hn
  rw [body_runS Try.func145 rfl (ok_fn (by rfl) Try.func145 rfl) (Nat.le_of_ble_eq_true rfl) (D := D0) (by kernel_rfl)]
  have oldb := Old.app H [.cells H.length true [.bool nb, v]]
  have wfb := hw.app (Nat.le_refl H.length) (o := true) (cs := [.bool nb, v])
  have bb := BxM.made (B := H.length) (H := H) (Nat.le_refl _) [.bool nb, v]
  have f0 := bb.faddr 0
  have f1 := bb.faddr 1
  have l1 : loadS (bx (ptrA H.length 0) 1) (H ++ [.cells H.length true [.bool nb, v]]) = some v := bb.load 1
  have l0 : loadS (bx (ptrA H.length 0) 0) (H ++ [.cells H.length true [.bool nb, v]]) = some (.bool nb) := bb.load 0
  have hlen := hr.lenI
  by_cases hz : z = 0
  · subst hz
    have c1 : (((nf ((0 : Int).natAbs : Int)).length : Nat) : Int) = 0 := by rw [show ((0 : Int).natAbs : Int) = 0 from rfl, nf_zero]; rfl
    have e : cmpZ 0 0 = 0 := rfl
    simp (disch := omega) only [Try.f145, es_seq, es_region, es_cond, es_block, es_ret, ops_nil, ops_cons, st_assign, sy_len uL, sy_bin, binS_eql, bindO_some, bindF_some, bindX_normal, bindX_ret, blkX_ret, condX_true, ev_tmp, ev_const, putA, upd_at, Option.map_some, ↓reduceIte, Nat.reduceEqDiff, frOf_0, decide_true, ↓bindO_some, ↓bindF_some, ↓bindX_normal, ↓bindX_ret, ↓condX_true, fin_r, res_nil, res_tmp, pack_1, scal_vi, sy_load aL, sy_faddr fW1, sy_box, scal_agg, f1, l1, hlen, c1, e]
    exact ⟨_, rfl, oldb, wfb⟩
  · have hne : (nf z.natAbs).length ≠ 0 := fun h => by have := nf_nil.1 (List.eq_nil_of_length_eq_zero h); omega
    have c1 : ¬ (((nf z.natAbs).length : Nat) : Int) = 0 := by omega
    cases nb with
    | true =>
      have e : cmpZ z 0 = -1 := if_pos (by simpa using hnb)
      simp (disch := omega) only [Try.f145, es_seq, es_region, es_cond, es_block, es_ret, ops_nil, ops_cons, st_assign, sy_len uL, sy_bin, binS_eql, bindO_some, bindF_some, bindX_normal, bindX_ret, blkX_ret, condX_true, condX_false, ev_tmp, ev_const, putA, upd_at, Option.map_some, ↓reduceIte, Nat.reduceEqDiff, frOf_0, decide_false, ↓bindO_some, ↓bindF_some, ↓bindX_normal, ↓bindX_ret, ↓condX_true, ↓condX_false, fin_r, res_nil, res_tmp, pack_1, scal_vi, sy_load aL, sy_load aB, sy_faddr fW0, sy_faddr fW1, sy_box, scal_agg, f1, l1, hlen, c1, f0, l0, e]
      exact ⟨_, rfl, oldb, wfb⟩
    | false =>
      have hn' : ¬ z < 0 := by simpa using hnb
      have e : cmpZ z 0 = 1 := by unfold cmpZ; rw [if_neg hn', if_pos (by omega)]
      simp (disch := omega) only [Try.f145, es_seq, es_region, es_cond, es_block, es_skip, es_ret, ops_nil, ops_cons, st_assign, sy_len uL, sy_bin, binS_eql, bindO_some, bindF_some, bindX_normal, blkX_normal, condX_false, ev_tmp, ev_const, putA, upd_at, Option.map_some, ↓reduceIte, Nat.reduceEqDiff, frOf_0, decide_false, ↓bindO_some, ↓bindF_some, ↓bindX_normal, ↓condX_false, fin_r, res_nil, res_tmp, pack_1, scal_vi, sy_load aL, sy_load aB, sy_faddr fW0, sy_faddr fW1, sy_box, scal_agg, f1, l1, hlen, c1, f0, l0, e]
      exact ⟨_, rfl, oldb, wfb⟩
end Go.Proofs.Ytmmgdgmjkhcfaaa
namespace Go.Proofs.Ytmmgdgmjkhcfaaa
open Go Go.Abs Go.Num
set_option maxRecDepth 10000
attribute [local congr] bindO_congr bindF_congr bindX_congr condX_congr iteB_congr binS_congr pickS_congr eqB_congr nilS_congr clsW_congr
noncomputable def timA : Code := atC [1, 1, 1, 0, 1, 0, 0] ((Try.f88.body).getD .skip)
noncomputable def timB : Code := atC [1, 1, 1, 0, 1, 0, 0, 1, 1, 0, 0, 1, 1, 0, 1, 0, 0] ((Try.f88.body).getD .skip)
theorem app_getD {l z : List Int} {j : Nat} (h : j < l.length) : (l ++ z).getD j 0 = l.getD j 0 := by
  rw [List.getD_eq_getElem?_getD, List.getD_eq_getElem?_getD, List.getElem?_append_left h]
theorem app_set {l z : List Int} {j : Nat} (h : j < l.length) (x : Int) : (l ++ z).set j x = l.set j x ++ z := List.set_append_left _ _ h
theorem tim_inner {B0 : Nat} {H : Heap} {vb vo : Value} {w q : Int} {i : Nat} {lo z : List Int} (hb : ∀ G, Old B0 H G → R G vb (ints (nf w))) (w0 : 0 ≤ w) (lw : (nf w).length ≤ 400) (hq : 0 ≤ q ∧ q < 100000000) (ho : O B0 H vo (ints (lo ++ z))) (hlo : lo.length = i + (nf w).length) (hd : Dg lo) (hi : i ≤ 400) (hw : WF H) (call : CallF) (m nt : Nat) {a : Fr} {k : Nat} (hk : (nf w).length < k)
    (h5 : a 5 = vo) (h6 : a 6 = vi i) (h7 : a 7 = vi q) (h8 : a 8 = vi 0) (h40 : a 40 = vb) (h41 : a 41 = vi (nf w).length) (h42 : a 42 = vi (0 : Nat)) {v2 v3 v4 v32 v33 v34 : Value} (h2 : a 2 = v2) (h3 : a 3 = v3) (h4 : a 4 = v4) (h32 : a 32 = v32) (h33 : a 33 = v33) (h34 : a 34 = v34) :
    ∃ r a' H', loopN (evT Try.prog call m nt none D1 timB) k a H = some (r, a', H') ∧ r = .exit 2 ∧ (a' 5 = vo ∧ a' 6 = vi i ∧ a' 2 = v2 ∧ a' 3 = v3 ∧ a' 4 = v4 ∧ a' 32 = v32 ∧ a' 33 = v33 ∧ a' 34 = v34) ∧ Old B0 H H' ∧ WF H' ∧ ∃ lo' c, a' 8 = vi c ∧ O B0 H' vo (ints (lo' ++ z)) ∧ lo'.length = lo.length ∧ Dg lo' ∧ 0 ≤ c ∧ c < 100000000 ∧ val lo' + B ^ (i + (nf w).length) * c = val lo + B ^ i * (q * w) := by
  refine loop_up (nf w).length (fun j a H' => (a 5 = vo ∧ a 6 = vi i ∧ a 2 = v2 ∧ a 3 = v3 ∧ a 4 = v4 ∧ a 32 = v32 ∧ a 33 = v33 ∧ a 34 = v34) ∧ a 7 = vi q ∧ a 40 = vb ∧ a 41 = vi (nf w).length ∧ a 42 = vi j ∧ Old B0 H H' ∧ WF H' ∧ ∃ lo' c, a 8 = vi c ∧ O B0 H' vo (ints (lo' ++ z)) ∧ lo'.length = lo.length ∧ Dg lo' ∧ 0 ≤ c ∧ c < 100000000 ∧ val lo' + B ^ (i + j) * c = val lo + B ^ i * (q * val ((nf w).take j))) _ ?_ ?_ hk
    ⟨⟨h5, h6, h2, h3, h4, h32, h33, h34⟩, h7, h40, h41, h42, Old.refl _ _, hw, lo, 0, h8, ho, rfl, hd, by omega, by omega, by simp [val]⟩
  · intro j a H' hj ⟨⟨h5, h6, h2, h3, h4, h32, h33, h34⟩, h7, h40, h41, h42, old, hw, lo', c, h8, ho, hl, hd, c0, c1, hval⟩
    left
    rw [show timB = atC [1, 1, 1, 0, 1, 0, 0, 1, 1, 0, 0, 1, 1, 0, 1, 0, 0] ((Try.f88.body).getD .skip) from rfl]
    have hm := (nf_dg w0).getD j
    have hx := hd.getD (i + j)
    have hp := prod_le hq hm
    have hrb := hb H' old
    have hro := ho.R
    have hjl : i + j < lo'.length := by omega
    have hlt : (j : Int) < (nf w).length := by omega
    have e0 : IntKind.i64.wrap ((i : Int) + (j : Int)) = ((i + j : Nat) : Int) := by rw [wr64 (by omega) (by omega)]; omega
    have a1 : addrS 1 vo (vi ((i + j : Nat) : Int)) = some (pt vo (i + j)) := by have := hro.addrI (i := ((i + j : Nat) : Int)) (by omega) (by rw [List.length_append]; omega); rwa [Int.toNat_natCast] at this
    have l1 : loadS (pt vo (i + j)) H' = some (vi (lo'.getD (i + j) 0)) := by rw [hro.loadI (by rw [List.length_append]; omega), app_getD hjl]
    have e1 : IntKind.i64.wrap (q * (nf w).getD j 0) = q * (nf w).getD j 0 := wr64 (by omega) (by omega)
    have e2 : IntKind.i64.wrap (lo'.getD (i + j) 0 + q * (nf w).getD j 0) = lo'.getD (i + j) 0 + q * (nf w).getD j 0 := wr64 (by omega) (by omega)
    have e3 : IntKind.i64.wrap (lo'.getD (i + j) 0 + q * (nf w).getD j 0 + c) = lo'.getD (i + j) 0 + q * (nf w).getD j 0 + c := wr64 (by omega) (by omega)
    have e4 : (lo'.getD (i + j) 0 + q * (nf w).getD j 0 + c).tmod 100000000 = (lo'.getD (i + j) 0 + q * (nf w).getD j 0 + c) % 100000000 := tmod_pos (by omega) _
    have e5 : (lo'.getD (i + j) 0 + q * (nf w).getD j 0 + c).tdiv 100000000 = (lo'.getD (i + j) 0 + q * (nf w).getD j 0 + c) / 100000000 := tdiv_pos (by omega) _
    have e6 : IntKind.i64.wrap ((lo'.getD (i + j) 0 + q * (nf w).getD j 0 + c) / 100000000) = (lo'.getD (i + j) 0 + q * (nf w).getD j 0 + c) / 100000000 := wr64 (by omega) (by omega)
    have e7 : IntKind.i64.wrap ((j : Int) + 1) = ((j + 1 : Nat) : Int) := by rw [wr64 (by omega) (by omega)]; omega
    obtain ⟨H2, s2, o2, old2, wf2⟩ := ho.setI hw (i := i + j) (by rw [List.length_append]; omega) ((lo'.getD (i + j) 0 + q * (nf w).getD j 0 + c) % 100000000)
    rw [app_set hjl] at o2
    simp (disch := omega) only [Try.f88, Option.getD_some, atC, es_seq, es_region, es_cond, es_block, es_skip, ops_nil, ops_cons, st_move, st_assign, sy_addr eL, sy_load aI, sy_store zI, sy_bin, binS_lss, binS_add, binS_mul, binS_quo, binS_rem, bindO_some, bindF_some, bindX_normal, blkX_normal, condX_true, ev_tmp, ev_const, putA, upd_at, Option.map_some, ↓reduceIte, Nat.reduceEqDiff, Int.toNat_natCast, decide_true, ↓bindO_some, ↓bindF_some, ↓bindX_normal, ↓condX_true, h5, h6, h7, h8, h40, h41, h42, hlt, hrb.addrI, hrb.loadI, e0, a1, l1, e1, e2, e3, e4, e5, e6, s2, e7]
    refine ⟨_, _, rfl, ⟨h5, h6, h2, h3, h4, h32, h33, h34⟩, h7, h40, h41, rfl, old.trans old2, wf2, _, (lo'.getD (i + j) 0 + q * (nf w).getD j 0 + c) / 100000000, rfl, o2, by rw [List.length_set]; exact hl, hd.set _ (by omega) (by omega), by omega, by omega, ?_⟩
    rw [show i + (j + 1) = i + j + 1 from rfl, times_step hjl, hval, val_take_succ, Int.mul_add, Int.mul_add, Int.pow_add, Int.mul_left_comm q (B ^ j), Int.mul_assoc (B ^ i) (B ^ j)]
    omega
  · intro a H' ⟨hs, h7, h40, h41, h42, old, hw, lo', c, h8, ho, hl, hd, c0, c1, hval⟩
    rw [show timB = atC [1, 1, 1, 0, 1, 0, 0, 1, 1, 0, 0, 1, 1, 0, 1, 0, 0] ((Try.f88.body).getD .skip) from rfl]
    simp (disch := omega) only [Try.f88, Option.getD_some, atC, es_seq, es_region, es_cond, es_exit, ops_nil, ops_cons, sy_bin, binS_lss, bindO_some, bindF_some, bindX_normal, bindX_exit, condX_false, ev_tmp, putA, upd_at, ↓reduceIte, decide_false, ↓bindO_some, ↓bindF_some, ↓bindX_normal, ↓bindX_exit, ↓condX_false, h41, h42, Int.lt_irrefl]
    exact ⟨_, _, _, rfl, by simp, rfl, by simpa only [upd_at, ↓reduceIte, Nat.reduceEqDiff] using hs, old, hw, lo', c, h8, ho, hl, hd, c0, c1, by rw [hval, List.take_length, nf_val]⟩
theorem repl_snoc (l : List Int) (c : Int) {n : Nat} (h : 0 < n) : (l ++ List.replicate n 0).set l.length c = (l ++ [c]) ++ List.replicate (n - 1) 0 := by
  rw [List.set_append_right _ _ (Nat.le_refl _), Nat.sub_self, List.append_assoc]
  obtain ⟨m, rfl⟩ : ∃ m, n = m + 1 := ⟨n - 1, by omega⟩
  rw [List.replicate_succ]; rfl
theorem tim_outer {B0 : Nat} {H : Heap} {va vb vo p2 p3 p4 q3 : Value} {u w : Int} (hB : B0 ≤ H.length) (f31 : faddrS 1 p3 = some q3) (l31 : ∀ G, Old B0 H G → loadS q3 G = some vb) (ha : ∀ G, Old B0 H G → R G va (ints (nf u))) (hb : ∀ G, Old B0 H G → R G vb (ints (nf w))) (u0 : 0 ≤ u) (w0 : 0 ≤ w) (lu : (nf u).length ≤ 400) (lw : (nf w).length ≤ 400) (ho : O B0 H vo (ints (List.replicate ((nf w).length + (nf u).length) 0))) (hw : WF H) (call : CallF) (m nt : Nat) (hm : 1000 ≤ m) {a : Fr} {k : Nat} (hk : (nf u).length < k)
    (h2 : a 2 = p2) (h3 : a 3 = p3) (h4 : a 4 = p4) (h5 : a 5 = vo) (h32 : a 32 = va) (h33 : a 33 = vi (nf u).length) (h34 : a 34 = vi (0 : Nat)) :
    ∃ r a' H', loopN (evT Try.prog call m nt none D1 timA) k a H = some (r, a', H') ∧ r = .exit 0 ∧ a' 2 = p2 ∧ a' 3 = p3 ∧ a' 4 = p4 ∧ a' 5 = vo ∧ Old B0 H H' ∧ WF H' ∧ ∃ lo, O B0 H' vo (ints lo) ∧ Dg lo ∧ lo.length = (nf u).length + (nf w).length ∧ val lo = u * w := by
  refine loop_up (nf u).length (fun i a H' => a 2 = p2 ∧ a 3 = p3 ∧ a 4 = p4 ∧ a 5 = vo ∧ a 32 = va ∧ a 33 = vi (nf u).length ∧ a 34 = vi i ∧ Old B0 H H' ∧ WF H' ∧ ∃ lo, O B0 H' vo (ints (lo ++ List.replicate ((nf u).length - i) 0)) ∧ lo.length = i + (nf w).length ∧ Dg lo ∧ val lo = val ((nf u).take i) * w) _ ?_ ?_ hk
    ⟨h2, h3, h4, h5, h32, h33, h34, Old.refl _ _, hw, List.replicate (nf w).length 0, by rw [Nat.sub_zero, List.replicate_append_replicate]; exact ho, by simp, fun x hx => by have := List.eq_of_mem_replicate hx; subst this; unfold B; omega, by simp [val, val_zeros]⟩
  · intro i a H' hi ⟨h2, h3, h4, h5, h32, h33, h34, old, hw, lo, ho, hl, hd, hval⟩
    left
    rw [show timA = atC [1, 1, 1, 0, 1, 0, 0] ((Try.f88.body).getD .skip) from rfl]
    have hlt : (i : Int) < (nf u).length := by omega
    have hra := ha H' old
    have hrb := hb H' old
    have ld1 := l31 H' old
    have hq := (nf_dg u0).getD i
    have key := fun (A : Fr) => tim_inner (fun G hG => hb G (old.trans hG)) w0 lw hq ho (by omega) hd (by omega) hw call m nt (a := A) (k := m) (by omega)
    rw [show timB = atC [1, 1, 1, 0, 1, 0, 0, 1, 1, 0, 0, 1, 1, 0, 1, 0, 0] ((Try.f88.body).getD .skip) from rfl] at key
    simp only [Try.f88, Option.getD_some, atC] at key
    have e1 : IntKind.i64.wrap ((i : Int) + ((nf w).length : Int)) = ((i + (nf w).length : Nat) : Int) := by rw [wr64 (by omega) (by omega)]; omega
    have e2 : IntKind.i64.wrap ((i : Int) + 1) = ((i + 1 : Nat) : Int) := by rw [wr64 (by omega) (by omega)]; omega
    simp (disch := omega) only [Try.f88, Option.getD_some, atC, es_seq, es_region, es_cond, es_block, es_loop, es_skip, ops_nil, ops_cons, st_move, st_assign, sy_len uL, sy_addr eL, sy_load aI, sy_store zI, sy_bin, binS_lss, bindO_some, bindF_some, bindX_normal, condX_true, ev_tmp, ev_const, putA, upd_at, Option.map_some, ↓reduceIte, Nat.reduceEqDiff, Int.toNat_natCast, decide_true, ↓bindO_some, ↓bindF_some, ↓bindX_normal, ↓condX_true, sy_load aL, sy_faddr fW1, h3, h32, h33, h34, hlt, f31, ld1, hra.addrI, hra.loadI, hrb.lenI]
    generalize hA : upd _ 42 _ = A
    obtain ⟨r, a', H2, e, hr, ⟨g5, g6, g2, g3, g4, g32, g33, g34⟩, old2, wf2, lo', c, g8, ho', hl', hd', c0, c1, hval'⟩ := key A (by subst hA; exact h5) (by subst hA; rfl) (by subst hA; rfl) (by subst hA; rfl) (by subst hA; rfl) (by subst hA; rfl) (by subst hA; rfl) (by subst hA; exact h2) (by subst hA; exact h3) (by subst hA; exact h4) (by subst hA; exact h32) (by subst hA; exact h33) (by subst hA; exact h34)
    subst hr
    rw [e]
    clear e key
    have ld2 := l31 H2 (old.trans old2)
    have hrb2 := hb H2 (old.trans old2)
    have ro := ho'.R
    have a1 : addrS 1 vo (vi ((i + (nf w).length : Nat) : Int)) = some (pt vo (i + (nf w).length)) := by have := ro.addrI (i := ((i + (nf w).length : Nat) : Int)) (by omega) (by rw [List.length_append, List.length_replicate]; omega); rwa [Int.toNat_natCast] at this
    obtain ⟨H3, s3, o3, old3, wf3⟩ := ho'.setI wf2 (i := i + (nf w).length) (by rw [List.length_append, List.length_replicate]; omega) c
    rw [show i + (nf w).length = lo'.length from by omega, repl_snoc _ _ (by omega)] at o3
    simp (disch := omega) only [binS_add, bindO_some, bindF_some, bindX_normal, blkX_normal, blkX_exit, upd_at, Option.map_some, ↓reduceIte, Nat.reduceEqDiff, ↓bindO_some, ↓bindF_some, ↓bindX_normal, g3, g5, g6, g8, g34, f31, ld2, hrb2.lenI, e1, a1, s3, e2]
    refine ⟨_, _, rfl, g2, g3, g4, g5, g32, g33, rfl, (old.trans old2).trans old3, wf3, lo' ++ [c], by rw [show (nf u).length - (i + 1) = (nf u).length - i - 1 from by omega]; exact o3, by rw [List.length_append, List.length_singleton]; omega, hd'.app (Dg.one c0 c1), ?_⟩
    rw [val_snoc, hl', hl, hval', hval, val_take_succ, Int.add_mul, Int.mul_assoc]
  · intro a H' ⟨h2, h3, h4, h5, h32, h33, h34, old, hw, lo, ho, hl, hd, hval⟩
    rw [show timA = atC [1, 1, 1, 0, 1, 0, 0] ((Try.f88.body).getD .skip) from rfl]
    simp (disch := omega) only [Try.f88, Option.getD_some, atC, es_seq, es_region, es_cond, es_exit, ops_nil, ops_cons, sy_bin, binS_lss, bindO_some, bindF_some, bindX_normal, bindX_exit, condX_false, ev_tmp, putA, upd_at, ↓reduceIte, decide_false, ↓bindO_some, ↓bindF_some, ↓bindX_normal, ↓bindX_exit, ↓condX_false, h33, h34, Int.lt_irrefl]
    rw [Nat.sub_self, List.replicate_zero, List.append_nil] at ho
    exact ⟨_, _, _, rfl, by simp, rfl, h2, h3, h4, h5, old, hw, lo, ho, hd, hl, by rw [hval, List.take_length, nf_val]⟩
theorem tim_r16 {H H6 : Heap} {px py p4 vo d : Value} {nx ny : Bool} (call : CallF) (k nt : Nat) (rd : Option Nat) {a : Fr} {q0 q1 : Value} (h2 : a 2 = px) (h3 : a 3 = py) (h4 : a 4 = p4) (h5 : a 5 = vo) (f0 : faddrS 0 px = some q0) (f1 : faddrS 0 py = some q1)
    (l0 : ∀ G, G = H ∨ G = H6 → loadS q0 G = some (.bool nx)) (l1 : ∀ G, G = H ∨ G = H6 → loadS q1 G = some (.bool ny))
    (s1 : call (.func (.func 114) #[] #[]) [vo] H = some (d, H)) (sd : Abs.scal d = some [d]) (s3 : storeN 2 p4 (.agg #[.bool (!(nx == ny)), d]) H = some H6) :
    ∃ a' H', evT Try.prog call k nt rd D1 (atC [1, 1, 1, 1, 0] ((Try.f88.body).getD .skip)) a H = some (.normal, a', H') ∧ H' = H6 ∧ a' 4 = p4 := by
  simp only [Try.f88, Option.getD_some, atC]
  refine et_from (fun a' H' => H' = H6 ∧ a' 4 = p4) ?_
  have e0 := l0 H (.inl rfl)
  have e1 := l1 H (.inl rfl)
  simp (disch := omega) only [st_move, st_fun, bindO_some, ev_tmp, ev_func, putA, upd_at, Option.map_some, ↓reduceIte, Nat.reduceEqDiff, List.map_cons, List.map_nil, ↓bindO_some, sy_load aB, sy_faddr fW0, sy_storeN zW, sy_build, sy_ne nB, eqB_bool, Bool.true_xor, opsW_nil, opsW_cons, clsW_eff, clsW_read, clsW_pure, ↓clsW_eff, ↓clsW_read, ↓clsW_pure, cls_move, cls_bin, cls_load, cls_callF, cls_store, cls_faddr, cls_build, h2, h3, h4, h5, f0, f1, e0, e1, s1, bW2 (!(nx == ny)) d sd, s3]
  refine ⟨_, rfl, ?_, rfl, ?_⟩
  · intro G hG r hr
    simp only [List.mem_cons, List.not_mem_nil, or_false] at hG hr
    have hG' : G = H ∨ G = H6 := by
      rcases hG with h | h | h
      · exact .inr h
      all_goals exact .inl h
    have e0 := l0 G hG'
    have e1 := l1 G hG'
    rcases hr with rfl | rfl
    all_goals simp only [still_ld aB, ev_tmp, upd_at, ↓reduceIte, vEq_bool, e0, e1]
  · simp only [upd_at, ↓reduceIte, Nat.reduceEqDiff, h4]
theorem mul_sign {x y : Int} {nx ny : Bool} (hx : decide (x < 0) = nx) (hy : decide (y < 0) = ny) (h1 : x ≠ 0) (h2 : y ≠ 0) : decide (x * y < 0) = !(nx == ny) := by
  subst hx; subst hy
  rcases Int.lt_or_gt_of_ne h1 with a | a <;> rcases Int.lt_or_gt_of_ne h2 with b | b
  · have := Int.mul_pos_of_neg_of_neg a b
    simp [a, b]; omega
  · have := Int.mul_neg_of_neg_of_pos a b
    have c : ¬ y < 0 := by omega
    simp [a, c, this]
  · have := Int.mul_neg_of_pos_of_neg a b
    have c : ¬ x < 0 := by omega
    simp [b, c, this]
  · have := Int.mul_pos a b
    have c : ¬ x < 0 := by omega
    have d : ¬ y < 0 := by omega
    simp [c, d]; omega
theorem times_run {C : Nat} {H : Heap} {wx wy : Value} {x y : Int} (hw : WF H) (hx : Wh C H wx x) (hy : Wh C H wy y) (lx : (nf x.natAbs).length ≤ 390) (ly : (nf y.natAbs).length ≤ 390) (n : Nat) (hn : 2010 ≤ n) :
    OneW H (evB Try.prog noC n (.func (.func 88) #[] #[]) [wx, wy] H) (x * y) := by
  obtain ⟨vx, rfl, hx⟩ := hx
  obtain ⟨vy, rfl, hy⟩ := hy
  have hx := hx.R
  have hy := hy.R
  generalize hnx : decide (x < 0) = nx
  generalize hny : decide (y < 0) = ny
  refine run_of (F := 2009) (Q := fun r => OneW H r (x * y)) (fun n hn => ?_) n hn
  rw [body_runS Try.func88 rfl (ok_fn (by rfl) Try.func88 rfl) (Nat.le_of_ble_eq_true rfl) (D := D1) (by kernel_rfl)]
  have old1 := Old.app H [.cells H.length true [.bool nx, vx]]
  have wf1 := hw.app (Nat.le_refl H.length) (o := true) (cs := [.bool nx, vx])
  have b1 := BxM.made (B := H.length) (H := H) (Nat.le_refl _) [.bool nx, vx]
  generalize hH1 : H ++ [Blk.cells H.length true [.bool nx, vx]] = H1 at *
  have old2 := Old.app H1 [.cells H1.length true [.bool ny, vy]]
  have wf2 := wf1.app (Nat.le_refl H1.length) (o := true) (cs := [.bool ny, vy])
  have b2 := BxM.made (B := H1.length) (H := H1) (Nat.le_refl _) [.bool ny, vy]
  generalize hH2 : H1 ++ [Blk.cells H1.length true [.bool ny, vy]] = H2 at *
  have old3 := Old.app H2 [.cells H2.length true [.bool false, .slice none 0 0]]
  have wf3 := wf2.app (Nat.le_refl H2.length) (o := true) (cs := [.bool false, .slice none 0 0])
  have b3 := BxM.made (B := H2.length) (H := H2) (Nat.le_refl _) [.bool false, .slice none 0 0]
  generalize hH3 : H2 ++ [Blk.cells H2.length true [.bool false, .slice none 0 0]] = H3 at *
  have old13 := old2.trans (old3.mono old2.1)
  have old03 := old1.trans (old13.mono old1.1)
  have b1 := b1.mono old13
  have b2 := b2.mono old3
  have f10 := b1.faddr 0
  have f11 := b1.faddr 1
  have f20 := b2.faddr 0
  have f21 := b2.faddr 1
  have l11 : loadS (bx (ptrA H.length 0) 1) H3 = some vx := b1.load 1
  have l21 : loadS (bx (ptrA H1.length 0) 1) H3 = some vy := b2.load 1
  have hx3 := hx.mono old03
  have hy3 := hy.mono old03
  have hlx := hx.lenI
  have hly := hy.lenI
  -- the end: the box of the result
  have fin : ∀ (H4 : Heap) (v : Value) (nb : Bool) (z : Int), Old H3.length H3 H4 → WF H4 → RO H3.length H4 v (ints (nf z.natAbs)) → decide (z < 0) = nb → ∃ H5, storeN 2 (ptrA H2.length 0) (.agg #[.bool nb, v]) H4 = some H5 ∧ loadN 2 (ptrA H2.length 0) H5 = some (.agg #[.bool nb, v]) ∧ OneW H (some (.agg #[.bool nb, v], H5)) z ∧ Old H2.length H3 H5 := by
    intro H4 v nb z old4 wf4 r4 hz
    obtain ⟨H5, s5, b5, old5, wf5, keep5⟩ := (b3.mono old4).store wf4 (vs := [.bool nb, v]) rfl
    exact ⟨H5, s5, b5.loadAll, ⟨_, _, rfl, ⟨v, by rw [hz], (r4.kept keep5).below old03.1⟩, (old03.trans (old4.mono old03.1)).trans (old5.mono (Nat.le_trans old1.1 old2.1)), wf5⟩, (old4.mono old3.1).trans old5⟩
  by_cases hx0 : x = 0
  · have hz : x * y = 0 := by rw [hx0]; exact Int.zero_mul y
    have e0 : ((nf x.natAbs).length : Int) = 0 := by rw [hx0, show ((0 : Int).natAbs : Int) = 0 from rfl, nf_zero]; rfl
    have e1 : decide (((nf x.natAbs).length : Int) = 0) = true := by rw [e0]; rfl
    obtain ⟨H5, s5, s6, ow, _⟩ := fin H3 (.slice none 0 0) false (x * y) (Old.refl _ _) wf3 (by rw [hz, show ((0 : Int).natAbs : Int) = 0 from rfl, nf_zero]; exact .inl ⟨rfl, rfl⟩) (by rw [hz]; rfl)
    simp (disch := omega) only [Try.f88, es_seq, es_region, es_cond, es_ret, ops_nil, ops_cons, ops_consG, st_move, sy_pick, pickS_true, sy_len uL, sy_bin, binS_eql, bindO_some, bindF_some, bindX_normal, bindX_ret, condX_true, iteB_false, ev_tmp, ev_const, putA, upd_at, Option.map_some, ↓reduceIte, Nat.reduceEqDiff, frOf_0, frOf_1, List.map_nil, Bool.not_true, yieldO_eq, yO, yV_bool, some_false, List.getElem?_cons_zero, List.getElem?_cons_succ, ↓bindO_some, ↓bindF_some, ↓bindX_normal, ↓bindX_ret, ↓condX_true, ↓iteB_false, fin_r, res_nil, pack_1, sy_load aL, sy_faddr fW1, sy_storeN zW, sy_alloc iW scal_agg, sy_box, sy_build, bW0, res_cell aW zW, scal_agg, hH1, hH2, hH3, f11, l11, hlx, e1, s5, s6]
    exact ow
  · have ex : decide (((nf x.natAbs).length : Int) = 0) = false := decide_eq_false (by have := (nf_last (z := (x.natAbs : Int)) (by omega)).1; omega)
    by_cases hy0 : y = 0
    · have hz : x * y = 0 := by rw [hy0]; exact Int.mul_zero x
      have e0 : ((nf y.natAbs).length : Int) = 0 := by rw [hy0, show ((0 : Int).natAbs : Int) = 0 from rfl, nf_zero]; rfl
      have e1 : decide (((nf y.natAbs).length : Int) = 0) = true := by rw [e0]; rfl
      obtain ⟨H5, s5, s6, ow, _⟩ := fin H3 (.slice none 0 0) false (x * y) (Old.refl _ _) wf3 (by rw [hz, show ((0 : Int).natAbs : Int) = 0 from rfl, nf_zero]; exact .inl ⟨rfl, rfl⟩) (by rw [hz]; rfl)
      simp (disch := omega) only [Try.f88, es_seq, es_region, es_cond, es_ret, ops_nil, ops_cons, ops_consG, st_move, sy_pick, pickS_false, sy_len uL, sy_bin, binS_eql, bindO_some, bindF_some, bindX_normal, bindX_ret, condX_true, iteB_true, ev_tmp, ev_const, putA, upd_at, Option.map_some, ↓reduceIte, Nat.reduceEqDiff, frOf_0, frOf_1, List.map_nil, yieldO_eq, yO, yV_bool, List.getElem?_cons_zero, List.getElem?_cons_succ, beq_self_eq_true, ↓bindO_some, ↓bindF_some, ↓bindX_normal, ↓bindX_ret, ↓condX_true, ↓iteB_true, fin_r, res_nil, pack_1, sy_load aL, sy_faddr fW1, sy_storeN zW, sy_alloc iW scal_agg, sy_box, sy_build, bW0, res_cell aW zW, scal_agg, hH1, hH2, hH3, f11, f21, l11, l21, hlx, hly, ex, e1, s5, s6]
      exact ow
    · have ey : decide (((nf y.natAbs).length : Int) = 0) = false := decide_eq_false (by have := (nf_last (z := (y.natAbs : Int)) (by omega)).1; omega)
      have hsg := mul_sign hnx hny hx0 hy0
      have hab : ((x * y).natAbs : Int) = x.natAbs * y.natAbs := by rw [Int.natAbs_mul]; exact Int.natCast_mul ..
      have e1 : IntKind.i64.wrap (((nf x.natAbs).length : Int) + ((nf y.natAbs).length : Int)) = (((nf y.natAbs).length + (nf x.natAbs).length : Nat) : Int) := by rw [wr64 (by omega) (by omega)]; omega
      have c2 : (0 : Int) ≤ (((nf y.natAbs).length + (nf x.natAbs).length : Nat) : Int) := by omega
      have c3 : (((nf y.natAbs).length + (nf x.natAbs).length : Nat) : Int) ≤ 1048576 := by omega
      have hz := zeros_I ((nf y.natAbs).length + (nf x.natAbs).length)
      have hlr : (ints (List.replicate ((nf y.natAbs).length + (nf x.natAbs).length) (0 : Int))).length = (nf y.natAbs).length + (nf x.natAbs).length := by rw [ints_len, List.length_replicate]
      have or := O.made (B := H3.length) (Nat.le_refl H3.length) (ints (List.replicate ((nf y.natAbs).length + (nf x.natAbs).length) (0 : Int)))
      rw [hlr] at or
      have oldm := Old.app H3 [.cells H3.length true (ints (List.replicate ((nf y.natAbs).length + (nf x.natAbs).length) (0 : Int)))]
      have wfm := wf3.app (Nat.le_refl H3.length) (o := true) (cs := ints (List.replicate ((nf y.natAbs).length + (nf x.natAbs).length) (0 : Int)))
      have l11m : loadS (bx (ptrA H.length 0) 1) (H3 ++ [.cells H3.length true (ints (List.replicate ((nf y.natAbs).length + (nf x.natAbs).length) (0 : Int)))]) = some vx := (b1.mono (oldm.mono (by have := old2.1; have := old3.1; omega))).load 1
      have key := fun (A : Fr) => tim_outer (p2 := ptrA H.length 0) (p4 := ptrA H2.length 0) oldm.1 f21 (fun G hG => (b2.mono ((oldm.trans hG).mono old3.1)).load 1) (fun G hG => hx3.mono (oldm.trans hG)) (fun G hG => hy3.mono (oldm.trans hG)) (by omega) (by omega) (by omega) (by omega) or wfm (evB Try.prog noC n) n Try.f88.ntmps (by omega) (a := A) (k := n) (by omega)
      rw [show timA = atC [1, 1, 1, 0, 1, 0, 0] ((Try.f88.body).getD .skip) from rfl] at key
      have kr := fun (A : Fr) {G G' : Heap} {vo d : Value} => tim_r16 (H := G) (H6 := G') (px := ptrA H.length 0) (py := ptrA H1.length 0) (p4 := ptrA H2.length 0) (vo := vo) (d := d) (nx := nx) (ny := ny) (evB Try.prog noC n) n Try.f88.ntmps none (a := A) (q0 := bx (ptrA H.length 0) 0) (q1 := bx (ptrA H1.length 0) 0)
      simp only [Try.f88, Option.getD_some, atC] at key kr
      simp (disch := omega) only [Try.f88, es_seq, es_region, es_cond, es_block, es_loop, es_skip, es_ret, ops_nil, ops_cons, ops_consG, st_move, st_assign, sy_pick, pickS_false, sy_len uL, sy_bin, sy_make eL yI (by decide), binS_eql, binS_add, bindO_some, bindF_some, bindX_normal, condX_false, iteB_true, ev_tmp, ev_const, putA, upd_at, Option.map_some, ↓reduceIte, Nat.reduceEqDiff, Int.toNat_natCast, frOf_0, frOf_1, yieldO_eq, yO, yV_bool, List.getElem?_cons_zero, List.getElem?_cons_succ, beq_self_eq_true, ↓bindO_some, ↓bindF_some, ↓bindX_normal, ↓condX_false, ↓iteB_true, sy_load aL, sy_faddr fW1, sy_alloc iW scal_agg, sy_box, scal_agg, hH1, hH2, hH3, f11, f21, l11, l21, hlx, hly, ex, ey, e1, c2, c3, Int.le_refl, and_self, hz, l11m]
      generalize hA : upd _ 34 _ = A
      obtain ⟨r, a', H', e, hr, g2, g3, g4, g5, old4, wf4, lo, ol, hd, hll, hval⟩ := key A (by subst hA; rfl) (by subst hA; rfl) (by subst hA; rfl) (by subst hA; rfl) (by subst hA; rfl) (by subst hA; rfl) (by subst hA; rfl)
      subst hr
      rw [e]
      clear e key
      have old34 := oldm.trans old4
      obtain ⟨d, sd, rd⟩ := trimmed_run ol.RO (by omega) n (by omega)
      rw [nf_of_digs hd hval, ← hab] at rd
      obtain ⟨H5, s5, s6, ow, old5⟩ := fin H' d _ (x * y) old34 wf4 rd hsg
      have old5' := old5.mono old2.1
      have old35 := old34.mono (Nat.le_trans old2.1 old3.1)
      obtain ⟨a2, H2', e2, hH', g4'⟩ := kr a' (G := H') (G' := H5) g2 g3 g4 g5 f10 f20 (fun G h => by
        rcases h with rfl | rfl
        · exact (b1.mono old35).load 0
        · exact (b1.mono old5').load 0) (fun G h => by
        rcases h with rfl | rfl
        · exact (b2.mono (old34.mono old3.1)).load 0
        · exact (b2.mono old5).load 0) sd rd.R.scal s5
      subst hH'
      simp (disch := omega) only [bindX_normal, blkX_exit, ↓reduceIte, ↓bindX_normal]
      rw [e2]
      simp (disch := omega) only [bindX_normal, Option.map_some, ↓bindX_normal, fin_r, res_nil, pack_1, res_cell aW zW, g4', s6]
      exact ow
end Go.Proofs.Ytmmgdgmjkhcfaaa
namespace Go.Proofs.Ytmmgdgmjkhcfaaa
open Go Go.Abs Go.Num
set_option maxRecDepth 10000
attribute [local congr] bindO_congr bindF_congr bindX_congr condX_congr iteB_congr binS_congr pickS_congr eqB_congr nilS_congr clsW_congr
theorem abs_len (z : Int) : (nf z.natAbs).length = (nf z).length := by
  rw [← nf_abs]
  split
  · rw [List.length_map]
  · rfl
theorem add_len {x y : Int} {k : Nat} (hx : (nf x).length ≤ k) (hy : (nf y).length ≤ k) : (nf (x + y)).length ≤ k + 1 := by
  have a := nf_size x
  have b := nf_size y
  have c := pow_le hx
  have d := pow_le hy
  have e := pow_succ' k
  have f := pow_pos k
  exact nf_len (by omega) (by omega)
theorem of_run {H : Heap} {z : Int} (hw : WF H) (h1 : -4000000000000000000 ≤ z) (h2 : z ≤ 4000000000000000000) (n : Nat) (hn : 2004 ≤ n) :
    OneL H (evB Try.prog noC n (.func (.func 79) #[] #[]) [vi z] H) (nf z) := by
  refine run_of (F := 2003) (Q := fun r => OneL H r (nf z)) (fun n hn => ?_) n hn
  rw [body_runS Try.func79 rfl (ok_fn (by rfl) Try.func79 rfl) (Nat.le_of_ble_eq_true rfl) (D := D0) (by kernel_rfl)]
  obtain ⟨w, H1, s1, w1, old1, wf1⟩ := small_run hw h1 h2 n (by omega)
  have hl : (nf z).length ≤ 3 := nf_len (by rw [show B ^ 3 = 1000000000000000000000000 from rfl]; omega) (by rw [show B ^ 3 = 1000000000000000000000000 from rfl]; omega)
  obtain ⟨v, H2, s2, o2, old2, wf2⟩ := list_run wf1 w1 (by rw [abs_len]; omega) n (by omega)
  simp (disch := omega) only [Try.f79, es_seq, es_region, es_ret, ops_nil, ops_cons, st_move, st_assign, st_fun, bindO_some, bindF_some, bindX_normal, ev_tmp, ev_const, ev_func, putA, upd_at, Option.map_some, ↓reduceIte, Nat.reduceEqDiff, frOf_0, List.map_cons, List.map_nil, ↓bindO_some, ↓bindF_some, ↓bindX_normal, fin_r, res_nil, res_tmp, pack_1, s1, s2, o2.R.scal]
  exact ⟨_, _, rfl, o2.below old1.1, old1.trans (old2.mono old1.1), wf2⟩
theorem mulP_run {H : Heap} {vx vy : Value} {x y : Int} (hw : WF H) (hx : NumV H vx x) (hy : NumV H vy y) (lx : (nf x).length ≤ 390) (ly : (nf y).length ≤ 390) (n : Nat) (hn : 2012 ≤ n) :
    OneL H (evB Try.prog noC n (.func (.func 39) #[] #[]) [vx, vy] H) (nf (x * y)) := by
  refine run_of (F := 2011) (Q := fun r => OneL H r (nf (x * y))) (fun n hn => ?_) n hn
  rw [body_runS Try.func39 rfl (ok_fn (by rfl) Try.func39 rfl) (Nat.le_of_ble_eq_true rfl) (D := D0) (by kernel_rfl)]
  obtain ⟨wx, H1, s1, w1, old1, wf1⟩ := read_run hw hx n (by omega)
  obtain ⟨wy, H2, s2, w2, old2, wf2⟩ := read_run wf1 (hy.mono old1) n (by omega)
  obtain ⟨wz, H3, s3, w3, old3, wf3⟩ := times_run wf2 (w1.mono old2) (w2.below old1.1) (by rw [abs_len]; omega) (by rw [abs_len]; omega) n (by omega)
  obtain ⟨v, H4, s4, o4, old4, wf4⟩ := list_run wf3 w3 (by rw [abs_len]; have := nf_len_mul x y; omega) n (by omega)
  simp (disch := omega) only [Try.f39, es_seq, es_region, es_ret, ops_nil, ops_cons, st_move, st_assign, st_fun, bindO_some, bindF_some, bindX_normal, ev_tmp, ev_const, ev_func, putA, upd_at, Option.map_some, ↓reduceIte, Nat.reduceEqDiff, frOf_0, frOf_1, List.map_cons, List.map_nil, ↓bindO_some, ↓bindF_some, ↓bindX_normal, fin_r, res_nil, res_tmp, pack_1, s1, s2, s3, s4, o4.R.scal]
  have old12 := old1.trans (old2.mono old1.1)
  have old13 := old12.trans (old3.mono old12.1)
  exact ⟨_, _, rfl, o4.below old13.1, old13.trans (old4.mono old13.1), wf4⟩
noncomputable def shoA : Code := atC [1, 1, 0, 1, 0, 0] ((Try.f154.body).getD .skip)
theorem sho_loop {H0 H : Heap} {va vo : Value} {x y : Int} (ha : ∀ G, Old H0.length H0 G → R G va (ints (nf x))) (x0 : 0 ≤ x) (y0 : 0 < y) (y1 : y < 100000000) (lx : (nf x).length ≤ 900) (old : Old H0.length H0 H) (hw : WF H)
    (ho : O H0.length H vo (ints (List.replicate (nf x).length 0))) (call : CallF) (m nt : Nat) {a : Fr} {k : Nat} (hk : (nf x).length < k)
    (h0 : a 0 = va) (h1 : a 1 = vi y) (h6 : a 6 = vo) (h7 : a 7 = vi 0) (h8 : a 8 = vi (((nf x).length : Int) - 1)) :
    ∃ r a' H', loopN (evS Try.prog call m nt none shoA) k a H = some (r, a', H') ∧ r = .exit 0 ∧ Old H0.length H0 H' ∧ WF H' ∧ a' 6 = vo ∧ a' 7 = vi (x % y) ∧ ∃ lo, O H0.length H' vo (ints lo) ∧ Dg lo ∧ val lo = x / y ∧ lo.length ≤ 900 := by
  refine loop_wf (fun j a H' => j ≤ (nf x).length ∧ a 0 = va ∧ a 1 = vi y ∧ a 6 = vo ∧ a 8 = vi ((j : Int) - 1) ∧ Old H0.length H0 H' ∧ WF H' ∧ ∃ lo t, a 7 = vi t ∧ O H0.length H' vo (ints lo) ∧ lo.length = (nf x).length ∧ Dg lo ∧ 0 ≤ t ∧ t < y ∧ val ((nf x).drop j) = y * val (lo.drop j) + t ∧ val (lo.take j) = 0) _ ?_ k (nf x).length a H hk
    ⟨Nat.le_refl _, h0, h1, h6, h8, old, hw, _, 0, h7, ho, by simp, fun z hz => by have := List.eq_of_mem_replicate hz; subst this; unfold B; omega, by omega, by omega, by rw [List.drop_length, List.drop_eq_nil_of_le (by simp)]; simp [val], by rw [List.take_replicate, val_zeros]⟩
  intro j a H' ⟨hj, h0, h1, h6, h8, old, hw, lo, t, h7, ho, hl, hd, t0, t1, hval, hz⟩
  rw [show shoA = atC [1, 1, 0, 1, 0, 0] ((Try.f154.body).getD .skip) from rfl]
  by_cases hj0 : j = 0
  · subst hj0
    right
    have c1 : decide ((0 : Int) ≤ ((0 : Nat) : Int) - 1) = false := rfl
    simp (disch := omega) only [Try.f154, Option.getD_some, atC, es_seq, es_region, es_cond, es_exit, ops_nil, ops_cons, st_move, sy_bin, binS_geq, bindO_some, bindF_some, bindX_normal, bindX_exit, condX_false, ev_tmp, ev_const, putA, upd_at, ↓reduceIte, ↓bindO_some, ↓bindF_some, ↓bindX_normal, ↓bindX_exit, ↓condX_false, h8, c1]
    rw [List.drop_zero, List.drop_zero, nf_val] at hval
    have e1 : x / y = val lo := by
      rw [hval, Int.add_comm, Int.add_mul_ediv_left _ _ (by omega), Int.ediv_eq_zero_of_lt t0 t1, Int.zero_add]
    have e2 : x % y = t := by
      rw [hval, Int.add_comm, Int.add_mul_emod_self_left, Int.emod_eq_of_lt t0 t1]
    exact ⟨_, _, _, rfl, by simp, rfl, old, hw, h6, by simp only [upd_at, ↓reduceIte, Nat.reduceEqDiff, h7, e2], lo, ho, hd, e1.symm, by omega⟩
  · obtain ⟨i, rfl⟩ : ∃ i, j = i + 1 := ⟨j - 1, by omega⟩
    left
    rw [show ((i + 1 : Nat) : Int) - 1 = (i : Int) from by omega] at h8
    have c1 : (0 : Int) ≤ (i : Int) := by omega
    have e1 : IntKind.i64.wrap ((i : Int) - 1) = (i : Int) - 1 := wr64 (by omega) (by omega)
    have hx := ha H' old
    have hro := ho.R
    have hdi := (nf_dg x0).getD i
    have e2 : IntKind.i64.wrap (t * 100000000) = t * 100000000 := wr64 (by omega) (by omega)
    have e3 : IntKind.i64.wrap (t * 100000000 + (nf x).getD i 0) = t * 100000000 + (nf x).getD i 0 := wr64 (by omega) (by omega)
    have hs0 : 0 ≤ t * 100000000 + (nf x).getD i 0 := by omega
    have hs1 : t * 100000000 + (nf x).getD i 0 < 100000000 * y := by omega
    have hq0 : 0 ≤ (t * 100000000 + (nf x).getD i 0) / y := Int.ediv_nonneg hs0 (by omega)
    have hq1 : (t * 100000000 + (nf x).getD i 0) / y < 100000000 := Int.ediv_lt_of_lt_mul y0 (by omega)
    have e4 : (t * 100000000 + (nf x).getD i 0).tdiv y = (t * 100000000 + (nf x).getD i 0) / y := tdiv_pos hs0 _
    have e5 : (t * 100000000 + (nf x).getD i 0).tmod y = (t * 100000000 + (nf x).getD i 0) % y := tmod_pos hs0 _
    have e6 : IntKind.i64.wrap ((t * 100000000 + (nf x).getD i 0) / y) = (t * 100000000 + (nf x).getD i 0) / y := wr64 (by omega) (by omega)
    obtain ⟨H2, s2, o2, old2, wf2⟩ := ho.setI hw (i := i) (by omega) ((t * 100000000 + (nf x).getD i 0) / y)
    have hy0 : y ≠ 0 := by omega
    simp (disch := omega) only [Try.f154, Option.getD_some, atC, es_seq, es_region, es_draw, d0, es_cond, es_block, es_skip, ops_nil, ops_cons, opsV_nil, opsV_cons, st_move, st_assign, sy_addr eL, sy_load aI, sy_store zI, sy_bin, binS_geq, binS_add, binS_sub, binS_mul, binS_quo, binS_rem, bindO_some, bindF_some, bindX_normal, blkX_normal, condX_true, iteB_true, iteB_false, ev_tmp, ev_const, putA, upd_at, Option.map_some, ↓reduceIte, Nat.reduceEqDiff, Int.toNat_natCast, decide_true, ↓bindO_some, ↓bindF_some, ↓bindX_normal, ↓condX_true, ↓iteB_true, ↓iteB_false, reflV_move, reflV_assign, reflV_bin, reflV_addr, reflV_store, h0, h1, h6, h7, h8, c1, hx.addrI, hx.loadI, hro.addrI, e1, e2, e3, e4, e5, e6, s2]
    refine ⟨_, _, rfl, i, by omega, by omega, h0, h1, h6, rfl, old.trans old2, wf2, _, _, by simp only [upd_at, ↓reduceIte, Nat.reduceEqDiff]; rfl, o2, by rw [List.length_set]; exact hl, hd.set i hq0 hq1, Int.emod_nonneg _ hy0, Int.emod_lt_of_pos _ y0, ?_, ?_⟩
    · have := div_step (A := nf x) (ql := lo) (i := i) (by omega) (by omega) y0 hval
      rw [show (nf x).getD i 0 + B * t = t * 100000000 + (nf x).getD i 0 from by unfold B; omega] at this
      exact this
    · rw [List.take_set_of_le (Nat.le_refl i)]
      have e := val_take_succ lo i
      rw [hz] at e
      have h1 := (hd.take i).val.1
      have h2 := hd.getD i
      have h3 := Int.mul_nonneg (Int.le_of_lt (pow_pos i)) h2.1
      omega
theorem short_run {H : Heap} {va : Value} {x y : Int} (hw : WF H) (ha : R H va (ints (nf x))) (x0 : 0 ≤ x) (y0 : 0 < y) (y1 : y < 100000000) (lx : (nf x).length ≤ 900) (n : Nat) (hn : 2010 ≤ n) :
    ∃ v H', evB Try.prog noC n (.func (.func 154) #[] #[]) [va, vi y] H = some (.tuple #[v, vi (x % y)], H') ∧ RO H.length H' v (ints (nf (x / y))) ∧ Old H.length H H' ∧ WF H' := by
  refine run_of (F := 2009) (Q := fun r => ∃ v H', r = some (.tuple #[v, vi (x % y)], H') ∧ RO H.length H' v (ints (nf (x / y))) ∧ Old H.length H H' ∧ WF H') (fun n hn => ?_) n hn
  rw [body_runS Try.func154 rfl (ok_fn (by rfl) Try.func154 rfl) (Nat.le_of_ble_eq_true rfl) (D := D0) (by kernel_rfl)]
  have hz := zeros_I (nf x).length
  have hlr : (ints (List.replicate (nf x).length (0 : Int))).length = (nf x).length := by rw [ints_len, List.length_replicate]
  have or := O.made (B := H.length) (Nat.le_refl H.length) (ints (List.replicate (nf x).length (0 : Int)))
  rw [hlr] at or
  have oldm := Old.app H [.cells H.length true (ints (List.replicate (nf x).length (0 : Int)))]
  have wfm := hw.app (Nat.le_refl H.length) (o := true) (cs := ints (List.replicate (nf x).length (0 : Int)))
  have c2 : (0 : Int) ≤ ((nf x).length : Int) := by omega
  have c3 : ((nf x).length : Int) ≤ 1048576 := by omega
  have e1 : IntKind.i64.wrap (((nf x).length : Int) - 1) = ((nf x).length : Int) - 1 := wr64 (by omega) (by omega)
  have key := fun (A : Fr) => sho_loop (fun G hG => ha.mono hG) x0 y0 y1 lx oldm wfm or (evB Try.prog noC n) n Try.f154.ntmps (a := A) (k := n) (by omega)
  rw [show shoA = atC [1, 1, 0, 1, 0, 0] ((Try.f154.body).getD .skip) from rfl] at key
  simp only [Try.f154, Option.getD_some, atC] at key
  simp (disch := omega) only [Try.f154, es_seq, es_region, es_block, es_loop, es_ret, ops_nil, ops_cons, st_move, st_assign, st_fun, sy_len uL, sy_bin, sy_make eL yI (by decide), binS_sub, bindO_some, bindF_some, bindX_normal, ev_tmp, ev_const, ev_func, putA, upd_at, Option.map_some, ↓reduceIte, Nat.reduceEqDiff, Int.toNat_natCast, frOf_0, List.map_cons, List.map_nil, ↓bindO_some, ↓bindF_some, ↓bindX_normal, ha.lenI, c2, c3, Int.le_refl, and_self, hz, e1]
  generalize hA : upd _ 8 _ = A
  obtain ⟨r, a', H', e, hr, old2, wf2, h6, h7, lo, ol, hd, hval, hll⟩ := key A (by subst hA; rfl) (by subst hA; rfl) (by subst hA; rfl) (by subst hA; rfl) (by subst hA; rfl)
  subst hr
  rw [e]
  clear e key
  obtain ⟨d, sd, rd⟩ := trimmed_run ol.RO (by omega) n (by omega)
  rw [nf_of_digs hd hval] at rd
  simp (disch := omega) only [bindO_some, bindF_some, bindX_normal, blkX_exit, upd_at, Option.map_some, ↓reduceIte, Nat.reduceEqDiff, ↓bindO_some, ↓bindF_some, ↓bindX_normal, fin_r, res_nil, res_tmp, pack_2, scal_vi, h6, h7, sd, rd.R.scal]
  exact ⟨_, _, rfl, rd, old2, wf2⟩
end Go.Proofs.Ytmmgdgmjkhcfaaa
namespace Go.Proofs.Ytmmgdgmjkhcfaaa
open Go Go.Abs Go.Num
set_option maxRecDepth 10000
attribute [local congr] bindO_congr bindF_congr bindX_congr condX_congr iteB_congr binS_congr pickS_congr eqB_congr nilS_congr clsW_congr
theorem vEq_whole {H : Heap} {b : Bool} {v : Value} {l : List Value} (h : R H v l) : vEq (.agg #[.bool b, v]) (.agg #[.bool b, v]) = true := by
  rcases h with ⟨rfl, _⟩ | ⟨rfl, _⟩ | ⟨_, _, _, _, _, rfl, _⟩ <;> simp [vEq, listEq, sEq, sliceA, lostSlice]
theorem Kept.refl (C : Nat) (H : Heap) : Kept C H H := fun _ _ _ _ _ _ h => h
theorem Kept.trans {C : Nat} {H1 H2 H3 : Heap} (h : Kept C H1 H2) (h' : Kept C H2 H3) : Kept C H1 H3 := fun b f o cs h1 h2 h3 => h' b f o cs h1 h2 (h b f o cs h1 h2 h3)
theorem Kept.mono {C D : Nat} {H1 H2 : Heap} (h : Kept C H1 H2) (hc : C ≤ D) : Kept D H1 H2 := fun b f o cs h1 h2 h3 => h b f o cs (by omega) (by omega) h3
theorem ov_r12 {H H5 H6 : Heap} {p4 p5 w4 w5 : Value} (call : CallF) (k nt : Nat) (rd : Option Nat) {a : Fr} (h4 : a 4 = p4) (h5 : a 5 = p5)
    (l4 : ∀ G, G = H ∨ G = H5 ∨ G = H6 → loadN 2 p4 G = some w4) (l5 : ∀ G, G = H ∨ G = H5 ∨ G = H6 → loadN 2 p5 G = some w5) (r4 : vEq w4 w4 = true) (r5 : vEq w5 w5 = true)
    (s4 : storeN 2 p4 w4 H = some H5) (s5 : storeN 2 p5 w5 H5 = some H6) :
    ∃ a' H', evT Try.prog call k nt rd D1 (atC [1, 1, 1, 1, 0] ((Try.f146.body).getD .skip)) a H = some (.normal, a', H') ∧ H' = H6 ∧ a' 4 = p4 ∧ a' 5 = p5 := by
  simp only [Try.f146, Option.getD_some, atC]
  refine et_from (fun a' H' => H' = H6 ∧ a' 4 = p4 ∧ a' 5 = p5) ?_
  have e0 := l4 H (.inl rfl)
  have e1 := l5 H (.inl rfl)
  simp (disch := omega) only [bindO_some, ev_tmp, putA, upd_at, Option.map_some, ↓reduceIte, Nat.reduceEqDiff, ↓bindO_some, sy_loadN aW zW, sy_storeN zW, opsW_nil, opsW_cons, clsW_eff, clsW_read, ↓clsW_eff, ↓clsW_read, cls_load, cls_store, h4, h5, e0, e1, s4, s5]
  refine ⟨_, rfl, ?_, rfl, ?_, ?_⟩
  · intro G hG r hr
    simp only [List.mem_cons, List.not_mem_nil, or_false] at hG hr
    have hG' : G = H ∨ G = H5 ∨ G = H6 := by
      rcases hG with h | h | h
      · exact .inr (.inr h)
      · exact .inr (.inl h)
      · exact .inl h
    have e0 := l4 G hG'
    have e1 := l5 G hG'
    rcases hr with rfl | rfl
    all_goals simp only [still_ldN aW zW, ev_tmp, upd_at, ↓reduceIte, Nat.reduceEqDiff, h4, h5, e0, e1, r4, r5]
  · simp only [upd_at, ↓reduceIte, Nat.reduceEqDiff, h4]
  · simp only [upd_at, ↓reduceIte, Nat.reduceEqDiff, h5]
theorem ov_r6 {H H5 H6 : Heap} {pa pb p4 p5 va vb d : Value} {y z : Int} (call : CallF) (k nt : Nat) (rd : Option Nat) {a : Fr} {q1 q2 q3 q4 : Value} (h2 : a 2 = pa) (h3 : a 3 = pb) (h4 : a 4 = p4) (h5 : a 5 = p5)
    (f1 : faddrS 1 pa = some q1) (f2 : faddrS 1 pb = some q2) (f3 : faddrS 1 p4 = some q3) (ad : addrS 1 vb (vi 0) = some q4)
    (l1 : ∀ G, G = H ∨ G = H5 ∨ G = H6 → loadS q1 G = some va) (l2 : ∀ G, G = H ∨ G = H5 ∨ G = H6 → loadS q2 G = some vb) (l4 : ∀ G, G = H ∨ G = H5 ∨ G = H6 → loadS q4 G = some (vi y)) (r1 : vEq va va = true) (r2 : vEq vb vb = true)
    (s1 : call (.func (.func 154) #[] #[]) [va, vi y] H = some (.tuple #[d, vi z], H5)) (s2 : storeS q3 d H5 = some H6) :
    ∃ a' H', evT Try.prog call k nt rd D1 (atC [1, 0, 0, 1, 1, 1, 0, 1, 0] ((Try.f146.body).getD .skip)) a H = some (.normal, a', H') ∧ H' = H6 ∧ a' 2 = pa ∧ a' 3 = pb ∧ a' 4 = p4 ∧ a' 5 = p5 ∧ a' 6 = vi z := by
  simp only [Try.f146, Option.getD_some, atC]
  refine et_from (fun a' H' => H' = H6 ∧ a' 2 = pa ∧ a' 3 = pb ∧ a' 4 = p4 ∧ a' 5 = p5 ∧ a' 6 = vi z) ?_
  have e0 := l1 H (.inl rfl)
  have e1 := l2 H (.inl rfl)
  have e2 := l4 H (.inl rfl)
  simp (disch := omega) only [st_move, st_assign, st_fun, sy_addr eL, sy_load aI, sy_ext, ext_20, ext_21, bindO_some, ev_tmp, ev_const, ev_func, putA, upd_at, Option.map_some, ↓reduceIte, Nat.reduceEqDiff, List.map_cons, List.map_nil, ↓bindO_some, sy_load aL, sy_store zL, sy_faddr fW1, opsW_nil, opsW_cons, clsW_eff, clsW_read, clsW_pure, ↓clsW_eff, ↓clsW_read, ↓clsW_pure, cls_move, cls_assign, cls_addr, cls_load, cls_callF, cls_store, cls_faddr, cls_extract, h2, h3, h4, f1, f2, f3, ad, e0, e1, e2, s1, s2]
  refine ⟨_, rfl, ?_, rfl, ?_, ?_, ?_, ?_, ?_⟩
  · intro G hG r hr
    simp only [List.mem_cons, List.not_mem_nil, or_false] at hG hr
    have hG' : G = H ∨ G = H5 ∨ G = H6 := by
      rcases hG with h | h | h
      · exact .inr (.inr h)
      · exact .inr (.inl h)
      · exact .inl h
    have e0 := l1 G hG'
    have e1 := l2 G hG'
    have e2 := l4 G hG'
    rcases hr with rfl | rfl | rfl
    all_goals simp only [still_ld aL, still_ld aI, ev_tmp, upd_at, ↓reduceIte, vEq_vi, e0, e1, e2, r1, r2]
  · simp only [upd_at, ↓reduceIte, Nat.reduceEqDiff, h2]
  · simp only [upd_at, ↓reduceIte, Nat.reduceEqDiff, h3]
  · simp only [upd_at, ↓reduceIte, Nat.reduceEqDiff, h4]
  · simp only [upd_at, ↓reduceIte, Nat.reduceEqDiff, h5]
  · simp only [upd_at, ↓reduceIte]
theorem ov_tail {H : Heap} {B1 C1 B2 C2 A1 A2 A3 A4 : Nat} {pa pb p4 p5 va vb dq dr : Value} {q r : Int} (hw : WF H) (call : CallF) (k nt : Nat) (rd : Option Nat) {a : Fr} (h2 : a 2 = pa) (h3 : a 3 = pb) (h4 : a 4 = p4) (h5 : a 5 = p5)
    (b2 : BxM A1 A2 H pa [.bool false, va]) (b3 : BxM A3 A4 H pb [.bool false, vb]) (b4 : BxM B1 C1 H p4 [.bool false, dq]) (b5 : BxM B2 C2 H p5 [.bool false, dr]) (o1 : C1 ≤ B2) (o2 : B2 ≤ C2) (o3 : A2 ≤ B1) (o4 : A4 ≤ B1) (o5 : B1 ≤ C1)
    (kq : ∀ G, Old B1 H G → Kept C2 H G → R G dq (ints (nf q))) (kr : ∀ G, Old B1 H G → Kept C2 H G → R G dr (ints (nf r))) :
    ∃ a' G, evT Try.prog call k nt rd D1 (atC [1, 1] ((Try.f146.body).getD .skip)) a H = some (.ret, a', G) ∧ a' 4 = p4 ∧ a' 5 = p5 ∧ loadN 2 p4 G = some (.agg #[.bool false, dq]) ∧ loadN 2 p5 G = some (.agg #[.bool false, dr]) ∧ Old B1 H G ∧ Kept C2 H G ∧ WF G := by
  have f20 := b2.faddr 0
  have f30 := b3.faddr 0
  have f40 := b4.faddr 0
  have f41 := b4.faddr 1
  have l20 : loadS (bx pa 0) H = some (.bool false) := b2.load 0
  have l30 : loadS (bx pb 0) H = some (.bool false) := b3.load 0
  have l41 : loadS (bx p4 1) H = some dq := b4.load 1
  have hq := kq H (Old.refl _ _) (Kept.refl _ _)
  obtain ⟨H1, s1, b41, old1, wf1, k1⟩ := b4.set hw (i := 0) (by simp) (v := .bool false) rfl
  have s1 : storeS (bx p4 0) (.bool false) H = some H1 := s1
  have b41 : BxM B1 C1 H1 p4 [.bool false, dq] := b41
  have b51 := b5.kept k1 o1
  obtain ⟨H2, s2, b42, old2, wf2, k2⟩ := b41.store wf1 (vs := [.bool false, dq]) rfl
  have s2 : storeN 2 p4 (.agg #[.bool false, dq]) H1 = some H2 := s2
  have b52 := b51.kept k2 o1
  obtain ⟨H3, s3, b53, old3, wf3, k3⟩ := b52.store wf2 (vs := [.bool false, dr]) rfl
  have s3 : storeN 2 p5 (.agg #[.bool false, dr]) H2 = some H3 := s3
  have b43 := b42.mono (old3.mono o1)
  have oldf := (old1.trans old2).trans (old3.mono (by omega))
  have kf := Kept.trans (Kept.mono (Kept.trans k1 k2) (by omega : C1 ≤ C2)) k3
  have kk := fun (A : Fr) => ov_r12 (H := H1) (H5 := H2) (H6 := H3) (a := A) (p4 := p4) (p5 := p5) (w4 := .agg #[.bool false, dq]) (w5 := .agg #[.bool false, dr]) call k nt rd
  simp only [Try.f146, Option.getD_some, atC] at kk
  have hlen := hq.lenI
  by_cases hq0 : (0 : Int) < (nf q).length
  all_goals
    simp (disch := omega) only [Try.f146, Option.getD_some, atC, es_seq, es_region, es_cond, es_skip, es_ret, ops_nil, ops_cons, ops_consG, st_move, sy_pick, pickS_true, pickS_false, sy_len uL, sy_bin, binS_gtr, bindO_some, bindF_some, bindX_normal, condX_false, iteB_true, iteB_false, ev_tmp, ev_const, putA, upd_at, Option.map_some, ↓reduceIte, Nat.reduceEqDiff, decide_true, decide_false, Bool.not_true, yieldO_eq, yO, yV_bool, some_true, List.getElem?_cons_zero, List.getElem?_cons_succ, beq_self_eq_true, ↓bindO_some, ↓bindF_some, ↓bindX_normal, ↓condX_false, ↓iteB_true, ↓iteB_false, sy_load aL, sy_load aB, sy_store zB, sy_faddr fW0, sy_faddr fW1, sy_ne nB, eqB_bool, Bool.true_xor, h2, h3, h4, f20, f30, f40, f41, l20, l30, l41, hlen, hq0, s1]
    generalize hA : upd _ 73 _ = A
    obtain ⟨a2, G2, e2, hG, g4, g5⟩ := kk A (by subst hA; exact h4) (by subst hA; exact h5) (fun G h => by
        rcases h with rfl | rfl | rfl
        · exact b41.loadAll
        · exact b42.loadAll
        · exact b43.loadAll) (fun G h => by
        rcases h with rfl | rfl | rfl
        · exact b51.loadAll
        · exact b52.loadAll
        · exact b53.loadAll) (vEq_whole hq) (vEq_whole (kr H (Old.refl _ _) (Kept.refl _ _))) s2 s3
    rw [e2]
    subst hG
    simp (disch := omega) only [bindX_normal, ↓bindX_normal]
    exact ⟨_, _, rfl, g4, g5, b43.loadAll, b53.loadAll, oldf, kf, wf3⟩
theorem ov_split (call : CallF) (k nt : Nat) (rd : Option Nat) (a : Fr) (H : Heap) : evT Try.prog call k nt rd D1 ((Try.f146.body).getD .skip) a H =
    bindX (evT Try.prog call k nt rd D1 (atC [0] ((Try.f146.body).getD .skip)) a H) fun a H => bindX (evT Try.prog call k nt rd D1 (atC [1, 0] ((Try.f146.body).getD .skip)) a H) fun a H => evT Try.prog call k nt rd D1 (atC [1, 1] ((Try.f146.body).getD .skip)) a H := rfl
def LongOK (F : Nat) (x y : Int) : Prop := ∀ (G : Heap) (va vb : Value), WF G → R G va (ints (nf x)) → R G vb (ints (nf y)) → ∀ n, F ≤ n →
  ∃ v1 v2 G', evB Try.prog noC n (.func (.func 155) #[] #[]) [va, vb] G = some (.tuple #[v1, v2], G') ∧ RO G.length G' v1 (ints (nf (x / y))) ∧ RO G.length G' v2 (ints (nf (x % y))) ∧ Old G.length G G' ∧ WF G'
def TwoW (va : Value) (x : Int) (H : Heap) (r : Option (Value × Heap)) (q z : Int) : Prop := ∃ v1 v2 H', r = some (.tuple #[.agg #[.bool false, v1], .agg #[.bool false, v2]], H') ∧ RO H.length H' v1 (ints (nf q)) ∧ R H' v2 (ints (nf z)) ∧ (RO H.length H' v2 (ints (nf z)) ∨ v2 = va ∧ z = x) ∧ Old H.length H H' ∧ WF H'
theorem over_run {H : Heap} {va vb : Value} {x y : Int} {FL : Nat} (hw : WF H) (hx : R H va (ints (nf x))) (hy : R H vb (ints (nf y))) (x0 : 0 ≤ x) (y0 : 0 < y) (lx : (nf x).length ≤ 390) (ly : (nf y).length ≤ 390) (hL : y ≤ x → 2 ≤ (nf y).length → LongOK FL x y) (n : Nat) (hn : FL + 2012 ≤ n) :
    TwoW va x H (evB Try.prog noC n (.func (.func 146) #[] #[]) [.agg #[.bool false, va], .agg #[.bool false, vb]] H) (x / y) (x % y) := by
  refine run_of (F := FL + 2011) (Q := fun r => TwoW va x H r (x / y) (x % y)) (fun n hn => ?_) n (by omega)
  rw [body_runS (c := (Try.f146.body).getD .skip) Try.func146 rfl (ok_fn (by rfl) Try.func146 rfl) (Nat.le_of_ble_eq_true rfl) (D := D1) (by kernel_rfl)]
  rw [ov_split]
  have old1 := Old.app H [.cells H.length true [.bool false, va]]
  have wf1 := hw.app (Nat.le_refl H.length) (o := true) (cs := [.bool false, va])
  have b1 := BxM.made (B := H.length) (H := H) (Nat.le_refl _) [.bool false, va]
  generalize hH1 : H ++ [Blk.cells H.length true [.bool false, va]] = H1 at *
  have old2 := Old.app H1 [.cells H1.length true [.bool false, vb]]
  have wf2 := wf1.app (Nat.le_refl H1.length) (o := true) (cs := [.bool false, vb])
  have b2 := BxM.made (B := H1.length) (H := H1) (Nat.le_refl _) [.bool false, vb]
  generalize hH2 : H1 ++ [Blk.cells H1.length true [.bool false, vb]] = H2 at *
  have old3 := Old.app H2 [.cells H2.length true [.bool false, .slice none 0 0]]
  have wf3 := wf2.app (Nat.le_refl H2.length) (o := true) (cs := [.bool false, .slice none 0 0])
  have b3 := BxM.made (B := H2.length) (H := H2) (Nat.le_refl _) [.bool false, .slice none 0 0]
  generalize hH3 : H2 ++ [Blk.cells H2.length true [.bool false, .slice none 0 0]] = H3 at *
  have old4 := Old.app H3 [.cells H3.length true [.bool false, .slice none 0 0]]
  have wf4 := wf3.app (Nat.le_refl H3.length) (o := true) (cs := [.bool false, .slice none 0 0])
  have b4 := BxM.made (B := H3.length) (H := H3) (Nat.le_refl _) [.bool false, .slice none 0 0]
  generalize hH4 : H3 ++ [Blk.cells H3.length true [.bool false, .slice none 0 0]] = H4 at *
  have o1 := old1.1
  have o2 := old2.1
  have o3 := old3.1
  have o4 := old4.1
  have g1 : H1.length = H.length + 1 := by rw [← hH1]; simp
  have g2 : H2.length = H1.length + 1 := by rw [← hH2]; simp
  have g3 : H3.length = H2.length + 1 := by rw [← hH3]; simp
  have g4 : H4.length = H3.length + 1 := by rw [← hH4]; simp
  have old34 := old3.trans (old4.mono o3)
  have old24 := old2.trans (old34.mono o2)
  have old04 := old1.trans (old24.mono o1)
  have b1 := b1.mono old24
  have b2 := b2.mono old34
  have b3 := b3.mono old4
  have hx4 := hx.mono old04
  have hy4 := hy.mono old04
  have head : ∀ {a : Fr}, a 2 = ptrA H.length 0 → a 3 = ptrA H1.length 0 → a 4 = ptrA H2.length 0 → a 5 = ptrA H3.length 0 → ∃ a' G dq dr, evT Try.prog (evB Try.prog noC n) n Try.f146.ntmps none D1 (atC [1, 0] ((Try.f146.body).getD .skip)) a H4 = some (.normal, a', G) ∧
      a' 2 = ptrA H.length 0 ∧ a' 3 = ptrA H1.length 0 ∧ a' 4 = ptrA H2.length 0 ∧ a' 5 = ptrA H3.length 0 ∧ Old H2.length H4 G ∧ WF G ∧ BxM H2.length H3.length G (ptrA H2.length 0) [.bool false, dq] ∧ BxM H3.length H4.length G (ptrA H3.length 0) [.bool false, dr] ∧
      (∀ G', Old H2.length G G' → Kept H4.length G G' → RO H.length G' dq (ints (nf (x / y)))) ∧ (∀ G', Old H2.length G G' → Kept H4.length G G' → R G' dr (ints (nf (x % y))) ∧ (RO H.length G' dr (ints (nf (x % y))) ∨ dr = va ∧ x % y = x)) := by
    intro a h2 h3 h4 h5
    have f21 := b1.faddr 1
    have f31 := b2.faddr 1
    have f41 := b3.faddr 1
    have f51 := b4.faddr 1
    have l21 : loadS (bx (ptrA H.length 0) 1) H4 = some va := b1.load 1
    have l31 : loadS (bx (ptrA H1.length 0) 1) H4 = some vb := b2.load 1
    have s0 := sizes_run hx4 hy4 x0 (by omega) (by omega) (by omega) n (by omega)
    by_cases hlt : x < y
    · have hc : cmpZ x y = -1 := if_pos hlt
      have hd : decide ((-1 : Int) < 0) = true := rfl
      obtain ⟨G, s1, b41, old5, wf5, k5⟩ := b4.set wf4 (i := 1) (by simp) hx.scal
      have s1 : storeS (bx (ptrA H3.length 0) 1) va H4 = some G := s1
      have b41 : BxM H3.length H4.length G (ptrA H3.length 0) [.bool false, va] := b41
      simp (disch := omega) only [Try.f146, Option.getD_some, atC, es_seq, es_region, es_cond, es_block, ops_nil, ops_cons, st_assign, st_fun, sy_bin, binS_lss, bindO_some, bindF_some, bindX_normal, blkX_normal, condX_true, ev_tmp, ev_const, ev_func, putA, upd_at, Option.map_some, ↓reduceIte, Nat.reduceEqDiff, List.map_cons, List.map_nil, ↓bindO_some, ↓bindF_some, ↓bindX_normal, ↓condX_true, sy_load aL, sy_store zL, sy_faddr fW1, h2, h3, h5, f21, f31, f51, l21, l31, s0, hc, hd, s1]
      refine ⟨_, _, .slice none 0 0, va, rfl, h2, h3, h4, h5, old5.mono (by omega), wf5, b3.mono (old5.mono (by omega)), b41, ?_, ?_⟩
      · intro G' _ _
        rw [Int.ediv_eq_zero_of_lt x0 hlt, nf_zero]
        exact .inl ⟨rfl, rfl⟩
      · intro G' ho _
        have e := Int.emod_eq_of_lt x0 hlt
        exact ⟨by rw [e]; exact hx.mono (old04.trans ((old5.mono (by omega)).trans (ho.mono (by omega)))), .inr ⟨rfl, e⟩⟩
    · have hc : decide (cmpZ x y < 0) = false := by
        unfold cmpZ
        rw [if_neg hlt]
        split <;> rfl
      have hlen := hy4.lenI
      by_cases h1 : (nf y).length = 1
      · have c1 : ((nf y).length : Int) = 1 := by omega
        have hy1 : (nf y).getD 0 0 = y := by
          have := nf_val y
          match hn : nf y, h1 with
          | [z], _ => rw [hn] at this; simpa [val] using this
        have y1 : y < 100000000 := by rw [← hy1]; exact ((nf_dg (by omega : 0 ≤ y)).getD 0).2
        have ad : addrS 1 vb (vi 0) = some (pt vb 0) := hy4.addrI (i := 0) (by omega) (by omega)
        have ld : ∀ G, Old H4.length H4 G ∨ Old H.length H4 G → loadS (pt vb 0) G = some (vi y) := fun G h => by
          have : R G vb (ints (nf y)) := by
            rcases h with h | h
            · exact hy4.mono h
            · exact hy.mono (old04.trans h)
          rw [this.loadI (by omega), hy1]
        obtain ⟨d, H5, s1, r5, old5, wf5⟩ := short_run wf4 hx4 x0 y0 y1 (by omega) n (by omega)
        have b35 := b3.mono (old5.mono (by omega))
        obtain ⟨H6, s2, b36, old6, wf6, k6⟩ := b35.set wf5 (i := 1) (by simp) r5.R.scal
        have s2 : storeS (bx (ptrA H2.length 0) 1) d H5 = some H6 := s2
        have b36 : BxM H2.length H3.length H6 (ptrA H2.length 0) [.bool false, d] := b36
        have r6 := r5.kept (Kept.mono k6 (by omega))
        have old46 := (old5.mono (by omega : H2.length ≤ H4.length)).trans old6
        have kr := fun (A : Fr) => ov_r6 (H := H4) (H5 := H5) (H6 := H6) (pa := ptrA H.length 0) (pb := ptrA H1.length 0) (p4 := ptrA H2.length 0) (p5 := ptrA H3.length 0) (va := va) (vb := vb) (d := d) (y := y) (z := x % y) (evB Try.prog noC n) n Try.f146.ntmps none (a := A) (q1 := bx (ptrA H.length 0) 1) (q2 := bx (ptrA H1.length 0) 1) (q3 := bx (ptrA H2.length 0) 1) (q4 := pt vb 0)
        simp only [Try.f146, Option.getD_some, atC] at kr
        obtain ⟨w, H7, s7, ⟨dr, rfl, r7⟩, old7, wf7⟩ := small_run (z := x % y) wf6 (by have := Int.emod_nonneg x (by omega : y ≠ 0); omega) (by have := Int.emod_lt_of_pos x y0; omega) n (by omega)
        have hz : decide (x % y < 0) = false := by have := Int.emod_nonneg x (by omega : y ≠ 0); simp; omega
        rw [hz] at s7
        rw [natAbs_pos (Int.emod_nonneg x (by omega : y ≠ 0))] at r7
        have g6 : H4.length ≤ H6.length := Nat.le_trans old5.1 old6.1
        have b47 := ((b4.mono old5).kept k6 (Nat.le_refl _)).mono (old7.mono g6)
        obtain ⟨H8, s8, b48, old8, wf8, k8⟩ := b47.store wf7 (vs := [.bool false, dr]) rfl
        have s8 : storeN 2 (ptrA H3.length 0) (.agg #[.bool false, dr]) H7 = some H8 := s8
        simp (disch := omega) only [Try.f146, Option.getD_some, atC, es_seq, es_region, es_cond, es_block, ops_nil, ops_cons, st_move, st_assign, st_fun, sy_len uL, sy_bin, binS_lss, binS_eql, bindO_some, bindF_some, bindX_normal, condX_true, condX_false, ev_tmp, ev_const, ev_func, putA, upd_at, Option.map_some, ↓reduceIte, Nat.reduceEqDiff, List.map_cons, List.map_nil, decide_true, ↓bindO_some, ↓bindF_some, ↓bindX_normal, ↓condX_true, ↓condX_false, sy_load aL, sy_faddr fW1, sy_storeN zW, h2, h3, f21, f31, l21, l31, s0, hc, hlen, c1]
        generalize hA : upd _ 6 _ = A
        obtain ⟨a', H', e, hH, g2', g3', g4', g5', g6'⟩ := kr A (by subst hA; exact h2) (by subst hA; exact h3) (by subst hA; exact h4) (by subst hA; exact h5) f21 f31 f41 ad (fun G h => by
          rcases h with rfl | rfl | rfl
          · exact l21
          · exact (b1.mono (old5.mono (by omega))).load 1
          · exact (b1.mono (old46.mono (by omega))).load 1) (fun G h => by
          rcases h with rfl | rfl | rfl
          · exact l31
          · exact (b2.mono (old5.mono (by omega))).load 1
          · exact (b2.mono (old46.mono (by omega))).load 1) (fun G h => by
          rcases h with rfl | rfl | rfl
          · exact ld _ (.inl (Old.refl _ _))
          · exact ld _ (.inl old5)
          · exact ld _ (.inr (old46.mono (by omega)))) hx.refl hy.refl s1 s2
        rw [e]
        subst hH
        simp (disch := omega) only [bindO_some, bindF_some, bindX_normal, blkX_normal, Option.map_some, ↓bindO_some, ↓bindF_some, ↓bindX_normal, g5', g6', s7, s8]
        refine ⟨_, _, d, dr, rfl, by simp only [upd_at, ↓reduceIte, Nat.reduceEqDiff, g2'], by simp only [upd_at, ↓reduceIte, Nat.reduceEqDiff, g3'], by simp only [upd_at, ↓reduceIte, Nat.reduceEqDiff, g4'], by simp only [upd_at, ↓reduceIte, Nat.reduceEqDiff, g5'], (old46.trans (old7.mono (by omega))).trans (old8.mono (by omega)), wf8, (b36.mono (old7.mono (by omega))).mono (old8.mono (by omega)), b48, ?_, ?_⟩
        · intro G' _ hk
          exact (((r6.mono old7).kept k8).kept hk).below (by omega)
        · intro G' _ hk
          have := ((r7.below g6).kept k8).kept hk
          exact ⟨this.R, .inl (this.below (by omega))⟩
      · have c1 : ¬ ((nf y).length : Int) = 1 := by omega
        have hl2 : 2 ≤ (nf y).length := by
          have := (nf_last (z := y) (by omega)).1
          omega
        obtain ⟨v1, v2, H5, s1, r1, r2, old5, wf5⟩ := hL (by omega) hl2 H4 va vb wf4 hx4 hy4 n (by omega)
        have b35 := b3.mono (old5.mono (by omega))
        obtain ⟨H6, s2, b36, old6, wf6, k6⟩ := b35.set wf5 (i := 1) (by simp) r1.R.scal
        have s2 : storeS (bx (ptrA H2.length 0) 1) v1 H5 = some H6 := s2
        have b36 : BxM H2.length H3.length H6 (ptrA H2.length 0) [.bool false, v1] := b36
        have b46 := (b4.mono old5).kept k6 (Nat.le_refl _)
        obtain ⟨H7, s3, b47, old7, wf7, k7⟩ := b46.set wf6 (i := 1) (by simp) r2.R.scal
        have s3 : storeS (bx (ptrA H3.length 0) 1) v2 H6 = some H7 := s3
        have b47 : BxM H3.length H4.length H7 (ptrA H3.length 0) [.bool false, v2] := b47
        simp (disch := omega) only [Try.f146, Option.getD_some, atC, es_seq, es_region, es_cond, es_block, ops_nil, ops_cons, st_move, st_assign, st_fun, sy_len uL, sy_bin, sy_ext, ext_20, ext_21, binS_lss, binS_eql, bindO_some, bindF_some, bindX_normal, blkX_normal, condX_false, ev_tmp, ev_const, ev_func, putA, upd_at, Option.map_some, ↓reduceIte, Nat.reduceEqDiff, List.map_cons, List.map_nil, decide_false, ↓bindO_some, ↓bindF_some, ↓bindX_normal, ↓condX_false, sy_load aL, sy_store zL, sy_faddr fW1, h2, h3, h4, h5, f21, f31, f41, f51, l21, l31, s0, hc, hlen, c1, s1, s2, s3]
        refine ⟨_, _, v1, v2, rfl, h2, h3, h4, h5, ((old5.mono (by omega)).trans old6).trans (old7.mono (by omega)), wf7, b36.mono (old7.mono (by omega)), b47, ?_, ?_⟩
        · intro G' _ hk
          exact (((r1.kept (Kept.mono k6 (by omega))).kept k7).kept hk).below (by omega)
        · intro G' _ hk
          have := ((r2.kept (Kept.mono k6 (by omega))).kept k7).kept hk
          exact ⟨this.R, .inl (this.below (by omega))⟩
  have first : ∃ A, evT Try.prog (evB Try.prog noC n) n Try.f146.ntmps none D1 (atC [0] ((Try.f146.body).getD .skip)) (frOf [.agg #[.bool false, va], .agg #[.bool false, vb]]) H = some (.normal, A, H4) ∧
      A 2 = ptrA H.length 0 ∧ A 3 = ptrA H1.length 0 ∧ A 4 = ptrA H2.length 0 ∧ A 5 = ptrA H3.length 0 := by
    simp (disch := omega) only [Try.f146, Option.getD_some, atC, es_region, ops_nil, ops_cons, bindO_some, bindF_some, ev_tmp, putA, upd_at, Option.map_some, ↓reduceIte, Nat.reduceEqDiff, frOf_0, frOf_1, ↓bindO_some, ↓bindF_some, sy_alloc iW scal_agg, sy_box, scal_agg, hH1, hH2, hH3, hH4]
    exact ⟨_, rfl, rfl, rfl, rfl, rfl⟩
  obtain ⟨A, e0, i2, i3, i4, i5⟩ := first
  obtain ⟨a1, G, dq, dr, e1, h2, h3, h4, h5, oldG, wfG, bq, br, kq, kr⟩ := head i2 i3 i4 i5
  obtain ⟨a2, G2, e2, j4, j5, m4, m5, oldT, kT, wfT⟩ := ov_tail wfG (evB Try.prog noC n) n Try.f146.ntmps none h2 h3 h4 h5 (b1.mono (oldG.mono (by omega))) (b2.mono (oldG.mono (by omega))) bq br (by omega) (by omega) (by omega) (by omega) (by omega) (fun G h k => (kq G h k).R) (fun G h k => (kr G h k).1)
  rw [e0, bindX_normal, e1, bindX_normal, e2]
  simp only [Try.f146, fin_r, res_cell aW zW, j4, j5, m4, m5, res_nil, Option.map_some, pack_2]
  exact ⟨_, _, _, rfl, kq G2 oldT kT, (kr G2 oldT kT).1, (kr G2 oldT kT).2, old04.trans ((oldG.mono (by omega)).trans (oldT.mono (by omega))), wfT⟩
end Go.Proofs.Ytmmgdgmjkhcfaaa
namespace Go.Proofs.Ytmmgdgmjkhcfaaa
open Go Go.Abs Go.Num
set_option maxRecDepth 10000
attribute [local congr] bindO_congr bindF_congr bindX_congr condX_congr iteB_congr binS_congr pickS_congr eqB_congr nilS_congr clsW_congr
def Held (B C : Nat) (H : Heap) (v : Value) (l : List Value) : Prop := ∀ G, Old B H G → Kept C H G → R G v l
theorem Held.R {B C : Nat} {H : Heap} {v : Value} {l : List Value} (h : Held B C H v l) : R H v l := h H (Old.refl _ _) (Kept.refl _ _)
theorem Held.go {B C : Nat} {H G : Heap} {v : Value} {l : List Value} (h : Held B C H v l) (ho : Old B H G) (hk : Kept C H G) : Held B C G v l := fun G' h1 h2 => h G' (ho.trans h1) (Kept.trans hk h2)
theorem Old.kept {C : Nat} {H H' : Heap} (h : Old H.length H H') : Kept C H H' := fun b f o cs _ _ hb => by rw [h.2 b (lt_of_blk hb)]; exact hb
theorem wh_of {H : Heap} {v : Value} {z : Int} (z0 : 0 ≤ z) (h : R H v (ints (nf z))) : Wh 0 H (.agg #[.bool false, v]) z := ⟨v, by rw [show decide (z < 0) = false from by simp; omega], by rw [natAbs_pos z0]; exact h.RO⟩
def LongAll (F : Nat) : Prop := ∀ x y : Int, 0 ≤ x → 0 < y → y ≤ x → (nf x).length ≤ 390 → 2 ≤ (nf y).length → LongOK F x y
theorem read_pos {H : Heap} {v : Value} {z : Int} (hw : WF H) (hv : NumV H v z) (z0 : 0 ≤ z) (n : Nat) (hn : 2001 ≤ n) :
    ∃ d H', evB Try.prog noC n (.func (.func 83) #[] #[]) [v] H = some (.agg #[.bool false, d], H') ∧ R H' d (ints (nf z)) ∧ Old H.length H H' ∧ WF H' := by
  obtain ⟨w, H', e, ⟨d, rfl, hd⟩, ho, hw'⟩ := read_run hw hv n hn
  rw [show decide (z < 0) = false from by simp; omega] at e
  rw [natAbs_pos z0] at hd
  exact ⟨d, H', e, hd.R, ho, hw'⟩
end Go.Proofs.Ytmmgdgmjkhcfaaa
namespace Go.Proofs.Ytmmgdgmjkhcfaaa
open Go Go.Abs Go.Num
set_option maxRecDepth 10000
attribute [local congr] bindO_congr bindF_congr bindX_congr condX_congr iteB_congr binS_congr pickS_congr eqB_congr nilS_congr clsW_congr
theorem dm_r4 {H H1 H2 H5 H6 : Heap} {vx pb dx wb w1 w2 : Value} (call : CallF) (k nt : Nat) (rd : Option Nat) {a : Fr} (h0 : a 0 = vx) (h7 : a 7 = pb)
    (s1 : call (.func (.func 83) #[] #[]) [vx] H = some (dx, H1)) (lb : ∀ G, G = H ∨ G = H1 ∨ G = H2 ∨ G = H5 ∨ G = H6 → loadN 2 pb G = some wb) (rb : vEq wb wb = true)
    (s2 : call (.func (.func 146) #[] #[]) [dx, wb] H1 = some (.tuple #[w1, w2], H2))
    (s5 : storeN 2 (ptrA H2.length 0) w1 ((H2 ++ [Blk.cells H2.length true [.bool false, .slice none 0 0]]) ++ [Blk.cells (H2 ++ [Blk.cells H2.length true [.bool false, .slice none 0 0]]).length true [.bool false, .slice none 0 0]]) = some H5)
    (s6 : storeN 2 (ptrA (H2 ++ [Blk.cells H2.length true [.bool false, .slice none 0 0]]).length 0) w2 H5 = some H6) :
    ∃ a' H', evT Try.prog call k nt rd D1 (atC [1, 1, 1, 0] ((Try.f125.body).getD .skip)) a H = some (.normal, a', H') ∧ H' = H6 ∧ a' 8 = ptrA H2.length 0 ∧ a' 9 = ptrA (H2 ++ [Blk.cells H2.length true [.bool false, .slice none 0 0]]).length 0 := by
  simp only [Try.f125, Option.getD_some, atC]
  refine et_from (fun a' H' => H' = H6 ∧ a' 8 = ptrA H2.length 0 ∧ a' 9 = ptrA (H2 ++ [Blk.cells H2.length true [.bool false, .slice none 0 0]]).length 0) ?_
  have e0 := lb H1 (.inr (.inl rfl))
  simp (disch := omega) only [st_move, st_fun, sy_ext, ext_20, ext_21, bindO_some, ev_tmp, ev_func, putA, upd_at, Option.map_some, ↓reduceIte, Nat.reduceEqDiff, List.map_cons, List.map_nil, ↓bindO_some, sy_loadN aW zW, sy_storeN zW, sy_alloc iW scal_agg, opsW_nil, opsW_cons, clsW_eff, clsW_all, clsW_read, clsW_pure, ↓clsW_eff, ↓clsW_all, ↓clsW_read, ↓clsW_pure, cls_move, cls_load, cls_callF, cls_store, cls_extract, cls_alloc, h0, h7, s1, e0, s2, s5, s6]
  refine ⟨_, rfl, ?_, rfl, ?_, ?_⟩
  · intro G hG r hr
    simp only [List.mem_cons, List.not_mem_nil, or_false] at hG hr
    have hG' : G = H ∨ G = H1 ∨ G = H2 ∨ G = H5 ∨ G = H6 := by
      rcases hG with h | h | h | h | h
      · exact .inr (.inr (.inr (.inr h)))
      · exact .inr (.inr (.inr (.inl h)))
      · exact .inr (.inr (.inl h))
      · exact .inr (.inl h)
      · exact .inl h
    have e1 := lb G hG'
    subst hr
    simp only [still_ldN aW zW, ev_tmp, upd_at, ↓reduceIte, Nat.reduceEqDiff, h7, e1, rb]
  · simp only [upd_at, ↓reduceIte, Nat.reduceEqDiff]
  · simp only [upd_at, ↓reduceIte]
theorem dm_r5 {H H1 H2 : Heap} {p8 p9 v1 v2 w1 w2 : Value} (call : CallF) (k nt : Nat) (rd : Option Nat) {a : Fr} (h8 : a 8 = p8) (h9 : a 9 = p9)
    (l8 : ∀ G, G = H ∨ G = H1 ∨ G = H2 → loadN 2 p8 G = some w1) (l9 : ∀ G, G = H ∨ G = H1 ∨ G = H2 → loadN 2 p9 G = some w2) (r1 : vEq w1 w1 = true) (r2 : vEq w2 w2 = true)
    (s1 : call (.func (.func 86) #[] #[]) [w1] H = some (v1, H1)) (s2 : call (.func (.func 86) #[] #[]) [w2] H1 = some (v2, H2)) :
    ∃ a' H', evT Try.prog call k nt rd D1 (atC [1, 1, 1, 1, 0] ((Try.f125.body).getD .skip)) a H = some (.normal, a', H') ∧ H' = H2 ∧ a' 4 = v1 ∧ a' 5 = v2 ∧ a' 6 = vi 0 := by
  simp only [Try.f125, Option.getD_some, atC]
  refine et_from (fun a' H' => H' = H2 ∧ a' 4 = v1 ∧ a' 5 = v2 ∧ a' 6 = vi 0) ?_
  have e0 := l8 H (.inl rfl)
  have e1 := l9 H1 (.inr (.inl rfl))
  simp (disch := omega) only [st_assign, st_fun, bindO_some, ev_tmp, ev_const, ev_func, putA, upd_at, Option.map_some, ↓reduceIte, Nat.reduceEqDiff, List.map_cons, List.map_nil, ↓bindO_some, sy_loadN aW zW, opsW_nil, opsW_cons, clsW_eff, clsW_read, clsW_pure, ↓clsW_eff, ↓clsW_read, ↓clsW_pure, cls_assign, cls_load, cls_callF, h8, h9, e0, e1, s1, s2]
  refine ⟨_, rfl, ?_, rfl, ?_, ?_, ?_⟩
  · intro G hG r hr
    simp only [List.mem_cons, List.not_mem_nil, or_false] at hG hr
    have hG' : G = H ∨ G = H1 ∨ G = H2 := by
      rcases hG with h | h | h
      · exact .inr (.inr h)
      · exact .inr (.inl h)
      · exact .inl h
    have e0 := l8 G hG'
    have e1 := l9 G hG'
    rcases hr with rfl | rfl
    all_goals simp only [still_ldN aW zW, ev_tmp, upd_at, ↓reduceIte, Nat.reduceEqDiff, h8, h9, e0, e1, r1, r2]
  · simp only [upd_at, ↓reduceIte, Nat.reduceEqDiff]
  · simp only [upd_at, ↓reduceIte, Nat.reduceEqDiff]
  · simp only [upd_at, ↓reduceIte]
theorem divmodP_run {FL : Nat} (hLA : LongAll FL) {H : Heap} {vx vy : Value} {x y : Int} (hw : WF H) (hx : NumV H vx x) (hy : NumV H vy y) (x0 : 0 ≤ x) (y0 : 0 < y) (lx : (nf x).length ≤ 390) (ly : (nf y).length ≤ 390) (n : Nat) (hn : FL + 2014 ≤ n) :
    TwoL H (evB Try.prog noC n (.func (.func 125) #[] #[]) [vx, vy] H) (fun a b => .tuple #[a, b, vi 0]) (nf (x / y)) (nf (x % y)) := by
  refine run_of (F := FL + 2013) (Q := fun r => TwoL H r (fun a b => .tuple #[a, b, vi 0]) (nf (x / y)) (nf (x % y))) (fun n hn => ?_) n (by omega)
  rw [body_runS Try.func125 rfl (ok_fn (by rfl) Try.func125 rfl) (Nat.le_of_ble_eq_true rfl) (D := D1) (by kernel_rfl)]
  obtain ⟨db, H1, s1, r1, old1, wf1⟩ := read_pos hw hy (by omega) n (by omega)
  have old2 := Old.app H1 [.cells H1.length true [.bool false, .slice none 0 0]]
  have wf2 := wf1.app (Nat.le_refl H1.length) (o := true) (cs := [.bool false, .slice none 0 0])
  have b2 := BxM.made (B := H1.length) (H := H1) (Nat.le_refl _) [.bool false, .slice none 0 0]
  generalize hH2 : H1 ++ [Blk.cells H1.length true [.bool false, .slice none 0 0]] = H2 at *
  have g2 : H2.length = H1.length + 1 := by rw [← hH2]; simp
  have g1 := old1.1
  obtain ⟨H3, s3, b3, old3, wf3, k3⟩ := b2.store wf2 (vs := [.bool false, db]) rfl
  have s3 : storeN 2 (ptrA H1.length 0) (.agg #[.bool false, db]) H2 = some H3 := s3
  have l3 : loadN 2 (ptrA H1.length 0) H3 = some (.agg #[.bool false, db]) := b3.loadAll
  have g3 := old3.1
  have old13 : Old H1.length H1 H3 := old2.trans old3
  have r3 := r1.mono old13
  obtain ⟨H4, s4, old4, wf4⟩ := sign_run wf3 (wh_of (by omega) r3) (by rw [natAbs_pos (by omega)]; omega) n (by omega)
  have hc : cmpZ y 0 = 1 := by unfold cmpZ; rw [if_neg (by omega), if_pos (by omega)]
  have c1 : decide ((1 : Int) = 0) = false := rfl
  have g4 := old4.1
  have old14 : Old H1.length H1 H4 := old13.trans (old4.mono (by omega))
  have old04 : Old H.length H H4 := old1.trans (old14.mono (by omega))
  obtain ⟨da, H5, s5, r5, old5, wf5⟩ := read_pos wf4 (hx.mono old04) x0 n (by omega)
  have g5 := old5.1
  obtain ⟨v1, v2, H6, s6, q1, q2, _, old6, wf6⟩ := over_run wf5 r5 (r1.mono (old14.trans (old5.mono (by omega)))) x0 y0 lx ly (fun h h' => hLA x y x0 y0 h lx h') n (by omega)
  have g6 := old6.1
  have old7 := Old.app H6 [.cells H6.length true [.bool false, .slice none 0 0]]
  have wf7 := wf6.app (Nat.le_refl H6.length) (o := true) (cs := [.bool false, .slice none 0 0])
  have b7 := BxM.made (B := H6.length) (H := H6) (Nat.le_refl _) [.bool false, .slice none 0 0]
  have kr4 := fun (A : Fr) {G5 G6 : Heap} => dm_r4 (H := H4) (H1 := H5) (H2 := H6) (H5 := G5) (H6 := G6) (vx := vx) (pb := ptrA H1.length 0) (dx := .agg #[.bool false, da]) (wb := .agg #[.bool false, db]) (w1 := .agg #[.bool false, v1]) (w2 := .agg #[.bool false, v2]) (evB Try.prog noC n) n Try.f125.ntmps none (a := A)
  generalize hH7 : H6 ++ [Blk.cells H6.length true [.bool false, .slice none 0 0]] = H7 at *
  have old8 := Old.app H7 [.cells H7.length true [.bool false, .slice none 0 0]]
  have wf8 := wf7.app (Nat.le_refl H7.length) (o := true) (cs := [.bool false, .slice none 0 0])
  have b8 := BxM.made (B := H7.length) (H := H7) (Nat.le_refl _) [.bool false, .slice none 0 0]
  generalize hH8 : H7 ++ [Blk.cells H7.length true [.bool false, .slice none 0 0]] = H8 at *
  have g7 : H7.length = H6.length + 1 := by rw [← hH7]; simp
  have g8 : H8.length = H7.length + 1 := by rw [← hH8]; simp
  obtain ⟨H9, s9, b9, old9, wf9, k9⟩ := (b7.mono old8).store wf8 (vs := [.bool false, v1]) rfl
  have s9 : storeN 2 (ptrA H6.length 0) (.agg #[.bool false, v1]) H8 = some H9 := s9
  obtain ⟨Ha, sa, ba, olda, wfa, ka⟩ := (b8.kept k9 (by omega)).store wf9 (vs := [.bool false, v2]) rfl
  have sa : storeN 2 (ptrA H7.length 0) (.agg #[.bool false, v2]) H9 = some Ha := sa
  have g9 := old9.1
  have ga := olda.1
  have old6a : Old H6.length H6 Ha := ((old7.trans (old8.mono (by omega))).trans old9).trans (olda.mono (by omega))
  have b34 := b3.mono (old4.mono (by omega : H2.length ≤ H3.length))
  have b35 := b34.mono (old5.mono (by omega : H2.length ≤ H4.length))
  have b36 := b35.mono (old6.mono (by omega : H2.length ≤ H5.length))
  have b39 := b36.mono (((old7.trans (old8.mono (by omega))).trans old9).mono (by omega : H2.length ≤ H6.length))
  have b3a := b39.mono (olda.mono (by omega : H2.length ≤ H7.length))
  have b9a := b9.mono (olda.mono (by omega : H7.length ≤ H7.length))
  have q1a := q1.R.mono old6a
  have q2a := q2.mono old6a
  have hq0 : 0 ≤ x / y := Int.ediv_nonneg x0 (by omega)
  have hr0 : 0 ≤ x % y := Int.emod_nonneg x (by omega)
  have lq : (nf (x / y)).length ≤ 390 := Nat.le_trans (nf_len_mono hq0 (Int.ediv_le_self y x0)) lx
  have lr : (nf (x % y)).length ≤ 390 := Nat.le_trans (nf_len_mono hr0 (Int.le_of_lt (Int.emod_lt_of_pos x y0))) ly
  obtain ⟨u1, Hb, sb, ob, oldb, wfb⟩ := list_run wfa (wh_of hq0 q1a) (by rw [abs_len]; omega) n (by omega)
  obtain ⟨u2, Hc, sc, oc, oldc, wfc⟩ := list_run wfb (wh_of hr0 (q2a.mono oldb)) (by rw [abs_len]; omega) n (by omega)
  have gb := oldb.1
  have gc := oldc.1
  have kr5 := fun (A : Fr) => dm_r5 (H := Ha) (H1 := Hb) (H2 := Hc) (p8 := ptrA H6.length 0) (p9 := ptrA H7.length 0) (v1 := u1) (v2 := u2) (w1 := .agg #[.bool false, v1]) (w2 := .agg #[.bool false, v2]) (evB Try.prog noC n) n Try.f125.ntmps none (a := A)
  simp only [Try.f125, Option.getD_some, atC] at kr4 kr5
  simp (disch := omega) only [Try.f125, es_seq, es_region, es_cond, es_skip, es_ret, ops_nil, ops_cons, st_move, st_assign, st_fun, sy_bin, binS_eql, bindO_some, bindF_some, bindX_normal, condX_false, ev_tmp, ev_const, ev_func, putA, upd_at, Option.map_some, ↓reduceIte, Nat.reduceEqDiff, frOf_1, List.map_cons, List.map_nil, ↓bindO_some, ↓bindF_some, ↓bindX_normal, ↓condX_false, sy_loadN aW zW, sy_storeN zW, sy_alloc iW scal_agg, s1, hH2, s3, l3, s4, hc, c1]
  generalize hA : upd _ 14 _ = A
  obtain ⟨a', _, e, hH', i8, i9⟩ := kr4 A (by subst hA; rfl) (by subst hA; rfl) s5 (fun G h => by
    rcases h with rfl | rfl | rfl | rfl | rfl
    · exact b34.loadAll
    · exact b35.loadAll
    · exact b36.loadAll
    · exact b39.loadAll
    · exact b3a.loadAll) (vEq_whole r1) s6 s9 sa
  rw [hH'] at e
  rw [e]
  simp (disch := omega) only [bindX_normal, ↓bindX_normal]
  obtain ⟨a'', _, e, hH', i4, i5, i6⟩ := kr5 a' i8 i9 (fun G h => by
    rcases h with rfl | rfl | rfl
    · exact b9a.loadAll
    · exact (b9a.mono (oldb.mono (by omega))).loadAll
    · exact ((b9a.mono (oldb.mono (by omega))).mono (oldc.mono (by omega))).loadAll) (fun G h => by
    rcases h with rfl | rfl | rfl
    · exact ba.loadAll
    · exact (ba.mono (oldb.mono (by omega))).loadAll
    · exact ((ba.mono (oldb.mono (by omega))).mono (oldc.mono (by omega))).loadAll) (vEq_whole q1a) (vEq_whole q2a) sb sc
  rw [hH'] at e
  rw [e]
  simp (disch := omega) only [bindX_normal, Option.map_some, ↓bindX_normal, fin_r, res_nil, res_tmp, pack_3, scal_vi, i4, i5, i6, ob.R.scal, oc.R.scal]
  have old0a : Old H.length H Ha := (old04.trans ((old5.mono (by omega)).trans (old6.mono (by omega)))).trans (old6a.mono (by omega))
  exact ⟨_, _, _, rfl, (ob.mono oldc).below (by omega), oc.below (by omega), (old0a.trans (oldb.mono (by omega))).trans (oldc.mono (by omega)), wfc⟩
theorem overC_run {FL : Nat} (hLA : LongAll FL) {H : Heap} {vx vy : Value} {x y : Int} (hw : WF H) (hx : NumV H vx x) (hy : NumV H vy y) (x0 : 0 ≤ x) (y0 : 0 < y) (lx : (nf x).length ≤ 390) (ly : (nf y).length ≤ 390) (n : Nat) (hn : FL + 2015 ≤ n) :
    OneL H (evB Try.prog noC n (.func (.func 102) #[] #[]) [vx, vy] H) (nf (x / y)) := by
  refine run_of (F := FL + 2014) (Q := fun r => OneL H r (nf (x / y))) (fun n hn => ?_) n (by omega)
  rw [body_runS Try.func102 rfl (ok_fn (by rfl) Try.func102 rfl) (Nat.le_of_ble_eq_true rfl) (D := D0) (by kernel_rfl)]
  obtain ⟨v1, v2, H1, s1, o1, o2, old1, wf1⟩ := divmodP_run hLA hw hx hy x0 y0 lx ly n (by omega)
  simp (disch := omega) only [Try.f102, es_seq, es_region, es_ret, ops_nil, ops_cons, st_move, st_assign, st_fun, sy_ext, bindO_some, bindF_some, bindX_normal, ev_tmp, ev_const, ev_func, putA, upd_at, Option.map_some, ↓reduceIte, Nat.reduceEqDiff, frOf_0, frOf_1, List.map_cons, List.map_nil, ↓bindO_some, ↓bindF_some, ↓bindX_normal, fin_r, res_nil, res_tmp, pack_1, s1, ext_30, ext_31, ext_32, o1.R.scal]
  exact ⟨_, _, rfl, o1, old1, wf1⟩
end Go.Proofs.Ytmmgdgmjkhcfaaa
namespace Go.Proofs.Ytmmgdgmjkhcfaaa
open Go Go.Abs Go.Num
set_option maxRecDepth 10000
attribute [local congr] bindO_congr bindF_congr bindX_congr condX_congr iteB_congr binS_congr pickS_congr eqB_congr nilS_congr clsW_congr maxS_congr minS_congr
theorem trimmedO_run {C : Nat} {H : Heap} {v : Value} {l : List Int} (hv : OP C H v (ints l)) (hl : l.length ≤ 1000) (n : Nat) (hn : 2000 ≤ n) : ∃ v', evB Try.prog noC n (.func (.func 114) #[] #[]) [v] H = some (v', H) ∧ OP C H v' (ints (trimL l)) := by
  refine run_of (F := 1999) (Q := fun x => ∃ v', x = some (v', H) ∧ OP C H v' (ints (trimL l))) (fun n hn => ?_) n hn
  rw [body_runS Try.func114 rfl (ok_fn (by rfl) Try.func114 rfl) (Nat.le_of_ble_eq_true rfl) (D := D0) (by kernel_rfl)]
  have key : ∀ A : Fr, A 0 = v → ∃ x a' H', loopN (evS Try.prog (evB Try.prog noC n) n Try.f114.ntmps none trmA) n A H = some (x, a', H') ∧ x = .exit 0 ∧ H' = H ∧ ∃ v', a' 0 = v' ∧ OP C H v' (ints (trimL l)) := by
    intro A h0
    refine loop_wf (fun n a H' => H' = H ∧ ∃ v', a 0 = v' ∧ OP C H v' (ints (l.take n)) ∧ n ≤ l.length ∧ trimL (l.take n) = trimL l) _ ?_ n l.length A H (by omega) ⟨rfl, v, h0, by rw [List.take_length]; exact hv, Nat.le_refl _, by rw [List.take_length]⟩
    intro c a H' ⟨hH, v', h0, hr, hc, ht⟩
    subst hH
    have hlc : (l.take c).length = c := by rw [List.length_take]; omega
    have hlen := hr.RO.R.lenI
    rw [hlc] at hlen
    rw [show trmA = atC [1, 0, 0, 0] ((Try.f114.body).getD .skip) from rfl]
    by_cases hz : c = 0
    · subst hz
      right
      have c1 : decide ((0 : Int) < ((0 : Nat) : Int)) = false := rfl
      simp (disch := omega) only [Try.f114, Option.getD_some, atC, es_seq, es_region, es_cond, es_exit, ops_nil, ops_cons, ops_consG, st_move, sy_pick, pickS_false, sy_len uL, sy_bin, binS_gtr, bindO_some, bindF_some, bindX_normal, bindX_exit, condX_false, iteB_false, ev_tmp, ev_const, putA, upd_at, Option.map_some, ↓reduceIte, Nat.reduceEqDiff, yieldO_eq, yO, yV_bool, some_true, List.getElem?_cons_zero, List.getElem?_cons_succ, ↓bindO_some, ↓bindF_some, ↓bindX_normal, ↓bindX_exit, ↓condX_false, ↓iteB_false, h0, hlen, c1]
      exact ⟨_, _, _, rfl, by simp, rfl, rfl, v', by simp only [upd_get, ↓reduceIte, Nat.reduceEqDiff, h0], by rw [← ht]; exact hr⟩
    · obtain ⟨d, rfl⟩ : ∃ d, c = d + 1 := ⟨c - 1, by omega⟩
      have c1 : (0 : Int) < ((d + 1 : Nat) : Int) := by omega
      have e1 : IntKind.i64.wrap (((d + 1 : Nat) : Int) - 1) = (d : Int) := by rw [wr64 (by omega) (by omega)]; omega
      have hx := take_snoc' (l := l) (c := d) (by omega)
      have a1 : addrS 1 v' (vi d) = some (pt v' d) := by have := hr.RO.R.addrI (i := (d : Int)) (by omega) (by omega); simpa using this
      have l1 : loadS (pt v' d) H' = some (vi (l.getD d 0)) := by
        have := hr.RO.R.loadI (i := d) (by omega)
        rw [this, hx, List.getD_eq_getElem?_getD, List.getElem?_append_right (by rw [List.length_take]; omega), List.length_take, Nat.min_eq_left (by omega), Nat.sub_self]
        rfl
      rw [hx, trimL_snoc] at ht
      by_cases hy : l.getD d 0 = 0
      · left
        rw [if_pos hy] at ht
        obtain ⟨v2, s2, r2⟩ := hr.upto (c := d) (by omega)
        rw [List.take_take, Nat.min_eq_left (by omega)] at r2
        simp (disch := omega) only [Try.f114, Option.getD_some, atC, es_seq, es_region, es_cond, es_block, es_skip, ops_nil, ops_cons, ops_consG, st_move, st_assign, sy_pick, pickS_true, sy_len uL, sy_addr eL, sy_load aI, sy_bin, sy_slice eL, binS_gtr, binS_eql, binS_sub, bindO_some, bindF_some, bindX_normal, blkX_normal, condX_true, iteB_true, ev_tmp, ev_const, putA, upd_at, Option.map_some, ↓reduceIte, Nat.reduceEqDiff, decide_true, yieldO_eq, yO, yV_bool, List.getElem?_cons_zero, List.getElem?_cons_succ, beq_self_eq_true, ↓bindO_some, ↓bindF_some, ↓bindX_normal, ↓condX_true, ↓iteB_true, h0, hlen, c1, e1, a1, l1, hy, Option.map_none, s2]
        exact ⟨_, _, rfl, d, by omega, rfl, v2, by simp only [upd_get, ↓reduceIte], r2, by omega, ht⟩
      · right
        rw [if_neg hy] at ht
        simp (disch := omega) only [Try.f114, Option.getD_some, atC, es_seq, es_region, es_cond, es_exit, ops_nil, ops_cons, ops_consG, st_move, sy_pick, pickS_true, sy_len uL, sy_addr eL, sy_load aI, sy_bin, binS_gtr, binS_eql, binS_sub, bindO_some, bindF_some, bindX_normal, bindX_exit, condX_false, iteB_true, ev_tmp, ev_const, putA, upd_at, Option.map_some, ↓reduceIte, Nat.reduceEqDiff, decide_true, decide_false, yieldO_eq, yO, yV_bool, List.getElem?_cons_zero, List.getElem?_cons_succ, beq_self_eq_true, ↓bindO_some, ↓bindF_some, ↓bindX_normal, ↓bindX_exit, ↓condX_false, ↓iteB_true, h0, hlen, c1, e1, a1, l1, hy]
        exact ⟨_, _, _, rfl, by simp, rfl, rfl, v', by simp only [upd_get, ↓reduceIte, Nat.reduceEqDiff, h0], by rw [← ht, ← hx]; exact hr⟩
  rw [show trmA = atC [1, 0, 0, 0] ((Try.f114.body).getD .skip) from rfl] at key
  simp only [Try.f114, Option.getD_some, atC] at key
  simp (disch := omega) only [Try.f114, es_seq, es_region, es_block, es_loop, es_ret, ops_nil, ops_cons, st_move, st_assign, bindO_some, bindF_some, bindX_normal, ev_tmp, ev_const, putA, upd_at, ↓reduceIte, ↓bindO_some, ↓bindF_some, ↓bindX_normal]
  generalize hA : upd _ 2 _ = A
  obtain ⟨x, a', H', e, hx, hH, v', h0, r⟩ := key A (by subst hA; rfl)
  subst hx
  subst hH
  rw [e]
  simp (disch := omega) only [bindX_normal, blkX_exit, upd_at, Option.map_some, ↓reduceIte, ↓bindX_normal, fin_r, res_nil, res_tmp, pack_1, h0, r.RO.R.scal]
  exact ⟨_, rfl, r⟩
def OneWO (H : Heap) (r : Option (Value × Heap)) (z : Int) : Prop := ∃ w H', r = some (w, H') ∧ (∃ v, w = .agg #[.bool (decide (z < 0)), v] ∧ OP H.length H' v (ints (nf z.natAbs))) ∧ Old H.length H H' ∧ WF H'
theorem timesO_run {C : Nat} {H : Heap} {wx wy : Value} {x y : Int} (hw : WF H) (hx : Wh C H wx x) (hy : Wh C H wy y) (lx : (nf x.natAbs).length ≤ 390) (ly : (nf y.natAbs).length ≤ 390) (n : Nat) (hn : 2010 ≤ n) :
    OneWO H (evB Try.prog noC n (.func (.func 88) #[] #[]) [wx, wy] H) (x * y) := by
  obtain ⟨vx, rfl, hx⟩ := hx
  obtain ⟨vy, rfl, hy⟩ := hy
  have hx := hx.R
  have hy := hy.R
  generalize hnx : decide (x < 0) = nx
  generalize hny : decide (y < 0) = ny
  refine run_of (F := 2009) (Q := fun r => OneWO H r (x * y)) (fun n hn => ?_) n hn
  rw [body_runS Try.func88 rfl (ok_fn (by rfl) Try.func88 rfl) (Nat.le_of_ble_eq_true rfl) (D := D1) (by kernel_rfl)]
  have old1 := Old.app H [.cells H.length true [.bool nx, vx]]
  have wf1 := hw.app (Nat.le_refl H.length) (o := true) (cs := [.bool nx, vx])
  have b1 := BxM.made (B := H.length) (H := H) (Nat.le_refl _) [.bool nx, vx]
  generalize hH1 : H ++ [Blk.cells H.length true [.bool nx, vx]] = H1 at *
  have old2 := Old.app H1 [.cells H1.length true [.bool ny, vy]]
  have wf2 := wf1.app (Nat.le_refl H1.length) (o := true) (cs := [.bool ny, vy])
  have b2 := BxM.made (B := H1.length) (H := H1) (Nat.le_refl _) [.bool ny, vy]
  generalize hH2 : H1 ++ [Blk.cells H1.length true [.bool ny, vy]] = H2 at *
  have old3 := Old.app H2 [.cells H2.length true [.bool false, .slice none 0 0]]
  have wf3 := wf2.app (Nat.le_refl H2.length) (o := true) (cs := [.bool false, .slice none 0 0])
  have b3 := BxM.made (B := H2.length) (H := H2) (Nat.le_refl _) [.bool false, .slice none 0 0]
  generalize hH3 : H2 ++ [Blk.cells H2.length true [.bool false, .slice none 0 0]] = H3 at *
  have old13 := old2.trans (old3.mono old2.1)
  have old03 := old1.trans (old13.mono old1.1)
  have b1 := b1.mono old13
  have b2 := b2.mono old3
  have f10 := b1.faddr 0
  have f11 := b1.faddr 1
  have f20 := b2.faddr 0
  have f21 := b2.faddr 1
  have l11 : loadS (bx (ptrA H.length 0) 1) H3 = some vx := b1.load 1
  have l21 : loadS (bx (ptrA H1.length 0) 1) H3 = some vy := b2.load 1
  have hx3 := hx.mono old03
  have hy3 := hy.mono old03
  have hlx := hx.lenI
  have hly := hy.lenI
  -- the end: the box of the result
  have fin : ∀ (H4 : Heap) (v : Value) (nb : Bool) (z : Int), Old H3.length H3 H4 → WF H4 → OP H3.length H4 v (ints (nf z.natAbs)) → decide (z < 0) = nb → ∃ H5, storeN 2 (ptrA H2.length 0) (.agg #[.bool nb, v]) H4 = some H5 ∧ loadN 2 (ptrA H2.length 0) H5 = some (.agg #[.bool nb, v]) ∧ OneWO H (some (.agg #[.bool nb, v], H5)) z ∧ Old H2.length H3 H5 := by
    intro H4 v nb z old4 wf4 r4 hz
    obtain ⟨H5, s5, b5, old5, wf5, keep5⟩ := (b3.mono old4).store wf4 (vs := [.bool nb, v]) rfl
    exact ⟨H5, s5, b5.loadAll, ⟨_, _, rfl, ⟨v, by rw [hz], (r4.kept keep5).below old03.1⟩, (old03.trans (old4.mono old03.1)).trans (old5.mono (Nat.le_trans old1.1 old2.1)), wf5⟩, (old4.mono old3.1).trans old5⟩
  by_cases hx0 : x = 0
  · have hz : x * y = 0 := by rw [hx0]; exact Int.zero_mul y
    have e0 : ((nf x.natAbs).length : Int) = 0 := by rw [hx0, show ((0 : Int).natAbs : Int) = 0 from rfl, nf_zero]; rfl
    have e1 : decide (((nf x.natAbs).length : Int) = 0) = true := by rw [e0]; rfl
    obtain ⟨H5, s5, s6, ow, _⟩ := fin H3 (.slice none 0 0) false (x * y) (Old.refl _ _) wf3 (by rw [hz, show ((0 : Int).natAbs : Int) = 0 from rfl, nf_zero]; exact .inl ⟨rfl, rfl⟩) (by rw [hz]; rfl)
    simp (disch := omega) only [Try.f88, es_seq, es_region, es_cond, es_ret, ops_nil, ops_cons, ops_consG, st_move, sy_pick, pickS_true, sy_len uL, sy_bin, binS_eql, bindO_some, bindF_some, bindX_normal, bindX_ret, condX_true, iteB_false, ev_tmp, ev_const, putA, upd_at, Option.map_some, ↓reduceIte, Nat.reduceEqDiff, frOf_0, frOf_1, List.map_nil, Bool.not_true, yieldO_eq, yO, yV_bool, some_false, List.getElem?_cons_zero, List.getElem?_cons_succ, ↓bindO_some, ↓bindF_some, ↓bindX_normal, ↓bindX_ret, ↓condX_true, ↓iteB_false, fin_r, res_nil, pack_1, sy_load aL, sy_faddr fW1, sy_storeN zW, sy_alloc iW scal_agg, sy_box, sy_build, bW0, res_cell aW zW, scal_agg, hH1, hH2, hH3, f11, l11, hlx, e1, s5, s6]
    exact ow
  · have ex : decide (((nf x.natAbs).length : Int) = 0) = false := decide_eq_false (by have := (nf_last (z := (x.natAbs : Int)) (by omega)).1; omega)
    by_cases hy0 : y = 0
    · have hz : x * y = 0 := by rw [hy0]; exact Int.mul_zero x
      have e0 : ((nf y.natAbs).length : Int) = 0 := by rw [hy0, show ((0 : Int).natAbs : Int) = 0 from rfl, nf_zero]; rfl
      have e1 : decide (((nf y.natAbs).length : Int) = 0) = true := by rw [e0]; rfl
      obtain ⟨H5, s5, s6, ow, _⟩ := fin H3 (.slice none 0 0) false (x * y) (Old.refl _ _) wf3 (by rw [hz, show ((0 : Int).natAbs : Int) = 0 from rfl, nf_zero]; exact .inl ⟨rfl, rfl⟩) (by rw [hz]; rfl)
      simp (disch := omega) only [Try.f88, es_seq, es_region, es_cond, es_ret, ops_nil, ops_cons, ops_consG, st_move, sy_pick, pickS_false, sy_len uL, sy_bin, binS_eql, bindO_some, bindF_some, bindX_normal, bindX_ret, condX_true, iteB_true, ev_tmp, ev_const, putA, upd_at, Option.map_some, ↓reduceIte, Nat.reduceEqDiff, frOf_0, frOf_1, List.map_nil, yieldO_eq, yO, yV_bool, List.getElem?_cons_zero, List.getElem?_cons_succ, beq_self_eq_true, ↓bindO_some, ↓bindF_some, ↓bindX_normal, ↓bindX_ret, ↓condX_true, ↓iteB_true, fin_r, res_nil, pack_1, sy_load aL, sy_faddr fW1, sy_storeN zW, sy_alloc iW scal_agg, sy_box, sy_build, bW0, res_cell aW zW, scal_agg, hH1, hH2, hH3, f11, f21, l11, l21, hlx, hly, ex, e1, s5, s6]
      exact ow
    · have ey : decide (((nf y.natAbs).length : Int) = 0) = false := decide_eq_false (by have := (nf_last (z := (y.natAbs : Int)) (by omega)).1; omega)
      have hsg := mul_sign hnx hny hx0 hy0
      have hab : ((x * y).natAbs : Int) = x.natAbs * y.natAbs := by rw [Int.natAbs_mul]; exact Int.natCast_mul ..
      have e1 : IntKind.i64.wrap (((nf x.natAbs).length : Int) + ((nf y.natAbs).length : Int)) = (((nf y.natAbs).length + (nf x.natAbs).length : Nat) : Int) := by rw [wr64 (by omega) (by omega)]; omega
      have c2 : (0 : Int) ≤ (((nf y.natAbs).length + (nf x.natAbs).length : Nat) : Int) := by omega
      have c3 : (((nf y.natAbs).length + (nf x.natAbs).length : Nat) : Int) ≤ 1048576 := by omega
      have hz := zeros_I ((nf y.natAbs).length + (nf x.natAbs).length)
      have hlr : (ints (List.replicate ((nf y.natAbs).length + (nf x.natAbs).length) (0 : Int))).length = (nf y.natAbs).length + (nf x.natAbs).length := by rw [ints_len, List.length_replicate]
      have or := O.made (B := H3.length) (Nat.le_refl H3.length) (ints (List.replicate ((nf y.natAbs).length + (nf x.natAbs).length) (0 : Int)))
      rw [hlr] at or
      have oldm := Old.app H3 [.cells H3.length true (ints (List.replicate ((nf y.natAbs).length + (nf x.natAbs).length) (0 : Int)))]
      have wfm := wf3.app (Nat.le_refl H3.length) (o := true) (cs := ints (List.replicate ((nf y.natAbs).length + (nf x.natAbs).length) (0 : Int)))
      have l11m : loadS (bx (ptrA H.length 0) 1) (H3 ++ [.cells H3.length true (ints (List.replicate ((nf y.natAbs).length + (nf x.natAbs).length) (0 : Int)))]) = some vx := (b1.mono (oldm.mono (by have := old2.1; have := old3.1; omega))).load 1
      have key := fun (A : Fr) => tim_outer (p2 := ptrA H.length 0) (p4 := ptrA H2.length 0) oldm.1 f21 (fun G hG => (b2.mono ((oldm.trans hG).mono old3.1)).load 1) (fun G hG => hx3.mono (oldm.trans hG)) (fun G hG => hy3.mono (oldm.trans hG)) (by omega) (by omega) (by omega) (by omega) or wfm (evB Try.prog noC n) n Try.f88.ntmps (by omega) (a := A) (k := n) (by omega)
      rw [show timA = atC [1, 1, 1, 0, 1, 0, 0] ((Try.f88.body).getD .skip) from rfl] at key
      have kr := fun (A : Fr) {G G' : Heap} {vo d : Value} => tim_r16 (H := G) (H6 := G') (px := ptrA H.length 0) (py := ptrA H1.length 0) (p4 := ptrA H2.length 0) (vo := vo) (d := d) (nx := nx) (ny := ny) (evB Try.prog noC n) n Try.f88.ntmps none (a := A) (q0 := bx (ptrA H.length 0) 0) (q1 := bx (ptrA H1.length 0) 0)
      simp only [Try.f88, Option.getD_some, atC] at key kr
      simp (disch := omega) only [Try.f88, es_seq, es_region, es_cond, es_block, es_loop, es_skip, es_ret, ops_nil, ops_cons, ops_consG, st_move, st_assign, sy_pick, pickS_false, sy_len uL, sy_bin, sy_make eL yI (by decide), binS_eql, binS_add, bindO_some, bindF_some, bindX_normal, condX_false, iteB_true, ev_tmp, ev_const, putA, upd_at, Option.map_some, ↓reduceIte, Nat.reduceEqDiff, Int.toNat_natCast, frOf_0, frOf_1, yieldO_eq, yO, yV_bool, List.getElem?_cons_zero, List.getElem?_cons_succ, beq_self_eq_true, ↓bindO_some, ↓bindF_some, ↓bindX_normal, ↓condX_false, ↓iteB_true, sy_load aL, sy_faddr fW1, sy_alloc iW scal_agg, sy_box, scal_agg, hH1, hH2, hH3, f11, f21, l11, l21, hlx, hly, ex, ey, e1, c2, c3, Int.le_refl, and_self, hz, l11m]
      generalize hA : upd _ 34 _ = A
      obtain ⟨r, a', H', e, hr, g2, g3, g4, g5, old4, wf4, lo, ol, hd, hll, hval⟩ := key A (by subst hA; rfl) (by subst hA; rfl) (by subst hA; rfl) (by subst hA; rfl) (by subst hA; rfl) (by subst hA; rfl) (by subst hA; rfl)
      subst hr
      rw [e]
      clear e key
      have old34 := oldm.trans old4
      obtain ⟨d, sd, rd⟩ := trimmedO_run ol.OP (by omega) n (by omega)
      rw [nf_of_digs hd hval, ← hab] at rd
      obtain ⟨H5, s5, s6, ow, old5⟩ := fin H' d _ (x * y) old34 wf4 rd hsg
      have old5' := old5.mono old2.1
      have old35 := old34.mono (Nat.le_trans old2.1 old3.1)
      obtain ⟨a2, H2', e2, hH', g4'⟩ := kr a' (G := H') (G' := H5) g2 g3 g4 g5 f10 f20 (fun G h => by
        rcases h with rfl | rfl
        · exact (b1.mono old35).load 0
        · exact (b1.mono old5').load 0) (fun G h => by
        rcases h with rfl | rfl
        · exact (b2.mono (old34.mono old3.1)).load 0
        · exact (b2.mono old5).load 0) sd rd.RO.R.scal s5
      subst hH'
      simp (disch := omega) only [bindX_normal, blkX_exit, ↓reduceIte, ↓bindX_normal]
      rw [e2]
      simp (disch := omega) only [bindX_normal, Option.map_some, ↓bindX_normal, fin_r, res_nil, pack_1, res_cell aW zW, g4', s6]
      exact ow
end Go.Proofs.Ytmmgdgmjkhcfaaa
namespace Go.Proofs.Ytmmgdgmjkhcfaaa
open Go Go.Abs Go.Num
set_option maxRecDepth 10000
attribute [local congr] bindO_congr bindF_congr bindX_congr condX_congr iteB_congr binS_congr pickS_congr eqB_congr nilS_congr clsW_congr maxS_congr minS_congr
theorem mid_get {A w Y : List Int} {i : Nat} (h : i < w.length) : (A ++ (w ++ Y)).getD (i + A.length) 0 = w.getD i 0 := by
  rw [List.getD_eq_getElem?_getD, List.getElem?_append_right (by omega), Nat.add_sub_cancel, List.getElem?_append_left h, ← List.getD_eq_getElem?_getD]
theorem mid_set {A w Y : List Int} {i : Nat} (h : i < w.length) (x : Int) : (A ++ (w ++ Y)).set (i + A.length) x = A ++ (w.set i x ++ Y) := by
  rw [List.set_append_right _ _ (by omega), Nat.add_sub_cancel, List.set_append_left _ _ h]
theorem top_get {A w Z : List Int} {e : Int} : (A ++ (w ++ (e :: Z))).getD (A.length + w.length) 0 = e := by
  rw [List.getD_eq_getElem?_getD, List.getElem?_append_right (by omega), Nat.add_sub_cancel_left, List.getElem?_append_right (Nat.le_refl _), Nat.sub_self]; rfl
theorem top_set {A w Z : List Int} {e : Int} (x : Int) : (A ++ (w ++ (e :: Z))).set (A.length + w.length) x = A ++ (w ++ (x :: Z)) := by
  rw [List.set_append_right _ _ (by omega), Nat.add_sub_cancel_left, List.set_append_right _ _ (Nat.le_refl _), Nat.sub_self]; rfl
theorem sub_step {w : List Int} {i : Nat} {c g m : Int} (h : i < w.length) : val (w.set i ((w.getD i 0 - g * m + c) % 100000000)) + B ^ (i + 1) * ((w.getD i 0 - g * m + c) / 100000000) = (val w + B ^ i * c) - B ^ i * (g * m) := by
  have := times_step (n := -g) (m := m) (c := c) h
  rw [show w.getD i 0 + -g * m + c = w.getD i 0 - g * m + c from by rw [Int.neg_mul]; omega, Int.neg_mul, Int.mul_neg] at this
  omega
theorem add_step {w : List Int} {i : Nat} {c m : Int} (h : i < w.length) : val (w.set i ((w.getD i 0 + m + c) % 100000000)) + B ^ (i + 1) * ((w.getD i 0 + m + c) / 100000000) = (val w + B ^ i * c) + B ^ i * m := by
  have := times_step (n := 1) (m := m) (c := c) h
  rw [Int.one_mul] at this
  exact this
structure LS (a : Fr) (f : Int) (vu vv vo : Value) (n j : Int) : Prop where
  s6 : a 6 = vi f
  s7 : a 7 = vu
  s8 : a 8 = vv
  s9 : a 9 = vi n
  s10 : a 10 = vo
  s11 : a 11 = vi j
theorem LS.upd {a : Fr} {f : Int} {vu vv vo : Value} {n j : Int} (h : LS a f vu vv vo n j) {t : Nat} (ht : 12 ≤ t) (v : Value) : LS (Abs.upd a t v) f vu vv vo n j := by
  constructor <;> rw [upd_at, if_neg (by omega)]
  · exact h.s6
  · exact h.s7
  · exact h.s8
  · exact h.s9
  · exact h.s10
  · exact h.s11
noncomputable def lgS : Code := atC [1, 1, 1, 1, 1, 1, 0, 1, 0, 0, 1, 0, 0, 1, 1, 0, 1, 0, 0] ((Try.f155.body).getD .skip)
noncomputable def lgD : Code := atC [1, 1, 1, 1, 1, 1, 0, 1, 0, 0, 1, 0, 0, 1, 1, 1, 1, 0, 0, 0, 1, 0, 1, 1, 0, 1, 0, 0] ((Try.f155.body).getD .skip)
noncomputable def lgW : Code := atC [1, 1, 1, 1, 1, 1, 0, 1, 0, 0, 1, 0, 0, 1, 1, 1, 1, 0, 0, 0] ((Try.f155.body).getD .skip)
noncomputable def lgO : Code := atC [1, 1, 1, 1, 1, 1, 0, 1, 0, 0] ((Try.f155.body).getD .skip)
theorem lg_sub {B0 C0 : Nat} {H : Heap} {vu vv vo : Value} {f V g : Int} {A w Y : List Int} (hv : ∀ G, Old B0 H G → Kept C0 H G → R G vv (ints (nf V))) (V0 : 0 ≤ V) (hg : 0 ≤ g ∧ g < 100000000) (ho : OM B0 C0 H vu (ints (A ++ (w ++ Y)))) (hd : Dg w) (hl : w.length = (nf V).length) (hA : A.length ≤ 900) (ln : (nf V).length ≤ 400) (hw : WF H)
    (n m nt : Nat) (hn : 10 ≤ n) {a : Fr} {k : Nat} (hk : (nf V).length < k) (hs : LS a f vu vv vo (nf V).length A.length) (h12 : a 12 = vi g) (h13 : a 13 = vi 0) (h81 : a 81 = vi (nf V).length) (h82 : a 82 = vi (0 : Nat)) :
    ∃ r a' H', loopN (evS Try.prog (evB Try.prog noC n) m nt none lgS) k a H = some (r, a', H') ∧ r = .exit 2 ∧ LS a' f vu vv vo (nf V).length A.length ∧ a' 12 = vi g ∧ Old B0 H H' ∧ Kept C0 H H' ∧ WF H' ∧ ∃ w' c, a' 13 = vi c ∧ OM B0 C0 H' vu (ints (A ++ (w' ++ Y))) ∧ w'.length = w.length ∧ Dg w' ∧ -100000000 < c ∧ c ≤ 0 ∧ val w' + B ^ (nf V).length * c = val w - g * V := by
  refine loop_up (nf V).length (fun i a H' => LS a f vu vv vo (nf V).length A.length ∧ a 12 = vi g ∧ a 81 = vi (nf V).length ∧ a 82 = vi i ∧ Old B0 H H' ∧ Kept C0 H H' ∧ WF H' ∧ ∃ w' c, a 13 = vi c ∧ OM B0 C0 H' vu (ints (A ++ (w' ++ Y))) ∧ w'.length = w.length ∧ Dg w' ∧ -100000000 < c ∧ c ≤ 0 ∧ val w' + B ^ i * c = val w - g * val ((nf V).take i)) _ ?_ ?_ hk
    ⟨hs, h12, h81, h82, Old.refl _ _, Kept.refl _ _, hw, w, 0, h13, ho, rfl, hd, by omega, by omega, by simp [val]⟩
  · intro i a H' hi ⟨hs, h12, h81, h82, old, kept, hw, w', c, h13, ho, hl', hd, c0, c1, hval⟩
    left
    rw [show lgS = atC [1, 1, 1, 1, 1, 1, 0, 1, 0, 0, 1, 0, 0, 1, 1, 0, 1, 0, 0] ((Try.f155.body).getD .skip) from rfl]
    have hrv := hv H' old kept
    have hm := (nf_dg V0).getD i
    have hx := hd.getD i
    have hp := prod_le hg hm
    have hro := ho.O.R
    have hil : i < w'.length := by omega
    have hlt : (i : Int) < (nf V).length := by omega
    have hlen : (A ++ (w' ++ Y)).length = A.length + (w'.length + Y.length) := by rw [List.length_append, List.length_append]
    have e0 : IntKind.i64.wrap ((i : Int) + (A.length : Int)) = ((i + A.length : Nat) : Int) := by rw [wr64 (by omega) (by omega)]; omega
    have a1 : addrS 1 vu (vi ((i + A.length : Nat) : Int)) = some (pt vu (i + A.length)) := by have := hro.addrI (i := ((i + A.length : Nat) : Int)) (by omega) (by omega); rwa [Int.toNat_natCast] at this
    have l1 : loadS (pt vu (i + A.length)) H' = some (vi (w'.getD i 0)) := by rw [hro.loadI (by omega), mid_get hil]
    have e1 : IntKind.i64.wrap (g * (nf V).getD i 0) = g * (nf V).getD i 0 := wr64 (by omega) (by omega)
    have e2 : IntKind.i64.wrap (w'.getD i 0 - g * (nf V).getD i 0) = w'.getD i 0 - g * (nf V).getD i 0 := wr64 (by omega) (by omega)
    have e3 : IntKind.i64.wrap (w'.getD i 0 - g * (nf V).getD i 0 + c) = w'.getD i 0 - g * (nf V).getD i 0 + c := wr64 (by omega) (by omega)
    have s1 := floored_run (z := w'.getD i 0 - g * (nf V).getD i 0 + c) (by omega) (by omega) n H' hn
    have e7 : IntKind.i64.wrap ((i : Int) + 1) = ((i + 1 : Nat) : Int) := by rw [wr64 (by omega) (by omega)]; omega
    obtain ⟨H2, s2, o2, old2, wf2, k2⟩ := ho.setKI hw (i := i + A.length) (by omega) ((w'.getD i 0 - g * (nf V).getD i 0 + c) % 100000000)
    rw [mid_set hil] at o2
    simp (disch := omega) only [Try.f155, Option.getD_some, atC, es_seq, es_region, es_draw, d0, es_cond, es_block, es_skip, ops_nil, ops_cons, opsV_nil, opsV_cons, st_move, st_assign, st_fun, sy_addr eL, sy_load aI, sy_store zI, sy_bin, sy_ext, ext_20, ext_21, binS_lss, binS_add, binS_sub, binS_mul, bindO_some, bindF_some, bindX_normal, blkX_normal, condX_true, iteB_true, iteB_false, ev_tmp, ev_const, ev_func, putA, upd_at, Option.map_some, ↓reduceIte, Nat.reduceEqDiff, Int.toNat_natCast, List.map_cons, List.map_nil, decide_true, ↓bindO_some, ↓bindF_some, ↓bindX_normal, ↓condX_true, ↓iteB_true, ↓iteB_false, reflV_load, reflV_move, reflV_assign, reflV_bin, reflV_addr, reflV_call, reflV_extract, vEq_vi, hs.s7, hs.s8, hs.s11, h12, h13, h81, h82, hlt, hrv.addrI, hrv.loadI, e0, a1, l1, e1, e2, e3, s1, s2, e7]
    refine ⟨_, _, rfl, (by repeat refine LS.upd ?_ (by decide) _
                           exact hs), h12, h81, rfl, old.trans old2, Kept.trans kept k2, wf2, _, _, by simp only [upd_at, ↓reduceIte, Nat.reduceEqDiff]; rfl, o2, by rw [List.length_set]; exact hl', hd.set i (by omega) (by omega), by omega, by omega, ?_⟩
    rw [sub_step hil, hval, val_take_succ, Int.mul_add, Int.mul_left_comm g (B ^ i)]
    omega
  · intro a H' ⟨hs, h12, h81, h82, old, kept, hw, w', c, h13, ho, hl', hd, c0, c1, hval⟩
    rw [show lgS = atC [1, 1, 1, 1, 1, 1, 0, 1, 0, 0, 1, 0, 0, 1, 1, 0, 1, 0, 0] ((Try.f155.body).getD .skip) from rfl]
    simp (disch := omega) only [Try.f155, Option.getD_some, atC, es_seq, es_region, es_cond, es_exit, ops_nil, ops_cons, sy_bin, binS_lss, bindO_some, bindF_some, bindX_normal, bindX_exit, condX_false, ev_tmp, putA, upd_at, ↓reduceIte, decide_false, ↓bindO_some, ↓bindF_some, ↓bindX_normal, ↓bindX_exit, ↓condX_false, h81, h82, Int.lt_irrefl]
    exact ⟨_, _, _, rfl, by simp, rfl, (by repeat refine LS.upd ?_ (by decide) _
                                           exact hs), h12, old, kept, hw, w', c, h13, ho, hl', hd, c0, c1, by rw [hval, List.take_length, nf_val]⟩
theorem lg_add {B0 C0 : Nat} {H : Heap} {vu vv vo : Value} {f V g : Int} {A w Y : List Int} (hv : ∀ G, Old B0 H G → Kept C0 H G → R G vv (ints (nf V))) (V0 : 0 ≤ V) (ho : OM B0 C0 H vu (ints (A ++ (w ++ Y)))) (hd : Dg w) (hl : w.length = (nf V).length) (hA : A.length ≤ 900) (ln : (nf V).length ≤ 400) (hw : WF H)
    (n m nt : Nat) (hn : 10 ≤ n) {a : Fr} {k : Nat} (hk : (nf V).length < k) (hs : LS a f vu vv vo (nf V).length A.length) (h12 : a 12 = vi g) (h13 : a 13 = vi 0) (h81 : a 130 = vi (nf V).length) (h82 : a 131 = vi (0 : Nat)) :
    ∃ r a' H', loopN (evS Try.prog (evB Try.prog noC n) m nt none lgD) k a H = some (r, a', H') ∧ r = .exit 6 ∧ LS a' f vu vv vo (nf V).length A.length ∧ a' 12 = vi g ∧ Old B0 H H' ∧ Kept C0 H H' ∧ WF H' ∧ ∃ w' c, a' 13 = vi c ∧ OM B0 C0 H' vu (ints (A ++ (w' ++ Y))) ∧ w'.length = w.length ∧ Dg w' ∧ 0 ≤ c ∧ c ≤ 1 ∧ val w' + B ^ (nf V).length * c = val w + V := by
  refine loop_up (nf V).length (fun i a H' => LS a f vu vv vo (nf V).length A.length ∧ a 12 = vi g ∧ a 130 = vi (nf V).length ∧ a 131 = vi i ∧ Old B0 H H' ∧ Kept C0 H H' ∧ WF H' ∧ ∃ w' c, a 13 = vi c ∧ OM B0 C0 H' vu (ints (A ++ (w' ++ Y))) ∧ w'.length = w.length ∧ Dg w' ∧ 0 ≤ c ∧ c ≤ 1 ∧ val w' + B ^ i * c = val w + val ((nf V).take i)) _ ?_ ?_ hk
    ⟨hs, h12, h81, h82, Old.refl _ _, Kept.refl _ _, hw, w, 0, h13, ho, rfl, hd, by omega, by omega, by simp [val]⟩
  · intro i a H' hi ⟨hs, h12, h81, h82, old, kept, hw, w', c, h13, ho, hl', hd, c0, c1, hval⟩
    left
    rw [show lgD = atC [1, 1, 1, 1, 1, 1, 0, 1, 0, 0, 1, 0, 0, 1, 1, 1, 1, 0, 0, 0, 1, 0, 1, 1, 0, 1, 0, 0] ((Try.f155.body).getD .skip) from rfl]
    have hrv := hv H' old kept
    have hm := (nf_dg V0).getD i
    have hx := hd.getD i
    have hro := ho.O.R
    have hil : i < w'.length := by omega
    have hlt : (i : Int) < (nf V).length := by omega
    have hlen : (A ++ (w' ++ Y)).length = A.length + (w'.length + Y.length) := by rw [List.length_append, List.length_append]
    have e0 : IntKind.i64.wrap ((i : Int) + (A.length : Int)) = ((i + A.length : Nat) : Int) := by rw [wr64 (by omega) (by omega)]; omega
    have a1 : addrS 1 vu (vi ((i + A.length : Nat) : Int)) = some (pt vu (i + A.length)) := by have := hro.addrI (i := ((i + A.length : Nat) : Int)) (by omega) (by omega); rwa [Int.toNat_natCast] at this
    have l1 : loadS (pt vu (i + A.length)) H' = some (vi (w'.getD i 0)) := by rw [hro.loadI (by omega), mid_get hil]
    have e2 : IntKind.i64.wrap (w'.getD i 0 + (nf V).getD i 0) = w'.getD i 0 + (nf V).getD i 0 := wr64 (by omega) (by omega)
    have e3 : IntKind.i64.wrap (w'.getD i 0 + (nf V).getD i 0 + c) = w'.getD i 0 + (nf V).getD i 0 + c := wr64 (by omega) (by omega)
    have s1 := floored_run (z := w'.getD i 0 + (nf V).getD i 0 + c) (by omega) (by omega) n H' hn
    have e7 : IntKind.i64.wrap ((i : Int) + 1) = ((i + 1 : Nat) : Int) := by rw [wr64 (by omega) (by omega)]; omega
    obtain ⟨H2, s2, o2, old2, wf2, k2⟩ := ho.setKI hw (i := i + A.length) (by omega) ((w'.getD i 0 + (nf V).getD i 0 + c) % 100000000)
    rw [mid_set hil] at o2
    simp (disch := omega) only [Try.f155, Option.getD_some, atC, es_seq, es_region, es_draw, d0, es_cond, es_block, es_skip, ops_nil, ops_cons, opsV_nil, opsV_cons, st_move, st_assign, st_fun, sy_addr eL, sy_load aI, sy_store zI, sy_bin, sy_ext, ext_20, ext_21, binS_lss, binS_add, bindO_some, bindF_some, bindX_normal, blkX_normal, condX_true, iteB_true, iteB_false, ev_tmp, ev_const, ev_func, putA, upd_at, Option.map_some, ↓reduceIte, Nat.reduceEqDiff, Int.toNat_natCast, List.map_cons, List.map_nil, decide_true, ↓bindO_some, ↓bindF_some, ↓bindX_normal, ↓condX_true, ↓iteB_true, ↓iteB_false, reflV_load, reflV_move, reflV_assign, reflV_bin, reflV_addr, reflV_call, reflV_extract, vEq_vi, hs.s7, hs.s8, hs.s11, h13, h81, h82, hlt, hrv.addrI, hrv.loadI, e0, a1, l1, e2, e3, s1, s2, e7]
    refine ⟨_, _, rfl, (by repeat refine LS.upd ?_ (by decide) _
                           exact hs), h12, h81, rfl, old.trans old2, Kept.trans kept k2, wf2, _, _, by simp only [upd_at, ↓reduceIte, Nat.reduceEqDiff]; rfl, o2, by rw [List.length_set]; exact hl', hd.set i (by omega) (by omega), by omega, by omega, ?_⟩
    rw [add_step hil, hval, val_take_succ]
    omega
  · intro a H' ⟨hs, h12, h81, h82, old, kept, hw, w', c, h13, ho, hl', hd, c0, c1, hval⟩
    rw [show lgD = atC [1, 1, 1, 1, 1, 1, 0, 1, 0, 0, 1, 0, 0, 1, 1, 1, 1, 0, 0, 0, 1, 0, 1, 1, 0, 1, 0, 0] ((Try.f155.body).getD .skip) from rfl]
    simp (disch := omega) only [Try.f155, Option.getD_some, atC, es_seq, es_region, es_cond, es_exit, ops_nil, ops_cons, sy_bin, binS_lss, bindO_some, bindF_some, bindX_normal, bindX_exit, condX_false, ev_tmp, putA, upd_at, ↓reduceIte, decide_false, ↓bindO_some, ↓bindF_some, ↓bindX_normal, ↓bindX_exit, ↓condX_false, h81, h82, Int.lt_irrefl]
    exact ⟨_, _, _, rfl, by simp, rfl, (by repeat refine LS.upd ?_ (by decide) _
                                           exact hs), h12, old, kept, hw, w', c, h13, ho, hl', hd, c0, c1, by rw [hval, List.take_length, nf_val]⟩
theorem divmod_of {T g V : Int} (h0 : 0 ≤ T - g * V) (h1 : T < (g + 1) * V) : T / V = g ∧ T % V = T - g * V := by
  rw [Int.add_mul, Int.one_mul] at h1
  have e : T = (T - g * V) + V * g := by rw [Int.mul_comm V g]; omega
  have hV : 0 < V := by omega
  constructor
  · rw [e, Int.add_mul_ediv_left _ _ (by omega), Int.ediv_eq_zero_of_lt h0 (by omega)]; omega
  · conv => lhs; rw [e]
    rw [Int.add_mul_emod_self_left, Int.emod_eq_of_lt h0 (by omega)]
theorem lg_while {B0 C0 : Nat} {H : Heap} {vu vv vo : Value} {f V g T e : Int} {A w Z : List Int} (hv : ∀ G, Old B0 H G → Kept C0 H G → R G vv (ints (nf V))) (V0 : 0 < V) (T0 : 0 ≤ T) (hg : 0 ≤ g ∧ g < 100000000) (ho : OM B0 C0 H vu (ints (A ++ (w ++ (e :: Z))))) (hd : Dg w) (hl : w.length = (nf V).length) (he : -100000000 < e ∧ e < 100000000)
    (hval : val w + B ^ (nf V).length * e = T - g * V) (hT : T < (g + 1) * V) (hA : A.length ≤ 900) (ln : (nf V).length ≤ 400) (hw : WF H)
    (n m nt : Nat) (hn : 10 ≤ n) (hm : 1000 ≤ m) {a : Fr} {k : Nat} (hk : 100000000 ≤ k) (hs : LS a f vu vv vo (nf V).length A.length) (h12 : a 12 = vi g) :
    ∃ r a' H', loopN (evS Try.prog (evB Try.prog noC n) m nt none lgW) k a H = some (r, a', H') ∧ r = .exit 4 ∧ LS a' f vu vv vo (nf V).length A.length ∧ a' 12 = vi (T / V) ∧ Old B0 H H' ∧ Kept C0 H H' ∧ WF H' ∧ ∃ w', OM B0 C0 H' vu (ints (A ++ (w' ++ (0 :: Z)))) ∧ w'.length = w.length ∧ Dg w' ∧ val w' = T % V := by
  refine loop_wf (fun j a H' => ∃ g w1 e, j = g.toNat ∧ 0 ≤ g ∧ g < 100000000 ∧ LS a f vu vv vo (nf V).length A.length ∧ a 12 = vi g ∧ Old B0 H H' ∧ Kept C0 H H' ∧ WF H' ∧ OM B0 C0 H' vu (ints (A ++ (w1 ++ (e :: Z)))) ∧ w1.length = w.length ∧ Dg w1 ∧ -100000000 < e ∧ e < 100000000 ∧ val w1 + B ^ (nf V).length * e = T - g * V ∧ T < (g + 1) * V) _ ?_ k g.toNat a H (by omega)
    ⟨g, w, e, rfl, hg.1, hg.2, hs, h12, Old.refl _ _, Kept.refl _ _, hw, ho, rfl, hd, he.1, he.2, hval, hT⟩
  intro j a H' ⟨g, w1, e, hj, g0, g1, hs, h12, old, kept, hw, ho, hl', hd, he0, he1, hval, hT⟩
  rw [show lgW = atC [1, 1, 1, 1, 1, 1, 0, 1, 0, 0, 1, 0, 0, 1, 1, 1, 1, 0, 0, 0] ((Try.f155.body).getD .skip) from rfl]
  have hro := ho.O.R
  have hlen : (A ++ (w1 ++ (e :: Z))).length = A.length + (w1.length + (Z.length + 1)) := by rw [List.length_append, List.length_append, List.length_cons]
  have e0 : IntKind.i64.wrap ((A.length : Int) + ((nf V).length : Int)) = ((A.length + w1.length : Nat) : Int) := by rw [wr64 (by omega) (by omega)]; omega
  have a1 : addrS 1 vu (vi ((A.length + w1.length : Nat) : Int)) = some (pt vu (A.length + w1.length)) := by have := hro.addrI (i := ((A.length + w1.length : Nat) : Int)) (by omega) (by omega); rwa [Int.toNat_natCast] at this
  have l1 : loadS (pt vu (A.length + w1.length)) H' = some (vi e) := by rw [hro.loadI (by omega), top_get]
  have hw1 := hd.val
  have hpB := pow_pos (nf V).length
  have hsV := (nf_size V).2
  rw [show w1.length = (nf V).length from by omega] at hw1
  by_cases hneg : e < 0
  · left
    have hBe : B ^ (nf V).length * e ≤ B ^ (nf V).length * (-1) := Int.mul_le_mul_of_nonneg_left (by omega) (by omega)
    have hg1 : 1 ≤ g := by
      apply Decidable.byContradiction
      intro h
      have : g = 0 := by omega
      subst this
      rw [Int.zero_mul] at hval
      omega
    have c1 : IntKind.i64.wrap (g - 1) = g - 1 := wr64 (by omega) (by omega)
    have key := fun (A' : Fr) => lg_add (f := f) (vo := vo) (g := g - 1) (A := A) (w := w1) (Y := e :: Z) (fun G h1 h2 => hv G (old.trans h1) (Kept.trans kept h2)) (by omega : 0 ≤ V) ho hd (by omega) hA ln hw n m nt hn (a := A') (k := m) (by omega)
    rw [show lgD = atC [1, 1, 1, 1, 1, 1, 0, 1, 0, 0, 1, 0, 0, 1, 1, 1, 1, 0, 0, 0, 1, 0, 1, 1, 0, 1, 0, 0] ((Try.f155.body).getD .skip) from rfl] at key
    simp only [Try.f155, Option.getD_some, atC] at key
    simp (disch := omega) only [Try.f155, Option.getD_some, atC, es_seq, es_region, es_cond, es_block, es_loop, es_skip, ops_nil, ops_cons, st_move, st_assign, sy_addr eL, sy_load aI, sy_store zI, sy_bin, binS_lss, binS_add, binS_sub, bindO_some, bindF_some, bindX_normal, condX_true, ev_tmp, ev_const, putA, upd_at, Option.map_some, ↓reduceIte, Nat.reduceEqDiff, decide_true, ↓bindO_some, ↓bindF_some, ↓bindX_normal, ↓condX_true, hs.s7, hs.s9, hs.s11, h12, e0, a1, l1, hneg, c1]
    generalize hA' : upd _ 131 _ = A'
    obtain ⟨r, a', H2, e', hr, hs', g12, old2, k2, wf2, w2, c, g13, ho2, hl2, hd2, c0, c2, hval2⟩ := key A' (by
      subst hA'
      repeat refine LS.upd ?_ (by decide) _
      exact hs) (by subst hA'; rfl) (by subst hA'; rfl) (by subst hA'; rfl) (by subst hA'; rfl)
    subst hr
    rw [e']
    clear e' key
    have hro2 := ho2.O.R
    have hlen2 : (A ++ (w2 ++ (e :: Z))).length = A.length + (w2.length + (Z.length + 1)) := by rw [List.length_append, List.length_append, List.length_cons]
    rw [show w1.length = w2.length from hl2.symm] at e0
    have a2 : addrS 1 vu (vi ((A.length + w2.length : Nat) : Int)) = some (pt vu (A.length + w2.length)) := by have := hro2.addrI (i := ((A.length + w2.length : Nat) : Int)) (by omega) (by omega); rwa [Int.toNat_natCast] at this
    have l2 : loadS (pt vu (A.length + w2.length)) H2 = some (vi e) := by rw [hro2.loadI (by omega), top_get]
    have c3 : IntKind.i64.wrap (e + c) = e + c := wr64 (by omega) (by omega)
    obtain ⟨H3, s3, o3, old3, wf3, k3⟩ := ho2.setKI wf2 (i := A.length + w2.length) (by omega) (e + c)
    rw [top_set] at o3
    simp (disch := omega) only [binS_add, bindO_some, bindF_some, bindX_normal, blkX_normal, blkX_exit, Option.map_some, ↓reduceIte, ↓bindO_some, ↓bindF_some, ↓bindX_normal, hs'.s7, hs'.s9, hs'.s11, g13, e0, a2, l2, c3, s3]
    refine ⟨_, _, rfl, (g - 1).toNat, by omega, g - 1, w2, e + c, rfl, by omega, by omega, (by
      repeat refine LS.upd ?_ (by decide) _
      exact hs'), g12, (old.trans old2).trans old3, Kept.trans (Kept.trans kept k2) k3, wf3, o3, by omega, hd2, by omega, by omega, ?_, ?_⟩
    · rw [Int.mul_add, Int.sub_mul, Int.one_mul]; omega
    · rw [Int.sub_add_cancel]; omega
  · right
    simp (disch := omega) only [Try.f155, Option.getD_some, atC, es_seq, es_region, es_cond, es_exit, ops_nil, ops_cons, st_move, sy_addr eL, sy_load aI, sy_bin, binS_lss, binS_add, bindO_some, bindF_some, bindX_normal, bindX_exit, condX_false, ev_tmp, ev_const, putA, upd_at, Option.map_some, ↓reduceIte, Nat.reduceEqDiff, decide_false, ↓bindO_some, ↓bindF_some, ↓bindX_normal, ↓bindX_exit, ↓condX_false, hs.s7, hs.s9, hs.s11, e0, a1, l1, hneg]
    have hBe := Int.mul_nonneg (Int.le_of_lt hpB) (by omega : 0 ≤ e)
    obtain ⟨q1, q2⟩ := divmod_of (T := T) (g := g) (V := V) (by omega) hT
    have hez : e = 0 := by
      apply Decidable.byContradiction
      intro h
      have : B ^ (nf V).length * 1 ≤ B ^ (nf V).length * e := Int.mul_le_mul_of_nonneg_left (by omega) (by omega)
      rw [Int.add_mul, Int.one_mul] at hT
      omega
    subst hez
    rw [Int.mul_zero] at hval
    refine ⟨_, _, _, rfl, by simp, rfl, (by
      repeat refine LS.upd ?_ (by decide) _
      exact hs), by simp only [upd_at, ↓reduceIte, Nat.reduceEqDiff, h12, q1], old, kept, hw, w1, ho, hl', hd, by omega⟩
end Go.Proofs.Ytmmgdgmjkhcfaaa
