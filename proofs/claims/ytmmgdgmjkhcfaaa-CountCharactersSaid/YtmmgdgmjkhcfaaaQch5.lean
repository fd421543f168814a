/- Of the law: texts of its proof, joined (part 5). -/
import Derived.Test.YtmmgdgmjkhcfaaaChecked
import Derived.Test.YtmmgdgmjkhcfaaaQch4
set_option linter.all false
namespace Go.Proofs.Ytmmgdgmjkhcfaaa
open Go Go.Abs
theorem hmix : Try.prog.follows .mixedOrders = true := by kernel_rfl
def okN (f : Nat) : Bool := Nat.ble 2 f && Nat.ble f 157
theorem allOk : ((List.range 158).all fun f => !(okN f) || match Try.prog.funcs[f]? with
    | some fn => match fn.body with
      | some c => funcOk fn c
      | none => true
    | none => true) = true := by kernel_rfl
theorem hF (f : Nat) (fn : Func) (c : Code) (h : okN f = true) (h1 : Try.prog.funcs[f]? = some fn) (h2 : fn.body = some c) : funcOk fn c = true := by
  have h3 : f < 157 + 1 := by
    unfold okN at h
    simp only [Bool.and_eq_true] at h
    have := Nat.le_of_ble_eq_true h.2
    omega
  have := List.all_eq_true.1 allOk f (List.mem_range.2 h3)
  simp only [h, h1, h2, Bool.not_true, Bool.false_or] at this
  exact this
end Go.Proofs.Ytmmgdgmjkhcfaaa
namespace Go.Proofs.Ytmmgdgmjkhcfaaa
open Go Go.Abs
theorem uL : Try.prog.underlying 22 = some (.slice 3) := by kernel_rfl
theorem eL : sliceElem Try.prog 22 = some (3, 1) := by kernel_rfl
theorem aI : isAggT Try.prog 3 = some false := by kernel_rfl
theorem zI : sizeT Try.prog 3 = some 1 := by kernel_rfl
theorem pI : ((bytesT Try.prog 3).isSome && decide ((bytesT Try.prog 3).getD 0 ≤ maxA) && (zeros Try.prog 3 1 1).isSome) = true := by kernel_rfl
theorem yI : bytesT Try.prog 3 = some 8 := by kernel_rfl
theorem oI : zeros Try.prog 3 1 1 = some [vi 0] := by kernel_rfl
theorem nI : zeros Try.prog 3 1 0 = some [] := by kernel_rfl
theorem ok_fn {f : Nat} {fn : Func} {c : Code} (ho : okN f = true) (hf : Try.prog.funcs[f]? = some fn) (hb : fn.body = some c) : funcOk fn c = true := hF f fn c ho hf hb
theorem aL : isAggT Try.prog 22 = some false := by kernel_rfl
theorem aB : isAggT Try.prog 4 = some false := by kernel_rfl
theorem zB : sizeT Try.prog 4 = some 1 := by kernel_rfl
theorem qB (x y : Operand) (p q : Bool) : pureVal Try.prog (do eqGuard .eql 4 x y (.bool p) (.bool q); binOp .eql 4 (.bool p) (.bool q)) = some (.bool (p == q)) := by kernel_rfl
theorem aW : isAggT Try.prog 85 = some true := by kernel_rfl
theorem zW : sizeT Try.prog 85 = some 2 := by kernel_rfl
theorem fW0 : fieldOff Try.prog 85 0 = some 0 := by kernel_rfl
theorem fW1 : fieldOff Try.prog 85 1 = some 1 := by kernel_rfl
theorem iW : zeroT Try.prog 85 = some (.agg #[.bool false, .slice none 0 0]) := by kernel_rfl
noncomputable def sfs (t : TypeId) : Array Field := match Try.prog.underlying t with
  | some (.struct fs) => fs
  | _ => #[]
theorem uW : Try.prog.underlying 85 = some (.struct (sfs 85)) := by kernel_rfl
theorem oW : sizesOf Try.prog (sfs 85).toList = some [(0, 1), (1, 1)] := by kernel_rfl
theorem bW2 (p : Bool) (v : Value) (h : scal v = some [v]) : buildA Try.prog 85 [(0, .bool p), (1, v)] = some (.agg #[.bool p, v]) := by
  have hb : ∀ q : Bool, scal (.bool q) = some [.bool q] := fun _ => rfl
  simp only [buildA, iW, uW, oW, fillL, hb, h]
  rfl
theorem bW1 (v : Value) (h : scal v = some [v]) : buildA Try.prog 85 [(1, v)] = some (.agg #[.bool false, v]) := by
  have hb : ∀ q : Bool, scal (.bool q) = some [.bool q] := fun _ => rfl
  simp only [buildA, iW, uW, oW, fillL, hb, h]
  rfl
theorem bW0 : buildA Try.prog 85 [] = some (.agg #[.bool false, .slice none 0 0]) := by kernel_rfl
end Go.Proofs.Ytmmgdgmjkhcfaaa
namespace Go.Proofs.Ytmmgdgmjkhcfaaa
open Go Go.Abs Go.Num
set_option maxRecDepth 10000
attribute [local congr] bindO_congr bindF_congr bindX_congr condX_congr iteB_congr binS_congr pickS_congr
theorem tdiv_pos {z : Int} (h : 0 ≤ z) (b : Int) : z.tdiv b = z / b := Int.tdiv_eq_ediv_of_nonneg h
theorem tmod_pos {z : Int} (h : 0 ≤ z) (b : Int) : z.tmod b = z % b := Int.tmod_eq_emod_of_nonneg h
theorem tdiv_neg' {z : Int} (b : Int) : z.tdiv b = -((-z).tdiv b) := by rw [Int.neg_tdiv]; omega
theorem tmod_neg' {z : Int} (b : Int) : z.tmod b = -((-z).tmod b) := by rw [Int.neg_tmod]; omega
theorem split_run {z : Int} (h1 : -4000000000000000000 ≤ z) (h2 : z ≤ 4000000000000000000) (n : Nat) (H : Heap) (hn : 10 ≤ n) : evB Try.prog noC n (.func (.func 111) #[] #[]) [vi z] H = some (.tuple #[vi (z / 100000000), vi (z % 100000000)], H) := by
  refine run_of (F := 9) (Q := fun x => x = some (.tuple #[vi (z / 100000000), vi (z % 100000000)], H)) (fun n _ => ?_) n hn
  rw [body_runS Try.func111 rfl (ok_fn (by rfl) Try.func111 rfl) (Nat.le_of_ble_eq_true rfl) (D := D0) (by kernel_rfl)]
  by_cases hz : 0 ≤ z
  · have e1 : z.tdiv 100000000 = z / 100000000 := tdiv_pos hz _
    have e2 : z.tmod 100000000 = z % 100000000 := tmod_pos hz _
    have h3 : ¬ z % 100000000 < 0 := by omega
    simp (disch := omega) only [Try.f111, es_seq, es_region, es_cond, es_skip, es_ret, ops_nil, ops_cons, st_move, st_assign, sy_bin, binS_lss, binS_quo, binS_rem, bindO_some, bindF_some, bindX_normal, condX_false, ev_tmp, ev_const, putA, upd_at, Option.map_some, ↓reduceIte, Nat.reduceEqDiff, frOf_0, decide_false, ↓bindO_some, ↓bindF_some, ↓bindX_normal, ↓condX_false, fin_r, res_nil, res_tmp, pack_2, scal_vi, e1, e2, wr64, h3]
  · have e1 : z.tdiv 100000000 = -((-z) / 100000000) := by rw [tdiv_neg', tdiv_pos (by omega)]
    have e2 : z.tmod 100000000 = -((-z) % 100000000) := by rw [tmod_neg', tmod_pos (by omega)]
    by_cases h3 : -((-z) % 100000000) < 0
    · simp (disch := omega) only [Try.f111, es_seq, es_region, es_cond, es_ret, ops_nil, ops_cons, st_move, st_assign, sy_bin, binS_lss, binS_add, binS_sub, binS_quo, binS_rem, bindO_some, bindF_some, bindX_normal, bindX_ret, condX_true, ev_tmp, ev_const, putA, upd_at, Option.map_some, ↓reduceIte, Nat.reduceEqDiff, frOf_0, decide_true, ↓bindO_some, ↓bindF_some, ↓bindX_normal, ↓bindX_ret, ↓condX_true, fin_r, res_nil, res_tmp, pack_2, scal_vi, e1, e2, wr64, h3]
      rw [show -(-z / 100000000) - 1 = z / 100000000 from by omega, show -(-z % 100000000) + 100000000 = z % 100000000 from by omega]
    · simp (disch := omega) only [Try.f111, es_seq, es_region, es_cond, es_skip, es_ret, ops_nil, ops_cons, st_move, st_assign, sy_bin, binS_lss, binS_quo, binS_rem, bindO_some, bindF_some, bindX_normal, condX_false, ev_tmp, ev_const, putA, upd_at, Option.map_some, ↓reduceIte, Nat.reduceEqDiff, frOf_0, decide_false, ↓bindO_some, ↓bindF_some, ↓bindX_normal, ↓condX_false, fin_r, res_nil, res_tmp, pack_2, scal_vi, e1, e2, wr64, h3]
      rw [show -(-z / 100000000) = z / 100000000 from by omega, show -(-z % 100000000) = z % 100000000 from by omega]
theorem take_snoc' {l : List Int} {c : Nat} (h : c < l.length) : l.take (c + 1) = l.take c ++ [l.getD c 0] := by
  rw [List.take_succ_eq_append_getElem h]
  simp [List.getD_eq_getElem?_getD, List.getElem?_eq_getElem h]
noncomputable def trimB : Code := atC [1, 1, 0, 0, 0] ((Try.f112.body).getD .skip)
theorem trim_loop {H : Heap} {v : Value} {l : List Int} (hv : R H v (ints l)) (call : CallF) (m nt : Nat) {a : Fr} {k : Nat} (hk : l.length < k) (hl : l.length ≤ 1000) (h0 : a 0 = v) (h3 : a 3 = vi l.length) :
    ∃ x a' H', loopN (evS Try.prog call m nt none trimB) k a H = some (x, a', H') ∧ x = .exit 0 ∧ H' = H ∧ a' 0 = v ∧ ∃ c : Nat, c ≤ l.length ∧ a' 3 = vi c ∧ l.take c = trimL l := by
  refine loop_wf (fun n a H' => H' = H ∧ a 0 = v ∧ a 3 = vi n ∧ n ≤ l.length ∧ trimL (l.take n) = trimL l) _ ?_ k l.length a H hk ⟨rfl, h0, h3, Nat.le_refl _, by rw [List.take_length]⟩
  intro n a H' ⟨hH, h0, h3, hn, ht⟩
  subst hH
  rw [show trimB = atC [1, 1, 0, 0, 0] ((Try.f112.body).getD .skip) from rfl]
  by_cases hz : n = 0
  · subst hz
    right
    have h1 : ¬ (0 : Int) < ((0 : Nat) : Int) := by omega
    simp (disch := omega) only [Try.f112, Option.getD_some, atC, es_seq, es_region, es_cond, es_exit, ops_nil, ops_cons, ops_consG, st_move, sy_pick, pickS_false, sy_bin, binS_gtr, bindO_some, bindF_some, bindX_normal, bindX_exit, condX_false, iteB_false, ev_tmp, ev_const, putA, upd_at, ↓reduceIte, Nat.reduceEqDiff, decide_false, yieldO_eq, yO, yV_bool, some_true, List.getElem?_cons_zero, List.getElem?_cons_succ, ↓bindO_some, ↓bindF_some, ↓bindX_normal, ↓bindX_exit, ↓condX_false, ↓iteB_false, h3, h1]
    exact ⟨_, _, _, rfl, by simp, rfl, rfl, by simp only [upd_get, ↓reduceIte, Nat.reduceEqDiff, h0], 0, by omega, by simp only [upd_get, ↓reduceIte, Nat.reduceEqDiff, h3], ht⟩
  · obtain ⟨c, rfl⟩ : ∃ c, n = c + 1 := ⟨n - 1, by omega⟩
    have h1 : (0 : Int) < ((c + 1 : Nat) : Int) := by omega
    have e1 : IntKind.i64.wrap (((c + 1 : Nat) : Int) - 1) = (c : Int) := by rw [wr64 (by omega) (by omega)]; omega
    have hx := take_snoc' (l := l) (c := c) (by omega)
    rw [hx, trimL_snoc] at ht
    by_cases hy : l.getD c 0 = 0
    · left
      rw [if_pos hy] at ht
      simp (disch := omega) only [Try.f112, Option.getD_some, atC, es_seq, es_region, es_cond, es_block, es_skip, ops_nil, ops_cons, ops_consG, st_move, st_assign, sy_pick, pickS_true, sy_addr eL, sy_load aI, sy_bin, binS_gtr, binS_eql, binS_sub, bindO_some, bindF_some, bindX_normal, blkX_normal, condX_true, iteB_true, ev_tmp, ev_const, putA, upd_at, Option.map_some, ↓reduceIte, Nat.reduceEqDiff, Int.toNat_natCast, decide_true, yieldO_eq, yO, yV_bool, List.getElem?_cons_zero, List.getElem?_cons_succ, beq_self_eq_true, ↓bindO_some, ↓bindF_some, ↓bindX_normal, ↓condX_true, ↓iteB_true, h0, h3, h1, e1, hv.addrI, hv.loadI, hy]
      exact ⟨_, _, rfl, c, by omega, rfl, by simp only [upd_get, ↓reduceIte, Nat.reduceEqDiff, h0], by simp only [upd_get, ↓reduceIte], by omega, ht⟩
    · right
      rw [if_neg hy] at ht
      simp (disch := omega) only [Try.f112, Option.getD_some, atC, es_seq, es_region, es_cond, es_exit, ops_nil, ops_cons, ops_consG, st_move, sy_pick, pickS_true, sy_addr eL, sy_load aI, sy_bin, binS_gtr, binS_eql, binS_sub, bindO_some, bindF_some, bindX_normal, bindX_exit, condX_false, iteB_true, ev_tmp, ev_const, putA, upd_at, Option.map_some, ↓reduceIte, Nat.reduceEqDiff, Int.toNat_natCast, decide_true, decide_false, yieldO_eq, yO, yV_bool, List.getElem?_cons_zero, List.getElem?_cons_succ, beq_self_eq_true, ↓bindO_some, ↓bindF_some, ↓bindX_normal, ↓bindX_exit, ↓condX_false, ↓iteB_true, h0, h3, h1, e1, hv.addrI, hv.loadI, hy]
      exact ⟨_, _, _, rfl, by simp, rfl, rfl, by simp only [upd_get, ↓reduceIte, Nat.reduceEqDiff, h0], c + 1, by omega, by simp only [upd_get, ↓reduceIte, Nat.reduceEqDiff, h3], by rw [hx]; exact ht⟩
def OneL (H : Heap) (r : Option (Value × Heap)) (l : List Int) : Prop := ∃ v' H', r = some (v', H') ∧ O H.length H' v' (ints l) ∧ Old H.length H H' ∧ WF H'
theorem trim_run {H : Heap} {v : Value} {l : List Int} (hw : WF H) (hv : R H v (ints l)) (hl : l.length ≤ 1000) (n : Nat) (hn : 2000 ≤ n) : OneL H (evB Try.prog noC n (.func (.func 112) #[] #[]) [v] H) (trimL l) := by
  refine run_of (F := 1999) (Q := fun x => OneL H x (trimL l)) (fun n hn => ?_) n hn
  rw [body_runS Try.func112 rfl (ok_fn (by rfl) Try.func112 rfl) (Nat.le_of_ble_eq_true rfl) (D := D0) (by kernel_rfl)]
  have key := fun (A : Fr) => trim_loop hv (evB Try.prog noC n) n Try.f112.ntmps (a := A) (k := n) (by omega) hl
  rw [show trimB = atC [1, 1, 0, 0, 0] ((Try.f112.body).getD .skip) from rfl] at key
  simp only [Try.f112, Option.getD_some, atC] at key
  simp (disch := omega) only [Try.f112, es_seq, es_region, es_block, es_loop, es_ret, ops_nil, ops_cons, st_move, st_assign, sy_len uL, sy_append eL pI, sy_build0 eL nI, sy_slice eL, bindO_some, bindF_some, bindX_normal, ev_tmp, ev_const, putA, upd_at, Option.map_some, ↓reduceIte, Nat.reduceEqDiff, frOf_0, ↓bindO_some, ↓bindF_some, ↓bindX_normal, hv.lenI]
  generalize hA : upd _ 3 _ = A
  obtain ⟨x, a', H', e, hx, hH, h0, c, hc, h3, ht⟩ := key A (by subst hA; rfl) (by subst hA; rfl)
  subst hx
  subst hH
  rw [e]
  obtain ⟨v1, e1, r1⟩ := hv.upto hc
  have ho := Old.app H' [.cells H'.length true []]
  obtain ⟨v2, H2, e2, o2, old2, wf2⟩ := (O.empty (H := H') (Nat.le_refl H'.length)).app (hw.app (Nat.le_refl _)) (by simp) (r1.mono ho) (by rw [ints_len, List.length_take]; simp [maxA]; omega)
  simp (disch := omega) only [bindO_some, bindF_some, bindX_normal, blkX_exit, upd_at, Option.map_some, ↓reduceIte, ↓bindO_some, ↓bindF_some, ↓bindX_normal, fin_r, res_nil, res_tmp, pack_1, h0, h3, e1, e2, Option.map_none, (o2.R).scal]
  refine ⟨_, _, rfl, ?_, ho.trans old2, wf2⟩
  rw [← ht]; exact o2
theorem getD_mem {l : List Int} {i : Nat} (h : i < l.length) : l.getD i 0 ∈ l := by
  rw [List.getD_eq_getElem?_getD, List.getElem?_eq_getElem h]; exact List.getElem_mem h
def negI (l : List Int) (i : Nat) : List Int := (l.take i).map (- ·) ++ l.drop i
theorem negI_len (l : List Int) (i : Nat) : (negI l i).length = l.length := by unfold negI; simp; omega
theorem negI_get {l : List Int} {i : Nat} (h : i < l.length) : (negI l i).getD i 0 = l.getD i 0 := by
  unfold negI
  have e : ((l.take i).map (- ·)).length = i := by simp; omega
  rw [List.getD_eq_getElem?_getD, List.getD_eq_getElem?_getD, List.getElem?_append_right (by omega), e, Nat.sub_self, List.getElem?_drop, Nat.add_zero]
theorem negI_set {l : List Int} {i : Nat} (h : i < l.length) : (negI l i).set i (- l.getD i 0) = negI l (i + 1) := by
  unfold negI
  have e : ((l.take i).map (- ·)).length = i := by simp; omega
  rw [List.set_append_right _ _ (by omega), e, Nat.sub_self, take_snoc' h, List.map_append, List.drop_eq_getElem_cons h, List.set_cons_zero]
  simp
theorem negI_all (l : List Int) : negI l l.length = l.map (- ·) := by unfold negI; simp
theorem negI_0 (l : List Int) : negI l 0 = l := by unfold negI; simp
noncomputable def signedB : Code := atC [1, 1, 0, 1, 0, 0] ((Try.f101.body).getD .skip)
theorem signed_loop {B0 : Nat} {H0 : Heap} {v : Value} {l : List Int} (call : CallF) (m nt : Nat) {a : Fr} {H : Heap} {k : Nat} (hk : l.length < k) (hl : l.length ≤ 1000) (hb : ∀ x ∈ l, -4000000000000000000 ≤ x ∧ x ≤ 4000000000000000000)
    (ho : O B0 H v (ints l)) (old : Old B0 H0 H) (hw : WF H) (h1 : a 1 = .bool true) (h5 : a 5 = v) (h6 : a 6 = vi (0 : Nat)) :
    ∃ x a' H', loopN (evS Try.prog call m nt none signedB) k a H = some (x, a', H') ∧ x = .exit 0 ∧ O B0 H' v (ints (l.map (- ·))) ∧ Old B0 H0 H' ∧ WF H' ∧ a' 5 = v := by
  refine loop_up l.length (fun i a H' => a 1 = .bool true ∧ a 5 = v ∧ a 6 = vi i ∧ O B0 H' v (ints (negI l i)) ∧ Old B0 H0 H' ∧ WF H') _ ?_ ?_ hk ⟨h1, h5, h6, by rw [negI_0]; exact ho, old, hw⟩
  · intro i a H' hi ⟨h1, h5, h6, ho, old, hw⟩
    left
    rw [show signedB = atC [1, 1, 0, 1, 0, 0] ((Try.f101.body).getD .skip) from rfl]
    have hlen := negI_len l i
    have hx := hb _ (getD_mem hi)
    have e1 := negI_get hi
    have e2 : IntKind.i64.wrap (0 - l.getD i 0) = - l.getD i 0 := by rw [wr64 (by omega) (by omega)]; omega
    obtain ⟨H2, es, o2, old2, wf2⟩ := ho.setI hw (i := i) (by omega) (- l.getD i 0)
    have e3 : IntKind.i64.wrap ((i : Int) + 1) = ((i + 1 : Nat) : Int) := by rw [wr64 (by omega) (by omega)]; omega
    have hr := ho.R
    have hlt : (i : Int) < l.length := by omega
    simp (disch := omega) only [Try.f101, Option.getD_some, atC, es_seq, es_region, es_cond, es_block, es_skip, ops_nil, ops_cons, ops_consG, st_move, st_assign, sy_pick, pickS_true, sy_len uL, sy_addr eL, sy_load aI, sy_store zI, sy_bin, sy_neg, binS_lss, binS_add, bindO_some, bindF_some, bindX_normal, blkX_normal, condX_true, iteB_true, ev_tmp, ev_const, putA, upd_at, Option.map_some, ↓reduceIte, Nat.reduceEqDiff, Int.toNat_natCast, decide_true, yieldO_eq, yO, yV_bool, List.getElem?_cons_zero, List.getElem?_cons_succ, beq_self_eq_true, ↓bindO_some, ↓bindF_some, ↓bindX_normal, ↓condX_true, ↓iteB_true, h1, h5, h6, hr.lenI, hlen, hlt, hr.addrI, hr.loadI, e1, e2, es, e3]
    exact ⟨_, _, rfl, by simp only [upd_get, ↓reduceIte, Nat.reduceEqDiff, h1], by simp only [upd_get, ↓reduceIte, Nat.reduceEqDiff, h5], by simp only [upd_get, ↓reduceIte], by rw [← negI_set hi]; exact o2, old.trans old2, wf2⟩
  · intro a H' ⟨h1, h5, h6, ho, old, hw⟩
    rw [show signedB = atC [1, 1, 0, 1, 0, 0] ((Try.f101.body).getD .skip) from rfl]
    have hlen := negI_len l l.length
    have hr := ho.R
    simp (disch := omega) only [Try.f101, Option.getD_some, atC, es_seq, es_region, es_cond, es_exit, ops_nil, ops_cons, ops_consG, st_move, sy_pick, pickS_false, sy_len uL, sy_bin, binS_lss, bindO_some, bindF_some, bindX_normal, bindX_exit, condX_false, iteB_false, ev_tmp, ev_const, putA, upd_at, Option.map_some, ↓reduceIte, Nat.reduceEqDiff, decide_false, yieldO_eq, yO, yV_bool, some_true, List.getElem?_cons_zero, List.getElem?_cons_succ, ↓bindO_some, ↓bindF_some, ↓bindX_normal, ↓bindX_exit, ↓condX_false, ↓iteB_false, h5, h6, hr.lenI, hlen, Int.lt_irrefl]
    exact ⟨_, _, _, rfl, by simp, rfl, by rw [← negI_all]; exact ho, old, hw, by simp only [upd_get, ↓reduceIte, Nat.reduceEqDiff, h5]⟩
theorem signed_loop0 {v : Value} (call : CallF) (m nt : Nat) {a : Fr} {H : Heap} {k : Nat} (hk : 0 < k) {l : List Int} (ho : R H v (ints l)) (hl : l.length ≤ 1000) (h1 : a 1 = .bool false) (h5 : a 5 = v) (h6 : a 6 = vi (0 : Nat)) :
    ∃ x a' H', loopN (evS Try.prog call m nt none signedB) k a H = some (x, a', H') ∧ x = .exit 0 ∧ H' = H ∧ a' 5 = v := by
  refine loop_up 0 (fun i a H' => a 1 = .bool false ∧ a 5 = v ∧ a 6 = vi (0 : Nat) ∧ H' = H) _ (fun i a H' hi => by omega) ?_ hk ⟨h1, h5, h6, rfl⟩
  intro a H' ⟨h1, h5, h6, hH⟩
  subst hH
  rw [show signedB = atC [1, 1, 0, 1, 0, 0] ((Try.f101.body).getD .skip) from rfl]
  by_cases hz : ((0 : Nat) : Int) < l.length
  · simp (disch := omega) only [Try.f101, Option.getD_some, atC, es_seq, es_region, es_cond, es_exit, ops_nil, ops_cons, ops_consG, st_move, sy_pick, pickS_true, sy_len uL, sy_bin, binS_lss, bindO_some, bindF_some, bindX_normal, bindX_exit, condX_false, iteB_true, ev_tmp, putA, upd_at, Option.map_some, ↓reduceIte, Nat.reduceEqDiff, decide_true, yieldO_eq, yO, yV_bool, List.getElem?_cons_zero, List.getElem?_cons_succ, beq_self_eq_true, ↓bindO_some, ↓bindF_some, ↓bindX_normal, ↓bindX_exit, ↓condX_false, ↓iteB_true, h1, h5, h6, ho.lenI, hz]
    exact ⟨_, _, _, rfl, by simp, rfl, rfl, by simp only [upd_get, ↓reduceIte, Nat.reduceEqDiff, h5]⟩
  · simp (disch := omega) only [Try.f101, Option.getD_some, atC, es_seq, es_region, es_cond, es_exit, ops_nil, ops_cons, ops_consG, st_move, sy_pick, pickS_false, sy_len uL, sy_bin, binS_lss, bindO_some, bindF_some, bindX_normal, bindX_exit, condX_false, iteB_false, ev_tmp, ev_const, putA, upd_at, Option.map_some, ↓reduceIte, Nat.reduceEqDiff, decide_false, yieldO_eq, yO, yV_bool, some_true, List.getElem?_cons_zero, List.getElem?_cons_succ, ↓bindO_some, ↓bindF_some, ↓bindX_normal, ↓bindX_exit, ↓condX_false, ↓iteB_false, h5, h6, ho.lenI, hz]
    exact ⟨_, _, _, rfl, by simp, rfl, rfl, by simp only [upd_get, ↓reduceIte, Nat.reduceEqDiff, h5]⟩
theorem signed_run {H : Heap} {v : Value} {l : List Int} (hw : WF H) (hv : R H v (ints l)) (hl : l.length ≤ 1000) (hb : ∀ x ∈ l, -4000000000000000000 ≤ x ∧ x ≤ 4000000000000000000) (neg : Bool) (n : Nat) (hn : 2001 ≤ n) :
    OneL H (evB Try.prog noC n (.func (.func 101) #[] #[]) [v, .bool neg] H) (bif neg then (trimL l).map (- ·) else trimL l) := by
  refine run_of (F := 2000) (Q := fun x => OneL H x (bif neg then (trimL l).map (- ·) else trimL l)) (fun n hn => ?_) n hn
  rw [body_runS Try.func101 rfl (ok_fn (by rfl) Try.func101 rfl) (Nat.le_of_ble_eq_true rfl) (D := D0) (by kernel_rfl)]
  obtain ⟨v1, H1, e1, o1, old1, wf1⟩ := trim_run hw hv hl n (by omega)
  have hl1 := trimL_len l
  have eb : signedB = atC [1, 1, 0, 1, 0, 0] ((Try.f101.body).getD .skip) := rfl
  cases neg with
  | true =>
    have key := fun (A : Fr) => signed_loop (evB Try.prog noC n) n Try.f101.ntmps (a := A) (k := n) (by omega) (by omega) (fun x hx => hb x (trimL_mem hx)) o1 old1 wf1
    rw [eb] at key
    simp only [Try.f101, Option.getD_some, atC] at key
    simp (disch := omega) only [Try.f101, es_seq, es_region, es_block, es_loop, es_ret, ops_nil, ops_cons, st_move, st_assign, st_fun, bindO_some, bindF_some, bindX_normal, ev_tmp, ev_const, ev_func, putA, upd_at, ↓reduceIte, Nat.reduceEqDiff, frOf_0, List.map_cons, List.map_nil, ↓bindO_some, ↓bindF_some, ↓bindX_normal, e1]
    generalize hA : upd _ 6 _ = A
    obtain ⟨x, a', H', e, hx, o2, old2, wf2, h5⟩ := key A (by subst hA; rfl) (by subst hA; rfl) (by subst hA; rfl)
    subst hx
    rw [e]
    simp (disch := omega) only [bindX_normal, blkX_exit, upd_at, Option.map_some, ↓reduceIte, ↓bindX_normal, fin_r, res_nil, res_tmp, pack_1, h5, o2.R.scal]
    exact ⟨_, _, rfl, o2, old2, wf2⟩
  | false =>
    have key := fun (A : Fr) => signed_loop0 (evB Try.prog noC n) n Try.f101.ntmps (a := A) (k := n) (by omega) o1.R (by omega)
    rw [eb] at key
    simp only [Try.f101, Option.getD_some, atC] at key
    simp (disch := omega) only [Try.f101, es_seq, es_region, es_block, es_loop, es_ret, ops_nil, ops_cons, st_move, st_assign, st_fun, bindO_some, bindF_some, bindX_normal, ev_tmp, ev_const, ev_func, putA, upd_at, ↓reduceIte, Nat.reduceEqDiff, frOf_0, List.map_cons, List.map_nil, ↓bindO_some, ↓bindF_some, ↓bindX_normal, e1]
    generalize hA : upd _ 6 _ = A
    obtain ⟨x, a', H', e, hx, hH, h5⟩ := key A (by subst hA; rfl) (by subst hA; rfl) (by subst hA; rfl)
    subst hx
    subst hH
    rw [e]
    simp (disch := omega) only [bindX_normal, blkX_exit, upd_at, Option.map_some, ↓reduceIte, ↓bindX_normal, fin_r, res_nil, res_tmp, pack_1, h5, o1.R.scal]
    exact ⟨_, _, rfl, o1, old1, wf1⟩
end Go.Proofs.Ytmmgdgmjkhcfaaa
namespace Go.Proofs.Ytmmgdgmjkhcfaaa
open Go Go.Abs Go.Num
set_option maxRecDepth 10000
attribute [local congr] bindO_congr bindF_congr bindX_congr condX_congr iteB_congr binS_congr pickS_congr eqB_congr nilS_congr clsW_congr maxS_congr minS_congr
def OneT (H : Heap) (r : Option (Value × Heap)) (f : Value → Value) (l : List Int) : Prop := ∃ v H', r = some (f v, H') ∧ O H.length H' v (ints l) ∧ Old H.length H H' ∧ WF H'
theorem within_runS (x lo hi : Int) (H : Heap) (n : Nat) (hn : 1 ≤ n) : evB Try.prog noC n (.func (.func 36) #[] #[]) [vi x, vi lo, vi hi] H = some (.bool (decide (lo ≤ x) && decide (x ≤ hi)), H) := by
  refine run_of (F := 0) (Q := fun r => r = some (.bool (decide (lo ≤ x) && decide (x ≤ hi)), H)) (fun n hn => ?_) n hn
  rw [body_runS Try.func36 rfl (ok_fn (by rfl) Try.func36 rfl) (Nat.le_of_ble_eq_true rfl) (D := D0) (by kernel_rfl)]
  by_cases h1 : lo ≤ x
  all_goals by_cases h2 : x ≤ hi
  all_goals simp (disch := omega) only [Try.f36, es_seq, es_region, es_ret, ops_nil, ops_cons, ops_consG, st_move, st_assign, sy_pick, pickS_true, pickS_false, sy_bin, binS_leq, binS_geq, bindO_some, bindF_some, bindX_normal, iteB_true, iteB_false, ev_tmp, ev_const, putA, upd_at, Option.map_some, ↓reduceIte, Nat.reduceEqDiff, frOf_0, frOf_1, frOf_2, decide_true, decide_false, yieldO_eq, yO, yV_bool, some_true, List.getElem?_cons_zero, List.getElem?_cons_succ, beq_self_eq_true, ↓bindO_some, ↓bindF_some, ↓bindX_normal, ↓iteB_true, ↓iteB_false, fin_r, res_nil, res_tmp, pack_1, scal_bool, h1, h2, Bool.and_self, Bool.and_false, Bool.and_true]
noncomputable def intA : Code := atC [1, 1, 0, 1, 0, 0] ((Try.f19.body).getD .skip)
theorem take_eq_succ {l m : List Int} {i : Nat} (h1 : i < l.length) (h2 : i < m.length) : l.take (i + 1) = m.take (i + 1) ↔ l.take i = m.take i ∧ l.getD i 0 = m.getD i 0 := by
  rw [take_snoc' h1, take_snoc' h2]
  constructor
  · intro h
    have := List.append_inj h (by rw [List.length_take, List.length_take]; omega)
    exact ⟨this.1, by simpa using this.2⟩
  · intro ⟨h3, h4⟩; rw [h3, h4]
theorem ints_run {H : Heap} {va vb : Value} {l m : List Int} (ha : R H va (ints l)) (hb : R H vb (ints m)) (ll : l.length ≤ 10000) (lm : m.length ≤ 10000) (n : Nat) (hn : 10002 ≤ n) :
    evB Try.prog noC n (.func (.func 19) #[] #[]) [va, vb] H = some (.bool (decide (l = m)), H) := by
  refine run_of (F := 10001) (Q := fun r => r = some (.bool (decide (l = m)), H)) (fun n hn => ?_) n hn
  rw [body_runS Try.func19 rfl (ok_fn (by rfl) Try.func19 rfl) (Nat.le_of_ble_eq_true rfl) (D := D0) (by kernel_rfl)]
  by_cases hl : l.length = m.length
  · have c1 : (l.length : Int) = (m.length : Int) := by omega
    have key : ∀ A : Fr, A 0 = va → A 1 = vb → A 5 = vi (0 : Nat) → ∃ r a' H', loopN (evS Try.prog (evB Try.prog noC n) n Try.f19.ntmps none intA) n A H = some (r, a', H') ∧ H' = H ∧ ((r = .exit 0 ∧ l = m) ∨ (r = .ret ∧ a' 4 = .bool false ∧ l ≠ m)) := by
      intro A h0 h1 h5
      refine loop_up l.length (fun i a H' => H' = H ∧ a 0 = va ∧ a 1 = vb ∧ a 5 = vi i ∧ l.take i = m.take i) _ ?_ ?_ (by omega) ⟨rfl, h0, h1, h5, rfl⟩
      · intro i a H' hi ⟨hH, h0, h1, h5, ht⟩
        subst hH
        rw [show intA = atC [1, 1, 0, 1, 0, 0] ((Try.f19.body).getD .skip) from rfl]
        have hlt : (i : Int) < l.length := by omega
        have e1 : IntKind.i64.wrap ((i : Int) + 1) = ((i + 1 : Nat) : Int) := by rw [wr64 (by omega) (by omega)]; omega
        by_cases he : l.getD i 0 = m.getD i 0
        · left
          simp (disch := omega) only [Try.f19, Option.getD_some, atC, es_seq, es_region, es_draw, d0, es_cond, es_block, es_skip, ops_nil, ops_cons, opsV_nil, opsV_cons, st_move, st_assign, sy_len uL, sy_addr eL, sy_load aI, sy_bin, binS_lss, binS_neq, binS_add, bindO_some, bindF_some, bindX_normal, blkX_normal, condX_true, condX_false, iteB_true, iteB_false, ev_tmp, ev_const, putA, upd_at, Option.map_some, ↓reduceIte, Nat.reduceEqDiff, Int.toNat_natCast, decide_true, Bool.not_true, ↓bindO_some, ↓bindF_some, ↓bindX_normal, ↓condX_true, ↓condX_false, ↓iteB_true, ↓iteB_false, reflV_load, reflV_move, reflV_bin, reflV_addr, vEq_vi, h0, h1, h5, ha.lenI, hlt, ha.addrI, ha.loadI, hb.addrI, hb.loadI, he, e1]
          exact ⟨_, _, rfl, rfl, h0, h1, rfl, (take_eq_succ hi (by omega)).2 ⟨ht, he⟩⟩
        · right
          simp (disch := omega) only [Try.f19, Option.getD_some, atC, es_seq, es_region, es_draw, d0, es_cond, es_block, es_skip, es_ret, ops_nil, ops_cons, opsV_nil, opsV_cons, st_move, st_assign, sy_len uL, sy_addr eL, sy_load aI, sy_bin, binS_lss, binS_neq, bindO_some, bindF_some, bindX_normal, bindX_ret, blkX_ret, condX_true, iteB_true, iteB_false, ev_tmp, ev_const, putA, upd_at, Option.map_some, ↓reduceIte, Nat.reduceEqDiff, Int.toNat_natCast, decide_true, decide_false, Bool.not_false, ↓bindO_some, ↓bindF_some, ↓bindX_normal, ↓bindX_ret, ↓condX_true, ↓iteB_true, ↓iteB_false, reflV_load, reflV_move, reflV_bin, reflV_addr, vEq_vi, h0, h1, h5, ha.lenI, hlt, ha.addrI, ha.loadI, hb.addrI, hb.loadI, he]
          refine ⟨_, _, _, rfl, by simp, rfl, .inr ⟨rfl, rfl, fun h => he (by rw [h])⟩⟩
      · intro a H' ⟨hH, h0, h1, h5, ht⟩
        subst hH
        rw [show intA = atC [1, 1, 0, 1, 0, 0] ((Try.f19.body).getD .skip) from rfl]
        simp (disch := omega) only [Try.f19, Option.getD_some, atC, es_seq, es_region, es_cond, es_exit, ops_nil, ops_cons, st_move, sy_len uL, sy_bin, binS_lss, bindO_some, bindF_some, bindX_normal, bindX_exit, condX_false, ev_tmp, putA, upd_at, Option.map_some, ↓reduceIte, Nat.reduceEqDiff, decide_false, ↓bindO_some, ↓bindF_some, ↓bindX_normal, ↓bindX_exit, ↓condX_false, h0, h5, ha.lenI, Int.lt_irrefl]
        rw [List.take_length, hl, List.take_length] at ht
        exact ⟨_, _, _, rfl, by simp, rfl, .inl ⟨rfl, ht⟩⟩
    rw [show intA = atC [1, 1, 0, 1, 0, 0] ((Try.f19.body).getD .skip) from rfl] at key
    simp only [Try.f19, Option.getD_some, atC] at key
    simp (disch := omega) only [Try.f19, es_seq, es_region, es_cond, es_block, es_loop, es_skip, es_ret, ops_nil, ops_cons, st_move, st_assign, sy_len uL, sy_bin, binS_neq, bindO_some, bindF_some, bindX_normal, condX_false, ev_tmp, ev_const, putA, upd_at, Option.map_some, ↓reduceIte, Nat.reduceEqDiff, frOf_0, frOf_1, decide_true, Bool.not_true, ↓bindO_some, ↓bindF_some, ↓bindX_normal, ↓condX_false, ha.lenI, hb.lenI, c1]
    generalize hA : upd _ 5 _ = A
    obtain ⟨r, a', H', e, hH, h⟩ := key A (by subst hA; rfl) (by subst hA; rfl) (by subst hA; rfl)
    subst hH
    rw [e]
    rcases h with ⟨rfl, rfl⟩ | ⟨rfl, h4, hne⟩
    · simp (disch := omega) only [bindX_normal, blkX_exit, upd_at, Option.map_some, ↓reduceIte, decide_true, ↓bindX_normal, fin_r, res_nil, res_tmp, pack_1, scal_bool]
    · rw [decide_eq_false hne]
      simp (disch := omega) only [bindX_ret, blkX_ret, Option.map_some, ↓bindX_ret, fin_r, res_nil, res_tmp, pack_1, scal_bool, h4]
  · have c1 : ¬ (l.length : Int) = (m.length : Int) := by omega
    rw [decide_eq_false (fun h => hl (by rw [h]))]
    simp (disch := omega) only [Try.f19, es_seq, es_region, es_cond, es_ret, ops_nil, ops_cons, st_move, st_assign, sy_len uL, sy_bin, binS_neq, bindO_some, bindF_some, bindX_normal, bindX_ret, condX_true, ev_tmp, ev_const, putA, upd_at, Option.map_some, ↓reduceIte, Nat.reduceEqDiff, frOf_0, frOf_1, decide_false, Bool.not_false, ↓bindO_some, ↓bindF_some, ↓bindX_normal, ↓bindX_ret, ↓condX_true, fin_r, res_nil, res_tmp, pack_1, scal_bool, ha.lenI, hb.lenI, c1]
theorem uLL : Try.prog.underlying 53 = some (.slice 22) := by kernel_rfl
theorem eLL : sliceElem Try.prog 53 = some (22, 1) := by kernel_rfl
end Go.Proofs.Ytmmgdgmjkhcfaaa
namespace Go.Proofs.Ytmmgdgmjkhcfaaa
open Go Go.Abs Go.Num
set_option maxRecDepth 10000
attribute [local congr] bindO_congr bindF_congr bindX_congr condX_congr iteB_congr binS_congr pickS_congr eqB_congr nilS_congr clsW_congr maxS_congr minS_congr
def Sm (l : List Int) : Prop := l.length ≤ 1000 ∧ ∀ x ∈ l, -1000000 ≤ x ∧ x ≤ 1000000
theorem Sm.getD {l : List Int} (h : Sm l) (i : Nat) : -1000000 ≤ l.getD i 0 ∧ l.getD i 0 ≤ 1000000 := by
  by_cases hi : i < l.length
  · exact h.2 _ (getD_mem hi)
  · rw [List.getD_eq_getElem?_getD, List.getElem?_eq_none (by omega)]; simp
theorem Sm.sum {l : List Int} (h : Sm l) (i : Nat) : -1000000000 ≤ (l.take i).sum ∧ (l.take i).sum ≤ 1000000000 := by
  have := sum_bd (b := 1000000) (by omega) fun x (hx : x ∈ l.take i) => h.2 x (List.mem_of_mem_take hx)
  have h2 : (l.take i).length ≤ 1000 := Nat.le_trans (List.length_take_le' ..) h.1
  omega
noncomputable def cszA : Code := atC [1, 1, 0, 1, 0, 0] ((Try.f60.body).getD .skip)
theorem csize_run {H : Heap} {v : Value} {l : List Int} (hv : R H v (ints l)) (hs : Sm l) (n : Nat) (hn : 1010 ≤ n) : evB Try.prog noC n (.func (.func 60) #[] #[]) [v] H = some (vi l.sum, H) := by
  refine run_of (F := 1009) (Q := fun r => r = some (vi l.sum, H)) (fun n hn => ?_) n hn
  rw [body_runS Try.func60 rfl (ok_fn (by rfl) Try.func60 rfl) (Nat.le_of_ble_eq_true rfl) (D := D0) (by kernel_rfl)]
  have hl := hs.1
  have key : ∀ A : Fr, A 3 = vi 0 → A 6 = v → A 7 = vi l.length → A 8 = vi (0 : Nat) → ∃ r a' H', loopN (evS Try.prog (evB Try.prog noC n) n Try.f60.ntmps none cszA) n A H = some (r, a', H') ∧ H' = H ∧ r = .exit 0 ∧ a' 3 = vi l.sum := by
    intro A h3 h6 h7 h8
    refine loop_up l.length (fun i a H' => H' = H ∧ a 3 = vi (l.take i).sum ∧ a 6 = v ∧ a 7 = vi l.length ∧ a 8 = vi i) _ ?_ ?_ (by omega) ⟨rfl, by rw [h3]; rfl, h6, h7, h8⟩
    · intro i a H' hi ⟨hH, h3, h6, h7, h8⟩
      subst hH
      left
      rw [show cszA = atC [1, 1, 0, 1, 0, 0] ((Try.f60.body).getD .skip) from rfl]
      have hlt : (i : Int) < l.length := by omega
      have e1 : IntKind.i64.wrap ((i : Int) + 1) = ((i + 1 : Nat) : Int) := by rw [wr64 (by omega) (by omega)]; omega
      have b1 := hs.sum i
      have b2 := hs.getD i
      have e2 : IntKind.i64.wrap ((l.take i).sum + l.getD i 0) = (l.take (i + 1)).sum := by rw [sum_take_succ hi]; exact wr64 (by omega) (by omega)
      simp (disch := omega) only [Try.f60, Option.getD_some, atC, es_seq, es_region, es_cond, es_block, es_skip, ops_nil, ops_cons, st_move, st_assign, sy_addr eL, sy_load aI, sy_bin, binS_lss, binS_add, bindO_some, bindF_some, bindX_normal, blkX_normal, condX_true, ev_tmp, ev_const, putA, upd_at, Option.map_some, ↓reduceIte, Nat.reduceEqDiff, Int.toNat_natCast, decide_true, ↓bindO_some, ↓bindF_some, ↓bindX_normal, ↓condX_true, h3, h6, h7, h8, hlt, hv.addrI, hv.loadI, e1, e2]
      exact ⟨_, _, rfl, rfl, rfl, h6, h7, rfl⟩
    · intro a H' ⟨hH, h3, h6, h7, h8⟩
      subst hH
      rw [show cszA = atC [1, 1, 0, 1, 0, 0] ((Try.f60.body).getD .skip) from rfl]
      simp (disch := omega) only [Try.f60, Option.getD_some, atC, es_seq, es_region, es_cond, es_exit, ops_nil, ops_cons, sy_bin, binS_lss, bindO_some, bindF_some, bindX_normal, bindX_exit, condX_false, ev_tmp, putA, upd_at, ↓reduceIte, decide_false, ↓bindO_some, ↓bindF_some, ↓bindX_normal, ↓bindX_exit, ↓condX_false, h7, h8, Int.lt_irrefl]
      rw [List.take_length] at h3
      exact ⟨_, _, _, rfl, by simp, rfl, rfl, h3⟩
  rw [show cszA = atC [1, 1, 0, 1, 0, 0] ((Try.f60.body).getD .skip) from rfl] at key
  simp only [Try.f60, Option.getD_some, atC] at key
  simp (disch := omega) only [Try.f60, es_seq, es_region, es_block, es_loop, es_ret, ops_nil, ops_cons, st_move, st_assign, sy_len uL, bindO_some, bindF_some, bindX_normal, ev_tmp, ev_const, putA, upd_at, Option.map_some, ↓reduceIte, Nat.reduceEqDiff, frOf_0, ↓bindO_some, ↓bindF_some, ↓bindX_normal, hv.lenI]
  generalize hA : upd _ 8 _ = A
  obtain ⟨r, a', H', e, hH, hr, h3⟩ := key A (by subst hA; rfl) (by subst hA; rfl) (by subst hA; rfl) (by subst hA; rfl)
  subst hr
  rw [e]
  subst hH
  simp (disch := omega) only [bindX_normal, blkX_exit, upd_at, Option.map_some, ↓reduceIte, ↓bindX_normal, fin_r, res_nil, res_tmp, pack_1, scal_vi, h3]
noncomputable def rszA : Code := atC [1, 1, 0, 1, 0, 0] ((Try.f17.body).getD .skip)
theorem rsize_run {H : Heap} {v : Value} {l : List Int} (hv : R H v (ints l)) (hs : Sm l) (n : Nat) (hn : 1010 ≤ n) : evB Try.prog noC n (.func (.func 17) #[] #[]) [v] H = some (vi l.sum, H) := by
  refine run_of (F := 1009) (Q := fun r => r = some (vi l.sum, H)) (fun n hn => ?_) n hn
  rw [body_runS Try.func17 rfl (ok_fn (by rfl) Try.func17 rfl) (Nat.le_of_ble_eq_true rfl) (D := D0) (by kernel_rfl)]
  have hl := hs.1
  have key : ∀ A : Fr, A 0 = v → A 3 = vi 0 → A 4 = vi (0 : Nat) → ∃ r a' H', loopN (evS Try.prog (evB Try.prog noC n) n Try.f17.ntmps none rszA) n A H = some (r, a', H') ∧ H' = H ∧ r = .exit 0 ∧ a' 3 = vi l.sum := by
    intro A h0 h3 h4
    refine loop_up l.length (fun i a H' => H' = H ∧ a 0 = v ∧ a 3 = vi (l.take i).sum ∧ a 4 = vi i) _ ?_ ?_ (by omega) ⟨rfl, h0, by rw [h3]; rfl, h4⟩
    · intro i a H' hi ⟨hH, h0, h3, h4⟩
      subst hH
      left
      rw [show rszA = atC [1, 1, 0, 1, 0, 0] ((Try.f17.body).getD .skip) from rfl]
      have hlt : (i : Int) < l.length := by omega
      have e1 : IntKind.i64.wrap ((i : Int) + 1) = ((i + 1 : Nat) : Int) := by rw [wr64 (by omega) (by omega)]; omega
      have b1 := hs.sum i
      have b2 := hs.getD i
      have e2 : IntKind.i64.wrap ((l.take i).sum + l.getD i 0) = (l.take (i + 1)).sum := by rw [sum_take_succ hi]; exact wr64 (by omega) (by omega)
      simp (disch := omega) only [Try.f17, Option.getD_some, atC, es_seq, es_region, es_cond, es_block, es_skip, ops_nil, ops_cons, st_move, st_assign, sy_len uL, sy_addr eL, sy_load aI, sy_bin, binS_lss, binS_add, bindO_some, bindF_some, bindX_normal, blkX_normal, condX_true, ev_tmp, ev_const, putA, upd_at, Option.map_some, ↓reduceIte, Nat.reduceEqDiff, Int.toNat_natCast, decide_true, ↓bindO_some, ↓bindF_some, ↓bindX_normal, ↓condX_true, h0, h3, h4, hlt, hv.lenI, hv.addrI, hv.loadI, e1, e2]
      exact ⟨_, _, rfl, rfl, h0, rfl, rfl⟩
    · intro a H' ⟨hH, h0, h3, h4⟩
      subst hH
      rw [show rszA = atC [1, 1, 0, 1, 0, 0] ((Try.f17.body).getD .skip) from rfl]
      simp (disch := omega) only [Try.f17, Option.getD_some, atC, es_seq, es_region, es_cond, es_exit, ops_nil, ops_cons, st_move, sy_len uL, sy_bin, binS_lss, bindO_some, bindF_some, bindX_normal, bindX_exit, condX_false, ev_tmp, putA, upd_at, Option.map_some, ↓reduceIte, Nat.reduceEqDiff, decide_false, ↓bindO_some, ↓bindF_some, ↓bindX_normal, ↓bindX_exit, ↓condX_false, h0, h4, hv.lenI, Int.lt_irrefl]
      rw [List.take_length] at h3
      exact ⟨_, _, _, rfl, by simp, rfl, rfl, h3⟩
  rw [show rszA = atC [1, 1, 0, 1, 0, 0] ((Try.f17.body).getD .skip) from rfl] at key
  simp only [Try.f17, Option.getD_some, atC] at key
  simp (disch := omega) only [Try.f17, es_seq, es_region, es_block, es_loop, es_ret, ops_nil, ops_cons, st_move, st_assign, bindO_some, bindF_some, bindX_normal, ev_tmp, ev_const, putA, upd_at, ↓reduceIte, ↓bindO_some, ↓bindF_some, ↓bindX_normal]
  generalize hA : upd _ 4 _ = A
  obtain ⟨r, a', H', e, hH, hr, h3⟩ := key A (by subst hA; rfl) (by subst hA; rfl) (by subst hA; rfl)
  subst hr
  rw [e]
  subst hH
  simp (disch := omega) only [bindX_normal, blkX_exit, upd_at, Option.map_some, ↓reduceIte, ↓bindX_normal, fin_r, res_nil, res_tmp, pack_1, scal_vi, h3]
theorem part_sm {l : List Int} (h1 : l.length ≤ 1000) (h : chkGo none l = none) : Sm l := ⟨h1, fun x hx => by have := chkGo_none h x hx; omega⟩
noncomputable def cckA : Code := atC [1, 1, 0, 1, 0, 0] ((Try.f44.body).getD .skip)
theorem ccheck_run {H : Heap} {v : Value} {l : List Int} (hv : R H v (ints l)) (hl : l.length ≤ 1000) (n : Nat) (hn : 1011 ≤ n) : evB Try.prog noC n (.func (.func 44) #[] #[]) [v] H = some (vi (chk l), H) := by
  refine run_of (F := 1010) (Q := fun r => r = some (vi (chk l), H)) (fun n hn => ?_) n hn
  rw [body_runS Try.func44 rfl (ok_fn (by rfl) Try.func44 rfl) (Nat.le_of_ble_eq_true rfl) (D := D0) (by kernel_rfl)]
  by_cases hbig : 20 < l.length
  · have c1 : (20 : Int) < (l.length : Int) := by omega
    rw [show chk l = 8 from if_pos hbig]
    simp (disch := omega) only [Try.f44, es_seq, es_region, es_cond, es_ret, ops_nil, ops_cons, st_move, st_assign, sy_len uL, sy_bin, binS_gtr, bindO_some, bindF_some, bindX_normal, bindX_ret, condX_true, ev_tmp, ev_const, putA, upd_at, Option.map_some, ↓reduceIte, Nat.reduceEqDiff, frOf_0, decide_true, ↓bindO_some, ↓bindF_some, ↓bindX_normal, ↓bindX_ret, ↓condX_true, fin_r, res_nil, res_tmp, pack_1, scal_vi, hv.lenI, c1]
  · have c1 : ¬ (20 : Int) < (l.length : Int) := by omega
    rw [show chk l = _ from if_neg hbig]
    have key : ∀ A : Fr, A 0 = v → A 8 = v → A 9 = vi l.length → A 10 = vi (0 : Nat) → ∃ r a' H', loopN (evS Try.prog (evB Try.prog noC n) n Try.f44.ntmps none cckA) n A H = some (r, a', H') ∧ H' = H ∧ ((r = .exit 0 ∧ a' 0 = v ∧ chkGo none l = none) ∨ ∃ e, r = .ret ∧ a' 2 = vi e ∧ chkGo none l = some e) := by
      intro A h0 h8 h9 h10
      refine loop_up l.length (fun i a H' => H' = H ∧ a 0 = v ∧ a 8 = v ∧ a 9 = vi l.length ∧ a 10 = vi i ∧ chkGo none l = chkGo (prv l i) (l.drop i)) _ ?_ ?_ (by omega) ⟨rfl, h0, h8, h9, h10, rfl⟩
      · intro i a H' hi ⟨hH, h0, h8, h9, h10, hg⟩
        subst hH
        rw [show cckA = atC [1, 1, 0, 1, 0, 0] ((Try.f44.body).getD .skip) from rfl]
        have hlt : (i : Int) < l.length := by omega
        have e1 : IntKind.i64.wrap ((i : Int) + 1) = ((i + 1 : Nat) : Int) := by rw [wr64 (by omega) (by omega)]; omega
        rw [chkGo_at hi] at hg
        by_cases hx1 : l.getD i 0 < 1
        · right
          rw [show bad (prv l i) (l.getD i 0) = some 2 from if_pos hx1] at hg
          simp (disch := omega) only [Try.f44, Option.getD_some, atC, es_seq, es_region, es_cond, es_block, es_skip, es_ret, ops_nil, ops_cons, ops_consG, st_move, st_assign, sy_pick, pickS_true, sy_addr eL, sy_load aI, sy_bin, binS_lss, bindO_some, bindF_some, bindX_normal, bindX_ret, blkX_ret, condX_true, iteB_false, ev_tmp, ev_const, putA, upd_at, Option.map_some, ↓reduceIte, Nat.reduceEqDiff, Int.toNat_natCast, decide_true, Bool.not_true, yieldO_eq, yO, yV_bool, some_false, List.getElem?_cons_zero, List.getElem?_cons_succ, ↓bindO_some, ↓bindF_some, ↓bindX_normal, ↓bindX_ret, ↓condX_true, ↓iteB_false, h8, h9, h10, hlt, hv.addrI, hv.loadI, hx1]
          exact ⟨_, _, _, rfl, by simp, rfl, .inr ⟨2, rfl, rfl, hg⟩⟩
        · by_cases hx2 : 20 < l.getD i 0
          · right
            rw [show bad (prv l i) (l.getD i 0) = some 2 from by unfold bad; rw [if_neg hx1, if_pos hx2]] at hg
            simp (disch := omega) only [Try.f44, Option.getD_some, atC, es_seq, es_region, es_cond, es_block, es_skip, es_ret, ops_nil, ops_cons, ops_consG, st_move, st_assign, sy_pick, pickS_false, sy_addr eL, sy_load aI, sy_bin, binS_lss, binS_gtr, bindO_some, bindF_some, bindX_normal, bindX_ret, blkX_ret, condX_true, iteB_true, ev_tmp, ev_const, putA, upd_at, Option.map_some, ↓reduceIte, Nat.reduceEqDiff, Int.toNat_natCast, decide_true, decide_false, yieldO_eq, yO, yV_bool, List.getElem?_cons_zero, List.getElem?_cons_succ, beq_self_eq_true, ↓bindO_some, ↓bindF_some, ↓bindX_normal, ↓bindX_ret, ↓condX_true, ↓iteB_true, h8, h9, h10, hlt, hv.addrI, hv.loadI, hx1, hx2]
            exact ⟨_, _, _, rfl, by simp, rfl, .inr ⟨2, rfl, rfl, hg⟩⟩
          · cases i with
            | zero =>
              left
              rw [show bad (prv l 0) (l.getD 0 0) = none from by unfold bad; rw [if_neg hx1, if_neg hx2]; rfl] at hg
              have c0 : decide ((0 : Int) < ((0 : Nat) : Int)) = false := rfl
              simp (disch := omega) only [Try.f44, Option.getD_some, atC, es_seq, es_region, es_cond, es_block, es_skip, ops_nil, ops_cons, ops_consG, st_move, st_assign, sy_pick, pickS_false, sy_addr eL, sy_load aI, sy_bin, binS_lss, binS_gtr, binS_add, bindO_some, bindF_some, bindX_normal, blkX_normal, condX_true, condX_false, iteB_true, iteB_false, ev_tmp, ev_const, putA, upd_at, Option.map_some, ↓reduceIte, Nat.reduceEqDiff, Nat.zero_add, Int.toNat_natCast, decide_true, decide_false, yieldO_eq, yO, yV_bool, some_true, List.getElem?_cons_zero, List.getElem?_cons_succ, beq_self_eq_true, ↓bindO_some, ↓bindF_some, ↓bindX_normal, ↓condX_true, ↓condX_false, ↓iteB_true, ↓iteB_false, h8, h9, h10, hlt, hv.addrI, hv.loadI, hx1, hx2, c0, e1]
              exact ⟨_, _, rfl, rfl, h0, h8, h9, rfl, hg⟩
            | succ j =>
              have c0 : (0 : Int) < ((j + 1 : Nat) : Int) := by omega
              have e2 : IntKind.i64.wrap (((j + 1 : Nat) : Int) - 1) = (j : Int) := by rw [wr64 (by omega) (by omega)]; omega
              by_cases hq : l.getD j 0 < l.getD (j + 1) 0
              · right
                rw [show bad (prv l (j + 1)) (l.getD (j + 1) 0) = some 9 from by unfold bad; rw [if_neg hx1, if_neg hx2]; exact if_pos hq] at hg
                simp (disch := omega) only [Try.f44, Option.getD_some, atC, es_seq, es_region, es_cond, es_block, es_skip, es_ret, ops_nil, ops_cons, ops_consG, st_move, st_assign, sy_pick, pickS_true, pickS_false, sy_addr eL, sy_load aI, sy_bin, binS_lss, binS_gtr, binS_sub, bindO_some, bindF_some, bindX_normal, bindX_ret, blkX_ret, condX_true, condX_false, iteB_true, ev_tmp, ev_const, putA, upd_at, Option.map_some, ↓reduceIte, Nat.reduceEqDiff, Int.toNat_natCast, decide_true, decide_false, yieldO_eq, yO, yV_bool, List.getElem?_cons_zero, List.getElem?_cons_succ, beq_self_eq_true, ↓bindO_some, ↓bindF_some, ↓bindX_normal, ↓bindX_ret, ↓condX_true, ↓condX_false, ↓iteB_true, h0, h8, h9, h10, hlt, hv.addrI, hv.loadI, hx1, hx2, c0, e2, hq]
                exact ⟨_, _, _, rfl, by simp, rfl, .inr ⟨9, rfl, rfl, hg⟩⟩
              · left
                rw [show bad (prv l (j + 1)) (l.getD (j + 1) 0) = none from by unfold bad; rw [if_neg hx1, if_neg hx2]; exact if_neg hq] at hg
                simp (disch := omega) only [Try.f44, Option.getD_some, atC, es_seq, es_region, es_cond, es_block, es_skip, ops_nil, ops_cons, ops_consG, st_move, st_assign, sy_pick, pickS_true, pickS_false, sy_addr eL, sy_load aI, sy_bin, binS_lss, binS_gtr, binS_add, binS_sub, bindO_some, bindF_some, bindX_normal, blkX_normal, condX_true, condX_false, iteB_true, ev_tmp, ev_const, putA, upd_at, Option.map_some, ↓reduceIte, Nat.reduceEqDiff, Int.toNat_natCast, decide_true, decide_false, yieldO_eq, yO, yV_bool, List.getElem?_cons_zero, List.getElem?_cons_succ, beq_self_eq_true, ↓bindO_some, ↓bindF_some, ↓bindX_normal, ↓condX_true, ↓condX_false, ↓iteB_true, h0, h8, h9, h10, hlt, hv.addrI, hv.loadI, hx1, hx2, c0, e2, hq, e1]
                exact ⟨_, _, rfl, rfl, h0, h8, h9, rfl, hg⟩
      · intro a H' ⟨hH, h0, h8, h9, h10, hg⟩
        subst hH
        rw [show cckA = atC [1, 1, 0, 1, 0, 0] ((Try.f44.body).getD .skip) from rfl]
        simp (disch := omega) only [Try.f44, Option.getD_some, atC, es_seq, es_region, es_cond, es_exit, ops_nil, ops_cons, sy_bin, binS_lss, bindO_some, bindF_some, bindX_normal, bindX_exit, condX_false, ev_tmp, putA, upd_at, ↓reduceIte, decide_false, ↓bindO_some, ↓bindF_some, ↓bindX_normal, ↓bindX_exit, ↓condX_false, h9, h10, Int.lt_irrefl]
        rw [List.drop_length] at hg
        exact ⟨_, _, _, rfl, by simp, rfl, .inl ⟨rfl, h0, hg⟩⟩
    rw [show cckA = atC [1, 1, 0, 1, 0, 0] ((Try.f44.body).getD .skip) from rfl] at key
    simp only [Try.f44, Option.getD_some, atC] at key
    simp (disch := omega) only [Try.f44, es_seq, es_region, es_cond, es_block, es_loop, es_skip, es_ret, ops_nil, ops_cons, st_move, st_assign, st_fun, sy_len uL, sy_bin, binS_gtr, bindO_some, bindF_some, bindX_normal, condX_false, ev_tmp, ev_const, ev_func, putA, upd_at, Option.map_some, ↓reduceIte, Nat.reduceEqDiff, frOf_0, List.map_cons, List.map_nil, decide_false, ↓bindO_some, ↓bindF_some, ↓bindX_normal, ↓condX_false, hv.lenI, c1]
    generalize hA : upd _ 10 _ = A
    obtain ⟨r, a', H', e, hH, h⟩ := key A (by subst hA; rfl) (by subst hA; rfl) (by subst hA; rfl) (by subst hA; rfl)
    rw [e]
    subst hH
    rcases h with ⟨rfl, h0, hg⟩ | ⟨e2, rfl, h2, hg⟩
    · rw [hg]
      have s1 := csize_run hv (part_sm hl hg) n (by omega)
      by_cases hb : 20 < l.sum
      · simp (disch := omega) only [binS_gtr, bindO_some, bindF_some, bindX_normal, bindX_ret, blkX_exit, condX_true, upd_at, Option.map_some, ↓reduceIte, decide_true, ↓bindO_some, ↓bindF_some, ↓bindX_normal, ↓bindX_ret, ↓condX_true, fin_r, res_nil, res_tmp, pack_1, scal_vi, h0, s1, hb]
      · simp (disch := omega) only [binS_gtr, bindO_some, bindF_some, bindX_normal, blkX_exit, condX_false, upd_at, Option.map_some, ↓reduceIte, decide_false, ↓bindO_some, ↓bindF_some, ↓bindX_normal, ↓condX_false, fin_r, res_nil, res_tmp, pack_1, scal_vi, h0, s1, hb]
    · rw [hg]
      simp (disch := omega) only [bindX_ret, blkX_ret, Option.map_some, ↓bindX_ret, fin_r, res_nil, res_tmp, pack_1, scal_vi, h2]
noncomputable def rckA : Code := atC [1, 1, 0, 1, 0, 0] ((Try.f16.body).getD .skip)
theorem rcheck_run {H : Heap} {v : Value} {l : List Int} (hv : R H v (ints l)) (hl : l.length ≤ 1000) (n : Nat) (hn : 1011 ≤ n) : evB Try.prog noC n (.func (.func 16) #[] #[]) [v] H = some (vi (chk l), H) := by
  refine run_of (F := 1010) (Q := fun r => r = some (vi (chk l), H)) (fun n hn => ?_) n hn
  rw [body_runS Try.func16 rfl (ok_fn (by rfl) Try.func16 rfl) (Nat.le_of_ble_eq_true rfl) (D := D0) (by kernel_rfl)]
  by_cases hbig : 20 < l.length
  · have c1 : (20 : Int) < (l.length : Int) := by omega
    rw [show chk l = 8 from if_pos hbig]
    simp (disch := omega) only [Try.f16, es_seq, es_region, es_cond, es_ret, ops_nil, ops_cons, st_move, st_assign, sy_len uL, sy_bin, binS_gtr, bindO_some, bindF_some, bindX_normal, bindX_ret, condX_true, ev_tmp, ev_const, putA, upd_at, Option.map_some, ↓reduceIte, Nat.reduceEqDiff, frOf_0, decide_true, ↓bindO_some, ↓bindF_some, ↓bindX_normal, ↓bindX_ret, ↓condX_true, fin_r, res_nil, res_tmp, pack_1, scal_vi, hv.lenI, c1]
  · have c1 : ¬ (20 : Int) < (l.length : Int) := by omega
    rw [show chk l = _ from if_neg hbig]
    have key : ∀ A : Fr, A 0 = v → A 3 = vi (0 : Nat) → ∃ r a' H', loopN (evS Try.prog (evB Try.prog noC n) n Try.f16.ntmps none rckA) n A H = some (r, a', H') ∧ H' = H ∧ ((r = .exit 0 ∧ a' 0 = v ∧ chkGo none l = none) ∨ ∃ e, r = .ret ∧ a' 2 = vi e ∧ chkGo none l = some e) := by
      intro A h0 h3
      refine loop_up l.length (fun i a H' => H' = H ∧ a 0 = v ∧ a 3 = vi i ∧ chkGo none l = chkGo (prv l i) (l.drop i)) _ ?_ ?_ (by omega) ⟨rfl, h0, h3, rfl⟩
      · intro i a H' hi ⟨hH, h0, h3, hg⟩
        subst hH
        rw [show rckA = atC [1, 1, 0, 1, 0, 0] ((Try.f16.body).getD .skip) from rfl]
        have hlt : (i : Int) < l.length := by omega
        have e1 : IntKind.i64.wrap ((i : Int) + 1) = ((i + 1 : Nat) : Int) := by rw [wr64 (by omega) (by omega)]; omega
        rw [chkGo_at hi] at hg
        have s0 := within_runS (l.getD i 0) 1 20 H' n (by omega)
        by_cases hx : l.getD i 0 < 1 ∨ 20 < l.getD i 0
        · right
          rw [show bad (prv l i) (l.getD i 0) = some 2 from by unfold bad; split; · rfl
                                                               · rw [if_pos (by omega)]] at hg
          rw [show (decide (1 ≤ l.getD i 0) && decide (l.getD i 0 ≤ 20)) = false from by rw [Bool.and_eq_false_iff]; exact hx.imp (fun h => decide_eq_false (by omega)) (fun h => decide_eq_false (by omega))] at s0
          simp (disch := omega) only [Try.f16, Option.getD_some, atC, es_seq, es_region, es_cond, es_block, es_skip, es_ret, ops_nil, ops_cons, st_move, st_assign, st_fun, sy_len uL, sy_addr eL, sy_load aI, sy_bin, st_not, binS_lss, bindO_some, bindF_some, bindX_normal, bindX_ret, blkX_ret, condX_true, ev_tmp, ev_const, ev_func, putA, upd_at, Option.map_some, ↓reduceIte, Nat.reduceEqDiff, Int.toNat_natCast, List.map_cons, List.map_nil, decide_true, Bool.not_false, ↓bindO_some, ↓bindF_some, ↓bindX_normal, ↓bindX_ret, ↓condX_true, h0, h3, hv.lenI, hlt, hv.addrI, hv.loadI, s0]
          exact ⟨_, _, _, rfl, by simp, rfl, .inr ⟨2, rfl, rfl, hg⟩⟩
        · have hx1 : ¬ l.getD i 0 < 1 := fun h => hx (.inl h)
          have hx2 : ¬ 20 < l.getD i 0 := fun h => hx (.inr h)
          rw [show (decide (1 ≤ l.getD i 0) && decide (l.getD i 0 ≤ 20)) = true from by rw [Bool.and_eq_true, decide_eq_true_eq, decide_eq_true_eq]; omega] at s0
          cases i with
          | zero =>
            left
            rw [show bad (prv l 0) (l.getD 0 0) = none from by unfold bad; rw [if_neg hx1, if_neg hx2]; rfl] at hg
            have c0 : decide ((0 : Int) < ((0 : Nat) : Int)) = false := rfl
            simp (disch := omega) only [Try.f16, Option.getD_some, atC, es_seq, es_region, es_draw, d0, es_cond, es_block, es_skip, ops_nil, ops_cons, opsV_nil, opsV_cons, opsV_consG, st_move, st_assign, sy_pick, pickS_false, st_fun, sy_len uL, sy_addr eL, sy_load aI, sy_bin, st_not, binS_lss, binS_gtr, binS_add, bindO_some, bindF_some, bindX_normal, blkX_normal, condX_true, condX_false, iteB_true, iteB_false, ev_tmp, ev_const, ev_func, putA, upd_at, Option.map_some, ↓reduceIte, Nat.reduceEqDiff, Nat.zero_add, Int.toNat_natCast, List.map_cons, List.map_nil, decide_true, Bool.not_true, yieldO_eq, yO, yV_bool, some_true, List.getElem?_cons_zero, List.getElem?_cons_succ, ↓bindO_some, ↓bindF_some, ↓bindX_normal, ↓condX_true, ↓condX_false, ↓iteB_true, ↓iteB_false, reflV_move, reflV_pick, reflV_bin, h0, h3, hv.lenI, hlt, hv.addrI, hv.loadI, s0, c0, e1]
            exact ⟨_, _, rfl, rfl, h0, rfl, hg⟩
          | succ j =>
            have c0 : (0 : Int) < ((j + 1 : Nat) : Int) := by omega
            have e2 : IntKind.i64.wrap (((j + 1 : Nat) : Int) - 1) = (j : Int) := by rw [wr64 (by omega) (by omega)]; omega
            by_cases hq : l.getD j 0 < l.getD (j + 1) 0
            · right
              rw [show bad (prv l (j + 1)) (l.getD (j + 1) 0) = some 9 from by unfold bad; rw [if_neg hx1, if_neg hx2]; exact if_pos hq] at hg
              simp (disch := omega) only [Try.f16, Option.getD_some, atC, es_seq, es_region, es_draw, d0, es_cond, es_block, es_skip, es_ret, ops_nil, ops_cons, opsV_nil, opsV_cons, opsV_consG, st_move, st_assign, sy_pick, pickS_true, st_fun, sy_len uL, sy_addr eL, sy_load aI, sy_bin, st_not, binS_lss, binS_gtr, binS_sub, bindO_some, bindF_some, bindX_normal, bindX_ret, blkX_ret, condX_true, condX_false, iteB_true, iteB_false, ev_tmp, ev_const, ev_func, putA, upd_at, Option.map_some, ↓reduceIte, Nat.reduceEqDiff, Int.toNat_natCast, List.map_cons, List.map_nil, decide_true, Bool.not_true, yieldO_eq, yO, yV_bool, List.getElem?_cons_zero, List.getElem?_cons_succ, beq_self_eq_true, ↓bindO_some, ↓bindF_some, ↓bindX_normal, ↓bindX_ret, ↓condX_true, ↓condX_false, ↓iteB_true, ↓iteB_false, reflV_load, reflV_move, reflV_pick, reflV_bin, reflV_addr, vEq_vi, h0, h3, hv.lenI, hlt, hv.addrI, hv.loadI, s0, c0, e2, hq]
              exact ⟨_, _, _, rfl, by simp, rfl, .inr ⟨9, rfl, rfl, hg⟩⟩
            · left
              rw [show bad (prv l (j + 1)) (l.getD (j + 1) 0) = none from by unfold bad; rw [if_neg hx1, if_neg hx2]; exact if_neg hq] at hg
              simp (disch := omega) only [Try.f16, Option.getD_some, atC, es_seq, es_region, es_draw, d0, es_cond, es_block, es_skip, ops_nil, ops_cons, opsV_nil, opsV_cons, opsV_consG, st_move, st_assign, sy_pick, pickS_true, st_fun, sy_len uL, sy_addr eL, sy_load aI, sy_bin, st_not, binS_lss, binS_gtr, binS_add, binS_sub, bindO_some, bindF_some, bindX_normal, blkX_normal, condX_true, condX_false, iteB_true, iteB_false, ev_tmp, ev_const, ev_func, putA, upd_at, Option.map_some, ↓reduceIte, Nat.reduceEqDiff, Int.toNat_natCast, List.map_cons, List.map_nil, decide_true, decide_false, Bool.not_true, yieldO_eq, yO, yV_bool, List.getElem?_cons_zero, List.getElem?_cons_succ, beq_self_eq_true, ↓bindO_some, ↓bindF_some, ↓bindX_normal, ↓condX_true, ↓condX_false, ↓iteB_true, ↓iteB_false, reflV_load, reflV_move, reflV_pick, reflV_bin, reflV_addr, vEq_vi, h0, h3, hv.lenI, hlt, hv.addrI, hv.loadI, s0, c0, e2, hq, e1]
              exact ⟨_, _, rfl, rfl, h0, rfl, hg⟩
      · intro a H' ⟨hH, h0, h3, hg⟩
        subst hH
        rw [show rckA = atC [1, 1, 0, 1, 0, 0] ((Try.f16.body).getD .skip) from rfl]
        simp (disch := omega) only [Try.f16, Option.getD_some, atC, es_seq, es_region, es_cond, es_exit, ops_nil, ops_cons, st_move, sy_len uL, sy_bin, binS_lss, bindO_some, bindF_some, bindX_normal, bindX_exit, condX_false, ev_tmp, putA, upd_at, Option.map_some, ↓reduceIte, Nat.reduceEqDiff, decide_false, ↓bindO_some, ↓bindF_some, ↓bindX_normal, ↓bindX_exit, ↓condX_false, h0, h3, hv.lenI, Int.lt_irrefl]
        rw [List.drop_length] at hg
        exact ⟨_, _, _, rfl, by simp, rfl, .inl ⟨rfl, h0, hg⟩⟩
    rw [show rckA = atC [1, 1, 0, 1, 0, 0] ((Try.f16.body).getD .skip) from rfl] at key
    simp only [Try.f16, Option.getD_some, atC] at key
    simp (disch := omega) only [Try.f16, es_seq, es_region, es_cond, es_block, es_loop, es_skip, es_ret, ops_nil, ops_cons, st_move, st_assign, st_fun, sy_len uL, sy_bin, binS_gtr, bindO_some, bindF_some, bindX_normal, condX_false, ev_tmp, ev_const, ev_func, putA, upd_at, Option.map_some, ↓reduceIte, Nat.reduceEqDiff, frOf_0, List.map_cons, List.map_nil, decide_false, ↓bindO_some, ↓bindF_some, ↓bindX_normal, ↓condX_false, hv.lenI, c1]
    generalize hA : upd _ 3 _ = A
    obtain ⟨r, a', H', e, hH, h⟩ := key A (by subst hA; rfl) (by subst hA; rfl)
    rw [e]
    subst hH
    rcases h with ⟨rfl, h0, hg⟩ | ⟨e2, rfl, h2, hg⟩
    · rw [hg]
      have s1 := rsize_run hv (part_sm hl hg) n (by omega)
      by_cases hb : 20 < l.sum
      · simp (disch := omega) only [binS_gtr, bindO_some, bindF_some, bindX_normal, bindX_ret, blkX_exit, condX_true, upd_at, Option.map_some, ↓reduceIte, decide_true, ↓bindO_some, ↓bindF_some, ↓bindX_normal, ↓bindX_ret, ↓condX_true, fin_r, res_nil, res_tmp, pack_1, scal_vi, h0, s1, hb]
      · simp (disch := omega) only [binS_gtr, bindO_some, bindF_some, bindX_normal, blkX_exit, condX_false, upd_at, Option.map_some, ↓reduceIte, decide_false, ↓bindO_some, ↓bindF_some, ↓bindX_normal, ↓condX_false, fin_r, res_nil, res_tmp, pack_1, scal_vi, h0, s1, hb]
    · rw [hg]
      simp (disch := omega) only [bindX_ret, blkX_ret, Option.map_some, ↓bindX_ret, fin_r, res_nil, res_tmp, pack_1, scal_vi, h2]
theorem long_run {H : Heap} {v : Value} {l : List Int} (hv : R H v (ints l)) (n : Nat) (hn : 1 ≤ n) : evB Try.prog noC n (.func (.func 14) #[] #[]) [v] H = some (.bool (decide (40 < (l.length : Int))), H) := by
  refine run_of (F := 0) (Q := fun r => r = some (.bool (decide (40 < (l.length : Int))), H)) (fun n hn => ?_) n hn
  rw [body_runS Try.func14 rfl (ok_fn (by rfl) Try.func14 rfl) (Nat.le_of_ble_eq_true rfl) (D := D0) (by kernel_rfl)]
  simp (disch := omega) only [Try.f14, es_seq, es_region, es_ret, ops_nil, ops_cons, st_move, st_assign, sy_len uL, sy_bin, binS_gtr, bindO_some, bindF_some, bindX_normal, ev_tmp, ev_const, putA, upd_at, Option.map_some, ↓reduceIte, Nat.reduceEqDiff, frOf_0, ↓bindO_some, ↓bindF_some, ↓bindX_normal, fin_r, res_nil, res_tmp, pack_1, scal_bool, hv.lenI]
end Go.Proofs.Ytmmgdgmjkhcfaaa
namespace Go.Proofs.Ytmmgdgmjkhcfaaa
open Go Go.Abs Go.Num
set_option maxRecDepth 10000
attribute [local congr] bindO_congr bindF_congr bindX_congr condX_congr iteB_congr binS_congr pickS_congr eqB_congr nilS_congr
theorem eY : sliceElem Try.prog 115 = some (5, 1) := by kernel_rfl
theorem pY : ((bytesT Try.prog 5).isSome && decide ((bytesT Try.prog 5).getD 0 ≤ maxA) && (zeros Try.prog 5 1 1).isSome) = true := by kernel_rfl
theorem oY : zeros Try.prog 5 1 1 = some [.int .u8 0] := by kernel_rfl
theorem nY : zeros Try.prog 5 1 0 = some [] := by kernel_rfl
theorem uY : Try.prog.underlying 5 = some (.int .u8) := by kernel_rfl
theorem uYs : Try.prog.underlying 115 = some (.slice 5) := by kernel_rfl
theorem uSt : Try.prog.underlying 9 = some .string := by kernel_rfl
def vb (x : Int) : Value := .int .u8 x
def byts (l : List Int) : List Value := l.map vb
theorem scal_vb {x : Int} : scal (vb x) = some [vb x] := (rfl)
theorem scal_str {x : ByteArray} : scal (.string x) = some [.string x] := (rfl)
theorem scal_vb0 : scal (.int .u8 0) = some [vb 0] := (rfl)
noncomputable def cvS (s e : TypeId) (v : Value) (H : Heap) : Option Value := match textA Try.prog s e v H with
  | some t => some t
  | none => if plain v then (match (pureVal Try.prog (do let x ← convert s e v; pure (Next.value x))).bind valOf with
    | some u => if plain u then some u else none
    | none => none) else none
theorem sy_conv {call : CallF} {a : Fr} {H : Heap} {d : Option Nat} {ty : TypeId} {pos : String} {aft : Array Edge} {g : Option (Nat × Bool)} {s e : TypeId} {x : Operand} : stepA Try.prog call a ⟨d, .convert s e x, ty, pos, aft, g⟩ H = (cvS s e (ev a x) H).map (·, H) := by
  show aexec Try.prog a ⟨d, .convert s e x, ty, pos, aft, g⟩ H = _
  simp only [aexec]
  unfold cvS
  cases textA Try.prog s e (ev a x) H with
  | some t => rfl
  | none =>
    show (plainA Try.prog a _).map _ = _
    unfold plainA
    by_cases h : plain (ev a x) = true
    · rw [if_pos (by simp [Op.operands, h]), if_pos h]
      rfl
    · rw [if_neg (by simp [Op.operands, h]), if_neg h]
theorem cv_u8 {H : Heap} {x : Int} (h0 : 0 ≤ x) (h1 : x < 256) : cvS 3 5 (vi x) H = some (vb x) := by
  have e : pureVal Try.prog (do let y ← convert 3 5 (vi x); pure (Next.value y)) = some (Next.value (.int .u8 (IntKind.u8.wrap x))) := by kernel_rfl
  have w : IntKind.u8.wrap x = x := by
    have : IntKind.u8.wrap x = x % 256 := by rfl
    rw [this]; omega
  unfold cvS
  rw [show textA Try.prog 3 5 (vi x) H = none from rfl, e, w]
  rfl
def txt (l : List Int) : ByteArray := ⟨(l.map fun x => UInt8.ofNat x.toNat).toArray⟩
theorem bytes_from : ∀ (l : List Int) (s : ByteArray), bytesFrom s (byts l) = some ⟨s.data ++ (l.map fun x => UInt8.ofNat x.toNat).toArray⟩ := by
  intro l
  induction l with
  | nil => intro s; simp [byts, bytesFrom]
  | cons x l ih =>
    intro s
    show bytesFrom (s.push (UInt8.ofNat x.toNat)) (byts l) = _
    rw [ih]
    congr 1
    cases s
    simp [ByteArray.push]
theorem cv_text {H : Heap} {v : Value} {l : List Int} (hv : R H v (byts l)) : cvS 115 9 v H = some (.string (txt l)) := by
  obtain ⟨hr, p, c, e⟩ := hv.read
  have : textA Try.prog 115 9 v H = some (.string (txt l)) := by
    unfold textA
    rw [e] at hr ⊢
    simp only [uYs, uSt, uY, hr, bytes_from, Option.map_some]
    unfold txt
    simp
  unfold cvS
  rw [this]
theorem u8_inj : ∀ (l m : List Int), (∀ x ∈ l, 0 ≤ x ∧ x < 256) → (∀ x ∈ m, 0 ≤ x ∧ x < 256) → l.map (fun x => UInt8.ofNat x.toNat) = m.map (fun x => UInt8.ofNat x.toNat) → l = m := by
  intro l
  induction l with
  | nil =>
    intro m _ _ h
    cases m with
    | nil => rfl
    | cons y m => simp at h
  | cons x l ih =>
    intro m hl hm h
    cases m with
    | nil => simp at h
    | cons y m =>
      simp only [List.map_cons, List.cons.injEq] at h
      have hx := hl x (by simp)
      have hy := hm y (by simp)
      have e : x = y := by
        have := congrArg UInt8.toNat h.1
        simp only [UInt8.toNat_ofNat'] at this
        omega
      rw [e, ih m (fun z hz => hl z (by simp [hz])) (fun z hz => hm z (by simp [hz])) h.2]
theorem txt_inj {l m : List Int} (hl : ∀ x ∈ l, 0 ≤ x ∧ x < 256) (hm : ∀ x ∈ m, 0 ≤ x ∧ x < 256) (h : txt l = txt m) : l = m := by
  unfold txt at h
  have h := congrArg (fun x => x.data.toList) h
  exact u8_inj l m hl hm h
noncomputable def kyA : Code := atC [1, 1, 0, 1, 0, 0] ((Try.f100.body).getD .skip)
noncomputable def kyB : Code := atC [1, 1, 1, 1, 0, 1, 0, 0] ((Try.f100.body).getD .skip)
theorem byts_len (l : List Int) : (byts l).length = l.length := by unfold byts; simp
theorem byts_app (l m : List Int) : byts (l ++ m) = byts l ++ byts m := by unfold byts; simp
theorem take_snoc {l : List Int} {i : Nat} (h : i < l.length) : l.take (i + 1) = l.take i ++ [l.getD i 0] := by
  rw [List.take_succ_eq_append_getElem h, List.getD_eq_getElem?_getD, List.getElem?_eq_getElem h]; rfl
theorem ky_a {H0 H1 : Heap} {v vo : Value} {l : List Int} (hv : R H1 v (ints l)) (hl : l.length ≤ 100) (hr : ∀ x ∈ l, 0 ≤ x ∧ x < 256) (hw1 : WF H1) (old1 : Old H0.length H0 H1) (ho1 : O H0.length H1 vo (byts [])) (call : CallF) (m nt : Nat) {a0 : Fr} {k : Nat} (hk : l.length < k) (h5 : a0 5 = vo) (h11 : a0 11 = v) (h12 : a0 12 = vi l.length) (h13 : a0 13 = vi (0 : Nat)) (hvo : ∀ H2, Old H0.length H0 H2 → R H2 v (ints l)) :
    ∃ r a' H', loopN (evS Try.prog call m nt none kyA) k a0 H1 = some (r, a', H') ∧ r = .exit 0 ∧ a' 1 = a0 1 ∧ ∃ w, a' 5 = w ∧ O H0.length H' w (byts l) ∧ Old H0.length H0 H' ∧ WF H' := by
  refine loop_up l.length (fun i a H' => a 1 = a0 1 ∧ a 11 = v ∧ a 12 = vi l.length ∧ a 13 = vi i ∧ Old H0.length H0 H' ∧ WF H' ∧ ∃ w, a 5 = w ∧ O H0.length H' w (byts (l.take i))) _ ?_ ?_ hk ⟨rfl, h11, h12, h13, old1, hw1, _, h5, ho1⟩
  · intro i a H' hi ⟨h1, h11, h12, h13, old, hw, w, h5, ho⟩
    left
    rw [show kyA = atC [1, 1, 0, 1, 0, 0] ((Try.f100.body).getD .skip) from rfl]
    have hv' := hvo _ old
    have c1 : (i : Int) < (l.length : Int) := by omega
    have hx := hr (l.getD i 0) (by rw [List.getD_eq_getElem?_getD, List.getElem?_eq_getElem hi]; exact List.getElem_mem hi)
    have a1 : addrS 1 v (vi (i : Int)) = some (pt v i) := by have := hv'.addrI (i := (i : Int)) (by omega) (by omega); rwa [Int.toNat_natCast] at this
    have l1 : loadS (pt v i) H' = some (vi (l.getD i 0)) := hv'.loadI (by omega)
    have e1 : IntKind.i64.wrap ((i : Int) + 1) = ((i + 1 : Nat) : Int) := by rw [wr64 (by omega) (by omega)]; omega
    obtain ⟨w2, H2, s2, o2, old2, wf2⟩ := ho.push hw old.1 (by rw [byts_len, List.length_take]; unfold maxA; omega) (vb (l.getD i 0))
    have b1 : cvS 3 5 (vi (l.getD i 0)) H' = some (vb (l.getD i 0)) := cv_u8 hx.1 hx.2
    simp (disch := omega) only [Try.f100, Option.getD_some, atC, es_seq, es_region, es_cond, es_block, es_skip, ops_nil, ops_cons, st_move, st_assign, sy_addr eL, sy_load aI, sy_bin, binS_lss, binS_add, bindO_some, bindF_some, bindX_normal, blkX_normal, condX_true, ev_tmp, ev_const, putA, upd_at, Option.map_some, ↓reduceIte, Nat.reduceEqDiff, decide_true, ↓bindO_some, ↓bindF_some, ↓bindX_normal, ↓condX_true, sy_conv, sy_build1 eY oY, sy_append eY pY, b1, scal_vb, h11, h12, h13, h5, c1, a1, l1, s2, e1]
    exact ⟨_, _, rfl, h1, h11, h12, rfl, old.trans old2, wf2, _, rfl, by rw [take_snoc hi, byts_app]; exact o2⟩
  · intro a H' ⟨h1, h11, h12, h13, old, hw, w, h5, ho⟩
    rw [show kyA = atC [1, 1, 0, 1, 0, 0] ((Try.f100.body).getD .skip) from rfl]
    simp (disch := omega) only [Try.f100, Option.getD_some, atC, es_seq, es_region, es_cond, es_exit, ops_nil, ops_cons, sy_bin, binS_lss, bindO_some, bindF_some, bindX_normal, bindX_exit, condX_false, ev_tmp, putA, upd_at, ↓reduceIte, decide_false, ↓bindO_some, ↓bindF_some, ↓bindX_normal, ↓bindX_exit, ↓condX_false, h12, h13, Int.lt_irrefl]
    exact ⟨_, _, _, rfl, by simp, rfl, h1, w, h5, by rw [List.take_length] at ho; exact ho, old, hw⟩
theorem ky_b {H0 H1 : Heap} {v vo : Value} {pre l : List Int} (hl : l.length ≤ 100) (hpre : pre.length ≤ 1000) (hr : ∀ x ∈ l, 0 ≤ x ∧ x < 256) (hw1 : WF H1) (old1 : Old H0.length H0 H1) (ho1 : O H0.length H1 vo (byts pre)) (call : CallF) (m nt : Nat) {a0 : Fr} {k : Nat} (hk : l.length < k) (h5 : a0 5 = vo) (h11 : a0 26 = v) (h12 : a0 27 = vi l.length) (h13 : a0 28 = vi (0 : Nat)) (hvo : ∀ H2, Old H0.length H0 H2 → R H2 v (ints l)) :
    ∃ r a' H', loopN (evS Try.prog call m nt none kyB) k a0 H1 = some (r, a', H') ∧ r = .exit 2 ∧ ∃ w, a' 5 = w ∧ O H0.length H' w (byts (pre ++ l)) ∧ Old H0.length H0 H' ∧ WF H' := by
  refine loop_up l.length (fun i a H' => a 26 = v ∧ a 27 = vi l.length ∧ a 28 = vi i ∧ Old H0.length H0 H' ∧ WF H' ∧ ∃ w, a 5 = w ∧ O H0.length H' w (byts (pre ++ l.take i))) _ ?_ ?_ hk ⟨h11, h12, h13, old1, hw1, _, h5, by simpa using ho1⟩
  · intro i a H' hi ⟨h11, h12, h13, old, hw, w, h5, ho⟩
    left
    rw [show kyB = atC [1, 1, 1, 1, 0, 1, 0, 0] ((Try.f100.body).getD .skip) from rfl]
    have hv' := hvo _ old
    have c1 : (i : Int) < (l.length : Int) := by omega
    have hx := hr (l.getD i 0) (by rw [List.getD_eq_getElem?_getD, List.getElem?_eq_getElem hi]; exact List.getElem_mem hi)
    have a1 : addrS 1 v (vi (i : Int)) = some (pt v i) := by have := hv'.addrI (i := (i : Int)) (by omega) (by omega); rwa [Int.toNat_natCast] at this
    have l1 : loadS (pt v i) H' = some (vi (l.getD i 0)) := hv'.loadI (by omega)
    have e1 : IntKind.i64.wrap ((i : Int) + 1) = ((i + 1 : Nat) : Int) := by rw [wr64 (by omega) (by omega)]; omega
    obtain ⟨w2, H2, s2, o2, old2, wf2⟩ := ho.push hw old.1 (by rw [byts_len, List.length_append, List.length_take]; unfold maxA; omega) (vb (l.getD i 0))
    have b1 : cvS 3 5 (vi (l.getD i 0)) H' = some (vb (l.getD i 0)) := cv_u8 hx.1 hx.2
    simp (disch := omega) only [Try.f100, Option.getD_some, atC, es_seq, es_region, es_cond, es_block, es_skip, ops_nil, ops_cons, st_move, st_assign, sy_addr eL, sy_load aI, sy_bin, binS_lss, binS_add, bindO_some, bindF_some, bindX_normal, blkX_normal, condX_true, ev_tmp, ev_const, putA, upd_at, Option.map_some, ↓reduceIte, Nat.reduceEqDiff, decide_true, ↓bindO_some, ↓bindF_some, ↓bindX_normal, ↓condX_true, sy_conv, sy_build1 eY oY, sy_append eY pY, b1, scal_vb, h11, h12, h13, h5, c1, a1, l1, s2, e1]
    exact ⟨_, _, rfl, h11, h12, rfl, old.trans old2, wf2, _, rfl, by rw [take_snoc hi, ← List.append_assoc, byts_app]; exact o2⟩
  · intro a H' ⟨h11, h12, h13, old, hw, w, h5, ho⟩
    rw [show kyB = atC [1, 1, 1, 1, 0, 1, 0, 0] ((Try.f100.body).getD .skip) from rfl]
    simp (disch := omega) only [Try.f100, Option.getD_some, atC, es_seq, es_region, es_cond, es_exit, ops_nil, ops_cons, sy_bin, binS_lss, bindO_some, bindF_some, bindX_normal, bindX_exit, condX_false, ev_tmp, putA, upd_at, ↓reduceIte, decide_false, ↓bindO_some, ↓bindF_some, ↓bindX_normal, ↓bindX_exit, ↓condX_false, h12, h13, Int.lt_irrefl]
    exact ⟨_, _, _, rfl, by simp, rfl, w, h5, by rw [List.take_length] at ho; exact ho, old, hw⟩
theorem key_run {H : Heap} {v u : Value} {l c : List Int} (hw : WF H) (hv : R H v (ints l)) (hu : R H u (ints c)) (hl : l.length ≤ 100) (hc : c.length ≤ 100) (hlm : ∀ x ∈ l, 0 ≤ x ∧ x < 256) (hcm : ∀ x ∈ c, 0 ≤ x ∧ x < 256) (n : Nat) (hn : 1010 ≤ n) :
    ∃ H', evB Try.prog noC n (.func (.func 100) #[] #[]) [v, u] H = some (.string (txt (keyL l c)), H') ∧ Old H.length H H' ∧ WF H' := by
  refine run_of (F := 1009) (Q := fun q => ∃ H', q = some (.string (txt (keyL l c)), H') ∧ Old H.length H H' ∧ WF H') (fun n hn => ?_) n hn
  rw [body_runS Try.func100 rfl (ok_fn (by rfl) Try.func100 rfl) (Nat.le_of_ble_eq_true rfl) (D := D0) (by kernel_rfl)]
  have ob := O.empty (B := H.length) (H := H) (Nat.le_refl _)
  have old1 := Old.app H [.cells H.length true []]
  have wf1 := hw.app (Nat.le_refl H.length) (o := true) (cs := [])
  have key1 := fun (A : Fr) => ky_a (v := v) (l := l) (hv.mono old1) hl hlm wf1 old1 ob (evB Try.prog noC n) n Try.f100.ntmps (a0 := A) (k := n) (by omega)
  rw [show kyA = atC [1, 1, 0, 1, 0, 0] ((Try.f100.body).getD .skip) from rfl] at key1
  simp only [Try.f100, Option.getD_some, atC] at key1
  have hlen := hv.lenI
  have hlenc := hu.lenI
  simp (disch := omega) only [Try.f100, es_seq, es_region, es_block, es_loop, es_ret, ops_nil, ops_cons, st_move, st_assign, sy_len uL, bindO_some, bindF_some, bindX_normal, ev_tmp, ev_const, putA, upd_at, Option.map_some, ↓reduceIte, Nat.reduceEqDiff, frOf_0, ↓bindO_some, ↓bindF_some, ↓bindX_normal, sy_conv, sy_build0 eY nY, hv.lenI]
  generalize hA : upd _ 13 _ = A
  obtain ⟨r, a', H2, s, rfl, g1, w, h5, o2, old2, wf2⟩ := key1 A (by subst hA; rfl) (by subst hA; rfl) (by subst hA; rfl) (by subst hA; rfl) (fun H2 h => hv.mono h)
  have g1 : a' 1 = u := by rw [g1]; subst hA; rfl
  have hu2 := hu.mono old2
  obtain ⟨w3, H3, s3, o3, old3, wf3⟩ := o2.push wf2 old2.1 (by rw [byts_len]; unfold maxA; omega) (vb 0)
  have key2 := fun (A : Fr) => ky_b (v := u) (l := c) (pre := l ++ [0]) hc (by simp; omega) hcm wf3 (old2.trans old3) (by rw [byts_app]; exact o3) (evB Try.prog noC n) n Try.f100.ntmps (a0 := A) (k := n) (by omega)
  rw [show kyB = atC [1, 1, 1, 1, 0, 1, 0, 0] ((Try.f100.body).getD .skip) from rfl] at key2
  simp only [Try.f100, Option.getD_some, atC] at key2
  simp (disch := omega) only [s, bindO_some, bindF_some, bindX_normal, blkX_exit, ev_tmp, ev_const, upd_at, Option.map_some, ↓reduceIte, Nat.reduceEqDiff, ↓bindO_some, ↓bindF_some, ↓bindX_normal, sy_build1 eY oY, sy_append eY pY, scal_vb0, s3, g1, h5, (hu.mono (old2.trans old3)).lenI]
  generalize hA2 : upd _ 28 _ = A2
  obtain ⟨r2, a2, H4, s4, rfl, w4, h54, o4, old4, wf4⟩ := key2 A2 (by subst hA2; rfl) (by subst hA2; rfl) (by subst hA2; rfl) (by subst hA2; rfl) (fun H2 h => hu.mono h)
  have t4 := cv_text o4.R
  simp (disch := omega) only [s4, bindO_some, bindF_some, bindX_normal, blkX_exit, upd_at, Option.map_some, ↓reduceIte, ↓bindO_some, ↓bindF_some, ↓bindX_normal, fin_r, res_nil, res_tmp, pack_1, h54, t4, scal_str]
  exact ⟨_, by rw [show (l ++ [0]) ++ c = keyL l c by simp [keyL]], old4, wf4⟩
end Go.Proofs.Ytmmgdgmjkhcfaaa
namespace Go.Proofs.Ytmmgdgmjkhcfaaa
open Go Go.Abs Go.Num
set_option maxRecDepth 10000
attribute [local congr] bindO_congr bindF_congr bindX_congr condX_congr iteB_congr binS_congr pickS_congr eqB_congr nilS_congr clsW_congr maxS_congr minS_congr
theorem Part.head {l : List Int} (hp : Part l) : 0 ≤ l.getD 0 0 ∧ l.getD 0 0 ≤ 1000 := by
  by_cases h : 0 < l.length
  · have := hp.getD h; omega
  · rw [List.getD_eq_getElem?_getD, List.getElem?_eq_none (by omega)]; simp
theorem map_range_succ {α : Type} (f : Nat → α) (i : Nat) : (List.range (i + 1)).map f = (List.range i).map f ++ [f i] := by rw [List.range_succ, List.map_append]; rfl
end Go.Proofs.Ytmmgdgmjkhcfaaa
namespace Go.Proofs.Ytmmgdgmjkhcfaaa
open Go Go.Abs Go.Num
set_option maxRecDepth 10000
attribute [local congr] bindO_congr bindF_congr bindX_congr condX_congr iteB_congr binS_congr pickS_congr
noncomputable def normA : Code := atC [1, 1, 1, 0, 1, 0, 0] ((Try.f80.body).getD .skip)
noncomputable def normB : Code := atC [1, 1, 1, 1, 0, 0, 0] ((Try.f80.body).getD .skip)
noncomputable def normC : Code := atC [1, 1, 1, 1, 1, 1, 1, 1, 0, 1, 0, 0] ((Try.f80.body).getD .skip)
theorem norm_loop1 {H0 : Heap} {v : Value} {l : List Int} (hw0 : WF H0) (hv : R H0 v (ints l)) (hl : l.length ≤ 900) (hb : ∀ x ∈ l, -4000000000000000000 ≤ x ∧ x ≤ 4000000000000000000) (n m nt : Nat) (hn : 10 ≤ n) {a : Fr} {k : Nat} (hk : l.length < k)
    (h0 : a 0 = v) (h3 : a 3 = .slice none 0 0) (h4 : a 4 = vi 0) (h5 : a 5 = vi (0 : Nat)) :
    ∃ x a' H', loopN (evS Try.prog (evB Try.prog noC n) m nt none normA) k a H0 = some (x, a', H') ∧ x = .exit 0 ∧ ∃ vo out c, a' 3 = vo ∧ a' 4 = vi c ∧ O H0.length H' vo (ints out) ∧ Old H0.length H0 H' ∧ WF H' ∧ out.length = l.length ∧ Dg out ∧ val out + B ^ out.length * c = val l ∧ -100000000000 ≤ c ∧ c ≤ 100000000000 := by
  refine loop_up l.length (fun i a H' => a 0 = v ∧ a 5 = vi i ∧ ∃ vo out c, a 3 = vo ∧ a 4 = vi c ∧ O H0.length H' vo (ints out) ∧ Old H0.length H0 H' ∧ WF H' ∧ out.length = i ∧ Dg out ∧ val out + B ^ i * c = val (l.take i) ∧ -100000000000 ≤ c ∧ c ≤ 100000000000) _ ?_ ?_ hk
    ⟨h0, h5, _, [], 0, h3, h4, O.nil _ _, Old.refl _ _, hw0, rfl, Dg.nil, by simp [val], by omega, by omega⟩
  · intro i a H' hi ⟨h0, h5, vo, out, c, h3, h4, ho, old, hw, hol, hd, hval, hc1, hc2⟩
    left
    rw [show normA = atC [1, 1, 1, 0, 1, 0, 0] ((Try.f80.body).getD .skip) from rfl]
    have hx := hb _ (getD_mem hi)
    have hr := hv.keep (Nat.le_refl _) old
    have hlt : (i : Int) < l.length := by omega
    have s1 := split_run hx.1 hx.2 n H' hn
    have e1 : IntKind.i64.wrap (l.getD i 0 % 100000000 + c) = l.getD i 0 % 100000000 + c := wr64 (by omega) (by omega)
    have s2 := split_run (z := l.getD i 0 % 100000000 + c) (by omega) (by omega) n H' hn
    have e2 : IntKind.i64.wrap (l.getD i 0 / 100000000 + (l.getD i 0 % 100000000 + c) / 100000000) = l.getD i 0 / 100000000 + (l.getD i 0 % 100000000 + c) / 100000000 := wr64 (by omega) (by omega)
    have e3 : IntKind.i64.wrap ((i : Int) + 1) = ((i + 1 : Nat) : Int) := by rw [wr64 (by omega) (by omega)]; omega
    obtain ⟨v2, H2, ep, o2, old2, wf2⟩ := ho.pushI hw old.1 (by unfold maxA; omega) ((l.getD i 0 % 100000000 + c) % 100000000)
    simp (disch := omega) only [Try.f80, Option.getD_some, atC, es_seq, es_region, es_cond, es_block, es_skip, ops_nil, ops_cons, st_move, st_assign, st_fun, sy_len uL, sy_addr eL, sy_load aI, sy_bin, sy_append eL pI, sy_build1 eL oI, sy_ext, ext_20, ext_21, binS_lss, binS_add, bindO_some, bindF_some, bindX_normal, blkX_normal, condX_true, ev_tmp, ev_const, ev_func, putA, upd_at, Option.map_some, ↓reduceIte, Nat.reduceEqDiff, Int.toNat_natCast, List.map_cons, List.map_nil, decide_true, ↓bindO_some, ↓bindF_some, ↓bindX_normal, ↓condX_true, scal_vi, h0, h3, h4, h5, hr.lenI, hlt, hr.addrI, hr.loadI, s1, s2, e1, e2, e3, ep]
    refine ⟨_, _, rfl, by simp only [upd_get, ↓reduceIte, Nat.reduceEqDiff, h0], by simp only [upd_get, ↓reduceIte], v2, _, l.getD i 0 / 100000000 + (l.getD i 0 % 100000000 + c) / 100000000, by simp only [upd_get, ↓reduceIte, Nat.reduceEqDiff], by simp only [upd_get, ↓reduceIte, Nat.reduceEqDiff], o2, old.trans old2, wf2, by simp [hol], hd.app (Dg.one (by omega) (by unfold B; omega)), ?_, by omega, by omega⟩
    rw [take_snoc' hi]
    exact norm_step hol hval (by rw [List.length_take]; omega)
  · intro a H' ⟨h0, h5, vo, out, c, h3, h4, ho, old, hw, hol, hd, hval, hc1, hc2⟩
    rw [show normA = atC [1, 1, 1, 0, 1, 0, 0] ((Try.f80.body).getD .skip) from rfl]
    have hr := hv.keep (Nat.le_refl _) old
    simp (disch := omega) only [Try.f80, Option.getD_some, atC, es_seq, es_region, es_cond, es_exit, ops_nil, ops_cons, st_move, sy_len uL, sy_bin, binS_lss, bindO_some, bindF_some, bindX_normal, bindX_exit, condX_false, ev_tmp, putA, upd_at, Option.map_some, ↓reduceIte, Nat.reduceEqDiff, decide_false, ↓bindO_some, ↓bindF_some, ↓bindX_normal, ↓bindX_exit, ↓condX_false, h0, h5, hr.lenI, Int.lt_irrefl]
    exact ⟨_, _, _, rfl, by simp, rfl, vo, out, c, by simp only [upd_get, ↓reduceIte, Nat.reduceEqDiff, h3], by simp only [upd_get, ↓reduceIte, Nat.reduceEqDiff, h4], ho, old, hw, hol, hd, by rw [hol, hval, List.take_length], hc1, hc2⟩
def MM (n : Nat) (c : Int) : Prop := (n = 0 ∧ (c = 0 ∨ c = -1)) ∨ (n = 1 ∧ -10000000 ≤ c ∧ c ≤ 10000000) ∨ (n = 2 ∧ -100000000000 ≤ c ∧ c ≤ 100000000000)
theorem norm_loop2 {H0 : Heap} {L : Nat} {z : Int} (hL : L ≤ 1000) (n m nt : Nat) (hn : 10 ≤ n) {a : Fr} {H : Heap} {k : Nat} (hk : 2 < k) {vo : Value} {out : List Int} {c : Int}
    (h3 : a 3 = vo) (h4 : a 4 = vi c) (ho : O H0.length H vo (ints out)) (old : Old H0.length H0 H) (hw : WF H) (hol : out.length + 2 ≤ L) (hd : Dg out) (hval : val out + B ^ out.length * c = z) (hc1 : -100000000000 ≤ c) (hc2 : c ≤ 100000000000) :
    ∃ x a' H', loopN (evS Try.prog (evB Try.prog noC n) m nt none normB) k a H = some (x, a', H') ∧ x = .exit 2 ∧ ∃ vo out c, a' 3 = vo ∧ a' 4 = vi c ∧ O H0.length H' vo (ints out) ∧ Old H0.length H0 H' ∧ WF H' ∧ out.length ≤ L ∧ Dg out ∧ val out + B ^ out.length * c = z ∧ (c = 0 ∨ c = -1) := by
  refine loop_wf (fun n a H' => ∃ vo out c, a 3 = vo ∧ a 4 = vi c ∧ O H0.length H' vo (ints out) ∧ Old H0.length H0 H' ∧ WF H' ∧ out.length + n ≤ L ∧ Dg out ∧ val out + B ^ out.length * c = z ∧ MM n c) _ ?_ k 2 a H hk ⟨vo, out, c, h3, h4, ho, old, hw, hol, hd, hval, .inr (.inr ⟨rfl, hc1, hc2⟩)⟩
  intro q a H' ⟨vo, out, c, h3, h4, ho, old, hw, hol, hd, hval, hM⟩
  rw [show normB = atC [1, 1, 1, 1, 0, 0, 0] ((Try.f80.body).getD .skip) from rfl]
  by_cases hz : c = 0
  · right
    simp (disch := omega) only [Try.f80, Option.getD_some, atC, es_seq, es_region, es_cond, es_exit, ops_nil, ops_cons, ops_consG, st_move, sy_pick, pickS_false, sy_bin, binS_neq, bindO_some, bindF_some, bindX_normal, bindX_exit, condX_false, iteB_false, ev_tmp, ev_const, putA, upd_at, ↓reduceIte, Nat.reduceEqDiff, decide_true, Bool.not_true, yieldO_eq, yO, yV_bool, some_true, List.getElem?_cons_zero, List.getElem?_cons_succ, ↓bindO_some, ↓bindF_some, ↓bindX_normal, ↓bindX_exit, ↓condX_false, ↓iteB_false, h4, hz]
    exact ⟨_, _, _, rfl, by simp, rfl, vo, out, 0, by simp only [upd_get, ↓reduceIte, Nat.reduceEqDiff, h3], by simp only [upd_get, ↓reduceIte, Nat.reduceEqDiff, h4, hz], ho, old, hw, by omega, hd, by rw [← hz]; exact hval, .inl rfl⟩
  · by_cases hy : c = -1
    · right
      simp (disch := omega) only [Try.f80, Option.getD_some, atC, es_seq, es_region, es_cond, es_block, es_skip, es_exit, ops_nil, ops_cons, ops_consG, st_move, st_assign, sy_pick, st_fun, sy_bin, sy_append eL pI, sy_build1 eL oI, sy_ext, binS_neq, bindO_some, bindF_some, ev_tmp, ev_const, ev_func, putA, upd_at, ↓reduceIte, Nat.reduceEqDiff, List.map_cons, List.map_nil, decide_true, Bool.not_true, yieldO_eq, yO, yV_bool, some_true, List.getElem?_cons_zero, List.getElem?_cons_succ, ↓bindO_some, ↓bindF_some, h4, hy]
      exact ⟨_, _, _, rfl, by simp, rfl, vo, out, -1, by simp only [upd_get, ↓reduceIte, Nat.reduceEqDiff, h3], by simp only [upd_get, ↓reduceIte, Nat.reduceEqDiff, h4, hy], ho, old, hw, by omega, hd, by rw [← hy]; exact hval, .inr rfl⟩
    · left
      have s1 := split_run (z := c) (by rcases hM with h | h | h <;> omega) (by rcases hM with h | h | h <;> omega) n H' hn
      obtain ⟨v2, H2, ep, o2, old2, wf2⟩ := ho.pushI hw old.1 (by unfold maxA; omega) (c % 100000000)
      simp (disch := omega) only [Try.f80, Option.getD_some, atC, es_seq, es_region, es_cond, es_block, es_skip, ops_nil, ops_cons, ops_consG, st_move, st_assign, sy_pick, pickS_true, st_fun, sy_bin, sy_append eL pI, sy_build1 eL oI, sy_ext, ext_20, ext_21, binS_neq, bindO_some, bindF_some, bindX_normal, blkX_normal, condX_true, iteB_true, ev_tmp, ev_const, ev_func, putA, upd_at, Option.map_some, ↓reduceIte, Nat.reduceEqDiff, List.map_cons, List.map_nil, decide_false, Bool.not_false, yieldO_eq, yO, yV_bool, List.getElem?_cons_zero, List.getElem?_cons_succ, beq_self_eq_true, ↓bindO_some, ↓bindF_some, ↓bindX_normal, ↓condX_true, ↓iteB_true, scal_vi, h3, h4, hz, hy, s1, ep]
      refine ⟨_, _, rfl, q - 1, by rcases hM with h | h | h <;> omega, v2, _, c / 100000000, by simp only [upd_get, ↓reduceIte, Nat.reduceEqDiff], by simp only [upd_get, ↓reduceIte], o2, old.trans old2, wf2, by rw [List.length_append, List.length_singleton]; rcases hM with h | h | h <;> omega, hd.app (Dg.one (by omega) (by unfold B; omega)), carry_step z hval, ?_⟩
      rcases hM with h | h | h
      · omega
      · exact .inl ⟨by omega, by omega⟩
      · exact .inr (.inl ⟨by omega, by omega, by omega⟩)
theorem norm_loop3 {H0 H1 : Heap} {vo : Value} {out : List Int} (ho : R H1 vo (ints out)) (hd : Dg out) (old0 : Old H0.length H0 H1) (hw1 : WF H1) (hol : out.length ≤ 1000) (call : CallF) (m nt : Nat) {a : Fr} {k : Nat} (hk : out.length < k)
    (h3 : a 3 = vo) (h12 : a 12 = .slice none 0 0) (h13 : a 13 = vi 0) (h14 : a 14 = vi (0 : Nat)) :
    ∃ x a' H', loopN (evS Try.prog call m nt none normC) k a H1 = some (x, a', H') ∧ x = .exit 4 ∧ ∃ vs sz b, a' 12 = vs ∧ a' 13 = vi b ∧ O H1.length H' vs (ints sz) ∧ Old H1.length H1 H' ∧ WF H' ∧ sz.length = out.length ∧ Dg sz ∧ val sz = b * B ^ out.length - val out ∧ (b = 0 ∨ b = 1) := by
  refine loop_up out.length (fun i a H' => a 3 = vo ∧ a 14 = vi i ∧ ∃ vs sz b, a 12 = vs ∧ a 13 = vi b ∧ O H1.length H' vs (ints sz) ∧ Old H1.length H1 H' ∧ WF H' ∧ sz.length = i ∧ Dg sz ∧ val sz = b * B ^ i - val (out.take i) ∧ (b = 0 ∨ b = 1)) _ ?_ ?_ hk
    ⟨h3, h14, _, [], 0, h12, h13, O.nil _ _, Old.refl _ _, hw1, rfl, Dg.nil, by simp [val], .inl rfl⟩
  · intro i a H' hi ⟨h3, h14, vs, sz, b, h12, h13, hs, old, hw, hsl, hds, hval, hb⟩
    left
    rw [show normC = atC [1, 1, 1, 1, 1, 1, 1, 1, 0, 1, 0, 0] ((Try.f80.body).getD .skip) from rfl]
    have hr := ho.keep (Nat.le_refl _) old
    have hx := hd _ (getD_mem hi)
    unfold B at hx
    have hlt : (i : Int) < out.length := by omega
    have e1 : IntKind.i64.wrap (0 - out.getD i 0) = - out.getD i 0 := by rw [wr64 (by omega) (by omega)]; omega
    have e2 : IntKind.i64.wrap (- out.getD i 0 - b) = - out.getD i 0 - b := wr64 (by omega) (by omega)
    have e3 : IntKind.i64.wrap ((i : Int) + 1) = ((i + 1 : Nat) : Int) := by rw [wr64 (by omega) (by omega)]; omega
    have hst := fun (b2 : Int) => compl_step (o := out.getD i 0) (b2 := b2) hsl (by rw [List.length_take]; omega) hval
    by_cases hneg : - out.getD i 0 - b < 0
    · have e4 : IntKind.i64.wrap (- out.getD i 0 - b + 100000000) = - out.getD i 0 - b + 100000000 := wr64 (by omega) (by omega)
      obtain ⟨v2, H2, ep, o2, old2, wf2⟩ := hs.pushI hw old.1 (by unfold maxA; omega) (- out.getD i 0 - b + 100000000)
      simp (disch := omega) only [Try.f80, Option.getD_some, atC, es_seq, es_region, es_cond, es_block, es_skip, ops_nil, ops_cons, st_move, st_assign, sy_len uL, sy_addr eL, sy_load aI, sy_bin, sy_neg, sy_append eL pI, sy_build1 eL oI, binS_lss, binS_add, binS_sub, bindO_some, bindF_some, bindX_normal, blkX_normal, condX_true, ev_tmp, ev_const, putA, upd_at, Option.map_some, ↓reduceIte, Nat.reduceEqDiff, Int.toNat_natCast, decide_true, ↓bindO_some, ↓bindF_some, ↓bindX_normal, ↓condX_true, scal_vi, h3, h12, h13, h14, hr.lenI, hlt, hr.addrI, hr.loadI, e1, e2, hneg, e4, e3, ep]
      exact ⟨_, _, rfl, by simp only [upd_get, ↓reduceIte, Nat.reduceEqDiff, h3], by simp only [upd_get, ↓reduceIte], v2, _, 1, by simp only [upd_get, ↓reduceIte, Nat.reduceEqDiff], by simp only [upd_get, ↓reduceIte, Nat.reduceEqDiff], o2, old.trans old2, wf2, by simp [hsl], hds.app (Dg.one (by omega) (by unfold B; omega)), by rw [take_snoc' hi]; exact hst 1, .inr rfl⟩
    · obtain ⟨v2, H2, ep, o2, old2, wf2⟩ := hs.pushI hw old.1 (by unfold maxA; omega) (- out.getD i 0 - b)
      simp (disch := omega) only [Try.f80, Option.getD_some, atC, es_seq, es_region, es_cond, es_block, es_skip, ops_nil, ops_cons, st_move, st_assign, sy_len uL, sy_addr eL, sy_load aI, sy_bin, sy_neg, sy_append eL pI, sy_build1 eL oI, binS_lss, binS_add, binS_sub, bindO_some, bindF_some, bindX_normal, blkX_normal, condX_true, condX_false, ev_tmp, ev_const, putA, upd_at, Option.map_some, ↓reduceIte, Nat.reduceEqDiff, Int.toNat_natCast, decide_true, decide_false, ↓bindO_some, ↓bindF_some, ↓bindX_normal, ↓condX_true, ↓condX_false, scal_vi, h3, h12, h13, h14, hr.lenI, hlt, hr.addrI, hr.loadI, e1, e2, hneg, e3, ep]
      exact ⟨_, _, rfl, by simp only [upd_get, ↓reduceIte, Nat.reduceEqDiff, h3], by simp only [upd_get, ↓reduceIte], v2, _, 0, by simp only [upd_get, ↓reduceIte, Nat.reduceEqDiff], by simp only [upd_get, ↓reduceIte, Nat.reduceEqDiff], o2, old.trans old2, wf2, by simp [hsl], hds.app (Dg.one (by omega) (by unfold B; omega)), by rw [take_snoc' hi]; have := hst 0; simpa using this, .inl rfl⟩
  · intro a H' ⟨h3, h14, vs, sz, b, h12, h13, hs, old, hw, hsl, hds, hval, hb⟩
    rw [show normC = atC [1, 1, 1, 1, 1, 1, 1, 1, 0, 1, 0, 0] ((Try.f80.body).getD .skip) from rfl]
    have hr := ho.keep (Nat.le_refl _) old
    simp (disch := omega) only [Try.f80, Option.getD_some, atC, es_seq, es_region, es_cond, es_exit, ops_nil, ops_cons, st_move, sy_len uL, sy_bin, binS_lss, bindO_some, bindF_some, bindX_normal, bindX_exit, condX_false, ev_tmp, putA, upd_at, Option.map_some, ↓reduceIte, Nat.reduceEqDiff, decide_false, ↓bindO_some, ↓bindF_some, ↓bindX_normal, ↓bindX_exit, ↓condX_false, h3, h14, hr.lenI, Int.lt_irrefl]
    exact ⟨_, _, _, rfl, by simp, rfl, vs, sz, b, by simp only [upd_get, ↓reduceIte, Nat.reduceEqDiff, h12], by simp only [upd_get, ↓reduceIte, Nat.reduceEqDiff, h13], hs, old, hw, hsl, hds, by rw [hval, List.take_length], hb⟩
theorem OneL.trans {H H1 : Heap} {r : Option (Value × Heap)} {l : List Int} (ho : Old H.length H H1) (h : OneL H1 r l) : OneL H r l := by
  obtain ⟨v', H', e, o, old, wf⟩ := h
  exact ⟨v', H', e, o.below ho.1, ho.trans (old.mono ho.1), wf⟩
theorem norm_run {H : Heap} {v : Value} {l : List Int} (hw : WF H) (hv : R H v (ints l)) (hl : l.length ≤ 900) (hb : ∀ x ∈ l, -4000000000000000000 ≤ x ∧ x ≤ 4000000000000000000) (n : Nat) (hn : 2003 ≤ n) :
    OneL H (evB Try.prog noC n (.func (.func 80) #[] #[]) [v] H) (nf (val l)) := by
  refine run_of (F := 2002) (Q := fun x => OneL H x (nf (val l))) (fun n hn => ?_) n hn
  rw [body_runS Try.func80 rfl (ok_fn (by rfl) Try.func80 rfl) (Nat.le_of_ble_eq_true rfl) (D := D0) (by kernel_rfl)]
  have key1 := fun (A : Fr) => norm_loop1 hw hv hl hb n n Try.f80.ntmps (by omega) (a := A) (k := n) (by omega)
  have key2 := fun (A : Fr) {H' : Heap} {vo : Value} {out : List Int} {c : Int} (ho : out.length + 2 ≤ 902) => norm_loop2 (H0 := H) (L := 902) (z := val l) (by omega) n n Try.f80.ntmps (by omega) (a := A) (H := H') (k := n) (by omega) (vo := vo) (out := out) (c := c)
  have key3 := fun (A : Fr) {H1 : Heap} {vo : Value} {out : List Int} (hol : out.length ≤ 902) (ho : R H1 vo (ints out)) (hd : Dg out) (old0 : Old H.length H H1) (hw1 : WF H1) => norm_loop3 (H0 := H) ho hd old0 hw1 (by omega) (evB Try.prog noC n) n Try.f80.ntmps (a := A) (k := n) (by omega)
  rw [show normA = atC [1, 1, 1, 0, 1, 0, 0] ((Try.f80.body).getD .skip) from rfl] at key1
  rw [show normB = atC [1, 1, 1, 1, 0, 0, 0] ((Try.f80.body).getD .skip) from rfl] at key2
  rw [show normC = atC [1, 1, 1, 1, 1, 1, 1, 1, 0, 1, 0, 0] ((Try.f80.body).getD .skip) from rfl] at key3
  simp only [Try.f80, Option.getD_some, atC] at key1 key2 key3
  simp (disch := omega) only [Try.f80, es_seq, es_region, es_cond, es_block, es_loop, es_skip, es_ret, ops_nil, ops_cons, st_move, st_assign, st_fun, sy_bin, sy_append eL pI, sy_build1 eL oI, bindO_some, bindF_some, bindX_normal, ev_tmp, ev_const, ev_func, putA, upd_at, ↓reduceIte, Nat.reduceEqDiff, List.map_cons, List.map_nil, ↓bindO_some, ↓bindF_some, ↓bindX_normal, scal_vi]
  generalize hA : upd _ 5 _ = A
  obtain ⟨x, a1, H1, e1, hx, vo, out, c, h3, h4, o1, old1, wf1, hol, hd, hval, hc1, hc2⟩ := key1 A (by subst hA; rfl) (by subst hA; rfl) (by subst hA; rfl) (by subst hA; rfl)
  subst hx
  rw [e1]
  simp (disch := omega) only [bindX_normal, blkX_exit, ↓reduceIte, ↓bindX_normal]
  clear key1 e1
  obtain ⟨x, a2, H2, e2, hx, vo, out, c, h3, h4, o2, old2, wf2, hol, hd, hval, hc⟩ := key2 a1 (by omega) h3 h4 o1 old1 wf1 (by omega) hd hval hc1 hc2
  subst hx
  rw [e2]
  simp (disch := omega) only [bindX_normal, blkX_exit, ↓reduceIte, ↓bindX_normal]
  clear key2 e2
  rcases hc with rfl | rfl
  · rw [Int.mul_zero, Int.add_zero] at hval
    obtain ⟨v3, H3, e3, o3, old3, wf3⟩ := trim_run wf2 o2.R (by omega) n (by omega)
    simp (disch := omega) only [binS_eql, bindO_some, bindF_some, bindX_normal, bindX_ret, condX_true, upd_at, Option.map_some, ↓reduceIte, Nat.reduceEqDiff, decide_true, ↓bindO_some, ↓bindF_some, ↓bindX_normal, ↓bindX_ret, ↓condX_true, fin_r, res_nil, res_tmp, pack_1, h3, h4, e3, o3.R.scal]
    refine ⟨_, _, rfl, ?_, old2.trans (old3.mono old2.1), wf3⟩
    rw [← nf_of_digs hd hval]
    exact o3.below old2.1
  · have hneg := hd.val
    have hz : ¬ (-1 : Int) = 0 := by omega
    simp (disch := omega) only [binS_eql, bindO_some, bindF_some, bindX_normal, condX_false, upd_at, ↓reduceIte, decide_false, ↓bindO_some, ↓bindF_some, ↓bindX_normal, ↓condX_false, h4, hz]
    generalize hA : upd _ 14 _ = A
    obtain ⟨x, a3, H3, e3, hx, vs, sz, b, h12, h13, o3, old3, wf3, hsl, hds, hvs, hb'⟩ := key3 A (by omega) o2.R hd old2 wf2 (by subst hA; exact h3) (by subst hA; rfl) (by subst hA; rfl) (by subst hA; rfl)
    subst hx
    rw [e3]
    clear key3 e3
    simp (disch := omega) only [bindX_normal, blkX_exit, ↓reduceIte, ↓bindX_normal]
    have bd : ∀ {m : List Int}, Dg m → ∀ x ∈ m, -4000000000000000000 ≤ x ∧ x ≤ 4000000000000000000 := fun h x hx => by have := h x hx; unfold B at this; omega
    have old23 := old2.trans (old3.mono old2.1)
    rcases hb' with rfl | rfl
    · obtain ⟨v4, H4, e4, o4, old4, wf4⟩ := o3.pushI wf3 old3.1 (by unfold maxA; omega) 1
      obtain ⟨v5, H5, e5, o5, old5, wf5⟩ := signed_run wf4 o4.R (by rw [List.length_append, List.length_singleton]; omega) (bd (hds.app (Dg.one (by omega) (by unfold B; omega)))) true n (by omega)
      have old24 := old23.trans (old4.mono old2.1)
      simp (disch := omega) only [binS_eql, bindO_some, bindF_some, bindX_normal, condX_true, upd_at, Option.map_some, ↓reduceIte, Nat.reduceEqDiff, decide_true, ↓bindO_some, ↓bindF_some, ↓bindX_normal, ↓condX_true, fin_r, res_nil, res_tmp, pack_1, h12, h13, e4, e5, o5.R.scal]
      refine ⟨_, _, rfl, ?_, old24.trans (old5.mono old24.1), wf5⟩
      have := nf_of_neg (l := sz ++ [1]) (z := val l) (hds.app (Dg.one (by omega) (by unfold B; omega))) (by rw [val_snoc, hvs, hsl]; omega)
      rw [← this]
      exact o5.below old24.1
    · obtain ⟨v5, H5, e5, o5, old5, wf5⟩ := signed_run wf3 o3.R (by omega) (bd hds) true n (by omega)
      have hone : ¬ (1 : Int) = 0 := by omega
      simp (disch := omega) only [binS_eql, bindO_some, bindF_some, bindX_normal, condX_false, upd_at, Option.map_some, ↓reduceIte, Nat.reduceEqDiff, decide_false, ↓bindO_some, ↓bindF_some, ↓bindX_normal, ↓condX_false, fin_r, res_nil, res_tmp, pack_1, h12, h13, e5, hone, o5.R.scal]
      refine ⟨_, _, rfl, ?_, old23.trans (old5.mono old23.1), wf5⟩
      have := nf_of_neg (l := sz) (z := val l) hds (by rw [hvs]; omega)
      rw [← this]
      exact o5.below old23.1
end Go.Proofs.Ytmmgdgmjkhcfaaa
namespace Go.Proofs.Ytmmgdgmjkhcfaaa
open Go Go.Abs Go.Num
set_option maxRecDepth 10000
attribute [local congr] bindO_congr bindF_congr bindX_congr condX_congr iteB_congr binS_congr pickS_congr
def NumV (H : Heap) (v : Value) (z : Int) : Prop := ∃ l, R H v (ints l) ∧ val l = z ∧ l.length ≤ 900 ∧ ∀ x ∈ l, -4000000000000000000 ≤ x ∧ x ≤ 4000000000000000000
theorem NumV.norm {H : Heap} {v : Value} {z : Int} (h : NumV H v z) (hw : WF H) (n : Nat) (hn : 2003 ≤ n) : OneL H (evB Try.prog noC n (.func (.func 80) #[] #[]) [v] H) (nf z) := by
  obtain ⟨l, hr, hz, hl, hb⟩ := h
  rw [← hz]
  exact norm_run hw hr hl hb n hn
theorem NumV.mono {H H' : Heap} {v : Value} {z : Int} (h : NumV H v z) (ho : Old H.length H H') : NumV H' v z := by
  obtain ⟨l, hr, h⟩ := h
  exact ⟨l, hr.mono ho, h⟩
theorem NumV.of {H : Heap} {v : Value} {z : Int} (h : R H v (ints (nf z))) (hl : (nf z).length ≤ 900) : NumV H v z :=
  ⟨nf z, h, nf_val z, hl, fun x hx => by have := nf_bound z x hx; unfold B at this; omega⟩
theorem NumV.one {H : Heap} {v : Value} {z : Int} (h : R H v (ints [z])) (h1 : -4000000000000000000 ≤ z) (h2 : z ≤ 4000000000000000000) : NumV H v z :=
  ⟨[z], h, by simp [val], by simp, fun x hx => by simp at hx; subst hx; exact ⟨h1, h2⟩⟩
theorem nfb (z : Int) : ∀ x ∈ nf z, -4000000000000000000 ≤ x ∧ x ≤ 4000000000000000000 := fun x hx => by have := nf_bound z x hx; unfold B at this; omega
theorem neg_run {H : Heap} {v : Value} {z : Int} (hw : WF H) (hv : NumV H v z) (hl : (nf z).length ≤ 900) (n : Nat) (hn : 2004 ≤ n) :
    OneL H (evB Try.prog noC n (.func (.func 64) #[] #[]) [v] H) (nf (-z)) := by
  refine run_of (F := 2003) (Q := fun x => OneL H x (nf (-z))) (fun n hn => ?_) n hn
  rw [body_runS Try.func64 rfl (ok_fn (by rfl) Try.func64 rfl) (Nat.le_of_ble_eq_true rfl) (D := D0) (by kernel_rfl)]
  obtain ⟨v1, H1, e1, o1, old1, wf1⟩ := hv.norm hw n (by omega)
  obtain ⟨v2, H2, e2, o2, old2, wf2⟩ := signed_run wf1 o1.R (by omega) (nfb z) true n (by omega)
  simp (disch := omega) only [Try.f64, es_seq, es_region, es_ret, ops_nil, ops_cons, st_move, st_assign, st_fun, bindO_some, bindF_some, bindX_normal, ev_tmp, ev_const, ev_func, putA, upd_at, Option.map_some, ↓reduceIte, Nat.reduceEqDiff, frOf_0, List.map_cons, List.map_nil, ↓bindO_some, ↓bindF_some, ↓bindX_normal, fin_r, res_nil, res_tmp, pack_1, e1, e2, o2.R.scal]
  refine ⟨_, _, rfl, ?_, old1.trans (old2.mono old1.1), wf2⟩
  rw [← nf_neg']
  rw [cond_true, trim_nf] at o2
  exact o2.below old1.1
noncomputable def addA : Code := atC [1, 1, 1, 0, 1, 0, 0] ((Try.f65.body).getD .skip)
theorem add_loop {H0 : Heap} {vx vy : Value} {x y : Int} (hw0 : WF H0) (hx : R H0 vx (ints (nf x))) (hy : R H0 vy (ints (nf y))) (lx : (nf x).length ≤ 900) (ly : (nf y).length ≤ 900) (call : CallF) (m nt : Nat) {a : Fr} {k : Nat} (hk : max (nf x).length (nf y).length < k)
    (h0 : a 0 = vx) (h1 : a 1 = vy) (h5 : a 5 = .slice none 0 0) (h6 : a 6 = vi (0 : Nat)) :
    ∃ r a' H', loopN (evS Try.prog call m nt none addA) k a H0 = some (r, a', H') ∧ r = .exit 0 ∧ ∃ vo out, a' 5 = vo ∧ O H0.length H' vo (ints out) ∧ Old H0.length H0 H' ∧ WF H' ∧ out.length ≤ 900 ∧ val out = x + y ∧ ∀ z ∈ out, -4000000000000000000 ≤ z ∧ z ≤ 4000000000000000000 := by
  refine loop_up (max (nf x).length (nf y).length) (fun i a H' => a 0 = vx ∧ a 1 = vy ∧ a 6 = vi i ∧ ∃ vo out, a 5 = vo ∧ O H0.length H' vo (ints out) ∧ Old H0.length H0 H' ∧ WF H' ∧ out.length = i ∧ val out = val ((nf x).take i) + val ((nf y).take i) ∧ ∀ z ∈ out, -4000000000000000000 ≤ z ∧ z ≤ 4000000000000000000) _ ?_ ?_ hk
    ⟨h0, h1, h6, _, [], h5, O.nil _ _, Old.refl _ _, hw0, rfl, by simp [val], fun z hz => by cases hz⟩
  · intro i a H' hi ⟨h0, h1, h6, vo, out, h5, ho, old, hw, hol, hval, hb⟩
    left
    rw [show addA = atC [1, 1, 1, 0, 1, 0, 0] ((Try.f65.body).getD .skip) from rfl]
    have hx2 := hx.keep (Nat.le_refl _) old
    have hy2 := hy.keep (Nat.le_refl _) old
    have bx := nf_getD x i
    have by_ := nf_getD y i
    have e3 : IntKind.i64.wrap ((i : Int) + 1) = ((i + 1 : Nat) : Int) := by rw [wr64 (by omega) (by omega)]; omega
    have e4 : IntKind.i64.wrap ((nf x).getD i 0 + (nf y).getD i 0) = (nf x).getD i 0 + (nf y).getD i 0 := wr64 (by omega) (by omega)
    have e5 : IntKind.i64.wrap (0 + (nf y).getD i 0) = 0 + (nf y).getD i 0 := wr64 (by omega) (by omega)
    have hv2 := fun z => val_snoc out z
    have ht1 := val_take_succ (nf x) i
    have ht2 := val_take_succ (nf y) i
    have hml := fun p : Int => Int.mul_add p ((nf x).getD i 0) ((nf y).getD i 0)
    have hb' : ∀ z, -4000000000000000000 ≤ z → z ≤ 4000000000000000000 → ∀ w ∈ out ++ [z], -4000000000000000000 ≤ w ∧ w ≤ 4000000000000000000 := fun z z1 z2 w hw => by
      rcases List.mem_append.1 hw with h | h
      · exact hb w h
      · simp at h; subst h; exact ⟨z1, z2⟩
    by_cases c1 : (i : Int) < (nf x).length
    · by_cases c2 : (i : Int) < (nf y).length
      · obtain ⟨v2, H2, ep, o2, old2, wf2⟩ := ho.pushI hw old.1 (by unfold maxA; omega) ((nf x).getD i 0 + (nf y).getD i 0)
        simp (disch := omega) only [Try.f65, Option.getD_some, atC, es_seq, es_region, es_cond, es_block, es_skip, ops_nil, ops_cons, ops_consG, st_move, st_assign, sy_pick, pickS_true, sy_len uL, sy_addr eL, sy_load aI, sy_bin, sy_append eL pI, sy_build1 eL oI, binS_lss, binS_add, bindO_some, bindF_some, bindX_normal, blkX_normal, condX_true, iteB_false, ev_tmp, ev_const, putA, upd_at, Option.map_some, ↓reduceIte, Nat.reduceEqDiff, Int.toNat_natCast, decide_true, Bool.not_true, yieldO_eq, yO, yV_bool, some_false, List.getElem?_cons_zero, List.getElem?_cons_succ, ↓bindO_some, ↓bindF_some, ↓bindX_normal, ↓condX_true, ↓iteB_false, scal_vi, h0, h1, h5, h6, hx2.lenI, hy2.lenI, c1, c2, hx2.addrI, hx2.loadI, hy2.addrI, hy2.loadI, e3, e4, ep]
        exact ⟨_, _, rfl, by simp only [upd_get, ↓reduceIte, Nat.reduceEqDiff, h0], by simp only [upd_get, ↓reduceIte, Nat.reduceEqDiff, h1], by simp only [upd_get, ↓reduceIte], v2, _, by simp only [upd_get, ↓reduceIte, Nat.reduceEqDiff], o2, old.trans old2, wf2, by simp [hol], by rw [hv2, hol, hval, ht1, ht2, hml]; omega, hb' _ (by omega) (by omega)⟩
      · have hz : (nf y).getD i 0 = 0 := by rw [List.getD_eq_getElem?_getD, List.getElem?_eq_none (by omega)]; rfl
        obtain ⟨v2, H2, ep, o2, old2, wf2⟩ := ho.pushI hw old.1 (by unfold maxA; omega) ((nf x).getD i 0)
        simp (disch := omega) only [Try.f65, Option.getD_some, atC, es_seq, es_region, es_cond, es_block, es_skip, ops_nil, ops_cons, ops_consG, st_move, st_assign, sy_pick, pickS_true, sy_len uL, sy_addr eL, sy_load aI, sy_bin, sy_append eL pI, sy_build1 eL oI, binS_lss, binS_add, bindO_some, bindF_some, bindX_normal, blkX_normal, condX_true, condX_false, iteB_false, ev_tmp, ev_const, putA, upd_at, Option.map_some, ↓reduceIte, Nat.reduceEqDiff, Int.toNat_natCast, decide_true, decide_false, Bool.not_true, yieldO_eq, yO, yV_bool, some_false, List.getElem?_cons_zero, List.getElem?_cons_succ, ↓bindO_some, ↓bindF_some, ↓bindX_normal, ↓condX_true, ↓condX_false, ↓iteB_false, scal_vi, h0, h1, h5, h6, hx2.lenI, hy2.lenI, c1, c2, hx2.addrI, hx2.loadI, e3, ep]
        exact ⟨_, _, rfl, by simp only [upd_get, ↓reduceIte, Nat.reduceEqDiff, h0], by simp only [upd_get, ↓reduceIte, Nat.reduceEqDiff, h1], by simp only [upd_get, ↓reduceIte], v2, _, by simp only [upd_get, ↓reduceIte, Nat.reduceEqDiff], o2, old.trans old2, wf2, by simp [hol], by rw [hv2, hol, hval, ht1, ht2, hz]; omega, hb' _ (by omega) (by omega)⟩
    · have c2 : (i : Int) < (nf y).length := by omega
      have hz : (nf x).getD i 0 = 0 := by rw [List.getD_eq_getElem?_getD, List.getElem?_eq_none (by omega)]; rfl
      obtain ⟨v2, H2, ep, o2, old2, wf2⟩ := ho.pushI hw old.1 (by unfold maxA; omega) (0 + (nf y).getD i 0)
      simp (disch := omega) only [Try.f65, Option.getD_some, atC, es_seq, es_region, es_cond, es_block, es_skip, ops_nil, ops_cons, ops_consG, st_move, st_assign, sy_pick, pickS_false, sy_len uL, sy_addr eL, sy_load aI, sy_bin, sy_append eL pI, sy_build1 eL oI, binS_lss, binS_add, bindO_some, bindF_some, bindX_normal, blkX_normal, condX_true, condX_false, iteB_true, ev_tmp, ev_const, putA, upd_at, Option.map_some, ↓reduceIte, Nat.reduceEqDiff, Int.toNat_natCast, decide_true, decide_false, yieldO_eq, yO, yV_bool, List.getElem?_cons_zero, List.getElem?_cons_succ, beq_self_eq_true, ↓bindO_some, ↓bindF_some, ↓bindX_normal, ↓condX_true, ↓condX_false, ↓iteB_true, scal_vi, h0, h1, h5, h6, hx2.lenI, hy2.lenI, c1, c2, hy2.addrI, hy2.loadI, e3, e5, ep]
      exact ⟨_, _, rfl, by simp only [upd_get, ↓reduceIte, Nat.reduceEqDiff, h0], by simp only [upd_get, ↓reduceIte, Nat.reduceEqDiff, h1], by simp only [upd_get, ↓reduceIte], v2, _, by simp only [upd_get, ↓reduceIte, Nat.reduceEqDiff], o2, old.trans old2, wf2, by simp [hol], by rw [hv2, hol, hval, ht1, ht2, hz, Int.zero_add]; omega, hb' _ (by omega) (by omega)⟩
  · intro a H' ⟨h0, h1, h6, vo, out, h5, ho, old, hw, hol, hval, hb⟩
    rw [show addA = atC [1, 1, 1, 0, 1, 0, 0] ((Try.f65.body).getD .skip) from rfl]
    have hx2 := hx.keep (Nat.le_refl _) old
    have hy2 := hy.keep (Nat.le_refl _) old
    have c1 : ¬ ((max (nf x).length (nf y).length : Nat) : Int) < (nf x).length := by omega
    have c2 : ¬ ((max (nf x).length (nf y).length : Nat) : Int) < (nf y).length := by omega
    simp (disch := omega) only [Try.f65, Option.getD_some, atC, es_seq, es_region, es_cond, es_exit, ops_nil, ops_cons, ops_consG, st_move, sy_pick, pickS_false, sy_len uL, sy_bin, binS_lss, bindO_some, bindF_some, bindX_normal, bindX_exit, condX_false, iteB_true, ev_tmp, putA, upd_at, Option.map_some, ↓reduceIte, Nat.reduceEqDiff, decide_false, yieldO_eq, yO, yV_bool, List.getElem?_cons_zero, List.getElem?_cons_succ, beq_self_eq_true, ↓bindO_some, ↓bindF_some, ↓bindX_normal, ↓bindX_exit, ↓condX_false, ↓iteB_true, h0, h1, h6, hx2.lenI, hy2.lenI, c1, c2]
    refine ⟨_, _, _, rfl, by simp, rfl, vo, out, by simp only [upd_get, ↓reduceIte, Nat.reduceEqDiff, h5], ho, old, hw, by omega, ?_, hb⟩
    rw [hval, List.take_of_length_le (by omega), List.take_of_length_le (by omega), nf_val, nf_val]
theorem add_run {H : Heap} {vx vy : Value} {x y : Int} (hw : WF H) (hx : NumV H vx x) (hy : NumV H vy y) (lx : (nf x).length ≤ 900) (ly : (nf y).length ≤ 900) (n : Nat) (hn : 2004 ≤ n) :
    OneL H (evB Try.prog noC n (.func (.func 65) #[] #[]) [vx, vy] H) (nf (x + y)) := by
  refine run_of (F := 2003) (Q := fun r => OneL H r (nf (x + y))) (fun n hn => ?_) n hn
  rw [body_runS Try.func65 rfl (ok_fn (by rfl) Try.func65 rfl) (Nat.le_of_ble_eq_true rfl) (D := D0) (by kernel_rfl)]
  obtain ⟨v1, H1, e1, o1, old1, wf1⟩ := hx.norm hw n (by omega)
  obtain ⟨v2, H2, e2, o2, old2, wf2⟩ := (hy.mono old1).norm wf1 n (by omega)
  have old12 := old1.trans (old2.mono old1.1)
  have key := fun (A : Fr) => add_loop wf2 (o1.R.mono old2) o2.R lx ly (evB Try.prog noC n) n Try.f65.ntmps (a := A) (k := n) (by omega)
  rw [show addA = atC [1, 1, 1, 0, 1, 0, 0] ((Try.f65.body).getD .skip) from rfl] at key
  simp only [Try.f65, Option.getD_some, atC] at key
  simp (disch := omega) only [Try.f65, es_seq, es_region, es_block, es_loop, es_ret, ops_nil, ops_cons, st_move, st_assign, st_fun, bindO_some, bindF_some, bindX_normal, ev_tmp, ev_const, ev_func, putA, upd_at, ↓reduceIte, Nat.reduceEqDiff, frOf_0, frOf_1, List.map_cons, List.map_nil, ↓bindO_some, ↓bindF_some, ↓bindX_normal, e1, e2]
  generalize hA : upd _ 6 _ = A
  obtain ⟨r, a', H', e, hr, vo, out, h5, ho, old, hwf, hol, hval, hb⟩ := key A (by subst hA; rfl) (by subst hA; rfl) (by subst hA; rfl) (by subst hA; rfl)
  subst hr
  rw [e]
  obtain ⟨v3, H3, e3, o3, old3, wf3⟩ := norm_run hwf ho.R hol hb n (by omega)
  simp (disch := omega) only [bindO_some, bindF_some, bindX_normal, blkX_exit, upd_at, Option.map_some, ↓reduceIte, ↓bindO_some, ↓bindF_some, ↓bindX_normal, fin_r, res_nil, res_tmp, pack_1, h5, e3, o3.R.scal]
  have old' := old12.trans (old.mono old12.1)
  refine ⟨_, _, rfl, ?_, old'.trans (old3.mono old'.1), wf3⟩
  rw [← hval]
  exact o3.below old'.1
end Go.Proofs.Ytmmgdgmjkhcfaaa
namespace Go.Proofs.Ytmmgdgmjkhcfaaa
open Go Go.Abs Go.Num
set_option maxRecDepth 10000
attribute [local congr] bindO_congr bindF_congr bindX_congr condX_congr iteB_congr binS_congr pickS_congr
theorem natAbs_pos {x : Int} (h : 0 ≤ x) : (x.natAbs : Int) = x := by omega
end Go.Proofs.Ytmmgdgmjkhcfaaa
namespace Go.Proofs.Ytmmgdgmjkhcfaaa
open Go Go.Abs Go.Num
set_option maxRecDepth 10000
attribute [local congr] bindO_congr bindF_congr bindX_congr condX_congr iteB_congr binS_congr pickS_congr eqB_congr
theorem floored_run {z : Int} (h1 : -4000000000000000000 ≤ z) (h2 : z ≤ 4000000000000000000) (n : Nat) (H : Heap) (hn : 10 ≤ n) : evB Try.prog noC n (.func (.func 113) #[] #[]) [vi z] H = some (.tuple #[vi (z / 100000000), vi (z % 100000000)], H) := by
  refine run_of (F := 9) (Q := fun x => x = some (.tuple #[vi (z / 100000000), vi (z % 100000000)], H)) (fun n _ => ?_) n hn
  rw [body_runS Try.func113 rfl (ok_fn (by rfl) Try.func113 rfl) (Nat.le_of_ble_eq_true rfl) (D := D0) (by kernel_rfl)]
  by_cases hz : 0 ≤ z
  · have e1 : z.tdiv 100000000 = z / 100000000 := tdiv_pos hz _
    have e2 : z.tmod 100000000 = z % 100000000 := tmod_pos hz _
    have h3 : ¬ z % 100000000 < 0 := by omega
    simp (disch := omega) only [Try.f113, es_seq, es_region, es_cond, es_skip, es_ret, ops_nil, ops_cons, st_move, st_assign, sy_bin, binS_lss, binS_quo, binS_rem, bindO_some, bindF_some, bindX_normal, condX_false, ev_tmp, ev_const, putA, upd_at, Option.map_some, ↓reduceIte, Nat.reduceEqDiff, frOf_0, decide_false, ↓bindO_some, ↓bindF_some, ↓bindX_normal, ↓condX_false, fin_r, res_nil, res_tmp, pack_2, scal_vi, e1, e2, wr64, h3]
  · have e1 : z.tdiv 100000000 = -((-z) / 100000000) := by rw [tdiv_neg', tdiv_pos (by omega)]
    have e2 : z.tmod 100000000 = -((-z) % 100000000) := by rw [tmod_neg', tmod_pos (by omega)]
    by_cases h3 : -((-z) % 100000000) < 0
    · simp (disch := omega) only [Try.f113, es_seq, es_region, es_cond, es_ret, ops_nil, ops_cons, st_move, st_assign, sy_bin, binS_lss, binS_add, binS_sub, binS_quo, binS_rem, bindO_some, bindF_some, bindX_normal, bindX_ret, condX_true, ev_tmp, ev_const, putA, upd_at, Option.map_some, ↓reduceIte, Nat.reduceEqDiff, frOf_0, decide_true, ↓bindO_some, ↓bindF_some, ↓bindX_normal, ↓bindX_ret, ↓condX_true, fin_r, res_nil, res_tmp, pack_2, scal_vi, e1, e2, wr64, h3]
      rw [show -(-z / 100000000) - 1 = z / 100000000 from by omega, show -(-z % 100000000) + 100000000 = z % 100000000 from by omega]
    · simp (disch := omega) only [Try.f113, es_seq, es_region, es_cond, es_skip, es_ret, ops_nil, ops_cons, st_move, st_assign, sy_bin, binS_lss, binS_quo, binS_rem, bindO_some, bindF_some, bindX_normal, condX_false, ev_tmp, ev_const, putA, upd_at, Option.map_some, ↓reduceIte, Nat.reduceEqDiff, frOf_0, decide_false, ↓bindO_some, ↓bindF_some, ↓bindX_normal, ↓condX_false, fin_r, res_nil, res_tmp, pack_2, scal_vi, e1, e2, wr64, h3]
      rw [show -(-z / 100000000) = z / 100000000 from by omega, show -(-z % 100000000) = z % 100000000 from by omega]
noncomputable def trmA : Code := atC [1, 0, 0, 0] ((Try.f114.body).getD .skip)
theorem trimmed_run {C : Nat} {H : Heap} {v : Value} {l : List Int} (hv : RO C H v (ints l)) (hl : l.length ≤ 1000) (n : Nat) (hn : 2000 ≤ n) : ∃ v', evB Try.prog noC n (.func (.func 114) #[] #[]) [v] H = some (v', H) ∧ RO C H v' (ints (trimL l)) := by
  refine run_of (F := 1999) (Q := fun x => ∃ v', x = some (v', H) ∧ RO C H v' (ints (trimL l))) (fun n hn => ?_) n hn
  rw [body_runS Try.func114 rfl (ok_fn (by rfl) Try.func114 rfl) (Nat.le_of_ble_eq_true rfl) (D := D0) (by kernel_rfl)]
  have key : ∀ A : Fr, A 0 = v → ∃ x a' H', loopN (evS Try.prog (evB Try.prog noC n) n Try.f114.ntmps none trmA) n A H = some (x, a', H') ∧ x = .exit 0 ∧ H' = H ∧ ∃ v', a' 0 = v' ∧ RO C H v' (ints (trimL l)) := by
    intro A h0
    refine loop_wf (fun n a H' => H' = H ∧ ∃ v', a 0 = v' ∧ RO C H v' (ints (l.take n)) ∧ n ≤ l.length ∧ trimL (l.take n) = trimL l) _ ?_ n l.length A H (by omega) ⟨rfl, v, h0, by rw [List.take_length]; exact hv, Nat.le_refl _, by rw [List.take_length]⟩
    intro c a H' ⟨hH, v', h0, hr, hc, ht⟩
    subst hH
    have hlc : (l.take c).length = c := by rw [List.length_take]; omega
    have hlen := hr.R.lenI
    rw [hlc] at hlen
    rw [show trmA = atC [1, 0, 0, 0] ((Try.f114.body).getD .skip) from rfl]
    by_cases hz : c = 0
    · subst hz
      right
      have c1 : decide ((0 : Int) < ((0 : Nat) : Int)) = false := rfl
      simp (disch := omega) only [Try.f114, Option.getD_some, atC, es_seq, es_region, es_cond, es_exit, ops_nil, ops_cons, ops_consG, st_move, sy_pick, pickS_false, sy_len uL, sy_bin, binS_gtr, bindO_some, bindF_some, bindX_normal, bindX_exit, condX_false, iteB_false, ev_tmp, ev_const, putA, upd_at, Option.map_some, ↓reduceIte, Nat.reduceEqDiff, yieldO_eq, yO, yV_bool, some_true, List.getElem?_cons_zero, List.getElem?_cons_succ, ↓bindO_some, ↓bindF_some, ↓bindX_normal, ↓bindX_exit, ↓condX_false, ↓iteB_false, h0, hlen, c1]
      exact ⟨_, _, _, rfl, by simp, rfl, rfl, v', by simp only [upd_get, ↓reduceIte, Nat.reduceEqDiff, h0], by rw [← ht]; exact hr⟩
    · obtain ⟨d, rfl⟩ : ∃ d, c = d + 1 := ⟨c - 1, by omega⟩
      have c1 : (0 : Int) < ((d + 1 : Nat) : Int) := by omega
      have e1 : IntKind.i64.wrap (((d + 1 : Nat) : Int) - 1) = (d : Int) := by rw [wr64 (by omega) (by omega)]; omega
      have hx := take_snoc' (l := l) (c := d) (by omega)
      have a1 : addrS 1 v' (vi d) = some (pt v' d) := by have := hr.R.addrI (i := (d : Int)) (by omega) (by omega); simpa using this
      have l1 : loadS (pt v' d) H' = some (vi (l.getD d 0)) := by
        have := hr.R.loadI (i := d) (by omega)
        rw [this, hx, List.getD_eq_getElem?_getD, List.getElem?_append_right (by rw [List.length_take]; omega), List.length_take, Nat.min_eq_left (by omega), Nat.sub_self]
        rfl
      rw [hx, trimL_snoc] at ht
      by_cases hy : l.getD d 0 = 0
      · left
        rw [if_pos hy] at ht
        obtain ⟨v2, s2, r2⟩ := hr.upto (c := d) (by omega)
        rw [List.take_take, Nat.min_eq_left (by omega)] at r2
        simp (disch := omega) only [Try.f114, Option.getD_some, atC, es_seq, es_region, es_cond, es_block, es_skip, ops_nil, ops_cons, ops_consG, st_move, st_assign, sy_pick, pickS_true, sy_len uL, sy_addr eL, sy_load aI, sy_bin, sy_slice eL, binS_gtr, binS_eql, binS_sub, bindO_some, bindF_some, bindX_normal, blkX_normal, condX_true, iteB_true, ev_tmp, ev_const, putA, upd_at, Option.map_some, ↓reduceIte, Nat.reduceEqDiff, decide_true, yieldO_eq, yO, yV_bool, List.getElem?_cons_zero, List.getElem?_cons_succ, beq_self_eq_true, ↓bindO_some, ↓bindF_some, ↓bindX_normal, ↓condX_true, ↓iteB_true, h0, hlen, c1, e1, a1, l1, hy, Option.map_none, s2]
        exact ⟨_, _, rfl, d, by omega, rfl, v2, by simp only [upd_get, ↓reduceIte], r2, by omega, ht⟩
      · right
        rw [if_neg hy] at ht
        simp (disch := omega) only [Try.f114, Option.getD_some, atC, es_seq, es_region, es_cond, es_exit, ops_nil, ops_cons, ops_consG, st_move, sy_pick, pickS_true, sy_len uL, sy_addr eL, sy_load aI, sy_bin, binS_gtr, binS_eql, binS_sub, bindO_some, bindF_some, bindX_normal, bindX_exit, condX_false, iteB_true, ev_tmp, ev_const, putA, upd_at, Option.map_some, ↓reduceIte, Nat.reduceEqDiff, decide_true, decide_false, yieldO_eq, yO, yV_bool, List.getElem?_cons_zero, List.getElem?_cons_succ, beq_self_eq_true, ↓bindO_some, ↓bindF_some, ↓bindX_normal, ↓bindX_exit, ↓condX_false, ↓iteB_true, h0, hlen, c1, e1, a1, l1, hy]
        exact ⟨_, _, _, rfl, by simp, rfl, rfl, v', by simp only [upd_get, ↓reduceIte, Nat.reduceEqDiff, h0], by rw [← ht, ← hx]; exact hr⟩
  rw [show trmA = atC [1, 0, 0, 0] ((Try.f114.body).getD .skip) from rfl] at key
  simp only [Try.f114, Option.getD_some, atC] at key
  simp (disch := omega) only [Try.f114, es_seq, es_region, es_block, es_loop, es_ret, ops_nil, ops_cons, st_move, st_assign, bindO_some, bindF_some, bindX_normal, ev_tmp, ev_const, putA, upd_at, ↓reduceIte, ↓bindO_some, ↓bindF_some, ↓bindX_normal]
  generalize hA : upd _ 2 _ = A
  obtain ⟨x, a', H', e, hx, hH, v', h0, r⟩ := key A (by subst hA; rfl)
  subst hx
  subst hH
  rw [e]
  simp (disch := omega) only [bindX_normal, blkX_exit, upd_at, Option.map_some, ↓reduceIte, ↓bindX_normal, fin_r, res_nil, res_tmp, pack_1, h0, r.R.scal]
  exact ⟨_, rfl, r⟩
def Wh (C : Nat) (H : Heap) (w : Value) (z : Int) : Prop := ∃ v, w = .agg #[.bool (decide (z < 0)), v] ∧ RO C H v (ints (nf z.natAbs))
def OneW (H : Heap) (r : Option (Value × Heap)) (z : Int) : Prop := ∃ w H', r = some (w, H') ∧ Wh H.length H' w z ∧ Old H.length H H' ∧ WF H'
theorem Wh.mono {C : Nat} {H H' : Heap} {w : Value} {z : Int} (h : Wh C H w z) (ho : Old H.length H H') : Wh C H' w z := by
  obtain ⟨v, h1, h2⟩ := h
  exact ⟨v, h1, h2.mono ho⟩
theorem Wh.below {C C' : Nat} {H : Heap} {w : Value} {z : Int} (h : Wh C H w z) (hc : C' ≤ C) : Wh C' H w z := by
  obtain ⟨v, h1, h2⟩ := h
  exact ⟨v, h1, h2.below hc⟩
theorem Wh.kept {C : Nat} {H H' : Heap} {w : Value} {z : Int} (h : Wh C H w z) (k : Kept C H H') : Wh C H' w z := by
  obtain ⟨v, h1, h2⟩ := h
  exact ⟨v, h1, h2.kept k⟩
noncomputable def readA_ : Code := atC [1, 1, 1, 0, 1, 0, 0] ((Try.f83.body).getD .skip)
noncomputable def readB : Code := atC [1, 1, 1, 1, 1, 1, 0, 1, 0, 0] ((Try.f83.body).getD .skip)
theorem read_loop1 {H0 H : Heap} {v p : Value} {l : List Int} (hv : R H0 v (ints l)) (old0 : Old H0.length H0 H) (hw : WF H) (hl : l.length ≤ 900) (hb : ∀ x ∈ l, -4000000000000000000 ≤ x ∧ x ≤ 4000000000000000000) (n m nt : Nat) (hn : 10 ≤ n) {a : Fr} {k : Nat} (hk : l.length + 2 < k)
    (h0 : a 0 = v) (h2 : a 2 = p) (h3 : a 3 = .slice none 0 0) (h4 : a 4 = vi 0) (h5 : a 5 = vi (0 : Nat)) :
    ∃ x a' H', loopN (evS Try.prog (evB Try.prog noC n) m nt none readA_) k a H = some (x, a', H') ∧ x = .exit 0 ∧ a' 2 = p ∧ ∃ vo out c, a' 3 = vo ∧ a' 4 = vi c ∧ O H.length H' vo (ints out) ∧ Old H.length H H' ∧ WF H' ∧ out.length ≤ l.length + 2 ∧ Dg out ∧ val out + B ^ out.length * c = val l ∧ (c = 0 ∨ c = -1) := by
  refine loop_wf (fun q a H' => a 0 = v ∧ a 2 = p ∧ ∃ vo out c, a 3 = vo ∧ a 4 = vi c ∧ a 5 = vi (out.length : Nat) ∧ O H.length H' vo (ints out) ∧ Old H.length H H' ∧ WF H' ∧ out.length + q ≤ l.length + 2 ∧ Dg out ∧ val out + B ^ out.length * c = val (l.take out.length) ∧ ((out.length < l.length ∧ q = l.length - out.length + 2 ∧ -100000000000 ≤ c ∧ c ≤ 100000000000) ∨ (l.length ≤ out.length ∧ MM q c))) _ ?_ k (l.length + 2) a H hk ?_
  · intro q a H' ⟨h0, h2, vo, out, c, h3, h4, h5, ho, old, hw, hq, hd, hval, hM⟩
    rw [show readA_ = atC [1, 1, 1, 0, 1, 0, 0] ((Try.f83.body).getD .skip) from rfl]
    have hr := hv.keep (Nat.le_refl _) (old0.trans (old.mono old0.1))
    have e3 : IntKind.i64.wrap ((out.length : Int) + 1) = ((out.length + 1 : Nat) : Int) := by rw [wr64 (by omega) (by omega)]; omega
    rcases hM with ⟨hlt, hqe, hc1, hc2⟩ | ⟨hge, hM⟩
    · left
      have hx := hb _ (getD_mem hlt)
      have c1 : ((out.length : Int) < l.length) := by omega
      have s1 := floored_run hx.1 hx.2 n H' hn
      have e1 : IntKind.i64.wrap (l.getD out.length 0 % 100000000 + c) = l.getD out.length 0 % 100000000 + c := wr64 (by omega) (by omega)
      have s2 := floored_run (z := l.getD out.length 0 % 100000000 + c) (by omega) (by omega) n H' hn
      have e2 : IntKind.i64.wrap (l.getD out.length 0 / 100000000 + (l.getD out.length 0 % 100000000 + c) / 100000000) = l.getD out.length 0 / 100000000 + (l.getD out.length 0 % 100000000 + c) / 100000000 := wr64 (by omega) (by omega)
      obtain ⟨v2, H2, ep, o2, old2, wf2⟩ := ho.pushI hw old.1 (by unfold maxA; omega) ((l.getD out.length 0 % 100000000 + c) % 100000000)
      simp (disch := omega) only [Try.f83, Option.getD_some, atC, es_seq, es_region, es_cond, es_block, es_skip, ops_nil, ops_cons, ops_consG, st_move, st_assign, sy_pick, pickS_true, st_fun, sy_len uL, sy_addr eL, sy_load aI, sy_bin, sy_append eL pI, sy_build1 eL oI, sy_ext, ext_20, ext_21, binS_lss, binS_add, bindO_some, bindF_some, bindX_normal, blkX_normal, condX_true, iteB_false, ev_tmp, ev_const, ev_func, putA, upd_at, Option.map_some, ↓reduceIte, Nat.reduceEqDiff, Int.toNat_natCast, List.map_cons, List.map_nil, decide_true, Bool.not_true, yieldO_eq, yO, yV_bool, yV_undef, none_some, some_false, List.getElem?_cons_zero, List.getElem?_cons_succ, ↓bindO_some, ↓bindF_some, ↓bindX_normal, ↓condX_true, ↓iteB_false, scal_vi, h0, h3, h4, h5, hr.lenI, c1, hr.addrI, hr.loadI, s1, s2, e1, e2, e3, ep]
      have hvl := norm_step (x := l.getD out.length 0) rfl hval (by rw [List.length_take]; omega)
      rw [← take_snoc' hlt] at hvl
      refine ⟨_, _, rfl, q - 1, by omega, by simp only [upd_get, ↓reduceIte, Nat.reduceEqDiff, h0], by simp only [upd_get, ↓reduceIte, Nat.reduceEqDiff, h2], v2, out ++ [(l.getD out.length 0 % 100000000 + c) % 100000000], l.getD out.length 0 / 100000000 + (l.getD out.length 0 % 100000000 + c) / 100000000, by simp only [upd_get, ↓reduceIte, Nat.reduceEqDiff], by simp only [upd_get, ↓reduceIte, Nat.reduceEqDiff], by simp only [upd_get, ↓reduceIte, List.length_append, List.length_singleton], o2, old.trans old2, wf2, by rw [List.length_append, List.length_singleton]; omega, hd.app (Dg.one (by omega) (by unfold B; omega)), by rw [List.length_append, List.length_singleton]; exact hvl, ?_⟩
      rw [List.length_append, List.length_singleton]
      by_cases hl2 : out.length + 1 < l.length
      · exact .inl ⟨hl2, by omega, by omega, by omega⟩
      · exact .inr ⟨by omega, .inr (.inr ⟨by omega, by omega, by omega⟩)⟩
    · have c1 : ¬ ((out.length : Int) < l.length) := by omega
      have ht : l.take out.length = l := List.take_of_length_le hge
      rw [ht] at hval
      by_cases hz : c = 0
      · right
        simp (disch := omega) only [Try.f83, Option.getD_some, atC, es_seq, es_region, es_cond, es_exit, ops_nil, ops_cons, ops_consG, st_move, sy_pick, pickS_false, sy_len uL, sy_bin, binS_lss, binS_neq, bindO_some, bindF_some, bindX_normal, bindX_exit, condX_false, iteB_true, iteB_false, ev_tmp, ev_const, putA, upd_at, Option.map_some, ↓reduceIte, Nat.reduceEqDiff, decide_true, decide_false, Bool.not_true, yieldO_eq, yO, yV_bool, some_true, List.getElem?_cons_zero, List.getElem?_cons_succ, beq_self_eq_true, ↓bindO_some, ↓bindF_some, ↓bindX_normal, ↓bindX_exit, ↓condX_false, ↓iteB_true, ↓iteB_false, h0, h4, h5, hr.lenI, c1, hz]
        exact ⟨_, _, _, rfl, by simp, rfl, by simp only [upd_get, ↓reduceIte, Nat.reduceEqDiff, h2], vo, out, 0, by simp only [upd_get, ↓reduceIte, Nat.reduceEqDiff, h3], by simp only [upd_get, ↓reduceIte, Nat.reduceEqDiff, h4, hz], ho, old, hw, by omega, hd, by rw [← hz]; exact hval, .inl rfl⟩
      · by_cases hy : c = -1
        · right
          have d1 : decide (c = 0) = false := by simp [hz]
          have d2 : decide (c = -1) = true := by simp [hy]
          simp (disch := omega) only [Try.f83, Option.getD_some, atC, es_seq, es_region, es_cond, es_exit, ops_nil, ops_cons, ops_consG, st_move, sy_pick, pickS_true, pickS_false, sy_len uL, sy_bin, binS_lss, binS_neq, bindO_some, bindF_some, bindX_normal, bindX_exit, condX_false, iteB_true, ev_tmp, ev_const, putA, upd_at, Option.map_some, ↓reduceIte, Nat.reduceEqDiff, decide_false, Bool.not_true, Bool.not_false, yieldO_eq, yO, yV_bool, List.getElem?_cons_zero, List.getElem?_cons_succ, beq_self_eq_true, ↓bindO_some, ↓bindF_some, ↓bindX_normal, ↓bindX_exit, ↓condX_false, ↓iteB_true, h0, h4, h5, hr.lenI, c1, d1, d2]
          exact ⟨_, _, _, rfl, by simp, rfl, by simp only [upd_get, ↓reduceIte, Nat.reduceEqDiff, h2], vo, out, -1, by simp only [upd_get, ↓reduceIte, Nat.reduceEqDiff, h3], by simp only [upd_get, ↓reduceIte, Nat.reduceEqDiff, h4, hy], ho, old, hw, by omega, hd, by rw [← hy]; exact hval, .inr rfl⟩
        · left
          have s1 := floored_run (z := c) (by rcases hM with h | h | h <;> omega) (by rcases hM with h | h | h <;> omega) n H' hn
          have e0 : IntKind.i64.wrap (0 + c) = c := by rw [wr64 (by rcases hM with h | h | h <;> omega) (by rcases hM with h | h | h <;> omega)]; omega
          have e4 : IntKind.i64.wrap (0 + c / 100000000) = c / 100000000 := by rw [wr64 (by rcases hM with h | h | h <;> omega) (by rcases hM with h | h | h <;> omega)]; omega
          obtain ⟨v2, H2, ep, o2, old2, wf2⟩ := ho.pushI hw old.1 (by unfold maxA; omega) (c % 100000000)
          simp (disch := omega) only [Try.f83, Option.getD_some, atC, es_seq, es_region, es_cond, es_block, es_skip, ops_nil, ops_cons, ops_consG, st_move, st_assign, sy_pick, pickS_true, pickS_false, st_fun, sy_len uL, sy_bin, sy_append eL pI, sy_build1 eL oI, sy_ext, ext_20, ext_21, binS_lss, binS_neq, binS_add, bindO_some, bindF_some, bindX_normal, blkX_normal, condX_true, condX_false, iteB_true, ev_tmp, ev_const, ev_func, putA, upd_at, Option.map_some, ↓reduceIte, Nat.reduceEqDiff, List.map_cons, List.map_nil, decide_false, Bool.not_false, yieldO_eq, yO, yV_bool, List.getElem?_cons_zero, List.getElem?_cons_succ, beq_self_eq_true, ↓bindO_some, ↓bindF_some, ↓bindX_normal, ↓condX_true, ↓condX_false, ↓iteB_true, scal_vi, h0, h3, h4, h5, hr.lenI, c1, hz, hy, e0, s1, e4, e3, ep]
          refine ⟨_, _, rfl, q - 1, by rcases hM with h | h | h <;> omega, by simp only [upd_get, ↓reduceIte, Nat.reduceEqDiff, h0], by simp only [upd_get, ↓reduceIte, Nat.reduceEqDiff, h2], v2, out ++ [c % 100000000], c / 100000000, by simp only [upd_get, ↓reduceIte, Nat.reduceEqDiff], by simp only [upd_get, ↓reduceIte, Nat.reduceEqDiff], by simp only [upd_get, ↓reduceIte, List.length_append, List.length_singleton], o2, old.trans old2, wf2, by rw [List.length_append, List.length_singleton]; rcases hM with h | h | h <;> omega, hd.app (Dg.one (by omega) (by unfold B; omega)), by rw [List.take_of_length_le (by rw [List.length_append]; omega)]; exact carry_step _ hval, .inr ⟨by rw [List.length_append]; omega, ?_⟩⟩
          rcases hM with h | h | h
          · omega
          · exact .inl ⟨by omega, by omega⟩
          · exact .inr (.inl ⟨by omega, by omega, by omega⟩)
  · refine ⟨h0, h2, _, [], 0, h3, h4, h5, O.nil _ _, Old.refl _ _, hw, by simp, Dg.nil, by simp [val], ?_⟩
    by_cases hl0 : 0 < l.length
    · exact .inl ⟨by simpa using hl0, by simp, by omega, by omega⟩
    · have hl1 : l.length = 0 := by omega
      exact .inr ⟨by rw [hl1]; exact Nat.zero_le _, .inr (.inr ⟨by omega, by omega, by omega⟩)⟩
def cpl (l : List Int) (z : List Int) (i : Nat) : List Int := z ++ l.drop i
theorem cpl_get {l z : List Int} {i : Nat} (hz : z.length = i) (h : i < l.length) : (cpl l z i).getD i 0 = l.getD i 0 := by
  unfold cpl
  rw [List.getD_eq_getElem?_getD, List.getD_eq_getElem?_getD, List.getElem?_append_right (by omega), hz, Nat.sub_self, List.getElem?_drop, Nat.add_zero]
theorem cpl_set {l z : List Int} {i : Nat} (hz : z.length = i) (h : i < l.length) (x : Int) : (cpl l z i).set i x = cpl l (z ++ [x]) (i + 1) := by
  unfold cpl
  rw [List.set_append_right _ _ (by omega), hz, Nat.sub_self, drop_getD h, List.set_cons_zero]
  simp
theorem cpl_len {l z : List Int} {i : Nat} (hz : z.length = i) (h : i ≤ l.length) : (cpl l z i).length = l.length := by
  unfold cpl
  rw [List.length_append, List.length_drop]; omega
theorem read_loop2 {B0 : Nat} {H0 H : Heap} {vo p : Value} {out : List Int} (hB : B0 ≤ H.length) (ho : O B0 H vo (ints out)) (hd : Dg out) (old0 : Old B0 H0 H) (hw : WF H) (hol : out.length ≤ 1000) (call : CallF) (m nt : Nat) {a : Fr} {k : Nat} (hk : out.length < k)
    (h2 : a 2 = p) (h3 : a 3 = vo) (h10 : a 10 = vi 0) (h58 : a 58 = vo) (h59 : a 59 = vi (out.length : Nat)) (h60 : a 60 = vi (0 : Nat)) :
    ∃ x a' H', loopN (evS Try.prog call m nt none readB) k a H = some (x, a', H') ∧ x = .exit 2 ∧ a' 2 = p ∧ a' 3 = vo ∧ ∃ sz b, a' 10 = vi b ∧ O B0 H' vo (ints sz) ∧ Old B0 H0 H' ∧ WF H' ∧ sz.length = out.length ∧ Dg sz ∧ val sz = b * B ^ out.length - val out ∧ (b = 0 ∨ b = 1) ∧ H.length ≤ H'.length := by
  refine loop_up out.length (fun i a H' => a 2 = p ∧ a 3 = vo ∧ a 58 = vo ∧ a 59 = vi (out.length : Nat) ∧ a 60 = vi i ∧ H.length ≤ H'.length ∧ ∃ sz b, a 10 = vi b ∧ O B0 H' vo (ints (cpl out sz i)) ∧ Old B0 H0 H' ∧ WF H' ∧ sz.length = i ∧ Dg sz ∧ val sz = b * B ^ i - val (out.take i) ∧ (b = 0 ∨ b = 1)) _ ?_ ?_ hk
    ⟨h2, h3, h58, h59, h60, Nat.le_refl _, [], 0, h10, by simpa [cpl] using ho, old0, hw, rfl, Dg.nil, by simp [val], .inl rfl⟩
  · intro i a H' hi ⟨h2, h3, h58, h59, h60, hlen, sz, b, h10, ho, old, hw, hsl, hds, hval, hb⟩
    left
    rw [show readB = atC [1, 1, 1, 1, 1, 1, 0, 1, 0, 0] ((Try.f83.body).getD .skip) from rfl]
    have hx := hd.getD i
    have hr := ho.R
    have hcl := cpl_len hsl (by omega : i ≤ out.length)
    have hcg := cpl_get hsl hi
    have hlt : (i : Int) < out.length := by omega
    have e1 : IntKind.i64.wrap (0 - out.getD i 0) = - out.getD i 0 := by rw [wr64 (by omega) (by omega)]; omega
    have e2 : IntKind.i64.wrap (- out.getD i 0 - b) = - out.getD i 0 - b := wr64 (by omega) (by omega)
    have e3 : IntKind.i64.wrap ((i : Int) + 1) = ((i + 1 : Nat) : Int) := by rw [wr64 (by omega) (by omega)]; omega
    have a1 : addrS 1 vo (vi i) = some (pt vo i) := by have := hr.addrI (i := (i : Int)) (by omega) (by omega); simpa using this
    have l1 : loadS (pt vo i) H' = some (vi (out.getD i 0)) := by rw [hr.loadI (by omega), hcg]
    have hst := fun (b2 : Int) => compl_step (o := out.getD i 0) (b2 := b2) hsl (by rw [List.length_take]; omega) hval
    obtain ⟨H2, s2, o2, old2, wf2⟩ := ho.setI hw (i := i) (by omega) (- out.getD i 0 - b)
    rw [cpl_set hsl hi] at o2
    have l2 : loadS (pt vo i) H2 = some (vi (- out.getD i 0 - b)) := by
      rw [o2.R.loadI (by rw [cpl_len (by simp [hsl]) (by omega)]; omega)]
      unfold cpl
      rw [List.getD_eq_getElem?_getD, List.append_assoc, List.getElem?_append_right (by omega), hsl, Nat.sub_self]
      rfl
    by_cases hneg : - out.getD i 0 - b < 0
    · have e4 : IntKind.i64.wrap (- out.getD i 0 - b + 100000000) = - out.getD i 0 - b + 100000000 := wr64 (by omega) (by omega)
      obtain ⟨H3, s3, o3, old3, wf3⟩ := o2.setI wf2 (i := i) (by rw [cpl_len (by simp [hsl]) (by omega)]; omega) (- out.getD i 0 - b + 100000000)
      have e5 : (cpl out (sz ++ [- out.getD i 0 - b]) (i + 1)).set i (- out.getD i 0 - b + 100000000) = cpl out (sz ++ [- out.getD i 0 - b + 100000000]) (i + 1) := by
        unfold cpl
        rw [List.append_assoc, List.append_assoc, List.set_append_right _ _ (by omega), hsl, Nat.sub_self]; rfl
      rw [e5] at o3
      simp (disch := omega) only [Try.f83, Option.getD_some, atC, es_seq, es_region, es_cond, es_block, es_skip, ops_nil, ops_cons, st_move, st_assign, sy_addr eL, sy_load aI, sy_store zI, sy_bin, sy_neg, binS_lss, binS_add, binS_sub, bindO_some, bindF_some, bindX_normal, blkX_normal, condX_true, ev_tmp, ev_const, putA, upd_at, Option.map_some, ↓reduceIte, Nat.reduceEqDiff, decide_true, ↓bindO_some, ↓bindF_some, ↓bindX_normal, ↓condX_true, h3, h10, h58, h59, h60, hlt, a1, l1, e1, e2, s2, l2, hneg, e4, s3, e3]
      exact ⟨_, _, rfl, by simp only [upd_get, ↓reduceIte, Nat.reduceEqDiff, h2], by simp only [upd_get, ↓reduceIte, Nat.reduceEqDiff, h3], by simp only [upd_get, ↓reduceIte, Nat.reduceEqDiff, h58], by simp only [upd_get, ↓reduceIte, Nat.reduceEqDiff, h59], by simp only [upd_get, ↓reduceIte], Nat.le_trans hlen (Nat.le_trans old2.1 old3.1), _, 1, by simp only [upd_get, ↓reduceIte, Nat.reduceEqDiff], o3, (old.trans old2).trans old3, wf3, by simp [hsl], hds.app (Dg.one (by omega) (by unfold B; omega)), by rw [take_snoc' hi]; exact hst 1, .inr rfl⟩
    · simp (disch := omega) only [Try.f83, Option.getD_some, atC, es_seq, es_region, es_cond, es_block, es_skip, ops_nil, ops_cons, st_move, st_assign, sy_addr eL, sy_load aI, sy_store zI, sy_bin, sy_neg, binS_lss, binS_add, binS_sub, bindO_some, bindF_some, bindX_normal, blkX_normal, condX_true, condX_false, ev_tmp, ev_const, putA, upd_at, Option.map_some, ↓reduceIte, Nat.reduceEqDiff, decide_true, decide_false, ↓bindO_some, ↓bindF_some, ↓bindX_normal, ↓condX_true, ↓condX_false, h3, h10, h58, h59, h60, hlt, a1, l1, e1, e2, s2, l2, hneg, e3]
      exact ⟨_, _, rfl, by simp only [upd_get, ↓reduceIte, Nat.reduceEqDiff, h2], by simp only [upd_get, ↓reduceIte, Nat.reduceEqDiff, h3], by simp only [upd_get, ↓reduceIte, Nat.reduceEqDiff, h58], by simp only [upd_get, ↓reduceIte, Nat.reduceEqDiff, h59], by simp only [upd_get, ↓reduceIte], Nat.le_trans hlen old2.1, _, 0, by simp only [upd_get, ↓reduceIte, Nat.reduceEqDiff], o2, old.trans old2, wf2, by simp [hsl], hds.app (Dg.one (by omega) (by unfold B; omega)), by rw [take_snoc' hi]; have := hst 0; simpa using this, .inl rfl⟩
  · intro a H' ⟨h2, h3, h58, h59, h60, hlen, sz, b, h10, ho, old, hw, hsl, hds, hval, hb⟩
    rw [show readB = atC [1, 1, 1, 1, 1, 1, 0, 1, 0, 0] ((Try.f83.body).getD .skip) from rfl]
    simp (disch := omega) only [Try.f83, Option.getD_some, atC, es_seq, es_region, es_cond, es_exit, ops_nil, ops_cons, sy_bin, binS_lss, bindO_some, bindF_some, bindX_normal, bindX_exit, condX_false, ev_tmp, putA, upd_at, ↓reduceIte, decide_false, ↓bindO_some, ↓bindF_some, ↓bindX_normal, ↓bindX_exit, ↓condX_false, h59, h60, Int.lt_irrefl]
    have e0 : cpl out sz out.length = sz := by unfold cpl; rw [List.drop_length, List.append_nil]
    rw [e0] at ho
    exact ⟨_, _, _, rfl, by simp, rfl, by simp only [upd_get, ↓reduceIte, Nat.reduceEqDiff, h2], by simp only [upd_get, ↓reduceIte, Nat.reduceEqDiff, h3], sz, b, by simp only [upd_get, ↓reduceIte, Nat.reduceEqDiff, h10], ho, old, hw, hsl, hds, by rw [hval, List.take_length], hb, hlen⟩
theorem nf_natAbs_pos {z : Int} (h : 0 ≤ z) : nf z.natAbs = nf z := by rw [natAbs_pos h]
theorem read_run {H : Heap} {v : Value} {z : Int} (hw : WF H) (hv : NumV H v z) (n : Nat) (hn : 2001 ≤ n) :
    OneW H (evB Try.prog noC n (.func (.func 83) #[] #[]) [v] H) z := by
  obtain ⟨l, hr, hz, hl, hb⟩ := hv
  refine run_of (F := 2000) (Q := fun r => OneW H r z) (fun n hn => ?_) n hn
  rw [body_runS Try.func83 rfl (ok_fn (by rfl) Try.func83 rfl) (Nat.le_of_ble_eq_true rfl) (D := D0) (by kernel_rfl)]
  have oldb := Old.app H [.cells H.length true [.bool false, .slice none 0 0]]
  have wfb := hw.app (Nat.le_refl H.length) (o := true) (cs := [.bool false, .slice none 0 0])
  have bx := BxM.made (B := H.length) (H := H) (Nat.le_refl _) [.bool false, .slice none 0 0]
  have key1 := fun (A : Fr) => read_loop1 (p := ptrA H.length 0) hr oldb wfb hl hb n n Try.f83.ntmps (by omega) (a := A) (k := n) (by omega)
  have key2 := fun (A : Fr) {B0 : Nat} {H0 H1 : Heap} {vo : Value} {out : List Int} (hol : out.length ≤ 902) (hB : B0 ≤ H1.length) (ho : O B0 H1 vo (ints out)) (hd : Dg out) (old0 : Old B0 H0 H1) (hw : WF H1) => read_loop2 (p := ptrA H.length 0) hB ho hd old0 hw (by omega) (evB Try.prog noC n) n Try.f83.ntmps (a := A) (k := n) (by omega)
  rw [show readA_ = atC [1, 1, 1, 0, 1, 0, 0] ((Try.f83.body).getD .skip) from rfl] at key1
  rw [show readB = atC [1, 1, 1, 1, 1, 1, 0, 1, 0, 0] ((Try.f83.body).getD .skip) from rfl] at key2
  simp only [Try.f83, Option.getD_some, atC] at key1 key2
  simp (disch := omega) only [Try.f83, es_seq, es_region, es_cond, es_block, es_loop, es_skip, es_ret, ops_nil, ops_cons, st_move, st_assign, st_fun, sy_len uL, sy_bin, sy_append eL pI, sy_build1 eL oI, bindO_some, bindF_some, bindX_normal, ev_tmp, ev_const, ev_func, putA, upd_at, ↓reduceIte, Nat.reduceEqDiff, List.map_cons, List.map_nil, ↓bindO_some, ↓bindF_some, ↓bindX_normal, scal_vi, sy_storeN zW, sy_alloc iW scal_agg, sy_build]
  generalize hA : upd _ 5 _ = A
  obtain ⟨x, a1, H1, e1, hx, g2, vo, out, c, h3, h4, o1, old1, wf1, hol, hd, hval, hc⟩ := key1 A (by subst hA; rfl) (by subst hA; rfl) (by subst hA; rfl) (by subst hA; rfl) (by subst hA; rfl)
  subst hx
  rw [e1]
  clear key1 e1
  have bx1 := bx.mono old1
  rcases hc with rfl | rfl
  · rw [Int.mul_zero, Int.add_zero] at hval
    obtain ⟨v3, s3, r3⟩ := trimmed_run o1.RO (by omega) n (by omega)
    obtain ⟨H4, s4, bx4, old4, wf4, keep4⟩ := bx1.store wf1 (vs := [.bool false, v3]) rfl
    have s5 : loadN 2 (ptrA H.length 0) H4 = some (.agg #[.bool false, v3]) := bx4.loadAll
    have s4 : storeN 2 (ptrA H.length 0) (.agg #[.bool false, v3]) H1 = some H4 := s4
    have hz0 : 0 ≤ z := by have := hd.val; omega
    simp (disch := omega) only [binS_eql, bindO_some, bindF_some, bindX_normal, bindX_ret, blkX_exit, condX_true, upd_at, Option.map_some, ↓reduceIte, Nat.reduceEqDiff, decide_true, ↓bindO_some, ↓bindF_some, ↓bindX_normal, ↓bindX_ret, ↓condX_true, fin_r, res_nil, pack_1, res_cell aW zW, g2, h3, h4, s3, bW1 v3 r3.R.scal, s4, s5]
    have hzp : decide (z < 0) = false := by simp; omega
    refine ⟨_, _, rfl, ⟨v3, by rw [hzp], ?_⟩, (oldb.trans (old1.mono oldb.1)).trans old4, wf4⟩
    rw [nf_natAbs_pos hz0, ← nf_of_digs hd (hval.trans hz)]
    exact (r3.kept keep4).below oldb.1
  · have hneg := hd.val
    have hz1 : ¬ (-1 : Int) = 0 := by omega
    have hrl := o1.R.lenI
    simp (disch := omega) only [binS_eql, bindO_some, bindF_some, bindX_normal, blkX_exit, condX_false, upd_at, Option.map_some, ↓reduceIte, Nat.reduceEqDiff, decide_false, ↓bindO_some, ↓bindF_some, ↓bindX_normal, ↓condX_false, h3, h4, hz1, hrl]
    generalize hA : upd _ 60 _ = A
    obtain ⟨x, a2, H2, e2, hx, g2', g3, sz, b, h10, o2, old2, wf2, hsl, hds, hvs, hb', hlen2⟩ := key2 A (H0 := H ++ [.cells H.length true [.bool false, .slice none 0 0]]) (by omega) old1.1 o1 hd old1 wf1 (by subst hA; exact g2) (by subst hA; exact h3) (by subst hA; rfl) (by subst hA; rfl) (by subst hA; rfl) (by subst hA; rfl)
    subst hx
    rw [e2]
    clear key2 e2
    have bx2 := bx.mono old2
    have fin : ∀ (H3 : Heap) (v3 : Value) (l3 : List Int), RO (H ++ [Blk.cells H.length true [.bool false, .slice none 0 0]]).length H3 v3 (ints l3) → WF H3 → Old (H ++ [Blk.cells H.length true [.bool false, .slice none 0 0]]).length H2 H3 → Dg l3 → l3.length ≤ 1000 → val l3 = -z → ∃ v4 H4, evB Try.prog noC n (.func (.func 114) #[] #[]) [v3] H3 = some (v4, H3) ∧ Abs.scal v4 = some [v4] ∧ storeN 2 (ptrA H.length 0) (.agg #[.bool true, v4]) H3 = some H4 ∧ loadN 2 (ptrA H.length 0) H4 = some (.agg #[.bool true, v4]) ∧ RO H.length H4 v4 (ints (nf z.natAbs)) ∧ Old H.length H H4 ∧ WF H4 := by
      intro H3 v3 l3 r3 wf3 old3 hd3 hl3 hv3
      obtain ⟨v4, s4, r4⟩ := trimmed_run r3 hl3 n (by omega)
      obtain ⟨H4, s5, bx5, old5, wf5, keep5⟩ := (bx2.mono old3).store wf3 (vs := [.bool true, v4]) rfl
      have s6 := bx5.loadAll
      refine ⟨v4, H4, s4, r4.R.scal, s5, s6, ?_, ((oldb.trans (old2.mono oldb.1)).trans (old3.mono oldb.1)).trans old5, wf5⟩
      have hv := hd3.val
      rw [show ((z.natAbs : Nat) : Int) = -z from by omega, ← nf_of_digs hd3 hv3]
      exact (r4.kept keep5).below oldb.1
    have hzneg : decide (z < 0) = true := by simp; omega
    rcases hb' with rfl | rfl
    · obtain ⟨v5, H5, s5, o5, old5, wf5⟩ := o2.pushI wf2 (Nat.le_trans old1.1 hlen2) (by unfold maxA; omega) 1
      obtain ⟨v4, H4, s4, sc4, s6, s7, r4, old4, wf4⟩ := fin H5 v5 _ o5.RO wf5 old5 (hds.app (Dg.one (by omega) (by unfold B; omega))) (by rw [List.length_append, List.length_singleton]; omega) (by rw [val_snoc, hvs, hsl]; omega)
      simp (disch := omega) only [binS_eql, bindO_some, bindF_some, bindX_normal, blkX_exit, condX_true, upd_at, Option.map_some, ↓reduceIte, Nat.reduceEqDiff, decide_true, ↓bindO_some, ↓bindF_some, ↓bindX_normal, ↓condX_true, fin_r, res_nil, pack_1, res_cell aW zW, g2', g3, h10, s5, s4, bW2 true v4 sc4, s6, s7]
      exact ⟨_, _, rfl, ⟨v4, by rw [hzneg], r4⟩, old4, wf4⟩
    · obtain ⟨v4, H4, s4, sc4, s6, s7, r4, old4, wf4⟩ := fin H2 vo _ o2.RO wf2 (Old.refl _ _) hds (by omega) (by rw [hvs]; omega)
      have hone : ¬ (1 : Int) = 0 := by omega
      simp (disch := omega) only [binS_eql, bindO_some, bindF_some, bindX_normal, blkX_exit, condX_false, upd_at, Option.map_some, ↓reduceIte, Nat.reduceEqDiff, decide_false, ↓bindO_some, ↓bindF_some, ↓bindX_normal, ↓condX_false, fin_r, res_nil, pack_1, res_cell aW zW, g2', g3, h10, hone, s4, bW2 true v4 sc4, s6, s7]
      exact ⟨_, _, rfl, ⟨v4, by rw [hzneg], r4⟩, old4, wf4⟩
end Go.Proofs.Ytmmgdgmjkhcfaaa
namespace Go.Proofs.Ytmmgdgmjkhcfaaa
open Go Go.Abs Go.Num
set_option maxRecDepth 10000
attribute [local congr] bindO_congr bindF_congr bindX_congr condX_congr iteB_congr binS_congr pickS_congr eqB_congr nilS_congr
theorem clone_run {H : Heap} {v : Value} {l : List Int} (hw : WF H) (hv : R H v (ints l)) (hl : l.length ≤ 10000) (n : Nat) (hn : 10 ≤ n) : OneL H (evB Try.prog noC n (.func (.func 61) #[] #[]) [v] H) l := by
  refine run_of (F := 9) (Q := fun x => OneL H x l) (fun n hn => ?_) n hn
  rw [body_runS Try.func61 rfl (ok_fn (by rfl) Try.func61 rfl) (Nat.le_of_ble_eq_true rfl) (D := D0) (by kernel_rfl)]
  have old1 := Old.app H [.cells H.length true []]
  obtain ⟨v2, H2, s2, o2, old2, wf2⟩ := (O.empty (H := H) (Nat.le_refl H.length)).app (hw.app (Nat.le_refl _)) (by simp) (hv.mono old1) (by rw [ints_len]; simp [maxA]; omega)
  have fin : nilS v H (rest none) = some (.bool false, H) → OneL H (some (v2, H2)) l := fun _ => ⟨_, _, rfl, o2, old1.trans old2, wf2⟩
  rcases hv with ⟨rfl, hl0⟩ | ⟨rfl, hl0⟩ | ⟨b, o, f, w, cs, rfl, h⟩
  · have : l = [] := by simpa [ints] using hl0
    subst this
    have hn : ∀ r, nilS (.slice none 0 0) H r = some (.bool true, H) := fun _ => rfl
    simp only [Try.f61, es_seq, es_region, es_cond, es_ret, ops_nil, ops_cons, st_move, st_assign, ↓sy_nil uL, hn, bindO_some, bindF_some, bindX_normal, bindX_ret, condX_true, ev_tmp, ev_const, putA, upd_at, frOf_0, ↓reduceIte, Nat.reduceEqDiff, fin_r, res_nil, res_tmp, pack_1, scal_nil, Option.map_some]
    exact ⟨_, _, rfl, O.nil _ _, Old.refl _ _, hw⟩
  · have hn : ∀ r, nilS lostSlice H r = some (.bool false, H) := fun _ => rfl
    simp only [Try.f61, es_seq, es_region, es_cond, es_ret, es_skip, ops_nil, ops_cons, st_move, st_assign, ↓sy_nil uL, hn, bindO_some, bindF_some, bindX_normal, condX_false, ev_tmp, ev_const, putA, upd_at, frOf_0, ↓reduceIte, Nat.reduceEqDiff, sy_build0 eL nI, sy_append eL pI, s2, o2.R.scal, fin_r, res_nil, res_tmp, pack_1, Option.map_some]
    exact ⟨_, _, rfl, o2, old1.trans old2, wf2⟩
  · have hn : ∀ r, nilS (sliceA b o (ints l).length 1) H r = some (.bool false, H) := fun _ => rfl
    simp only [Try.f61, es_seq, es_region, es_cond, es_ret, es_skip, ops_nil, ops_cons, st_move, st_assign, ↓sy_nil uL, hn, bindO_some, bindF_some, bindX_normal, condX_false, ev_tmp, ev_const, putA, upd_at, frOf_0, ↓reduceIte, Nat.reduceEqDiff, sy_build0 eL nI, sy_append eL pI, s2, o2.R.scal, fin_r, res_nil, res_tmp, pack_1, Option.map_some]
    exact ⟨_, _, rfl, o2, old1.trans old2, wf2⟩
noncomputable def listA : Code := atC [1, 1, 0, 1, 0, 1, 0, 0] ((Try.f86.body).getD .skip)
theorem list_loop {B0 : Nat} {H0 : Heap} {v : Value} {l : List Int} (call : CallF) (m nt : Nat) {a : Fr} {H : Heap} {k : Nat} (hk : l.length < k) (hl : l.length ≤ 1000) (hb : ∀ x ∈ l, -4000000000000000000 ≤ x ∧ x ≤ 4000000000000000000)
    (ho : O B0 H v (ints l)) (old : Old B0 H0 H) (hw : WF H) (h3 : a 3 = v) (h11 : a 11 = vi l.length) (h12 : a 12 = vi (0 : Nat)) :
    ∃ x a' H', loopN (evS Try.prog call m nt none listA) k a H = some (x, a', H') ∧ x = .exit 0 ∧ O B0 H' v (ints (l.map (- ·))) ∧ Old B0 H0 H' ∧ WF H' ∧ a' 3 = v := by
  refine loop_up l.length (fun i a H' => a 3 = v ∧ a 11 = vi l.length ∧ a 12 = vi i ∧ O B0 H' v (ints (negI l i)) ∧ Old B0 H0 H' ∧ WF H') _ ?_ ?_ hk ⟨h3, h11, h12, by rw [negI_0]; exact ho, old, hw⟩
  · intro i a H' hi ⟨h3, h11, h12, ho, old, hw⟩
    left
    rw [show listA = atC [1, 1, 0, 1, 0, 1, 0, 0] ((Try.f86.body).getD .skip) from rfl]
    have hlen := negI_len l i
    have hx := hb _ (getD_mem hi)
    have e1 := negI_get hi
    have e2 : IntKind.i64.wrap (0 - l.getD i 0) = - l.getD i 0 := by rw [wr64 (by omega) (by omega)]; omega
    obtain ⟨H2, es, o2, old2, wf2⟩ := ho.setI hw (i := i) (by omega) (- l.getD i 0)
    have e3 : IntKind.i64.wrap ((i : Int) + 1) = ((i + 1 : Nat) : Int) := by rw [wr64 (by omega) (by omega)]; omega
    have hr := ho.R
    have hlt : (i : Int) < l.length := by omega
    simp (disch := omega) only [Try.f86, Option.getD_some, atC, es_seq, es_region, es_cond, es_block, es_skip, ops_nil, ops_cons, st_move, st_assign, sy_addr eL, sy_load aI, sy_store zI, sy_bin, sy_neg, binS_lss, binS_add, bindO_some, bindF_some, bindX_normal, blkX_normal, condX_true, ev_tmp, ev_const, putA, upd_at, Option.map_some, ↓reduceIte, Nat.reduceEqDiff, Int.toNat_natCast, decide_true, ↓bindO_some, ↓bindF_some, ↓bindX_normal, ↓condX_true, h3, h11, h12, hlt, hr.addrI, hr.loadI, e1, e2, es, e3]
    exact ⟨_, _, rfl, by simp only [upd_get, ↓reduceIte, Nat.reduceEqDiff, h3], by simp only [upd_get, ↓reduceIte, Nat.reduceEqDiff, h11], by simp only [upd_get, ↓reduceIte], by rw [← negI_set hi]; exact o2, old.trans old2, wf2⟩
  · intro a H' ⟨h3, h11, h12, ho, old, hw⟩
    rw [show listA = atC [1, 1, 0, 1, 0, 1, 0, 0] ((Try.f86.body).getD .skip) from rfl]
    simp (disch := omega) only [Try.f86, Option.getD_some, atC, es_seq, es_region, es_cond, es_exit, ops_nil, ops_cons, sy_bin, binS_lss, bindO_some, bindF_some, bindX_normal, bindX_exit, condX_false, ev_tmp, putA, upd_at, ↓reduceIte, decide_false, ↓bindO_some, ↓bindF_some, ↓bindX_normal, ↓bindX_exit, ↓condX_false, h11, h12, Int.lt_irrefl]
    exact ⟨_, _, _, rfl, by simp, rfl, by rw [← negI_all]; exact ho, old, hw, by simp only [upd_get, ↓reduceIte, Nat.reduceEqDiff, h3]⟩
theorem list_run {H : Heap} {w : Value} {z : Int} (hw : WF H) {C : Nat} (hv : Wh C H w z) (hl : (nf z.natAbs).length ≤ 900) (n : Nat) (hn : 1010 ≤ n) :
    OneL H (evB Try.prog noC n (.func (.func 86) #[] #[]) [w] H) (nf z) := by
  obtain ⟨v, rfl, hr⟩ := hv
  have hr := hr.R
  generalize hnb : decide (z < 0) = nb
  refine run_of (F := 1009) (Q := fun r => OneL H r (nf z)) (fun n hn => ?_) n hn
  rw [body_runS Try.func86 rfl (ok_fn (by rfl) Try.func86 rfl) (Nat.le_of_ble_eq_true rfl) (D := D0) (by kernel_rfl)]
  have oldb := Old.app H [.cells H.length true [.bool nb, v]]
  have wfb := hw.app (Nat.le_refl H.length) (o := true) (cs := [.bool nb, v])
  have bb := BxM.made (B := H.length) (H := H) (Nat.le_refl _) [.bool nb, v]
  obtain ⟨v1, H1, s1, o1, old1, wf1⟩ := clone_run wfb (hr.mono oldb) (by omega) n (by omega)
  have f0 := bb.faddr 0
  have f1 := bb.faddr 1
  have l1 : loadS (bx (ptrA H.length 0) 1) (H ++ [.cells H.length true [.bool nb, v]]) = some v := bb.load 1
  have l0 : loadS (bx (ptrA H.length 0) 0) H1 = some (.bool nb) := (bb.mono old1).load 0
  have old01 := oldb.trans (old1.mono oldb.1)
  cases nb with
  | true =>
    have hz : z < 0 := by simpa using hnb
    have hlen := o1.R.lenI
    have key := fun (A : Fr) => list_loop (evB Try.prog noC n) n Try.f86.ntmps (a := A) (k := n) (by omega) (by omega) (nfb _) o1 old1 wf1
    rw [show listA = atC [1, 1, 0, 1, 0, 1, 0, 0] ((Try.f86.body).getD .skip) from rfl] at key
    simp only [Try.f86, Option.getD_some, atC] at key
    simp (disch := omega) only [Try.f86, es_seq, es_region, es_cond, es_block, es_loop, es_skip, es_ret, ops_nil, ops_cons, st_move, st_assign, st_fun, sy_len uL, sy_bin, bindO_some, bindF_some, bindX_normal, condX_true, ev_tmp, ev_const, ev_func, putA, upd_at, Option.map_some, ↓reduceIte, Nat.reduceEqDiff, frOf_0, List.map_cons, List.map_nil, ↓bindO_some, ↓bindF_some, ↓bindX_normal, ↓condX_true, sy_load aL, sy_load aB, sy_faddr fW0, sy_faddr fW1, sy_box, scal_agg, f0, f1, l1, s1, l0, hlen]
    generalize hA : upd _ 12 _ = A
    obtain ⟨r, a', H', e, hr', o2, old2, wf2, h3⟩ := key A (by subst hA; rfl) (by subst hA; rfl) (by subst hA; rfl)
    subst hr'
    rw [e]
    have hlen2 := o2.R.lenI
    rw [List.length_map] at hlen2
    have hne : (nf z.natAbs).length ≠ 0 := fun h => by have := nf_nil.1 (List.eq_nil_of_length_eq_zero h); omega
    have c1 : ¬ ((nf z.natAbs).length : Int) = 0 := by omega
    simp (disch := omega) only [binS_eql, bindO_some, bindF_some, bindX_normal, blkX_exit, condX_false, upd_at, Option.map_some, ↓reduceIte, Nat.reduceEqDiff, decide_false, ↓bindO_some, ↓bindF_some, ↓bindX_normal, ↓condX_false, fin_r, res_nil, res_tmp, pack_1, h3, hlen2, c1, o2.R.scal]
    refine ⟨_, _, rfl, ?_, oldb.trans (old2.mono oldb.1), wf2⟩
    rw [show nf z = (nf z.natAbs).map (- ·) from by rw [nf_neg']; congr 1; omega]
    exact o2.below oldb.1
  | false =>
    have hz : ¬ z < 0 := by simpa using hnb
    have hlen := o1.R.lenI
    rw [nf_natAbs_pos (by omega)] at o1 hlen hl
    by_cases hne : (nf z).length = 0
    · have c1 : (((nf z).length : Nat) : Int) = 0 := by omega
      have hnil := List.eq_nil_of_length_eq_zero hne
      simp (disch := omega) only [Try.f86, es_seq, es_region, es_cond, es_skip, es_ret, ops_nil, ops_cons, st_move, st_assign, st_fun, sy_len uL, sy_bin, binS_eql, bindO_some, bindF_some, bindX_normal, bindX_ret, condX_true, condX_false, ev_tmp, ev_const, ev_func, putA, upd_at, Option.map_some, ↓reduceIte, Nat.reduceEqDiff, frOf_0, List.map_cons, List.map_nil, decide_true, ↓bindO_some, ↓bindF_some, ↓bindX_normal, ↓bindX_ret, ↓condX_true, ↓condX_false, fin_r, res_nil, res_tmp, pack_1, scal_nil, sy_load aL, sy_load aB, sy_faddr fW0, sy_faddr fW1, sy_box, scal_agg, f0, f1, l1, s1, l0, hlen, c1]
      rw [hnil]
      exact ⟨_, _, rfl, O.nil _ _, old01, wf1⟩
    · have c1 : ¬ (((nf z).length : Nat) : Int) = 0 := by omega
      simp (disch := omega) only [Try.f86, es_seq, es_region, es_cond, es_skip, es_ret, ops_nil, ops_cons, st_move, st_assign, st_fun, sy_len uL, sy_bin, binS_eql, bindO_some, bindF_some, bindX_normal, condX_false, ev_tmp, ev_const, ev_func, putA, upd_at, Option.map_some, ↓reduceIte, Nat.reduceEqDiff, frOf_0, List.map_cons, List.map_nil, decide_false, ↓bindO_some, ↓bindF_some, ↓bindX_normal, ↓condX_false, fin_r, res_nil, res_tmp, pack_1, sy_load aL, sy_load aB, sy_faddr fW0, sy_faddr fW1, sy_box, scal_agg, f0, f1, l1, s1, l0, hlen, c1, o1.R.scal]
      exact ⟨_, _, rfl, o1.below oldb.1, old01, wf1⟩
theorem small_run {H : Heap} {z : Int} (hw : WF H) (h1 : -4000000000000000000 ≤ z) (h2 : z ≤ 4000000000000000000) (n : Nat) (hn : 2002 ≤ n) :
    OneW H (evB Try.prog noC n (.func (.func 110) #[] #[]) [vi z] H) z := by
  refine run_of (F := 2001) (Q := fun r => OneW H r z) (fun n hn => ?_) n hn
  rw [body_runS Try.func110 rfl (ok_fn (by rfl) Try.func110 rfl) (Nat.le_of_ble_eq_true rfl) (D := D0) (by kernel_rfl)]
  have oldb := Old.app H [.cells H.length true [.bool false, .slice none 0 0]]
  have wfb := hw.app (Nat.le_refl H.length) (o := true) (cs := [.bool false, .slice none 0 0])
  have bb := BxM.made (B := H.length) (H := H) (Nat.le_refl _) [.bool false, .slice none 0 0]
  have oldc := Old.app (H ++ [.cells H.length true [.bool false, .slice none 0 0]]) [.cells (H ++ [Blk.cells H.length true [.bool false, .slice none 0 0]]).length true [vi z]]
  obtain ⟨w, H2, s2, ⟨v, rfl, hv⟩, old2, wf2⟩ := read_run (wfb.app (Nat.le_refl _)) (.one (R.push (f := (H ++ [Blk.cells H.length true [.bool false, .slice none 0 0]]).length) (c := vi z)) h1 h2) n (by omega)
  have old12 := oldc.trans (old2.mono oldc.1)
  obtain ⟨H3, s3, bb3, old3, wf3, keep3⟩ := (bb.mono old12).store wf2 (vs := [.bool (decide (z < 0)), v]) rfl
  have s3 : storeN 2 (ptrA H.length 0) (.agg #[.bool (decide (z < 0)), v]) H2 = some H3 := s3
  have s4 : loadN 2 (ptrA H.length 0) H3 = some (.agg #[.bool (decide (z < 0)), v]) := bb3.loadAll
  simp (disch := omega) only [Try.f110, es_seq, es_region, es_ret, ops_nil, ops_cons, st_move, st_fun, sy_build1 eL oI, bindO_some, bindF_some, bindX_normal, ev_tmp, ev_func, putA, upd_at, Option.map_some, ↓reduceIte, Nat.reduceEqDiff, frOf_0, List.map_cons, List.map_nil, ↓bindO_some, ↓bindF_some, ↓bindX_normal, fin_r, res_nil, pack_1, scal_vi, sy_storeN zW, sy_alloc iW scal_agg, res_cell aW zW, s2, s3, s4]
  exact ⟨_, _, rfl, ⟨v, rfl, ((hv.below oldc.1).kept keep3).below oldb.1⟩, (oldb.trans (old12.mono oldb.1)).trans old3, wf3⟩
end Go.Proofs.Ytmmgdgmjkhcfaaa
namespace Go.Proofs.Ytmmgdgmjkhcfaaa
open Go Go.Abs Go.Num
set_option maxRecDepth 10000
attribute [local congr] bindO_congr bindF_congr bindX_congr condX_congr iteB_congr binS_congr pickS_congr eqB_congr nilS_congr clsW_congr maxS_congr minS_congr
theorem zIn : ∀ n : Nat, zeros Try.prog 3 1 n = some (ints (List.replicate n 0)) := by
  have hr : ∀ n : Nat, repl n [vi 0] = ints (List.replicate n 0) := by
    intro n
    induction n with
    | zero => rfl
    | succ n ih => rw [repl, ih, List.replicate_succ]; rfl
  have h1 : ∀ n : Nat, zeros Try.prog 3 1 n = some (repl n [vi 0]) := by
    intro n
    have hz : zeroT Try.prog 3 = some (vi 0) := by kernel_rfl
    unfold zeros
    rw [hz]
    rfl
  intro n
  rw [h1, hr]
theorem uHH : Try.prog.underlying 60 = some (.slice 66) := by kernel_rfl
theorem eHH : sliceElem Try.prog 60 = some (66, 2) := by kernel_rfl
theorem oHH : zeros Try.prog 66 2 1 = some [.slice none 0 0, vi 0] := by kernel_rfl
theorem pHH : ((bytesT Try.prog 66).isSome && decide ((bytesT Try.prog 66).getD 0 ≤ maxA) && (zeros Try.prog 66 2 1).isSome) = true := by kernel_rfl
theorem iHk : zeroT Try.prog 66 = some (.agg #[.slice none 0 0, vi 0]) := by kernel_rfl
theorem uHk : Try.prog.underlying 66 = some (.struct (sfs 66)) := by kernel_rfl
theorem zHk : sizesOf Try.prog (sfs 66).toList = some [(0, 1), (1, 1)] := by kernel_rfl
theorem bHk (v : Value) (z : Int) (h : scal v = some [v]) : buildA Try.prog 66 [(0, v), (1, vi z)] = some (.agg #[v, vi z]) := by
  have hz : scal (vi z) = some [vi z] := rfl
  simp only [buildA, iHk, uHk, zHk, fillL, h, hz]
  rfl
theorem sHk {v : Value} {z : Int} : scal (.agg #[v, vi z]) = some [v, vi z] := (rfl)
noncomputable def ixA : Code := atC [1, 0, 1, 0, 0] ((Try.f132.body).getD .skip)
theorem index_run {H : Heap} {v : Value} {l : List Int} (hv : R H v (ints l)) (hl : l.length ≤ 1000) (x : Int) (n : Nat) (hn : 1010 ≤ n) : ∃ r, evB Try.prog noC n (.func (.func 132) #[] #[]) [v, vi x] H = some (vi r, H) ∧ (0 ≤ r ↔ x ∈ l) := by
  refine run_of (F := 1009) (Q := fun q => ∃ r, q = some (vi r, H) ∧ (0 ≤ r ↔ x ∈ l)) (fun n hn => ?_) n hn
  rw [body_runS Try.func132 rfl (ok_fn (by rfl) Try.func132 rfl) (Nat.le_of_ble_eq_true rfl) (D := D0) (by kernel_rfl)]
  have key : ∀ A : Fr, A 0 = v → A 1 = vi x → A 7 = vi l.length → A 8 = vi (0 : Nat) → ∃ r a' H', loopN (evS Try.prog (evB Try.prog noC n) n Try.f132.ntmps none ixA) n A H = some (r, a', H') ∧ H' = H ∧ ((r = .exit 0 ∧ x ∉ l) ∨ (r = .ret ∧ x ∈ l ∧ ∃ i : Nat, a' 4 = vi i)) := by
    intro A h0 h1 h7 h8
    refine loop_up l.length (fun i a H' => H' = H ∧ a 0 = v ∧ a 1 = vi x ∧ a 7 = vi l.length ∧ a 8 = vi i ∧ ∀ t, t < i → x ≠ l.getD t 0) _ ?_ ?_ (by omega) ⟨rfl, h0, h1, h7, h8, fun t ht => by omega⟩
    · intro i a H' hi ⟨hH, h0, h1, h7, h8, ht⟩
      subst hH
      rw [show ixA = atC [1, 0, 1, 0, 0] ((Try.f132.body).getD .skip) from rfl]
      have hlt : (i : Int) < l.length := by omega
      have e1 : IntKind.i64.wrap ((i : Int) + 1) = ((i + 1 : Nat) : Int) := by rw [wr64 (by omega) (by omega)]; omega
      by_cases hx : x = l.getD i 0
      · right
        have c1 : decide (x = l.getD i 0) = true := decide_eq_true hx
        simp (disch := omega) only [Try.f132, Option.getD_some, atC, es_seq, es_region, es_cond, es_block, es_skip, es_ret, ops_nil, ops_cons, st_move, st_assign, sy_addr eL, sy_load aI, sy_bin, binS_lss, binS_eql, bindO_some, bindF_some, bindX_normal, bindX_ret, blkX_ret, condX_true, ev_tmp, putA, upd_at, Option.map_some, ↓reduceIte, Nat.reduceEqDiff, Int.toNat_natCast, decide_true, ↓bindO_some, ↓bindF_some, ↓bindX_normal, ↓bindX_ret, ↓condX_true, h0, h1, h7, h8, hlt, hv.addrI, hv.loadI, c1]
        exact ⟨_, _, _, rfl, by simp, rfl, .inr ⟨rfl, by rw [hx]; exact getD_mem hi, i, rfl⟩⟩
      · left
        have c1 : decide (x = l.getD i 0) = false := decide_eq_false hx
        simp (disch := omega) only [Try.f132, Option.getD_some, atC, es_seq, es_region, es_cond, es_block, es_skip, ops_nil, ops_cons, st_move, st_assign, sy_addr eL, sy_load aI, sy_bin, binS_lss, binS_eql, binS_add, bindO_some, bindF_some, bindX_normal, blkX_normal, condX_true, condX_false, ev_tmp, ev_const, putA, upd_at, Option.map_some, ↓reduceIte, Nat.reduceEqDiff, Int.toNat_natCast, decide_true, ↓bindO_some, ↓bindF_some, ↓bindX_normal, ↓condX_true, ↓condX_false, h0, h1, h7, h8, hlt, hv.addrI, hv.loadI, c1, e1]
        refine ⟨_, _, rfl, rfl, h0, h1, h7, rfl, fun t h => ?_⟩
        by_cases e : t = i
        · subst e; exact hx
        · exact ht t (by omega)
    · intro a H' ⟨hH, h0, h1, h7, h8, ht⟩
      subst hH
      rw [show ixA = atC [1, 0, 1, 0, 0] ((Try.f132.body).getD .skip) from rfl]
      simp (disch := omega) only [Try.f132, Option.getD_some, atC, es_seq, es_region, es_cond, es_exit, ops_nil, ops_cons, sy_bin, binS_lss, bindO_some, bindF_some, bindX_normal, bindX_exit, condX_false, ev_tmp, putA, upd_at, ↓reduceIte, decide_false, ↓bindO_some, ↓bindF_some, ↓bindX_normal, ↓bindX_exit, ↓condX_false, h7, h8, Int.lt_irrefl]
      refine ⟨_, _, _, rfl, by simp, rfl, .inl ⟨rfl, fun hm => ?_⟩⟩
      obtain ⟨t, ht', e⟩ := List.getElem_of_mem hm
      have := ht t ht'
      rw [List.getD_eq_getElem?_getD, List.getElem?_eq_getElem ht'] at this
      exact this (by simp only [Option.getD_some]; exact e.symm)
  rw [show ixA = atC [1, 0, 1, 0, 0] ((Try.f132.body).getD .skip) from rfl] at key
  simp only [Try.f132, Option.getD_some, atC] at key
  simp (disch := omega) only [Try.f132, es_seq, es_region, es_block, es_loop, es_ret, ops_nil, ops_cons, st_move, st_assign, sy_len uL, bindO_some, bindF_some, bindX_normal, ev_tmp, ev_const, putA, upd_at, Option.map_some, ↓reduceIte, Nat.reduceEqDiff, frOf_0, ↓bindO_some, ↓bindF_some, ↓bindX_normal, hv.lenI]
  generalize hA : upd _ 8 _ = A
  obtain ⟨r, a', H', e, hH, h⟩ := key A (by subst hA; rfl) (by subst hA; rfl) (by subst hA; rfl) (by subst hA; rfl)
  subst hH
  rw [e]
  rcases h with ⟨rfl, hm⟩ | ⟨rfl, hm, i, h4⟩
  · simp (disch := omega) only [bindX_normal, blkX_exit, upd_at, Option.map_some, ↓reduceIte, ↓bindX_normal, fin_r, res_nil, res_tmp, pack_1, scal_vi]
    exact ⟨_, rfl, ⟨fun h => by omega, fun h => absurd h hm⟩⟩
  · simp (disch := omega) only [bindX_ret, blkX_ret, Option.map_some, ↓bindX_ret, fin_r, res_nil, res_tmp, pack_1, scal_vi, h4]
    exact ⟨_, rfl, ⟨fun _ => hm, fun _ => by omega⟩⟩
theorem contains_run {H : Heap} {v : Value} {l : List Int} (hv : R H v (ints l)) (hl : l.length ≤ 1000) (x : Int) (n : Nat) (hn : 1011 ≤ n) : evB Try.prog noC n (.func (.func 119) #[] #[]) [v, vi x] H = some (.bool (decide (x ∈ l)), H) := by
  refine run_of (F := 1010) (Q := fun q => q = some (.bool (decide (x ∈ l)), H)) (fun n hn => ?_) n hn
  rw [body_runS Try.func119 rfl (ok_fn (by rfl) Try.func119 rfl) (Nat.le_of_ble_eq_true rfl) (D := D0) (by kernel_rfl)]
  obtain ⟨r, s1, hr⟩ := index_run hv hl x n hn
  have e : decide (0 ≤ r) = decide (x ∈ l) := decide_eq_decide.2 hr
  simp (disch := omega) only [Try.f119, es_seq, es_region, es_ret, ops_nil, ops_cons, st_move, st_assign, st_fun, sy_bin, binS_geq, bindO_some, bindF_some, bindX_normal, ev_tmp, ev_const, ev_func, putA, upd_at, Option.map_some, ↓reduceIte, Nat.reduceEqDiff, frOf_0, frOf_1, List.map_cons, List.map_nil, ↓bindO_some, ↓bindF_some, ↓bindX_normal, fin_r, res_nil, res_tmp, pack_1, scal_bool, s1, e]
def nx (l : List Int) (i j r : Nat) : Int := if i ≤ r ∧ r < j then bead l (r + 1) else bead l r
def nxL (l : List Int) (i j : Nat) : List Int := (List.range l.length).map (nx l i j)
def fz (l : List Int) (i J : Nat) (t : Int) (r : Nat) : Int := if r = J then t else nx l i J r
def fzL (l : List Int) (i J : Nat) (t : Int) : List Int := (List.range l.length).map (fz l i J t)
theorem map_range_set {n j : Nat} (f : Nat → Int) (x : Int) : ((List.range n).map f).set j x = (List.range n).map fun r => if r = j then x else f r := by
  apply List.ext_getElem
  · simp
  · intro r h1 h2
    rw [List.getElem_set, List.getElem_map, List.getElem_map, List.getElem_range]
    by_cases e : j = r
    · subst e; simp
    · rw [if_neg e, if_neg (fun e' => e e'.symm)]
theorem map_range_getD {n r : Nat} (f : Nat → Int) (h : r < n) : ((List.range n).map f).getD r 0 = f r := by
  rw [List.getD_eq_getElem?_getD, List.getElem?_map, List.getElem?_range h]; rfl
theorem nxL_0 (l : List Int) (i : Nat) : nxL l i i = beadsL l := by
  unfold nxL beadsL
  congr 1
  funext r
  unfold nx
  rw [if_neg (by omega)]
theorem nxL_set {l : List Int} {i j : Nat} (h : i ≤ j) : (nxL l i j).set j (bead l (j + 1)) = nxL l i (j + 1) := by
  unfold nxL
  rw [map_range_set]
  congr 1
  funext r
  unfold nx
  by_cases e : r = j
  · subst e; rw [if_pos rfl, if_pos (by omega)]
  · rw [if_neg e]
    by_cases c : i ≤ r ∧ r < j
    · rw [if_pos c, if_pos (by omega)]
    · rw [if_neg c, if_neg (by omega)]
theorem fzL_set {l : List Int} {i J : Nat} {t : Int} : (nxL l i J).set J t = fzL l i J t := by
  unfold nxL fzL
  rw [map_range_set]; rfl
theorem fz_pf {l : List Int} {i J r : Nat} {t : Int} (h : i ≤ J) : fz l i J t r - (l.length - 1 - r) = pf l i J t r := by
  unfold fz nx bead
  by_cases c1 : r = J
  · subst c1; rw [if_pos rfl, pf_at h]
  · rw [if_neg c1]
    by_cases c2 : r < i
    · rw [if_neg (by omega), pf_lo c2]; omega
    · by_cases c3 : r < J
      · rw [if_pos (by omega), pf_mid (by omega) c3]; omega
      · rw [if_neg (by omega), pf_hi h (by omega)]; omega
theorem bead_bd {l : List Int} (hp : Part l) (r : Nat) (hr : r < l.length) : 1 ≤ bead l r ∧ bead l r ≤ 40 := by
  have := hp.getD hr
  have := hp.len
  unfold bead; omega
noncomputable def rmL1 : Code := atC [1, 1, 1, 0, 1, 0, 0] ((Try.f92.body).getD .skip)
theorem rims_l1 {H0 H : Heap} {v vb : Value} {l : List Int} (hp : Part l) (hv : R H0 v (ints l)) (old : Old H0.length H0 H) (hw : WF H) (ho : O H0.length H vb (ints (List.replicate l.length 0))) (call : CallF) (m nt : Nat) {a : Fr} {k : Nat} (hk : 30 ≤ k) {v1 : Value} (h1 : a 1 = v1) (h5 : a 5 = vi l.length) (h6 : a 6 = vb) (h23 : a 23 = v) (h24 : a 24 = vi l.length) (h25 : a 25 = vi (0 : Nat)) :
    ∃ r a' H', loopN (evS Try.prog call m nt none rmL1) k a H = some (r, a', H') ∧ r = .exit 0 ∧ a' 1 = v1 ∧ a' 5 = vi l.length ∧ a' 6 = vb ∧ Old H0.length H0 H' ∧ WF H' ∧ O H0.length H' vb (ints (beadsL l)) := by
  have hl := hp.len
  refine loop_up l.length (fun i a H' => a 1 = v1 ∧ a 5 = vi l.length ∧ a 6 = vb ∧ a 23 = v ∧ a 24 = vi l.length ∧ a 25 = vi i ∧ Old H0.length H0 H' ∧ WF H' ∧ O H0.length H' vb (ints ((List.range i).map (bead l) ++ List.replicate (l.length - i) 0))) _ ?_ ?_ (by omega) ⟨h1, h5, h6, h23, h24, h25, old, hw, ho⟩
  · intro i a H' hi ⟨h1, h5, h6, h23, h24, h25, old, hw, ho⟩
    left
    rw [show rmL1 = atC [1, 1, 1, 0, 1, 0, 0] ((Try.f92.body).getD .skip) from rfl]
    have hv' := hv.mono old
    have hlt : (i : Int) < l.length := by omega
    have hg := hp.getD hi
    have hlen : ((List.range i).map (bead l) ++ List.replicate (l.length - i) 0).length = l.length := by simp; omega
    have e1 : IntKind.i64.wrap ((i : Int) + 1) = ((i + 1 : Nat) : Int) := by rw [wr64 (by omega) (by omega)]; omega
    have e2 : IntKind.i64.wrap (l.getD i 0 + (l.length : Int)) = l.getD i 0 + (l.length : Int) := wr64 (by omega) (by omega)
    have e3 : IntKind.i64.wrap (l.getD i 0 + (l.length : Int) - 1) = l.getD i 0 + (l.length : Int) - 1 := wr64 (by omega) (by omega)
    have e4 : IntKind.i64.wrap (l.getD i 0 + (l.length : Int) - 1 - (i : Int)) = bead l i := wr64 (by omega) (by omega)
    have a1 : addrS 1 vb (vi (i : Int)) = some (pt vb i) := by have := ho.R.addrI (i := (i : Int)) (by omega) (by omega); rwa [Int.toNat_natCast] at this
    obtain ⟨H2, s2, o2, old2, wf2⟩ := ho.setI hw (i := i) (by omega) (bead l i)
    simp (disch := omega) only [Try.f92, Option.getD_some, atC, es_seq, es_region, es_cond, es_block, es_skip, ops_nil, ops_cons, st_move, st_assign, sy_addr eL, sy_load aI, sy_store zI, sy_bin, binS_lss, binS_add, binS_sub, bindO_some, bindF_some, bindX_normal, blkX_normal, condX_true, ev_tmp, ev_const, putA, upd_at, Option.map_some, ↓reduceIte, Nat.reduceEqDiff, Int.toNat_natCast, decide_true, ↓bindO_some, ↓bindF_some, ↓bindX_normal, ↓condX_true, h5, h6, h23, h24, h25, hlt, hv'.addrI, hv'.loadI, e2, e3, e4, a1, s2, e1]
    refine ⟨_, _, rfl, h1, h5, h6, h23, h24, rfl, old.trans old2, wf2, ?_⟩
    have e : ((List.range i).map (bead l) ++ List.replicate (l.length - i) 0).set i (bead l i) = (List.range (i + 1)).map (bead l) ++ List.replicate (l.length - (i + 1)) 0 := by
      rw [map_range_succ, List.set_append_right _ _ (by simp), List.length_map, List.length_range, Nat.sub_self, List.append_assoc]
      obtain ⟨q, hq⟩ : ∃ q, l.length - i = q + 1 := ⟨l.length - i - 1, by omega⟩
      rw [hq, show l.length - (i + 1) = q from by omega, List.replicate_succ]
      rfl
    rw [← e]; exact o2
  · intro a H' ⟨h1, h5, h6, h23, h24, h25, old, hw, ho⟩
    rw [show rmL1 = atC [1, 1, 1, 0, 1, 0, 0] ((Try.f92.body).getD .skip) from rfl]
    simp (disch := omega) only [Try.f92, Option.getD_some, atC, es_seq, es_region, es_cond, es_exit, ops_nil, ops_cons, sy_bin, binS_lss, bindO_some, bindF_some, bindX_normal, bindX_exit, condX_false, ev_tmp, putA, upd_at, ↓reduceIte, decide_false, ↓bindO_some, ↓bindF_some, ↓bindX_normal, ↓bindX_exit, ↓condX_false, h24, h25, Int.lt_irrefl]
    rw [Nat.sub_self, List.replicate_zero, List.append_nil] at ho
    exact ⟨_, _, _, rfl, by simp, rfl, h1, h5, h6, old, hw, ho⟩
end Go.Proofs.Ytmmgdgmjkhcfaaa
namespace Go.Proofs.Ytmmgdgmjkhcfaaa
open Go Go.Abs Go.Num
set_option maxRecDepth 10000
attribute [local congr] bindO_congr bindF_congr bindX_congr condX_congr iteB_congr binS_congr pickS_congr eqB_congr nilS_congr clsW_congr maxS_congr minS_congr
def Same (S : List Nat) (a b : Fr) : Prop := ∀ t ∈ S, b t = a t
theorem Same.refl (S : List Nat) (a : Fr) : Same S a a := fun _ _ => rfl
theorem Same.trans {S : List Nat} {a b c : Fr} (h : Same S a b) (h' : Same S b c) : Same S a c := fun t ht => (h' t ht).trans (h t ht)
theorem Same.upd {S : List Nat} {a b : Fr} (h : Same S a b) {t : Nat} (ht : t ∉ S) (v : Value) : Same S a (Abs.upd b t v) := fun s hs => by
  by_cases e : s = t
  · subst e; exact absurd hs ht
  · rw [upd_at, if_neg e]; exact h s hs
theorem Same.sub {S T : List Nat} {a b : Fr} (h : Same S a b) (hs : ∀ t ∈ T, t ∈ S) : Same T a b := fun t ht => h t (hs t ht)
noncomputable def rmL3 : Code := atC [1, 1, 1, 1, 1, 0, 1, 0, 0, 1, 1, 0, 0, 1, 1, 1, 1, 1, 0, 0, 0] ((Try.f92.body).getD .skip)
theorem rims_l3 {B0 : Nat} {H : Heap} {vn : Value} {l : List Int} (hp : Part l) {i : Nat} (hi : i < l.length) {t : Int} (hw : WF H) (ho : O B0 H vn (ints (nxL l i i))) (call : CallF) (m nt : Nat) {a0 : Fr} {k : Nat} (hk : 30 ≤ k) (h5 : a0 5 = vi l.length) (h12 : a0 12 = vi t) (h13 : a0 13 = vn) (h14 : a0 14 = vi i) :
    ∃ r a' H', loopN (evS Try.prog call m nt none rmL3) k a0 H = some (r, a', H') ∧ r = .exit 4 ∧ Same [1, 5, 6, 9, 10, 12, 13, 40, 41, 42] a0 a' ∧ a' 14 = vi (jmp l i t : Nat) ∧ Old B0 H H' ∧ WF H' ∧ O B0 H' vn (ints (nxL l i (jmp l i t))) := by
  have hl := hp.len
  obtain ⟨j1, j2, j3, j4⟩ := jmp_spec (t := t) hi
  generalize hJ : jmp l i t = J at *
  refine loop_wf (fun d a H' => ∃ j : Nat, d = J - j ∧ i ≤ j ∧ j ≤ J ∧ Same [1, 5, 6, 9, 10, 12, 13, 40, 41, 42] a0 a ∧ a 14 = vi j ∧ Old B0 H H' ∧ WF H' ∧ O B0 H' vn (ints (nxL l i j))) _ ?_ k (J - i) a0 H (by omega) ⟨i, rfl, Nat.le_refl _, j2, Same.refl _ _, h14, Old.refl _ _, hw, ho⟩
  intro d a H' ⟨j, hd, hij, hjJ, hs, h14, old, hw, ho⟩
  rw [show rmL3 = atC [1, 1, 1, 1, 1, 0, 1, 0, 0, 1, 1, 0, 0, 1, 1, 1, 1, 1, 0, 0, 0] ((Try.f92.body).getD .skip) from rfl]
  have g5 := (hs 5 (by decide)).trans h5
  have g12 := (hs 12 (by decide)).trans h12
  have g13 := (hs 13 (by decide)).trans h13
  have hlen : (nxL l i j).length = l.length := by unfold nxL; simp
  have e1 : IntKind.i64.wrap ((j : Int) + 1) = ((j + 1 : Nat) : Int) := by rw [wr64 (by omega) (by omega)]; omega
  by_cases hlt : j + 1 < l.length
  · have c1 : ((j + 1 : Nat) : Int) < (l.length : Int) := by omega
    have a1 : addrS 1 vn (vi ((j + 1 : Nat) : Int)) = some (pt vn (j + 1)) := by have := ho.R.addrI (i := ((j + 1 : Nat) : Int)) (by omega) (by omega); rwa [Int.toNat_natCast] at this
    have l1 : loadS (pt vn (j + 1)) H' = some (vi (bead l (j + 1))) := by
      rw [ho.R.loadI (by omega), show (nxL l i j).getD (j + 1) 0 = bead l (j + 1) from by
        unfold nxL; rw [map_range_getD _ hlt]; unfold nx; rw [if_neg (by omega)]]
    by_cases hb : t < bead l (j + 1)
    · left
      have hjJ2 : j < J := by
        apply Nat.lt_of_le_of_ne hjJ
        intro e
        have := j4 (by omega)
        rw [e] at hb
        omega
      have a2 : addrS 1 vn (vi (j : Int)) = some (pt vn j) := by have := ho.R.addrI (i := (j : Int)) (by omega) (by omega); rwa [Int.toNat_natCast] at this
      obtain ⟨H2, s2, o2, old2, wf2⟩ := ho.setI hw (i := j) (by omega) (bead l (j + 1))
      rw [nxL_set hij] at o2
      simp (disch := omega) only [Try.f92, Option.getD_some, atC, es_seq, es_region, es_cond, es_block, es_skip, ops_nil, ops_cons, ops_consG, st_move, st_assign, sy_pick, pickS_true, sy_addr eL, sy_load aI, sy_store zI, sy_bin, binS_lss, binS_gtr, binS_add, bindO_some, bindF_some, bindX_normal, blkX_normal, condX_true, iteB_true, ev_tmp, ev_const, putA, upd_at, Option.map_some, ↓reduceIte, Nat.reduceEqDiff, decide_true, yieldO_eq, yO, yV_bool, List.getElem?_cons_zero, List.getElem?_cons_succ, beq_self_eq_true, ↓bindO_some, ↓bindF_some, ↓bindX_normal, ↓condX_true, ↓iteB_true, g5, g12, g13, h14, e1, c1, a1, l1, hb, a2, s2]
      exact ⟨_, _, rfl, J - (j + 1), by omega, j + 1, rfl, by omega, by omega, (by
        repeat refine Same.upd ?_ (by decide) _
        exact hs), rfl, old.trans old2, wf2, o2⟩
    · right
      have hjJ2 : j = J := by
        apply Decidable.byContradiction
        intro e
        exact hb (j3 (j + 1) (by omega) (by omega))
      subst hjJ2
      simp (disch := omega) only [Try.f92, Option.getD_some, atC, es_seq, es_region, es_cond, es_exit, ops_nil, ops_cons, ops_consG, st_move, sy_pick, pickS_true, sy_addr eL, sy_load aI, sy_bin, binS_lss, binS_gtr, binS_add, bindO_some, bindF_some, bindX_normal, bindX_exit, condX_false, iteB_true, ev_tmp, ev_const, putA, upd_at, Option.map_some, ↓reduceIte, Nat.reduceEqDiff, decide_true, decide_false, yieldO_eq, yO, yV_bool, List.getElem?_cons_zero, List.getElem?_cons_succ, beq_self_eq_true, ↓bindO_some, ↓bindF_some, ↓bindX_normal, ↓bindX_exit, ↓condX_false, ↓iteB_true, g5, g12, g13, h14, e1, c1, a1, l1, hb]
      exact ⟨_, _, _, rfl, by simp, rfl, (by
        repeat refine Same.upd ?_ (by decide) _
        exact hs), h14, old, hw, ho⟩
  · right
    have hjJ2 : j = J := by omega
    have c1 : ¬ ((j + 1 : Nat) : Int) < (l.length : Int) := by omega
    subst hjJ2
    simp (disch := omega) only [Try.f92, Option.getD_some, atC, es_seq, es_region, es_cond, es_exit, ops_nil, ops_cons, ops_consG, st_move, sy_pick, pickS_false, sy_bin, binS_lss, binS_add, bindO_some, bindF_some, bindX_normal, bindX_exit, condX_false, iteB_false, ev_tmp, ev_const, putA, upd_at, ↓reduceIte, Nat.reduceEqDiff, decide_false, yieldO_eq, yO, yV_bool, some_true, List.getElem?_cons_zero, List.getElem?_cons_succ, ↓bindO_some, ↓bindF_some, ↓bindX_normal, ↓bindX_exit, ↓condX_false, ↓iteB_false, g5, h14, e1, c1]
    exact ⟨_, _, _, rfl, by simp, rfl, (by
      repeat refine Same.upd ?_ (by decide) _
      exact hs), h14, old, hw, ho⟩
theorem pf_bd {l : List Int} (hp : Part l) {i J r : Nat} {t : Int} (hi : i ≤ J) (hJ : J < l.length) (hr : r < l.length) (h0 : -100 ≤ t) (h1 : t ≤ 100) : -200 ≤ pf l i J t r ∧ pf l i J t r ≤ 200 := by
  have hl := hp.len
  have hg := hp.getD hr
  by_cases c1 : r < i
  · rw [pf_lo c1]; omega
  · by_cases c2 : r < J
    · rw [pf_mid (by omega) c2]; have := hp.getD (show r + 1 < l.length by omega); omega
    · by_cases c3 : r = J
      · subst c3; rw [pf_at hi]; omega
      · rw [pf_hi hi (by omega)]; omega
noncomputable def rmL4 : Code := atC [1, 1, 1, 1, 1, 0, 1, 0, 0, 1, 1, 0, 0, 1, 1, 1, 1, 1, 1, 1, 1, 0, 1, 0, 0] ((Try.f92.body).getD .skip)
def lfT (l : List Int) (i J : Nat) (t : Int) (r : Nat) : List Int := ((List.range r).map (pf l i J t)).filter fun x => decide (0 < x)
theorem lfT_succ (l : List Int) (i J : Nat) (t : Int) (r : Nat) : lfT l i J t (r + 1) = if 0 < pf l i J t r then lfT l i J t r ++ [pf l i J t r] else lfT l i J t r := by
  unfold lfT
  rw [map_range_succ, List.filter_append]
  by_cases h : 0 < pf l i J t r
  · rw [if_pos h, List.filter_cons_of_pos (by simpa using h)]; rfl
  · rw [if_neg h, List.filter_cons_of_neg (by simpa using h), List.filter_nil, List.append_nil]
theorem lfT_len (l : List Int) (i J : Nat) (t : Int) (r : Nat) : (lfT l i J t r).length ≤ r := by
  unfold lfT
  exact Nat.le_trans (List.length_filter_le ..) (by simp)
theorem rims_l4 {H : Heap} {vn : Value} {l : List Int} (hp : Part l) {i J : Nat} (hi : i ≤ J) (hJ : J < l.length) {t : Int} (h0 : -100 ≤ t) (h1 : t ≤ 100) (hw : WF H) (hr : R H vn (ints (fzL l i J t))) (call : CallF) (m nt : Nat) {a0 : Fr} {k : Nat} (hk : 30 ≤ k) (h5 : a0 5 = vi l.length) (h15 : a0 15 = .slice none 0 0) (h87 : a0 87 = vn) (h88 : a0 88 = vi l.length) (h89 : a0 89 = vi (0 : Nat)) :
    ∃ r a' H', loopN (evS Try.prog call m nt none rmL4) k a0 H = some (r, a', H') ∧ r = .exit 6 ∧ Same [1, 5, 6, 9, 10, 14, 40, 41, 42] a0 a' ∧ Old H.length H H' ∧ WF H' ∧ ∃ vl, a' 15 = vl ∧ O H.length H' vl (ints (leftP l i J t)) := by
  have hl := hp.len
  have hlen : (fzL l i J t).length = l.length := by unfold fzL; simp
  refine loop_up l.length (fun r a H' => Same [1, 5, 6, 9, 10, 14, 40, 41, 42, 87, 88] a0 a ∧ a 89 = vi r ∧ Old H.length H H' ∧ WF H' ∧ ∃ vl, a 15 = vl ∧ O H.length H' vl (ints (lfT l i J t r))) _ ?_ ?_ (by omega) ⟨Same.refl _ _, h89, Old.refl _ _, hw, _, h15, O.nil _ _⟩
  · intro r a H' hlt ⟨hs, h89, old, hw, vl, h15, ho⟩
    left
    rw [show rmL4 = atC [1, 1, 1, 1, 1, 0, 1, 0, 0, 1, 1, 0, 0, 1, 1, 1, 1, 1, 1, 1, 1, 0, 1, 0, 0] ((Try.f92.body).getD .skip) from rfl]
    have g5 := (hs 5 (by decide)).trans h5
    have g87 := (hs 87 (by decide)).trans h87
    have g88 := (hs 88 (by decide)).trans h88
    have hr' := hr.mono old
    have c1 : (r : Int) < (l.length : Int) := by omega
    have hfz : (fzL l i J t).getD r 0 = fz l i J t r := by unfold fzL; rw [map_range_getD _ hlt]
    have hpf := fz_pf (l := l) (i := i) (J := J) (r := r) (t := t) hi
    have hb := pf_bd hp hi hJ hlt h0 h1
    have a1 : addrS 1 vn (vi (r : Int)) = some (pt vn r) := by have := hr'.addrI (i := (r : Int)) (by omega) (by omega); rwa [Int.toNat_natCast] at this
    have l1 : loadS (pt vn r) H' = some (vi (fz l i J t r)) := by rw [hr'.loadI (by omega), hfz]
    have e1 : IntKind.i64.wrap ((r : Int) + 1) = ((r + 1 : Nat) : Int) := by rw [wr64 (by omega) (by omega)]; omega
    have e2 : IntKind.i64.wrap ((l.length : Int) - 1) = (l.length : Int) - 1 := wr64 (by omega) (by omega)
    have e3 : IntKind.i64.wrap ((l.length : Int) - 1 - (r : Int)) = (l.length : Int) - 1 - (r : Int) := wr64 (by omega) (by omega)
    have e4 : IntKind.i64.wrap (fz l i J t r - ((l.length : Int) - 1 - (r : Int))) = pf l i J t r := by rw [hpf]; exact wr64 (by omega) (by omega)
    by_cases hc : 0 < pf l i J t r
    · have hll := lfT_len l i J t r
      obtain ⟨v2, H2, s2, o2, old2, wf2⟩ := ho.pushI hw old.1 (by unfold maxA; omega) (pf l i J t r)
      simp (disch := omega) only [Try.f92, Option.getD_some, atC, es_seq, es_region, es_cond, es_block, es_skip, ops_nil, ops_cons, st_move, st_assign, sy_addr eL, sy_load aI, sy_bin, sy_append eL pI, sy_build1 eL oI, binS_lss, binS_gtr, binS_add, binS_sub, bindO_some, bindF_some, bindX_normal, blkX_normal, condX_true, ev_tmp, ev_const, putA, upd_at, Option.map_some, ↓reduceIte, Nat.reduceEqDiff, decide_true, ↓bindO_some, ↓bindF_some, ↓bindX_normal, ↓condX_true, scal_vi, g5, g87, g88, h15, h89, c1, a1, l1, e2, e3, e4, hc, scal_vi, s2, e1]
      exact ⟨_, _, rfl, (by
        repeat refine Same.upd ?_ (by decide) _
        exact hs), rfl, old.trans old2, wf2, v2, rfl, by rw [lfT_succ, if_pos hc]; exact o2⟩
    · simp (disch := omega) only [Try.f92, Option.getD_some, atC, es_seq, es_region, es_cond, es_block, es_skip, ops_nil, ops_cons, st_move, st_assign, sy_addr eL, sy_load aI, sy_bin, binS_lss, binS_gtr, binS_add, binS_sub, bindO_some, bindF_some, bindX_normal, blkX_normal, condX_true, condX_false, ev_tmp, ev_const, putA, upd_at, Option.map_some, ↓reduceIte, Nat.reduceEqDiff, decide_true, decide_false, ↓bindO_some, ↓bindF_some, ↓bindX_normal, ↓condX_true, ↓condX_false, g5, g87, g88, h89, c1, a1, l1, e2, e3, e4, hc, e1]
      exact ⟨_, _, rfl, (by
        repeat refine Same.upd ?_ (by decide) _
        exact hs), rfl, old, hw, vl, h15, by rw [lfT_succ, if_neg hc]; exact ho⟩
  · intro a H' ⟨hs, h89, old, hw, vl, h15, ho⟩
    rw [show rmL4 = atC [1, 1, 1, 1, 1, 0, 1, 0, 0, 1, 1, 0, 0, 1, 1, 1, 1, 1, 1, 1, 1, 0, 1, 0, 0] ((Try.f92.body).getD .skip) from rfl]
    have g88 := (hs 88 (by decide)).trans h88
    simp (disch := omega) only [Try.f92, Option.getD_some, atC, es_seq, es_region, es_cond, es_exit, ops_nil, ops_cons, sy_bin, binS_lss, bindO_some, bindF_some, bindX_normal, bindX_exit, condX_false, ev_tmp, putA, upd_at, ↓reduceIte, decide_false, ↓bindO_some, ↓bindF_some, ↓bindX_normal, ↓bindX_exit, ↓condX_false, g88, h89, Int.lt_irrefl]
    exact ⟨_, _, _, rfl, by simp, rfl, (by
      repeat refine Same.upd ?_ (by decide) _
      exact hs.sub (by decide)), old, hw, vl, h15, ho⟩
noncomputable def rmL2 : Code := atC [1, 1, 1, 1, 1, 0, 1, 0, 0] ((Try.f92.body).getD .skip)
def OneH (H : Heap) (r : Option (Value × Heap)) (ls : List (List Int × Int)) : Prop := ∃ v H', r = some (v, H') ∧ OH H.length H' v ls ∧ Old H.length H H' ∧ WF H'
theorem rimsP_len (l : List Int) (k : Int) (i : Nat) : ((List.range i).flatMap (rimP l k)).length ≤ i := by
  induction i with
  | zero => simp
  | succ i ih =>
    rw [List.range_succ, List.flatMap_append, List.length_append, List.flatMap_cons, List.flatMap_nil, List.append_nil]
    have : (rimP l k i).length ≤ 1 := by unfold rimP; split <;> simp
    omega
theorem rims_l2 {H1 : Heap} {vb : Value} {l : List Int} (hp : Part l) {z : Int} (hz : 1 ≤ z ∧ z ≤ 20) (hw1 : WF H1) (hb : R H1 vb (ints (beadsL l))) (n nt : Nat) (hn : 1020 ≤ n) {a0 : Fr} (h1 : a0 1 = vi z) (h5 : a0 5 = vi l.length) (h6 : a0 6 = vb) (h9 : a0 9 = .slice none 0 0) (h40 : a0 40 = vb) (h41 : a0 41 = vi l.length) (h42 : a0 42 = vi (0 : Nat)) :
    ∃ r a' H', loopN (evS Try.prog (evB Try.prog noC n) n nt none rmL2) n a0 H1 = some (r, a', H') ∧ r = .exit 2 ∧ ∃ vo, a' 9 = vo ∧ OH H1.length H' vo (rimsP l z) ∧ Old H1.length H1 H' ∧ WF H' := by
  have hl := hp.len
  refine loop_up l.length (fun i a H' => Same [1, 5, 6, 40, 41] a0 a ∧ a 42 = vi i ∧ Old H1.length H1 H' ∧ WF H' ∧ ∃ vo, a 9 = vo ∧ OH H1.length H' vo ((List.range i).flatMap (rimP l z))) _ ?_ ?_ (by omega) ⟨Same.refl _ _, h42, Old.refl _ _, hw1, _, h9, OG.nil _ _⟩
  · intro i a H' hi ⟨hs, h42, old, hw, vo, h9, ho⟩
    left
    rw [show rmL2 = atC [1, 1, 1, 1, 1, 0, 1, 0, 0] ((Try.f92.body).getD .skip) from rfl]
    have g1 := (hs 1 (by decide)).trans h1
    have g5 := (hs 5 (by decide)).trans h5
    have g6 := (hs 6 (by decide)).trans h6
    have g40 := (hs 40 (by decide)).trans h40
    have g41 := (hs 41 (by decide)).trans h41
    have hb' := hb.mono old
    have c1 : (i : Int) < (l.length : Int) := by omega
    have hbl := beadsL_len l
    have hbd := bead_bd hp i hi
    have a1 : addrS 1 vb (vi (i : Int)) = some (pt vb i) := by have := hb'.addrI (i := (i : Int)) (by omega) (by omega); rwa [Int.toNat_natCast] at this
    have l1 : loadS (pt vb i) H' = some (vi (bead l i)) := by rw [hb'.loadI (by omega), beadsL_get hi]
    have e1 : IntKind.i64.wrap ((i : Int) + 1) = ((i + 1 : Nat) : Int) := by rw [wr64 (by omega) (by omega)]; omega
    obtain ⟨t, ht⟩ : ∃ t, t = bead l i - z := ⟨_, rfl⟩
    have e2 : IntKind.i64.wrap (bead l i - z) = t := by rw [ht]; exact wr64 (by omega) (by omega)
    have hflat : (List.range (i + 1)).flatMap (rimP l z) = (List.range i).flatMap (rimP l z) ++ rimP l z i := by
      rw [List.range_succ, List.flatMap_append, List.flatMap_cons, List.flatMap_nil, List.append_nil]
    by_cases hneg : t < 0
    · have hr : rimP l z i = [] := by unfold rimP; rw [← ht]; exact if_pos (.inl hneg)
      rw [hr, List.append_nil] at hflat
      simp (disch := omega) only [Try.f92, Option.getD_some, atC, es_seq, es_region, es_cond, es_block, es_skip, es_exit, ops_nil, ops_cons, ops_consG, st_move, st_assign, sy_pick, pickS_true, sy_addr eL, sy_load aI, sy_bin, binS_lss, binS_add, binS_sub, bindO_some, bindF_some, bindX_normal, bindX_exit, blkX_exit, condX_true, iteB_false, ev_tmp, ev_const, putA, upd_at, Option.map_some, ↓reduceIte, Nat.reduceEqDiff, decide_true, Bool.not_true, yieldO_eq, yO, yV_bool, some_false, List.getElem?_cons_zero, List.getElem?_cons_succ, ↓bindO_some, ↓bindF_some, ↓bindX_normal, ↓bindX_exit, ↓condX_true, ↓iteB_false, g1, g40, g41, h42, c1, a1, l1, e2, hneg, e1]
      exact ⟨_, _, rfl, (by
        repeat refine Same.upd ?_ (by decide) _
        exact hs), rfl, old, hw, vo, h9, by rw [hflat]; exact ho⟩
    · have s1 := contains_run hb' (by omega) t n (by omega)
      by_cases hm : t ∈ beadsL l
      · have hr : rimP l z i = [] := by unfold rimP; rw [← ht]; exact if_pos (.inr hm)
        rw [hr, List.append_nil] at hflat
        rw [decide_eq_true hm] at s1
        simp (disch := omega) only [Try.f92, Option.getD_some, atC, es_seq, es_region, es_cond, es_block, es_skip, es_exit, ops_nil, ops_cons, ops_consG, st_move, st_assign, sy_pick, pickS_false, st_fun, sy_addr eL, sy_load aI, sy_bin, binS_lss, binS_add, binS_sub, bindO_some, bindF_some, bindX_normal, bindX_exit, blkX_exit, condX_true, iteB_true, ev_tmp, ev_const, ev_func, putA, upd_at, Option.map_some, ↓reduceIte, Nat.reduceEqDiff, List.map_cons, List.map_nil, decide_true, decide_false, yieldO_eq, yO, yV_bool, List.getElem?_cons_zero, List.getElem?_cons_succ, beq_self_eq_true, ↓bindO_some, ↓bindF_some, ↓bindX_normal, ↓bindX_exit, ↓condX_true, ↓iteB_true, g1, g6, g40, g41, h42, c1, a1, l1, e2, hneg, s1, e1]
        exact ⟨_, _, rfl, (by
          repeat refine Same.upd ?_ (by decide) _
          exact hs), rfl, old, hw, vo, h9, by rw [hflat]; exact ho⟩
      · have hr : rimP l z i = [(leftP l i (jmp l i t) t, ((jmp l i t - i : Nat) : Int))] := by unfold rimP; rw [← ht]; exact if_neg (fun h => h.elim hneg hm)
        rw [hr] at hflat
        rw [decide_eq_false hm] at s1
        obtain ⟨vn, H2, s2, o2, old2, wf2⟩ := clone_run hw hb' (by omega) n (by omega)
        rw [← nxL_0 l i] at o2
        obtain ⟨j1, j2, _, _⟩ := jmp_spec (t := t) hi
        have k3 := fun (A : Fr) => rims_l3 hp hi wf2 o2 (evB Try.prog noC n) n nt (a0 := A) (k := n) (t := t) (by omega)
        rw [show rmL3 = atC [1, 1, 1, 1, 1, 0, 1, 0, 0, 1, 1, 0, 0, 1, 1, 1, 1, 1, 0, 0, 0] ((Try.f92.body).getD .skip) from rfl] at k3
        simp only [Try.f92, Option.getD_some, atC] at k3
        simp (disch := omega) only [Try.f92, Option.getD_some, atC, es_seq, es_region, es_cond, es_block, es_loop, es_skip, ops_nil, ops_cons, ops_consG, st_move, st_assign, sy_pick, pickS_false, st_fun, sy_len uL, sy_addr eL, sy_load aI, sy_store zI, sy_bin, binS_lss, binS_sub, bindO_some, bindF_some, bindX_normal, condX_true, condX_false, iteB_true, ev_tmp, ev_const, ev_func, putA, upd_at, Option.map_some, ↓reduceIte, Nat.reduceEqDiff, List.map_cons, List.map_nil, decide_true, decide_false, yieldO_eq, yO, yV_bool, List.getElem?_cons_zero, List.getElem?_cons_succ, beq_self_eq_true, ↓bindO_some, ↓bindF_some, ↓bindX_normal, ↓condX_true, ↓condX_false, ↓iteB_true, g1, g6, g40, g41, h42, c1, a1, l1, e2, hneg, s1, s2]
        generalize hF : upd _ 14 _ = F
        have hsF : Same [1, 5, 6, 40, 41] a0 F := by
          subst hF
          repeat refine Same.upd ?_ (by decide) _
          exact hs
        have f42 : F 42 = vi i := by subst hF; exact h42
        have f9 : F 9 = vo := by subst hF; exact h9
        have f10 : F 10 = vi i := by subst hF; rfl
        have f12 : F 12 = vi t := by subst hF; rfl
        have f13 : F 13 = vn := by subst hF; rfl
        have f14 : F 14 = vi i := by subst hF; rfl
        obtain ⟨r, a', H3, ev, hr', hs3, g14, old3, wf3, o3⟩ := k3 F ((hsF 5 (by decide)).trans h5) f12 f13 f14
        subst hr'
        rw [ev]
        clear ev k3 hF
        have i13 := (hs3 13 (by decide)).trans f13
        have i12 := (hs3 12 (by decide)).trans f12
        have i5 := ((hs3 5 (by decide)).trans (hsF 5 (by decide))).trans h5
        generalize hJ : jmp l i t = J at *
        have hlen : (nxL l i J).length = l.length := by unfold nxL; simp
        have a2 : addrS 1 vn (vi (J : Int)) = some (pt vn J) := by have := o3.R.addrI (i := (J : Int)) (by omega) (by omega); rwa [Int.toNat_natCast] at this
        obtain ⟨H4, s4, o4, old4, wf4⟩ := o3.setI wf3 (i := J) (by omega) t
        rw [fzL_set] at o4
        have hlf : (fzL l i J t).length = l.length := by unfold fzL; simp
        have ln := o4.R.lenI
        rw [hlf] at ln
        have k4 := fun (A : Fr) => rims_l4 hp j2 j1 (t := t) (by omega) (by omega) wf4 o4.R (evB Try.prog noC n) n nt (a0 := A) (k := n) (by omega)
        rw [show rmL4 = atC [1, 1, 1, 1, 1, 0, 1, 0, 0, 1, 1, 0, 0, 1, 1, 1, 1, 1, 1, 1, 1, 0, 1, 0, 0] ((Try.f92.body).getD .skip) from rfl] at k4
        simp only [Try.f92, Option.getD_some, atC] at k4
        simp (disch := omega) only [bindO_some, bindF_some, bindX_normal, blkX_exit, upd_at, Option.map_some, ↓reduceIte, Nat.reduceEqDiff, ↓bindO_some, ↓bindF_some, ↓bindX_normal, i13, i12, g14, a2, s4, ln]
        generalize hF2 : upd _ 89 _ = F2
        have hs4 : Same [1, 5, 6, 9, 10, 40, 41, 42] F F2 := by
          subst hF2
          repeat refine Same.upd ?_ (by decide) _
          exact hs3.sub (by decide)
        have f214 : F2 14 = vi J := by subst hF2; exact g14
        obtain ⟨r, a2', H5, ev, hr', hs5, old5, wf5, vl, g15, o5⟩ := k4 F2 (((hs4 5 (by decide)).trans (hsF 5 (by decide))).trans h5) (by subst hF2; rfl) (by subst hF2; rfl) (by subst hF2; rfl) (by subst hF2; rfl)
        subst hr'
        rw [ev]
        clear ev k4 hF2
        have i14 := (hs5 14 (by decide)).trans f214
        have i9 := ((hs5 9 (by decide)).trans (hs4 9 (by decide))).trans f9
        have i10 := ((hs5 10 (by decide)).trans (hs4 10 (by decide))).trans f10
        have i42 := ((hs5 42 (by decide)).trans (hs4 42 (by decide))).trans f42
        have e3 : IntKind.i64.wrap ((J : Int) - (i : Int)) = ((J - i : Nat) : Int) := by rw [wr64 (by omega) (by omega)]; omega
        have old25 : Old H'.length H' H5 := ((old2.trans old3).trans old4).trans (old5.mono (by have := old2.1; have := old3.1; have := old4.1; omega))
        have hrl := rimsP_len l z i
        obtain ⟨v6, H6, s6, o6, old6, wf6⟩ := OH.push (z := ((J - i : Nat) : Int)) ho old25 wf5 old.1 o5 (by have := old2.1; have := old3.1; have := old4.1; omega) (by unfold maxA; omega)
        simp (disch := omega) only [binS_add, binS_sub, bindO_some, bindF_some, bindX_normal, blkX_normal, blkX_exit, ev_tmp, upd_at, Option.map_some, ↓reduceIte, Nat.reduceEqDiff, List.map_cons, List.map_nil, ↓bindO_some, ↓bindF_some, ↓bindX_normal, i9, i10, i14, i42, g15, e3, sy_build, bHk _ _ o5.R.scal, sy_buildN eHH oHH rfl rfl, sHk, buildS_2, sy_appN eHH pHH, s6, e1]
        exact ⟨_, _, rfl, (by
          repeat refine Same.upd ?_ (by decide) _
          exact (hsF.trans (hs4.sub (by decide))).trans (hs5.sub (by decide))), rfl, (old.trans (old25.mono old.1)).trans old6, wf6, v6, rfl, by rw [hflat]; exact o6⟩
  · intro a H' ⟨hs, h42, old, hw, vo, h9, ho⟩
    rw [show rmL2 = atC [1, 1, 1, 1, 1, 0, 1, 0, 0] ((Try.f92.body).getD .skip) from rfl]
    have g41 := (hs 41 (by decide)).trans h41
    simp (disch := omega) only [Try.f92, Option.getD_some, atC, es_seq, es_region, es_cond, es_exit, ops_nil, ops_cons, sy_bin, binS_lss, bindO_some, bindF_some, bindX_normal, bindX_exit, condX_false, ev_tmp, putA, upd_at, ↓reduceIte, decide_false, ↓bindO_some, ↓bindF_some, ↓bindX_normal, ↓bindX_exit, ↓condX_false, g41, h42, Int.lt_irrefl]
    exact ⟨_, _, _, rfl, by simp, rfl, vo, h9, ho, old, hw⟩
theorem rims_run {H : Heap} {v : Value} {l : List Int} (hw : WF H) (hv : R H v (ints l)) (hp : Part l) {z : Int} (hz : 1 ≤ z ∧ z ≤ 20) (n : Nat) (hn : 1030 ≤ n) : OneH H (evB Try.prog noC n (.func (.func 92) #[] #[]) [v, vi z] H) (rimsP l z) := by
  refine run_of (F := 1029) (Q := fun r => OneH H r (rimsP l z)) (fun n hn => ?_) n hn
  rw [body_runS Try.func92 rfl (ok_fn (by rfl) Try.func92 rfl) (Nat.le_of_ble_eq_true rfl) (D := D0) (by kernel_rfl)]
  have hl := hp.len
  have hz0 := zIn l.length
  have hlr : (ints (List.replicate l.length (0 : Int))).length = l.length := by rw [ints_len, List.length_replicate]
  have ob := O.made (B := H.length) (H := H) (Nat.le_refl _) (ints (List.replicate l.length (0 : Int)))
  rw [hlr] at ob
  have old1 := Old.app H [.cells H.length true (ints (List.replicate l.length (0 : Int)))]
  have wf1 := hw.app (Nat.le_refl H.length) (o := true) (cs := ints (List.replicate l.length (0 : Int)))
  have c2 : (0 : Int) ≤ (l.length : Int) := by omega
  have c3 : (l.length : Int) ≤ 1048576 := by omega
  generalize hH1 : H ++ [Blk.cells H.length true (ints (List.replicate l.length (0 : Int)))] = H1 at *
  have hv1 := hv.mono old1
  have k1 := fun (A : Fr) => rims_l1 hp hv old1 wf1 ob (evB Try.prog noC n) n Try.f92.ntmps (a := A) (k := n) (v1 := vi z) (by omega)
  rw [show rmL1 = atC [1, 1, 1, 0, 1, 0, 0] ((Try.f92.body).getD .skip) from rfl] at k1
  simp only [Try.f92, Option.getD_some, atC] at k1
  simp (disch := omega) only [Try.f92, es_seq, es_region, es_block, es_loop, es_ret, ops_nil, ops_cons, st_move, st_assign, sy_len uL, sy_make eL yI (by decide), bindO_some, bindF_some, bindX_normal, ev_tmp, ev_const, putA, upd_at, Option.map_some, ↓reduceIte, Nat.reduceEqDiff, Int.toNat_natCast, frOf_0, ↓bindO_some, ↓bindF_some, ↓bindX_normal, hv.lenI, c2, c3, Int.le_refl, and_self, hz0, hH1]
  generalize hA : upd _ 25 _ = A
  obtain ⟨r, a', H2, ev, hr, i1, i5, i6, old2, wf2, o2⟩ := k1 A (by subst hA; rfl) (by subst hA; rfl) (by subst hA; rfl) (by subst hA; rfl) (by subst hA; rfl) (by subst hA; rfl)
  subst hr
  rw [ev]
  clear ev k1
  have hbl := beadsL_len l
  have lb := o2.R.lenI
  rw [hbl] at lb
  have k2 := fun (A : Fr) => rims_l2 hp hz wf2 o2.R n Try.f92.ntmps (by omega) (a0 := A)
  rw [show rmL2 = atC [1, 1, 1, 1, 1, 0, 1, 0, 0] ((Try.f92.body).getD .skip) from rfl] at k2
  simp only [Try.f92, Option.getD_some, atC] at k2
  simp (disch := omega) only [bindO_some, bindF_some, bindX_normal, blkX_exit, Option.map_some, ↓reduceIte, ↓bindO_some, ↓bindF_some, ↓bindX_normal, i6, lb]
  generalize hB : upd _ 42 _ = A2
  obtain ⟨r, a2, H3, ev, hr, vo, j9, o3, old3, wf3⟩ := k2 A2 (by subst hB; exact i1) (by subst hB; exact i5) (by subst hB; exact i6) (by subst hB; rfl) (by subst hB; rfl) (by subst hB; rfl) (by subst hB; rfl)
  subst hr
  rw [ev]
  simp (disch := omega) only [bindX_normal, blkX_exit, upd_at, Option.map_some, ↓reduceIte, ↓bindX_normal, fin_r, res_nil, res_tmp, pack_1, j9, o3.RH.scal]
  exact ⟨_, _, rfl, OG.below o3 old2.1, old2.trans (old3.mono old2.1), wf3⟩
end Go.Proofs.Ytmmgdgmjkhcfaaa
namespace Go.Proofs.Ytmmgdgmjkhcfaaa
open Go Go.Abs Go.Num
set_option maxRecDepth 10000
attribute [local congr] bindO_congr bindF_congr bindX_congr condX_congr iteB_congr binS_congr pickS_congr eqB_congr nilS_congr clsW_congr maxS_congr minS_congr
theorem copy_run {H : Heap} {v : Value} {l : List Int} (hw : WF H) (hv : R H v (ints l)) (hl : l.length ≤ 10000) (n : Nat) (hn : 10 ≤ n) : OneL H (evB Try.prog noC n (.func (.func 87) #[] #[]) [v] H) l := by
  refine run_of (F := 9) (Q := fun x => OneL H x l) (fun n hn => ?_) n hn
  rw [body_runS Try.func87 rfl (ok_fn (by rfl) Try.func87 rfl) (Nat.le_of_ble_eq_true rfl) (D := D0) (by kernel_rfl)]
  have old1 := Old.app H [.cells H.length true []]
  obtain ⟨v2, H2, s2, o2, old2, wf2⟩ := (O.empty (H := H) (Nat.le_refl H.length)).app (hw.app (Nat.le_refl _)) (by simp) (hv.mono old1) (by rw [ints_len]; simp [maxA]; omega)
  simp (disch := omega) only [Try.f87, es_seq, es_region, es_ret, ops_nil, ops_cons, st_move, st_assign, sy_append eL pI, sy_build0 eL nI, bindO_some, bindF_some, bindX_normal, ev_tmp, ev_const, putA, upd_at, Option.map_some, ↓reduceIte, Nat.reduceEqDiff, frOf_0, ↓bindO_some, ↓bindF_some, ↓bindX_normal, fin_r, res_nil, res_tmp, pack_1, s2, o2.R.scal]
  exact ⟨_, _, rfl, o2, old1.trans old2, wf2⟩
noncomputable def shA : Code := atC [1, 0, 1, 0, 0] ((Try.f93.body).getD .skip)
noncomputable def shB : Code := atC [1, 1, 1, 0, 0, 0] ((Try.f93.body).getD .skip)
theorem sh_one {H : Heap} {v : Value} {q : List Int} (hv : R H v (ints q)) (hl : q.length ≤ 1000) (call : CallF) (m nt : Nat) {a : Fr} {k : Nat} (hk : q.length < k) (h0 : a 0 = v) (h4 : a 4 = vi (0 : Nat)) :
    ∃ r a' H', loopN (evS Try.prog call m nt none shA) k a H = some (r, a', H') ∧ H' = H ∧ ((r = .exit 0 ∧ a' 0 = v ∧ OkL q) ∨ (r = .ret ∧ a' 2 = .slice none 0 0 ∧ a' 3 = .bool false ∧ ¬ OkL q)) := by
  refine loop_up q.length (fun i a H' => H' = H ∧ a 0 = v ∧ a 4 = vi i ∧ (∀ r, r < i → 0 ≤ q.getD r 0) ∧ ∀ r, r + 1 < i → q.getD (r + 1) 0 ≤ q.getD r 0) _ ?_ ?_ hk ⟨rfl, h0, h4, fun r hr => by omega, fun r hr => by omega⟩
  · intro i a H' hi ⟨hH, h0, h4, hp, hd⟩
    subst hH
    rw [show shA = atC [1, 0, 1, 0, 0] ((Try.f93.body).getD .skip) from rfl]
    have c1 : (i : Int) < (q.length : Int) := by omega
    have e1 : IntKind.i64.wrap ((i : Int) + 1) = ((i + 1 : Nat) : Int) := by rw [wr64 (by omega) (by omega)]; omega
    by_cases hneg : q.getD i 0 < 0
    · right
      have hno : ¬ OkL q := fun h => by have := h.1 i hi; omega
      simp (disch := omega) only [Try.f93, Option.getD_some, atC, es_seq, es_region, es_draw, d0, es_cond, es_block, es_skip, es_ret, ops_nil, ops_cons, opsV_nil, opsV_cons, opsV_consG, st_move, st_assign, sy_pick, pickS_true, sy_len uL, sy_addr eL, sy_load aI, sy_bin, binS_lss, bindO_some, bindF_some, bindX_normal, bindX_ret, blkX_ret, condX_true, iteB_true, iteB_false, ev_tmp, ev_const, putA, upd_at, Option.map_some, ↓reduceIte, Nat.reduceEqDiff, Int.toNat_natCast, decide_true, Bool.not_true, yieldO_eq, yO, yV_bool, yV_undef, none_some, some_false, List.getElem?_cons_zero, List.getElem?_cons_succ, ↓bindO_some, ↓bindF_some, ↓bindX_normal, ↓bindX_ret, ↓condX_true, ↓iteB_true, ↓iteB_false, reflV_load, reflV_move, reflV_pick, reflV_bin, reflV_addr, vEq_vi, h0, h4, hv.lenI, c1, hv.addrI, hv.loadI, hneg]
      exact ⟨_, _, _, rfl, by simp, rfl, .inr ⟨rfl, rfl, rfl, hno⟩⟩
    · have hpi : ∀ r, r < i + 1 → 0 ≤ q.getD r 0 := fun r hr => by
        by_cases e : r = i
        · subst e; omega
        · exact hp r (by omega)
      cases i with
      | zero =>
        left
        have c0 : decide ((0 : Int) < ((0 : Nat) : Int)) = false := rfl
        simp (disch := omega) only [Try.f93, Option.getD_some, atC, es_seq, es_region, es_draw, d0, es_cond, es_block, es_skip, ops_nil, ops_cons, opsV_nil, opsV_cons, opsV_consG, st_move, st_assign, sy_pick, pickS_false, sy_len uL, sy_addr eL, sy_load aI, sy_bin, binS_lss, binS_gtr, binS_add, bindO_some, bindF_some, bindX_normal, blkX_normal, condX_true, condX_false, iteB_true, iteB_false, ev_tmp, ev_const, putA, upd_at, Option.map_some, ↓reduceIte, Nat.reduceEqDiff, Nat.zero_add, Int.toNat_natCast, decide_true, decide_false, yieldO_eq, yO, yV_bool, some_true, List.getElem?_cons_zero, List.getElem?_cons_succ, beq_self_eq_true, ↓bindO_some, ↓bindF_some, ↓bindX_normal, ↓condX_true, ↓condX_false, ↓iteB_true, ↓iteB_false, reflV_load, reflV_move, reflV_pick, reflV_bin, reflV_addr, vEq_vi, h0, h4, hv.lenI, c1, hv.addrI, hv.loadI, hneg, c0, e1]
        exact ⟨_, _, rfl, rfl, h0, rfl, hpi, fun r hr => by omega⟩
      | succ j =>
        have c0 : (0 : Int) < ((j + 1 : Nat) : Int) := by omega
        have e2 : IntKind.i64.wrap (((j + 1 : Nat) : Int) - 1) = (j : Int) := by rw [wr64 (by omega) (by omega)]; omega
        by_cases hq : q.getD j 0 < q.getD (j + 1) 0
        · right
          have hno : ¬ OkL q := fun h => by have := h.2 j hi; omega
          simp (disch := omega) only [Try.f93, Option.getD_some, atC, es_seq, es_region, es_draw, d0, es_cond, es_block, es_skip, es_ret, ops_nil, ops_cons, opsV_nil, opsV_cons, opsV_consG, st_move, st_assign, sy_pick, pickS_true, pickS_false, sy_len uL, sy_addr eL, sy_load aI, sy_bin, binS_lss, binS_gtr, binS_sub, bindO_some, bindF_some, bindX_normal, bindX_ret, blkX_ret, condX_true, iteB_true, iteB_false, ev_tmp, ev_const, putA, upd_at, Option.map_some, ↓reduceIte, Nat.reduceEqDiff, Int.toNat_natCast, decide_true, decide_false, yieldO_eq, yO, yV_bool, List.getElem?_cons_zero, List.getElem?_cons_succ, beq_self_eq_true, ↓bindO_some, ↓bindF_some, ↓bindX_normal, ↓bindX_ret, ↓condX_true, ↓iteB_true, ↓iteB_false, reflV_load, reflV_move, reflV_pick, reflV_bin, reflV_addr, vEq_vi, h0, h4, hv.lenI, c1, hv.addrI, hv.loadI, hneg, c0, e2, hq]
          exact ⟨_, _, _, rfl, by simp, rfl, .inr ⟨rfl, rfl, rfl, hno⟩⟩
        · left
          simp (disch := omega) only [Try.f93, Option.getD_some, atC, es_seq, es_region, es_draw, d0, es_cond, es_block, es_skip, ops_nil, ops_cons, opsV_nil, opsV_cons, opsV_consG, st_move, st_assign, sy_pick, pickS_true, pickS_false, sy_len uL, sy_addr eL, sy_load aI, sy_bin, binS_lss, binS_gtr, binS_add, binS_sub, bindO_some, bindF_some, bindX_normal, blkX_normal, condX_true, condX_false, iteB_true, iteB_false, ev_tmp, ev_const, putA, upd_at, Option.map_some, ↓reduceIte, Nat.reduceEqDiff, Int.toNat_natCast, decide_true, decide_false, yieldO_eq, yO, yV_bool, List.getElem?_cons_zero, List.getElem?_cons_succ, beq_self_eq_true, ↓bindO_some, ↓bindF_some, ↓bindX_normal, ↓condX_true, ↓condX_false, ↓iteB_true, ↓iteB_false, reflV_load, reflV_move, reflV_pick, reflV_bin, reflV_addr, vEq_vi, h0, h4, hv.lenI, c1, hv.addrI, hv.loadI, hneg, c0, e2, hq, e1]
          refine ⟨_, _, rfl, rfl, h0, rfl, hpi, fun r hr => ?_⟩
          by_cases e : r = j
          · subst e; omega
          · exact hd r (by omega)
  · intro a H' ⟨hH, h0, h4, hp, hd⟩
    subst hH
    rw [show shA = atC [1, 0, 1, 0, 0] ((Try.f93.body).getD .skip) from rfl]
    simp (disch := omega) only [Try.f93, Option.getD_some, atC, es_seq, es_region, es_cond, es_exit, ops_nil, ops_cons, st_move, sy_len uL, sy_bin, binS_lss, bindO_some, bindF_some, bindX_normal, bindX_exit, condX_false, ev_tmp, putA, upd_at, Option.map_some, ↓reduceIte, Nat.reduceEqDiff, decide_false, ↓bindO_some, ↓bindF_some, ↓bindX_normal, ↓bindX_exit, ↓condX_false, h0, h4, hv.lenI, Int.lt_irrefl]
    exact ⟨_, _, _, rfl, by simp, rfl, .inl ⟨rfl, h0, hp, hd⟩⟩
theorem sh_two {H : Heap} {v : Value} {q : List Int} (hv : R H v (ints q)) (hl : q.length ≤ 1000) (call : CallF) (m nt : Nat) {a : Fr} {k : Nat} (hk : q.length < k) (h0 : a 0 = v) (h5 : a 5 = vi (q.length : Nat)) :
    ∃ r a' H', loopN (evS Try.prog call m nt none shB) k a H = some (r, a', H') ∧ H' = H ∧ r = .exit 2 ∧ a' 0 = v ∧ ∃ c : Nat, a' 5 = vi c ∧ c ≤ q.length ∧ q.take c = trimL q := by
  refine loop_wf (fun c a H' => H' = H ∧ a 0 = v ∧ a 5 = vi c ∧ c ≤ q.length ∧ trimL (q.take c) = trimL q) _ ?_ k q.length a H hk ⟨rfl, h0, h5, Nat.le_refl _, by rw [List.take_length]⟩
  intro c a H' ⟨hH, h0, h5, hc, ht⟩
  subst hH
  rw [show shB = atC [1, 1, 1, 0, 0, 0] ((Try.f93.body).getD .skip) from rfl]
  cases c with
  | zero =>
    right
    have c0 : decide ((0 : Int) < ((0 : Nat) : Int)) = false := rfl
    simp (disch := omega) only [Try.f93, Option.getD_some, atC, es_seq, es_region, es_cond, es_exit, ops_nil, ops_cons, ops_consG, st_move, sy_pick, pickS_false, sy_bin, binS_gtr, bindO_some, bindF_some, bindX_normal, bindX_exit, condX_false, iteB_false, ev_tmp, ev_const, putA, upd_at, ↓reduceIte, Nat.reduceEqDiff, yieldO_eq, yO, yV_bool, some_true, List.getElem?_cons_zero, List.getElem?_cons_succ, ↓bindO_some, ↓bindF_some, ↓bindX_normal, ↓bindX_exit, ↓condX_false, ↓iteB_false, h5, c0]
    exact ⟨_, _, _, rfl, by simp, rfl, rfl, h0, 0, h5, hc, by rw [← ht]; rfl⟩
  | succ d =>
    have c0 : (0 : Int) < ((d + 1 : Nat) : Int) := by omega
    have e2 : IntKind.i64.wrap (((d + 1 : Nat) : Int) - 1) = (d : Int) := by rw [wr64 (by omega) (by omega)]; omega
    have hx := take_snoc' (l := q) (c := d) (by omega)
    rw [hx, trimL_snoc] at ht
    by_cases hy : q.getD d 0 = 0
    · left
      rw [if_pos hy] at ht
      have c1 : decide (q.getD d 0 = 0) = true := decide_eq_true hy
      simp (disch := omega) only [Try.f93, Option.getD_some, atC, es_seq, es_region, es_cond, es_block, es_skip, ops_nil, ops_cons, ops_consG, st_move, st_assign, sy_pick, pickS_true, sy_addr eL, sy_load aI, sy_bin, binS_gtr, binS_eql, binS_sub, bindO_some, bindF_some, bindX_normal, blkX_normal, condX_true, iteB_true, ev_tmp, ev_const, putA, upd_at, Option.map_some, ↓reduceIte, Nat.reduceEqDiff, Int.toNat_natCast, decide_true, yieldO_eq, yO, yV_bool, List.getElem?_cons_zero, List.getElem?_cons_succ, beq_self_eq_true, ↓bindO_some, ↓bindF_some, ↓bindX_normal, ↓condX_true, ↓iteB_true, h0, h5, c0, e2, hv.addrI, hv.loadI, c1]
      exact ⟨_, _, rfl, d, by omega, rfl, h0, rfl, by omega, ht⟩
    · right
      rw [if_neg hy] at ht
      have c1 : decide (q.getD d 0 = 0) = false := decide_eq_false hy
      simp (disch := omega) only [Try.f93, Option.getD_some, atC, es_seq, es_region, es_cond, es_exit, ops_nil, ops_cons, ops_consG, st_move, sy_pick, pickS_true, sy_addr eL, sy_load aI, sy_bin, binS_gtr, binS_eql, binS_sub, bindO_some, bindF_some, bindX_normal, bindX_exit, condX_false, iteB_true, ev_tmp, ev_const, putA, upd_at, Option.map_some, ↓reduceIte, Nat.reduceEqDiff, Int.toNat_natCast, decide_true, yieldO_eq, yO, yV_bool, List.getElem?_cons_zero, List.getElem?_cons_succ, beq_self_eq_true, ↓bindO_some, ↓bindF_some, ↓bindX_normal, ↓bindX_exit, ↓condX_false, ↓iteB_true, h0, h5, c0, e2, hv.addrI, hv.loadI, c1]
      exact ⟨_, _, _, rfl, by simp, rfl, rfl, h0, d + 1, h5, hc, by rw [hx]; exact ht⟩
theorem shrunk_run {H : Heap} {v : Value} {q : List Int} (hw : WF H) (hv : R H v (ints q)) (hl : q.length ≤ 1000) (n : Nat) (hn : 1020 ≤ n) :
    (OkL q → OneT H (evB Try.prog noC n (.func (.func 93) #[] #[]) [v] H) (fun u => .tuple #[u, .bool true]) (trimL q)) ∧ (¬ OkL q → evB Try.prog noC n (.func (.func 93) #[] #[]) [v] H = some (.tuple #[.slice none 0 0, .bool false], H)) := by
  refine run_of (F := 1019) (Q := fun r => (OkL q → OneT H r (fun u => .tuple #[u, .bool true]) (trimL q)) ∧ (¬ OkL q → r = some (.tuple #[.slice none 0 0, .bool false], H))) (fun n hn => ?_) n hn
  rw [body_runS Try.func93 rfl (ok_fn (by rfl) Try.func93 rfl) (Nat.le_of_ble_eq_true rfl) (D := D0) (by kernel_rfl)]
  have k1 := fun (A : Fr) => sh_one hv hl (evB Try.prog noC n) n Try.f93.ntmps (a := A) (k := n) (by omega)
  rw [show shA = atC [1, 0, 1, 0, 0] ((Try.f93.body).getD .skip) from rfl] at k1
  have k2 := fun (A : Fr) => sh_two hv hl (evB Try.prog noC n) n Try.f93.ntmps (a := A) (k := n) (by omega)
  rw [show shB = atC [1, 1, 1, 0, 0, 0] ((Try.f93.body).getD .skip) from rfl] at k2
  simp only [Try.f93, Option.getD_some, atC] at k1 k2
  simp (disch := omega) only [Try.f93, es_seq, es_region, es_block, es_loop, es_ret, ops_nil, ops_cons, st_move, st_assign, st_fun, sy_len uL, sy_slice eL, bindO_some, bindF_some, bindX_normal, ev_tmp, ev_const, ev_func, putA, upd_at, Option.map_some, ↓reduceIte, Nat.reduceEqDiff, List.map_cons, List.map_nil, ↓bindO_some, ↓bindF_some, ↓bindX_normal]
  generalize hA : upd _ 4 _ = A
  obtain ⟨r, a', H', ev, hH, h⟩ := k1 A (by subst hA; rfl) (by subst hA; rfl)
  subst hH
  rw [ev]
  clear ev k1
  rcases h with ⟨rfl, g0, hok⟩ | ⟨rfl, g2, g3, hno⟩
  · simp (disch := omega) only [bindO_some, bindF_some, bindX_normal, blkX_exit, Option.map_some, ↓reduceIte, ↓bindO_some, ↓bindF_some, ↓bindX_normal, g0, hv.lenI]
    generalize hB : upd _ 5 _ = A2
    obtain ⟨r, a2, H2, ev, hH, hr, i0, c, i5, hc, ht⟩ := k2 A2 (by subst hB; exact g0) (by subst hB; rfl)
    subst hH
    subst hr
    rw [ev]
    obtain ⟨vs, s1, r1⟩ := hv.upto hc
    obtain ⟨vr, H3, s2, o2, old2, wf2⟩ := copy_run hw r1 (by rw [List.length_take]; omega) n (by omega)
    simp (disch := omega) only [bindO_some, bindF_some, bindX_normal, blkX_exit, upd_at, Option.map_some, ↓reduceIte, Nat.reduceEqDiff, ↓bindO_some, ↓bindF_some, ↓bindX_normal, fin_r, res_nil, res_tmp, pack_2, scal_bool, i0, i5, Option.map_none, s1, s2, o2.R.scal]
    exact ⟨fun _ => ⟨_, _, rfl, by rw [← ht]; exact o2, old2, wf2⟩, fun h => absurd hok h⟩
  · simp (disch := omega) only [bindX_ret, blkX_ret, Option.map_some, ↓bindX_ret, fin_r, res_nil, res_tmp, pack_2, scal_bool, scal_nil, g2, g3]
    exact ⟨fun h => absurd h hno, fun _ => by trivial⟩
def qs (l : List Int) (i j : Nat) (r : Nat) : Int := if i ≤ r ∧ r < j then l.getD (r + 1) 0 - 1 else l.getD r 0
def qsL (l : List Int) (i j : Nat) : List Int := (List.range l.length).map (qs l i j)
theorem qsL_0 (l : List Int) (i : Nat) : qsL l i i = l := by
  unfold qsL
  apply List.ext_getElem
  · simp
  · intro r h1 h2
    rw [List.getElem_map, List.getElem_range]
    unfold qs
    rw [if_neg (by omega), List.getD_eq_getElem?_getD, List.getElem?_eq_getElem h2]; rfl
theorem qsL_set {l : List Int} {i j : Nat} (h : i ≤ j) : (qsL l i j).set j (l.getD (j + 1) 0 - 1) = qsL l i (j + 1) := by
  unfold qsL
  rw [map_range_set]
  congr 1
  funext r
  unfold qs
  by_cases e : r = j
  · subst e; rw [if_pos rfl, if_pos (by omega)]
  · rw [if_neg e]
    by_cases c : i ≤ r ∧ r < j
    · rw [if_pos c, if_pos (by omega)]
    · rw [if_neg c, if_neg (by omega)]
theorem qsL_pf {l : List Int} {i J : Nat} {t x : Int} (h : i ≤ J) (hx : x = t - (l.length - 1 - J)) : (qsL l i J).set J x = pfL l i J t := by
  unfold qsL pfL
  rw [map_range_set]
  congr 1
  funext r
  unfold qs
  by_cases e : r = J
  · subst e; rw [if_pos rfl, pf_at h, hx]
  · rw [if_neg e]
    by_cases c1 : r < i
    · rw [if_neg (by omega), pf_lo c1]
    · by_cases c2 : r < J
      · rw [if_pos (by omega), pf_mid (by omega) c2]
      · rw [if_neg (by omega), pf_hi h (by omega)]
noncomputable def rrC : Code := atC [1, 1, 0, 1, 0, 0, 1, 0, 0, 1, 0, 0, 1, 0, 0, 1, 1, 0, 1, 0, 0] ((Try.f51.body).getD .skip)
theorem rr_in {B0 : Nat} {H : Heap} {v vq : Value} {l : List Int} (hp : Part l) {i h : Nat} (hi : i + h < l.length) (hv : ∀ G, Old B0 H G → R G v (ints l)) (hw : WF H) (ho : O B0 H vq (ints l)) (call : CallF) (m nt : Nat) {a0 : Fr} {k : Nat} (hk : 30 ≤ k) (h0 : a0 0 = v) (h6 : a0 6 = vi i) (h7 : a0 7 = vi h) (h8 : a0 8 = vq) (h9 : a0 9 = vi 0) (h10 : a0 10 = vi i) :
    ∃ r a' H', loopN (evS Try.prog call m nt none rrC) k a0 H = some (r, a', H') ∧ r = .exit 4 ∧ Same [0, 1, 5, 6, 7, 8] a0 a' ∧ a' 9 = vi (tkn l i h) ∧ Old B0 H H' ∧ WF H' ∧ O B0 H' vq (ints (qsL l i (i + h))) := by
  have hl := hp.len
  refine loop_up h (fun d a H' => Same [0, 1, 5, 6, 7, 8] a0 a ∧ a 9 = vi (tkn l i d) ∧ a 10 = vi ((i + d : Nat) : Int) ∧ Old B0 H H' ∧ WF H' ∧ O B0 H' vq (ints (qsL l i (i + d)))) _ ?_ ?_ (by omega) ⟨Same.refl _ _, by rw [h9]; unfold tkn; simp, h10, Old.refl _ _, hw, by rw [Nat.add_zero, qsL_0]; exact ho⟩
  · intro d a H' hd ⟨hs, h9, h10, old, hw, ho⟩
    left
    rw [show rrC = atC [1, 1, 0, 1, 0, 0, 1, 0, 0, 1, 0, 0, 1, 0, 0, 1, 1, 0, 1, 0, 0] ((Try.f51.body).getD .skip) from rfl]
    have g0 := (hs 0 (by decide)).trans h0
    have g6 := (hs 6 (by decide)).trans h6
    have g7 := (hs 7 (by decide)).trans h7
    have g8 := (hs 8 (by decide)).trans h8
    have hv' := hv H' old
    have m1 := hp.getD (show i < l.length by omega)
    have m2 := hp.getD (show i + d < l.length by omega)
    have m3 := hp.getD (show i + d + 1 < l.length by omega)
    have hlen : (qsL l i (i + d)).length = l.length := by unfold qsL; simp
    have hlen2 : (qsL l i (i + d + 1)).length = l.length := by unfold qsL; simp
    have e0 : IntKind.i64.wrap ((i : Int) + (h : Int)) = ((i + h : Nat) : Int) := by rw [wr64 (by omega) (by omega)]; omega
    have c1 : ((i + d : Nat) : Int) < ((i + h : Nat) : Int) := by omega
    have e1 : IntKind.i64.wrap (((i + d : Nat) : Int) + 1) = ((i + d + 1 : Nat) : Int) := by rw [wr64 (by omega) (by omega)]; omega
    have a1 : addrS 1 v (vi ((i + d + 1 : Nat) : Int)) = some (pt v (i + d + 1)) := by have := hv'.addrI (i := ((i + d + 1 : Nat) : Int)) (by omega) (by omega); rwa [Int.toNat_natCast] at this
    have l1 : loadS (pt v (i + d + 1)) H' = some (vi (l.getD (i + d + 1) 0)) := hv'.loadI (by omega)
    have e2 : IntKind.i64.wrap (l.getD (i + d + 1) 0 - 1) = l.getD (i + d + 1) 0 - 1 := wr64 (by omega) (by omega)
    have a2 : addrS 1 vq (vi ((i + d : Nat) : Int)) = some (pt vq (i + d)) := by have := ho.R.addrI (i := ((i + d : Nat) : Int)) (by omega) (by omega); rwa [Int.toNat_natCast] at this
    obtain ⟨H2, s2, o2, old2, wf2⟩ := ho.setI hw (i := i + d) (by omega) (l.getD (i + d + 1) 0 - 1)
    rw [qsL_set (by omega)] at o2
    have hv2 := hv H2 (old.trans old2)
    have a3 : addrS 1 v (vi ((i + d : Nat) : Int)) = some (pt v (i + d)) := by have := hv2.addrI (i := ((i + d : Nat) : Int)) (by omega) (by omega); rwa [Int.toNat_natCast] at this
    have l3 : loadS (pt v (i + d)) H2 = some (vi (l.getD (i + d) 0)) := hv2.loadI (by omega)
    have l4 : loadS (pt vq (i + d)) H2 = some (vi (l.getD (i + d + 1) 0 - 1)) := by
      rw [o2.R.loadI (by omega)]
      unfold qsL
      rw [map_range_getD _ (by omega)]
      unfold qs
      rw [if_pos (by omega)]
    have tk : tkn l i d = l.getD i 0 - l.getD (i + d) 0 + d := rfl
    have tk2 : tkn l i (d + 1) = l.getD i 0 - l.getD (i + d + 1) 0 + ((d + 1 : Nat) : Int) := rfl
    have e3 : IntKind.i64.wrap (tkn l i d + l.getD (i + d) 0) = tkn l i d + l.getD (i + d) 0 := wr64 (by omega) (by omega)
    have e4 : IntKind.i64.wrap (tkn l i d + l.getD (i + d) 0 - (l.getD (i + d + 1) 0 - 1)) = tkn l i (d + 1) := by rw [wr64 (by omega) (by omega)]; omega
    simp (disch := omega) only [Try.f51, Option.getD_some, atC, es_seq, es_region, es_draw, d0, es_cond, es_block, es_skip, ops_nil, ops_cons, opsV_nil, opsV_cons, st_move, st_assign, sy_addr eL, sy_load aI, sy_store zI, sy_bin, binS_lss, binS_add, binS_sub, bindO_some, bindF_some, bindX_normal, blkX_normal, condX_true, iteB_true, iteB_false, ev_tmp, ev_const, putA, upd_at, Option.map_some, ↓reduceIte, Nat.reduceEqDiff, decide_true, ↓bindO_some, ↓bindF_some, ↓bindX_normal, ↓condX_true, ↓iteB_true, ↓iteB_false, reflV_load, reflV_move, reflV_assign, reflV_bin, reflV_addr, vEq_vi, g0, g6, g7, g8, h9, h10, e0, c1, e1, a1, l1, e2, a2, s2, a3, l3, l4, e3, e4]
    exact ⟨_, _, rfl, (by
      repeat refine Same.upd ?_ (by decide) _
      exact hs), rfl, by simp only [upd_at, ↓reduceIte]; rfl, old.trans old2, wf2, o2⟩
  · intro a H' ⟨hs, h9, h10, old, hw, ho⟩
    rw [show rrC = atC [1, 1, 0, 1, 0, 0, 1, 0, 0, 1, 0, 0, 1, 0, 0, 1, 1, 0, 1, 0, 0] ((Try.f51.body).getD .skip) from rfl]
    have g6 := (hs 6 (by decide)).trans h6
    have g7 := (hs 7 (by decide)).trans h7
    have e0 : IntKind.i64.wrap ((i : Int) + (h : Int)) = ((i + h : Nat) : Int) := by rw [wr64 (by omega) (by omega)]; omega
    simp (disch := omega) only [Try.f51, Option.getD_some, atC, es_seq, es_region, es_cond, es_exit, ops_nil, ops_cons, st_move, sy_bin, binS_lss, binS_add, bindO_some, bindF_some, bindX_normal, bindX_exit, condX_false, ev_tmp, putA, upd_at, ↓reduceIte, Nat.reduceEqDiff, decide_false, ↓bindO_some, ↓bindF_some, ↓bindX_normal, ↓bindX_exit, ↓condX_false, g6, g7, h10, e0, Int.lt_irrefl]
    exact ⟨_, _, _, rfl, by simp, rfl, (by
      repeat refine Same.upd ?_ (by decide) _
      exact hs), h9, old, hw, ho⟩
end Go.Proofs.Ytmmgdgmjkhcfaaa
namespace Go.Proofs.Ytmmgdgmjkhcfaaa
open Go Go.Abs Go.Num
set_option maxRecDepth 10000
attribute [local congr] bindO_congr bindF_congr bindX_congr condX_congr iteB_congr binS_congr pickS_congr eqB_congr nilS_congr clsW_congr maxS_congr minS_congr
noncomputable def rrB : Code := atC [1, 1, 0, 1, 0, 0, 1, 0, 0, 1, 0, 0] ((Try.f51.body).getD .skip)
noncomputable def rrA : Code := atC [1, 1, 0, 1, 0, 0] ((Try.f51.body).getD .skip)
theorem rimR_len (l : List Int) (k : Int) (i h : Nat) : ((List.range h).flatMap (rimR l k i)).length ≤ h := by
  induction h with
  | zero => simp
  | succ h ih =>
    rw [List.range_succ, List.flatMap_append, List.length_append, List.flatMap_cons, List.flatMap_nil, List.append_nil]
    have : (rimR l k i h).length ≤ 1 := by unfold rimR; split <;> simp
    omega
theorem rr_mid {H0 H : Heap} {v vo0 : Value} {l : List Int} (hp : Part l) {z : Int} (hz : 1 ≤ z ∧ z ≤ 20) {i : Nat} (hi : i < l.length) {ls0 : List (List Int × Int)} (hl0 : ls0.length ≤ 1000) (hv : R H0 v (ints l)) (old : Old H0.length H0 H) (hw : WF H) (ho : OH H0.length H vo0 ls0) (n nt : Nat) (hn : 1030 ≤ n) {a0 : Fr} (h0 : a0 0 = v) (h1 : a0 1 = vi z) (h5 : a0 5 = vo0) (h6 : a0 6 = vi i) (h7 : a0 7 = vi (0 : Nat)) :
    ∃ r a' H', loopN (evS Try.prog (evB Try.prog noC n) n nt none rrB) n a0 H = some (r, a', H') ∧ r = .exit 2 ∧ Same [0, 1, 6] a0 a' ∧ Old H0.length H H' ∧ WF H' ∧ ∃ vo, a' 5 = vo ∧ OH H0.length H' vo (ls0 ++ (List.range (l.length - i)).flatMap (rimR l z i)) := by
  have hl := hp.len
  refine loop_up (l.length - i) (fun h a H' => Same [0, 1, 6] a0 a ∧ a 7 = vi h ∧ Old H0.length H H' ∧ WF H' ∧ ∃ vo, a 5 = vo ∧ OH H0.length H' vo (ls0 ++ (List.range h).flatMap (rimR l z i))) _ ?_ ?_ (by omega) ⟨Same.refl _ _, h7, Old.refl _ _, hw, vo0, h5, by simpa using ho⟩
  · intro h a H' hh ⟨hs, h7, oldA, hw, vo, h5, ho⟩
    left
    rw [show rrB = atC [1, 1, 0, 1, 0, 0, 1, 0, 0, 1, 0, 0] ((Try.f51.body).getD .skip) from rfl]
    have g0 := (hs 0 (by decide)).trans h0
    have g1 := (hs 1 (by decide)).trans h1
    have g6 := (hs 6 (by decide)).trans h6
    have oldH := old.trans oldA
    have hv' := hv.mono oldH
    have hJ : i + h < l.length := by omega
    have e0 : IntKind.i64.wrap ((i : Int) + (h : Int)) = ((i + h : Nat) : Int) := by rw [wr64 (by omega) (by omega)]; omega
    have c1 : ((i + h : Nat) : Int) < (l.length : Int) := by omega
    have e1 : IntKind.i64.wrap ((h : Int) + 1) = ((h + 1 : Nat) : Int) := by rw [wr64 (by omega) (by omega)]; omega
    obtain ⟨vq, H1, s1, o1, old1, wf1⟩ := copy_run hw hv' (by omega) n (by omega)
    have k1 := fun (A : Fr) => rr_in hp hJ (fun G hG => hv'.mono (old1.trans hG)) wf1 o1 (evB Try.prog noC n) n nt (a0 := A) (k := n) (by omega)
    rw [show rrC = atC [1, 1, 0, 1, 0, 0, 1, 0, 0, 1, 0, 0, 1, 0, 0, 1, 1, 0, 1, 0, 0] ((Try.f51.body).getD .skip) from rfl] at k1
    simp only [Try.f51, Option.getD_some, atC] at k1
    simp (maxSteps := 1000000) (disch := omega) only [Try.f51, Option.getD_some, atC, es_seq, es_region, es_cond, es_block, es_loop, es_skip, ops_nil, ops_cons, ops_consG, st_move, st_assign, sy_pick, st_fun, sy_len uL, sy_addr eL, sy_load aI, sy_store zI, sy_bin, sy_ext, binS_lss, binS_add, bindO_some, bindF_some, bindX_normal, condX_true, ev_tmp, ev_const, ev_func, putA, upd_at, Option.map_some, ↓reduceIte, Nat.reduceEqDiff, List.map_cons, List.map_nil, decide_true, yieldO_eq, yO, List.getElem?_cons_zero, List.getElem?_cons_succ, ↓bindO_some, ↓bindF_some, ↓bindX_normal, ↓condX_true, g0, g6, h7, hv'.lenI, e0, c1, s1]
    generalize hF : upd _ 10 _ = F
    have hsF : Same [0, 1, 6] a0 F := by
      subst hF
      repeat refine Same.upd ?_ (by decide) _
      exact hs
    have f5 : F 5 = vo := by subst hF; exact h5
    have f7 : F 7 = vi h := by subst hF; exact h7
    obtain ⟨r, a', H2, ev, hr, hs2, g9, old2, wf2, o2⟩ := k1 F ((hsF 0 (by decide)).trans h0) ((hsF 6 (by decide)).trans h6) f7 (by subst hF; rfl) (by subst hF; rfl) (by subst hF; rfl)
    have f8 : F 8 = vq := by subst hF; rfl
    subst hr
    rw [ev]
    clear ev k1 hF
    have i0 := ((hs2 0 (by decide)).trans (hsF 0 (by decide))).trans h0
    have i1 := ((hs2 1 (by decide)).trans (hsF 1 (by decide))).trans h1
    have i6 := ((hs2 6 (by decide)).trans (hsF 6 (by decide))).trans h6
    have i5 := (hs2 5 (by decide)).trans f5
    have i7 := (hs2 7 (by decide)).trans f7
    have i8 := (hs2 8 (by decide)).trans f8
    have hv2 := hv'.mono (old1.trans old2)
    have m1 := hp.getD hi
    have m2 := hp.getD hJ
    have tk : tkn l i h = l.getD i 0 - l.getD (i + h) 0 + h := rfl
    have hlen : (qsL l i (i + h)).length = l.length := by unfold qsL; simp
    have a1 : addrS 1 v (vi ((i + h : Nat) : Int)) = some (pt v (i + h)) := by have := hv2.addrI (i := ((i + h : Nat) : Int)) (by omega) (by omega); rwa [Int.toNat_natCast] at this
    have l1 : loadS (pt v (i + h)) H2 = some (vi (l.getD (i + h) 0)) := hv2.loadI (by omega)
    have e2 : IntKind.i64.wrap (z - tkn l i h) = z - tkn l i h := wr64 (by omega) (by omega)
    have e3 : IntKind.i64.wrap (l.getD (i + h) 0 - (z - tkn l i h)) = l.getD (i + h) 0 - (z - tkn l i h) := wr64 (by omega) (by omega)
    have a2 : addrS 1 vq (vi ((i + h : Nat) : Int)) = some (pt vq (i + h)) := by have := o2.R.addrI (i := ((i + h : Nat) : Int)) (by omega) (by omega); rwa [Int.toNat_natCast] at this
    obtain ⟨H3, s3, o3, old3, wf3⟩ := o2.setI wf2 (i := i + h) (by omega) (l.getD (i + h) 0 - (z - tkn l i h))
    rw [qsL_pf (t := bead l i - z) (by omega) (by unfold bead; omega)] at o3
    have hpl := pfL_len l i (i + h) (bead l i - z)
    obtain ⟨sh1, sh2⟩ := shrunk_run wf3 o3.R (by omega) n (by omega)
    have old13 : Old H'.length H' H3 := (old1.trans old2).trans old3
    have hflat : (List.range (h + 1)).flatMap (rimR l z i) = (List.range h).flatMap (rimR l z i) ++ rimR l z i h := by
      rw [List.range_succ, List.flatMap_append, List.flatMap_cons, List.flatMap_nil, List.append_nil]
    have hrl := rimR_len l z i h
    have oH := oldA.1
    have oh0 := old.1
    by_cases hok : OkL (pfL l i (i + h) (bead l i - z))
    · obtain ⟨vl, H4, s4, o4, old4, wf4⟩ := sh1 hok
      have old14 : Old H'.length H' H4 := old13.trans (old4.mono old13.1)
      by_cases ht : tkn l i h < z
      · have hr : rimR l z i h = [(trimL (pfL l i (i + h) (bead l i - z)), (h : Int))] := if_pos ⟨hok, ht⟩
        obtain ⟨v6, H6, s6, o6, old6, wf6⟩ := OH.push (z := (h : Int)) ho old14 wf4 (Nat.le_trans oh0 oH) o4 old13.1 (by rw [List.length_append]; unfold maxA; omega)
        simp (disch := omega) only [pickS_true, ext_20, ext_21, binS_lss, binS_add, binS_sub, bindO_some, bindF_some, bindX_normal, blkX_normal, blkX_exit, condX_true, iteB_true, ev_tmp, upd_at, Option.map_some, ↓reduceIte, Nat.reduceEqDiff, List.map_cons, List.map_nil, decide_true, yV_bool, beq_self_eq_true, ↓bindO_some, ↓bindF_some, ↓bindX_normal, ↓condX_true, ↓iteB_true, i0, i1, i5, i6, i7, i8, g9, e0, a1, l1, e2, e3, a2, s3, s4, ht, sy_build, bHk _ _ o4.R.scal, sy_buildN eHH oHH rfl rfl, sHk, buildS_2, sy_appN eHH pHH, s6, e1]
        exact ⟨_, _, rfl, (by
          repeat refine Same.upd ?_ (by decide) _
          exact hsF.trans (hs2.sub (by decide))), rfl, (oldA.trans (old14.mono (by omega))).trans old6, wf6, v6, rfl, by rw [hflat, hr, ← List.append_assoc]; exact o6⟩
      · have hr : rimR l z i h = [] := if_neg (fun h => ht h.2)
        simp (disch := omega) only [pickS_true, ext_20, ext_21, binS_lss, binS_add, binS_sub, bindO_some, bindF_some, bindX_normal, blkX_normal, blkX_exit, condX_false, iteB_true, upd_at, Option.map_some, ↓reduceIte, Nat.reduceEqDiff, decide_false, yV_bool, beq_self_eq_true, ↓bindO_some, ↓bindF_some, ↓bindX_normal, ↓condX_false, ↓iteB_true, i0, i1, i6, i7, i8, g9, e0, a1, l1, e2, e3, a2, s3, s4, ht, e1]
        exact ⟨_, _, rfl, (by
          repeat refine Same.upd ?_ (by decide) _
          exact hsF.trans (hs2.sub (by decide))), rfl, oldA.trans (old14.mono (by omega)), wf4, vo, i5, by rw [hflat, hr, List.append_nil]; exact OG.mono HkX.stable ho old14⟩
    · have s4 := sh2 hok
      have hr : rimR l z i h = [] := if_neg (fun h => hok h.1)
      simp (disch := omega) only [pickS_false, ext_20, ext_21, binS_add, binS_sub, bindO_some, bindF_some, bindX_normal, blkX_normal, blkX_exit, condX_false, iteB_false, upd_at, Option.map_some, ↓reduceIte, Nat.reduceEqDiff, yV_bool, some_true, ↓bindO_some, ↓bindF_some, ↓bindX_normal, ↓condX_false, ↓iteB_false, i0, i1, i6, i7, i8, g9, e0, a1, l1, e2, e3, a2, s3, s4, e1]
      exact ⟨_, _, rfl, (by
        repeat refine Same.upd ?_ (by decide) _
        exact hsF.trans (hs2.sub (by decide))), rfl, oldA.trans (old13.mono (by omega)), wf3, vo, i5, by rw [hflat, hr, List.append_nil]; exact OG.mono HkX.stable ho old13⟩
  · intro a H' ⟨hs, h7, oldA, hw, vo, h5, ho⟩
    rw [show rrB = atC [1, 1, 0, 1, 0, 0, 1, 0, 0, 1, 0, 0] ((Try.f51.body).getD .skip) from rfl]
    have g0 := (hs 0 (by decide)).trans h0
    have g6 := (hs 6 (by decide)).trans h6
    have hv' := hv.mono (old.trans oldA)
    have e0 : IntKind.i64.wrap ((i : Int) + ((l.length - i : Nat) : Int)) = (l.length : Int) := by rw [wr64 (by omega) (by omega)]; omega
    simp (disch := omega) only [Try.f51, Option.getD_some, atC, es_seq, es_region, es_cond, es_exit, ops_nil, ops_cons, st_move, sy_len uL, sy_bin, binS_lss, binS_add, bindO_some, bindF_some, bindX_normal, bindX_exit, condX_false, ev_tmp, putA, upd_at, Option.map_some, ↓reduceIte, Nat.reduceEqDiff, decide_false, ↓bindO_some, ↓bindF_some, ↓bindX_normal, ↓bindX_exit, ↓condX_false, g0, g6, h7, hv'.lenI, e0, Int.lt_irrefl]
    exact ⟨_, _, _, rfl, by simp, rfl, (by
      repeat refine Same.upd ?_ (by decide) _
      exact hs), oldA, hw, vo, h5, ho⟩
theorem rimsR_len (l : List Int) (k : Int) (hl : l.length ≤ 20) (m : Nat) (hm : m ≤ l.length) : ((List.range m).flatMap fun i => (List.range (l.length - i)).flatMap (rimR l k i)).length ≤ 20 * m := by
  induction m with
  | zero => simp
  | succ m ih =>
    rw [List.range_succ, List.flatMap_append, List.length_append, List.flatMap_cons, List.flatMap_nil, List.append_nil]
    have := rimR_len l k m (l.length - m)
    have := ih (by omega)
    omega
theorem rrims_run {H : Heap} {v : Value} {l : List Int} (hw : WF H) (hv : R H v (ints l)) (hp : Part l) {z : Int} (hz : 1 ≤ z ∧ z ≤ 20) (n : Nat) (hn : 1040 ≤ n) : OneH H (evB Try.prog noC n (.func (.func 51) #[] #[]) [v, vi z] H) (rimsR l z) := by
  refine run_of (F := 1039) (Q := fun r => OneH H r (rimsR l z)) (fun n hn => ?_) n hn
  rw [body_runS Try.func51 rfl (ok_fn (by rfl) Try.func51 rfl) (Nat.le_of_ble_eq_true rfl) (D := D0) (by kernel_rfl)]
  have hl := hp.len
  have key : ∀ A : Fr, A 0 = v → A 1 = vi z → A 5 = .slice none 0 0 → A 6 = vi (0 : Nat) → ∃ r a' H', loopN (evS Try.prog (evB Try.prog noC n) n Try.f51.ntmps none rrA) n A H = some (r, a', H') ∧ r = .exit 0 ∧ ∃ vo, a' 5 = vo ∧ OH H.length H' vo (rimsR l z) ∧ Old H.length H H' ∧ WF H' := by
    intro A h0 h1 h5 h6
    refine loop_up l.length (fun i a H' => a 0 = v ∧ a 1 = vi z ∧ a 6 = vi i ∧ Old H.length H H' ∧ WF H' ∧ ∃ vo, a 5 = vo ∧ OH H.length H' vo ((List.range i).flatMap fun i => (List.range (l.length - i)).flatMap (rimR l z i))) _ ?_ ?_ (by omega) ⟨h0, h1, h6, Old.refl _ _, hw, _, h5, OG.nil _ _⟩
    · intro i a H' hi ⟨h0, h1, h6, old, hw, vo, h5, ho⟩
      left
      rw [show rrA = atC [1, 1, 0, 1, 0, 0] ((Try.f51.body).getD .skip) from rfl]
      have hv' := hv.mono old
      have hlt : (i : Int) < l.length := by omega
      have e1 : IntKind.i64.wrap ((i : Int) + 1) = ((i + 1 : Nat) : Int) := by rw [wr64 (by omega) (by omega)]; omega
      have hll := rimsR_len l z hl i (by omega)
      have k1 := fun (F : Fr) => rr_mid hp hz hi (by omega) hv old hw ho n Try.f51.ntmps (by omega) (a0 := F)
      rw [show rrB = atC [1, 1, 0, 1, 0, 0, 1, 0, 0, 1, 0, 0] ((Try.f51.body).getD .skip) from rfl] at k1
      simp only [Try.f51, Option.getD_some, atC] at k1
      simp (disch := omega) only [Try.f51, Option.getD_some, atC, es_seq, es_region, es_cond, es_block, es_loop, es_skip, ops_nil, ops_cons, st_move, st_assign, sy_len uL, sy_bin, binS_lss, bindO_some, bindF_some, bindX_normal, condX_true, ev_tmp, ev_const, putA, upd_at, Option.map_some, ↓reduceIte, Nat.reduceEqDiff, decide_true, ↓bindO_some, ↓bindF_some, ↓bindX_normal, ↓condX_true, h0, h6, hv'.lenI, hlt]
      generalize hF : upd _ 7 _ = F
      obtain ⟨r, a', H2, ev, hr, hs, old2, wf2, vo2, g5, o2⟩ := k1 F (by subst hF; exact h0) (by subst hF; exact h1) (by subst hF; exact h5) (by subst hF; exact h6) (by subst hF; rfl)
      have f0 : F 0 = v := by subst hF; exact h0
      have f1 : F 1 = vi z := by subst hF; exact h1
      have f6 : F 6 = vi i := by subst hF; exact h6
      subst hr
      rw [ev]
      clear ev k1 hF
      have g0 := (hs 0 (by decide)).trans f0
      have g1 := (hs 1 (by decide)).trans f1
      have g6 := (hs 6 (by decide)).trans f6
      simp (disch := omega) only [binS_add, bindO_some, bindF_some, bindX_normal, blkX_normal, blkX_exit, ↓reduceIte, ↓bindO_some, ↓bindF_some, ↓bindX_normal, g6, e1]
      refine ⟨_, _, rfl, g0, g1, rfl, old.trans old2, wf2, vo2, g5, ?_⟩
      rw [List.range_succ, List.flatMap_append, List.flatMap_cons, List.flatMap_nil, List.append_nil]
      exact o2
    · intro a H' ⟨h0, h1, h6, old, hw, vo, h5, ho⟩
      rw [show rrA = atC [1, 1, 0, 1, 0, 0] ((Try.f51.body).getD .skip) from rfl]
      have hv' := hv.mono old
      simp (disch := omega) only [Try.f51, Option.getD_some, atC, es_seq, es_region, es_cond, es_exit, ops_nil, ops_cons, st_move, sy_len uL, sy_bin, binS_lss, bindO_some, bindF_some, bindX_normal, bindX_exit, condX_false, ev_tmp, putA, upd_at, Option.map_some, ↓reduceIte, Nat.reduceEqDiff, decide_false, ↓bindO_some, ↓bindF_some, ↓bindX_normal, ↓bindX_exit, ↓condX_false, h0, h6, hv'.lenI, Int.lt_irrefl]
      exact ⟨_, _, _, rfl, by simp, rfl, vo, h5, ho, old, hw⟩
  rw [show rrA = atC [1, 1, 0, 1, 0, 0] ((Try.f51.body).getD .skip) from rfl] at key
  simp only [Try.f51, Option.getD_some, atC] at key
  simp (disch := omega) only [Try.f51, es_seq, es_region, es_block, es_loop, es_ret, ops_nil, ops_cons, st_move, st_assign, bindO_some, bindF_some, bindX_normal, ev_tmp, ev_const, putA, upd_at, ↓reduceIte, ↓bindO_some, ↓bindF_some, ↓bindX_normal]
  generalize hA : upd _ 6 _ = A
  obtain ⟨r, a', H', e, hr, vo, h5, ho, old, wf⟩ := key A (by subst hA; rfl) (by subst hA; rfl) (by subst hA; rfl) (by subst hA; rfl)
  subst hr
  rw [e]
  simp (disch := omega) only [bindX_normal, blkX_exit, upd_at, Option.map_some, ↓reduceIte, ↓bindX_normal, fin_r, res_nil, res_tmp, pack_1, h5, ho.RH.scal]
  exact ⟨_, _, rfl, ho, old, wf⟩
end Go.Proofs.Ytmmgdgmjkhcfaaa
namespace Go.Proofs.Ytmmgdgmjkhcfaaa
open Go Go.Abs Go.Num
set_option maxRecDepth 10000
attribute [local congr] bindO_congr bindF_congr bindX_congr condX_congr iteB_congr binS_congr pickS_congr eqB_congr nilS_congr clsW_congr maxS_congr minS_congr
theorem fHo0 : fieldOff Try.prog 66 0 = some 0 := by kernel_rfl
theorem fHo1 : fieldOff Try.prog 66 1 = some 1 := by kernel_rfl
noncomputable def rchA : Code := atC [1, 1, 1, 1, 0, 1, 0, 0] ((Try.f20.body).getD .skip)
theorem tail_R {H : Heap} {u : Value} {z : Int} {c : List Int} (hu : R H u (ints (z :: c))) : ∃ w, subS u (some (vi 1)) none = some w ∧ R H w (ints c) := by
  obtain ⟨w, s, r⟩ := hu.from (c := 1) (by simp)
  exact ⟨w, s, r⟩
theorem rchi_loop {H : Heap} {u vh : Value} {z : Int} {c l : List Int} (hp : Part l) (hz : 1 ≤ z) (hc : ∀ y ∈ c, 1 ≤ y ∧ y ≤ 20) (hcl : c.length ≤ 19) (hw : WF H) {H1 : Heap} (old1 : Old H.length H H1) (wf1 : WF H1) (hu : R H u (ints (z :: c))) (hh : RH H1 vh (rimsP l z)) (n nt : Nat) (hn : 2100 ≤ n)
    (ih : ∀ {H : Heap} {v u : Value} {l : List Int}, WF H → R H v (ints l) → Part l → R H u (ints c) → OneL H (evB Try.prog noC n (.func (.func 20) #[] #[]) [v, u] H) (nf (chi c l)))
    {a0 : Fr} (h1 : a0 1 = u) (h5 : a0 5 = .slice none 0 0) (h6 : a0 6 = vh) (h7 : a0 7 = vi (0 : Nat)) :
    ∃ r a' H', loopN (evS Try.prog (evB Try.prog noC n) n nt none rchA) n a0 H1 = some (r, a', H') ∧ r = .exit 0 ∧ ∃ w, a' 5 = w ∧ O H.length H' w (ints (nf (chi (z :: c) l))) ∧ Old H.length H H' ∧ WF H' := by
  have hlen : (rimsP l z).length ≤ 20 := Nat.le_trans (rimsP_le l z l.length) hp.len
  have hc1 : ∀ y ∈ c, 1 ≤ y := fun y hy => (hc y hy).1
  refine loop_up (rimsP l z).length (fun i a H' => a 1 = u ∧ a 6 = vh ∧ a 7 = vi i ∧ Old H.length H H' ∧ Old H1.length H1 H' ∧ WF H' ∧ ∃ w, a 5 = w ∧ O H.length H' w (ints (nf (chiT z c l i)))) _ ?_ ?_ (by omega) ⟨h1, h6, h7, old1, Old.refl _ _, wf1, _, h5, by rw [chiT_0, nf_zero]; exact O.nil _ _⟩
  · intro i a H' hi ⟨h1, h6, h7, old, old', hw', w, h5, ho⟩
    left
    rw [show rchA = atC [1, 1, 1, 1, 0, 1, 0, 0] ((Try.f20.body).getD .skip) from rfl]
    have hlt : (i : Int) < (rimsP l z).length := by omega
    have e1 : IntKind.i64.wrap ((i : Int) + 1) = ((i + 1 : Nat) : Int) := by rw [wr64 (by omega) (by omega)]; omega
    have ei : (rimsP l z)[i]? = some (rimsP l z)[i] := List.getElem?_eq_getElem hi
    have hh' := hh.mono old'
    obtain ⟨hq, q0, q20⟩ := rim_part hp hz (List.getElem_mem hi)
    have hs := chiT_succ (c := c) hi
    obtain ⟨x, lx, rx, -⟩ := hh'.item ei
    obtain ⟨u2, su, ru⟩ := tail_R hu
    obtain ⟨v2, H2, s2, o2, old2, wf2⟩ := ih hw' rx hq (ru.mono old)
    obtain ⟨-, -, -, lz⟩ := (hh'.mono old2).item ei
    have ll := RG.len hh
    have a1 := RG.addr hh hi
    have f10 := hh.faddr hi 0
    have f11 := hh.faddr hi 1
    rw [Nat.add_zero] at f10
    have n1 := chiT_nf (c := c) (l := l) hz hc1 (by omega) hp i
    have n2 := chi_nf (c := c) hc1 (by omega) hq
    have ho2 := ho.mono old2
    generalize hy : (rimsP l z)[i] = y at *
    have et : y.2.tmod 2 = y.2 % 2 := tmod_pos q0 _
    by_cases hm : y.2 % 2 = 1
    · have ed : decide (y.2 % 2 = 1) = true := decide_eq_true hm
      obtain ⟨v3, H3, s3, o3, old3, wf3⟩ := neg_run wf2 (NumV.of o2.R (by omega)) (by omega) n (by omega)
      obtain ⟨v4, H4, s4, o4, old4, wf4⟩ := add_run wf3 (NumV.of (ho2.mono old3).R (by omega)) (NumV.of o3.R (by omega)) (by omega) (by omega) n (by omega)
      simp (disch := omega) only [Try.f20, Option.getD_some, atC, es_seq, es_region, es_draw, d0, es_cond, es_block, es_skip, ops_nil, ops_cons, opsV_nil, opsV_cons, st_move, st_assign, st_fun, sy_load aI, sy_bin, sy_slice eL, binS_lss, binS_eql, binS_add, binS_rem, bindO_some, bindF_some, bindX_normal, blkX_normal, condX_true, iteB_true, iteB_false, ev_tmp, ev_const, ev_func, putA, upd_at, Option.map_some, ↓reduceIte, Nat.reduceEqDiff, List.map_cons, List.map_nil, decide_true, ↓bindO_some, ↓bindF_some, ↓bindX_normal, ↓condX_true, ↓iteB_true, ↓iteB_false, reflV_load, reflV_move, reflV_assign, reflV_addr, reflV_call, reflV_slice, sy_load aL, reflV_faddr, sy_len uHH, sy_addr eHH, sy_faddr fHo0, sy_faddr fHo1, h1, h5, h6, h7, ll, hlt, a1, f10, f11, lx, lz, rx.refl, Option.map_none, su, s2, et, ed, s3, s4, e1]
      have t3 := old3.mono old2.1
      have t4 := old4.mono (Nat.le_trans old2.1 old3.1)
      have t24 := (old2.trans t3).trans t4
      refine ⟨_, _, rfl, ?_, ?_, ?_, old.trans (t24.mono old.1), old'.trans (t24.mono old'.1), wf4, v4, ?_, ?_⟩
      · exact h1
      · exact h6
      · rfl
      · rfl
      rw [hs, sgn, if_pos hm]
      exact o4.below (Nat.le_trans (Nat.le_trans old.1 old2.1) old3.1)
    · have ed : decide (y.2 % 2 = 1) = false := decide_eq_false hm
      obtain ⟨v4, H4, s4, o4, old4, wf4⟩ := add_run wf2 (NumV.of ho2.R (by omega)) (NumV.of o2.R (by omega)) (by omega) (by omega) n (by omega)
      simp (disch := omega) only [Try.f20, Option.getD_some, atC, es_seq, es_region, es_draw, d0, es_cond, es_block, es_skip, ops_nil, ops_cons, opsV_nil, opsV_cons, st_move, st_assign, st_fun, sy_load aI, sy_bin, sy_slice eL, binS_lss, binS_eql, binS_add, binS_rem, bindO_some, bindF_some, bindX_normal, blkX_normal, condX_true, condX_false, iteB_true, iteB_false, ev_tmp, ev_const, ev_func, putA, upd_at, Option.map_some, ↓reduceIte, Nat.reduceEqDiff, List.map_cons, List.map_nil, decide_true, ↓bindO_some, ↓bindF_some, ↓bindX_normal, ↓condX_true, ↓condX_false, ↓iteB_true, ↓iteB_false, reflV_load, reflV_move, reflV_assign, reflV_addr, reflV_call, reflV_slice, sy_load aL, reflV_faddr, sy_len uHH, sy_addr eHH, sy_faddr fHo0, sy_faddr fHo1, h1, h5, h6, h7, ll, hlt, a1, f10, f11, lx, lz, rx.refl, Option.map_none, su, s2, et, ed, s4, e1]
      have t4 := old4.mono old2.1
      have t24 := old2.trans t4
      refine ⟨_, _, rfl, ?_, ?_, ?_, old.trans (t24.mono old.1), old'.trans (t24.mono old'.1), wf4, v4, ?_, ?_⟩
      · exact h1
      · exact h6
      · rfl
      · rfl
      rw [hs, sgn, if_neg hm]
      exact o4.below (Nat.le_trans old.1 old2.1)
  · intro a H' ⟨h1, h6, h7, old, old', hw', w, h5, ho⟩
    rw [show rchA = atC [1, 1, 1, 1, 0, 1, 0, 0] ((Try.f20.body).getD .skip) from rfl]
    have ll := RG.len hh
    simp (disch := omega) only [Try.f20, Option.getD_some, atC, es_seq, es_region, es_cond, es_exit, ops_nil, ops_cons, st_move, sy_bin, binS_lss, bindO_some, bindF_some, bindX_normal, bindX_exit, condX_false, ev_tmp, putA, upd_at, Option.map_some, ↓reduceIte, Nat.reduceEqDiff, decide_false, ↓bindO_some, ↓bindF_some, ↓bindX_normal, ↓bindX_exit, ↓condX_false, sy_len uHH, h6, h7, ll, Int.lt_irrefl]
    exact ⟨_, _, _, rfl, by simp, rfl, w, by simp only [upd_at, ↓reduceIte, Nat.reduceEqDiff, h5], by rw [chiT_all] at ho; exact ho, old, hw'⟩
theorem nf_one : nf 1 = [1] := by
  rw [nf_pos (by omega), show (1 : Int).toNat = 0 + 1 from rfl, digsN]
  simp [digsN_zero]
theorem rchi_run : ∀ (c : List Int), c.length ≤ 20 → (∀ y ∈ c, 1 ≤ y ∧ y ≤ 20) → ∀ {H : Heap} {v u : Value} {l : List Int}, WF H → R H v (ints l) → Part l → R H u (ints c) → ∀ n, 2101 + c.length ≤ n → OneL H (evB Try.prog noC n (.func (.func 20) #[] #[]) [v, u] H) (nf (chi c l)) := by
  intro c
  induction c with
  | nil =>
    intro _ _ H v u l hw hv hp hu n hn
    refine run_of (F := 2100) (Q := fun r => OneL H r (nf (chi [] l))) (fun n hn => ?_) n (by simpa using hn)
    rw [body_runS Try.func20 rfl (ok_fn (by rfl) Try.func20 rfl) (Nat.le_of_ble_eq_true rfl) (D := D0) (by kernel_rfl)]
    have hlen := hu.lenI
    have c0 : decide ((([] : List Int).length : Int) = 0) = true := by decide
    simp (disch := omega) only [Try.f20, es_seq, es_region, es_cond, es_ret, ops_nil, ops_cons, st_move, st_assign, sy_len uL, sy_bin, sy_build1 eL oI, binS_eql, bindO_some, bindF_some, bindX_normal, bindX_ret, condX_true, ev_tmp, ev_const, putA, upd_at, Option.map_some, ↓reduceIte, Nat.reduceEqDiff, frOf_1, ↓bindO_some, ↓bindF_some, ↓bindX_normal, ↓bindX_ret, ↓condX_true, fin_r, res_nil, res_tmp, pack_1, scal_vi, scal_sl, hlen, c0]
    exact ⟨_, _, rfl, by rw [show nf (chi [] l) = [1] by rw [show chi [] l = 1 from rfl]; exact nf_one]; exact O.made (Nat.le_refl _) (ints [1]), Old.app _ _, hw.app (Nat.le_refl _)⟩
  | cons z c ih =>
    intro hcl hc H v u l hw hv hp hu n hn
    refine run_of (F := 2101 + c.length) (Q := fun r => OneL H r (nf (chi (z :: c) l))) (fun n hn => ?_) n (by simpa [Nat.add_assoc] using hn)
    rw [body_runS Try.func20 rfl (ok_fn (by rfl) Try.func20 rfl) (Nat.le_of_ble_eq_true rfl) (D := D0) (by kernel_rfl)]
    have hcl : c.length ≤ 19 := by simpa using hcl
    have hz := hc z (by simp)
    have hc2 : ∀ y ∈ c, 1 ≤ y ∧ y ≤ 20 := fun y hy => hc y (by simp [hy])
    obtain ⟨vh, H1, s1, oh, old1, wf1⟩ := rrims_run hw hv hp hz n (by omega)
    rw [rims_eq hp hz.1] at oh
    have key := fun (A : Fr) => rchi_loop (a0 := A) (l := l) hp hz.1 hc2 hcl hw old1 wf1 hu oh.RH n Try.f20.ntmps (by omega) (fun w1 w2 w3 w4 => ih (by omega) hc2 w1 w2 w3 w4 n (by omega))
    rw [show rchA = atC [1, 1, 1, 1, 0, 1, 0, 0] ((Try.f20.body).getD .skip) from rfl] at key
    simp only [Try.f20, Option.getD_some, atC] at key
    have hlen := hu.lenI
    have c0 : decide (((z :: c).length : Int) = 0) = false := decide_eq_false (by rw [List.length_cons]; omega)
    have a1 : addrS 1 u (vi 0) = some (pt u 0) := hu.addrI (i := 0) (by omega) (by rw [List.length_cons]; omega)
    have l1 := hu.loadI (i := 0) (by rw [List.length_cons]; omega)
    rw [show (z :: c).getD 0 0 = z from rfl] at l1
    simp (disch := omega) only [Try.f20, es_seq, es_region, es_cond, es_block, es_loop, es_skip, es_ret, ops_nil, ops_cons, st_move, st_assign, st_fun, sy_len uL, sy_addr eL, sy_load aI, sy_bin, binS_eql, bindO_some, bindF_some, bindX_normal, condX_false, ev_tmp, ev_const, ev_func, putA, upd_at, Option.map_some, ↓reduceIte, Nat.reduceEqDiff, frOf_0, frOf_1, List.map_cons, List.map_nil, ↓bindO_some, ↓bindF_some, ↓bindX_normal, ↓condX_false, hlen, c0, a1, l1, s1]
    generalize hA : upd _ 7 _ = A
    obtain ⟨r, a', H2, s, rfl, w, h5, o2, old2, wf2⟩ := key A (by subst hA; rfl) (by subst hA; rfl) (by subst hA; rfl) (by subst hA; rfl)
    simp (disch := omega) only [s, bindX_normal, blkX_exit, upd_at, Option.map_some, ↓reduceIte, ↓bindX_normal, fin_r, res_nil, res_tmp, pack_1, h5, o2.R.scal]
    exact ⟨_, _, rfl, o2, old2, wf2⟩
end Go.Proofs.Ytmmgdgmjkhcfaaa
namespace Go.Abs
def OldX (m B : Nat) (H H' : Heap) : Prop := H.length ≤ H'.length ∧ ∀ b, b < B → b ≠ m → H'[b]? = H[b]?
theorem OldX.refl (m B : Nat) (H : Heap) : OldX m B H H := ⟨Nat.le_refl _, fun _ _ _ => rfl⟩
theorem OldX.trans {m B : Nat} {H1 H2 H3 : Heap} (h : OldX m B H1 H2) (h' : OldX m B H2 H3) : OldX m B H1 H3 := ⟨Nat.le_trans h.1 h'.1, fun b hb hm => by rw [h'.2 b hb hm, h.2 b hb hm]⟩
theorem OldX.mono {m B B' : Nat} {H1 H2 : Heap} (h : OldX m B H1 H2) (hb : B' ≤ B) : OldX m B' H1 H2 := ⟨h.1, fun b hb' => h.2 b (by omega)⟩
theorem Old.X {B : Nat} {H1 H2 : Heap} (h : Old B H1 H2) (m : Nat) : OldX m B H1 H2 := ⟨h.1, fun b hb _ => h.2 b hb⟩
def MapAt (H : Heap) (m : Nat) : Prop := ∃ es, H[m]? = some (.map es)
theorem MapAt.ne {H : Heap} {m b f : Nat} {w : Bool} {cs : List Value} (h : MapAt H m) (hb : H[b]? = some (.cells f w cs)) : b ≠ m := by
  rintro rfl
  obtain ⟨es, e⟩ := h
  rw [hb] at e; cases e
theorem R.monoX {m : Nat} {H H' : Heap} {v : Value} {l : List Value} (h : R H v l) (hm : MapAt H m) (ho : OldX m H.length H H') : R H' v l := by
  rcases h with h | h | ⟨b, o, f, w, cs, h1, hb, h2⟩
  · exact .inl h
  · exact .inr (.inl h)
  · exact .inr (.inr ⟨b, o, f, w, cs, h1, by rw [ho.2 b (lt_of_blk hb) (hm.ne hb)]; exact hb, h2⟩)
theorem RH.monoX {m : Nat} {H H' : Heap} {v : Value} {ls : List (List Int × Int)} (h : RH H v ls) (hm : MapAt H m) (ho : OldX m H.length H H') : RH H' v ls := by
  rcases h with h | ⟨b, f, w, css, h1, hb, h2, h3, h4⟩
  · exact .inl h
  · refine .inr ⟨b, f, w, css, h1, by rw [ho.2 b (lt_of_blk hb) (hm.ne hb)]; exact hb, h2, h3, fun i c a hc ha => ?_⟩
    obtain ⟨v, e1, e2⟩ := h4 i c a hc ha
    exact ⟨v, e1, R.monoX e2 hm ho⟩
theorem BxM.monoX {m B C : Nat} {H H' : Heap} {p : Value} {cs : List Value} (h : BxM B C H p cs) (hm : MapAt H m) (ho : OldX m C H H') : BxM B C H' p cs := by
  obtain ⟨b, f, h1, h2, h3, h4, h5, hb⟩ := h
  exact ⟨b, f, h1, h2, h3, h4, h5, by rw [ho.2 b h4 (hm.ne hb)]; exact hb⟩
theorem WF.setMap {H : Heap} (h : WF H) (m : Nat) (es : List (Value × Value)) : WF (H.set m (.map es)) := by
  intro b f o cs hb
  rw [List.getElem?_set] at hb
  split at hb
  · split at hb
    · cases hb
    · cases hb
  · exact h b f o cs hb
theorem OldX.setMap (H : Heap) (m : Nat) (es : List (Value × Value)) (B : Nat) : OldX m B H (H.set m (.map es)) := by
  refine ⟨by simp, fun b _ hm => ?_⟩
  rw [List.getElem?_set, if_neg (fun h => hm h.symm)]
end Go.Abs
namespace Go.Proofs.Ytmmgdgmjkhcfaaa
open Go Go.Abs Go.Num
set_option maxRecDepth 10000
attribute [local congr] bindO_congr bindF_congr bindX_congr condX_congr iteB_congr binS_congr pickS_congr eqB_congr nilS_congr clsW_congr maxS_congr minS_congr
theorem uMp : Try.prog.underlying 76 = some (.map 9 22) := by kernel_rfl
theorem zMp : zeroT Try.prog 22 = some (.slice none 0 0) := by kernel_rfl
noncomputable def getS (es : List (Value × Value)) (k : ByteArray) : Value := match findA (.string k) es with
  | some v => .tuple #[v, .bool true]
  | none => .tuple #[.slice none 0 0, .bool false]
structure Kc (l c : List Int) : Prop where
  part : Part l
  cyc : ∀ y ∈ c, 1 ≤ y ∧ y ≤ 20
  len : c.length ≤ 20
def Known (H : Heap) (es : List (Value × Value)) : Prop := ∀ e ∈ es, ∃ l c v, e = (.string (txt (keyL l c)), v) ∧ Kc l c ∧ R H v (ints (nf (chi c l)))
theorem Known.kinds {H : Heap} {es : List (Value × Value)} (h : Known H es) : es.all (fun e => keyKind .string e.1) = true := by
  rw [List.all_eq_true]
  intro e he
  obtain ⟨l, c, v, rfl, -⟩ := h e he
  rfl
theorem Known.monoX {H H' : Heap} {m : Nat} {es : List (Value × Value)} (h : Known H es) (hm : MapAt H m) (ho : OldX m H.length H H') : Known H' es := by
  intro e he
  obtain ⟨l, c, v, e1, e2, e3⟩ := h e he
  exact ⟨l, c, v, e1, e2, R.monoX e3 hm ho⟩
theorem keyL_rng {l c : List Int} (h : Kc l c) : ∀ x ∈ keyL l c, 0 ≤ x ∧ x < 256 := by
  intro x hx
  unfold keyL at hx
  rcases List.mem_append.1 hx with hx | hx
  · have := h.part.mem x hx; omega
  · rcases List.mem_cons.1 hx with rfl | hx
    · omega
    · have := h.cyc x hx; omega
theorem key_inj {l c l' c' : List Int} (h : Kc l c) (h' : Kc l' c') (e : txt (keyL l c) = txt (keyL l' c')) : l = l' ∧ c = c' :=
  keyL_inj (fun x hx => (h.part.mem x hx).1) (fun x hx => (h'.part.mem x hx).1) (txt_inj (keyL_rng h) (keyL_rng h') e)
theorem same_str {a b : ByteArray} : sameKey (.string a) (.string b) = true ↔ a = b := by
  cases a with
  | mk a =>
    cases b with
    | mk b =>
      constructor
      · intro h
        have h : (a == b) = true := h
        rw [eq_of_beq h]
      · intro h
        have h : a = b := congrArg ByteArray.data h
        show (a == b) = true
        rw [h]; exact beq_self_eq_true b
theorem Known.find {H : Heap} {es : List (Value × Value)} (h : Known H es) {l c : List Int} (hk : Kc l c) {v : Value} (e : findA (.string (txt (keyL l c))) es = some v) : R H v (ints (nf (chi c l))) := by
  induction es with
  | nil => cases e
  | cons x es ih =>
    obtain ⟨l', c', v', rfl, h2, h3⟩ := h x (by simp)
    rw [findA] at e
    split at e
    · rename_i hs
      obtain ⟨rfl, rfl⟩ := key_inj hk h2 (same_str.1 hs)
      cases e; exact h3
    · exact ih (fun y hy => h y (by simp [hy])) e
theorem Known.set {H : Heap} {es : List (Value × Value)} (h : Known H es) {l c : List Int} (hk : Kc l c) {v : Value} (hv : R H v (ints (nf (chi c l)))) : Known H (setA (.string (txt (keyL l c))) v es) := by
  induction es with
  | nil =>
    intro e he
    obtain rfl := List.mem_singleton.1 he
    exact ⟨l, c, v, rfl, hk, hv⟩
  | cons x es ih =>
    obtain ⟨k', v'⟩ := x
    rw [setA]
    split
    · intro e he
      rcases List.mem_cons.1 he with rfl | he
      · exact ⟨l, c, v, rfl, hk, hv⟩
      · exact h e (by simp [he])
    · intro e he
      rcases List.mem_cons.1 he with rfl | he
      · exact h _ (by simp)
      · exact ih (fun y hy => h y (by simp [hy])) e he
theorem sy_look {call : CallF} {a : Fr} {H : Heap} {d : Option Nat} {ty : TypeId} {pos : String} {aft : Array Edge} {g : Option (Nat × Bool)} {t : TypeId} {x k : Operand} {ok : Bool} : stepA Try.prog call a ⟨d, .lookup t x k ok, ty, pos, aft, g⟩ H = (lookupA Try.prog t (ev a x) (ev a k) ok H).map fun v => (v, H) := (rfl)
theorem sy_mapup {call : CallF} {a : Fr} {H : Heap} {d : Option Nat} {ty : TypeId} {pos : String} {aft : Array Edge} {g : Option (Nat × Bool)} {t : TypeId} {x k v : Operand} : stepA Try.prog call a ⟨d, .mapUpdate t x k v, ty, pos, aft, g⟩ H = (mapUpdateA Try.prog t (ev a x) (ev a k) (ev a v) H).map fun h => (undef, h) := (rfl)
theorem look_eq {H : Heap} {m : Nat} {es : List (Value × Value)} (hm : H[m]? = some (.map es)) (hk : Known H es) (k : ByteArray) : lookupA Try.prog 76 (.map (some m)) (.string k) true H = some (getS es k) := by
  unfold lookupA getS
  simp only [uMp, uSt, zMp, hm]
  rw [if_pos ⟨rfl, hk.kinds⟩]
  cases findA (.string k) es <;> rfl
theorem mapup_eq {H : Heap} {m : Nat} {es : List (Value × Value)} (hm : H[m]? = some (.map es)) (hk : Known H es) (k : ByteArray) {v : Value} (hv : Abs.scal v = some [v]) : mapUpdateA Try.prog 76 (.map (some m)) (.string k) v H = some (H.set m (.map (setA (.string k) v es))) := by
  unfold mapUpdateA
  simp only [uMp, uSt, hv, hm]
  rw [if_pos ⟨rfl, hk.kinds⟩]
end Go.Proofs.Ytmmgdgmjkhcfaaa
namespace Go.Proofs.Ytmmgdgmjkhcfaaa
open Go Go.Abs Go.Num
set_option maxRecDepth 10000
attribute [local congr] bindO_congr bindF_congr bindX_congr condX_congr iteB_congr binS_congr pickS_congr eqB_congr nilS_congr
theorem isnan_run (x : Int) (H : Heap) (n : Nat) (hn : 1 ≤ n) : evB Try.prog noC n (.func (.func 124) #[] #[]) [vi x] H = some (.bool false, H) := by
  refine run_of (F := 0) (Q := fun r => r = some (.bool false, H)) (fun n hn => ?_) n hn
  rw [body_runS Try.func124 rfl (ok_fn (by rfl) Try.func124 rfl) (Nat.le_of_ble_eq_true rfl) (D := D0) (by kernel_rfl)]
  have e : decide (x = x) = true := by simp
  simp only [Try.f124, es_seq, es_region, es_ret, ops_nil, ops_cons, st_move, st_assign, sy_bin, binS_neq, bindO_some, bindF_some, bindX_normal, ev_tmp, ev_const, putA, upd_at, Option.map_some, ↓reduceIte, Nat.reduceEqDiff, frOf_0, decide_true, Bool.not_true, ↓bindO_some, ↓bindF_some, ↓bindX_normal, fin_r, res_nil, res_tmp, pack_1, scal_bool]
theorem compare_run (x y : Int) (H : Heap) (n : Nat) (hn : 2 ≤ n) : evB Try.prog noC n (.func (.func 98) #[] #[]) [vi x, vi y] H = some (vi (cmpZ x y), H) := by
  refine run_of (F := 1) (Q := fun r => r = some (vi (cmpZ x y), H)) (fun n hn => ?_) n hn
  rw [body_runS Try.func98 rfl (ok_fn (by rfl) Try.func98 rfl) (Nat.le_of_ble_eq_true rfl) (D := D0) (by kernel_rfl)]
  have s1 := isnan_run x H n hn
  have s2 := isnan_run y H n hn
  unfold cmpZ
  by_cases h1 : x < y
  · simp only [Try.f98, es_seq, es_region, es_cond, es_skip, es_ret, ops_nil, ops_cons, st_move, st_assign, st_fun, sy_bin, binS_lss, bindO_some, bindF_some, bindX_normal, bindX_ret, condX_true, condX_false, ev_tmp, ev_const, ev_func, putA, upd_at, Option.map_some, ↓reduceIte, Nat.reduceEqDiff, frOf_0, frOf_1, List.map_cons, List.map_nil, decide_true, ↓bindO_some, ↓bindF_some, ↓bindX_normal, ↓bindX_ret, ↓condX_true, ↓condX_false, fin_r, res_nil, res_tmp, pack_1, scal_vi, s1, s2, h1]
  · by_cases h2 : y < x
    · simp only [Try.f98, es_seq, es_region, es_cond, es_skip, es_ret, ops_nil, ops_cons, st_move, st_assign, st_fun, sy_bin, binS_lss, binS_gtr, bindO_some, bindF_some, bindX_normal, bindX_ret, condX_true, condX_false, ev_tmp, ev_const, ev_func, putA, upd_at, Option.map_some, ↓reduceIte, Nat.reduceEqDiff, frOf_0, frOf_1, List.map_cons, List.map_nil, decide_true, decide_false, ↓bindO_some, ↓bindF_some, ↓bindX_normal, ↓bindX_ret, ↓condX_true, ↓condX_false, fin_r, res_nil, res_tmp, pack_1, scal_vi, s1, s2, h1, h2]
    · simp only [Try.f98, es_seq, es_region, es_cond, es_skip, es_ret, ops_nil, ops_cons, st_move, st_assign, st_fun, sy_bin, binS_lss, binS_gtr, bindO_some, bindF_some, bindX_normal, condX_false, ev_tmp, ev_const, ev_func, putA, upd_at, Option.map_some, ↓reduceIte, Nat.reduceEqDiff, frOf_0, frOf_1, List.map_cons, List.map_nil, decide_false, ↓bindO_some, ↓bindF_some, ↓bindX_normal, ↓condX_false, fin_r, res_nil, res_tmp, pack_1, scal_vi, s1, s2, h1, h2]
noncomputable def szA : Code := atC [1, 1, 0, 1, 0, 0] ((Try.f115.body).getD .skip)
theorem sizes_loop {H : Heap} {vx vy : Value} {x y : Int} (hx : R H vx (ints (nf x))) (hy : R H vy (ints (nf y))) (x0 : 0 ≤ x) (y0 : 0 ≤ y) (lx : (nf x).length ≤ 900) (hl : (nf x).length = (nf y).length) (n m nt : Nat) (hn : 2 ≤ n) {a : Fr} {k : Nat} (hk : (nf x).length < k)
    (h0 : a 0 = vx) (h1 : a 1 = vy) (h5 : a 5 = vi (((nf x).length : Int) - 1)) :
    ∃ r a' H', loopN (evS Try.prog (evB Try.prog noC n) m nt none szA) k a H = some (r, a', H') ∧ H' = H ∧ ((r = .exit 0 ∧ x = y) ∨ (r = .ret ∧ a' 4 = vi (cmpZ x y))) := by
  refine loop_wf (fun j a H' => H' = H ∧ a 0 = vx ∧ a 1 = vy ∧ a 5 = vi ((j : Int) - 1) ∧ j ≤ (nf x).length ∧ (nf x).drop j = (nf y).drop j) _ ?_ k (nf x).length a H hk ⟨rfl, h0, h1, h5, Nat.le_refl _, by rw [List.drop_length, hl, List.drop_length]⟩
  intro j a H' ⟨hH, h0, h1, h5, hj, hd⟩
  subst hH
  rw [show szA = atC [1, 1, 0, 1, 0, 0] ((Try.f115.body).getD .skip) from rfl]
  by_cases hz : j = 0
  · subst hz
    right
    have c1 : decide ((0 : Int) ≤ ((0 : Nat) : Int) - 1) = false := rfl
    simp (disch := omega) only [Try.f115, Option.getD_some, atC, es_seq, es_region, es_cond, es_exit, ops_nil, ops_cons, st_move, sy_bin, binS_geq, bindO_some, bindF_some, bindX_normal, bindX_exit, condX_false, ev_tmp, ev_const, putA, upd_at, ↓reduceIte, ↓bindO_some, ↓bindF_some, ↓bindX_normal, ↓bindX_exit, ↓condX_false, h5, c1]
    refine ⟨_, _, _, rfl, by simp, rfl, .inl ⟨rfl, ?_⟩⟩
    have := congrArg val hd
    rw [List.drop_zero, List.drop_zero, nf_val, nf_val] at this
    exact this
  · obtain ⟨i, rfl⟩ : ∃ i, j = i + 1 := ⟨j - 1, by omega⟩
    rw [show ((i + 1 : Nat) : Int) - 1 = (i : Int) from by omega] at h5
    have c1 : (0 : Int) ≤ (i : Int) := by omega
    have e1 : IntKind.i64.wrap ((i : Int) - 1) = (i : Int) - 1 := wr64 (by omega) (by omega)
    have hc := cmp_at (nf_dg x0) (nf_dg y0) (i := i) (by omega) (by omega) hd
    rw [nf_val, nf_val] at hc
    by_cases he : (nf x).getD i 0 = (nf y).getD i 0
    · left
      simp (disch := omega) only [Try.f115, Option.getD_some, atC, es_seq, es_region, es_draw, d0, es_cond, es_block, es_skip, ops_nil, ops_cons, opsV_nil, opsV_cons, st_move, st_assign, sy_addr eL, sy_load aI, sy_bin, binS_geq, binS_neq, binS_sub, bindO_some, bindF_some, bindX_normal, blkX_normal, condX_true, condX_false, iteB_true, iteB_false, ev_tmp, ev_const, putA, upd_at, Option.map_some, ↓reduceIte, Nat.reduceEqDiff, Int.toNat_natCast, decide_true, Bool.not_true, ↓bindO_some, ↓bindF_some, ↓bindX_normal, ↓condX_true, ↓condX_false, ↓iteB_true, ↓iteB_false, reflV_load, reflV_move, reflV_bin, reflV_addr, vEq_vi, h0, h1, h5, c1, hx.addrI, hx.loadI, hy.addrI, hy.loadI, he, e1]
      exact ⟨_, _, rfl, i, by omega, rfl, by simp only [upd_get, ↓reduceIte, Nat.reduceEqDiff, h0], by simp only [upd_get, ↓reduceIte, Nat.reduceEqDiff, h1], by simp only [upd_get, ↓reduceIte], by omega, by rw [drop_getD (by omega), drop_getD (l := nf y) (by omega), hd, he]⟩
    · right
      have s1 := compare_run ((nf x).getD i 0) ((nf y).getD i 0) H' n hn
      have e2 : cmpZ ((nf x).getD i 0) ((nf y).getD i 0) = cmpZ x y := by
        unfold cmpZ
        by_cases hlt : (nf x).getD i 0 < (nf y).getD i 0
        · rw [if_pos hlt, if_pos (hc.1 hlt)]
        · have hgt : (nf y).getD i 0 < (nf x).getD i 0 := by omega
          have := hc.2 hgt
          rw [if_neg hlt, if_pos hgt, if_neg (by omega), if_pos this]
      simp (disch := omega) only [Try.f115, Option.getD_some, atC, es_seq, es_region, es_draw, d0, es_cond, es_block, es_skip, es_ret, ops_nil, ops_cons, opsV_nil, opsV_cons, st_move, st_assign, st_fun, sy_addr eL, sy_load aI, sy_bin, binS_geq, binS_neq, bindO_some, bindF_some, bindX_normal, bindX_ret, blkX_ret, condX_true, iteB_true, iteB_false, ev_tmp, ev_const, ev_func, putA, upd_at, Option.map_some, ↓reduceIte, Nat.reduceEqDiff, Int.toNat_natCast, List.map_cons, List.map_nil, decide_true, decide_false, Bool.not_false, ↓bindO_some, ↓bindF_some, ↓bindX_normal, ↓bindX_ret, ↓condX_true, ↓iteB_true, ↓iteB_false, reflV_load, reflV_move, reflV_assign, reflV_bin, reflV_addr, reflV_call, vEq_vi, h0, h1, h5, c1, hx.addrI, hx.loadI, hy.addrI, hy.loadI, he, s1, e2]
      exact ⟨_, _, _, rfl, by simp, rfl, .inr ⟨rfl, by simp only [upd_get, ↓reduceIte]⟩⟩
theorem sizes_run {H : Heap} {vx vy : Value} {x y : Int} (hx : R H vx (ints (nf x))) (hy : R H vy (ints (nf y))) (x0 : 0 ≤ x) (y0 : 0 ≤ y) (lx : (nf x).length ≤ 900) (ly : (nf y).length ≤ 900) (n : Nat) (hn : 1002 ≤ n) :
    evB Try.prog noC n (.func (.func 115) #[] #[]) [vx, vy] H = some (vi (cmpZ x y), H) := by
  refine run_of (F := 1001) (Q := fun r => r = some (vi (cmpZ x y), H)) (fun n hn => ?_) n hn
  rw [body_runS Try.func115 rfl (ok_fn (by rfl) Try.func115 rfl) (Nat.le_of_ble_eq_true rfl) (D := D0) (by kernel_rfl)]
  by_cases hl : (nf x).length = (nf y).length
  · have c1 : (((nf x).length : Int) = (nf y).length) := by omega
    have e1 : IntKind.i64.wrap (((nf y).length : Int) - 1) = ((nf y).length : Int) - 1 := wr64 (by omega) (by omega)
    have key := fun (A : Fr) => sizes_loop hx hy x0 y0 lx hl n n Try.f115.ntmps (by omega) (a := A) (k := n) (by omega)
    rw [show szA = atC [1, 1, 0, 1, 0, 0] ((Try.f115.body).getD .skip) from rfl] at key
    simp only [Try.f115, Option.getD_some, atC] at key
    simp (disch := omega) only [Try.f115, es_seq, es_region, es_cond, es_block, es_loop, es_skip, es_ret, ops_nil, ops_cons, st_move, st_assign, sy_len uL, sy_bin, binS_neq, binS_sub, bindO_some, bindF_some, bindX_normal, condX_false, ev_tmp, ev_const, putA, upd_at, Option.map_some, ↓reduceIte, Nat.reduceEqDiff, frOf_0, frOf_1, decide_true, Bool.not_true, ↓bindO_some, ↓bindF_some, ↓bindX_normal, ↓condX_false, hx.lenI, hy.lenI, c1, e1]
    generalize hA : upd _ 5 _ = A
    obtain ⟨r, a', H', e, hH, h⟩ := key A (by subst hA; rfl) (by subst hA; rfl) (by subst hA; rw [c1]; rfl)
    subst hH
    rw [e]
    rcases h with ⟨rfl, rfl⟩ | ⟨rfl, h4⟩
    · have c2 : cmpZ x x = 0 := by simp [cmpZ]
      simp (disch := omega) only [bindX_normal, blkX_exit, upd_at, Option.map_some, ↓reduceIte, ↓bindX_normal, fin_r, res_nil, res_tmp, pack_1, scal_vi, c2]
    · simp (disch := omega) only [bindX_ret, blkX_ret, Option.map_some, ↓bindX_ret, fin_r, res_nil, res_tmp, pack_1, scal_vi, h4]
  · have c1 : ¬ (((nf x).length : Int) = (nf y).length) := by omega
    have s1 := compare_run (((nf x).length : Nat) : Int) (((nf y).length : Nat) : Int) H n (by omega)
    have e2 : cmpZ (((nf x).length : Nat) : Int) (((nf y).length : Nat) : Int) = cmpZ x y := by
      unfold cmpZ
      by_cases hlt : (nf x).length < (nf y).length
      · rw [if_pos (by omega), if_pos (nf_len_lt x0 y0 hlt)]
      · have hgt : (nf y).length < (nf x).length := by omega
        have := nf_len_lt y0 x0 hgt
        rw [if_neg (by omega), if_pos (by omega), if_neg (by omega), if_pos this]
    simp (disch := omega) only [Try.f115, es_seq, es_region, es_cond, es_ret, ops_nil, ops_cons, st_move, st_assign, st_fun, sy_len uL, sy_bin, binS_neq, bindO_some, bindF_some, bindX_normal, bindX_ret, condX_true, ev_tmp, ev_const, ev_func, putA, upd_at, Option.map_some, ↓reduceIte, Nat.reduceEqDiff, frOf_0, frOf_1, List.map_cons, List.map_nil, decide_false, Bool.not_false, ↓bindO_some, ↓bindF_some, ↓bindX_normal, ↓bindX_ret, ↓condX_true, fin_r, res_nil, res_tmp, pack_1, scal_vi, hx.lenI, hy.lenI, c1, s1, e2]
theorem minus_run {H : Heap} {v : Value} {z : Int} (hw : WF H) (hr : R H v (ints (nf z.natAbs))) (n : Nat) (hn : 10 ≤ n) :
    ∃ H', evB Try.prog noC n (.func (.func 85) #[] #[]) [.agg #[.bool (decide (z < 0)), v]] H = some (.agg #[.bool (decide (-z < 0)), v], H') ∧ Old H.length H H' ∧ WF H' := by
  generalize hnb : decide (z < 0) = nb
  refine run_of (F := 9) (Q := fun r => ∃ H', r = some (.agg #[.bool (decide (-z < 0)), v], H') ∧ Old H.length H H' ∧ WF H') (fun n hn => ?_) n hn
  rw [body_runS Try.func85 rfl (ok_fn (by rfl) Try.func85 rfl) (Nat.le_of_ble_eq_true rfl) (D := D0) (by kernel_rfl)]
  have oldb := Old.app H [.cells H.length true [.bool nb, v]]
  have wfb := hw.app (Nat.le_refl H.length) (o := true) (cs := [.bool nb, v])
  have bb := BxM.made (B := H.length) (H := H) (Nat.le_refl _) [.bool nb, v]
  have oldc := Old.app (H ++ [.cells H.length true [.bool nb, v]]) [.cells (H ++ [Blk.cells H.length true [.bool nb, v]]).length true [.bool false, .slice none 0 0]]
  have wfc := wfb.app (Nat.le_refl _) (o := true) (cs := [.bool false, .slice none 0 0])
  have cc := BxM.made (B := (H ++ [Blk.cells H.length true [.bool nb, v]]).length) (H := H ++ [.cells H.length true [.bool nb, v]]) (Nat.le_refl _) [.bool false, .slice none 0 0]
  generalize hH1 : H ++ [Blk.cells H.length true [.bool nb, v]] = H1 at *
  generalize hH2 : H1 ++ [Blk.cells H1.length true [.bool false, .slice none 0 0]] = H2 at *
  have bb2 := bb.mono oldc
  have f0 := bb.faddr 0
  have f1 := bb.faddr 1
  have l1 : loadS (bx (ptrA H.length 0) 1) H2 = some v := bb2.load 1
  have l0 : loadS (bx (ptrA H.length 0) 0) H2 = some (.bool nb) := bb2.load 0
  have hlen := hr.lenI
  have old02 := oldb.trans (oldc.mono oldb.1)
  have e1 : decide (-z < 0) = (!nb && decide ((0 : Int) < (nf z.natAbs).length)) := by
    rw [← hnb]
    by_cases hz : z = 0
    · subst hz
      rw [show ((0 : Int).natAbs : Int) = 0 from rfl, nf_zero]; rfl
    · have hne : (nf z.natAbs).length ≠ 0 := fun h => by have := nf_nil.1 (List.eq_nil_of_length_eq_zero h); omega
      rw [show decide ((0 : Int) < ((nf z.natAbs).length : Nat)) = true from by simp; omega, Bool.and_true, ← decide_not, decide_eq_decide]
      omega
  generalize hsb : decide (-z < 0) = sb at *
  obtain ⟨H3, s3, bb3, old3, wf3, keep3⟩ := bb2.set wfc (i := 0) (by simp) (v := .bool sb) rfl
  have s3 : storeS (bx (ptrA H.length 0) 0) (.bool sb) H2 = some H3 := s3
  have l3 : loadN 2 (ptrA H.length 0) H3 = some (.agg #[.bool sb, v]) := bb3.loadAll
  obtain ⟨H4, s4, cc4, old4, wf4, keep4⟩ := (cc.kept keep3 (Nat.le_refl _)).store wf3 (vs := [.bool sb, v]) rfl
  have s4 : storeN 2 (ptrA H1.length 0) (.agg #[.bool sb, v]) H3 = some H4 := s4
  have l4 : loadN 2 (ptrA H1.length 0) H4 = some (.agg #[.bool sb, v]) := cc4.loadAll
  have oldf := (old02.trans old3).trans (old4.mono oldb.1)
  cases nb with
  | true =>
    have e1 : sb = false := by simpa using e1
    subst e1
    simp (disch := omega) only [Try.f85, es_seq, es_region, es_ret, ops_nil, ops_cons, ops_consG, st_move, sy_pick, pickS_false, st_not, bindO_some, bindF_some, bindX_normal, iteB_false, ev_tmp, ev_const, putA, upd_at, Option.map_some, ↓reduceIte, Nat.reduceEqDiff, frOf_0, Bool.not_true, yieldO_eq, yO, yV_bool, some_true, List.getElem?_cons_zero, List.getElem?_cons_succ, ↓bindO_some, ↓bindF_some, ↓bindX_normal, ↓iteB_false, fin_r, res_nil, pack_1, sy_load aB, sy_store zB, sy_faddr fW0, sy_loadN aW zW, sy_storeN zW, sy_alloc iW scal_agg, sy_box, res_cell aW zW, scal_agg, hH1, hH2, f0, l0, s3, l3, s4, l4]
    exact ⟨_, rfl, oldf, wf4⟩
  | false =>
    rw [Bool.not_false, Bool.true_and] at e1
    simp (disch := omega) only [Try.f85, es_seq, es_region, es_ret, ops_nil, ops_cons, ops_consG, st_move, sy_pick, pickS_true, sy_len uL, sy_bin, st_not, binS_gtr, bindO_some, bindF_some, bindX_normal, iteB_true, ev_tmp, ev_const, putA, upd_at, Option.map_some, ↓reduceIte, Nat.reduceEqDiff, frOf_0, Bool.not_false, yieldO_eq, yO, yV_bool, List.getElem?_cons_zero, List.getElem?_cons_succ, beq_self_eq_true, ↓bindO_some, ↓bindF_some, ↓bindX_normal, ↓iteB_true, fin_r, res_nil, pack_1, sy_load aL, sy_load aB, sy_store zB, sy_faddr fW0, sy_faddr fW1, sy_loadN aW zW, sy_storeN zW, sy_alloc iW scal_agg, sy_box, res_cell aW zW, scal_agg, hH1, hH2, f0, l0, f1, l1, hlen, ← e1, s3, l3, s4, l4]
    exact ⟨_, rfl, oldf, wf4⟩
end Go.Proofs.Ytmmgdgmjkhcfaaa
namespace Go.Proofs.Ytmmgdgmjkhcfaaa
open Go Go.Abs Go.Num
set_option maxRecDepth 10000
attribute [local congr] bindO_congr bindF_congr bindX_congr condX_congr iteB_congr binS_congr pickS_congr eqB_congr nilS_congr clsW_congr
theorem abs_len (z : Int) : (nf z.natAbs).length = (nf z).length := by
  rw [← nf_abs]
  split
  · rw [List.length_map]
  · rfl
theorem neg_len (z : Int) : (nf (-z)).length = (nf z).length := by rw [← nf_neg', List.length_map]
theorem add_len {x y : Int} {k : Nat} (hx : (nf x).length ≤ k) (hy : (nf y).length ≤ k) : (nf (x + y)).length ≤ k + 1 := by
  have a := nf_size x
  have b := nf_size y
  have c := pow_le hx
  have d := pow_le hy
  have e := pow_succ' k
  have f := pow_pos k
  exact nf_len (by omega) (by omega)
theorem of_run {H : Heap} {z : Int} (hw : WF H) (h1 : -4000000000000000000 ≤ z) (h2 : z ≤ 4000000000000000000) (n : Nat) (hn : 2004 ≤ n) :
    OneL H (evB Try.prog noC n (.func (.func 79) #[] #[]) [vi z] H) (nf z) := by
  refine run_of (F := 2003) (Q := fun r => OneL H r (nf z)) (fun n hn => ?_) n hn
  rw [body_runS Try.func79 rfl (ok_fn (by rfl) Try.func79 rfl) (Nat.le_of_ble_eq_true rfl) (D := D0) (by kernel_rfl)]
  obtain ⟨w, H1, s1, w1, old1, wf1⟩ := small_run hw h1 h2 n (by omega)
  have hl : (nf z).length ≤ 3 := nf_len (by rw [show B ^ 3 = 1000000000000000000000000 from rfl]; omega) (by rw [show B ^ 3 = 1000000000000000000000000 from rfl]; omega)
  obtain ⟨v, H2, s2, o2, old2, wf2⟩ := list_run wf1 w1 (by rw [abs_len]; omega) n (by omega)
  simp (disch := omega) only [Try.f79, es_seq, es_region, es_ret, ops_nil, ops_cons, st_move, st_assign, st_fun, bindO_some, bindF_some, bindX_normal, ev_tmp, ev_const, ev_func, putA, upd_at, Option.map_some, ↓reduceIte, Nat.reduceEqDiff, frOf_0, List.map_cons, List.map_nil, ↓bindO_some, ↓bindF_some, ↓bindX_normal, fin_r, res_nil, res_tmp, pack_1, s1, s2, o2.R.scal]
  exact ⟨_, _, rfl, o2.below old1.1, old1.trans (old2.mono old1.1), wf2⟩
end Go.Proofs.Ytmmgdgmjkhcfaaa
