/- Of the law: texts of its proof, joined (part 5). -/
import Derived.Test.YtmmgdgmjkhcfaaaChecked
import Derived.Test.YtmmgdgmjkhcfaaaQcj4
set_option linter.all false
namespace Go.Proofs.Ytmmgdgmjkhcfaaa
open Go Go.Abs
theorem hmix : Try.prog.follows .mixedOrders = true := by kernel_rfl
def okN (f : Nat) : Bool := Nat.ble 2 f && Nat.ble f 157
theorem allOk : ((List.range 158).all fun f => !(okN f) || match Try.prog.funcs[f]? with
    | some fn => match fn.body with
      | some c => funcOk fn c
      | none => true
    | none => true) = true := by kernel_rfl
theorem hF (f : Nat) (fn : Func) (c : Code) (h : okN f = true) (h1 : Try.prog.funcs[f]? = some fn) (h2 : fn.body = some c) : funcOk fn c = true := by
  have h3 : f < 157 + 1 := by
    unfold okN at h
    simp only [Bool.and_eq_true] at h
    have := Nat.le_of_ble_eq_true h.2
    omega
  have := List.all_eq_true.1 allOk f (List.mem_range.2 h3)
  simp only [h, h1, h2, Bool.not_true, Bool.false_or] at this
  exact this
end Go.Proofs.Ytmmgdgmjkhcfaaa
namespace Go.Proofs.Ytmmgdgmjkhcfaaa
open Go Go.Abs
theorem uL : Try.prog.underlying 22 = some (.slice 3) := by kernel_rfl
theorem eL : sliceElem Try.prog 22 = some (3, 1) := by kernel_rfl
theorem aI : isAggT Try.prog 3 = some false := by kernel_rfl
theorem zI : sizeT Try.prog 3 = some 1 := by kernel_rfl
theorem pI : ((bytesT Try.prog 3).isSome && decide ((bytesT Try.prog 3).getD 0 ≤ maxA) && (zeros Try.prog 3 1 1).isSome) = true := by kernel_rfl
theorem yI : bytesT Try.prog 3 = some 8 := by kernel_rfl
theorem oI : zeros Try.prog 3 1 1 = some [vi 0] := by kernel_rfl
theorem nI : zeros Try.prog 3 1 0 = some [] := by kernel_rfl
theorem ok_fn {f : Nat} {fn : Func} {c : Code} (ho : okN f = true) (hf : Try.prog.funcs[f]? = some fn) (hb : fn.body = some c) : funcOk fn c = true := hF f fn c ho hf hb
theorem aL : isAggT Try.prog 22 = some false := by kernel_rfl
theorem aB : isAggT Try.prog 4 = some false := by kernel_rfl
theorem zL : sizeT Try.prog 22 = some 1 := by kernel_rfl
theorem zB : sizeT Try.prog 4 = some 1 := by kernel_rfl
theorem qB (x y : Operand) (p q : Bool) : pureVal Try.prog (do eqGuard .eql 4 x y (.bool p) (.bool q); binOp .eql 4 (.bool p) (.bool q)) = some (.bool (p == q)) := by kernel_rfl
theorem nB (x y : Operand) (p q : Bool) : pureVal Try.prog (do eqGuard .neq 4 x y (.bool p) (.bool q); binOp .neq 4 (.bool p) (.bool q)) = some (.bool (!(p == q))) := by kernel_rfl
theorem aW : isAggT Try.prog 85 = some true := by kernel_rfl
theorem zW : sizeT Try.prog 85 = some 2 := by kernel_rfl
theorem fW0 : fieldOff Try.prog 85 0 = some 0 := by kernel_rfl
theorem fW1 : fieldOff Try.prog 85 1 = some 1 := by kernel_rfl
theorem iW : zeroT Try.prog 85 = some (.agg #[.bool false, .slice none 0 0]) := by kernel_rfl
noncomputable def sfs (t : TypeId) : Array Field := match Try.prog.underlying t with
  | some (.struct fs) => fs
  | _ => #[]
theorem uW : Try.prog.underlying 85 = some (.struct (sfs 85)) := by kernel_rfl
theorem oW : sizesOf Try.prog (sfs 85).toList = some [(0, 1), (1, 1)] := by kernel_rfl
theorem bW2 (p : Bool) (v : Value) (h : scal v = some [v]) : buildA Try.prog 85 [(0, .bool p), (1, v)] = some (.agg #[.bool p, v]) := by
  have hb : ∀ q : Bool, scal (.bool q) = some [.bool q] := fun _ => rfl
  simp only [buildA, iW, uW, oW, fillL, hb, h]
  rfl
theorem bW1 (v : Value) (h : scal v = some [v]) : buildA Try.prog 85 [(1, v)] = some (.agg #[.bool false, v]) := by
  have hb : ∀ q : Bool, scal (.bool q) = some [.bool q] := fun _ => rfl
  simp only [buildA, iW, uW, oW, fillL, hb, h]
  rfl
theorem bW0 : buildA Try.prog 85 [] = some (.agg #[.bool false, .slice none 0 0]) := by kernel_rfl
end Go.Proofs.Ytmmgdgmjkhcfaaa
namespace Go.Proofs.Ytmmgdgmjkhcfaaa
open Go Go.Abs Go.Num
set_option maxRecDepth 10000
attribute [local congr] bindO_congr bindF_congr bindX_congr condX_congr iteB_congr binS_congr pickS_congr
theorem tdiv_pos {z : Int} (h : 0 ≤ z) (b : Int) : z.tdiv b = z / b := Int.tdiv_eq_ediv_of_nonneg h
theorem tmod_pos {z : Int} (h : 0 ≤ z) (b : Int) : z.tmod b = z % b := Int.tmod_eq_emod_of_nonneg h
theorem tdiv_neg' {z : Int} (b : Int) : z.tdiv b = -((-z).tdiv b) := by rw [Int.neg_tdiv]; omega
theorem tmod_neg' {z : Int} (b : Int) : z.tmod b = -((-z).tmod b) := by rw [Int.neg_tmod]; omega
theorem take_snoc' {l : List Int} {c : Nat} (h : c < l.length) : l.take (c + 1) = l.take c ++ [l.getD c 0] := by
  rw [List.take_succ_eq_append_getElem h]
  simp [List.getD_eq_getElem?_getD, List.getElem?_eq_getElem h]
def OneL (H : Heap) (r : Option (Value × Heap)) (l : List Int) : Prop := ∃ v' H', r = some (v', H') ∧ O H.length H' v' (ints l) ∧ Old H.length H H' ∧ WF H'
theorem getD_mem {l : List Int} {i : Nat} (h : i < l.length) : l.getD i 0 ∈ l := by
  rw [List.getD_eq_getElem?_getD, List.getElem?_eq_getElem h]; exact List.getElem_mem h
def negI (l : List Int) (i : Nat) : List Int := (l.take i).map (- ·) ++ l.drop i
theorem negI_len (l : List Int) (i : Nat) : (negI l i).length = l.length := by unfold negI; simp; omega
theorem negI_get {l : List Int} {i : Nat} (h : i < l.length) : (negI l i).getD i 0 = l.getD i 0 := by
  unfold negI
  have e : ((l.take i).map (- ·)).length = i := by simp; omega
  rw [List.getD_eq_getElem?_getD, List.getD_eq_getElem?_getD, List.getElem?_append_right (by omega), e, Nat.sub_self, List.getElem?_drop, Nat.add_zero]
theorem negI_set {l : List Int} {i : Nat} (h : i < l.length) : (negI l i).set i (- l.getD i 0) = negI l (i + 1) := by
  unfold negI
  have e : ((l.take i).map (- ·)).length = i := by simp; omega
  rw [List.set_append_right _ _ (by omega), e, Nat.sub_self, take_snoc' h, List.map_append, List.drop_eq_getElem_cons h, List.set_cons_zero]
  simp
theorem negI_all (l : List Int) : negI l l.length = l.map (- ·) := by unfold negI; simp
theorem negI_0 (l : List Int) : negI l 0 = l := by unfold negI; simp
end Go.Proofs.Ytmmgdgmjkhcfaaa
namespace Go.Proofs.Ytmmgdgmjkhcfaaa
open Go Go.Abs Go.Num
set_option maxRecDepth 10000
attribute [local congr] bindO_congr bindF_congr bindX_congr condX_congr iteB_congr binS_congr pickS_congr eqB_congr nilS_congr clsW_congr maxS_congr minS_congr
def OneT (H : Heap) (r : Option (Value × Heap)) (f : Value → Value) (l : List Int) : Prop := ∃ v H', r = some (f v, H') ∧ O H.length H' v (ints l) ∧ Old H.length H H' ∧ WF H'
theorem within_runS (x lo hi : Int) (H : Heap) (n : Nat) (hn : 1 ≤ n) : evB Try.prog noC n (.func (.func 36) #[] #[]) [vi x, vi lo, vi hi] H = some (.bool (decide (lo ≤ x) && decide (x ≤ hi)), H) := by
  refine run_of (F := 0) (Q := fun r => r = some (.bool (decide (lo ≤ x) && decide (x ≤ hi)), H)) (fun n hn => ?_) n hn
  rw [body_runS Try.func36 rfl (ok_fn (by rfl) Try.func36 rfl) (Nat.le_of_ble_eq_true rfl) (D := D0) (by kernel_rfl)]
  by_cases h1 : lo ≤ x
  all_goals by_cases h2 : x ≤ hi
  all_goals simp (disch := omega) only [Try.f36, es_seq, es_region, es_ret, ops_nil, ops_cons, ops_consG, st_move, st_assign, sy_pick, pickS_true, pickS_false, sy_bin, binS_leq, binS_geq, bindO_some, bindF_some, bindX_normal, iteB_true, iteB_false, ev_tmp, ev_const, putA, upd_at, Option.map_some, ↓reduceIte, Nat.reduceEqDiff, frOf_0, frOf_1, frOf_2, decide_true, decide_false, yieldO_eq, yO, yV_bool, some_true, List.getElem?_cons_zero, List.getElem?_cons_succ, beq_self_eq_true, ↓bindO_some, ↓bindF_some, ↓bindX_normal, ↓iteB_true, ↓iteB_false, fin_r, res_nil, res_tmp, pack_1, scal_bool, h1, h2, Bool.and_self, Bool.and_false, Bool.and_true]
noncomputable def intA : Code := atC [1, 1, 0, 1, 0, 0] ((Try.f19.body).getD .skip)
theorem take_eq_succ {l m : List Int} {i : Nat} (h1 : i < l.length) (h2 : i < m.length) : l.take (i + 1) = m.take (i + 1) ↔ l.take i = m.take i ∧ l.getD i 0 = m.getD i 0 := by
  rw [take_snoc' h1, take_snoc' h2]
  constructor
  · intro h
    have := List.append_inj h (by rw [List.length_take, List.length_take]; omega)
    exact ⟨this.1, by simpa using this.2⟩
  · intro ⟨h3, h4⟩; rw [h3, h4]
theorem ints_run {H : Heap} {va vb : Value} {l m : List Int} (ha : R H va (ints l)) (hb : R H vb (ints m)) (ll : l.length ≤ 10000) (lm : m.length ≤ 10000) (n : Nat) (hn : 10002 ≤ n) :
    evB Try.prog noC n (.func (.func 19) #[] #[]) [va, vb] H = some (.bool (decide (l = m)), H) := by
  refine run_of (F := 10001) (Q := fun r => r = some (.bool (decide (l = m)), H)) (fun n hn => ?_) n hn
  rw [body_runS Try.func19 rfl (ok_fn (by rfl) Try.func19 rfl) (Nat.le_of_ble_eq_true rfl) (D := D0) (by kernel_rfl)]
  by_cases hl : l.length = m.length
  · have c1 : (l.length : Int) = (m.length : Int) := by omega
    have key : ∀ A : Fr, A 0 = va → A 1 = vb → A 5 = vi (0 : Nat) → ∃ r a' H', loopN (evS Try.prog (evB Try.prog noC n) n Try.f19.ntmps none intA) n A H = some (r, a', H') ∧ H' = H ∧ ((r = .exit 0 ∧ l = m) ∨ (r = .ret ∧ a' 4 = .bool false ∧ l ≠ m)) := by
      intro A h0 h1 h5
      refine loop_up l.length (fun i a H' => H' = H ∧ a 0 = va ∧ a 1 = vb ∧ a 5 = vi i ∧ l.take i = m.take i) _ ?_ ?_ (by omega) ⟨rfl, h0, h1, h5, rfl⟩
      · intro i a H' hi ⟨hH, h0, h1, h5, ht⟩
        subst hH
        rw [show intA = atC [1, 1, 0, 1, 0, 0] ((Try.f19.body).getD .skip) from rfl]
        have hlt : (i : Int) < l.length := by omega
        have e1 : IntKind.i64.wrap ((i : Int) + 1) = ((i + 1 : Nat) : Int) := by rw [wr64 (by omega) (by omega)]; omega
        by_cases he : l.getD i 0 = m.getD i 0
        · left
          simp (disch := omega) only [Try.f19, Option.getD_some, atC, es_seq, es_region, es_draw, d0, es_cond, es_block, es_skip, ops_nil, ops_cons, opsV_nil, opsV_cons, st_move, st_assign, sy_len uL, sy_addr eL, sy_load aI, sy_bin, binS_lss, binS_neq, binS_add, bindO_some, bindF_some, bindX_normal, blkX_normal, condX_true, condX_false, iteB_true, iteB_false, ev_tmp, ev_const, putA, upd_at, Option.map_some, ↓reduceIte, Nat.reduceEqDiff, Int.toNat_natCast, decide_true, Bool.not_true, ↓bindO_some, ↓bindF_some, ↓bindX_normal, ↓condX_true, ↓condX_false, ↓iteB_true, ↓iteB_false, reflV_load, reflV_move, reflV_bin, reflV_addr, vEq_vi, h0, h1, h5, ha.lenI, hlt, ha.addrI, ha.loadI, hb.addrI, hb.loadI, he, e1]
          exact ⟨_, _, rfl, rfl, h0, h1, rfl, (take_eq_succ hi (by omega)).2 ⟨ht, he⟩⟩
        · right
          simp (disch := omega) only [Try.f19, Option.getD_some, atC, es_seq, es_region, es_draw, d0, es_cond, es_block, es_skip, es_ret, ops_nil, ops_cons, opsV_nil, opsV_cons, st_move, st_assign, sy_len uL, sy_addr eL, sy_load aI, sy_bin, binS_lss, binS_neq, bindO_some, bindF_some, bindX_normal, bindX_ret, blkX_ret, condX_true, iteB_true, iteB_false, ev_tmp, ev_const, putA, upd_at, Option.map_some, ↓reduceIte, Nat.reduceEqDiff, Int.toNat_natCast, decide_true, decide_false, Bool.not_false, ↓bindO_some, ↓bindF_some, ↓bindX_normal, ↓bindX_ret, ↓condX_true, ↓iteB_true, ↓iteB_false, reflV_load, reflV_move, reflV_bin, reflV_addr, vEq_vi, h0, h1, h5, ha.lenI, hlt, ha.addrI, ha.loadI, hb.addrI, hb.loadI, he]
          refine ⟨_, _, _, rfl, by simp, rfl, .inr ⟨rfl, rfl, fun h => he (by rw [h])⟩⟩
      · intro a H' ⟨hH, h0, h1, h5, ht⟩
        subst hH
        rw [show intA = atC [1, 1, 0, 1, 0, 0] ((Try.f19.body).getD .skip) from rfl]
        simp (disch := omega) only [Try.f19, Option.getD_some, atC, es_seq, es_region, es_cond, es_exit, ops_nil, ops_cons, st_move, sy_len uL, sy_bin, binS_lss, bindO_some, bindF_some, bindX_normal, bindX_exit, condX_false, ev_tmp, putA, upd_at, Option.map_some, ↓reduceIte, Nat.reduceEqDiff, decide_false, ↓bindO_some, ↓bindF_some, ↓bindX_normal, ↓bindX_exit, ↓condX_false, h0, h5, ha.lenI, Int.lt_irrefl]
        rw [List.take_length, hl, List.take_length] at ht
        exact ⟨_, _, _, rfl, by simp, rfl, .inl ⟨rfl, ht⟩⟩
    rw [show intA = atC [1, 1, 0, 1, 0, 0] ((Try.f19.body).getD .skip) from rfl] at key
    simp only [Try.f19, Option.getD_some, atC] at key
    simp (disch := omega) only [Try.f19, es_seq, es_region, es_cond, es_block, es_loop, es_skip, es_ret, ops_nil, ops_cons, st_move, st_assign, sy_len uL, sy_bin, binS_neq, bindO_some, bindF_some, bindX_normal, condX_false, ev_tmp, ev_const, putA, upd_at, Option.map_some, ↓reduceIte, Nat.reduceEqDiff, frOf_0, frOf_1, decide_true, Bool.not_true, ↓bindO_some, ↓bindF_some, ↓bindX_normal, ↓condX_false, ha.lenI, hb.lenI, c1]
    generalize hA : upd _ 5 _ = A
    obtain ⟨r, a', H', e, hH, h⟩ := key A (by subst hA; rfl) (by subst hA; rfl) (by subst hA; rfl)
    subst hH
    rw [e]
    rcases h with ⟨rfl, rfl⟩ | ⟨rfl, h4, hne⟩
    · simp (disch := omega) only [bindX_normal, blkX_exit, upd_at, Option.map_some, ↓reduceIte, decide_true, ↓bindX_normal, fin_r, res_nil, res_tmp, pack_1, scal_bool]
    · rw [decide_eq_false hne]
      simp (disch := omega) only [bindX_ret, blkX_ret, Option.map_some, ↓bindX_ret, fin_r, res_nil, res_tmp, pack_1, scal_bool, h4]
  · have c1 : ¬ (l.length : Int) = (m.length : Int) := by omega
    rw [decide_eq_false (fun h => hl (by rw [h]))]
    simp (disch := omega) only [Try.f19, es_seq, es_region, es_cond, es_ret, ops_nil, ops_cons, st_move, st_assign, sy_len uL, sy_bin, binS_neq, bindO_some, bindF_some, bindX_normal, bindX_ret, condX_true, ev_tmp, ev_const, putA, upd_at, Option.map_some, ↓reduceIte, Nat.reduceEqDiff, frOf_0, frOf_1, decide_false, Bool.not_false, ↓bindO_some, ↓bindF_some, ↓bindX_normal, ↓bindX_ret, ↓condX_true, fin_r, res_nil, res_tmp, pack_1, scal_bool, ha.lenI, hb.lenI, c1]
theorem uLL : Try.prog.underlying 53 = some (.slice 22) := by kernel_rfl
theorem eLL : sliceElem Try.prog 53 = some (22, 1) := by kernel_rfl
theorem oLL : zeros Try.prog 22 1 1 = some [.slice none 0 0] := by kernel_rfl
theorem pLL : ((bytesT Try.prog 22).isSome && decide ((bytesT Try.prog 22).getD 0 ≤ maxA) && (zeros Try.prog 22 1 1).isSome) = true := by kernel_rfl
end Go.Proofs.Ytmmgdgmjkhcfaaa
namespace Go.Proofs.Ytmmgdgmjkhcfaaa
open Go Go.Abs Go.Num
set_option maxRecDepth 10000
attribute [local congr] bindO_congr bindF_congr bindX_congr condX_congr iteB_congr binS_congr pickS_congr eqB_congr nilS_congr clsW_congr maxS_congr minS_congr
def Sm (l : List Int) : Prop := l.length ≤ 1000 ∧ ∀ x ∈ l, -1000000 ≤ x ∧ x ≤ 1000000
theorem Sm.getD {l : List Int} (h : Sm l) (i : Nat) : -1000000 ≤ l.getD i 0 ∧ l.getD i 0 ≤ 1000000 := by
  by_cases hi : i < l.length
  · exact h.2 _ (getD_mem hi)
  · rw [List.getD_eq_getElem?_getD, List.getElem?_eq_none (by omega)]; simp
theorem Sm.sum {l : List Int} (h : Sm l) (i : Nat) : -1000000000 ≤ (l.take i).sum ∧ (l.take i).sum ≤ 1000000000 := by
  have := sum_bd (b := 1000000) (by omega) fun x (hx : x ∈ l.take i) => h.2 x (List.mem_of_mem_take hx)
  have h2 : (l.take i).length ≤ 1000 := Nat.le_trans (List.length_take_le' ..) h.1
  omega
noncomputable def cszA : Code := atC [1, 1, 0, 1, 0, 0] ((Try.f60.body).getD .skip)
theorem csize_run {H : Heap} {v : Value} {l : List Int} (hv : R H v (ints l)) (hs : Sm l) (n : Nat) (hn : 1010 ≤ n) : evB Try.prog noC n (.func (.func 60) #[] #[]) [v] H = some (vi l.sum, H) := by
  refine run_of (F := 1009) (Q := fun r => r = some (vi l.sum, H)) (fun n hn => ?_) n hn
  rw [body_runS Try.func60 rfl (ok_fn (by rfl) Try.func60 rfl) (Nat.le_of_ble_eq_true rfl) (D := D0) (by kernel_rfl)]
  have hl := hs.1
  have key : ∀ A : Fr, A 3 = vi 0 → A 6 = v → A 7 = vi l.length → A 8 = vi (0 : Nat) → ∃ r a' H', loopN (evS Try.prog (evB Try.prog noC n) n Try.f60.ntmps none cszA) n A H = some (r, a', H') ∧ H' = H ∧ r = .exit 0 ∧ a' 3 = vi l.sum := by
    intro A h3 h6 h7 h8
    refine loop_up l.length (fun i a H' => H' = H ∧ a 3 = vi (l.take i).sum ∧ a 6 = v ∧ a 7 = vi l.length ∧ a 8 = vi i) _ ?_ ?_ (by omega) ⟨rfl, by rw [h3]; rfl, h6, h7, h8⟩
    · intro i a H' hi ⟨hH, h3, h6, h7, h8⟩
      subst hH
      left
      rw [show cszA = atC [1, 1, 0, 1, 0, 0] ((Try.f60.body).getD .skip) from rfl]
      have hlt : (i : Int) < l.length := by omega
      have e1 : IntKind.i64.wrap ((i : Int) + 1) = ((i + 1 : Nat) : Int) := by rw [wr64 (by omega) (by omega)]; omega
      have b1 := hs.sum i
      have b2 := hs.getD i
      have e2 : IntKind.i64.wrap ((l.take i).sum + l.getD i 0) = (l.take (i + 1)).sum := by rw [sum_take_succ hi]; exact wr64 (by omega) (by omega)
      simp (disch := omega) only [Try.f60, Option.getD_some, atC, es_seq, es_region, es_cond, es_block, es_skip, ops_nil, ops_cons, st_move, st_assign, sy_addr eL, sy_load aI, sy_bin, binS_lss, binS_add, bindO_some, bindF_some, bindX_normal, blkX_normal, condX_true, ev_tmp, ev_const, putA, upd_at, Option.map_some, ↓reduceIte, Nat.reduceEqDiff, Int.toNat_natCast, decide_true, ↓bindO_some, ↓bindF_some, ↓bindX_normal, ↓condX_true, h3, h6, h7, h8, hlt, hv.addrI, hv.loadI, e1, e2]
      exact ⟨_, _, rfl, rfl, rfl, h6, h7, rfl⟩
    · intro a H' ⟨hH, h3, h6, h7, h8⟩
      subst hH
      rw [show cszA = atC [1, 1, 0, 1, 0, 0] ((Try.f60.body).getD .skip) from rfl]
      simp (disch := omega) only [Try.f60, Option.getD_some, atC, es_seq, es_region, es_cond, es_exit, ops_nil, ops_cons, sy_bin, binS_lss, bindO_some, bindF_some, bindX_normal, bindX_exit, condX_false, ev_tmp, putA, upd_at, ↓reduceIte, decide_false, ↓bindO_some, ↓bindF_some, ↓bindX_normal, ↓bindX_exit, ↓condX_false, h7, h8, Int.lt_irrefl]
      rw [List.take_length] at h3
      exact ⟨_, _, _, rfl, by simp, rfl, rfl, h3⟩
  rw [show cszA = atC [1, 1, 0, 1, 0, 0] ((Try.f60.body).getD .skip) from rfl] at key
  simp only [Try.f60, Option.getD_some, atC] at key
  simp (disch := omega) only [Try.f60, es_seq, es_region, es_block, es_loop, es_ret, ops_nil, ops_cons, st_move, st_assign, sy_len uL, bindO_some, bindF_some, bindX_normal, ev_tmp, ev_const, putA, upd_at, Option.map_some, ↓reduceIte, Nat.reduceEqDiff, frOf_0, ↓bindO_some, ↓bindF_some, ↓bindX_normal, hv.lenI]
  generalize hA : upd _ 8 _ = A
  obtain ⟨r, a', H', e, hH, hr, h3⟩ := key A (by subst hA; rfl) (by subst hA; rfl) (by subst hA; rfl) (by subst hA; rfl)
  subst hr
  rw [e]
  subst hH
  simp (disch := omega) only [bindX_normal, blkX_exit, upd_at, Option.map_some, ↓reduceIte, ↓bindX_normal, fin_r, res_nil, res_tmp, pack_1, scal_vi, h3]
noncomputable def rszA : Code := atC [1, 1, 0, 1, 0, 0] ((Try.f17.body).getD .skip)
theorem rsize_run {H : Heap} {v : Value} {l : List Int} (hv : R H v (ints l)) (hs : Sm l) (n : Nat) (hn : 1010 ≤ n) : evB Try.prog noC n (.func (.func 17) #[] #[]) [v] H = some (vi l.sum, H) := by
  refine run_of (F := 1009) (Q := fun r => r = some (vi l.sum, H)) (fun n hn => ?_) n hn
  rw [body_runS Try.func17 rfl (ok_fn (by rfl) Try.func17 rfl) (Nat.le_of_ble_eq_true rfl) (D := D0) (by kernel_rfl)]
  have hl := hs.1
  have key : ∀ A : Fr, A 0 = v → A 3 = vi 0 → A 4 = vi (0 : Nat) → ∃ r a' H', loopN (evS Try.prog (evB Try.prog noC n) n Try.f17.ntmps none rszA) n A H = some (r, a', H') ∧ H' = H ∧ r = .exit 0 ∧ a' 3 = vi l.sum := by
    intro A h0 h3 h4
    refine loop_up l.length (fun i a H' => H' = H ∧ a 0 = v ∧ a 3 = vi (l.take i).sum ∧ a 4 = vi i) _ ?_ ?_ (by omega) ⟨rfl, h0, by rw [h3]; rfl, h4⟩
    · intro i a H' hi ⟨hH, h0, h3, h4⟩
      subst hH
      left
      rw [show rszA = atC [1, 1, 0, 1, 0, 0] ((Try.f17.body).getD .skip) from rfl]
      have hlt : (i : Int) < l.length := by omega
      have e1 : IntKind.i64.wrap ((i : Int) + 1) = ((i + 1 : Nat) : Int) := by rw [wr64 (by omega) (by omega)]; omega
      have b1 := hs.sum i
      have b2 := hs.getD i
      have e2 : IntKind.i64.wrap ((l.take i).sum + l.getD i 0) = (l.take (i + 1)).sum := by rw [sum_take_succ hi]; exact wr64 (by omega) (by omega)
      simp (disch := omega) only [Try.f17, Option.getD_some, atC, es_seq, es_region, es_cond, es_block, es_skip, ops_nil, ops_cons, st_move, st_assign, sy_len uL, sy_addr eL, sy_load aI, sy_bin, binS_lss, binS_add, bindO_some, bindF_some, bindX_normal, blkX_normal, condX_true, ev_tmp, ev_const, putA, upd_at, Option.map_some, ↓reduceIte, Nat.reduceEqDiff, Int.toNat_natCast, decide_true, ↓bindO_some, ↓bindF_some, ↓bindX_normal, ↓condX_true, h0, h3, h4, hlt, hv.lenI, hv.addrI, hv.loadI, e1, e2]
      exact ⟨_, _, rfl, rfl, h0, rfl, rfl⟩
    · intro a H' ⟨hH, h0, h3, h4⟩
      subst hH
      rw [show rszA = atC [1, 1, 0, 1, 0, 0] ((Try.f17.body).getD .skip) from rfl]
      simp (disch := omega) only [Try.f17, Option.getD_some, atC, es_seq, es_region, es_cond, es_exit, ops_nil, ops_cons, st_move, sy_len uL, sy_bin, binS_lss, bindO_some, bindF_some, bindX_normal, bindX_exit, condX_false, ev_tmp, putA, upd_at, Option.map_some, ↓reduceIte, Nat.reduceEqDiff, decide_false, ↓bindO_some, ↓bindF_some, ↓bindX_normal, ↓bindX_exit, ↓condX_false, h0, h4, hv.lenI, Int.lt_irrefl]
      rw [List.take_length] at h3
      exact ⟨_, _, _, rfl, by simp, rfl, rfl, h3⟩
  rw [show rszA = atC [1, 1, 0, 1, 0, 0] ((Try.f17.body).getD .skip) from rfl] at key
  simp only [Try.f17, Option.getD_some, atC] at key
  simp (disch := omega) only [Try.f17, es_seq, es_region, es_block, es_loop, es_ret, ops_nil, ops_cons, st_move, st_assign, bindO_some, bindF_some, bindX_normal, ev_tmp, ev_const, putA, upd_at, ↓reduceIte, ↓bindO_some, ↓bindF_some, ↓bindX_normal]
  generalize hA : upd _ 4 _ = A
  obtain ⟨r, a', H', e, hH, hr, h3⟩ := key A (by subst hA; rfl) (by subst hA; rfl) (by subst hA; rfl)
  subst hr
  rw [e]
  subst hH
  simp (disch := omega) only [bindX_normal, blkX_exit, upd_at, Option.map_some, ↓reduceIte, ↓bindX_normal, fin_r, res_nil, res_tmp, pack_1, scal_vi, h3]
theorem part_sm {l : List Int} (h1 : l.length ≤ 1000) (h : chkGo none l = none) : Sm l := ⟨h1, fun x hx => by have := chkGo_none h x hx; omega⟩
noncomputable def cckA : Code := atC [1, 1, 0, 1, 0, 0] ((Try.f44.body).getD .skip)
theorem ccheck_run {H : Heap} {v : Value} {l : List Int} (hv : R H v (ints l)) (hl : l.length ≤ 1000) (n : Nat) (hn : 1011 ≤ n) : evB Try.prog noC n (.func (.func 44) #[] #[]) [v] H = some (vi (chk l), H) := by
  refine run_of (F := 1010) (Q := fun r => r = some (vi (chk l), H)) (fun n hn => ?_) n hn
  rw [body_runS Try.func44 rfl (ok_fn (by rfl) Try.func44 rfl) (Nat.le_of_ble_eq_true rfl) (D := D0) (by kernel_rfl)]
  by_cases hbig : 20 < l.length
  · have c1 : (20 : Int) < (l.length : Int) := by omega
    rw [show chk l = 8 from if_pos hbig]
    simp (disch := omega) only [Try.f44, es_seq, es_region, es_cond, es_ret, ops_nil, ops_cons, st_move, st_assign, sy_len uL, sy_bin, binS_gtr, bindO_some, bindF_some, bindX_normal, bindX_ret, condX_true, ev_tmp, ev_const, putA, upd_at, Option.map_some, ↓reduceIte, Nat.reduceEqDiff, frOf_0, decide_true, ↓bindO_some, ↓bindF_some, ↓bindX_normal, ↓bindX_ret, ↓condX_true, fin_r, res_nil, res_tmp, pack_1, scal_vi, hv.lenI, c1]
  · have c1 : ¬ (20 : Int) < (l.length : Int) := by omega
    rw [show chk l = _ from if_neg hbig]
    have key : ∀ A : Fr, A 0 = v → A 8 = v → A 9 = vi l.length → A 10 = vi (0 : Nat) → ∃ r a' H', loopN (evS Try.prog (evB Try.prog noC n) n Try.f44.ntmps none cckA) n A H = some (r, a', H') ∧ H' = H ∧ ((r = .exit 0 ∧ a' 0 = v ∧ chkGo none l = none) ∨ ∃ e, r = .ret ∧ a' 2 = vi e ∧ chkGo none l = some e) := by
      intro A h0 h8 h9 h10
      refine loop_up l.length (fun i a H' => H' = H ∧ a 0 = v ∧ a 8 = v ∧ a 9 = vi l.length ∧ a 10 = vi i ∧ chkGo none l = chkGo (prv l i) (l.drop i)) _ ?_ ?_ (by omega) ⟨rfl, h0, h8, h9, h10, rfl⟩
      · intro i a H' hi ⟨hH, h0, h8, h9, h10, hg⟩
        subst hH
        rw [show cckA = atC [1, 1, 0, 1, 0, 0] ((Try.f44.body).getD .skip) from rfl]
        have hlt : (i : Int) < l.length := by omega
        have e1 : IntKind.i64.wrap ((i : Int) + 1) = ((i + 1 : Nat) : Int) := by rw [wr64 (by omega) (by omega)]; omega
        rw [chkGo_at hi] at hg
        by_cases hx1 : l.getD i 0 < 1
        · right
          rw [show bad (prv l i) (l.getD i 0) = some 2 from if_pos hx1] at hg
          simp (disch := omega) only [Try.f44, Option.getD_some, atC, es_seq, es_region, es_cond, es_block, es_skip, es_ret, ops_nil, ops_cons, ops_consG, st_move, st_assign, sy_pick, pickS_true, sy_addr eL, sy_load aI, sy_bin, binS_lss, bindO_some, bindF_some, bindX_normal, bindX_ret, blkX_ret, condX_true, iteB_false, ev_tmp, ev_const, putA, upd_at, Option.map_some, ↓reduceIte, Nat.reduceEqDiff, Int.toNat_natCast, decide_true, Bool.not_true, yieldO_eq, yO, yV_bool, some_false, List.getElem?_cons_zero, List.getElem?_cons_succ, ↓bindO_some, ↓bindF_some, ↓bindX_normal, ↓bindX_ret, ↓condX_true, ↓iteB_false, h8, h9, h10, hlt, hv.addrI, hv.loadI, hx1]
          exact ⟨_, _, _, rfl, by simp, rfl, .inr ⟨2, rfl, rfl, hg⟩⟩
        · by_cases hx2 : 20 < l.getD i 0
          · right
            rw [show bad (prv l i) (l.getD i 0) = some 2 from by unfold bad; rw [if_neg hx1, if_pos hx2]] at hg
            simp (disch := omega) only [Try.f44, Option.getD_some, atC, es_seq, es_region, es_cond, es_block, es_skip, es_ret, ops_nil, ops_cons, ops_consG, st_move, st_assign, sy_pick, pickS_false, sy_addr eL, sy_load aI, sy_bin, binS_lss, binS_gtr, bindO_some, bindF_some, bindX_normal, bindX_ret, blkX_ret, condX_true, iteB_true, ev_tmp, ev_const, putA, upd_at, Option.map_some, ↓reduceIte, Nat.reduceEqDiff, Int.toNat_natCast, decide_true, decide_false, yieldO_eq, yO, yV_bool, List.getElem?_cons_zero, List.getElem?_cons_succ, beq_self_eq_true, ↓bindO_some, ↓bindF_some, ↓bindX_normal, ↓bindX_ret, ↓condX_true, ↓iteB_true, h8, h9, h10, hlt, hv.addrI, hv.loadI, hx1, hx2]
            exact ⟨_, _, _, rfl, by simp, rfl, .inr ⟨2, rfl, rfl, hg⟩⟩
          · cases i with
            | zero =>
              left
              rw [show bad (prv l 0) (l.getD 0 0) = none from by unfold bad; rw [if_neg hx1, if_neg hx2]; rfl] at hg
              have c0 : decide ((0 : Int) < ((0 : Nat) : Int)) = false := rfl
              simp (disch := omega) only [Try.f44, Option.getD_some, atC, es_seq, es_region, es_cond, es_block, es_skip, ops_nil, ops_cons, ops_consG, st_move, st_assign, sy_pick, pickS_false, sy_addr eL, sy_load aI, sy_bin, binS_lss, binS_gtr, binS_add, bindO_some, bindF_some, bindX_normal, blkX_normal, condX_true, condX_false, iteB_true, iteB_false, ev_tmp, ev_const, putA, upd_at, Option.map_some, ↓reduceIte, Nat.reduceEqDiff, Nat.zero_add, Int.toNat_natCast, decide_true, decide_false, yieldO_eq, yO, yV_bool, some_true, List.getElem?_cons_zero, List.getElem?_cons_succ, beq_self_eq_true, ↓bindO_some, ↓bindF_some, ↓bindX_normal, ↓condX_true, ↓condX_false, ↓iteB_true, ↓iteB_false, h8, h9, h10, hlt, hv.addrI, hv.loadI, hx1, hx2, c0, e1]
              exact ⟨_, _, rfl, rfl, h0, h8, h9, rfl, hg⟩
            | succ j =>
              have c0 : (0 : Int) < ((j + 1 : Nat) : Int) := by omega
              have e2 : IntKind.i64.wrap (((j + 1 : Nat) : Int) - 1) = (j : Int) := by rw [wr64 (by omega) (by omega)]; omega
              by_cases hq : l.getD j 0 < l.getD (j + 1) 0
              · right
                rw [show bad (prv l (j + 1)) (l.getD (j + 1) 0) = some 9 from by unfold bad; rw [if_neg hx1, if_neg hx2]; exact if_pos hq] at hg
                simp (disch := omega) only [Try.f44, Option.getD_some, atC, es_seq, es_region, es_cond, es_block, es_skip, es_ret, ops_nil, ops_cons, ops_consG, st_move, st_assign, sy_pick, pickS_true, pickS_false, sy_addr eL, sy_load aI, sy_bin, binS_lss, binS_gtr, binS_sub, bindO_some, bindF_some, bindX_normal, bindX_ret, blkX_ret, condX_true, condX_false, iteB_true, ev_tmp, ev_const, putA, upd_at, Option.map_some, ↓reduceIte, Nat.reduceEqDiff, Int.toNat_natCast, decide_true, decide_false, yieldO_eq, yO, yV_bool, List.getElem?_cons_zero, List.getElem?_cons_succ, beq_self_eq_true, ↓bindO_some, ↓bindF_some, ↓bindX_normal, ↓bindX_ret, ↓condX_true, ↓condX_false, ↓iteB_true, h0, h8, h9, h10, hlt, hv.addrI, hv.loadI, hx1, hx2, c0, e2, hq]
                exact ⟨_, _, _, rfl, by simp, rfl, .inr ⟨9, rfl, rfl, hg⟩⟩
              · left
                rw [show bad (prv l (j + 1)) (l.getD (j + 1) 0) = none from by unfold bad; rw [if_neg hx1, if_neg hx2]; exact if_neg hq] at hg
                simp (disch := omega) only [Try.f44, Option.getD_some, atC, es_seq, es_region, es_cond, es_block, es_skip, ops_nil, ops_cons, ops_consG, st_move, st_assign, sy_pick, pickS_true, pickS_false, sy_addr eL, sy_load aI, sy_bin, binS_lss, binS_gtr, binS_add, binS_sub, bindO_some, bindF_some, bindX_normal, blkX_normal, condX_true, condX_false, iteB_true, ev_tmp, ev_const, putA, upd_at, Option.map_some, ↓reduceIte, Nat.reduceEqDiff, Int.toNat_natCast, decide_true, decide_false, yieldO_eq, yO, yV_bool, List.getElem?_cons_zero, List.getElem?_cons_succ, beq_self_eq_true, ↓bindO_some, ↓bindF_some, ↓bindX_normal, ↓condX_true, ↓condX_false, ↓iteB_true, h0, h8, h9, h10, hlt, hv.addrI, hv.loadI, hx1, hx2, c0, e2, hq, e1]
                exact ⟨_, _, rfl, rfl, h0, h8, h9, rfl, hg⟩
      · intro a H' ⟨hH, h0, h8, h9, h10, hg⟩
        subst hH
        rw [show cckA = atC [1, 1, 0, 1, 0, 0] ((Try.f44.body).getD .skip) from rfl]
        simp (disch := omega) only [Try.f44, Option.getD_some, atC, es_seq, es_region, es_cond, es_exit, ops_nil, ops_cons, sy_bin, binS_lss, bindO_some, bindF_some, bindX_normal, bindX_exit, condX_false, ev_tmp, putA, upd_at, ↓reduceIte, decide_false, ↓bindO_some, ↓bindF_some, ↓bindX_normal, ↓bindX_exit, ↓condX_false, h9, h10, Int.lt_irrefl]
        rw [List.drop_length] at hg
        exact ⟨_, _, _, rfl, by simp, rfl, .inl ⟨rfl, h0, hg⟩⟩
    rw [show cckA = atC [1, 1, 0, 1, 0, 0] ((Try.f44.body).getD .skip) from rfl] at key
    simp only [Try.f44, Option.getD_some, atC] at key
    simp (disch := omega) only [Try.f44, es_seq, es_region, es_cond, es_block, es_loop, es_skip, es_ret, ops_nil, ops_cons, st_move, st_assign, st_fun, sy_len uL, sy_bin, binS_gtr, bindO_some, bindF_some, bindX_normal, condX_false, ev_tmp, ev_const, ev_func, putA, upd_at, Option.map_some, ↓reduceIte, Nat.reduceEqDiff, frOf_0, List.map_cons, List.map_nil, decide_false, ↓bindO_some, ↓bindF_some, ↓bindX_normal, ↓condX_false, hv.lenI, c1]
    generalize hA : upd _ 10 _ = A
    obtain ⟨r, a', H', e, hH, h⟩ := key A (by subst hA; rfl) (by subst hA; rfl) (by subst hA; rfl) (by subst hA; rfl)
    rw [e]
    subst hH
    rcases h with ⟨rfl, h0, hg⟩ | ⟨e2, rfl, h2, hg⟩
    · rw [hg]
      have s1 := csize_run hv (part_sm hl hg) n (by omega)
      by_cases hb : 20 < l.sum
      · simp (disch := omega) only [binS_gtr, bindO_some, bindF_some, bindX_normal, bindX_ret, blkX_exit, condX_true, upd_at, Option.map_some, ↓reduceIte, decide_true, ↓bindO_some, ↓bindF_some, ↓bindX_normal, ↓bindX_ret, ↓condX_true, fin_r, res_nil, res_tmp, pack_1, scal_vi, h0, s1, hb]
      · simp (disch := omega) only [binS_gtr, bindO_some, bindF_some, bindX_normal, blkX_exit, condX_false, upd_at, Option.map_some, ↓reduceIte, decide_false, ↓bindO_some, ↓bindF_some, ↓bindX_normal, ↓condX_false, fin_r, res_nil, res_tmp, pack_1, scal_vi, h0, s1, hb]
    · rw [hg]
      simp (disch := omega) only [bindX_ret, blkX_ret, Option.map_some, ↓bindX_ret, fin_r, res_nil, res_tmp, pack_1, scal_vi, h2]
noncomputable def rckA : Code := atC [1, 1, 0, 1, 0, 0] ((Try.f16.body).getD .skip)
theorem rcheck_run {H : Heap} {v : Value} {l : List Int} (hv : R H v (ints l)) (hl : l.length ≤ 1000) (n : Nat) (hn : 1011 ≤ n) : evB Try.prog noC n (.func (.func 16) #[] #[]) [v] H = some (vi (chk l), H) := by
  refine run_of (F := 1010) (Q := fun r => r = some (vi (chk l), H)) (fun n hn => ?_) n hn
  rw [body_runS Try.func16 rfl (ok_fn (by rfl) Try.func16 rfl) (Nat.le_of_ble_eq_true rfl) (D := D0) (by kernel_rfl)]
  by_cases hbig : 20 < l.length
  · have c1 : (20 : Int) < (l.length : Int) := by omega
    rw [show chk l = 8 from if_pos hbig]
    simp (disch := omega) only [Try.f16, es_seq, es_region, es_cond, es_ret, ops_nil, ops_cons, st_move, st_assign, sy_len uL, sy_bin, binS_gtr, bindO_some, bindF_some, bindX_normal, bindX_ret, condX_true, ev_tmp, ev_const, putA, upd_at, Option.map_some, ↓reduceIte, Nat.reduceEqDiff, frOf_0, decide_true, ↓bindO_some, ↓bindF_some, ↓bindX_normal, ↓bindX_ret, ↓condX_true, fin_r, res_nil, res_tmp, pack_1, scal_vi, hv.lenI, c1]
  · have c1 : ¬ (20 : Int) < (l.length : Int) := by omega
    rw [show chk l = _ from if_neg hbig]
    have key : ∀ A : Fr, A 0 = v → A 3 = vi (0 : Nat) → ∃ r a' H', loopN (evS Try.prog (evB Try.prog noC n) n Try.f16.ntmps none rckA) n A H = some (r, a', H') ∧ H' = H ∧ ((r = .exit 0 ∧ a' 0 = v ∧ chkGo none l = none) ∨ ∃ e, r = .ret ∧ a' 2 = vi e ∧ chkGo none l = some e) := by
      intro A h0 h3
      refine loop_up l.length (fun i a H' => H' = H ∧ a 0 = v ∧ a 3 = vi i ∧ chkGo none l = chkGo (prv l i) (l.drop i)) _ ?_ ?_ (by omega) ⟨rfl, h0, h3, rfl⟩
      · intro i a H' hi ⟨hH, h0, h3, hg⟩
        subst hH
        rw [show rckA = atC [1, 1, 0, 1, 0, 0] ((Try.f16.body).getD .skip) from rfl]
        have hlt : (i : Int) < l.length := by omega
        have e1 : IntKind.i64.wrap ((i : Int) + 1) = ((i + 1 : Nat) : Int) := by rw [wr64 (by omega) (by omega)]; omega
        rw [chkGo_at hi] at hg
        have s0 := within_runS (l.getD i 0) 1 20 H' n (by omega)
        by_cases hx : l.getD i 0 < 1 ∨ 20 < l.getD i 0
        · right
          rw [show bad (prv l i) (l.getD i 0) = some 2 from by unfold bad; split; · rfl
                                                               · rw [if_pos (by omega)]] at hg
          rw [show (decide (1 ≤ l.getD i 0) && decide (l.getD i 0 ≤ 20)) = false from by rw [Bool.and_eq_false_iff]; exact hx.imp (fun h => decide_eq_false (by omega)) (fun h => decide_eq_false (by omega))] at s0
          simp (disch := omega) only [Try.f16, Option.getD_some, atC, es_seq, es_region, es_cond, es_block, es_skip, es_ret, ops_nil, ops_cons, st_move, st_assign, st_fun, sy_len uL, sy_addr eL, sy_load aI, sy_bin, st_not, binS_lss, bindO_some, bindF_some, bindX_normal, bindX_ret, blkX_ret, condX_true, ev_tmp, ev_const, ev_func, putA, upd_at, Option.map_some, ↓reduceIte, Nat.reduceEqDiff, Int.toNat_natCast, List.map_cons, List.map_nil, decide_true, Bool.not_false, ↓bindO_some, ↓bindF_some, ↓bindX_normal, ↓bindX_ret, ↓condX_true, h0, h3, hv.lenI, hlt, hv.addrI, hv.loadI, s0]
          exact ⟨_, _, _, rfl, by simp, rfl, .inr ⟨2, rfl, rfl, hg⟩⟩
        · have hx1 : ¬ l.getD i 0 < 1 := fun h => hx (.inl h)
          have hx2 : ¬ 20 < l.getD i 0 := fun h => hx (.inr h)
          rw [show (decide (1 ≤ l.getD i 0) && decide (l.getD i 0 ≤ 20)) = true from by rw [Bool.and_eq_true, decide_eq_true_eq, decide_eq_true_eq]; omega] at s0
          cases i with
          | zero =>
            left
            rw [show bad (prv l 0) (l.getD 0 0) = none from by unfold bad; rw [if_neg hx1, if_neg hx2]; rfl] at hg
            have c0 : decide ((0 : Int) < ((0 : Nat) : Int)) = false := rfl
            simp (disch := omega) only [Try.f16, Option.getD_some, atC, es_seq, es_region, es_draw, d0, es_cond, es_block, es_skip, ops_nil, ops_cons, opsV_nil, opsV_cons, opsV_consG, st_move, st_assign, sy_pick, pickS_false, st_fun, sy_len uL, sy_addr eL, sy_load aI, sy_bin, st_not, binS_lss, binS_gtr, binS_add, bindO_some, bindF_some, bindX_normal, blkX_normal, condX_true, condX_false, iteB_true, iteB_false, ev_tmp, ev_const, ev_func, putA, upd_at, Option.map_some, ↓reduceIte, Nat.reduceEqDiff, Nat.zero_add, Int.toNat_natCast, List.map_cons, List.map_nil, decide_true, Bool.not_true, yieldO_eq, yO, yV_bool, some_true, List.getElem?_cons_zero, List.getElem?_cons_succ, ↓bindO_some, ↓bindF_some, ↓bindX_normal, ↓condX_true, ↓condX_false, ↓iteB_true, ↓iteB_false, reflV_move, reflV_pick, reflV_bin, h0, h3, hv.lenI, hlt, hv.addrI, hv.loadI, s0, c0, e1]
            exact ⟨_, _, rfl, rfl, h0, rfl, hg⟩
          | succ j =>
            have c0 : (0 : Int) < ((j + 1 : Nat) : Int) := by omega
            have e2 : IntKind.i64.wrap (((j + 1 : Nat) : Int) - 1) = (j : Int) := by rw [wr64 (by omega) (by omega)]; omega
            by_cases hq : l.getD j 0 < l.getD (j + 1) 0
            · right
              rw [show bad (prv l (j + 1)) (l.getD (j + 1) 0) = some 9 from by unfold bad; rw [if_neg hx1, if_neg hx2]; exact if_pos hq] at hg
              simp (disch := omega) only [Try.f16, Option.getD_some, atC, es_seq, es_region, es_draw, d0, es_cond, es_block, es_skip, es_ret, ops_nil, ops_cons, opsV_nil, opsV_cons, opsV_consG, st_move, st_assign, sy_pick, pickS_true, st_fun, sy_len uL, sy_addr eL, sy_load aI, sy_bin, st_not, binS_lss, binS_gtr, binS_sub, bindO_some, bindF_some, bindX_normal, bindX_ret, blkX_ret, condX_true, condX_false, iteB_true, iteB_false, ev_tmp, ev_const, ev_func, putA, upd_at, Option.map_some, ↓reduceIte, Nat.reduceEqDiff, Int.toNat_natCast, List.map_cons, List.map_nil, decide_true, Bool.not_true, yieldO_eq, yO, yV_bool, List.getElem?_cons_zero, List.getElem?_cons_succ, beq_self_eq_true, ↓bindO_some, ↓bindF_some, ↓bindX_normal, ↓bindX_ret, ↓condX_true, ↓condX_false, ↓iteB_true, ↓iteB_false, reflV_load, reflV_move, reflV_pick, reflV_bin, reflV_addr, vEq_vi, h0, h3, hv.lenI, hlt, hv.addrI, hv.loadI, s0, c0, e2, hq]
              exact ⟨_, _, _, rfl, by simp, rfl, .inr ⟨9, rfl, rfl, hg⟩⟩
            · left
              rw [show bad (prv l (j + 1)) (l.getD (j + 1) 0) = none from by unfold bad; rw [if_neg hx1, if_neg hx2]; exact if_neg hq] at hg
              simp (disch := omega) only [Try.f16, Option.getD_some, atC, es_seq, es_region, es_draw, d0, es_cond, es_block, es_skip, ops_nil, ops_cons, opsV_nil, opsV_cons, opsV_consG, st_move, st_assign, sy_pick, pickS_true, st_fun, sy_len uL, sy_addr eL, sy_load aI, sy_bin, st_not, binS_lss, binS_gtr, binS_add, binS_sub, bindO_some, bindF_some, bindX_normal, blkX_normal, condX_true, condX_false, iteB_true, iteB_false, ev_tmp, ev_const, ev_func, putA, upd_at, Option.map_some, ↓reduceIte, Nat.reduceEqDiff, Int.toNat_natCast, List.map_cons, List.map_nil, decide_true, decide_false, Bool.not_true, yieldO_eq, yO, yV_bool, List.getElem?_cons_zero, List.getElem?_cons_succ, beq_self_eq_true, ↓bindO_some, ↓bindF_some, ↓bindX_normal, ↓condX_true, ↓condX_false, ↓iteB_true, ↓iteB_false, reflV_load, reflV_move, reflV_pick, reflV_bin, reflV_addr, vEq_vi, h0, h3, hv.lenI, hlt, hv.addrI, hv.loadI, s0, c0, e2, hq, e1]
              exact ⟨_, _, rfl, rfl, h0, rfl, hg⟩
      · intro a H' ⟨hH, h0, h3, hg⟩
        subst hH
        rw [show rckA = atC [1, 1, 0, 1, 0, 0] ((Try.f16.body).getD .skip) from rfl]
        simp (disch := omega) only [Try.f16, Option.getD_some, atC, es_seq, es_region, es_cond, es_exit, ops_nil, ops_cons, st_move, sy_len uL, sy_bin, binS_lss, bindO_some, bindF_some, bindX_normal, bindX_exit, condX_false, ev_tmp, putA, upd_at, Option.map_some, ↓reduceIte, Nat.reduceEqDiff, decide_false, ↓bindO_some, ↓bindF_some, ↓bindX_normal, ↓bindX_exit, ↓condX_false, h0, h3, hv.lenI, Int.lt_irrefl]
        rw [List.drop_length] at hg
        exact ⟨_, _, _, rfl, by simp, rfl, .inl ⟨rfl, h0, hg⟩⟩
    rw [show rckA = atC [1, 1, 0, 1, 0, 0] ((Try.f16.body).getD .skip) from rfl] at key
    simp only [Try.f16, Option.getD_some, atC] at key
    simp (disch := omega) only [Try.f16, es_seq, es_region, es_cond, es_block, es_loop, es_skip, es_ret, ops_nil, ops_cons, st_move, st_assign, st_fun, sy_len uL, sy_bin, binS_gtr, bindO_some, bindF_some, bindX_normal, condX_false, ev_tmp, ev_const, ev_func, putA, upd_at, Option.map_some, ↓reduceIte, Nat.reduceEqDiff, frOf_0, List.map_cons, List.map_nil, decide_false, ↓bindO_some, ↓bindF_some, ↓bindX_normal, ↓condX_false, hv.lenI, c1]
    generalize hA : upd _ 3 _ = A
    obtain ⟨r, a', H', e, hH, h⟩ := key A (by subst hA; rfl) (by subst hA; rfl)
    rw [e]
    subst hH
    rcases h with ⟨rfl, h0, hg⟩ | ⟨e2, rfl, h2, hg⟩
    · rw [hg]
      have s1 := rsize_run hv (part_sm hl hg) n (by omega)
      by_cases hb : 20 < l.sum
      · simp (disch := omega) only [binS_gtr, bindO_some, bindF_some, bindX_normal, bindX_ret, blkX_exit, condX_true, upd_at, Option.map_some, ↓reduceIte, decide_true, ↓bindO_some, ↓bindF_some, ↓bindX_normal, ↓bindX_ret, ↓condX_true, fin_r, res_nil, res_tmp, pack_1, scal_vi, h0, s1, hb]
      · simp (disch := omega) only [binS_gtr, bindO_some, bindF_some, bindX_normal, blkX_exit, condX_false, upd_at, Option.map_some, ↓reduceIte, decide_false, ↓bindO_some, ↓bindF_some, ↓bindX_normal, ↓condX_false, fin_r, res_nil, res_tmp, pack_1, scal_vi, h0, s1, hb]
    · rw [hg]
      simp (disch := omega) only [bindX_ret, blkX_ret, Option.map_some, ↓bindX_ret, fin_r, res_nil, res_tmp, pack_1, scal_vi, h2]
end Go.Proofs.Ytmmgdgmjkhcfaaa
namespace Go.Proofs.Ytmmgdgmjkhcfaaa
open Go Go.Abs Go.Num
set_option maxRecDepth 10000
attribute [local congr] bindO_congr bindF_congr bindX_congr condX_congr iteB_congr binS_congr pickS_congr eqB_congr nilS_congr
theorem eY : sliceElem Try.prog 115 = some (5, 1) := by kernel_rfl
theorem pY : ((bytesT Try.prog 5).isSome && decide ((bytesT Try.prog 5).getD 0 ≤ maxA) && (zeros Try.prog 5 1 1).isSome) = true := by kernel_rfl
theorem oY : zeros Try.prog 5 1 1 = some [.int .u8 0] := by kernel_rfl
theorem nY : zeros Try.prog 5 1 0 = some [] := by kernel_rfl
theorem uY : Try.prog.underlying 5 = some (.int .u8) := by kernel_rfl
theorem uYs : Try.prog.underlying 115 = some (.slice 5) := by kernel_rfl
theorem uSt : Try.prog.underlying 9 = some .string := by kernel_rfl
def vb (x : Int) : Value := .int .u8 x
def byts (l : List Int) : List Value := l.map vb
theorem scal_vb {x : Int} : scal (vb x) = some [vb x] := (rfl)
theorem scal_str {x : ByteArray} : scal (.string x) = some [.string x] := (rfl)
theorem scal_vb0 : scal (.int .u8 0) = some [vb 0] := (rfl)
noncomputable def cvS (s e : TypeId) (v : Value) (H : Heap) : Option Value := match textA Try.prog s e v H with
  | some t => some t
  | none => if plain v then (match (pureVal Try.prog (do let x ← convert s e v; pure (Next.value x))).bind valOf with
    | some u => if plain u then some u else none
    | none => none) else none
theorem sy_conv {call : CallF} {a : Fr} {H : Heap} {d : Option Nat} {ty : TypeId} {pos : String} {aft : Array Edge} {g : Option (Nat × Bool)} {s e : TypeId} {x : Operand} : stepA Try.prog call a ⟨d, .convert s e x, ty, pos, aft, g⟩ H = (cvS s e (ev a x) H).map (·, H) := by
  show aexec Try.prog a ⟨d, .convert s e x, ty, pos, aft, g⟩ H = _
  simp only [aexec]
  unfold cvS
  cases textA Try.prog s e (ev a x) H with
  | some t => rfl
  | none =>
    show (plainA Try.prog a _).map _ = _
    unfold plainA
    by_cases h : plain (ev a x) = true
    · rw [if_pos (by simp [Op.operands, h]), if_pos h]
      rfl
    · rw [if_neg (by simp [Op.operands, h]), if_neg h]
theorem cv_u8 {H : Heap} {x : Int} (h0 : 0 ≤ x) (h1 : x < 256) : cvS 3 5 (vi x) H = some (vb x) := by
  have e : pureVal Try.prog (do let y ← convert 3 5 (vi x); pure (Next.value y)) = some (Next.value (.int .u8 (IntKind.u8.wrap x))) := by kernel_rfl
  have w : IntKind.u8.wrap x = x := by
    have : IntKind.u8.wrap x = x % 256 := by rfl
    rw [this]; omega
  unfold cvS
  rw [show textA Try.prog 3 5 (vi x) H = none from rfl, e, w]
  rfl
def txt (l : List Int) : ByteArray := ⟨(l.map fun x => UInt8.ofNat x.toNat).toArray⟩
theorem bytes_from : ∀ (l : List Int) (s : ByteArray), bytesFrom s (byts l) = some ⟨s.data ++ (l.map fun x => UInt8.ofNat x.toNat).toArray⟩ := by
  intro l
  induction l with
  | nil => intro s; simp [byts, bytesFrom]
  | cons x l ih =>
    intro s
    show bytesFrom (s.push (UInt8.ofNat x.toNat)) (byts l) = _
    rw [ih]
    congr 1
    cases s
    simp [ByteArray.push]
theorem cv_text {H : Heap} {v : Value} {l : List Int} (hv : R H v (byts l)) : cvS 115 9 v H = some (.string (txt l)) := by
  obtain ⟨hr, p, c, e⟩ := hv.read
  have : textA Try.prog 115 9 v H = some (.string (txt l)) := by
    unfold textA
    rw [e] at hr ⊢
    simp only [uYs, uSt, uY, hr, bytes_from, Option.map_some]
    unfold txt
    simp
  unfold cvS
  rw [this]
theorem u8_inj : ∀ (l m : List Int), (∀ x ∈ l, 0 ≤ x ∧ x < 256) → (∀ x ∈ m, 0 ≤ x ∧ x < 256) → l.map (fun x => UInt8.ofNat x.toNat) = m.map (fun x => UInt8.ofNat x.toNat) → l = m := by
  intro l
  induction l with
  | nil =>
    intro m _ _ h
    cases m with
    | nil => rfl
    | cons y m => simp at h
  | cons x l ih =>
    intro m hl hm h
    cases m with
    | nil => simp at h
    | cons y m =>
      simp only [List.map_cons, List.cons.injEq] at h
      have hx := hl x (by simp)
      have hy := hm y (by simp)
      have e : x = y := by
        have := congrArg UInt8.toNat h.1
        simp only [UInt8.toNat_ofNat'] at this
        omega
      rw [e, ih m (fun z hz => hl z (by simp [hz])) (fun z hz => hm z (by simp [hz])) h.2]
theorem txt_inj {l m : List Int} (hl : ∀ x ∈ l, 0 ≤ x ∧ x < 256) (hm : ∀ x ∈ m, 0 ≤ x ∧ x < 256) (h : txt l = txt m) : l = m := by
  unfold txt at h
  have h := congrArg (fun x => x.data.toList) h
  exact u8_inj l m hl hm h
noncomputable def kyA : Code := atC [1, 1, 0, 1, 0, 0] ((Try.f100.body).getD .skip)
noncomputable def kyB : Code := atC [1, 1, 1, 1, 0, 1, 0, 0] ((Try.f100.body).getD .skip)
theorem byts_len (l : List Int) : (byts l).length = l.length := by unfold byts; simp
theorem byts_app (l m : List Int) : byts (l ++ m) = byts l ++ byts m := by unfold byts; simp
theorem take_snoc {l : List Int} {i : Nat} (h : i < l.length) : l.take (i + 1) = l.take i ++ [l.getD i 0] := by
  rw [List.take_succ_eq_append_getElem h, List.getD_eq_getElem?_getD, List.getElem?_eq_getElem h]; rfl
theorem ky_a {H0 H1 : Heap} {v vo : Value} {l : List Int} (hv : R H1 v (ints l)) (hl : l.length ≤ 100) (hr : ∀ x ∈ l, 0 ≤ x ∧ x < 256) (hw1 : WF H1) (old1 : Old H0.length H0 H1) (ho1 : O H0.length H1 vo (byts [])) (call : CallF) (m nt : Nat) {a0 : Fr} {k : Nat} (hk : l.length < k) (h5 : a0 5 = vo) (h11 : a0 11 = v) (h12 : a0 12 = vi l.length) (h13 : a0 13 = vi (0 : Nat)) (hvo : ∀ H2, Old H0.length H0 H2 → R H2 v (ints l)) :
    ∃ r a' H', loopN (evS Try.prog call m nt none kyA) k a0 H1 = some (r, a', H') ∧ r = .exit 0 ∧ a' 1 = a0 1 ∧ ∃ w, a' 5 = w ∧ O H0.length H' w (byts l) ∧ Old H0.length H0 H' ∧ WF H' := by
  refine loop_up l.length (fun i a H' => a 1 = a0 1 ∧ a 11 = v ∧ a 12 = vi l.length ∧ a 13 = vi i ∧ Old H0.length H0 H' ∧ WF H' ∧ ∃ w, a 5 = w ∧ O H0.length H' w (byts (l.take i))) _ ?_ ?_ hk ⟨rfl, h11, h12, h13, old1, hw1, _, h5, ho1⟩
  · intro i a H' hi ⟨h1, h11, h12, h13, old, hw, w, h5, ho⟩
    left
    rw [show kyA = atC [1, 1, 0, 1, 0, 0] ((Try.f100.body).getD .skip) from rfl]
    have hv' := hvo _ old
    have c1 : (i : Int) < (l.length : Int) := by omega
    have hx := hr (l.getD i 0) (by rw [List.getD_eq_getElem?_getD, List.getElem?_eq_getElem hi]; exact List.getElem_mem hi)
    have a1 : addrS 1 v (vi (i : Int)) = some (pt v i) := by have := hv'.addrI (i := (i : Int)) (by omega) (by omega); rwa [Int.toNat_natCast] at this
    have l1 : loadS (pt v i) H' = some (vi (l.getD i 0)) := hv'.loadI (by omega)
    have e1 : IntKind.i64.wrap ((i : Int) + 1) = ((i + 1 : Nat) : Int) := by rw [wr64 (by omega) (by omega)]; omega
    obtain ⟨w2, H2, s2, o2, old2, wf2⟩ := ho.push hw old.1 (by rw [byts_len, List.length_take]; unfold maxA; omega) (vb (l.getD i 0))
    have b1 : cvS 3 5 (vi (l.getD i 0)) H' = some (vb (l.getD i 0)) := cv_u8 hx.1 hx.2
    simp (disch := omega) only [Try.f100, Option.getD_some, atC, es_seq, es_region, es_cond, es_block, es_skip, ops_nil, ops_cons, st_move, st_assign, sy_addr eL, sy_load aI, sy_bin, binS_lss, binS_add, bindO_some, bindF_some, bindX_normal, blkX_normal, condX_true, ev_tmp, ev_const, putA, upd_at, Option.map_some, ↓reduceIte, Nat.reduceEqDiff, decide_true, ↓bindO_some, ↓bindF_some, ↓bindX_normal, ↓condX_true, sy_conv, sy_build1 eY oY, sy_append eY pY, b1, scal_vb, h11, h12, h13, h5, c1, a1, l1, s2, e1]
    exact ⟨_, _, rfl, h1, h11, h12, rfl, old.trans old2, wf2, _, rfl, by rw [take_snoc hi, byts_app]; exact o2⟩
  · intro a H' ⟨h1, h11, h12, h13, old, hw, w, h5, ho⟩
    rw [show kyA = atC [1, 1, 0, 1, 0, 0] ((Try.f100.body).getD .skip) from rfl]
    simp (disch := omega) only [Try.f100, Option.getD_some, atC, es_seq, es_region, es_cond, es_exit, ops_nil, ops_cons, sy_bin, binS_lss, bindO_some, bindF_some, bindX_normal, bindX_exit, condX_false, ev_tmp, putA, upd_at, ↓reduceIte, decide_false, ↓bindO_some, ↓bindF_some, ↓bindX_normal, ↓bindX_exit, ↓condX_false, h12, h13, Int.lt_irrefl]
    exact ⟨_, _, _, rfl, by simp, rfl, h1, w, h5, by rw [List.take_length] at ho; exact ho, old, hw⟩
theorem ky_b {H0 H1 : Heap} {v vo : Value} {pre l : List Int} (hl : l.length ≤ 100) (hpre : pre.length ≤ 1000) (hr : ∀ x ∈ l, 0 ≤ x ∧ x < 256) (hw1 : WF H1) (old1 : Old H0.length H0 H1) (ho1 : O H0.length H1 vo (byts pre)) (call : CallF) (m nt : Nat) {a0 : Fr} {k : Nat} (hk : l.length < k) (h5 : a0 5 = vo) (h11 : a0 26 = v) (h12 : a0 27 = vi l.length) (h13 : a0 28 = vi (0 : Nat)) (hvo : ∀ H2, Old H0.length H0 H2 → R H2 v (ints l)) :
    ∃ r a' H', loopN (evS Try.prog call m nt none kyB) k a0 H1 = some (r, a', H') ∧ r = .exit 2 ∧ ∃ w, a' 5 = w ∧ O H0.length H' w (byts (pre ++ l)) ∧ Old H0.length H0 H' ∧ WF H' := by
  refine loop_up l.length (fun i a H' => a 26 = v ∧ a 27 = vi l.length ∧ a 28 = vi i ∧ Old H0.length H0 H' ∧ WF H' ∧ ∃ w, a 5 = w ∧ O H0.length H' w (byts (pre ++ l.take i))) _ ?_ ?_ hk ⟨h11, h12, h13, old1, hw1, _, h5, by simpa using ho1⟩
  · intro i a H' hi ⟨h11, h12, h13, old, hw, w, h5, ho⟩
    left
    rw [show kyB = atC [1, 1, 1, 1, 0, 1, 0, 0] ((Try.f100.body).getD .skip) from rfl]
    have hv' := hvo _ old
    have c1 : (i : Int) < (l.length : Int) := by omega
    have hx := hr (l.getD i 0) (by rw [List.getD_eq_getElem?_getD, List.getElem?_eq_getElem hi]; exact List.getElem_mem hi)
    have a1 : addrS 1 v (vi (i : Int)) = some (pt v i) := by have := hv'.addrI (i := (i : Int)) (by omega) (by omega); rwa [Int.toNat_natCast] at this
    have l1 : loadS (pt v i) H' = some (vi (l.getD i 0)) := hv'.loadI (by omega)
    have e1 : IntKind.i64.wrap ((i : Int) + 1) = ((i + 1 : Nat) : Int) := by rw [wr64 (by omega) (by omega)]; omega
    obtain ⟨w2, H2, s2, o2, old2, wf2⟩ := ho.push hw old.1 (by rw [byts_len, List.length_append, List.length_take]; unfold maxA; omega) (vb (l.getD i 0))
    have b1 : cvS 3 5 (vi (l.getD i 0)) H' = some (vb (l.getD i 0)) := cv_u8 hx.1 hx.2
    simp (disch := omega) only [Try.f100, Option.getD_some, atC, es_seq, es_region, es_cond, es_block, es_skip, ops_nil, ops_cons, st_move, st_assign, sy_addr eL, sy_load aI, sy_bin, binS_lss, binS_add, bindO_some, bindF_some, bindX_normal, blkX_normal, condX_true, ev_tmp, ev_const, putA, upd_at, Option.map_some, ↓reduceIte, Nat.reduceEqDiff, decide_true, ↓bindO_some, ↓bindF_some, ↓bindX_normal, ↓condX_true, sy_conv, sy_build1 eY oY, sy_append eY pY, b1, scal_vb, h11, h12, h13, h5, c1, a1, l1, s2, e1]
    exact ⟨_, _, rfl, h11, h12, rfl, old.trans old2, wf2, _, rfl, by rw [take_snoc hi, ← List.append_assoc, byts_app]; exact o2⟩
  · intro a H' ⟨h11, h12, h13, old, hw, w, h5, ho⟩
    rw [show kyB = atC [1, 1, 1, 1, 0, 1, 0, 0] ((Try.f100.body).getD .skip) from rfl]
    simp (disch := omega) only [Try.f100, Option.getD_some, atC, es_seq, es_region, es_cond, es_exit, ops_nil, ops_cons, sy_bin, binS_lss, bindO_some, bindF_some, bindX_normal, bindX_exit, condX_false, ev_tmp, putA, upd_at, ↓reduceIte, decide_false, ↓bindO_some, ↓bindF_some, ↓bindX_normal, ↓bindX_exit, ↓condX_false, h12, h13, Int.lt_irrefl]
    exact ⟨_, _, _, rfl, by simp, rfl, w, h5, by rw [List.take_length] at ho; exact ho, old, hw⟩
theorem key_run {H : Heap} {v u : Value} {l c : List Int} (hw : WF H) (hv : R H v (ints l)) (hu : R H u (ints c)) (hl : l.length ≤ 100) (hc : c.length ≤ 100) (hlm : ∀ x ∈ l, 0 ≤ x ∧ x < 256) (hcm : ∀ x ∈ c, 0 ≤ x ∧ x < 256) (n : Nat) (hn : 1010 ≤ n) :
    ∃ H', evB Try.prog noC n (.func (.func 100) #[] #[]) [v, u] H = some (.string (txt (keyL l c)), H') ∧ Old H.length H H' ∧ WF H' := by
  refine run_of (F := 1009) (Q := fun q => ∃ H', q = some (.string (txt (keyL l c)), H') ∧ Old H.length H H' ∧ WF H') (fun n hn => ?_) n hn
  rw [body_runS Try.func100 rfl (ok_fn (by rfl) Try.func100 rfl) (Nat.le_of_ble_eq_true rfl) (D := D0) (by kernel_rfl)]
  have ob := O.empty (B := H.length) (H := H) (Nat.le_refl _)
  have old1 := Old.app H [.cells H.length true []]
  have wf1 := hw.app (Nat.le_refl H.length) (o := true) (cs := [])
  have key1 := fun (A : Fr) => ky_a (v := v) (l := l) (hv.mono old1) hl hlm wf1 old1 ob (evB Try.prog noC n) n Try.f100.ntmps (a0 := A) (k := n) (by omega)
  rw [show kyA = atC [1, 1, 0, 1, 0, 0] ((Try.f100.body).getD .skip) from rfl] at key1
  simp only [Try.f100, Option.getD_some, atC] at key1
  have hlen := hv.lenI
  have hlenc := hu.lenI
  simp (disch := omega) only [Try.f100, es_seq, es_region, es_block, es_loop, es_ret, ops_nil, ops_cons, st_move, st_assign, sy_len uL, bindO_some, bindF_some, bindX_normal, ev_tmp, ev_const, putA, upd_at, Option.map_some, ↓reduceIte, Nat.reduceEqDiff, frOf_0, ↓bindO_some, ↓bindF_some, ↓bindX_normal, sy_conv, sy_build0 eY nY, hv.lenI]
  generalize hA : upd _ 13 _ = A
  obtain ⟨r, a', H2, s, rfl, g1, w, h5, o2, old2, wf2⟩ := key1 A (by subst hA; rfl) (by subst hA; rfl) (by subst hA; rfl) (by subst hA; rfl) (fun H2 h => hv.mono h)
  have g1 : a' 1 = u := by rw [g1]; subst hA; rfl
  have hu2 := hu.mono old2
  obtain ⟨w3, H3, s3, o3, old3, wf3⟩ := o2.push wf2 old2.1 (by rw [byts_len]; unfold maxA; omega) (vb 0)
  have key2 := fun (A : Fr) => ky_b (v := u) (l := c) (pre := l ++ [0]) hc (by simp; omega) hcm wf3 (old2.trans old3) (by rw [byts_app]; exact o3) (evB Try.prog noC n) n Try.f100.ntmps (a0 := A) (k := n) (by omega)
  rw [show kyB = atC [1, 1, 1, 1, 0, 1, 0, 0] ((Try.f100.body).getD .skip) from rfl] at key2
  simp only [Try.f100, Option.getD_some, atC] at key2
  simp (disch := omega) only [s, bindO_some, bindF_some, bindX_normal, blkX_exit, ev_tmp, ev_const, upd_at, Option.map_some, ↓reduceIte, Nat.reduceEqDiff, ↓bindO_some, ↓bindF_some, ↓bindX_normal, sy_build1 eY oY, sy_append eY pY, scal_vb0, s3, g1, h5, (hu.mono (old2.trans old3)).lenI]
  generalize hA2 : upd _ 28 _ = A2
  obtain ⟨r2, a2, H4, s4, rfl, w4, h54, o4, old4, wf4⟩ := key2 A2 (by subst hA2; rfl) (by subst hA2; rfl) (by subst hA2; rfl) (by subst hA2; rfl) (fun H2 h => hu.mono h)
  have t4 := cv_text o4.R
  simp (disch := omega) only [s4, bindO_some, bindF_some, bindX_normal, blkX_exit, upd_at, Option.map_some, ↓reduceIte, ↓bindO_some, ↓bindF_some, ↓bindX_normal, fin_r, res_nil, res_tmp, pack_1, h54, t4, scal_str]
  exact ⟨_, by rw [show (l ++ [0]) ++ c = keyL l c by simp [keyL]], old4, wf4⟩
end Go.Proofs.Ytmmgdgmjkhcfaaa
namespace Go.Proofs.Ytmmgdgmjkhcfaaa
open Go Go.Abs Go.Num
set_option maxRecDepth 10000
attribute [local congr] bindO_congr bindF_congr bindX_congr condX_congr iteB_congr binS_congr pickS_congr eqB_congr nilS_congr clsW_congr maxS_congr minS_congr
theorem Part.head {l : List Int} (hp : Part l) : 0 ≤ l.getD 0 0 ∧ l.getD 0 0 ≤ 1000 := by
  by_cases h : 0 < l.length
  · have := hp.getD h; omega
  · rw [List.getD_eq_getElem?_getD, List.getElem?_eq_none (by omega)]; simp
theorem map_range_succ {α : Type} (f : Nat → α) (i : Nat) : (List.range (i + 1)).map f = (List.range i).map f ++ [f i] := by rw [List.range_succ, List.map_append]; rfl
noncomputable def cjA : Code := atC [1, 1, 1, 0, 1, 0, 0] ((Try.f81.body).getD .skip)
noncomputable def cjB : Code := atC [1, 1, 1, 0, 1, 0, 0, 1, 1, 0, 0, 1, 1, 0, 0, 0] ((Try.f81.body).getD .skip)
theorem cj_inner {H : Heap} {v : Value} {l : List Int} (hv : R H v (ints l)) (hl : l.length ≤ 1000) (j : Nat) (call : CallF) (m nt : Nat) {a : Fr} {k : Nat} (hk : l.length < k) {v3 v12 v13 : Value} (h0 : a 0 = v) (h3 : a 3 = v3) (h4 : a 4 = vi j) (h5 : a 5 = vi (0 : Nat)) (h12 : a 12 = v12) (h13 : a 13 = v13) :
    ∃ r a' H', loopN (evS Try.prog call m nt none cjB) k a H = some (r, a', H') ∧ r = .exit 2 ∧ H' = H ∧ a' 0 = v ∧ a' 3 = v3 ∧ a' 5 = vi (tw l j : Nat) ∧ a' 12 = v12 ∧ a' 13 = v13 := by
  refine loop_up l.length (fun i a H' => H' = H ∧ a 0 = v ∧ a 3 = v3 ∧ a 4 = vi j ∧ a 5 = vi i ∧ a 12 = v12 ∧ a 13 = v13 ∧ ∀ t, t < i → (j : Int) < l.getD t 0) _ ?_ ?_ hk ⟨rfl, h0, h3, h4, h5, h12, h13, fun t ht => by omega⟩
  · intro i a H' hi ⟨hH, h0, h3, h4, h5, h12, h13, ht⟩
    subst hH
    rw [show cjB = atC [1, 1, 1, 0, 1, 0, 0, 1, 1, 0, 0, 1, 1, 0, 0, 0] ((Try.f81.body).getD .skip) from rfl]
    have hlt : (i : Int) < l.length := by omega
    have e1 : IntKind.i64.wrap ((i : Int) + 1) = ((i + 1 : Nat) : Int) := by rw [wr64 (by omega) (by omega)]; omega
    by_cases hj : (j : Int) < l.getD i 0
    · left
      simp (disch := omega) only [Try.f81, Option.getD_some, atC, es_seq, es_region, es_cond, es_block, es_skip, ops_nil, ops_cons, ops_consG, st_move, st_assign, sy_pick, pickS_true, sy_len uL, sy_addr eL, sy_load aI, sy_bin, binS_lss, binS_gtr, binS_add, bindO_some, bindF_some, bindX_normal, blkX_normal, condX_true, iteB_true, ev_tmp, ev_const, putA, upd_at, Option.map_some, ↓reduceIte, Nat.reduceEqDiff, Int.toNat_natCast, decide_true, yieldO_eq, yO, yV_bool, List.getElem?_cons_zero, List.getElem?_cons_succ, beq_self_eq_true, ↓bindO_some, ↓bindF_some, ↓bindX_normal, ↓condX_true, ↓iteB_true, h0, h4, h5, hv.lenI, hlt, hv.addrI, hv.loadI, hj, e1]
      refine ⟨_, _, rfl, rfl, h0, h3, h4, rfl, h12, h13, fun t h => ?_⟩
      by_cases e : t = i
      · subst e; exact hj
      · exact ht t (by omega)
    · right
      simp (disch := omega) only [Try.f81, Option.getD_some, atC, es_seq, es_region, es_cond, es_exit, ops_nil, ops_cons, ops_consG, st_move, sy_pick, pickS_true, sy_len uL, sy_addr eL, sy_load aI, sy_bin, binS_lss, binS_gtr, bindO_some, bindF_some, bindX_normal, bindX_exit, condX_false, iteB_true, ev_tmp, putA, upd_at, Option.map_some, ↓reduceIte, Nat.reduceEqDiff, Int.toNat_natCast, decide_true, decide_false, yieldO_eq, yO, yV_bool, List.getElem?_cons_zero, List.getElem?_cons_succ, beq_self_eq_true, ↓bindO_some, ↓bindF_some, ↓bindX_normal, ↓bindX_exit, ↓condX_false, ↓iteB_true, h0, h4, h5, hv.lenI, hlt, hv.addrI, hv.loadI, hj]
      refine ⟨_, _, _, rfl, by simp, rfl, rfl, h0, h3, ?_, h12, h13⟩
      rw [← tw_eq (by omega : i ≤ l.length) ht (.inr hj)]
      simp only [upd_at, ↓reduceIte, Nat.reduceEqDiff, h5]
  · intro a H' ⟨hH, h0, h3, h4, h5, h12, h13, ht⟩
    subst hH
    rw [show cjB = atC [1, 1, 1, 0, 1, 0, 0, 1, 1, 0, 0, 1, 1, 0, 0, 0] ((Try.f81.body).getD .skip) from rfl]
    simp (disch := omega) only [Try.f81, Option.getD_some, atC, es_seq, es_region, es_cond, es_exit, ops_nil, ops_cons, ops_consG, st_move, sy_pick, pickS_false, sy_len uL, sy_bin, binS_lss, bindO_some, bindF_some, bindX_normal, bindX_exit, condX_false, iteB_false, ev_tmp, ev_const, putA, upd_at, Option.map_some, ↓reduceIte, Nat.reduceEqDiff, decide_false, yieldO_eq, yO, yV_bool, some_true, List.getElem?_cons_zero, List.getElem?_cons_succ, ↓bindO_some, ↓bindF_some, ↓bindX_normal, ↓bindX_exit, ↓condX_false, ↓iteB_false, h0, h5, hv.lenI, Int.lt_irrefl]
    refine ⟨_, _, _, rfl, by simp, rfl, rfl, h0, h3, ?_, h12, h13⟩
    rw [← tw_eq (Nat.le_refl _) ht (.inl rfl)]
    simp only [upd_at, ↓reduceIte, Nat.reduceEqDiff, h5]
theorem conj_run {H : Heap} {v : Value} {l : List Int} (hw : WF H) (hv : R H v (ints l)) (hl : l.length ≤ 1000) (h0 : 0 ≤ l.getD 0 0) (h1 : l.getD 0 0 ≤ 1000) (n : Nat) (hn : 1010 ≤ n) : OneL H (evB Try.prog noC n (.func (.func 81) #[] #[]) [v] H) (conjP l) := by
  refine run_of (F := 1009) (Q := fun r => OneL H r (conjP l)) (fun n hn => ?_) n hn
  rw [body_runS Try.func81 rfl (ok_fn (by rfl) Try.func81 rfl) (Nat.le_of_ble_eq_true rfl) (D := D0) (by kernel_rfl)]
  by_cases hz : l.length = 0
  · have c1 : (l.length : Int) = 0 := by omega
    have : l = [] := List.eq_nil_of_length_eq_zero hz
    simp (disch := omega) only [Try.f81, es_seq, es_region, es_cond, es_ret, ops_nil, ops_cons, st_move, st_assign, sy_len uL, sy_bin, binS_eql, bindO_some, bindF_some, bindX_normal, bindX_ret, condX_true, ev_tmp, ev_const, putA, upd_at, Option.map_some, ↓reduceIte, Nat.reduceEqDiff, frOf_0, decide_true, ↓bindO_some, ↓bindF_some, ↓bindX_normal, ↓bindX_ret, ↓condX_true, fin_r, res_nil, res_tmp, pack_1, scal_nil, hv.lenI, c1]
    rw [this]
    exact ⟨_, _, rfl, O.nil _ _, Old.refl _ _, hw⟩
  · have c1 : ¬ (l.length : Int) = 0 := by omega
    have a1 : addrS 1 v (vi 0) = some (pt v 0) := hv.addrI (i := 0) (by omega) (by omega)
    have key : ∀ A : Fr, A 0 = v → A 3 = .slice none 0 0 → A 12 = vi (l.getD 0 0) → A 13 = vi (0 : Nat) → ∃ r a' H', loopN (evS Try.prog (evB Try.prog noC n) n Try.f81.ntmps none cjA) n A H = some (r, a', H') ∧ r = .exit 0 ∧ ∃ vo, a' 3 = vo ∧ O H.length H' vo (ints (conjP l)) ∧ Old H.length H H' ∧ WF H' := by
      intro A h0' h3 h12 h13
      refine loop_up (l.getD 0 0).toNat (fun i a H' => a 0 = v ∧ a 12 = vi (l.getD 0 0) ∧ a 13 = vi i ∧ Old H.length H H' ∧ WF H' ∧ ∃ vo, a 3 = vo ∧ O H.length H' vo (ints ((List.range i).map fun (j : Nat) => ((tw l (j : Int) : Nat) : Int)))) _ ?_ ?_ (by omega) ⟨h0', h12, h13, Old.refl _ _, hw, _, h3, O.nil _ _⟩
      · intro i a H' hi ⟨h0', h12, h13, old, hw, vo, h3, ho⟩
        left
        rw [show cjA = atC [1, 1, 1, 0, 1, 0, 0] ((Try.f81.body).getD .skip) from rfl]
        have hlt : (i : Int) < l.getD 0 0 := by omega
        have e1 : IntKind.i64.wrap ((i : Int) + 1) = ((i + 1 : Nat) : Int) := by rw [wr64 (by omega) (by omega)]; omega
        have hv' := hv.mono old
        have k1 := fun (F : Fr) => cj_inner hv' hl i (evB Try.prog noC n) n Try.f81.ntmps (a := F) (k := n) (v3 := vo) (v12 := vi (l.getD 0 0)) (v13 := vi i) (by omega)
        rw [show cjB = atC [1, 1, 1, 0, 1, 0, 0, 1, 1, 0, 0, 1, 1, 0, 0, 0] ((Try.f81.body).getD .skip) from rfl] at k1
        simp only [Try.f81, Option.getD_some, atC] at k1
        obtain ⟨v2, H2, s2, o2, old2, wf2⟩ := ho.pushI hw old.1 (by rw [List.length_map, List.length_range]; unfold maxA; omega) ((tw l (i : Int) : Nat) : Int)
        simp (disch := omega) only [Try.f81, Option.getD_some, atC, es_seq, es_region, es_cond, es_block, es_loop, es_skip, ops_nil, ops_cons, st_move, st_assign, sy_bin, sy_append eL pI, sy_build1 eL oI, binS_lss, bindO_some, bindF_some, bindX_normal, condX_true, ev_tmp, ev_const, putA, upd_at, ↓reduceIte, Nat.reduceEqDiff, decide_true, ↓bindO_some, ↓bindF_some, ↓bindX_normal, ↓condX_true, h12, h13, hlt]
        generalize hF : upd _ 5 _ = F
        obtain ⟨r, a', H3, e, hr, hH, g0, g3, g5, g12, g13⟩ := k1 F (by subst hF; exact h0') (by subst hF; exact h3) (by subst hF; rfl) (by subst hF; rfl) (by subst hF; exact h12) (by subst hF; exact h13)
        subst hr
        rw [e]
        clear e k1
        subst hH
        simp (disch := omega) only [binS_add, bindO_some, bindF_some, bindX_normal, blkX_normal, blkX_exit, upd_at, ↓reduceIte, Nat.reduceEqDiff, ↓bindO_some, ↓bindF_some, ↓bindX_normal, scal_vi, g3, g5, g13, scal_vi, s2, e1]
        exact ⟨_, _, rfl, g0, g12, rfl, old.trans old2, wf2, v2, rfl, by rw [map_range_succ]; exact o2⟩
      · intro a H' ⟨h0', h12, h13, old, hw, vo, h3, ho⟩
        rw [show cjA = atC [1, 1, 1, 0, 1, 0, 0] ((Try.f81.body).getD .skip) from rfl]
        have hlt : ¬ ((l.getD 0 0).toNat : Int) < l.getD 0 0 := by omega
        simp (disch := omega) only [Try.f81, Option.getD_some, atC, es_seq, es_region, es_cond, es_exit, ops_nil, ops_cons, sy_bin, binS_lss, bindO_some, bindF_some, bindX_normal, bindX_exit, condX_false, ev_tmp, putA, upd_at, ↓reduceIte, decide_false, ↓bindO_some, ↓bindF_some, ↓bindX_normal, ↓bindX_exit, ↓condX_false, h12, h13, hlt]
        exact ⟨_, _, _, rfl, by simp, rfl, vo, h3, ho, old, hw⟩
    rw [show cjA = atC [1, 1, 1, 0, 1, 0, 0] ((Try.f81.body).getD .skip) from rfl] at key
    simp only [Try.f81, Option.getD_some, atC] at key
    simp (disch := omega) only [Try.f81, es_seq, es_region, es_cond, es_block, es_loop, es_skip, es_ret, ops_nil, ops_cons, st_move, st_assign, sy_len uL, sy_addr eL, sy_load aI, sy_bin, binS_eql, bindO_some, bindF_some, bindX_normal, condX_false, ev_tmp, ev_const, putA, upd_at, Option.map_some, ↓reduceIte, Nat.reduceEqDiff, frOf_0, decide_false, ↓bindO_some, ↓bindF_some, ↓bindX_normal, ↓condX_false, hv.lenI, c1, a1, hv.loadI]
    generalize hA : upd _ 13 _ = A
    obtain ⟨r, a', H', e, hr, vo, h3, ho, old, wf⟩ := key A (by subst hA; rfl) (by subst hA; rfl) (by subst hA; rfl) (by subst hA; rfl)
    subst hr
    rw [e]
    simp (disch := omega) only [bindX_normal, blkX_exit, upd_at, Option.map_some, ↓reduceIte, ↓bindX_normal, fin_r, res_nil, res_tmp, pack_1, h3, ho.R.scal]
    exact ⟨_, _, rfl, ho, old, wf⟩
end Go.Proofs.Ytmmgdgmjkhcfaaa
namespace Go.Proofs.Ytmmgdgmjkhcfaaa
open Go Go.Abs Go.Num
set_option maxRecDepth 10000
attribute [local congr] bindO_congr bindF_congr bindX_congr condX_congr iteB_congr binS_congr pickS_congr
def MM (n : Nat) (c : Int) : Prop := (n = 0 ∧ (c = 0 ∨ c = -1)) ∨ (n = 1 ∧ -10000000 ≤ c ∧ c ≤ 10000000) ∨ (n = 2 ∧ -100000000000 ≤ c ∧ c ≤ 100000000000)
theorem OneL.trans {H H1 : Heap} {r : Option (Value × Heap)} {l : List Int} (ho : Old H.length H H1) (h : OneL H1 r l) : OneL H r l := by
  obtain ⟨v', H', e, o, old, wf⟩ := h
  exact ⟨v', H', e, o.below ho.1, ho.trans (old.mono ho.1), wf⟩
end Go.Proofs.Ytmmgdgmjkhcfaaa
namespace Go.Proofs.Ytmmgdgmjkhcfaaa
open Go Go.Abs Go.Num
set_option maxRecDepth 10000
attribute [local congr] bindO_congr bindF_congr bindX_congr condX_congr iteB_congr binS_congr pickS_congr
def NumV (H : Heap) (v : Value) (z : Int) : Prop := ∃ l, R H v (ints l) ∧ val l = z ∧ l.length ≤ 900 ∧ ∀ x ∈ l, -4000000000000000000 ≤ x ∧ x ≤ 4000000000000000000
theorem NumV.mono {H H' : Heap} {v : Value} {z : Int} (h : NumV H v z) (ho : Old H.length H H') : NumV H' v z := by
  obtain ⟨l, hr, h⟩ := h
  exact ⟨l, hr.mono ho, h⟩
theorem NumV.of {H : Heap} {v : Value} {z : Int} (h : R H v (ints (nf z))) (hl : (nf z).length ≤ 900) : NumV H v z :=
  ⟨nf z, h, nf_val z, hl, fun x hx => by have := nf_bound z x hx; unfold B at this; omega⟩
theorem NumV.one {H : Heap} {v : Value} {z : Int} (h : R H v (ints [z])) (h1 : -4000000000000000000 ≤ z) (h2 : z ≤ 4000000000000000000) : NumV H v z :=
  ⟨[z], h, by simp [val], by simp, fun x hx => by simp at hx; subst hx; exact ⟨h1, h2⟩⟩
theorem nfb (z : Int) : ∀ x ∈ nf z, -4000000000000000000 ≤ x ∧ x ≤ 4000000000000000000 := fun x hx => by have := nf_bound z x hx; unfold B at this; omega
end Go.Proofs.Ytmmgdgmjkhcfaaa
namespace Go.Proofs.Ytmmgdgmjkhcfaaa
open Go Go.Abs Go.Num
set_option maxRecDepth 10000
attribute [local congr] bindO_congr bindF_congr bindX_congr condX_congr iteB_congr binS_congr pickS_congr
theorem zeros_I : ∀ n : Nat, zeros Try.prog 3 1 n = some (ints (List.replicate n 0)) := by
  have h : ∀ n : Nat, repl n [vi 0] = ints (List.replicate n 0) := by
    intro n
    induction n with
    | zero => rfl
    | succ n ih => rw [repl, ih, List.replicate_succ]; rfl
  intro n
  have e : zeros Try.prog 3 1 n = some (repl n [vi 0]) := by
    have h0 : zeroT Try.prog 3 = some (vi 0) := by kernel_rfl
    unfold zeros
    rw [h0]
    rfl
  rw [e, h]
theorem val_zeros (n : Nat) : val (List.replicate n 0) = 0 := by
  induction n with
  | zero => rfl
  | succ n ih => rw [List.replicate_succ]; simp [val, ih]
end Go.Proofs.Ytmmgdgmjkhcfaaa
namespace Go.Proofs.Ytmmgdgmjkhcfaaa
open Go Go.Abs Go.Num
set_option maxRecDepth 10000
attribute [local congr] bindO_congr bindF_congr bindX_congr condX_congr iteB_congr binS_congr pickS_congr
theorem one_len {z : Int} (h0 : 0 ≤ z) (h1 : z < 100000000) : (nf z).length ≤ 1 := nf_len (by rw [show B ^ 1 = 100000000 from rfl]; omega) (by rw [show B ^ 1 = 100000000 from rfl]; omega)
def TwoL (H : Heap) (r : Option (Value × Heap)) (f : Value → Value → Value) (l m : List Int) : Prop := ∃ v1 v2 H', r = some (f v1 v2, H') ∧ O H.length H' v1 (ints l) ∧ O H.length H' v2 (ints m) ∧ Old H.length H H' ∧ WF H'
theorem natAbs_pos {x : Int} (h : 0 ≤ x) : (x.natAbs : Int) = x := by omega
end Go.Proofs.Ytmmgdgmjkhcfaaa
namespace Go.Proofs.Ytmmgdgmjkhcfaaa
open Go Go.Abs Go.Num
set_option maxRecDepth 10000
attribute [local congr] bindO_congr bindF_congr bindX_congr condX_congr iteB_congr binS_congr pickS_congr eqB_congr
theorem floored_run {z : Int} (h1 : -4000000000000000000 ≤ z) (h2 : z ≤ 4000000000000000000) (n : Nat) (H : Heap) (hn : 10 ≤ n) : evB Try.prog noC n (.func (.func 113) #[] #[]) [vi z] H = some (.tuple #[vi (z / 100000000), vi (z % 100000000)], H) := by
  refine run_of (F := 9) (Q := fun x => x = some (.tuple #[vi (z / 100000000), vi (z % 100000000)], H)) (fun n _ => ?_) n hn
  rw [body_runS Try.func113 rfl (ok_fn (by rfl) Try.func113 rfl) (Nat.le_of_ble_eq_true rfl) (D := D0) (by kernel_rfl)]
  by_cases hz : 0 ≤ z
  · have e1 : z.tdiv 100000000 = z / 100000000 := tdiv_pos hz _
    have e2 : z.tmod 100000000 = z % 100000000 := tmod_pos hz _
    have h3 : ¬ z % 100000000 < 0 := by omega
    simp (disch := omega) only [Try.f113, es_seq, es_region, es_cond, es_skip, es_ret, ops_nil, ops_cons, st_move, st_assign, sy_bin, binS_lss, binS_quo, binS_rem, bindO_some, bindF_some, bindX_normal, condX_false, ev_tmp, ev_const, putA, upd_at, Option.map_some, ↓reduceIte, Nat.reduceEqDiff, frOf_0, decide_false, ↓bindO_some, ↓bindF_some, ↓bindX_normal, ↓condX_false, fin_r, res_nil, res_tmp, pack_2, scal_vi, e1, e2, wr64, h3]
  · have e1 : z.tdiv 100000000 = -((-z) / 100000000) := by rw [tdiv_neg', tdiv_pos (by omega)]
    have e2 : z.tmod 100000000 = -((-z) % 100000000) := by rw [tmod_neg', tmod_pos (by omega)]
    by_cases h3 : -((-z) % 100000000) < 0
    · simp (disch := omega) only [Try.f113, es_seq, es_region, es_cond, es_ret, ops_nil, ops_cons, st_move, st_assign, sy_bin, binS_lss, binS_add, binS_sub, binS_quo, binS_rem, bindO_some, bindF_some, bindX_normal, bindX_ret, condX_true, ev_tmp, ev_const, putA, upd_at, Option.map_some, ↓reduceIte, Nat.reduceEqDiff, frOf_0, decide_true, ↓bindO_some, ↓bindF_some, ↓bindX_normal, ↓bindX_ret, ↓condX_true, fin_r, res_nil, res_tmp, pack_2, scal_vi, e1, e2, wr64, h3]
      rw [show -(-z / 100000000) - 1 = z / 100000000 from by omega, show -(-z % 100000000) + 100000000 = z % 100000000 from by omega]
    · simp (disch := omega) only [Try.f113, es_seq, es_region, es_cond, es_skip, es_ret, ops_nil, ops_cons, st_move, st_assign, sy_bin, binS_lss, binS_quo, binS_rem, bindO_some, bindF_some, bindX_normal, condX_false, ev_tmp, ev_const, putA, upd_at, Option.map_some, ↓reduceIte, Nat.reduceEqDiff, frOf_0, decide_false, ↓bindO_some, ↓bindF_some, ↓bindX_normal, ↓condX_false, fin_r, res_nil, res_tmp, pack_2, scal_vi, e1, e2, wr64, h3]
      rw [show -(-z / 100000000) = z / 100000000 from by omega, show -(-z % 100000000) = z % 100000000 from by omega]
noncomputable def trmA : Code := atC [1, 0, 0, 0] ((Try.f114.body).getD .skip)
theorem trimmed_run {C : Nat} {H : Heap} {v : Value} {l : List Int} (hv : RO C H v (ints l)) (hl : l.length ≤ 1000) (n : Nat) (hn : 2000 ≤ n) : ∃ v', evB Try.prog noC n (.func (.func 114) #[] #[]) [v] H = some (v', H) ∧ RO C H v' (ints (trimL l)) := by
  refine run_of (F := 1999) (Q := fun x => ∃ v', x = some (v', H) ∧ RO C H v' (ints (trimL l))) (fun n hn => ?_) n hn
  rw [body_runS Try.func114 rfl (ok_fn (by rfl) Try.func114 rfl) (Nat.le_of_ble_eq_true rfl) (D := D0) (by kernel_rfl)]
  have key : ∀ A : Fr, A 0 = v → ∃ x a' H', loopN (evS Try.prog (evB Try.prog noC n) n Try.f114.ntmps none trmA) n A H = some (x, a', H') ∧ x = .exit 0 ∧ H' = H ∧ ∃ v', a' 0 = v' ∧ RO C H v' (ints (trimL l)) := by
    intro A h0
    refine loop_wf (fun n a H' => H' = H ∧ ∃ v', a 0 = v' ∧ RO C H v' (ints (l.take n)) ∧ n ≤ l.length ∧ trimL (l.take n) = trimL l) _ ?_ n l.length A H (by omega) ⟨rfl, v, h0, by rw [List.take_length]; exact hv, Nat.le_refl _, by rw [List.take_length]⟩
    intro c a H' ⟨hH, v', h0, hr, hc, ht⟩
    subst hH
    have hlc : (l.take c).length = c := by rw [List.length_take]; omega
    have hlen := hr.R.lenI
    rw [hlc] at hlen
    rw [show trmA = atC [1, 0, 0, 0] ((Try.f114.body).getD .skip) from rfl]
    by_cases hz : c = 0
    · subst hz
      right
      have c1 : decide ((0 : Int) < ((0 : Nat) : Int)) = false := rfl
      simp (disch := omega) only [Try.f114, Option.getD_some, atC, es_seq, es_region, es_cond, es_exit, ops_nil, ops_cons, ops_consG, st_move, sy_pick, pickS_false, sy_len uL, sy_bin, binS_gtr, bindO_some, bindF_some, bindX_normal, bindX_exit, condX_false, iteB_false, ev_tmp, ev_const, putA, upd_at, Option.map_some, ↓reduceIte, Nat.reduceEqDiff, yieldO_eq, yO, yV_bool, some_true, List.getElem?_cons_zero, List.getElem?_cons_succ, ↓bindO_some, ↓bindF_some, ↓bindX_normal, ↓bindX_exit, ↓condX_false, ↓iteB_false, h0, hlen, c1]
      exact ⟨_, _, _, rfl, by simp, rfl, rfl, v', by simp only [upd_get, ↓reduceIte, Nat.reduceEqDiff, h0], by rw [← ht]; exact hr⟩
    · obtain ⟨d, rfl⟩ : ∃ d, c = d + 1 := ⟨c - 1, by omega⟩
      have c1 : (0 : Int) < ((d + 1 : Nat) : Int) := by omega
      have e1 : IntKind.i64.wrap (((d + 1 : Nat) : Int) - 1) = (d : Int) := by rw [wr64 (by omega) (by omega)]; omega
      have hx := take_snoc' (l := l) (c := d) (by omega)
      have a1 : addrS 1 v' (vi d) = some (pt v' d) := by have := hr.R.addrI (i := (d : Int)) (by omega) (by omega); simpa using this
      have l1 : loadS (pt v' d) H' = some (vi (l.getD d 0)) := by
        have := hr.R.loadI (i := d) (by omega)
        rw [this, hx, List.getD_eq_getElem?_getD, List.getElem?_append_right (by rw [List.length_take]; omega), List.length_take, Nat.min_eq_left (by omega), Nat.sub_self]
        rfl
      rw [hx, trimL_snoc] at ht
      by_cases hy : l.getD d 0 = 0
      · left
        rw [if_pos hy] at ht
        obtain ⟨v2, s2, r2⟩ := hr.upto (c := d) (by omega)
        rw [List.take_take, Nat.min_eq_left (by omega)] at r2
        simp (disch := omega) only [Try.f114, Option.getD_some, atC, es_seq, es_region, es_cond, es_block, es_skip, ops_nil, ops_cons, ops_consG, st_move, st_assign, sy_pick, pickS_true, sy_len uL, sy_addr eL, sy_load aI, sy_bin, sy_slice eL, binS_gtr, binS_eql, binS_sub, bindO_some, bindF_some, bindX_normal, blkX_normal, condX_true, iteB_true, ev_tmp, ev_const, putA, upd_at, Option.map_some, ↓reduceIte, Nat.reduceEqDiff, decide_true, yieldO_eq, yO, yV_bool, List.getElem?_cons_zero, List.getElem?_cons_succ, beq_self_eq_true, ↓bindO_some, ↓bindF_some, ↓bindX_normal, ↓condX_true, ↓iteB_true, h0, hlen, c1, e1, a1, l1, hy, Option.map_none, s2]
        exact ⟨_, _, rfl, d, by omega, rfl, v2, by simp only [upd_get, ↓reduceIte], r2, by omega, ht⟩
      · right
        rw [if_neg hy] at ht
        simp (disch := omega) only [Try.f114, Option.getD_some, atC, es_seq, es_region, es_cond, es_exit, ops_nil, ops_cons, ops_consG, st_move, sy_pick, pickS_true, sy_len uL, sy_addr eL, sy_load aI, sy_bin, binS_gtr, binS_eql, binS_sub, bindO_some, bindF_some, bindX_normal, bindX_exit, condX_false, iteB_true, ev_tmp, ev_const, putA, upd_at, Option.map_some, ↓reduceIte, Nat.reduceEqDiff, decide_true, decide_false, yieldO_eq, yO, yV_bool, List.getElem?_cons_zero, List.getElem?_cons_succ, beq_self_eq_true, ↓bindO_some, ↓bindF_some, ↓bindX_normal, ↓bindX_exit, ↓condX_false, ↓iteB_true, h0, hlen, c1, e1, a1, l1, hy]
        exact ⟨_, _, _, rfl, by simp, rfl, rfl, v', by simp only [upd_get, ↓reduceIte, Nat.reduceEqDiff, h0], by rw [← ht, ← hx]; exact hr⟩
  rw [show trmA = atC [1, 0, 0, 0] ((Try.f114.body).getD .skip) from rfl] at key
  simp only [Try.f114, Option.getD_some, atC] at key
  simp (disch := omega) only [Try.f114, es_seq, es_region, es_block, es_loop, es_ret, ops_nil, ops_cons, st_move, st_assign, bindO_some, bindF_some, bindX_normal, ev_tmp, ev_const, putA, upd_at, ↓reduceIte, ↓bindO_some, ↓bindF_some, ↓bindX_normal]
  generalize hA : upd _ 2 _ = A
  obtain ⟨x, a', H', e, hx, hH, v', h0, r⟩ := key A (by subst hA; rfl)
  subst hx
  subst hH
  rw [e]
  simp (disch := omega) only [bindX_normal, blkX_exit, upd_at, Option.map_some, ↓reduceIte, ↓bindX_normal, fin_r, res_nil, res_tmp, pack_1, h0, r.R.scal]
  exact ⟨_, rfl, r⟩
def Wh (C : Nat) (H : Heap) (w : Value) (z : Int) : Prop := ∃ v, w = .agg #[.bool (decide (z < 0)), v] ∧ RO C H v (ints (nf z.natAbs))
def OneW (H : Heap) (r : Option (Value × Heap)) (z : Int) : Prop := ∃ w H', r = some (w, H') ∧ Wh H.length H' w z ∧ Old H.length H H' ∧ WF H'
theorem Wh.mono {C : Nat} {H H' : Heap} {w : Value} {z : Int} (h : Wh C H w z) (ho : Old H.length H H') : Wh C H' w z := by
  obtain ⟨v, h1, h2⟩ := h
  exact ⟨v, h1, h2.mono ho⟩
theorem Wh.below {C C' : Nat} {H : Heap} {w : Value} {z : Int} (h : Wh C H w z) (hc : C' ≤ C) : Wh C' H w z := by
  obtain ⟨v, h1, h2⟩ := h
  exact ⟨v, h1, h2.below hc⟩
theorem Wh.kept {C : Nat} {H H' : Heap} {w : Value} {z : Int} (h : Wh C H w z) (k : Kept C H H') : Wh C H' w z := by
  obtain ⟨v, h1, h2⟩ := h
  exact ⟨v, h1, h2.kept k⟩
noncomputable def readA_ : Code := atC [1, 1, 1, 0, 1, 0, 0] ((Try.f83.body).getD .skip)
noncomputable def readB : Code := atC [1, 1, 1, 1, 1, 1, 0, 1, 0, 0] ((Try.f83.body).getD .skip)
theorem read_loop1 {H0 H : Heap} {v p : Value} {l : List Int} (hv : R H0 v (ints l)) (old0 : Old H0.length H0 H) (hw : WF H) (hl : l.length ≤ 900) (hb : ∀ x ∈ l, -4000000000000000000 ≤ x ∧ x ≤ 4000000000000000000) (n m nt : Nat) (hn : 10 ≤ n) {a : Fr} {k : Nat} (hk : l.length + 2 < k)
    (h0 : a 0 = v) (h2 : a 2 = p) (h3 : a 3 = .slice none 0 0) (h4 : a 4 = vi 0) (h5 : a 5 = vi (0 : Nat)) :
    ∃ x a' H', loopN (evS Try.prog (evB Try.prog noC n) m nt none readA_) k a H = some (x, a', H') ∧ x = .exit 0 ∧ a' 2 = p ∧ ∃ vo out c, a' 3 = vo ∧ a' 4 = vi c ∧ O H.length H' vo (ints out) ∧ Old H.length H H' ∧ WF H' ∧ out.length ≤ l.length + 2 ∧ Dg out ∧ val out + B ^ out.length * c = val l ∧ (c = 0 ∨ c = -1) := by
  refine loop_wf (fun q a H' => a 0 = v ∧ a 2 = p ∧ ∃ vo out c, a 3 = vo ∧ a 4 = vi c ∧ a 5 = vi (out.length : Nat) ∧ O H.length H' vo (ints out) ∧ Old H.length H H' ∧ WF H' ∧ out.length + q ≤ l.length + 2 ∧ Dg out ∧ val out + B ^ out.length * c = val (l.take out.length) ∧ ((out.length < l.length ∧ q = l.length - out.length + 2 ∧ -100000000000 ≤ c ∧ c ≤ 100000000000) ∨ (l.length ≤ out.length ∧ MM q c))) _ ?_ k (l.length + 2) a H hk ?_
  · intro q a H' ⟨h0, h2, vo, out, c, h3, h4, h5, ho, old, hw, hq, hd, hval, hM⟩
    rw [show readA_ = atC [1, 1, 1, 0, 1, 0, 0] ((Try.f83.body).getD .skip) from rfl]
    have hr := hv.keep (Nat.le_refl _) (old0.trans (old.mono old0.1))
    have e3 : IntKind.i64.wrap ((out.length : Int) + 1) = ((out.length + 1 : Nat) : Int) := by rw [wr64 (by omega) (by omega)]; omega
    rcases hM with ⟨hlt, hqe, hc1, hc2⟩ | ⟨hge, hM⟩
    · left
      have hx := hb _ (getD_mem hlt)
      have c1 : ((out.length : Int) < l.length) := by omega
      have s1 := floored_run hx.1 hx.2 n H' hn
      have e1 : IntKind.i64.wrap (l.getD out.length 0 % 100000000 + c) = l.getD out.length 0 % 100000000 + c := wr64 (by omega) (by omega)
      have s2 := floored_run (z := l.getD out.length 0 % 100000000 + c) (by omega) (by omega) n H' hn
      have e2 : IntKind.i64.wrap (l.getD out.length 0 / 100000000 + (l.getD out.length 0 % 100000000 + c) / 100000000) = l.getD out.length 0 / 100000000 + (l.getD out.length 0 % 100000000 + c) / 100000000 := wr64 (by omega) (by omega)
      obtain ⟨v2, H2, ep, o2, old2, wf2⟩ := ho.pushI hw old.1 (by unfold maxA; omega) ((l.getD out.length 0 % 100000000 + c) % 100000000)
      simp (disch := omega) only [Try.f83, Option.getD_some, atC, es_seq, es_region, es_cond, es_block, es_skip, ops_nil, ops_cons, ops_consG, st_move, st_assign, sy_pick, pickS_true, st_fun, sy_len uL, sy_addr eL, sy_load aI, sy_bin, sy_append eL pI, sy_build1 eL oI, sy_ext, ext_20, ext_21, binS_lss, binS_add, bindO_some, bindF_some, bindX_normal, blkX_normal, condX_true, iteB_false, ev_tmp, ev_const, ev_func, putA, upd_at, Option.map_some, ↓reduceIte, Nat.reduceEqDiff, Int.toNat_natCast, List.map_cons, List.map_nil, decide_true, Bool.not_true, yieldO_eq, yO, yV_bool, yV_undef, none_some, some_false, List.getElem?_cons_zero, List.getElem?_cons_succ, ↓bindO_some, ↓bindF_some, ↓bindX_normal, ↓condX_true, ↓iteB_false, scal_vi, h0, h3, h4, h5, hr.lenI, c1, hr.addrI, hr.loadI, s1, s2, e1, e2, e3, ep]
      have hvl := norm_step (x := l.getD out.length 0) rfl hval (by rw [List.length_take]; omega)
      rw [← take_snoc' hlt] at hvl
      refine ⟨_, _, rfl, q - 1, by omega, by simp only [upd_get, ↓reduceIte, Nat.reduceEqDiff, h0], by simp only [upd_get, ↓reduceIte, Nat.reduceEqDiff, h2], v2, out ++ [(l.getD out.length 0 % 100000000 + c) % 100000000], l.getD out.length 0 / 100000000 + (l.getD out.length 0 % 100000000 + c) / 100000000, by simp only [upd_get, ↓reduceIte, Nat.reduceEqDiff], by simp only [upd_get, ↓reduceIte, Nat.reduceEqDiff], by simp only [upd_get, ↓reduceIte, List.length_append, List.length_singleton], o2, old.trans old2, wf2, by rw [List.length_append, List.length_singleton]; omega, hd.app (Dg.one (by omega) (by unfold B; omega)), by rw [List.length_append, List.length_singleton]; exact hvl, ?_⟩
      rw [List.length_append, List.length_singleton]
      by_cases hl2 : out.length + 1 < l.length
      · exact .inl ⟨hl2, by omega, by omega, by omega⟩
      · exact .inr ⟨by omega, .inr (.inr ⟨by omega, by omega, by omega⟩)⟩
    · have c1 : ¬ ((out.length : Int) < l.length) := by omega
      have ht : l.take out.length = l := List.take_of_length_le hge
      rw [ht] at hval
      by_cases hz : c = 0
      · right
        simp (disch := omega) only [Try.f83, Option.getD_some, atC, es_seq, es_region, es_cond, es_exit, ops_nil, ops_cons, ops_consG, st_move, sy_pick, pickS_false, sy_len uL, sy_bin, binS_lss, binS_neq, bindO_some, bindF_some, bindX_normal, bindX_exit, condX_false, iteB_true, iteB_false, ev_tmp, ev_const, putA, upd_at, Option.map_some, ↓reduceIte, Nat.reduceEqDiff, decide_true, decide_false, Bool.not_true, yieldO_eq, yO, yV_bool, some_true, List.getElem?_cons_zero, List.getElem?_cons_succ, beq_self_eq_true, ↓bindO_some, ↓bindF_some, ↓bindX_normal, ↓bindX_exit, ↓condX_false, ↓iteB_true, ↓iteB_false, h0, h4, h5, hr.lenI, c1, hz]
        exact ⟨_, _, _, rfl, by simp, rfl, by simp only [upd_get, ↓reduceIte, Nat.reduceEqDiff, h2], vo, out, 0, by simp only [upd_get, ↓reduceIte, Nat.reduceEqDiff, h3], by simp only [upd_get, ↓reduceIte, Nat.reduceEqDiff, h4, hz], ho, old, hw, by omega, hd, by rw [← hz]; exact hval, .inl rfl⟩
      · by_cases hy : c = -1
        · right
          have d1 : decide (c = 0) = false := by simp [hz]
          have d2 : decide (c = -1) = true := by simp [hy]
          simp (disch := omega) only [Try.f83, Option.getD_some, atC, es_seq, es_region, es_cond, es_exit, ops_nil, ops_cons, ops_consG, st_move, sy_pick, pickS_true, pickS_false, sy_len uL, sy_bin, binS_lss, binS_neq, bindO_some, bindF_some, bindX_normal, bindX_exit, condX_false, iteB_true, ev_tmp, ev_const, putA, upd_at, Option.map_some, ↓reduceIte, Nat.reduceEqDiff, decide_false, Bool.not_true, Bool.not_false, yieldO_eq, yO, yV_bool, List.getElem?_cons_zero, List.getElem?_cons_succ, beq_self_eq_true, ↓bindO_some, ↓bindF_some, ↓bindX_normal, ↓bindX_exit, ↓condX_false, ↓iteB_true, h0, h4, h5, hr.lenI, c1, d1, d2]
          exact ⟨_, _, _, rfl, by simp, rfl, by simp only [upd_get, ↓reduceIte, Nat.reduceEqDiff, h2], vo, out, -1, by simp only [upd_get, ↓reduceIte, Nat.reduceEqDiff, h3], by simp only [upd_get, ↓reduceIte, Nat.reduceEqDiff, h4, hy], ho, old, hw, by omega, hd, by rw [← hy]; exact hval, .inr rfl⟩
        · left
          have s1 := floored_run (z := c) (by rcases hM with h | h | h <;> omega) (by rcases hM with h | h | h <;> omega) n H' hn
          have e0 : IntKind.i64.wrap (0 + c) = c := by rw [wr64 (by rcases hM with h | h | h <;> omega) (by rcases hM with h | h | h <;> omega)]; omega
          have e4 : IntKind.i64.wrap (0 + c / 100000000) = c / 100000000 := by rw [wr64 (by rcases hM with h | h | h <;> omega) (by rcases hM with h | h | h <;> omega)]; omega
          obtain ⟨v2, H2, ep, o2, old2, wf2⟩ := ho.pushI hw old.1 (by unfold maxA; omega) (c % 100000000)
          simp (disch := omega) only [Try.f83, Option.getD_some, atC, es_seq, es_region, es_cond, es_block, es_skip, ops_nil, ops_cons, ops_consG, st_move, st_assign, sy_pick, pickS_true, pickS_false, st_fun, sy_len uL, sy_bin, sy_append eL pI, sy_build1 eL oI, sy_ext, ext_20, ext_21, binS_lss, binS_neq, binS_add, bindO_some, bindF_some, bindX_normal, blkX_normal, condX_true, condX_false, iteB_true, ev_tmp, ev_const, ev_func, putA, upd_at, Option.map_some, ↓reduceIte, Nat.reduceEqDiff, List.map_cons, List.map_nil, decide_false, Bool.not_false, yieldO_eq, yO, yV_bool, List.getElem?_cons_zero, List.getElem?_cons_succ, beq_self_eq_true, ↓bindO_some, ↓bindF_some, ↓bindX_normal, ↓condX_true, ↓condX_false, ↓iteB_true, scal_vi, h0, h3, h4, h5, hr.lenI, c1, hz, hy, e0, s1, e4, e3, ep]
          refine ⟨_, _, rfl, q - 1, by rcases hM with h | h | h <;> omega, by simp only [upd_get, ↓reduceIte, Nat.reduceEqDiff, h0], by simp only [upd_get, ↓reduceIte, Nat.reduceEqDiff, h2], v2, out ++ [c % 100000000], c / 100000000, by simp only [upd_get, ↓reduceIte, Nat.reduceEqDiff], by simp only [upd_get, ↓reduceIte, Nat.reduceEqDiff], by simp only [upd_get, ↓reduceIte, List.length_append, List.length_singleton], o2, old.trans old2, wf2, by rw [List.length_append, List.length_singleton]; rcases hM with h | h | h <;> omega, hd.app (Dg.one (by omega) (by unfold B; omega)), by rw [List.take_of_length_le (by rw [List.length_append]; omega)]; exact carry_step _ hval, .inr ⟨by rw [List.length_append]; omega, ?_⟩⟩
          rcases hM with h | h | h
          · omega
          · exact .inl ⟨by omega, by omega⟩
          · exact .inr (.inl ⟨by omega, by omega, by omega⟩)
  · refine ⟨h0, h2, _, [], 0, h3, h4, h5, O.nil _ _, Old.refl _ _, hw, by simp, Dg.nil, by simp [val], ?_⟩
    by_cases hl0 : 0 < l.length
    · exact .inl ⟨by simpa using hl0, by simp, by omega, by omega⟩
    · have hl1 : l.length = 0 := by omega
      exact .inr ⟨by rw [hl1]; exact Nat.zero_le _, .inr (.inr ⟨by omega, by omega, by omega⟩)⟩
def cpl (l : List Int) (z : List Int) (i : Nat) : List Int := z ++ l.drop i
theorem cpl_get {l z : List Int} {i : Nat} (hz : z.length = i) (h : i < l.length) : (cpl l z i).getD i 0 = l.getD i 0 := by
  unfold cpl
  rw [List.getD_eq_getElem?_getD, List.getD_eq_getElem?_getD, List.getElem?_append_right (by omega), hz, Nat.sub_self, List.getElem?_drop, Nat.add_zero]
theorem cpl_set {l z : List Int} {i : Nat} (hz : z.length = i) (h : i < l.length) (x : Int) : (cpl l z i).set i x = cpl l (z ++ [x]) (i + 1) := by
  unfold cpl
  rw [List.set_append_right _ _ (by omega), hz, Nat.sub_self, drop_getD h, List.set_cons_zero]
  simp
theorem cpl_len {l z : List Int} {i : Nat} (hz : z.length = i) (h : i ≤ l.length) : (cpl l z i).length = l.length := by
  unfold cpl
  rw [List.length_append, List.length_drop]; omega
theorem read_loop2 {B0 : Nat} {H0 H : Heap} {vo p : Value} {out : List Int} (hB : B0 ≤ H.length) (ho : O B0 H vo (ints out)) (hd : Dg out) (old0 : Old B0 H0 H) (hw : WF H) (hol : out.length ≤ 1000) (call : CallF) (m nt : Nat) {a : Fr} {k : Nat} (hk : out.length < k)
    (h2 : a 2 = p) (h3 : a 3 = vo) (h10 : a 10 = vi 0) (h58 : a 58 = vo) (h59 : a 59 = vi (out.length : Nat)) (h60 : a 60 = vi (0 : Nat)) :
    ∃ x a' H', loopN (evS Try.prog call m nt none readB) k a H = some (x, a', H') ∧ x = .exit 2 ∧ a' 2 = p ∧ a' 3 = vo ∧ ∃ sz b, a' 10 = vi b ∧ O B0 H' vo (ints sz) ∧ Old B0 H0 H' ∧ WF H' ∧ sz.length = out.length ∧ Dg sz ∧ val sz = b * B ^ out.length - val out ∧ (b = 0 ∨ b = 1) ∧ H.length ≤ H'.length := by
  refine loop_up out.length (fun i a H' => a 2 = p ∧ a 3 = vo ∧ a 58 = vo ∧ a 59 = vi (out.length : Nat) ∧ a 60 = vi i ∧ H.length ≤ H'.length ∧ ∃ sz b, a 10 = vi b ∧ O B0 H' vo (ints (cpl out sz i)) ∧ Old B0 H0 H' ∧ WF H' ∧ sz.length = i ∧ Dg sz ∧ val sz = b * B ^ i - val (out.take i) ∧ (b = 0 ∨ b = 1)) _ ?_ ?_ hk
    ⟨h2, h3, h58, h59, h60, Nat.le_refl _, [], 0, h10, by simpa [cpl] using ho, old0, hw, rfl, Dg.nil, by simp [val], .inl rfl⟩
  · intro i a H' hi ⟨h2, h3, h58, h59, h60, hlen, sz, b, h10, ho, old, hw, hsl, hds, hval, hb⟩
    left
    rw [show readB = atC [1, 1, 1, 1, 1, 1, 0, 1, 0, 0] ((Try.f83.body).getD .skip) from rfl]
    have hx := hd.getD i
    have hr := ho.R
    have hcl := cpl_len hsl (by omega : i ≤ out.length)
    have hcg := cpl_get hsl hi
    have hlt : (i : Int) < out.length := by omega
    have e1 : IntKind.i64.wrap (0 - out.getD i 0) = - out.getD i 0 := by rw [wr64 (by omega) (by omega)]; omega
    have e2 : IntKind.i64.wrap (- out.getD i 0 - b) = - out.getD i 0 - b := wr64 (by omega) (by omega)
    have e3 : IntKind.i64.wrap ((i : Int) + 1) = ((i + 1 : Nat) : Int) := by rw [wr64 (by omega) (by omega)]; omega
    have a1 : addrS 1 vo (vi i) = some (pt vo i) := by have := hr.addrI (i := (i : Int)) (by omega) (by omega); simpa using this
    have l1 : loadS (pt vo i) H' = some (vi (out.getD i 0)) := by rw [hr.loadI (by omega), hcg]
    have hst := fun (b2 : Int) => compl_step (o := out.getD i 0) (b2 := b2) hsl (by rw [List.length_take]; omega) hval
    obtain ⟨H2, s2, o2, old2, wf2⟩ := ho.setI hw (i := i) (by omega) (- out.getD i 0 - b)
    rw [cpl_set hsl hi] at o2
    have l2 : loadS (pt vo i) H2 = some (vi (- out.getD i 0 - b)) := by
      rw [o2.R.loadI (by rw [cpl_len (by simp [hsl]) (by omega)]; omega)]
      unfold cpl
      rw [List.getD_eq_getElem?_getD, List.append_assoc, List.getElem?_append_right (by omega), hsl, Nat.sub_self]
      rfl
    by_cases hneg : - out.getD i 0 - b < 0
    · have e4 : IntKind.i64.wrap (- out.getD i 0 - b + 100000000) = - out.getD i 0 - b + 100000000 := wr64 (by omega) (by omega)
      obtain ⟨H3, s3, o3, old3, wf3⟩ := o2.setI wf2 (i := i) (by rw [cpl_len (by simp [hsl]) (by omega)]; omega) (- out.getD i 0 - b + 100000000)
      have e5 : (cpl out (sz ++ [- out.getD i 0 - b]) (i + 1)).set i (- out.getD i 0 - b + 100000000) = cpl out (sz ++ [- out.getD i 0 - b + 100000000]) (i + 1) := by
        unfold cpl
        rw [List.append_assoc, List.append_assoc, List.set_append_right _ _ (by omega), hsl, Nat.sub_self]; rfl
      rw [e5] at o3
      simp (disch := omega) only [Try.f83, Option.getD_some, atC, es_seq, es_region, es_cond, es_block, es_skip, ops_nil, ops_cons, st_move, st_assign, sy_addr eL, sy_load aI, sy_store zI, sy_bin, sy_neg, binS_lss, binS_add, binS_sub, bindO_some, bindF_some, bindX_normal, blkX_normal, condX_true, ev_tmp, ev_const, putA, upd_at, Option.map_some, ↓reduceIte, Nat.reduceEqDiff, decide_true, ↓bindO_some, ↓bindF_some, ↓bindX_normal, ↓condX_true, h3, h10, h58, h59, h60, hlt, a1, l1, e1, e2, s2, l2, hneg, e4, s3, e3]
      exact ⟨_, _, rfl, by simp only [upd_get, ↓reduceIte, Nat.reduceEqDiff, h2], by simp only [upd_get, ↓reduceIte, Nat.reduceEqDiff, h3], by simp only [upd_get, ↓reduceIte, Nat.reduceEqDiff, h58], by simp only [upd_get, ↓reduceIte, Nat.reduceEqDiff, h59], by simp only [upd_get, ↓reduceIte], Nat.le_trans hlen (Nat.le_trans old2.1 old3.1), _, 1, by simp only [upd_get, ↓reduceIte, Nat.reduceEqDiff], o3, (old.trans old2).trans old3, wf3, by simp [hsl], hds.app (Dg.one (by omega) (by unfold B; omega)), by rw [take_snoc' hi]; exact hst 1, .inr rfl⟩
    · simp (disch := omega) only [Try.f83, Option.getD_some, atC, es_seq, es_region, es_cond, es_block, es_skip, ops_nil, ops_cons, st_move, st_assign, sy_addr eL, sy_load aI, sy_store zI, sy_bin, sy_neg, binS_lss, binS_add, binS_sub, bindO_some, bindF_some, bindX_normal, blkX_normal, condX_true, condX_false, ev_tmp, ev_const, putA, upd_at, Option.map_some, ↓reduceIte, Nat.reduceEqDiff, decide_true, decide_false, ↓bindO_some, ↓bindF_some, ↓bindX_normal, ↓condX_true, ↓condX_false, h3, h10, h58, h59, h60, hlt, a1, l1, e1, e2, s2, l2, hneg, e3]
      exact ⟨_, _, rfl, by simp only [upd_get, ↓reduceIte, Nat.reduceEqDiff, h2], by simp only [upd_get, ↓reduceIte, Nat.reduceEqDiff, h3], by simp only [upd_get, ↓reduceIte, Nat.reduceEqDiff, h58], by simp only [upd_get, ↓reduceIte, Nat.reduceEqDiff, h59], by simp only [upd_get, ↓reduceIte], Nat.le_trans hlen old2.1, _, 0, by simp only [upd_get, ↓reduceIte, Nat.reduceEqDiff], o2, old.trans old2, wf2, by simp [hsl], hds.app (Dg.one (by omega) (by unfold B; omega)), by rw [take_snoc' hi]; have := hst 0; simpa using this, .inl rfl⟩
  · intro a H' ⟨h2, h3, h58, h59, h60, hlen, sz, b, h10, ho, old, hw, hsl, hds, hval, hb⟩
    rw [show readB = atC [1, 1, 1, 1, 1, 1, 0, 1, 0, 0] ((Try.f83.body).getD .skip) from rfl]
    simp (disch := omega) only [Try.f83, Option.getD_some, atC, es_seq, es_region, es_cond, es_exit, ops_nil, ops_cons, sy_bin, binS_lss, bindO_some, bindF_some, bindX_normal, bindX_exit, condX_false, ev_tmp, putA, upd_at, ↓reduceIte, decide_false, ↓bindO_some, ↓bindF_some, ↓bindX_normal, ↓bindX_exit, ↓condX_false, h59, h60, Int.lt_irrefl]
    have e0 : cpl out sz out.length = sz := by unfold cpl; rw [List.drop_length, List.append_nil]
    rw [e0] at ho
    exact ⟨_, _, _, rfl, by simp, rfl, by simp only [upd_get, ↓reduceIte, Nat.reduceEqDiff, h2], by simp only [upd_get, ↓reduceIte, Nat.reduceEqDiff, h3], sz, b, by simp only [upd_get, ↓reduceIte, Nat.reduceEqDiff, h10], ho, old, hw, hsl, hds, by rw [hval, List.take_length], hb, hlen⟩
theorem nf_natAbs_pos {z : Int} (h : 0 ≤ z) : nf z.natAbs = nf z := by rw [natAbs_pos h]
theorem read_run {H : Heap} {v : Value} {z : Int} (hw : WF H) (hv : NumV H v z) (n : Nat) (hn : 2001 ≤ n) :
    OneW H (evB Try.prog noC n (.func (.func 83) #[] #[]) [v] H) z := by
  obtain ⟨l, hr, hz, hl, hb⟩ := hv
  refine run_of (F := 2000) (Q := fun r => OneW H r z) (fun n hn => ?_) n hn
  rw [body_runS Try.func83 rfl (ok_fn (by rfl) Try.func83 rfl) (Nat.le_of_ble_eq_true rfl) (D := D0) (by kernel_rfl)]
  have oldb := Old.app H [.cells H.length true [.bool false, .slice none 0 0]]
  have wfb := hw.app (Nat.le_refl H.length) (o := true) (cs := [.bool false, .slice none 0 0])
  have bx := BxM.made (B := H.length) (H := H) (Nat.le_refl _) [.bool false, .slice none 0 0]
  have key1 := fun (A : Fr) => read_loop1 (p := ptrA H.length 0) hr oldb wfb hl hb n n Try.f83.ntmps (by omega) (a := A) (k := n) (by omega)
  have key2 := fun (A : Fr) {B0 : Nat} {H0 H1 : Heap} {vo : Value} {out : List Int} (hol : out.length ≤ 902) (hB : B0 ≤ H1.length) (ho : O B0 H1 vo (ints out)) (hd : Dg out) (old0 : Old B0 H0 H1) (hw : WF H1) => read_loop2 (p := ptrA H.length 0) hB ho hd old0 hw (by omega) (evB Try.prog noC n) n Try.f83.ntmps (a := A) (k := n) (by omega)
  rw [show readA_ = atC [1, 1, 1, 0, 1, 0, 0] ((Try.f83.body).getD .skip) from rfl] at key1
  rw [show readB = atC [1, 1, 1, 1, 1, 1, 0, 1, 0, 0] ((Try.f83.body).getD .skip) from rfl] at key2
  simp only [Try.f83, Option.getD_some, atC] at key1 key2
  simp (disch := omega) only [Try.f83, es_seq, es_region, es_cond, es_block, es_loop, es_skip, es_ret, ops_nil, ops_cons, st_move, st_assign, st_fun, sy_len uL, sy_bin, sy_append eL pI, sy_build1 eL oI, bindO_some, bindF_some, bindX_normal, ev_tmp, ev_const, ev_func, putA, upd_at, ↓reduceIte, Nat.reduceEqDiff, List.map_cons, List.map_nil, ↓bindO_some, ↓bindF_some, ↓bindX_normal, scal_vi, sy_storeN zW, sy_alloc iW scal_agg, sy_build]
  generalize hA : upd _ 5 _ = A
  obtain ⟨x, a1, H1, e1, hx, g2, vo, out, c, h3, h4, o1, old1, wf1, hol, hd, hval, hc⟩ := key1 A (by subst hA; rfl) (by subst hA; rfl) (by subst hA; rfl) (by subst hA; rfl) (by subst hA; rfl)
  subst hx
  rw [e1]
  clear key1 e1
  have bx1 := bx.mono old1
  rcases hc with rfl | rfl
  · rw [Int.mul_zero, Int.add_zero] at hval
    obtain ⟨v3, s3, r3⟩ := trimmed_run o1.RO (by omega) n (by omega)
    obtain ⟨H4, s4, bx4, old4, wf4, keep4⟩ := bx1.store wf1 (vs := [.bool false, v3]) rfl
    have s5 : loadN 2 (ptrA H.length 0) H4 = some (.agg #[.bool false, v3]) := bx4.loadAll
    have s4 : storeN 2 (ptrA H.length 0) (.agg #[.bool false, v3]) H1 = some H4 := s4
    have hz0 : 0 ≤ z := by have := hd.val; omega
    simp (disch := omega) only [binS_eql, bindO_some, bindF_some, bindX_normal, bindX_ret, blkX_exit, condX_true, upd_at, Option.map_some, ↓reduceIte, Nat.reduceEqDiff, decide_true, ↓bindO_some, ↓bindF_some, ↓bindX_normal, ↓bindX_ret, ↓condX_true, fin_r, res_nil, pack_1, res_cell aW zW, g2, h3, h4, s3, bW1 v3 r3.R.scal, s4, s5]
    have hzp : decide (z < 0) = false := by simp; omega
    refine ⟨_, _, rfl, ⟨v3, by rw [hzp], ?_⟩, (oldb.trans (old1.mono oldb.1)).trans old4, wf4⟩
    rw [nf_natAbs_pos hz0, ← nf_of_digs hd (hval.trans hz)]
    exact (r3.kept keep4).below oldb.1
  · have hneg := hd.val
    have hz1 : ¬ (-1 : Int) = 0 := by omega
    have hrl := o1.R.lenI
    simp (disch := omega) only [binS_eql, bindO_some, bindF_some, bindX_normal, blkX_exit, condX_false, upd_at, Option.map_some, ↓reduceIte, Nat.reduceEqDiff, decide_false, ↓bindO_some, ↓bindF_some, ↓bindX_normal, ↓condX_false, h3, h4, hz1, hrl]
    generalize hA : upd _ 60 _ = A
    obtain ⟨x, a2, H2, e2, hx, g2', g3, sz, b, h10, o2, old2, wf2, hsl, hds, hvs, hb', hlen2⟩ := key2 A (H0 := H ++ [.cells H.length true [.bool false, .slice none 0 0]]) (by omega) old1.1 o1 hd old1 wf1 (by subst hA; exact g2) (by subst hA; exact h3) (by subst hA; rfl) (by subst hA; rfl) (by subst hA; rfl) (by subst hA; rfl)
    subst hx
    rw [e2]
    clear key2 e2
    have bx2 := bx.mono old2
    have fin : ∀ (H3 : Heap) (v3 : Value) (l3 : List Int), RO (H ++ [Blk.cells H.length true [.bool false, .slice none 0 0]]).length H3 v3 (ints l3) → WF H3 → Old (H ++ [Blk.cells H.length true [.bool false, .slice none 0 0]]).length H2 H3 → Dg l3 → l3.length ≤ 1000 → val l3 = -z → ∃ v4 H4, evB Try.prog noC n (.func (.func 114) #[] #[]) [v3] H3 = some (v4, H3) ∧ Abs.scal v4 = some [v4] ∧ storeN 2 (ptrA H.length 0) (.agg #[.bool true, v4]) H3 = some H4 ∧ loadN 2 (ptrA H.length 0) H4 = some (.agg #[.bool true, v4]) ∧ RO H.length H4 v4 (ints (nf z.natAbs)) ∧ Old H.length H H4 ∧ WF H4 := by
      intro H3 v3 l3 r3 wf3 old3 hd3 hl3 hv3
      obtain ⟨v4, s4, r4⟩ := trimmed_run r3 hl3 n (by omega)
      obtain ⟨H4, s5, bx5, old5, wf5, keep5⟩ := (bx2.mono old3).store wf3 (vs := [.bool true, v4]) rfl
      have s6 := bx5.loadAll
      refine ⟨v4, H4, s4, r4.R.scal, s5, s6, ?_, ((oldb.trans (old2.mono oldb.1)).trans (old3.mono oldb.1)).trans old5, wf5⟩
      have hv := hd3.val
      rw [show ((z.natAbs : Nat) : Int) = -z from by omega, ← nf_of_digs hd3 hv3]
      exact (r4.kept keep5).below oldb.1
    have hzneg : decide (z < 0) = true := by simp; omega
    rcases hb' with rfl | rfl
    · obtain ⟨v5, H5, s5, o5, old5, wf5⟩ := o2.pushI wf2 (Nat.le_trans old1.1 hlen2) (by unfold maxA; omega) 1
      obtain ⟨v4, H4, s4, sc4, s6, s7, r4, old4, wf4⟩ := fin H5 v5 _ o5.RO wf5 old5 (hds.app (Dg.one (by omega) (by unfold B; omega))) (by rw [List.length_append, List.length_singleton]; omega) (by rw [val_snoc, hvs, hsl]; omega)
      simp (disch := omega) only [binS_eql, bindO_some, bindF_some, bindX_normal, blkX_exit, condX_true, upd_at, Option.map_some, ↓reduceIte, Nat.reduceEqDiff, decide_true, ↓bindO_some, ↓bindF_some, ↓bindX_normal, ↓condX_true, fin_r, res_nil, pack_1, res_cell aW zW, g2', g3, h10, s5, s4, bW2 true v4 sc4, s6, s7]
      exact ⟨_, _, rfl, ⟨v4, by rw [hzneg], r4⟩, old4, wf4⟩
    · obtain ⟨v4, H4, s4, sc4, s6, s7, r4, old4, wf4⟩ := fin H2 vo _ o2.RO wf2 (Old.refl _ _) hds (by omega) (by rw [hvs]; omega)
      have hone : ¬ (1 : Int) = 0 := by omega
      simp (disch := omega) only [binS_eql, bindO_some, bindF_some, bindX_normal, blkX_exit, condX_false, upd_at, Option.map_some, ↓reduceIte, Nat.reduceEqDiff, decide_false, ↓bindO_some, ↓bindF_some, ↓bindX_normal, ↓condX_false, fin_r, res_nil, pack_1, res_cell aW zW, g2', g3, h10, hone, s4, bW2 true v4 sc4, s6, s7]
      exact ⟨_, _, rfl, ⟨v4, by rw [hzneg], r4⟩, old4, wf4⟩
end Go.Proofs.Ytmmgdgmjkhcfaaa
namespace Go.Proofs.Ytmmgdgmjkhcfaaa
open Go Go.Abs Go.Num
set_option maxRecDepth 10000
attribute [local congr] bindO_congr bindF_congr bindX_congr condX_congr iteB_congr binS_congr pickS_congr eqB_congr nilS_congr
theorem clone_run {H : Heap} {v : Value} {l : List Int} (hw : WF H) (hv : R H v (ints l)) (hl : l.length ≤ 10000) (n : Nat) (hn : 10 ≤ n) : OneL H (evB Try.prog noC n (.func (.func 61) #[] #[]) [v] H) l := by
  refine run_of (F := 9) (Q := fun x => OneL H x l) (fun n hn => ?_) n hn
  rw [body_runS Try.func61 rfl (ok_fn (by rfl) Try.func61 rfl) (Nat.le_of_ble_eq_true rfl) (D := D0) (by kernel_rfl)]
  have old1 := Old.app H [.cells H.length true []]
  obtain ⟨v2, H2, s2, o2, old2, wf2⟩ := (O.empty (H := H) (Nat.le_refl H.length)).app (hw.app (Nat.le_refl _)) (by simp) (hv.mono old1) (by rw [ints_len]; simp [maxA]; omega)
  have fin : nilS v H (rest none) = some (.bool false, H) → OneL H (some (v2, H2)) l := fun _ => ⟨_, _, rfl, o2, old1.trans old2, wf2⟩
  rcases hv with ⟨rfl, hl0⟩ | ⟨rfl, hl0⟩ | ⟨b, o, f, w, cs, rfl, h⟩
  · have : l = [] := by simpa [ints] using hl0
    subst this
    have hn : ∀ r, nilS (.slice none 0 0) H r = some (.bool true, H) := fun _ => rfl
    simp only [Try.f61, es_seq, es_region, es_cond, es_ret, ops_nil, ops_cons, st_move, st_assign, ↓sy_nil uL, hn, bindO_some, bindF_some, bindX_normal, bindX_ret, condX_true, ev_tmp, ev_const, putA, upd_at, frOf_0, ↓reduceIte, Nat.reduceEqDiff, fin_r, res_nil, res_tmp, pack_1, scal_nil, Option.map_some]
    exact ⟨_, _, rfl, O.nil _ _, Old.refl _ _, hw⟩
  · have hn : ∀ r, nilS lostSlice H r = some (.bool false, H) := fun _ => rfl
    simp only [Try.f61, es_seq, es_region, es_cond, es_ret, es_skip, ops_nil, ops_cons, st_move, st_assign, ↓sy_nil uL, hn, bindO_some, bindF_some, bindX_normal, condX_false, ev_tmp, ev_const, putA, upd_at, frOf_0, ↓reduceIte, Nat.reduceEqDiff, sy_build0 eL nI, sy_append eL pI, s2, o2.R.scal, fin_r, res_nil, res_tmp, pack_1, Option.map_some]
    exact ⟨_, _, rfl, o2, old1.trans old2, wf2⟩
  · have hn : ∀ r, nilS (sliceA b o (ints l).length 1) H r = some (.bool false, H) := fun _ => rfl
    simp only [Try.f61, es_seq, es_region, es_cond, es_ret, es_skip, ops_nil, ops_cons, st_move, st_assign, ↓sy_nil uL, hn, bindO_some, bindF_some, bindX_normal, condX_false, ev_tmp, ev_const, putA, upd_at, frOf_0, ↓reduceIte, Nat.reduceEqDiff, sy_build0 eL nI, sy_append eL pI, s2, o2.R.scal, fin_r, res_nil, res_tmp, pack_1, Option.map_some]
    exact ⟨_, _, rfl, o2, old1.trans old2, wf2⟩
noncomputable def listA : Code := atC [1, 1, 0, 1, 0, 1, 0, 0] ((Try.f86.body).getD .skip)
theorem list_loop {B0 : Nat} {H0 : Heap} {v : Value} {l : List Int} (call : CallF) (m nt : Nat) {a : Fr} {H : Heap} {k : Nat} (hk : l.length < k) (hl : l.length ≤ 1000) (hb : ∀ x ∈ l, -4000000000000000000 ≤ x ∧ x ≤ 4000000000000000000)
    (ho : O B0 H v (ints l)) (old : Old B0 H0 H) (hw : WF H) (h3 : a 3 = v) (h11 : a 11 = vi l.length) (h12 : a 12 = vi (0 : Nat)) :
    ∃ x a' H', loopN (evS Try.prog call m nt none listA) k a H = some (x, a', H') ∧ x = .exit 0 ∧ O B0 H' v (ints (l.map (- ·))) ∧ Old B0 H0 H' ∧ WF H' ∧ a' 3 = v := by
  refine loop_up l.length (fun i a H' => a 3 = v ∧ a 11 = vi l.length ∧ a 12 = vi i ∧ O B0 H' v (ints (negI l i)) ∧ Old B0 H0 H' ∧ WF H') _ ?_ ?_ hk ⟨h3, h11, h12, by rw [negI_0]; exact ho, old, hw⟩
  · intro i a H' hi ⟨h3, h11, h12, ho, old, hw⟩
    left
    rw [show listA = atC [1, 1, 0, 1, 0, 1, 0, 0] ((Try.f86.body).getD .skip) from rfl]
    have hlen := negI_len l i
    have hx := hb _ (getD_mem hi)
    have e1 := negI_get hi
    have e2 : IntKind.i64.wrap (0 - l.getD i 0) = - l.getD i 0 := by rw [wr64 (by omega) (by omega)]; omega
    obtain ⟨H2, es, o2, old2, wf2⟩ := ho.setI hw (i := i) (by omega) (- l.getD i 0)
    have e3 : IntKind.i64.wrap ((i : Int) + 1) = ((i + 1 : Nat) : Int) := by rw [wr64 (by omega) (by omega)]; omega
    have hr := ho.R
    have hlt : (i : Int) < l.length := by omega
    simp (disch := omega) only [Try.f86, Option.getD_some, atC, es_seq, es_region, es_cond, es_block, es_skip, ops_nil, ops_cons, st_move, st_assign, sy_addr eL, sy_load aI, sy_store zI, sy_bin, sy_neg, binS_lss, binS_add, bindO_some, bindF_some, bindX_normal, blkX_normal, condX_true, ev_tmp, ev_const, putA, upd_at, Option.map_some, ↓reduceIte, Nat.reduceEqDiff, Int.toNat_natCast, decide_true, ↓bindO_some, ↓bindF_some, ↓bindX_normal, ↓condX_true, h3, h11, h12, hlt, hr.addrI, hr.loadI, e1, e2, es, e3]
    exact ⟨_, _, rfl, by simp only [upd_get, ↓reduceIte, Nat.reduceEqDiff, h3], by simp only [upd_get, ↓reduceIte, Nat.reduceEqDiff, h11], by simp only [upd_get, ↓reduceIte], by rw [← negI_set hi]; exact o2, old.trans old2, wf2⟩
  · intro a H' ⟨h3, h11, h12, ho, old, hw⟩
    rw [show listA = atC [1, 1, 0, 1, 0, 1, 0, 0] ((Try.f86.body).getD .skip) from rfl]
    simp (disch := omega) only [Try.f86, Option.getD_some, atC, es_seq, es_region, es_cond, es_exit, ops_nil, ops_cons, sy_bin, binS_lss, bindO_some, bindF_some, bindX_normal, bindX_exit, condX_false, ev_tmp, putA, upd_at, ↓reduceIte, decide_false, ↓bindO_some, ↓bindF_some, ↓bindX_normal, ↓bindX_exit, ↓condX_false, h11, h12, Int.lt_irrefl]
    exact ⟨_, _, _, rfl, by simp, rfl, by rw [← negI_all]; exact ho, old, hw, by simp only [upd_get, ↓reduceIte, Nat.reduceEqDiff, h3]⟩
theorem list_run {H : Heap} {w : Value} {z : Int} (hw : WF H) {C : Nat} (hv : Wh C H w z) (hl : (nf z.natAbs).length ≤ 900) (n : Nat) (hn : 1010 ≤ n) :
    OneL H (evB Try.prog noC n (.func (.func 86) #[] #[]) [w] H) (nf z) := by
  obtain ⟨v, rfl, hr⟩ := hv
  have hr := hr.R
  generalize hnb : decide (z < 0) = nb
  refine run_of (F := 1009) (Q := fun r => OneL H r (nf z)) (fun n hn => ?_) n hn
  rw [body_runS Try.func86 rfl (ok_fn (by rfl) Try.func86 rfl) (Nat.le_of_ble_eq_true rfl) (D := D0) (by kernel_rfl)]
  have oldb := Old.app H [.cells H.length true [.bool nb, v]]
  have wfb := hw.app (Nat.le_refl H.length) (o := true) (cs := [.bool nb, v])
  have bb := BxM.made (B := H.length) (H := H) (Nat.le_refl _) [.bool nb, v]
  obtain ⟨v1, H1, s1, o1, old1, wf1⟩ := clone_run wfb (hr.mono oldb) (by omega) n (by omega)
  have f0 := bb.faddr 0
  have f1 := bb.faddr 1
  have l1 : loadS (bx (ptrA H.length 0) 1) (H ++ [.cells H.length true [.bool nb, v]]) = some v := bb.load 1
  have l0 : loadS (bx (ptrA H.length 0) 0) H1 = some (.bool nb) := (bb.mono old1).load 0
  have old01 := oldb.trans (old1.mono oldb.1)
  cases nb with
  | true =>
    have hz : z < 0 := by simpa using hnb
    have hlen := o1.R.lenI
    have key := fun (A : Fr) => list_loop (evB Try.prog noC n) n Try.f86.ntmps (a := A) (k := n) (by omega) (by omega) (nfb _) o1 old1 wf1
    rw [show listA = atC [1, 1, 0, 1, 0, 1, 0, 0] ((Try.f86.body).getD .skip) from rfl] at key
    simp only [Try.f86, Option.getD_some, atC] at key
    simp (disch := omega) only [Try.f86, es_seq, es_region, es_cond, es_block, es_loop, es_skip, es_ret, ops_nil, ops_cons, st_move, st_assign, st_fun, sy_len uL, sy_bin, bindO_some, bindF_some, bindX_normal, condX_true, ev_tmp, ev_const, ev_func, putA, upd_at, Option.map_some, ↓reduceIte, Nat.reduceEqDiff, frOf_0, List.map_cons, List.map_nil, ↓bindO_some, ↓bindF_some, ↓bindX_normal, ↓condX_true, sy_load aL, sy_load aB, sy_faddr fW0, sy_faddr fW1, sy_box, scal_agg, f0, f1, l1, s1, l0, hlen]
    generalize hA : upd _ 12 _ = A
    obtain ⟨r, a', H', e, hr', o2, old2, wf2, h3⟩ := key A (by subst hA; rfl) (by subst hA; rfl) (by subst hA; rfl)
    subst hr'
    rw [e]
    have hlen2 := o2.R.lenI
    rw [List.length_map] at hlen2
    have hne : (nf z.natAbs).length ≠ 0 := fun h => by have := nf_nil.1 (List.eq_nil_of_length_eq_zero h); omega
    have c1 : ¬ ((nf z.natAbs).length : Int) = 0 := by omega
    simp (disch := omega) only [binS_eql, bindO_some, bindF_some, bindX_normal, blkX_exit, condX_false, upd_at, Option.map_some, ↓reduceIte, Nat.reduceEqDiff, decide_false, ↓bindO_some, ↓bindF_some, ↓bindX_normal, ↓condX_false, fin_r, res_nil, res_tmp, pack_1, h3, hlen2, c1, o2.R.scal]
    refine ⟨_, _, rfl, ?_, oldb.trans (old2.mono oldb.1), wf2⟩
    rw [show nf z = (nf z.natAbs).map (- ·) from by rw [nf_neg']; congr 1; omega]
    exact o2.below oldb.1
  | false =>
    have hz : ¬ z < 0 := by simpa using hnb
    have hlen := o1.R.lenI
    rw [nf_natAbs_pos (by omega)] at o1 hlen hl
    by_cases hne : (nf z).length = 0
    · have c1 : (((nf z).length : Nat) : Int) = 0 := by omega
      have hnil := List.eq_nil_of_length_eq_zero hne
      simp (disch := omega) only [Try.f86, es_seq, es_region, es_cond, es_skip, es_ret, ops_nil, ops_cons, st_move, st_assign, st_fun, sy_len uL, sy_bin, binS_eql, bindO_some, bindF_some, bindX_normal, bindX_ret, condX_true, condX_false, ev_tmp, ev_const, ev_func, putA, upd_at, Option.map_some, ↓reduceIte, Nat.reduceEqDiff, frOf_0, List.map_cons, List.map_nil, decide_true, ↓bindO_some, ↓bindF_some, ↓bindX_normal, ↓bindX_ret, ↓condX_true, ↓condX_false, fin_r, res_nil, res_tmp, pack_1, scal_nil, sy_load aL, sy_load aB, sy_faddr fW0, sy_faddr fW1, sy_box, scal_agg, f0, f1, l1, s1, l0, hlen, c1]
      rw [hnil]
      exact ⟨_, _, rfl, O.nil _ _, old01, wf1⟩
    · have c1 : ¬ (((nf z).length : Nat) : Int) = 0 := by omega
      simp (disch := omega) only [Try.f86, es_seq, es_region, es_cond, es_skip, es_ret, ops_nil, ops_cons, st_move, st_assign, st_fun, sy_len uL, sy_bin, binS_eql, bindO_some, bindF_some, bindX_normal, condX_false, ev_tmp, ev_const, ev_func, putA, upd_at, Option.map_some, ↓reduceIte, Nat.reduceEqDiff, frOf_0, List.map_cons, List.map_nil, decide_false, ↓bindO_some, ↓bindF_some, ↓bindX_normal, ↓condX_false, fin_r, res_nil, res_tmp, pack_1, sy_load aL, sy_load aB, sy_faddr fW0, sy_faddr fW1, sy_box, scal_agg, f0, f1, l1, s1, l0, hlen, c1, o1.R.scal]
      exact ⟨_, _, rfl, o1.below oldb.1, old01, wf1⟩
theorem small_run {H : Heap} {z : Int} (hw : WF H) (h1 : -4000000000000000000 ≤ z) (h2 : z ≤ 4000000000000000000) (n : Nat) (hn : 2002 ≤ n) :
    OneW H (evB Try.prog noC n (.func (.func 110) #[] #[]) [vi z] H) z := by
  refine run_of (F := 2001) (Q := fun r => OneW H r z) (fun n hn => ?_) n hn
  rw [body_runS Try.func110 rfl (ok_fn (by rfl) Try.func110 rfl) (Nat.le_of_ble_eq_true rfl) (D := D0) (by kernel_rfl)]
  have oldb := Old.app H [.cells H.length true [.bool false, .slice none 0 0]]
  have wfb := hw.app (Nat.le_refl H.length) (o := true) (cs := [.bool false, .slice none 0 0])
  have bb := BxM.made (B := H.length) (H := H) (Nat.le_refl _) [.bool false, .slice none 0 0]
  have oldc := Old.app (H ++ [.cells H.length true [.bool false, .slice none 0 0]]) [.cells (H ++ [Blk.cells H.length true [.bool false, .slice none 0 0]]).length true [vi z]]
  obtain ⟨w, H2, s2, ⟨v, rfl, hv⟩, old2, wf2⟩ := read_run (wfb.app (Nat.le_refl _)) (.one (R.push (f := (H ++ [Blk.cells H.length true [.bool false, .slice none 0 0]]).length) (c := vi z)) h1 h2) n (by omega)
  have old12 := oldc.trans (old2.mono oldc.1)
  obtain ⟨H3, s3, bb3, old3, wf3, keep3⟩ := (bb.mono old12).store wf2 (vs := [.bool (decide (z < 0)), v]) rfl
  have s3 : storeN 2 (ptrA H.length 0) (.agg #[.bool (decide (z < 0)), v]) H2 = some H3 := s3
  have s4 : loadN 2 (ptrA H.length 0) H3 = some (.agg #[.bool (decide (z < 0)), v]) := bb3.loadAll
  simp (disch := omega) only [Try.f110, es_seq, es_region, es_ret, ops_nil, ops_cons, st_move, st_fun, sy_build1 eL oI, bindO_some, bindF_some, bindX_normal, ev_tmp, ev_func, putA, upd_at, Option.map_some, ↓reduceIte, Nat.reduceEqDiff, frOf_0, List.map_cons, List.map_nil, ↓bindO_some, ↓bindF_some, ↓bindX_normal, fin_r, res_nil, pack_1, scal_vi, sy_storeN zW, sy_alloc iW scal_agg, res_cell aW zW, s2, s3, s4]
  exact ⟨_, _, rfl, ⟨v, rfl, ((hv.below oldc.1).kept keep3).below oldb.1⟩, (oldb.trans (old12.mono oldb.1)).trans old3, wf3⟩
end Go.Proofs.Ytmmgdgmjkhcfaaa
namespace Go.Proofs.Ytmmgdgmjkhcfaaa
open Go Go.Abs Go.Num
set_option maxRecDepth 10000
attribute [local congr] bindO_congr bindF_congr bindX_congr condX_congr iteB_congr binS_congr pickS_congr eqB_congr nilS_congr clsW_congr maxS_congr minS_congr
theorem zIn : ∀ n : Nat, zeros Try.prog 3 1 n = some (ints (List.replicate n 0)) := by
  have hr : ∀ n : Nat, repl n [vi 0] = ints (List.replicate n 0) := by
    intro n
    induction n with
    | zero => rfl
    | succ n ih => rw [repl, ih, List.replicate_succ]; rfl
  have h1 : ∀ n : Nat, zeros Try.prog 3 1 n = some (repl n [vi 0]) := by
    intro n
    have hz : zeroT Try.prog 3 = some (vi 0) := by kernel_rfl
    unfold zeros
    rw [hz]
    rfl
  intro n
  rw [h1, hr]
theorem uHH : Try.prog.underlying 60 = some (.slice 66) := by kernel_rfl
theorem eHH : sliceElem Try.prog 60 = some (66, 2) := by kernel_rfl
theorem oHH : zeros Try.prog 66 2 1 = some [.slice none 0 0, vi 0] := by kernel_rfl
theorem pHH : ((bytesT Try.prog 66).isSome && decide ((bytesT Try.prog 66).getD 0 ≤ maxA) && (zeros Try.prog 66 2 1).isSome) = true := by kernel_rfl
theorem iHk : zeroT Try.prog 66 = some (.agg #[.slice none 0 0, vi 0]) := by kernel_rfl
theorem uHk : Try.prog.underlying 66 = some (.struct (sfs 66)) := by kernel_rfl
theorem zHk : sizesOf Try.prog (sfs 66).toList = some [(0, 1), (1, 1)] := by kernel_rfl
theorem bHk (v : Value) (z : Int) (h : scal v = some [v]) : buildA Try.prog 66 [(0, v), (1, vi z)] = some (.agg #[v, vi z]) := by
  have hz : scal (vi z) = some [vi z] := rfl
  simp only [buildA, iHk, uHk, zHk, fillL, h, hz]
  rfl
theorem sHk {v : Value} {z : Int} : scal (.agg #[v, vi z]) = some [v, vi z] := (rfl)
noncomputable def ixA : Code := atC [1, 0, 1, 0, 0] ((Try.f132.body).getD .skip)
theorem index_run {H : Heap} {v : Value} {l : List Int} (hv : R H v (ints l)) (hl : l.length ≤ 1000) (x : Int) (n : Nat) (hn : 1010 ≤ n) : ∃ r, evB Try.prog noC n (.func (.func 132) #[] #[]) [v, vi x] H = some (vi r, H) ∧ (0 ≤ r ↔ x ∈ l) := by
  refine run_of (F := 1009) (Q := fun q => ∃ r, q = some (vi r, H) ∧ (0 ≤ r ↔ x ∈ l)) (fun n hn => ?_) n hn
  rw [body_runS Try.func132 rfl (ok_fn (by rfl) Try.func132 rfl) (Nat.le_of_ble_eq_true rfl) (D := D0) (by kernel_rfl)]
  have key : ∀ A : Fr, A 0 = v → A 1 = vi x → A 7 = vi l.length → A 8 = vi (0 : Nat) → ∃ r a' H', loopN (evS Try.prog (evB Try.prog noC n) n Try.f132.ntmps none ixA) n A H = some (r, a', H') ∧ H' = H ∧ ((r = .exit 0 ∧ x ∉ l) ∨ (r = .ret ∧ x ∈ l ∧ ∃ i : Nat, a' 4 = vi i)) := by
    intro A h0 h1 h7 h8
    refine loop_up l.length (fun i a H' => H' = H ∧ a 0 = v ∧ a 1 = vi x ∧ a 7 = vi l.length ∧ a 8 = vi i ∧ ∀ t, t < i → x ≠ l.getD t 0) _ ?_ ?_ (by omega) ⟨rfl, h0, h1, h7, h8, fun t ht => by omega⟩
    · intro i a H' hi ⟨hH, h0, h1, h7, h8, ht⟩
      subst hH
      rw [show ixA = atC [1, 0, 1, 0, 0] ((Try.f132.body).getD .skip) from rfl]
      have hlt : (i : Int) < l.length := by omega
      have e1 : IntKind.i64.wrap ((i : Int) + 1) = ((i + 1 : Nat) : Int) := by rw [wr64 (by omega) (by omega)]; omega
      by_cases hx : x = l.getD i 0
      · right
        have c1 : decide (x = l.getD i 0) = true := decide_eq_true hx
        simp (disch := omega) only [Try.f132, Option.getD_some, atC, es_seq, es_region, es_cond, es_block, es_skip, es_ret, ops_nil, ops_cons, st_move, st_assign, sy_addr eL, sy_load aI, sy_bin, binS_lss, binS_eql, bindO_some, bindF_some, bindX_normal, bindX_ret, blkX_ret, condX_true, ev_tmp, putA, upd_at, Option.map_some, ↓reduceIte, Nat.reduceEqDiff, Int.toNat_natCast, decide_true, ↓bindO_some, ↓bindF_some, ↓bindX_normal, ↓bindX_ret, ↓condX_true, h0, h1, h7, h8, hlt, hv.addrI, hv.loadI, c1]
        exact ⟨_, _, _, rfl, by simp, rfl, .inr ⟨rfl, by rw [hx]; exact getD_mem hi, i, rfl⟩⟩
      · left
        have c1 : decide (x = l.getD i 0) = false := decide_eq_false hx
        simp (disch := omega) only [Try.f132, Option.getD_some, atC, es_seq, es_region, es_cond, es_block, es_skip, ops_nil, ops_cons, st_move, st_assign, sy_addr eL, sy_load aI, sy_bin, binS_lss, binS_eql, binS_add, bindO_some, bindF_some, bindX_normal, blkX_normal, condX_true, condX_false, ev_tmp, ev_const, putA, upd_at, Option.map_some, ↓reduceIte, Nat.reduceEqDiff, Int.toNat_natCast, decide_true, ↓bindO_some, ↓bindF_some, ↓bindX_normal, ↓condX_true, ↓condX_false, h0, h1, h7, h8, hlt, hv.addrI, hv.loadI, c1, e1]
        refine ⟨_, _, rfl, rfl, h0, h1, h7, rfl, fun t h => ?_⟩
        by_cases e : t = i
        · subst e; exact hx
        · exact ht t (by omega)
    · intro a H' ⟨hH, h0, h1, h7, h8, ht⟩
      subst hH
      rw [show ixA = atC [1, 0, 1, 0, 0] ((Try.f132.body).getD .skip) from rfl]
      simp (disch := omega) only [Try.f132, Option.getD_some, atC, es_seq, es_region, es_cond, es_exit, ops_nil, ops_cons, sy_bin, binS_lss, bindO_some, bindF_some, bindX_normal, bindX_exit, condX_false, ev_tmp, putA, upd_at, ↓reduceIte, decide_false, ↓bindO_some, ↓bindF_some, ↓bindX_normal, ↓bindX_exit, ↓condX_false, h7, h8, Int.lt_irrefl]
      refine ⟨_, _, _, rfl, by simp, rfl, .inl ⟨rfl, fun hm => ?_⟩⟩
      obtain ⟨t, ht', e⟩ := List.getElem_of_mem hm
      have := ht t ht'
      rw [List.getD_eq_getElem?_getD, List.getElem?_eq_getElem ht'] at this
      exact this (by simp only [Option.getD_some]; exact e.symm)
  rw [show ixA = atC [1, 0, 1, 0, 0] ((Try.f132.body).getD .skip) from rfl] at key
  simp only [Try.f132, Option.getD_some, atC] at key
  simp (disch := omega) only [Try.f132, es_seq, es_region, es_block, es_loop, es_ret, ops_nil, ops_cons, st_move, st_assign, sy_len uL, bindO_some, bindF_some, bindX_normal, ev_tmp, ev_const, putA, upd_at, Option.map_some, ↓reduceIte, Nat.reduceEqDiff, frOf_0, ↓bindO_some, ↓bindF_some, ↓bindX_normal, hv.lenI]
  generalize hA : upd _ 8 _ = A
  obtain ⟨r, a', H', e, hH, h⟩ := key A (by subst hA; rfl) (by subst hA; rfl) (by subst hA; rfl) (by subst hA; rfl)
  subst hH
  rw [e]
  rcases h with ⟨rfl, hm⟩ | ⟨rfl, hm, i, h4⟩
  · simp (disch := omega) only [bindX_normal, blkX_exit, upd_at, Option.map_some, ↓reduceIte, ↓bindX_normal, fin_r, res_nil, res_tmp, pack_1, scal_vi]
    exact ⟨_, rfl, ⟨fun h => by omega, fun h => absurd h hm⟩⟩
  · simp (disch := omega) only [bindX_ret, blkX_ret, Option.map_some, ↓bindX_ret, fin_r, res_nil, res_tmp, pack_1, scal_vi, h4]
    exact ⟨_, rfl, ⟨fun _ => hm, fun _ => by omega⟩⟩
theorem contains_run {H : Heap} {v : Value} {l : List Int} (hv : R H v (ints l)) (hl : l.length ≤ 1000) (x : Int) (n : Nat) (hn : 1011 ≤ n) : evB Try.prog noC n (.func (.func 119) #[] #[]) [v, vi x] H = some (.bool (decide (x ∈ l)), H) := by
  refine run_of (F := 1010) (Q := fun q => q = some (.bool (decide (x ∈ l)), H)) (fun n hn => ?_) n hn
  rw [body_runS Try.func119 rfl (ok_fn (by rfl) Try.func119 rfl) (Nat.le_of_ble_eq_true rfl) (D := D0) (by kernel_rfl)]
  obtain ⟨r, s1, hr⟩ := index_run hv hl x n hn
  have e : decide (0 ≤ r) = decide (x ∈ l) := decide_eq_decide.2 hr
  simp (disch := omega) only [Try.f119, es_seq, es_region, es_ret, ops_nil, ops_cons, st_move, st_assign, st_fun, sy_bin, binS_geq, bindO_some, bindF_some, bindX_normal, ev_tmp, ev_const, ev_func, putA, upd_at, Option.map_some, ↓reduceIte, Nat.reduceEqDiff, frOf_0, frOf_1, List.map_cons, List.map_nil, ↓bindO_some, ↓bindF_some, ↓bindX_normal, fin_r, res_nil, res_tmp, pack_1, scal_bool, s1, e]
def nx (l : List Int) (i j r : Nat) : Int := if i ≤ r ∧ r < j then bead l (r + 1) else bead l r
def nxL (l : List Int) (i j : Nat) : List Int := (List.range l.length).map (nx l i j)
def fz (l : List Int) (i J : Nat) (t : Int) (r : Nat) : Int := if r = J then t else nx l i J r
def fzL (l : List Int) (i J : Nat) (t : Int) : List Int := (List.range l.length).map (fz l i J t)
theorem map_range_set {n j : Nat} (f : Nat → Int) (x : Int) : ((List.range n).map f).set j x = (List.range n).map fun r => if r = j then x else f r := by
  apply List.ext_getElem
  · simp
  · intro r h1 h2
    rw [List.getElem_set, List.getElem_map, List.getElem_map, List.getElem_range]
    by_cases e : j = r
    · subst e; simp
    · rw [if_neg e, if_neg (fun e' => e e'.symm)]
theorem map_range_getD {n r : Nat} (f : Nat → Int) (h : r < n) : ((List.range n).map f).getD r 0 = f r := by
  rw [List.getD_eq_getElem?_getD, List.getElem?_map, List.getElem?_range h]; rfl
theorem nxL_0 (l : List Int) (i : Nat) : nxL l i i = beadsL l := by
  unfold nxL beadsL
  congr 1
  funext r
  unfold nx
  rw [if_neg (by omega)]
theorem nxL_set {l : List Int} {i j : Nat} (h : i ≤ j) : (nxL l i j).set j (bead l (j + 1)) = nxL l i (j + 1) := by
  unfold nxL
  rw [map_range_set]
  congr 1
  funext r
  unfold nx
  by_cases e : r = j
  · subst e; rw [if_pos rfl, if_pos (by omega)]
  · rw [if_neg e]
    by_cases c : i ≤ r ∧ r < j
    · rw [if_pos c, if_pos (by omega)]
    · rw [if_neg c, if_neg (by omega)]
theorem fzL_set {l : List Int} {i J : Nat} {t : Int} : (nxL l i J).set J t = fzL l i J t := by
  unfold nxL fzL
  rw [map_range_set]; rfl
theorem fz_pf {l : List Int} {i J r : Nat} {t : Int} (h : i ≤ J) : fz l i J t r - (l.length - 1 - r) = pf l i J t r := by
  unfold fz nx bead
  by_cases c1 : r = J
  · subst c1; rw [if_pos rfl, pf_at h]
  · rw [if_neg c1]
    by_cases c2 : r < i
    · rw [if_neg (by omega), pf_lo c2]; omega
    · by_cases c3 : r < J
      · rw [if_pos (by omega), pf_mid (by omega) c3]; omega
      · rw [if_neg (by omega), pf_hi h (by omega)]; omega
theorem bead_bd {l : List Int} (hp : Part l) (r : Nat) (hr : r < l.length) : 1 ≤ bead l r ∧ bead l r ≤ 40 := by
  have := hp.getD hr
  have := hp.len
  unfold bead; omega
noncomputable def rmL1 : Code := atC [1, 1, 1, 0, 1, 0, 0] ((Try.f92.body).getD .skip)
theorem rims_l1 {H0 H : Heap} {v vb : Value} {l : List Int} (hp : Part l) (hv : R H0 v (ints l)) (old : Old H0.length H0 H) (hw : WF H) (ho : O H0.length H vb (ints (List.replicate l.length 0))) (call : CallF) (m nt : Nat) {a : Fr} {k : Nat} (hk : 30 ≤ k) {v1 : Value} (h1 : a 1 = v1) (h5 : a 5 = vi l.length) (h6 : a 6 = vb) (h23 : a 23 = v) (h24 : a 24 = vi l.length) (h25 : a 25 = vi (0 : Nat)) :
    ∃ r a' H', loopN (evS Try.prog call m nt none rmL1) k a H = some (r, a', H') ∧ r = .exit 0 ∧ a' 1 = v1 ∧ a' 5 = vi l.length ∧ a' 6 = vb ∧ Old H0.length H0 H' ∧ WF H' ∧ O H0.length H' vb (ints (beadsL l)) := by
  have hl := hp.len
  refine loop_up l.length (fun i a H' => a 1 = v1 ∧ a 5 = vi l.length ∧ a 6 = vb ∧ a 23 = v ∧ a 24 = vi l.length ∧ a 25 = vi i ∧ Old H0.length H0 H' ∧ WF H' ∧ O H0.length H' vb (ints ((List.range i).map (bead l) ++ List.replicate (l.length - i) 0))) _ ?_ ?_ (by omega) ⟨h1, h5, h6, h23, h24, h25, old, hw, ho⟩
  · intro i a H' hi ⟨h1, h5, h6, h23, h24, h25, old, hw, ho⟩
    left
    rw [show rmL1 = atC [1, 1, 1, 0, 1, 0, 0] ((Try.f92.body).getD .skip) from rfl]
    have hv' := hv.mono old
    have hlt : (i : Int) < l.length := by omega
    have hg := hp.getD hi
    have hlen : ((List.range i).map (bead l) ++ List.replicate (l.length - i) 0).length = l.length := by simp; omega
    have e1 : IntKind.i64.wrap ((i : Int) + 1) = ((i + 1 : Nat) : Int) := by rw [wr64 (by omega) (by omega)]; omega
    have e2 : IntKind.i64.wrap (l.getD i 0 + (l.length : Int)) = l.getD i 0 + (l.length : Int) := wr64 (by omega) (by omega)
    have e3 : IntKind.i64.wrap (l.getD i 0 + (l.length : Int) - 1) = l.getD i 0 + (l.length : Int) - 1 := wr64 (by omega) (by omega)
    have e4 : IntKind.i64.wrap (l.getD i 0 + (l.length : Int) - 1 - (i : Int)) = bead l i := wr64 (by omega) (by omega)
    have a1 : addrS 1 vb (vi (i : Int)) = some (pt vb i) := by have := ho.R.addrI (i := (i : Int)) (by omega) (by omega); rwa [Int.toNat_natCast] at this
    obtain ⟨H2, s2, o2, old2, wf2⟩ := ho.setI hw (i := i) (by omega) (bead l i)
    simp (disch := omega) only [Try.f92, Option.getD_some, atC, es_seq, es_region, es_cond, es_block, es_skip, ops_nil, ops_cons, st_move, st_assign, sy_addr eL, sy_load aI, sy_store zI, sy_bin, binS_lss, binS_add, binS_sub, bindO_some, bindF_some, bindX_normal, blkX_normal, condX_true, ev_tmp, ev_const, putA, upd_at, Option.map_some, ↓reduceIte, Nat.reduceEqDiff, Int.toNat_natCast, decide_true, ↓bindO_some, ↓bindF_some, ↓bindX_normal, ↓condX_true, h5, h6, h23, h24, h25, hlt, hv'.addrI, hv'.loadI, e2, e3, e4, a1, s2, e1]
    refine ⟨_, _, rfl, h1, h5, h6, h23, h24, rfl, old.trans old2, wf2, ?_⟩
    have e : ((List.range i).map (bead l) ++ List.replicate (l.length - i) 0).set i (bead l i) = (List.range (i + 1)).map (bead l) ++ List.replicate (l.length - (i + 1)) 0 := by
      rw [map_range_succ, List.set_append_right _ _ (by simp), List.length_map, List.length_range, Nat.sub_self, List.append_assoc]
      obtain ⟨q, hq⟩ : ∃ q, l.length - i = q + 1 := ⟨l.length - i - 1, by omega⟩
      rw [hq, show l.length - (i + 1) = q from by omega, List.replicate_succ]
      rfl
    rw [← e]; exact o2
  · intro a H' ⟨h1, h5, h6, h23, h24, h25, old, hw, ho⟩
    rw [show rmL1 = atC [1, 1, 1, 0, 1, 0, 0] ((Try.f92.body).getD .skip) from rfl]
    simp (disch := omega) only [Try.f92, Option.getD_some, atC, es_seq, es_region, es_cond, es_exit, ops_nil, ops_cons, sy_bin, binS_lss, bindO_some, bindF_some, bindX_normal, bindX_exit, condX_false, ev_tmp, putA, upd_at, ↓reduceIte, decide_false, ↓bindO_some, ↓bindF_some, ↓bindX_normal, ↓bindX_exit, ↓condX_false, h24, h25, Int.lt_irrefl]
    rw [Nat.sub_self, List.replicate_zero, List.append_nil] at ho
    exact ⟨_, _, _, rfl, by simp, rfl, h1, h5, h6, old, hw, ho⟩
end Go.Proofs.Ytmmgdgmjkhcfaaa
namespace Go.Proofs.Ytmmgdgmjkhcfaaa
open Go Go.Abs Go.Num
set_option maxRecDepth 10000
attribute [local congr] bindO_congr bindF_congr bindX_congr condX_congr iteB_congr binS_congr pickS_congr eqB_congr nilS_congr clsW_congr maxS_congr minS_congr
def Same (S : List Nat) (a b : Fr) : Prop := ∀ t ∈ S, b t = a t
theorem Same.refl (S : List Nat) (a : Fr) : Same S a a := fun _ _ => rfl
theorem Same.trans {S : List Nat} {a b c : Fr} (h : Same S a b) (h' : Same S b c) : Same S a c := fun t ht => (h' t ht).trans (h t ht)
theorem Same.upd {S : List Nat} {a b : Fr} (h : Same S a b) {t : Nat} (ht : t ∉ S) (v : Value) : Same S a (Abs.upd b t v) := fun s hs => by
  by_cases e : s = t
  · subst e; exact absurd hs ht
  · rw [upd_at, if_neg e]; exact h s hs
theorem Same.sub {S T : List Nat} {a b : Fr} (h : Same S a b) (hs : ∀ t ∈ T, t ∈ S) : Same T a b := fun t ht => h t (hs t ht)
noncomputable def rmL3 : Code := atC [1, 1, 1, 1, 1, 0, 1, 0, 0, 1, 1, 0, 0, 1, 1, 1, 1, 1, 0, 0, 0] ((Try.f92.body).getD .skip)
theorem rims_l3 {B0 : Nat} {H : Heap} {vn : Value} {l : List Int} (hp : Part l) {i : Nat} (hi : i < l.length) {t : Int} (hw : WF H) (ho : O B0 H vn (ints (nxL l i i))) (call : CallF) (m nt : Nat) {a0 : Fr} {k : Nat} (hk : 30 ≤ k) (h5 : a0 5 = vi l.length) (h12 : a0 12 = vi t) (h13 : a0 13 = vn) (h14 : a0 14 = vi i) :
    ∃ r a' H', loopN (evS Try.prog call m nt none rmL3) k a0 H = some (r, a', H') ∧ r = .exit 4 ∧ Same [1, 5, 6, 9, 10, 12, 13, 40, 41, 42] a0 a' ∧ a' 14 = vi (jmp l i t : Nat) ∧ Old B0 H H' ∧ WF H' ∧ O B0 H' vn (ints (nxL l i (jmp l i t))) := by
  have hl := hp.len
  obtain ⟨j1, j2, j3, j4⟩ := jmp_spec (t := t) hi
  generalize hJ : jmp l i t = J at *
  refine loop_wf (fun d a H' => ∃ j : Nat, d = J - j ∧ i ≤ j ∧ j ≤ J ∧ Same [1, 5, 6, 9, 10, 12, 13, 40, 41, 42] a0 a ∧ a 14 = vi j ∧ Old B0 H H' ∧ WF H' ∧ O B0 H' vn (ints (nxL l i j))) _ ?_ k (J - i) a0 H (by omega) ⟨i, rfl, Nat.le_refl _, j2, Same.refl _ _, h14, Old.refl _ _, hw, ho⟩
  intro d a H' ⟨j, hd, hij, hjJ, hs, h14, old, hw, ho⟩
  rw [show rmL3 = atC [1, 1, 1, 1, 1, 0, 1, 0, 0, 1, 1, 0, 0, 1, 1, 1, 1, 1, 0, 0, 0] ((Try.f92.body).getD .skip) from rfl]
  have g5 := (hs 5 (by decide)).trans h5
  have g12 := (hs 12 (by decide)).trans h12
  have g13 := (hs 13 (by decide)).trans h13
  have hlen : (nxL l i j).length = l.length := by unfold nxL; simp
  have e1 : IntKind.i64.wrap ((j : Int) + 1) = ((j + 1 : Nat) : Int) := by rw [wr64 (by omega) (by omega)]; omega
  by_cases hlt : j + 1 < l.length
  · have c1 : ((j + 1 : Nat) : Int) < (l.length : Int) := by omega
    have a1 : addrS 1 vn (vi ((j + 1 : Nat) : Int)) = some (pt vn (j + 1)) := by have := ho.R.addrI (i := ((j + 1 : Nat) : Int)) (by omega) (by omega); rwa [Int.toNat_natCast] at this
    have l1 : loadS (pt vn (j + 1)) H' = some (vi (bead l (j + 1))) := by
      rw [ho.R.loadI (by omega), show (nxL l i j).getD (j + 1) 0 = bead l (j + 1) from by
        unfold nxL; rw [map_range_getD _ hlt]; unfold nx; rw [if_neg (by omega)]]
    by_cases hb : t < bead l (j + 1)
    · left
      have hjJ2 : j < J := by
        apply Nat.lt_of_le_of_ne hjJ
        intro e
        have := j4 (by omega)
        rw [e] at hb
        omega
      have a2 : addrS 1 vn (vi (j : Int)) = some (pt vn j) := by have := ho.R.addrI (i := (j : Int)) (by omega) (by omega); rwa [Int.toNat_natCast] at this
      obtain ⟨H2, s2, o2, old2, wf2⟩ := ho.setI hw (i := j) (by omega) (bead l (j + 1))
      rw [nxL_set hij] at o2
      simp (disch := omega) only [Try.f92, Option.getD_some, atC, es_seq, es_region, es_cond, es_block, es_skip, ops_nil, ops_cons, ops_consG, st_move, st_assign, sy_pick, pickS_true, sy_addr eL, sy_load aI, sy_store zI, sy_bin, binS_lss, binS_gtr, binS_add, bindO_some, bindF_some, bindX_normal, blkX_normal, condX_true, iteB_true, ev_tmp, ev_const, putA, upd_at, Option.map_some, ↓reduceIte, Nat.reduceEqDiff, decide_true, yieldO_eq, yO, yV_bool, List.getElem?_cons_zero, List.getElem?_cons_succ, beq_self_eq_true, ↓bindO_some, ↓bindF_some, ↓bindX_normal, ↓condX_true, ↓iteB_true, g5, g12, g13, h14, e1, c1, a1, l1, hb, a2, s2]
      exact ⟨_, _, rfl, J - (j + 1), by omega, j + 1, rfl, by omega, by omega, (by
        repeat refine Same.upd ?_ (by decide) _
        exact hs), rfl, old.trans old2, wf2, o2⟩
    · right
      have hjJ2 : j = J := by
        apply Decidable.byContradiction
        intro e
        exact hb (j3 (j + 1) (by omega) (by omega))
      subst hjJ2
      simp (disch := omega) only [Try.f92, Option.getD_some, atC, es_seq, es_region, es_cond, es_exit, ops_nil, ops_cons, ops_consG, st_move, sy_pick, pickS_true, sy_addr eL, sy_load aI, sy_bin, binS_lss, binS_gtr, binS_add, bindO_some, bindF_some, bindX_normal, bindX_exit, condX_false, iteB_true, ev_tmp, ev_const, putA, upd_at, Option.map_some, ↓reduceIte, Nat.reduceEqDiff, decide_true, decide_false, yieldO_eq, yO, yV_bool, List.getElem?_cons_zero, List.getElem?_cons_succ, beq_self_eq_true, ↓bindO_some, ↓bindF_some, ↓bindX_normal, ↓bindX_exit, ↓condX_false, ↓iteB_true, g5, g12, g13, h14, e1, c1, a1, l1, hb]
      exact ⟨_, _, _, rfl, by simp, rfl, (by
        repeat refine Same.upd ?_ (by decide) _
        exact hs), h14, old, hw, ho⟩
  · right
    have hjJ2 : j = J := by omega
    have c1 : ¬ ((j + 1 : Nat) : Int) < (l.length : Int) := by omega
    subst hjJ2
    simp (disch := omega) only [Try.f92, Option.getD_some, atC, es_seq, es_region, es_cond, es_exit, ops_nil, ops_cons, ops_consG, st_move, sy_pick, pickS_false, sy_bin, binS_lss, binS_add, bindO_some, bindF_some, bindX_normal, bindX_exit, condX_false, iteB_false, ev_tmp, ev_const, putA, upd_at, ↓reduceIte, Nat.reduceEqDiff, decide_false, yieldO_eq, yO, yV_bool, some_true, List.getElem?_cons_zero, List.getElem?_cons_succ, ↓bindO_some, ↓bindF_some, ↓bindX_normal, ↓bindX_exit, ↓condX_false, ↓iteB_false, g5, h14, e1, c1]
    exact ⟨_, _, _, rfl, by simp, rfl, (by
      repeat refine Same.upd ?_ (by decide) _
      exact hs), h14, old, hw, ho⟩
theorem pf_bd {l : List Int} (hp : Part l) {i J r : Nat} {t : Int} (hi : i ≤ J) (hJ : J < l.length) (hr : r < l.length) (h0 : -100 ≤ t) (h1 : t ≤ 100) : -200 ≤ pf l i J t r ∧ pf l i J t r ≤ 200 := by
  have hl := hp.len
  have hg := hp.getD hr
  by_cases c1 : r < i
  · rw [pf_lo c1]; omega
  · by_cases c2 : r < J
    · rw [pf_mid (by omega) c2]; have := hp.getD (show r + 1 < l.length by omega); omega
    · by_cases c3 : r = J
      · subst c3; rw [pf_at hi]; omega
      · rw [pf_hi hi (by omega)]; omega
noncomputable def rmL4 : Code := atC [1, 1, 1, 1, 1, 0, 1, 0, 0, 1, 1, 0, 0, 1, 1, 1, 1, 1, 1, 1, 1, 0, 1, 0, 0] ((Try.f92.body).getD .skip)
def lfT (l : List Int) (i J : Nat) (t : Int) (r : Nat) : List Int := ((List.range r).map (pf l i J t)).filter fun x => decide (0 < x)
theorem lfT_succ (l : List Int) (i J : Nat) (t : Int) (r : Nat) : lfT l i J t (r + 1) = if 0 < pf l i J t r then lfT l i J t r ++ [pf l i J t r] else lfT l i J t r := by
  unfold lfT
  rw [map_range_succ, List.filter_append]
  by_cases h : 0 < pf l i J t r
  · rw [if_pos h, List.filter_cons_of_pos (by simpa using h)]; rfl
  · rw [if_neg h, List.filter_cons_of_neg (by simpa using h), List.filter_nil, List.append_nil]
theorem lfT_len (l : List Int) (i J : Nat) (t : Int) (r : Nat) : (lfT l i J t r).length ≤ r := by
  unfold lfT
  exact Nat.le_trans (List.length_filter_le ..) (by simp)
theorem rims_l4 {H : Heap} {vn : Value} {l : List Int} (hp : Part l) {i J : Nat} (hi : i ≤ J) (hJ : J < l.length) {t : Int} (h0 : -100 ≤ t) (h1 : t ≤ 100) (hw : WF H) (hr : R H vn (ints (fzL l i J t))) (call : CallF) (m nt : Nat) {a0 : Fr} {k : Nat} (hk : 30 ≤ k) (h5 : a0 5 = vi l.length) (h15 : a0 15 = .slice none 0 0) (h87 : a0 87 = vn) (h88 : a0 88 = vi l.length) (h89 : a0 89 = vi (0 : Nat)) :
    ∃ r a' H', loopN (evS Try.prog call m nt none rmL4) k a0 H = some (r, a', H') ∧ r = .exit 6 ∧ Same [1, 5, 6, 9, 10, 14, 40, 41, 42] a0 a' ∧ Old H.length H H' ∧ WF H' ∧ ∃ vl, a' 15 = vl ∧ O H.length H' vl (ints (leftP l i J t)) := by
  have hl := hp.len
  have hlen : (fzL l i J t).length = l.length := by unfold fzL; simp
  refine loop_up l.length (fun r a H' => Same [1, 5, 6, 9, 10, 14, 40, 41, 42, 87, 88] a0 a ∧ a 89 = vi r ∧ Old H.length H H' ∧ WF H' ∧ ∃ vl, a 15 = vl ∧ O H.length H' vl (ints (lfT l i J t r))) _ ?_ ?_ (by omega) ⟨Same.refl _ _, h89, Old.refl _ _, hw, _, h15, O.nil _ _⟩
  · intro r a H' hlt ⟨hs, h89, old, hw, vl, h15, ho⟩
    left
    rw [show rmL4 = atC [1, 1, 1, 1, 1, 0, 1, 0, 0, 1, 1, 0, 0, 1, 1, 1, 1, 1, 1, 1, 1, 0, 1, 0, 0] ((Try.f92.body).getD .skip) from rfl]
    have g5 := (hs 5 (by decide)).trans h5
    have g87 := (hs 87 (by decide)).trans h87
    have g88 := (hs 88 (by decide)).trans h88
    have hr' := hr.mono old
    have c1 : (r : Int) < (l.length : Int) := by omega
    have hfz : (fzL l i J t).getD r 0 = fz l i J t r := by unfold fzL; rw [map_range_getD _ hlt]
    have hpf := fz_pf (l := l) (i := i) (J := J) (r := r) (t := t) hi
    have hb := pf_bd hp hi hJ hlt h0 h1
    have a1 : addrS 1 vn (vi (r : Int)) = some (pt vn r) := by have := hr'.addrI (i := (r : Int)) (by omega) (by omega); rwa [Int.toNat_natCast] at this
    have l1 : loadS (pt vn r) H' = some (vi (fz l i J t r)) := by rw [hr'.loadI (by omega), hfz]
    have e1 : IntKind.i64.wrap ((r : Int) + 1) = ((r + 1 : Nat) : Int) := by rw [wr64 (by omega) (by omega)]; omega
    have e2 : IntKind.i64.wrap ((l.length : Int) - 1) = (l.length : Int) - 1 := wr64 (by omega) (by omega)
    have e3 : IntKind.i64.wrap ((l.length : Int) - 1 - (r : Int)) = (l.length : Int) - 1 - (r : Int) := wr64 (by omega) (by omega)
    have e4 : IntKind.i64.wrap (fz l i J t r - ((l.length : Int) - 1 - (r : Int))) = pf l i J t r := by rw [hpf]; exact wr64 (by omega) (by omega)
    by_cases hc : 0 < pf l i J t r
    · have hll := lfT_len l i J t r
      obtain ⟨v2, H2, s2, o2, old2, wf2⟩ := ho.pushI hw old.1 (by unfold maxA; omega) (pf l i J t r)
      simp (disch := omega) only [Try.f92, Option.getD_some, atC, es_seq, es_region, es_cond, es_block, es_skip, ops_nil, ops_cons, st_move, st_assign, sy_addr eL, sy_load aI, sy_bin, sy_append eL pI, sy_build1 eL oI, binS_lss, binS_gtr, binS_add, binS_sub, bindO_some, bindF_some, bindX_normal, blkX_normal, condX_true, ev_tmp, ev_const, putA, upd_at, Option.map_some, ↓reduceIte, Nat.reduceEqDiff, decide_true, ↓bindO_some, ↓bindF_some, ↓bindX_normal, ↓condX_true, scal_vi, g5, g87, g88, h15, h89, c1, a1, l1, e2, e3, e4, hc, scal_vi, s2, e1]
      exact ⟨_, _, rfl, (by
        repeat refine Same.upd ?_ (by decide) _
        exact hs), rfl, old.trans old2, wf2, v2, rfl, by rw [lfT_succ, if_pos hc]; exact o2⟩
    · simp (disch := omega) only [Try.f92, Option.getD_some, atC, es_seq, es_region, es_cond, es_block, es_skip, ops_nil, ops_cons, st_move, st_assign, sy_addr eL, sy_load aI, sy_bin, binS_lss, binS_gtr, binS_add, binS_sub, bindO_some, bindF_some, bindX_normal, blkX_normal, condX_true, condX_false, ev_tmp, ev_const, putA, upd_at, Option.map_some, ↓reduceIte, Nat.reduceEqDiff, decide_true, decide_false, ↓bindO_some, ↓bindF_some, ↓bindX_normal, ↓condX_true, ↓condX_false, g5, g87, g88, h89, c1, a1, l1, e2, e3, e4, hc, e1]
      exact ⟨_, _, rfl, (by
        repeat refine Same.upd ?_ (by decide) _
        exact hs), rfl, old, hw, vl, h15, by rw [lfT_succ, if_neg hc]; exact ho⟩
  · intro a H' ⟨hs, h89, old, hw, vl, h15, ho⟩
    rw [show rmL4 = atC [1, 1, 1, 1, 1, 0, 1, 0, 0, 1, 1, 0, 0, 1, 1, 1, 1, 1, 1, 1, 1, 0, 1, 0, 0] ((Try.f92.body).getD .skip) from rfl]
    have g88 := (hs 88 (by decide)).trans h88
    simp (disch := omega) only [Try.f92, Option.getD_some, atC, es_seq, es_region, es_cond, es_exit, ops_nil, ops_cons, sy_bin, binS_lss, bindO_some, bindF_some, bindX_normal, bindX_exit, condX_false, ev_tmp, putA, upd_at, ↓reduceIte, decide_false, ↓bindO_some, ↓bindF_some, ↓bindX_normal, ↓bindX_exit, ↓condX_false, g88, h89, Int.lt_irrefl]
    exact ⟨_, _, _, rfl, by simp, rfl, (by
      repeat refine Same.upd ?_ (by decide) _
      exact hs.sub (by decide)), old, hw, vl, h15, ho⟩
noncomputable def rmL2 : Code := atC [1, 1, 1, 1, 1, 0, 1, 0, 0] ((Try.f92.body).getD .skip)
def OneH (H : Heap) (r : Option (Value × Heap)) (ls : List (List Int × Int)) : Prop := ∃ v H', r = some (v, H') ∧ OH H.length H' v ls ∧ Old H.length H H' ∧ WF H'
theorem rimsP_len (l : List Int) (k : Int) (i : Nat) : ((List.range i).flatMap (rimP l k)).length ≤ i := by
  induction i with
  | zero => simp
  | succ i ih =>
    rw [List.range_succ, List.flatMap_append, List.length_append, List.flatMap_cons, List.flatMap_nil, List.append_nil]
    have : (rimP l k i).length ≤ 1 := by unfold rimP; split <;> simp
    omega
theorem rims_l2 {H1 : Heap} {vb : Value} {l : List Int} (hp : Part l) {z : Int} (hz : 1 ≤ z ∧ z ≤ 20) (hw1 : WF H1) (hb : R H1 vb (ints (beadsL l))) (n nt : Nat) (hn : 1020 ≤ n) {a0 : Fr} (h1 : a0 1 = vi z) (h5 : a0 5 = vi l.length) (h6 : a0 6 = vb) (h9 : a0 9 = .slice none 0 0) (h40 : a0 40 = vb) (h41 : a0 41 = vi l.length) (h42 : a0 42 = vi (0 : Nat)) :
    ∃ r a' H', loopN (evS Try.prog (evB Try.prog noC n) n nt none rmL2) n a0 H1 = some (r, a', H') ∧ r = .exit 2 ∧ ∃ vo, a' 9 = vo ∧ OH H1.length H' vo (rimsP l z) ∧ Old H1.length H1 H' ∧ WF H' := by
  have hl := hp.len
  refine loop_up l.length (fun i a H' => Same [1, 5, 6, 40, 41] a0 a ∧ a 42 = vi i ∧ Old H1.length H1 H' ∧ WF H' ∧ ∃ vo, a 9 = vo ∧ OH H1.length H' vo ((List.range i).flatMap (rimP l z))) _ ?_ ?_ (by omega) ⟨Same.refl _ _, h42, Old.refl _ _, hw1, _, h9, OG.nil _ _⟩
  · intro i a H' hi ⟨hs, h42, old, hw, vo, h9, ho⟩
    left
    rw [show rmL2 = atC [1, 1, 1, 1, 1, 0, 1, 0, 0] ((Try.f92.body).getD .skip) from rfl]
    have g1 := (hs 1 (by decide)).trans h1
    have g5 := (hs 5 (by decide)).trans h5
    have g6 := (hs 6 (by decide)).trans h6
    have g40 := (hs 40 (by decide)).trans h40
    have g41 := (hs 41 (by decide)).trans h41
    have hb' := hb.mono old
    have c1 : (i : Int) < (l.length : Int) := by omega
    have hbl := beadsL_len l
    have hbd := bead_bd hp i hi
    have a1 : addrS 1 vb (vi (i : Int)) = some (pt vb i) := by have := hb'.addrI (i := (i : Int)) (by omega) (by omega); rwa [Int.toNat_natCast] at this
    have l1 : loadS (pt vb i) H' = some (vi (bead l i)) := by rw [hb'.loadI (by omega), beadsL_get hi]
    have e1 : IntKind.i64.wrap ((i : Int) + 1) = ((i + 1 : Nat) : Int) := by rw [wr64 (by omega) (by omega)]; omega
    obtain ⟨t, ht⟩ : ∃ t, t = bead l i - z := ⟨_, rfl⟩
    have e2 : IntKind.i64.wrap (bead l i - z) = t := by rw [ht]; exact wr64 (by omega) (by omega)
    have hflat : (List.range (i + 1)).flatMap (rimP l z) = (List.range i).flatMap (rimP l z) ++ rimP l z i := by
      rw [List.range_succ, List.flatMap_append, List.flatMap_cons, List.flatMap_nil, List.append_nil]
    by_cases hneg : t < 0
    · have hr : rimP l z i = [] := by unfold rimP; rw [← ht]; exact if_pos (.inl hneg)
      rw [hr, List.append_nil] at hflat
      simp (disch := omega) only [Try.f92, Option.getD_some, atC, es_seq, es_region, es_cond, es_block, es_skip, es_exit, ops_nil, ops_cons, ops_consG, st_move, st_assign, sy_pick, pickS_true, sy_addr eL, sy_load aI, sy_bin, binS_lss, binS_add, binS_sub, bindO_some, bindF_some, bindX_normal, bindX_exit, blkX_exit, condX_true, iteB_false, ev_tmp, ev_const, putA, upd_at, Option.map_some, ↓reduceIte, Nat.reduceEqDiff, decide_true, Bool.not_true, yieldO_eq, yO, yV_bool, some_false, List.getElem?_cons_zero, List.getElem?_cons_succ, ↓bindO_some, ↓bindF_some, ↓bindX_normal, ↓bindX_exit, ↓condX_true, ↓iteB_false, g1, g40, g41, h42, c1, a1, l1, e2, hneg, e1]
      exact ⟨_, _, rfl, (by
        repeat refine Same.upd ?_ (by decide) _
        exact hs), rfl, old, hw, vo, h9, by rw [hflat]; exact ho⟩
    · have s1 := contains_run hb' (by omega) t n (by omega)
      by_cases hm : t ∈ beadsL l
      · have hr : rimP l z i = [] := by unfold rimP; rw [← ht]; exact if_pos (.inr hm)
        rw [hr, List.append_nil] at hflat
        rw [decide_eq_true hm] at s1
        simp (disch := omega) only [Try.f92, Option.getD_some, atC, es_seq, es_region, es_cond, es_block, es_skip, es_exit, ops_nil, ops_cons, ops_consG, st_move, st_assign, sy_pick, pickS_false, st_fun, sy_addr eL, sy_load aI, sy_bin, binS_lss, binS_add, binS_sub, bindO_some, bindF_some, bindX_normal, bindX_exit, blkX_exit, condX_true, iteB_true, ev_tmp, ev_const, ev_func, putA, upd_at, Option.map_some, ↓reduceIte, Nat.reduceEqDiff, List.map_cons, List.map_nil, decide_true, decide_false, yieldO_eq, yO, yV_bool, List.getElem?_cons_zero, List.getElem?_cons_succ, beq_self_eq_true, ↓bindO_some, ↓bindF_some, ↓bindX_normal, ↓bindX_exit, ↓condX_true, ↓iteB_true, g1, g6, g40, g41, h42, c1, a1, l1, e2, hneg, s1, e1]
        exact ⟨_, _, rfl, (by
          repeat refine Same.upd ?_ (by decide) _
          exact hs), rfl, old, hw, vo, h9, by rw [hflat]; exact ho⟩
      · have hr : rimP l z i = [(leftP l i (jmp l i t) t, ((jmp l i t - i : Nat) : Int))] := by unfold rimP; rw [← ht]; exact if_neg (fun h => h.elim hneg hm)
        rw [hr] at hflat
        rw [decide_eq_false hm] at s1
        obtain ⟨vn, H2, s2, o2, old2, wf2⟩ := clone_run hw hb' (by omega) n (by omega)
        rw [← nxL_0 l i] at o2
        obtain ⟨j1, j2, _, _⟩ := jmp_spec (t := t) hi
        have k3 := fun (A : Fr) => rims_l3 hp hi wf2 o2 (evB Try.prog noC n) n nt (a0 := A) (k := n) (t := t) (by omega)
        rw [show rmL3 = atC [1, 1, 1, 1, 1, 0, 1, 0, 0, 1, 1, 0, 0, 1, 1, 1, 1, 1, 0, 0, 0] ((Try.f92.body).getD .skip) from rfl] at k3
        simp only [Try.f92, Option.getD_some, atC] at k3
        simp (disch := omega) only [Try.f92, Option.getD_some, atC, es_seq, es_region, es_cond, es_block, es_loop, es_skip, ops_nil, ops_cons, ops_consG, st_move, st_assign, sy_pick, pickS_false, st_fun, sy_len uL, sy_addr eL, sy_load aI, sy_store zI, sy_bin, binS_lss, binS_sub, bindO_some, bindF_some, bindX_normal, condX_true, condX_false, iteB_true, ev_tmp, ev_const, ev_func, putA, upd_at, Option.map_some, ↓reduceIte, Nat.reduceEqDiff, List.map_cons, List.map_nil, decide_true, decide_false, yieldO_eq, yO, yV_bool, List.getElem?_cons_zero, List.getElem?_cons_succ, beq_self_eq_true, ↓bindO_some, ↓bindF_some, ↓bindX_normal, ↓condX_true, ↓condX_false, ↓iteB_true, g1, g6, g40, g41, h42, c1, a1, l1, e2, hneg, s1, s2]
        generalize hF : upd _ 14 _ = F
        have hsF : Same [1, 5, 6, 40, 41] a0 F := by
          subst hF
          repeat refine Same.upd ?_ (by decide) _
          exact hs
        have f42 : F 42 = vi i := by subst hF; exact h42
        have f9 : F 9 = vo := by subst hF; exact h9
        have f10 : F 10 = vi i := by subst hF; rfl
        have f12 : F 12 = vi t := by subst hF; rfl
        have f13 : F 13 = vn := by subst hF; rfl
        have f14 : F 14 = vi i := by subst hF; rfl
        obtain ⟨r, a', H3, ev, hr', hs3, g14, old3, wf3, o3⟩ := k3 F ((hsF 5 (by decide)).trans h5) f12 f13 f14
        subst hr'
        rw [ev]
        clear ev k3 hF
        have i13 := (hs3 13 (by decide)).trans f13
        have i12 := (hs3 12 (by decide)).trans f12
        have i5 := ((hs3 5 (by decide)).trans (hsF 5 (by decide))).trans h5
        generalize hJ : jmp l i t = J at *
        have hlen : (nxL l i J).length = l.length := by unfold nxL; simp
        have a2 : addrS 1 vn (vi (J : Int)) = some (pt vn J) := by have := o3.R.addrI (i := (J : Int)) (by omega) (by omega); rwa [Int.toNat_natCast] at this
        obtain ⟨H4, s4, o4, old4, wf4⟩ := o3.setI wf3 (i := J) (by omega) t
        rw [fzL_set] at o4
        have hlf : (fzL l i J t).length = l.length := by unfold fzL; simp
        have ln := o4.R.lenI
        rw [hlf] at ln
        have k4 := fun (A : Fr) => rims_l4 hp j2 j1 (t := t) (by omega) (by omega) wf4 o4.R (evB Try.prog noC n) n nt (a0 := A) (k := n) (by omega)
        rw [show rmL4 = atC [1, 1, 1, 1, 1, 0, 1, 0, 0, 1, 1, 0, 0, 1, 1, 1, 1, 1, 1, 1, 1, 0, 1, 0, 0] ((Try.f92.body).getD .skip) from rfl] at k4
        simp only [Try.f92, Option.getD_some, atC] at k4
        simp (disch := omega) only [bindO_some, bindF_some, bindX_normal, blkX_exit, upd_at, Option.map_some, ↓reduceIte, Nat.reduceEqDiff, ↓bindO_some, ↓bindF_some, ↓bindX_normal, i13, i12, g14, a2, s4, ln]
        generalize hF2 : upd _ 89 _ = F2
        have hs4 : Same [1, 5, 6, 9, 10, 40, 41, 42] F F2 := by
          subst hF2
          repeat refine Same.upd ?_ (by decide) _
          exact hs3.sub (by decide)
        have f214 : F2 14 = vi J := by subst hF2; exact g14
        obtain ⟨r, a2', H5, ev, hr', hs5, old5, wf5, vl, g15, o5⟩ := k4 F2 (((hs4 5 (by decide)).trans (hsF 5 (by decide))).trans h5) (by subst hF2; rfl) (by subst hF2; rfl) (by subst hF2; rfl) (by subst hF2; rfl)
        subst hr'
        rw [ev]
        clear ev k4 hF2
        have i14 := (hs5 14 (by decide)).trans f214
        have i9 := ((hs5 9 (by decide)).trans (hs4 9 (by decide))).trans f9
        have i10 := ((hs5 10 (by decide)).trans (hs4 10 (by decide))).trans f10
        have i42 := ((hs5 42 (by decide)).trans (hs4 42 (by decide))).trans f42
        have e3 : IntKind.i64.wrap ((J : Int) - (i : Int)) = ((J - i : Nat) : Int) := by rw [wr64 (by omega) (by omega)]; omega
        have old25 : Old H'.length H' H5 := ((old2.trans old3).trans old4).trans (old5.mono (by have := old2.1; have := old3.1; have := old4.1; omega))
        have hrl := rimsP_len l z i
        obtain ⟨v6, H6, s6, o6, old6, wf6⟩ := OH.push (z := ((J - i : Nat) : Int)) ho old25 wf5 old.1 o5 (by have := old2.1; have := old3.1; have := old4.1; omega) (by unfold maxA; omega)
        simp (disch := omega) only [binS_add, binS_sub, bindO_some, bindF_some, bindX_normal, blkX_normal, blkX_exit, ev_tmp, upd_at, Option.map_some, ↓reduceIte, Nat.reduceEqDiff, List.map_cons, List.map_nil, ↓bindO_some, ↓bindF_some, ↓bindX_normal, i9, i10, i14, i42, g15, e3, sy_build, bHk _ _ o5.R.scal, sy_buildN eHH oHH rfl rfl, sHk, buildS_2, sy_appN eHH pHH, s6, e1]
        exact ⟨_, _, rfl, (by
          repeat refine Same.upd ?_ (by decide) _
          exact (hsF.trans (hs4.sub (by decide))).trans (hs5.sub (by decide))), rfl, (old.trans (old25.mono old.1)).trans old6, wf6, v6, rfl, by rw [hflat]; exact o6⟩
  · intro a H' ⟨hs, h42, old, hw, vo, h9, ho⟩
    rw [show rmL2 = atC [1, 1, 1, 1, 1, 0, 1, 0, 0] ((Try.f92.body).getD .skip) from rfl]
    have g41 := (hs 41 (by decide)).trans h41
    simp (disch := omega) only [Try.f92, Option.getD_some, atC, es_seq, es_region, es_cond, es_exit, ops_nil, ops_cons, sy_bin, binS_lss, bindO_some, bindF_some, bindX_normal, bindX_exit, condX_false, ev_tmp, putA, upd_at, ↓reduceIte, decide_false, ↓bindO_some, ↓bindF_some, ↓bindX_normal, ↓bindX_exit, ↓condX_false, g41, h42, Int.lt_irrefl]
    exact ⟨_, _, _, rfl, by simp, rfl, vo, h9, ho, old, hw⟩
theorem rims_run {H : Heap} {v : Value} {l : List Int} (hw : WF H) (hv : R H v (ints l)) (hp : Part l) {z : Int} (hz : 1 ≤ z ∧ z ≤ 20) (n : Nat) (hn : 1030 ≤ n) : OneH H (evB Try.prog noC n (.func (.func 92) #[] #[]) [v, vi z] H) (rimsP l z) := by
  refine run_of (F := 1029) (Q := fun r => OneH H r (rimsP l z)) (fun n hn => ?_) n hn
  rw [body_runS Try.func92 rfl (ok_fn (by rfl) Try.func92 rfl) (Nat.le_of_ble_eq_true rfl) (D := D0) (by kernel_rfl)]
  have hl := hp.len
  have hz0 := zIn l.length
  have hlr : (ints (List.replicate l.length (0 : Int))).length = l.length := by rw [ints_len, List.length_replicate]
  have ob := O.made (B := H.length) (H := H) (Nat.le_refl _) (ints (List.replicate l.length (0 : Int)))
  rw [hlr] at ob
  have old1 := Old.app H [.cells H.length true (ints (List.replicate l.length (0 : Int)))]
  have wf1 := hw.app (Nat.le_refl H.length) (o := true) (cs := ints (List.replicate l.length (0 : Int)))
  have c2 : (0 : Int) ≤ (l.length : Int) := by omega
  have c3 : (l.length : Int) ≤ 1048576 := by omega
  generalize hH1 : H ++ [Blk.cells H.length true (ints (List.replicate l.length (0 : Int)))] = H1 at *
  have hv1 := hv.mono old1
  have k1 := fun (A : Fr) => rims_l1 hp hv old1 wf1 ob (evB Try.prog noC n) n Try.f92.ntmps (a := A) (k := n) (v1 := vi z) (by omega)
  rw [show rmL1 = atC [1, 1, 1, 0, 1, 0, 0] ((Try.f92.body).getD .skip) from rfl] at k1
  simp only [Try.f92, Option.getD_some, atC] at k1
  simp (disch := omega) only [Try.f92, es_seq, es_region, es_block, es_loop, es_ret, ops_nil, ops_cons, st_move, st_assign, sy_len uL, sy_make eL yI (by decide), bindO_some, bindF_some, bindX_normal, ev_tmp, ev_const, putA, upd_at, Option.map_some, ↓reduceIte, Nat.reduceEqDiff, Int.toNat_natCast, frOf_0, ↓bindO_some, ↓bindF_some, ↓bindX_normal, hv.lenI, c2, c3, Int.le_refl, and_self, hz0, hH1]
  generalize hA : upd _ 25 _ = A
  obtain ⟨r, a', H2, ev, hr, i1, i5, i6, old2, wf2, o2⟩ := k1 A (by subst hA; rfl) (by subst hA; rfl) (by subst hA; rfl) (by subst hA; rfl) (by subst hA; rfl) (by subst hA; rfl)
  subst hr
  rw [ev]
  clear ev k1
  have hbl := beadsL_len l
  have lb := o2.R.lenI
  rw [hbl] at lb
  have k2 := fun (A : Fr) => rims_l2 hp hz wf2 o2.R n Try.f92.ntmps (by omega) (a0 := A)
  rw [show rmL2 = atC [1, 1, 1, 1, 1, 0, 1, 0, 0] ((Try.f92.body).getD .skip) from rfl] at k2
  simp only [Try.f92, Option.getD_some, atC] at k2
  simp (disch := omega) only [bindO_some, bindF_some, bindX_normal, blkX_exit, Option.map_some, ↓reduceIte, ↓bindO_some, ↓bindF_some, ↓bindX_normal, i6, lb]
  generalize hB : upd _ 42 _ = A2
  obtain ⟨r, a2, H3, ev, hr, vo, j9, o3, old3, wf3⟩ := k2 A2 (by subst hB; exact i1) (by subst hB; exact i5) (by subst hB; exact i6) (by subst hB; rfl) (by subst hB; rfl) (by subst hB; rfl) (by subst hB; rfl)
  subst hr
  rw [ev]
  simp (disch := omega) only [bindX_normal, blkX_exit, upd_at, Option.map_some, ↓reduceIte, ↓bindX_normal, fin_r, res_nil, res_tmp, pack_1, j9, o3.RH.scal]
  exact ⟨_, _, rfl, OG.below o3 old2.1, old2.trans (old3.mono old2.1), wf3⟩
end Go.Proofs.Ytmmgdgmjkhcfaaa
namespace Go.Proofs.Ytmmgdgmjkhcfaaa
open Go Go.Abs Go.Num
set_option maxRecDepth 10000
attribute [local congr] bindO_congr bindF_congr bindX_congr condX_congr iteB_congr binS_congr pickS_congr eqB_congr nilS_congr clsW_congr maxS_congr minS_congr
theorem fHo0 : fieldOff Try.prog 66 0 = some 0 := by kernel_rfl
theorem fHo1 : fieldOff Try.prog 66 1 = some 1 := by kernel_rfl
theorem tail_R {H : Heap} {u : Value} {z : Int} {c : List Int} (hu : R H u (ints (z :: c))) : ∃ w, subS u (some (vi 1)) none = some w ∧ R H w (ints c) := by
  obtain ⟨w, s, r⟩ := hu.from (c := 1) (by simp)
  exact ⟨w, s, r⟩
end Go.Proofs.Ytmmgdgmjkhcfaaa
namespace Go.Abs
def OldX (m B : Nat) (H H' : Heap) : Prop := H.length ≤ H'.length ∧ ∀ b, b < B → b ≠ m → H'[b]? = H[b]?
theorem OldX.refl (m B : Nat) (H : Heap) : OldX m B H H := ⟨Nat.le_refl _, fun _ _ _ => rfl⟩
theorem OldX.trans {m B : Nat} {H1 H2 H3 : Heap} (h : OldX m B H1 H2) (h' : OldX m B H2 H3) : OldX m B H1 H3 := ⟨Nat.le_trans h.1 h'.1, fun b hb hm => by rw [h'.2 b hb hm, h.2 b hb hm]⟩
theorem OldX.mono {m B B' : Nat} {H1 H2 : Heap} (h : OldX m B H1 H2) (hb : B' ≤ B) : OldX m B' H1 H2 := ⟨h.1, fun b hb' => h.2 b (by omega)⟩
theorem Old.X {B : Nat} {H1 H2 : Heap} (h : Old B H1 H2) (m : Nat) : OldX m B H1 H2 := ⟨h.1, fun b hb _ => h.2 b hb⟩
def MapAt (H : Heap) (m : Nat) : Prop := ∃ es, H[m]? = some (.map es)
theorem MapAt.ne {H : Heap} {m b f : Nat} {w : Bool} {cs : List Value} (h : MapAt H m) (hb : H[b]? = some (.cells f w cs)) : b ≠ m := by
  rintro rfl
  obtain ⟨es, e⟩ := h
  rw [hb] at e; cases e
theorem R.monoX {m : Nat} {H H' : Heap} {v : Value} {l : List Value} (h : R H v l) (hm : MapAt H m) (ho : OldX m H.length H H') : R H' v l := by
  rcases h with h | h | ⟨b, o, f, w, cs, h1, hb, h2⟩
  · exact .inl h
  · exact .inr (.inl h)
  · exact .inr (.inr ⟨b, o, f, w, cs, h1, by rw [ho.2 b (lt_of_blk hb) (hm.ne hb)]; exact hb, h2⟩)
theorem RH.monoX {m : Nat} {H H' : Heap} {v : Value} {ls : List (List Int × Int)} (h : RH H v ls) (hm : MapAt H m) (ho : OldX m H.length H H') : RH H' v ls := by
  rcases h with h | ⟨b, f, w, css, h1, hb, h2, h3, h4⟩
  · exact .inl h
  · refine .inr ⟨b, f, w, css, h1, by rw [ho.2 b (lt_of_blk hb) (hm.ne hb)]; exact hb, h2, h3, fun i c a hc ha => ?_⟩
    obtain ⟨v, e1, e2⟩ := h4 i c a hc ha
    exact ⟨v, e1, R.monoX e2 hm ho⟩
theorem BxM.monoX {m B C : Nat} {H H' : Heap} {p : Value} {cs : List Value} (h : BxM B C H p cs) (hm : MapAt H m) (ho : OldX m C H H') : BxM B C H' p cs := by
  obtain ⟨b, f, h1, h2, h3, h4, h5, hb⟩ := h
  exact ⟨b, f, h1, h2, h3, h4, h5, by rw [ho.2 b h4 (hm.ne hb)]; exact hb⟩
theorem WF.setMap {H : Heap} (h : WF H) (m : Nat) (es : List (Value × Value)) : WF (H.set m (.map es)) := by
  intro b f o cs hb
  rw [List.getElem?_set] at hb
  split at hb
  · split at hb
    · cases hb
    · cases hb
  · exact h b f o cs hb
theorem OldX.setMap (H : Heap) (m : Nat) (es : List (Value × Value)) (B : Nat) : OldX m B H (H.set m (.map es)) := by
  refine ⟨by simp, fun b _ hm => ?_⟩
  rw [List.getElem?_set, if_neg (fun h => hm h.symm)]
end Go.Abs
namespace Go.Proofs.Ytmmgdgmjkhcfaaa
open Go Go.Abs Go.Num
set_option maxRecDepth 10000
attribute [local congr] bindO_congr bindF_congr bindX_congr condX_congr iteB_congr binS_congr pickS_congr eqB_congr nilS_congr clsW_congr maxS_congr minS_congr
theorem uMp : Try.prog.underlying 76 = some (.map 9 22) := by kernel_rfl
theorem zMp : zeroT Try.prog 22 = some (.slice none 0 0) := by kernel_rfl
noncomputable def getS (es : List (Value × Value)) (k : ByteArray) : Value := match findA (.string k) es with
  | some v => .tuple #[v, .bool true]
  | none => .tuple #[.slice none 0 0, .bool false]
structure Kc (l c : List Int) : Prop where
  part : Part l
  cyc : ∀ y ∈ c, 1 ≤ y ∧ y ≤ 20
  len : c.length ≤ 20
def Known (H : Heap) (es : List (Value × Value)) : Prop := ∀ e ∈ es, ∃ l c v, e = (.string (txt (keyL l c)), v) ∧ Kc l c ∧ R H v (ints (nf (chi c l)))
theorem Known.kinds {H : Heap} {es : List (Value × Value)} (h : Known H es) : es.all (fun e => keyKind .string e.1) = true := by
  rw [List.all_eq_true]
  intro e he
  obtain ⟨l, c, v, rfl, -⟩ := h e he
  rfl
theorem Known.monoX {H H' : Heap} {m : Nat} {es : List (Value × Value)} (h : Known H es) (hm : MapAt H m) (ho : OldX m H.length H H') : Known H' es := by
  intro e he
  obtain ⟨l, c, v, e1, e2, e3⟩ := h e he
  exact ⟨l, c, v, e1, e2, R.monoX e3 hm ho⟩
theorem keyL_rng {l c : List Int} (h : Kc l c) : ∀ x ∈ keyL l c, 0 ≤ x ∧ x < 256 := by
  intro x hx
  unfold keyL at hx
  rcases List.mem_append.1 hx with hx | hx
  · have := h.part.mem x hx; omega
  · rcases List.mem_cons.1 hx with rfl | hx
    · omega
    · have := h.cyc x hx; omega
theorem key_inj {l c l' c' : List Int} (h : Kc l c) (h' : Kc l' c') (e : txt (keyL l c) = txt (keyL l' c')) : l = l' ∧ c = c' :=
  keyL_inj (fun x hx => (h.part.mem x hx).1) (fun x hx => (h'.part.mem x hx).1) (txt_inj (keyL_rng h) (keyL_rng h') e)
theorem same_str {a b : ByteArray} : sameKey (.string a) (.string b) = true ↔ a = b := by
  cases a with
  | mk a =>
    cases b with
    | mk b =>
      constructor
      · intro h
        have h : (a == b) = true := h
        rw [eq_of_beq h]
      · intro h
        have h : a = b := congrArg ByteArray.data h
        show (a == b) = true
        rw [h]; exact beq_self_eq_true b
theorem Known.find {H : Heap} {es : List (Value × Value)} (h : Known H es) {l c : List Int} (hk : Kc l c) {v : Value} (e : findA (.string (txt (keyL l c))) es = some v) : R H v (ints (nf (chi c l))) := by
  induction es with
  | nil => cases e
  | cons x es ih =>
    obtain ⟨l', c', v', rfl, h2, h3⟩ := h x (by simp)
    rw [findA] at e
    split at e
    · rename_i hs
      obtain ⟨rfl, rfl⟩ := key_inj hk h2 (same_str.1 hs)
      cases e; exact h3
    · exact ih (fun y hy => h y (by simp [hy])) e
theorem Known.set {H : Heap} {es : List (Value × Value)} (h : Known H es) {l c : List Int} (hk : Kc l c) {v : Value} (hv : R H v (ints (nf (chi c l)))) : Known H (setA (.string (txt (keyL l c))) v es) := by
  induction es with
  | nil =>
    intro e he
    obtain rfl := List.mem_singleton.1 he
    exact ⟨l, c, v, rfl, hk, hv⟩
  | cons x es ih =>
    obtain ⟨k', v'⟩ := x
    rw [setA]
    split
    · intro e he
      rcases List.mem_cons.1 he with rfl | he
      · exact ⟨l, c, v, rfl, hk, hv⟩
      · exact h e (by simp [he])
    · intro e he
      rcases List.mem_cons.1 he with rfl | he
      · exact h _ (by simp)
      · exact ih (fun y hy => h y (by simp [hy])) e he
theorem sy_look {call : CallF} {a : Fr} {H : Heap} {d : Option Nat} {ty : TypeId} {pos : String} {aft : Array Edge} {g : Option (Nat × Bool)} {t : TypeId} {x k : Operand} {ok : Bool} : stepA Try.prog call a ⟨d, .lookup t x k ok, ty, pos, aft, g⟩ H = (lookupA Try.prog t (ev a x) (ev a k) ok H).map fun v => (v, H) := (rfl)
theorem sy_mapup {call : CallF} {a : Fr} {H : Heap} {d : Option Nat} {ty : TypeId} {pos : String} {aft : Array Edge} {g : Option (Nat × Bool)} {t : TypeId} {x k v : Operand} : stepA Try.prog call a ⟨d, .mapUpdate t x k v, ty, pos, aft, g⟩ H = (mapUpdateA Try.prog t (ev a x) (ev a k) (ev a v) H).map fun h => (undef, h) := (rfl)
theorem look_eq {H : Heap} {m : Nat} {es : List (Value × Value)} (hm : H[m]? = some (.map es)) (hk : Known H es) (k : ByteArray) : lookupA Try.prog 76 (.map (some m)) (.string k) true H = some (getS es k) := by
  unfold lookupA getS
  simp only [uMp, uSt, zMp, hm]
  rw [if_pos ⟨rfl, hk.kinds⟩]
  cases findA (.string k) es <;> rfl
theorem mapup_eq {H : Heap} {m : Nat} {es : List (Value × Value)} (hm : H[m]? = some (.map es)) (hk : Known H es) (k : ByteArray) {v : Value} (hv : Abs.scal v = some [v]) : mapUpdateA Try.prog 76 (.map (some m)) (.string k) v H = some (H.set m (.map (setA (.string k) v es))) := by
  unfold mapUpdateA
  simp only [uMp, uSt, hv, hm]
  rw [if_pos ⟨rfl, hk.kinds⟩]
end Go.Proofs.Ytmmgdgmjkhcfaaa
namespace Go.Proofs.Ytmmgdgmjkhcfaaa
open Go Go.Abs Go.Num
set_option maxRecDepth 10000
attribute [local congr] bindO_congr bindF_congr bindX_congr condX_congr iteB_congr binS_congr pickS_congr eqB_congr nilS_congr
theorem isnan_run (x : Int) (H : Heap) (n : Nat) (hn : 1 ≤ n) : evB Try.prog noC n (.func (.func 124) #[] #[]) [vi x] H = some (.bool false, H) := by
  refine run_of (F := 0) (Q := fun r => r = some (.bool false, H)) (fun n hn => ?_) n hn
  rw [body_runS Try.func124 rfl (ok_fn (by rfl) Try.func124 rfl) (Nat.le_of_ble_eq_true rfl) (D := D0) (by kernel_rfl)]
  have e : decide (x = x) = true := by simp
  simp only [Try.f124, es_seq, es_region, es_ret, ops_nil, ops_cons, st_move, st_assign, sy_bin, binS_neq, bindO_some, bindF_some, bindX_normal, ev_tmp, ev_const, putA, upd_at, Option.map_some, ↓reduceIte, Nat.reduceEqDiff, frOf_0, decide_true, Bool.not_true, ↓bindO_some, ↓bindF_some, ↓bindX_normal, fin_r, res_nil, res_tmp, pack_1, scal_bool]
theorem compare_run (x y : Int) (H : Heap) (n : Nat) (hn : 2 ≤ n) : evB Try.prog noC n (.func (.func 98) #[] #[]) [vi x, vi y] H = some (vi (cmpZ x y), H) := by
  refine run_of (F := 1) (Q := fun r => r = some (vi (cmpZ x y), H)) (fun n hn => ?_) n hn
  rw [body_runS Try.func98 rfl (ok_fn (by rfl) Try.func98 rfl) (Nat.le_of_ble_eq_true rfl) (D := D0) (by kernel_rfl)]
  have s1 := isnan_run x H n hn
  have s2 := isnan_run y H n hn
  unfold cmpZ
  by_cases h1 : x < y
  · simp only [Try.f98, es_seq, es_region, es_cond, es_skip, es_ret, ops_nil, ops_cons, st_move, st_assign, st_fun, sy_bin, binS_lss, bindO_some, bindF_some, bindX_normal, bindX_ret, condX_true, condX_false, ev_tmp, ev_const, ev_func, putA, upd_at, Option.map_some, ↓reduceIte, Nat.reduceEqDiff, frOf_0, frOf_1, List.map_cons, List.map_nil, decide_true, ↓bindO_some, ↓bindF_some, ↓bindX_normal, ↓bindX_ret, ↓condX_true, ↓condX_false, fin_r, res_nil, res_tmp, pack_1, scal_vi, s1, s2, h1]
  · by_cases h2 : y < x
    · simp only [Try.f98, es_seq, es_region, es_cond, es_skip, es_ret, ops_nil, ops_cons, st_move, st_assign, st_fun, sy_bin, binS_lss, binS_gtr, bindO_some, bindF_some, bindX_normal, bindX_ret, condX_true, condX_false, ev_tmp, ev_const, ev_func, putA, upd_at, Option.map_some, ↓reduceIte, Nat.reduceEqDiff, frOf_0, frOf_1, List.map_cons, List.map_nil, decide_true, decide_false, ↓bindO_some, ↓bindF_some, ↓bindX_normal, ↓bindX_ret, ↓condX_true, ↓condX_false, fin_r, res_nil, res_tmp, pack_1, scal_vi, s1, s2, h1, h2]
    · simp only [Try.f98, es_seq, es_region, es_cond, es_skip, es_ret, ops_nil, ops_cons, st_move, st_assign, st_fun, sy_bin, binS_lss, binS_gtr, bindO_some, bindF_some, bindX_normal, condX_false, ev_tmp, ev_const, ev_func, putA, upd_at, Option.map_some, ↓reduceIte, Nat.reduceEqDiff, frOf_0, frOf_1, List.map_cons, List.map_nil, decide_false, ↓bindO_some, ↓bindF_some, ↓bindX_normal, ↓condX_false, fin_r, res_nil, res_tmp, pack_1, scal_vi, s1, s2, h1, h2]
noncomputable def szA : Code := atC [1, 1, 0, 1, 0, 0] ((Try.f115.body).getD .skip)
theorem sizes_loop {H : Heap} {vx vy : Value} {x y : Int} (hx : R H vx (ints (nf x))) (hy : R H vy (ints (nf y))) (x0 : 0 ≤ x) (y0 : 0 ≤ y) (lx : (nf x).length ≤ 900) (hl : (nf x).length = (nf y).length) (n m nt : Nat) (hn : 2 ≤ n) {a : Fr} {k : Nat} (hk : (nf x).length < k)
    (h0 : a 0 = vx) (h1 : a 1 = vy) (h5 : a 5 = vi (((nf x).length : Int) - 1)) :
    ∃ r a' H', loopN (evS Try.prog (evB Try.prog noC n) m nt none szA) k a H = some (r, a', H') ∧ H' = H ∧ ((r = .exit 0 ∧ x = y) ∨ (r = .ret ∧ a' 4 = vi (cmpZ x y))) := by
  refine loop_wf (fun j a H' => H' = H ∧ a 0 = vx ∧ a 1 = vy ∧ a 5 = vi ((j : Int) - 1) ∧ j ≤ (nf x).length ∧ (nf x).drop j = (nf y).drop j) _ ?_ k (nf x).length a H hk ⟨rfl, h0, h1, h5, Nat.le_refl _, by rw [List.drop_length, hl, List.drop_length]⟩
  intro j a H' ⟨hH, h0, h1, h5, hj, hd⟩
  subst hH
  rw [show szA = atC [1, 1, 0, 1, 0, 0] ((Try.f115.body).getD .skip) from rfl]
  by_cases hz : j = 0
  · subst hz
    right
    have c1 : decide ((0 : Int) ≤ ((0 : Nat) : Int) - 1) = false := rfl
    simp (disch := omega) only [Try.f115, Option.getD_some, atC, es_seq, es_region, es_cond, es_exit, ops_nil, ops_cons, st_move, sy_bin, binS_geq, bindO_some, bindF_some, bindX_normal, bindX_exit, condX_false, ev_tmp, ev_const, putA, upd_at, ↓reduceIte, ↓bindO_some, ↓bindF_some, ↓bindX_normal, ↓bindX_exit, ↓condX_false, h5, c1]
    refine ⟨_, _, _, rfl, by simp, rfl, .inl ⟨rfl, ?_⟩⟩
    have := congrArg val hd
    rw [List.drop_zero, List.drop_zero, nf_val, nf_val] at this
    exact this
  · obtain ⟨i, rfl⟩ : ∃ i, j = i + 1 := ⟨j - 1, by omega⟩
    rw [show ((i + 1 : Nat) : Int) - 1 = (i : Int) from by omega] at h5
    have c1 : (0 : Int) ≤ (i : Int) := by omega
    have e1 : IntKind.i64.wrap ((i : Int) - 1) = (i : Int) - 1 := wr64 (by omega) (by omega)
    have hc := cmp_at (nf_dg x0) (nf_dg y0) (i := i) (by omega) (by omega) hd
    rw [nf_val, nf_val] at hc
    by_cases he : (nf x).getD i 0 = (nf y).getD i 0
    · left
      simp (disch := omega) only [Try.f115, Option.getD_some, atC, es_seq, es_region, es_draw, d0, es_cond, es_block, es_skip, ops_nil, ops_cons, opsV_nil, opsV_cons, st_move, st_assign, sy_addr eL, sy_load aI, sy_bin, binS_geq, binS_neq, binS_sub, bindO_some, bindF_some, bindX_normal, blkX_normal, condX_true, condX_false, iteB_true, iteB_false, ev_tmp, ev_const, putA, upd_at, Option.map_some, ↓reduceIte, Nat.reduceEqDiff, Int.toNat_natCast, decide_true, Bool.not_true, ↓bindO_some, ↓bindF_some, ↓bindX_normal, ↓condX_true, ↓condX_false, ↓iteB_true, ↓iteB_false, reflV_load, reflV_move, reflV_bin, reflV_addr, vEq_vi, h0, h1, h5, c1, hx.addrI, hx.loadI, hy.addrI, hy.loadI, he, e1]
      exact ⟨_, _, rfl, i, by omega, rfl, by simp only [upd_get, ↓reduceIte, Nat.reduceEqDiff, h0], by simp only [upd_get, ↓reduceIte, Nat.reduceEqDiff, h1], by simp only [upd_get, ↓reduceIte], by omega, by rw [drop_getD (by omega), drop_getD (l := nf y) (by omega), hd, he]⟩
    · right
      have s1 := compare_run ((nf x).getD i 0) ((nf y).getD i 0) H' n hn
      have e2 : cmpZ ((nf x).getD i 0) ((nf y).getD i 0) = cmpZ x y := by
        unfold cmpZ
        by_cases hlt : (nf x).getD i 0 < (nf y).getD i 0
        · rw [if_pos hlt, if_pos (hc.1 hlt)]
        · have hgt : (nf y).getD i 0 < (nf x).getD i 0 := by omega
          have := hc.2 hgt
          rw [if_neg hlt, if_pos hgt, if_neg (by omega), if_pos this]
      simp (disch := omega) only [Try.f115, Option.getD_some, atC, es_seq, es_region, es_draw, d0, es_cond, es_block, es_skip, es_ret, ops_nil, ops_cons, opsV_nil, opsV_cons, st_move, st_assign, st_fun, sy_addr eL, sy_load aI, sy_bin, binS_geq, binS_neq, bindO_some, bindF_some, bindX_normal, bindX_ret, blkX_ret, condX_true, iteB_true, iteB_false, ev_tmp, ev_const, ev_func, putA, upd_at, Option.map_some, ↓reduceIte, Nat.reduceEqDiff, Int.toNat_natCast, List.map_cons, List.map_nil, decide_true, decide_false, Bool.not_false, ↓bindO_some, ↓bindF_some, ↓bindX_normal, ↓bindX_ret, ↓condX_true, ↓iteB_true, ↓iteB_false, reflV_load, reflV_move, reflV_assign, reflV_bin, reflV_addr, reflV_call, vEq_vi, h0, h1, h5, c1, hx.addrI, hx.loadI, hy.addrI, hy.loadI, he, s1, e2]
      exact ⟨_, _, _, rfl, by simp, rfl, .inr ⟨rfl, by simp only [upd_get, ↓reduceIte]⟩⟩
theorem sizes_run {H : Heap} {vx vy : Value} {x y : Int} (hx : R H vx (ints (nf x))) (hy : R H vy (ints (nf y))) (x0 : 0 ≤ x) (y0 : 0 ≤ y) (lx : (nf x).length ≤ 900) (ly : (nf y).length ≤ 900) (n : Nat) (hn : 1002 ≤ n) :
    evB Try.prog noC n (.func (.func 115) #[] #[]) [vx, vy] H = some (vi (cmpZ x y), H) := by
  refine run_of (F := 1001) (Q := fun r => r = some (vi (cmpZ x y), H)) (fun n hn => ?_) n hn
  rw [body_runS Try.func115 rfl (ok_fn (by rfl) Try.func115 rfl) (Nat.le_of_ble_eq_true rfl) (D := D0) (by kernel_rfl)]
  by_cases hl : (nf x).length = (nf y).length
  · have c1 : (((nf x).length : Int) = (nf y).length) := by omega
    have e1 : IntKind.i64.wrap (((nf y).length : Int) - 1) = ((nf y).length : Int) - 1 := wr64 (by omega) (by omega)
    have key := fun (A : Fr) => sizes_loop hx hy x0 y0 lx hl n n Try.f115.ntmps (by omega) (a := A) (k := n) (by omega)
    rw [show szA = atC [1, 1, 0, 1, 0, 0] ((Try.f115.body).getD .skip) from rfl] at key
    simp only [Try.f115, Option.getD_some, atC] at key
    simp (disch := omega) only [Try.f115, es_seq, es_region, es_cond, es_block, es_loop, es_skip, es_ret, ops_nil, ops_cons, st_move, st_assign, sy_len uL, sy_bin, binS_neq, binS_sub, bindO_some, bindF_some, bindX_normal, condX_false, ev_tmp, ev_const, putA, upd_at, Option.map_some, ↓reduceIte, Nat.reduceEqDiff, frOf_0, frOf_1, decide_true, Bool.not_true, ↓bindO_some, ↓bindF_some, ↓bindX_normal, ↓condX_false, hx.lenI, hy.lenI, c1, e1]
    generalize hA : upd _ 5 _ = A
    obtain ⟨r, a', H', e, hH, h⟩ := key A (by subst hA; rfl) (by subst hA; rfl) (by subst hA; rw [c1]; rfl)
    subst hH
    rw [e]
    rcases h with ⟨rfl, rfl⟩ | ⟨rfl, h4⟩
    · have c2 : cmpZ x x = 0 := by simp [cmpZ]
      simp (disch := omega) only [bindX_normal, blkX_exit, upd_at, Option.map_some, ↓reduceIte, ↓bindX_normal, fin_r, res_nil, res_tmp, pack_1, scal_vi, c2]
    · simp (disch := omega) only [bindX_ret, blkX_ret, Option.map_some, ↓bindX_ret, fin_r, res_nil, res_tmp, pack_1, scal_vi, h4]
  · have c1 : ¬ (((nf x).length : Int) = (nf y).length) := by omega
    have s1 := compare_run (((nf x).length : Nat) : Int) (((nf y).length : Nat) : Int) H n (by omega)
    have e2 : cmpZ (((nf x).length : Nat) : Int) (((nf y).length : Nat) : Int) = cmpZ x y := by
      unfold cmpZ
      by_cases hlt : (nf x).length < (nf y).length
      · rw [if_pos (by omega), if_pos (nf_len_lt x0 y0 hlt)]
      · have hgt : (nf y).length < (nf x).length := by omega
        have := nf_len_lt y0 x0 hgt
        rw [if_neg (by omega), if_pos (by omega), if_neg (by omega), if_pos this]
    simp (disch := omega) only [Try.f115, es_seq, es_region, es_cond, es_ret, ops_nil, ops_cons, st_move, st_assign, st_fun, sy_len uL, sy_bin, binS_neq, bindO_some, bindF_some, bindX_normal, bindX_ret, condX_true, ev_tmp, ev_const, ev_func, putA, upd_at, Option.map_some, ↓reduceIte, Nat.reduceEqDiff, frOf_0, frOf_1, List.map_cons, List.map_nil, decide_false, Bool.not_false, ↓bindO_some, ↓bindF_some, ↓bindX_normal, ↓bindX_ret, ↓condX_true, fin_r, res_nil, res_tmp, pack_1, scal_vi, hx.lenI, hy.lenI, c1, s1, e2]
theorem sign_run {C : Nat} {H : Heap} {w : Value} {z : Int} (hw : WF H) (hv : Wh C H w z) (hl : (nf z.natAbs).length ≤ 900) (n : Nat) (hn : 10 ≤ n) :
    ∃ H', evB Try.prog noC n (.func (.func 145) #[] #[]) [w] H = some (vi (cmpZ z 0), H') ∧ Old H.length H H' ∧ WF H' := by
  obtain ⟨v, rfl, hr⟩ := hv
  have hr := hr.R
  generalize hnb : decide (z < 0) = nb
  refine run_of (F := 9) (Q := fun r => ∃ H', r = some (vi (cmpZ z 0), H') ∧ Old H.length H H' ∧ WF H') (fun n hn => ?_) n hn
  rw [body_runS Try.func145 rfl (ok_fn (by rfl) Try.func145 rfl) (Nat.le_of_ble_eq_true rfl) (D := D0) (by kernel_rfl)]
  have oldb := Old.app H [.cells H.length true [.bool nb, v]]
  have wfb := hw.app (Nat.le_refl H.length) (o := true) (cs := [.bool nb, v])
  have bb := BxM.made (B := H.length) (H := H) (Nat.le_refl _) [.bool nb, v]
  have f0 := bb.faddr 0
  have f1 := bb.faddr 1
  have l1 : loadS (bx (ptrA H.length 0) 1) (H ++ [.cells H.length true [.bool nb, v]]) = some v := bb.load 1
  have l0 : loadS (bx (ptrA H.length 0) 0) (H ++ [.cells H.length true [.bool nb, v]]) = some (.bool nb) := bb.load 0
  have hlen := hr.lenI
  by_cases hz : z = 0
  · subst hz
    have c1 : (((nf ((0 : Int).natAbs : Int)).length : Nat) : Int) = 0 := by rw [show ((0 : Int).natAbs : Int) = 0 from rfl, nf_zero]; rfl
    have e : cmpZ 0 0 = 0 := rfl
    simp (disch := omega) only [Try.f145, es_seq, es_region, es_cond, es_block, es_ret, ops_nil, ops_cons, st_assign, sy_len uL, sy_bin, binS_eql, bindO_some, bindF_some, bindX_normal, bindX_ret, blkX_ret, condX_true, ev_tmp, ev_const, putA, upd_at, Option.map_some, ↓reduceIte, Nat.reduceEqDiff, frOf_0, decide_true, ↓bindO_some, ↓bindF_some, ↓bindX_normal, ↓bindX_ret, ↓condX_true, fin_r, res_nil, res_tmp, pack_1, scal_vi, sy_load aL, sy_faddr fW1, sy_box, scal_agg, f1, l1, hlen, c1, e]
    exact ⟨_, rfl, oldb, wfb⟩
  · have hne : (nf z.natAbs).length ≠ 0 := fun h => by have := nf_nil.1 (List.eq_nil_of_length_eq_zero h); omega
    have c1 : ¬ (((nf z.natAbs).length : Nat) : Int) = 0 := by omega
    cases nb with
    | true =>
      have e : cmpZ z 0 = -1 := if_pos (by simpa using hnb)
      simp (disch := omega) only [Try.f145, es_seq, es_region, es_cond, es_block, es_ret, ops_nil, ops_cons, st_assign, sy_len uL, sy_bin, binS_eql, bindO_some, bindF_some, bindX_normal, bindX_ret, blkX_ret, condX_true, condX_false, ev_tmp, ev_const, putA, upd_at, Option.map_some, ↓reduceIte, Nat.reduceEqDiff, frOf_0, decide_false, ↓bindO_some, ↓bindF_some, ↓bindX_normal, ↓bindX_ret, ↓condX_true, ↓condX_false, fin_r, res_nil, res_tmp, pack_1, scal_vi, sy_load aL, sy_load aB, sy_faddr fW0, sy_faddr fW1, sy_box, scal_agg, f1, l1, hlen, c1, f0, l0, e]
      exact ⟨_, rfl, oldb, wfb⟩
    | false =>
      have hn' : ¬ z < 0 := by simpa using hnb
      have e : cmpZ z 0 = 1 := by unfold cmpZ; rw [if_neg hn', if_pos (by omega)]
      simp (disch := omega) only [Try.f145, es_seq, es_region, es_cond, es_block, es_skip, es_ret, ops_nil, ops_cons, st_assign, sy_len uL, sy_bin, binS_eql, bindO_some, bindF_some, bindX_normal, blkX_normal, condX_false, ev_tmp, ev_const, putA, upd_at, Option.map_some, ↓reduceIte, Nat.reduceEqDiff, frOf_0, decide_false, ↓bindO_some, ↓bindF_some, ↓bindX_normal, ↓condX_false, fin_r, res_nil, res_tmp, pack_1, scal_vi, sy_load aL, sy_load aB, sy_faddr fW0, sy_faddr fW1, sy_box, scal_agg, f1, l1, hlen, c1, f0, l0, e]
      exact ⟨_, rfl, oldb, wfb⟩
theorem minus_run {H : Heap} {v : Value} {z : Int} (hw : WF H) (hr : R H v (ints (nf z.natAbs))) (n : Nat) (hn : 10 ≤ n) :
    ∃ H', evB Try.prog noC n (.func (.func 85) #[] #[]) [.agg #[.bool (decide (z < 0)), v]] H = some (.agg #[.bool (decide (-z < 0)), v], H') ∧ Old H.length H H' ∧ WF H' := by
  generalize hnb : decide (z < 0) = nb
  refine run_of (F := 9) (Q := fun r => ∃ H', r = some (.agg #[.bool (decide (-z < 0)), v], H') ∧ Old H.length H H' ∧ WF H') (fun n hn => ?_) n hn
  rw [body_runS Try.func85 rfl (ok_fn (by rfl) Try.func85 rfl) (Nat.le_of_ble_eq_true rfl) (D := D0) (by kernel_rfl)]
  have oldb := Old.app H [.cells H.length true [.bool nb, v]]
  have wfb := hw.app (Nat.le_refl H.length) (o := true) (cs := [.bool nb, v])
  have bb := BxM.made (B := H.length) (H := H) (Nat.le_refl _) [.bool nb, v]
  have oldc := Old.app (H ++ [.cells H.length true [.bool nb, v]]) [.cells (H ++ [Blk.cells H.length true [.bool nb, v]]).length true [.bool false, .slice none 0 0]]
  have wfc := wfb.app (Nat.le_refl _) (o := true) (cs := [.bool false, .slice none 0 0])
  have cc := BxM.made (B := (H ++ [Blk.cells H.length true [.bool nb, v]]).length) (H := H ++ [.cells H.length true [.bool nb, v]]) (Nat.le_refl _) [.bool false, .slice none 0 0]
  generalize hH1 : H ++ [Blk.cells H.length true [.bool nb, v]] = H1 at *
  generalize hH2 : H1 ++ [Blk.cells H1.length true [.bool false, .slice none 0 0]] = H2 at *
  have bb2 := bb.mono oldc
  have f0 := bb.faddr 0
  have f1 := bb.faddr 1
  have l1 : loadS (bx (ptrA H.length 0) 1) H2 = some v := bb2.load 1
  have l0 : loadS (bx (ptrA H.length 0) 0) H2 = some (.bool nb) := bb2.load 0
  have hlen := hr.lenI
  have old02 := oldb.trans (oldc.mono oldb.1)
  have e1 : decide (-z < 0) = (!nb && decide ((0 : Int) < (nf z.natAbs).length)) := by
    rw [← hnb]
    by_cases hz : z = 0
    · subst hz
      rw [show ((0 : Int).natAbs : Int) = 0 from rfl, nf_zero]; rfl
    · have hne : (nf z.natAbs).length ≠ 0 := fun h => by have := nf_nil.1 (List.eq_nil_of_length_eq_zero h); omega
      rw [show decide ((0 : Int) < ((nf z.natAbs).length : Nat)) = true from by simp; omega, Bool.and_true, ← decide_not, decide_eq_decide]
      omega
  generalize hsb : decide (-z < 0) = sb at *
  obtain ⟨H3, s3, bb3, old3, wf3, keep3⟩ := bb2.set wfc (i := 0) (by simp) (v := .bool sb) rfl
  have s3 : storeS (bx (ptrA H.length 0) 0) (.bool sb) H2 = some H3 := s3
  have l3 : loadN 2 (ptrA H.length 0) H3 = some (.agg #[.bool sb, v]) := bb3.loadAll
  obtain ⟨H4, s4, cc4, old4, wf4, keep4⟩ := (cc.kept keep3 (Nat.le_refl _)).store wf3 (vs := [.bool sb, v]) rfl
  have s4 : storeN 2 (ptrA H1.length 0) (.agg #[.bool sb, v]) H3 = some H4 := s4
  have l4 : loadN 2 (ptrA H1.length 0) H4 = some (.agg #[.bool sb, v]) := cc4.loadAll
  have oldf := (old02.trans old3).trans (old4.mono oldb.1)
  cases nb with
  | true =>
    have e1 : sb = false := by simpa using e1
    subst e1
    simp (disch := omega) only [Try.f85, es_seq, es_region, es_ret, ops_nil, ops_cons, ops_consG, st_move, sy_pick, pickS_false, st_not, bindO_some, bindF_some, bindX_normal, iteB_false, ev_tmp, ev_const, putA, upd_at, Option.map_some, ↓reduceIte, Nat.reduceEqDiff, frOf_0, Bool.not_true, yieldO_eq, yO, yV_bool, some_true, List.getElem?_cons_zero, List.getElem?_cons_succ, ↓bindO_some, ↓bindF_some, ↓bindX_normal, ↓iteB_false, fin_r, res_nil, pack_1, sy_load aB, sy_store zB, sy_faddr fW0, sy_loadN aW zW, sy_storeN zW, sy_alloc iW scal_agg, sy_box, res_cell aW zW, scal_agg, hH1, hH2, f0, l0, s3, l3, s4, l4]
    exact ⟨_, rfl, oldf, wf4⟩
  | false =>
    rw [Bool.not_false, Bool.true_and] at e1
    simp (disch := omega) only [Try.f85, es_seq, es_region, es_ret, ops_nil, ops_cons, ops_consG, st_move, sy_pick, pickS_true, sy_len uL, sy_bin, st_not, binS_gtr, bindO_some, bindF_some, bindX_normal, iteB_true, ev_tmp, ev_const, putA, upd_at, Option.map_some, ↓reduceIte, Nat.reduceEqDiff, frOf_0, Bool.not_false, yieldO_eq, yO, yV_bool, List.getElem?_cons_zero, List.getElem?_cons_succ, beq_self_eq_true, ↓bindO_some, ↓bindF_some, ↓bindX_normal, ↓iteB_true, fin_r, res_nil, pack_1, sy_load aL, sy_load aB, sy_store zB, sy_faddr fW0, sy_faddr fW1, sy_loadN aW zW, sy_storeN zW, sy_alloc iW scal_agg, sy_box, res_cell aW zW, scal_agg, hH1, hH2, f0, l0, f1, l1, hlen, ← e1, s3, l3, s4, l4]
    exact ⟨_, rfl, oldf, wf4⟩
end Go.Proofs.Ytmmgdgmjkhcfaaa
namespace Go.Proofs.Ytmmgdgmjkhcfaaa
open Go Go.Abs Go.Num
set_option maxRecDepth 10000
attribute [local congr] bindO_congr bindF_congr bindX_congr condX_congr iteB_congr binS_congr pickS_congr eqB_congr nilS_congr clsW_congr
noncomputable def timA : Code := atC [1, 1, 1, 0, 1, 0, 0] ((Try.f88.body).getD .skip)
noncomputable def timB : Code := atC [1, 1, 1, 0, 1, 0, 0, 1, 1, 0, 0, 1, 1, 0, 1, 0, 0] ((Try.f88.body).getD .skip)
theorem app_getD {l z : List Int} {j : Nat} (h : j < l.length) : (l ++ z).getD j 0 = l.getD j 0 := by
  rw [List.getD_eq_getElem?_getD, List.getD_eq_getElem?_getD, List.getElem?_append_left h]
theorem app_set {l z : List Int} {j : Nat} (h : j < l.length) (x : Int) : (l ++ z).set j x = l.set j x ++ z := List.set_append_left _ _ h
theorem tim_inner {B0 : Nat} {H : Heap} {vb vo : Value} {w q : Int} {i : Nat} {lo z : List Int} (hb : ∀ G, Old B0 H G → R G vb (ints (nf w))) (w0 : 0 ≤ w) (lw : (nf w).length ≤ 400) (hq : 0 ≤ q ∧ q < 100000000) (ho : O B0 H vo (ints (lo ++ z))) (hlo : lo.length = i + (nf w).length) (hd : Dg lo) (hi : i ≤ 400) (hw : WF H) (call : CallF) (m nt : Nat) {a : Fr} {k : Nat} (hk : (nf w).length < k)
    (h5 : a 5 = vo) (h6 : a 6 = vi i) (h7 : a 7 = vi q) (h8 : a 8 = vi 0) (h40 : a 40 = vb) (h41 : a 41 = vi (nf w).length) (h42 : a 42 = vi (0 : Nat)) {v2 v3 v4 v32 v33 v34 : Value} (h2 : a 2 = v2) (h3 : a 3 = v3) (h4 : a 4 = v4) (h32 : a 32 = v32) (h33 : a 33 = v33) (h34 : a 34 = v34) :
    ∃ r a' H', loopN (evT Try.prog call m nt none D1 timB) k a H = some (r, a', H') ∧ r = .exit 2 ∧ (a' 5 = vo ∧ a' 6 = vi i ∧ a' 2 = v2 ∧ a' 3 = v3 ∧ a' 4 = v4 ∧ a' 32 = v32 ∧ a' 33 = v33 ∧ a' 34 = v34) ∧ Old B0 H H' ∧ WF H' ∧ ∃ lo' c, a' 8 = vi c ∧ O B0 H' vo (ints (lo' ++ z)) ∧ lo'.length = lo.length ∧ Dg lo' ∧ 0 ≤ c ∧ c < 100000000 ∧ val lo' + B ^ (i + (nf w).length) * c = val lo + B ^ i * (q * w) := by
  refine loop_up (nf w).length (fun j a H' => (a 5 = vo ∧ a 6 = vi i ∧ a 2 = v2 ∧ a 3 = v3 ∧ a 4 = v4 ∧ a 32 = v32 ∧ a 33 = v33 ∧ a 34 = v34) ∧ a 7 = vi q ∧ a 40 = vb ∧ a 41 = vi (nf w).length ∧ a 42 = vi j ∧ Old B0 H H' ∧ WF H' ∧ ∃ lo' c, a 8 = vi c ∧ O B0 H' vo (ints (lo' ++ z)) ∧ lo'.length = lo.length ∧ Dg lo' ∧ 0 ≤ c ∧ c < 100000000 ∧ val lo' + B ^ (i + j) * c = val lo + B ^ i * (q * val ((nf w).take j))) _ ?_ ?_ hk
    ⟨⟨h5, h6, h2, h3, h4, h32, h33, h34⟩, h7, h40, h41, h42, Old.refl _ _, hw, lo, 0, h8, ho, rfl, hd, by omega, by omega, by simp [val]⟩
  · intro j a H' hj ⟨⟨h5, h6, h2, h3, h4, h32, h33, h34⟩, h7, h40, h41, h42, old, hw, lo', c, h8, ho, hl, hd, c0, c1, hval⟩
    left
    rw [show timB = atC [1, 1, 1, 0, 1, 0, 0, 1, 1, 0, 0, 1, 1, 0, 1, 0, 0] ((Try.f88.body).getD .skip) from rfl]
    have hm := (nf_dg w0).getD j
    have hx := hd.getD (i + j)
    have hp := prod_le hq hm
    have hrb := hb H' old
    have hro := ho.R
    have hjl : i + j < lo'.length := by omega
    have hlt : (j : Int) < (nf w).length := by omega
    have e0 : IntKind.i64.wrap ((i : Int) + (j : Int)) = ((i + j : Nat) : Int) := by rw [wr64 (by omega) (by omega)]; omega
    have a1 : addrS 1 vo (vi ((i + j : Nat) : Int)) = some (pt vo (i + j)) := by have := hro.addrI (i := ((i + j : Nat) : Int)) (by omega) (by rw [List.length_append]; omega); rwa [Int.toNat_natCast] at this
    have l1 : loadS (pt vo (i + j)) H' = some (vi (lo'.getD (i + j) 0)) := by rw [hro.loadI (by rw [List.length_append]; omega), app_getD hjl]
    have e1 : IntKind.i64.wrap (q * (nf w).getD j 0) = q * (nf w).getD j 0 := wr64 (by omega) (by omega)
    have e2 : IntKind.i64.wrap (lo'.getD (i + j) 0 + q * (nf w).getD j 0) = lo'.getD (i + j) 0 + q * (nf w).getD j 0 := wr64 (by omega) (by omega)
    have e3 : IntKind.i64.wrap (lo'.getD (i + j) 0 + q * (nf w).getD j 0 + c) = lo'.getD (i + j) 0 + q * (nf w).getD j 0 + c := wr64 (by omega) (by omega)
    have e4 : (lo'.getD (i + j) 0 + q * (nf w).getD j 0 + c).tmod 100000000 = (lo'.getD (i + j) 0 + q * (nf w).getD j 0 + c) % 100000000 := tmod_pos (by omega) _
    have e5 : (lo'.getD (i + j) 0 + q * (nf w).getD j 0 + c).tdiv 100000000 = (lo'.getD (i + j) 0 + q * (nf w).getD j 0 + c) / 100000000 := tdiv_pos (by omega) _
    have e6 : IntKind.i64.wrap ((lo'.getD (i + j) 0 + q * (nf w).getD j 0 + c) / 100000000) = (lo'.getD (i + j) 0 + q * (nf w).getD j 0 + c) / 100000000 := wr64 (by omega) (by omega)
    have e7 : IntKind.i64.wrap ((j : Int) + 1) = ((j + 1 : Nat) : Int) := by rw [wr64 (by omega) (by omega)]; omega
    obtain ⟨H2, s2, o2, old2, wf2⟩ := ho.setI hw (i := i + j) (by rw [List.length_append]; omega) ((lo'.getD (i + j) 0 + q * (nf w).getD j 0 + c) % 100000000)
    rw [app_set hjl] at o2
    simp (disch := omega) only [Try.f88, Option.getD_some, atC, es_seq, es_region, es_cond, es_block, es_skip, ops_nil, ops_cons, st_move, st_assign, sy_addr eL, sy_load aI, sy_store zI, sy_bin, binS_lss, binS_add, binS_mul, binS_quo, binS_rem, bindO_some, bindF_some, bindX_normal, blkX_normal, condX_true, ev_tmp, ev_const, putA, upd_at, Option.map_some, ↓reduceIte, Nat.reduceEqDiff, Int.toNat_natCast, decide_true, ↓bindO_some, ↓bindF_some, ↓bindX_normal, ↓condX_true, h5, h6, h7, h8, h40, h41, h42, hlt, hrb.addrI, hrb.loadI, e0, a1, l1, e1, e2, e3, e4, e5, e6, s2, e7]
    refine ⟨_, _, rfl, ⟨h5, h6, h2, h3, h4, h32, h33, h34⟩, h7, h40, h41, rfl, old.trans old2, wf2, _, (lo'.getD (i + j) 0 + q * (nf w).getD j 0 + c) / 100000000, rfl, o2, by rw [List.length_set]; exact hl, hd.set _ (by omega) (by omega), by omega, by omega, ?_⟩
    rw [show i + (j + 1) = i + j + 1 from rfl, times_step hjl, hval, val_take_succ, Int.mul_add, Int.mul_add, Int.pow_add, Int.mul_left_comm q (B ^ j), Int.mul_assoc (B ^ i) (B ^ j)]
    omega
  · intro a H' ⟨hs, h7, h40, h41, h42, old, hw, lo', c, h8, ho, hl, hd, c0, c1, hval⟩
    rw [show timB = atC [1, 1, 1, 0, 1, 0, 0, 1, 1, 0, 0, 1, 1, 0, 1, 0, 0] ((Try.f88.body).getD .skip) from rfl]
    simp (disch := omega) only [Try.f88, Option.getD_some, atC, es_seq, es_region, es_cond, es_exit, ops_nil, ops_cons, sy_bin, binS_lss, bindO_some, bindF_some, bindX_normal, bindX_exit, condX_false, ev_tmp, putA, upd_at, ↓reduceIte, decide_false, ↓bindO_some, ↓bindF_some, ↓bindX_normal, ↓bindX_exit, ↓condX_false, h41, h42, Int.lt_irrefl]
    exact ⟨_, _, _, rfl, by simp, rfl, by simpa only [upd_at, ↓reduceIte, Nat.reduceEqDiff] using hs, old, hw, lo', c, h8, ho, hl, hd, c0, c1, by rw [hval, List.take_length, nf_val]⟩
theorem repl_snoc (l : List Int) (c : Int) {n : Nat} (h : 0 < n) : (l ++ List.replicate n 0).set l.length c = (l ++ [c]) ++ List.replicate (n - 1) 0 := by
  rw [List.set_append_right _ _ (Nat.le_refl _), Nat.sub_self, List.append_assoc]
  obtain ⟨m, rfl⟩ : ∃ m, n = m + 1 := ⟨n - 1, by omega⟩
  rw [List.replicate_succ]; rfl
theorem tim_outer {B0 : Nat} {H : Heap} {va vb vo p2 p3 p4 q3 : Value} {u w : Int} (hB : B0 ≤ H.length) (f31 : faddrS 1 p3 = some q3) (l31 : ∀ G, Old B0 H G → loadS q3 G = some vb) (ha : ∀ G, Old B0 H G → R G va (ints (nf u))) (hb : ∀ G, Old B0 H G → R G vb (ints (nf w))) (u0 : 0 ≤ u) (w0 : 0 ≤ w) (lu : (nf u).length ≤ 400) (lw : (nf w).length ≤ 400) (ho : O B0 H vo (ints (List.replicate ((nf w).length + (nf u).length) 0))) (hw : WF H) (call : CallF) (m nt : Nat) (hm : 1000 ≤ m) {a : Fr} {k : Nat} (hk : (nf u).length < k)
    (h2 : a 2 = p2) (h3 : a 3 = p3) (h4 : a 4 = p4) (h5 : a 5 = vo) (h32 : a 32 = va) (h33 : a 33 = vi (nf u).length) (h34 : a 34 = vi (0 : Nat)) :
    ∃ r a' H', loopN (evT Try.prog call m nt none D1 timA) k a H = some (r, a', H') ∧ r = .exit 0 ∧ a' 2 = p2 ∧ a' 3 = p3 ∧ a' 4 = p4 ∧ a' 5 = vo ∧ Old B0 H H' ∧ WF H' ∧ ∃ lo, O B0 H' vo (ints lo) ∧ Dg lo ∧ lo.length = (nf u).length + (nf w).length ∧ val lo = u * w := by
  refine loop_up (nf u).length (fun i a H' => a 2 = p2 ∧ a 3 = p3 ∧ a 4 = p4 ∧ a 5 = vo ∧ a 32 = va ∧ a 33 = vi (nf u).length ∧ a 34 = vi i ∧ Old B0 H H' ∧ WF H' ∧ ∃ lo, O B0 H' vo (ints (lo ++ List.replicate ((nf u).length - i) 0)) ∧ lo.length = i + (nf w).length ∧ Dg lo ∧ val lo = val ((nf u).take i) * w) _ ?_ ?_ hk
    ⟨h2, h3, h4, h5, h32, h33, h34, Old.refl _ _, hw, List.replicate (nf w).length 0, by rw [Nat.sub_zero, List.replicate_append_replicate]; exact ho, by simp, fun x hx => by have := List.eq_of_mem_replicate hx; subst this; unfold B; omega, by simp [val, val_zeros]⟩
  · intro i a H' hi ⟨h2, h3, h4, h5, h32, h33, h34, old, hw, lo, ho, hl, hd, hval⟩
    left
    rw [show timA = atC [1, 1, 1, 0, 1, 0, 0] ((Try.f88.body).getD .skip) from rfl]
    have hlt : (i : Int) < (nf u).length := by omega
    have hra := ha H' old
    have hrb := hb H' old
    have ld1 := l31 H' old
    have hq := (nf_dg u0).getD i
    have key := fun (A : Fr) => tim_inner (fun G hG => hb G (old.trans hG)) w0 lw hq ho (by omega) hd (by omega) hw call m nt (a := A) (k := m) (by omega)
    rw [show timB = atC [1, 1, 1, 0, 1, 0, 0, 1, 1, 0, 0, 1, 1, 0, 1, 0, 0] ((Try.f88.body).getD .skip) from rfl] at key
    simp only [Try.f88, Option.getD_some, atC] at key
    have e1 : IntKind.i64.wrap ((i : Int) + ((nf w).length : Int)) = ((i + (nf w).length : Nat) : Int) := by rw [wr64 (by omega) (by omega)]; omega
    have e2 : IntKind.i64.wrap ((i : Int) + 1) = ((i + 1 : Nat) : Int) := by rw [wr64 (by omega) (by omega)]; omega
    simp (disch := omega) only [Try.f88, Option.getD_some, atC, es_seq, es_region, es_cond, es_block, es_loop, es_skip, ops_nil, ops_cons, st_move, st_assign, sy_len uL, sy_addr eL, sy_load aI, sy_store zI, sy_bin, binS_lss, bindO_some, bindF_some, bindX_normal, condX_true, ev_tmp, ev_const, putA, upd_at, Option.map_some, ↓reduceIte, Nat.reduceEqDiff, Int.toNat_natCast, decide_true, ↓bindO_some, ↓bindF_some, ↓bindX_normal, ↓condX_true, sy_load aL, sy_faddr fW1, h3, h32, h33, h34, hlt, f31, ld1, hra.addrI, hra.loadI, hrb.lenI]
    generalize hA : upd _ 42 _ = A
    obtain ⟨r, a', H2, e, hr, ⟨g5, g6, g2, g3, g4, g32, g33, g34⟩, old2, wf2, lo', c, g8, ho', hl', hd', c0, c1, hval'⟩ := key A (by subst hA; exact h5) (by subst hA; rfl) (by subst hA; rfl) (by subst hA; rfl) (by subst hA; rfl) (by subst hA; rfl) (by subst hA; rfl) (by subst hA; exact h2) (by subst hA; exact h3) (by subst hA; exact h4) (by subst hA; exact h32) (by subst hA; exact h33) (by subst hA; exact h34)
    subst hr
    rw [e]
    clear e key
    have ld2 := l31 H2 (old.trans old2)
    have hrb2 := hb H2 (old.trans old2)
    have ro := ho'.R
    have a1 : addrS 1 vo (vi ((i + (nf w).length : Nat) : Int)) = some (pt vo (i + (nf w).length)) := by have := ro.addrI (i := ((i + (nf w).length : Nat) : Int)) (by omega) (by rw [List.length_append, List.length_replicate]; omega); rwa [Int.toNat_natCast] at this
    obtain ⟨H3, s3, o3, old3, wf3⟩ := ho'.setI wf2 (i := i + (nf w).length) (by rw [List.length_append, List.length_replicate]; omega) c
    rw [show i + (nf w).length = lo'.length from by omega, repl_snoc _ _ (by omega)] at o3
    simp (disch := omega) only [binS_add, bindO_some, bindF_some, bindX_normal, blkX_normal, blkX_exit, upd_at, Option.map_some, ↓reduceIte, Nat.reduceEqDiff, ↓bindO_some, ↓bindF_some, ↓bindX_normal, g3, g5, g6, g8, g34, f31, ld2, hrb2.lenI, e1, a1, s3, e2]
    refine ⟨_, _, rfl, g2, g3, g4, g5, g32, g33, rfl, (old.trans old2).trans old3, wf3, lo' ++ [c], by rw [show (nf u).length - (i + 1) = (nf u).length - i - 1 from by omega]; exact o3, by rw [List.length_append, List.length_singleton]; omega, hd'.app (Dg.one c0 c1), ?_⟩
    rw [val_snoc, hl', hl, hval', hval, val_take_succ, Int.add_mul, Int.mul_assoc]
  · intro a H' ⟨h2, h3, h4, h5, h32, h33, h34, old, hw, lo, ho, hl, hd, hval⟩
    rw [show timA = atC [1, 1, 1, 0, 1, 0, 0] ((Try.f88.body).getD .skip) from rfl]
    simp (disch := omega) only [Try.f88, Option.getD_some, atC, es_seq, es_region, es_cond, es_exit, ops_nil, ops_cons, sy_bin, binS_lss, bindO_some, bindF_some, bindX_normal, bindX_exit, condX_false, ev_tmp, putA, upd_at, ↓reduceIte, decide_false, ↓bindO_some, ↓bindF_some, ↓bindX_normal, ↓bindX_exit, ↓condX_false, h33, h34, Int.lt_irrefl]
    rw [Nat.sub_self, List.replicate_zero, List.append_nil] at ho
    exact ⟨_, _, _, rfl, by simp, rfl, h2, h3, h4, h5, old, hw, lo, ho, hd, hl, by rw [hval, List.take_length, nf_val]⟩
theorem tim_r16 {H H6 : Heap} {px py p4 vo d : Value} {nx ny : Bool} (call : CallF) (k nt : Nat) (rd : Option Nat) {a : Fr} {q0 q1 : Value} (h2 : a 2 = px) (h3 : a 3 = py) (h4 : a 4 = p4) (h5 : a 5 = vo) (f0 : faddrS 0 px = some q0) (f1 : faddrS 0 py = some q1)
    (l0 : ∀ G, G = H ∨ G = H6 → loadS q0 G = some (.bool nx)) (l1 : ∀ G, G = H ∨ G = H6 → loadS q1 G = some (.bool ny))
    (s1 : call (.func (.func 114) #[] #[]) [vo] H = some (d, H)) (sd : Abs.scal d = some [d]) (s3 : storeN 2 p4 (.agg #[.bool (!(nx == ny)), d]) H = some H6) :
    ∃ a' H', evT Try.prog call k nt rd D1 (atC [1, 1, 1, 1, 0] ((Try.f88.body).getD .skip)) a H = some (.normal, a', H') ∧ H' = H6 ∧ a' 4 = p4 := by
  simp only [Try.f88, Option.getD_some, atC]
  refine et_from (fun a' H' => H' = H6 ∧ a' 4 = p4) ?_
  have e0 := l0 H (.inl rfl)
  have e1 := l1 H (.inl rfl)
  simp (disch := omega) only [st_move, st_fun, bindO_some, ev_tmp, ev_func, putA, upd_at, Option.map_some, ↓reduceIte, Nat.reduceEqDiff, List.map_cons, List.map_nil, ↓bindO_some, sy_load aB, sy_faddr fW0, sy_storeN zW, sy_build, sy_ne nB, eqB_bool, Bool.true_xor, opsW_nil, opsW_cons, clsW_eff, clsW_read, clsW_pure, ↓clsW_eff, ↓clsW_read, ↓clsW_pure, cls_move, cls_bin, cls_load, cls_callF, cls_store, cls_faddr, cls_build, h2, h3, h4, h5, f0, f1, e0, e1, s1, bW2 (!(nx == ny)) d sd, s3]
  refine ⟨_, rfl, ?_, rfl, ?_⟩
  · intro G hG r hr
    simp only [List.mem_cons, List.not_mem_nil, or_false] at hG hr
    have hG' : G = H ∨ G = H6 := by
      rcases hG with h | h | h
      · exact .inr h
      all_goals exact .inl h
    have e0 := l0 G hG'
    have e1 := l1 G hG'
    rcases hr with rfl | rfl
    all_goals simp only [still_ld aB, ev_tmp, upd_at, ↓reduceIte, vEq_bool, e0, e1]
  · simp only [upd_at, ↓reduceIte, Nat.reduceEqDiff, h4]
theorem mul_sign {x y : Int} {nx ny : Bool} (hx : decide (x < 0) = nx) (hy : decide (y < 0) = ny) (h1 : x ≠ 0) (h2 : y ≠ 0) : decide (x * y < 0) = !(nx == ny) := by
  subst hx; subst hy
  rcases Int.lt_or_gt_of_ne h1 with a | a <;> rcases Int.lt_or_gt_of_ne h2 with b | b
  · have := Int.mul_pos_of_neg_of_neg a b
    simp [a, b]; omega
  · have := Int.mul_neg_of_neg_of_pos a b
    have c : ¬ y < 0 := by omega
    simp [a, c, this]
  · have := Int.mul_neg_of_pos_of_neg a b
    have c : ¬ x < 0 := by omega
    simp [b, c, this]
  · have := Int.mul_pos a b
    have c : ¬ x < 0 := by omega
    have d : ¬ y < 0 := by omega
    simp [c, d]; omega
theorem times_run {C : Nat} {H : Heap} {wx wy : Value} {x y : Int} (hw : WF H) (hx : Wh C H wx x) (hy : Wh C H wy y) (lx : (nf x.natAbs).length ≤ 390) (ly : (nf y.natAbs).length ≤ 390) (n : Nat) (hn : 2010 ≤ n) :
    OneW H (evB Try.prog noC n (.func (.func 88) #[] #[]) [wx, wy] H) (x * y) := by
  obtain ⟨vx, rfl, hx⟩ := hx
  obtain ⟨vy, rfl, hy⟩ := hy
  have hx := hx.R
  have hy := hy.R
  generalize hnx : decide (x < 0) = nx
  generalize hny : decide (y < 0) = ny
  refine run_of (F := 2009) (Q := fun r => OneW H r (x * y)) (fun n hn => ?_) n hn
  rw [body_runS Try.func88 rfl (ok_fn (by rfl) Try.func88 rfl) (Nat.le_of_ble_eq_true rfl) (D := D1) (by kernel_rfl)]
  have old1 := Old.app H [.cells H.length true [.bool nx, vx]]
  have wf1 := hw.app (Nat.le_refl H.length) (o := true) (cs := [.bool nx, vx])
  have b1 := BxM.made (B := H.length) (H := H) (Nat.le_refl _) [.bool nx, vx]
  generalize hH1 : H ++ [Blk.cells H.length true [.bool nx, vx]] = H1 at *
  have old2 := Old.app H1 [.cells H1.length true [.bool ny, vy]]
  have wf2 := wf1.app (Nat.le_refl H1.length) (o := true) (cs := [.bool ny, vy])
  have b2 := BxM.made (B := H1.length) (H := H1) (Nat.le_refl _) [.bool ny, vy]
  generalize hH2 : H1 ++ [Blk.cells H1.length true [.bool ny, vy]] = H2 at *
  have old3 := Old.app H2 [.cells H2.length true [.bool false, .slice none 0 0]]
  have wf3 := wf2.app (Nat.le_refl H2.length) (o := true) (cs := [.bool false, .slice none 0 0])
  have b3 := BxM.made (B := H2.length) (H := H2) (Nat.le_refl _) [.bool false, .slice none 0 0]
  generalize hH3 : H2 ++ [Blk.cells H2.length true [.bool false, .slice none 0 0]] = H3 at *
  have old13 := old2.trans (old3.mono old2.1)
  have old03 := old1.trans (old13.mono old1.1)
  have b1 := b1.mono old13
  have b2 := b2.mono old3
  have f10 := b1.faddr 0
  have f11 := b1.faddr 1
  have f20 := b2.faddr 0
  have f21 := b2.faddr 1
  have l11 : loadS (bx (ptrA H.length 0) 1) H3 = some vx := b1.load 1
  have l21 : loadS (bx (ptrA H1.length 0) 1) H3 = some vy := b2.load 1
  have hx3 := hx.mono old03
  have hy3 := hy.mono old03
  have hlx := hx.lenI
  have hly := hy.lenI
  -- the end: the box of the result
  have fin : ∀ (H4 : Heap) (v : Value) (nb : Bool) (z : Int), Old H3.length H3 H4 → WF H4 → RO H3.length H4 v (ints (nf z.natAbs)) → decide (z < 0) = nb → ∃ H5, storeN 2 (ptrA H2.length 0) (.agg #[.bool nb, v]) H4 = some H5 ∧ loadN 2 (ptrA H2.length 0) H5 = some (.agg #[.bool nb, v]) ∧ OneW H (some (.agg #[.bool nb, v], H5)) z ∧ Old H2.length H3 H5 := by
    intro H4 v nb z old4 wf4 r4 hz
    obtain ⟨H5, s5, b5, old5, wf5, keep5⟩ := (b3.mono old4).store wf4 (vs := [.bool nb, v]) rfl
    exact ⟨H5, s5, b5.loadAll, ⟨_, _, rfl, ⟨v, by rw [hz], (r4.kept keep5).below old03.1⟩, (old03.trans (old4.mono old03.1)).trans (old5.mono (Nat.le_trans old1.1 old2.1)), wf5⟩, (old4.mono old3.1).trans old5⟩
  by_cases hx0 : x = 0
  · have hz : x * y = 0 := by rw [hx0]; exact Int.zero_mul y
    have e0 : ((nf x.natAbs).length : Int) = 0 := by rw [hx0, show ((0 : Int).natAbs : Int) = 0 from rfl, nf_zero]; rfl
    have e1 : decide (((nf x.natAbs).length : Int) = 0) = true := by rw [e0]; rfl
    obtain ⟨H5, s5, s6, ow, _⟩ := fin H3 (.slice none 0 0) false (x * y) (Old.refl _ _) wf3 (by rw [hz, show ((0 : Int).natAbs : Int) = 0 from rfl, nf_zero]; exact .inl ⟨rfl, rfl⟩) (by rw [hz]; rfl)
    simp (disch := omega) only [Try.f88, es_seq, es_region, es_cond, es_ret, ops_nil, ops_cons, ops_consG, st_move, sy_pick, pickS_true, sy_len uL, sy_bin, binS_eql, bindO_some, bindF_some, bindX_normal, bindX_ret, condX_true, iteB_false, ev_tmp, ev_const, putA, upd_at, Option.map_some, ↓reduceIte, Nat.reduceEqDiff, frOf_0, frOf_1, List.map_nil, Bool.not_true, yieldO_eq, yO, yV_bool, some_false, List.getElem?_cons_zero, List.getElem?_cons_succ, ↓bindO_some, ↓bindF_some, ↓bindX_normal, ↓bindX_ret, ↓condX_true, ↓iteB_false, fin_r, res_nil, pack_1, sy_load aL, sy_faddr fW1, sy_storeN zW, sy_alloc iW scal_agg, sy_box, sy_build, bW0, res_cell aW zW, scal_agg, hH1, hH2, hH3, f11, l11, hlx, e1, s5, s6]
    exact ow
  · have ex : decide (((nf x.natAbs).length : Int) = 0) = false := decide_eq_false (by have := (nf_last (z := (x.natAbs : Int)) (by omega)).1; omega)
    by_cases hy0 : y = 0
    · have hz : x * y = 0 := by rw [hy0]; exact Int.mul_zero x
      have e0 : ((nf y.natAbs).length : Int) = 0 := by rw [hy0, show ((0 : Int).natAbs : Int) = 0 from rfl, nf_zero]; rfl
      have e1 : decide (((nf y.natAbs).length : Int) = 0) = true := by rw [e0]; rfl
      obtain ⟨H5, s5, s6, ow, _⟩ := fin H3 (.slice none 0 0) false (x * y) (Old.refl _ _) wf3 (by rw [hz, show ((0 : Int).natAbs : Int) = 0 from rfl, nf_zero]; exact .inl ⟨rfl, rfl⟩) (by rw [hz]; rfl)
      simp (disch := omega) only [Try.f88, es_seq, es_region, es_cond, es_ret, ops_nil, ops_cons, ops_consG, st_move, sy_pick, pickS_false, sy_len uL, sy_bin, binS_eql, bindO_some, bindF_some, bindX_normal, bindX_ret, condX_true, iteB_true, ev_tmp, ev_const, putA, upd_at, Option.map_some, ↓reduceIte, Nat.reduceEqDiff, frOf_0, frOf_1, List.map_nil, yieldO_eq, yO, yV_bool, List.getElem?_cons_zero, List.getElem?_cons_succ, beq_self_eq_true, ↓bindO_some, ↓bindF_some, ↓bindX_normal, ↓bindX_ret, ↓condX_true, ↓iteB_true, fin_r, res_nil, pack_1, sy_load aL, sy_faddr fW1, sy_storeN zW, sy_alloc iW scal_agg, sy_box, sy_build, bW0, res_cell aW zW, scal_agg, hH1, hH2, hH3, f11, f21, l11, l21, hlx, hly, ex, e1, s5, s6]
      exact ow
    · have ey : decide (((nf y.natAbs).length : Int) = 0) = false := decide_eq_false (by have := (nf_last (z := (y.natAbs : Int)) (by omega)).1; omega)
      have hsg := mul_sign hnx hny hx0 hy0
      have hab : ((x * y).natAbs : Int) = x.natAbs * y.natAbs := by rw [Int.natAbs_mul]; exact Int.natCast_mul ..
      have e1 : IntKind.i64.wrap (((nf x.natAbs).length : Int) + ((nf y.natAbs).length : Int)) = (((nf y.natAbs).length + (nf x.natAbs).length : Nat) : Int) := by rw [wr64 (by omega) (by omega)]; omega
      have c2 : (0 : Int) ≤ (((nf y.natAbs).length + (nf x.natAbs).length : Nat) : Int) := by omega
      have c3 : (((nf y.natAbs).length + (nf x.natAbs).length : Nat) : Int) ≤ 1048576 := by omega
      have hz := zeros_I ((nf y.natAbs).length + (nf x.natAbs).length)
      have hlr : (ints (List.replicate ((nf y.natAbs).length + (nf x.natAbs).length) (0 : Int))).length = (nf y.natAbs).length + (nf x.natAbs).length := by rw [ints_len, List.length_replicate]
      have or := O.made (B := H3.length) (Nat.le_refl H3.length) (ints (List.replicate ((nf y.natAbs).length + (nf x.natAbs).length) (0 : Int)))
      rw [hlr] at or
      have oldm := Old.app H3 [.cells H3.length true (ints (List.replicate ((nf y.natAbs).length + (nf x.natAbs).length) (0 : Int)))]
      have wfm := wf3.app (Nat.le_refl H3.length) (o := true) (cs := ints (List.replicate ((nf y.natAbs).length + (nf x.natAbs).length) (0 : Int)))
      have l11m : loadS (bx (ptrA H.length 0) 1) (H3 ++ [.cells H3.length true (ints (List.replicate ((nf y.natAbs).length + (nf x.natAbs).length) (0 : Int)))]) = some vx := (b1.mono (oldm.mono (by have := old2.1; have := old3.1; omega))).load 1
      have key := fun (A : Fr) => tim_outer (p2 := ptrA H.length 0) (p4 := ptrA H2.length 0) oldm.1 f21 (fun G hG => (b2.mono ((oldm.trans hG).mono old3.1)).load 1) (fun G hG => hx3.mono (oldm.trans hG)) (fun G hG => hy3.mono (oldm.trans hG)) (by omega) (by omega) (by omega) (by omega) or wfm (evB Try.prog noC n) n Try.f88.ntmps (by omega) (a := A) (k := n) (by omega)
      rw [show timA = atC [1, 1, 1, 0, 1, 0, 0] ((Try.f88.body).getD .skip) from rfl] at key
      have kr := fun (A : Fr) {G G' : Heap} {vo d : Value} => tim_r16 (H := G) (H6 := G') (px := ptrA H.length 0) (py := ptrA H1.length 0) (p4 := ptrA H2.length 0) (vo := vo) (d := d) (nx := nx) (ny := ny) (evB Try.prog noC n) n Try.f88.ntmps none (a := A) (q0 := bx (ptrA H.length 0) 0) (q1 := bx (ptrA H1.length 0) 0)
      simp only [Try.f88, Option.getD_some, atC] at key kr
      simp (disch := omega) only [Try.f88, es_seq, es_region, es_cond, es_block, es_loop, es_skip, es_ret, ops_nil, ops_cons, ops_consG, st_move, st_assign, sy_pick, pickS_false, sy_len uL, sy_bin, sy_make eL yI (by decide), binS_eql, binS_add, bindO_some, bindF_some, bindX_normal, condX_false, iteB_true, ev_tmp, ev_const, putA, upd_at, Option.map_some, ↓reduceIte, Nat.reduceEqDiff, Int.toNat_natCast, frOf_0, frOf_1, yieldO_eq, yO, yV_bool, List.getElem?_cons_zero, List.getElem?_cons_succ, beq_self_eq_true, ↓bindO_some, ↓bindF_some, ↓bindX_normal, ↓condX_false, ↓iteB_true, sy_load aL, sy_faddr fW1, sy_alloc iW scal_agg, sy_box, scal_agg, hH1, hH2, hH3, f11, f21, l11, l21, hlx, hly, ex, ey, e1, c2, c3, Int.le_refl, and_self, hz, l11m]
      generalize hA : upd _ 34 _ = A
      obtain ⟨r, a', H', e, hr, g2, g3, g4, g5, old4, wf4, lo, ol, hd, hll, hval⟩ := key A (by subst hA; rfl) (by subst hA; rfl) (by subst hA; rfl) (by subst hA; rfl) (by subst hA; rfl) (by subst hA; rfl) (by subst hA; rfl)
      subst hr
      rw [e]
      clear e key
      have old34 := oldm.trans old4
      obtain ⟨d, sd, rd⟩ := trimmed_run ol.RO (by omega) n (by omega)
      rw [nf_of_digs hd hval, ← hab] at rd
      obtain ⟨H5, s5, s6, ow, old5⟩ := fin H' d _ (x * y) old34 wf4 rd hsg
      have old5' := old5.mono old2.1
      have old35 := old34.mono (Nat.le_trans old2.1 old3.1)
      obtain ⟨a2, H2', e2, hH', g4'⟩ := kr a' (G := H') (G' := H5) g2 g3 g4 g5 f10 f20 (fun G h => by
        rcases h with rfl | rfl
        · exact (b1.mono old35).load 0
        · exact (b1.mono old5').load 0) (fun G h => by
        rcases h with rfl | rfl
        · exact (b2.mono (old34.mono old3.1)).load 0
        · exact (b2.mono old5).load 0) sd rd.R.scal s5
      subst hH'
      simp (disch := omega) only [bindX_normal, blkX_exit, ↓reduceIte, ↓bindX_normal]
      rw [e2]
      simp (disch := omega) only [bindX_normal, Option.map_some, ↓bindX_normal, fin_r, res_nil, pack_1, res_cell aW zW, g4', s6]
      exact ow
end Go.Proofs.Ytmmgdgmjkhcfaaa
namespace Go.Proofs.Ytmmgdgmjkhcfaaa
open Go Go.Abs Go.Num
set_option maxRecDepth 10000
attribute [local congr] bindO_congr bindF_congr bindX_congr condX_congr iteB_congr binS_congr pickS_congr eqB_congr nilS_congr clsW_congr
theorem abs_len (z : Int) : (nf z.natAbs).length = (nf z).length := by
  rw [← nf_abs]
  split
  · rw [List.length_map]
  · rfl
theorem neg_len (z : Int) : (nf (-z)).length = (nf z).length := by rw [← nf_neg', List.length_map]
theorem add_len {x y : Int} {k : Nat} (hx : (nf x).length ≤ k) (hy : (nf y).length ≤ k) : (nf (x + y)).length ≤ k + 1 := by
  have a := nf_size x
  have b := nf_size y
  have c := pow_le hx
  have d := pow_le hy
  have e := pow_succ' k
  have f := pow_pos k
  exact nf_len (by omega) (by omega)
theorem of_run {H : Heap} {z : Int} (hw : WF H) (h1 : -4000000000000000000 ≤ z) (h2 : z ≤ 4000000000000000000) (n : Nat) (hn : 2004 ≤ n) :
    OneL H (evB Try.prog noC n (.func (.func 79) #[] #[]) [vi z] H) (nf z) := by
  refine run_of (F := 2003) (Q := fun r => OneL H r (nf z)) (fun n hn => ?_) n hn
  rw [body_runS Try.func79 rfl (ok_fn (by rfl) Try.func79 rfl) (Nat.le_of_ble_eq_true rfl) (D := D0) (by kernel_rfl)]
  obtain ⟨w, H1, s1, w1, old1, wf1⟩ := small_run hw h1 h2 n (by omega)
  have hl : (nf z).length ≤ 3 := nf_len (by rw [show B ^ 3 = 1000000000000000000000000 from rfl]; omega) (by rw [show B ^ 3 = 1000000000000000000000000 from rfl]; omega)
  obtain ⟨v, H2, s2, o2, old2, wf2⟩ := list_run wf1 w1 (by rw [abs_len]; omega) n (by omega)
  simp (disch := omega) only [Try.f79, es_seq, es_region, es_ret, ops_nil, ops_cons, st_move, st_assign, st_fun, bindO_some, bindF_some, bindX_normal, ev_tmp, ev_const, ev_func, putA, upd_at, Option.map_some, ↓reduceIte, Nat.reduceEqDiff, frOf_0, List.map_cons, List.map_nil, ↓bindO_some, ↓bindF_some, ↓bindX_normal, fin_r, res_nil, res_tmp, pack_1, s1, s2, o2.R.scal]
  exact ⟨_, _, rfl, o2.below old1.1, old1.trans (old2.mono old1.1), wf2⟩
theorem mulP_run {H : Heap} {vx vy : Value} {x y : Int} (hw : WF H) (hx : NumV H vx x) (hy : NumV H vy y) (lx : (nf x).length ≤ 390) (ly : (nf y).length ≤ 390) (n : Nat) (hn : 2012 ≤ n) :
    OneL H (evB Try.prog noC n (.func (.func 39) #[] #[]) [vx, vy] H) (nf (x * y)) := by
  refine run_of (F := 2011) (Q := fun r => OneL H r (nf (x * y))) (fun n hn => ?_) n hn
  rw [body_runS Try.func39 rfl (ok_fn (by rfl) Try.func39 rfl) (Nat.le_of_ble_eq_true rfl) (D := D0) (by kernel_rfl)]
  obtain ⟨wx, H1, s1, w1, old1, wf1⟩ := read_run hw hx n (by omega)
  obtain ⟨wy, H2, s2, w2, old2, wf2⟩ := read_run wf1 (hy.mono old1) n (by omega)
  obtain ⟨wz, H3, s3, w3, old3, wf3⟩ := times_run wf2 (w1.mono old2) (w2.below old1.1) (by rw [abs_len]; omega) (by rw [abs_len]; omega) n (by omega)
  obtain ⟨v, H4, s4, o4, old4, wf4⟩ := list_run wf3 w3 (by rw [abs_len]; have := nf_len_mul x y; omega) n (by omega)
  simp (disch := omega) only [Try.f39, es_seq, es_region, es_ret, ops_nil, ops_cons, st_move, st_assign, st_fun, bindO_some, bindF_some, bindX_normal, ev_tmp, ev_const, ev_func, putA, upd_at, Option.map_some, ↓reduceIte, Nat.reduceEqDiff, frOf_0, frOf_1, List.map_cons, List.map_nil, ↓bindO_some, ↓bindF_some, ↓bindX_normal, fin_r, res_nil, res_tmp, pack_1, s1, s2, s3, s4, o4.R.scal]
  have old12 := old1.trans (old2.mono old1.1)
  have old13 := old12.trans (old3.mono old12.1)
  exact ⟨_, _, rfl, o4.below old13.1, old13.trans (old4.mono old13.1), wf4⟩
noncomputable def shoA : Code := atC [1, 1, 0, 1, 0, 0] ((Try.f154.body).getD .skip)
theorem sho_loop {H0 H : Heap} {va vo : Value} {x y : Int} (ha : ∀ G, Old H0.length H0 G → R G va (ints (nf x))) (x0 : 0 ≤ x) (y0 : 0 < y) (y1 : y < 100000000) (lx : (nf x).length ≤ 900) (old : Old H0.length H0 H) (hw : WF H)
    (ho : O H0.length H vo (ints (List.replicate (nf x).length 0))) (call : CallF) (m nt : Nat) {a : Fr} {k : Nat} (hk : (nf x).length < k)
    (h0 : a 0 = va) (h1 : a 1 = vi y) (h6 : a 6 = vo) (h7 : a 7 = vi 0) (h8 : a 8 = vi (((nf x).length : Int) - 1)) :
    ∃ r a' H', loopN (evS Try.prog call m nt none shoA) k a H = some (r, a', H') ∧ r = .exit 0 ∧ Old H0.length H0 H' ∧ WF H' ∧ a' 6 = vo ∧ a' 7 = vi (x % y) ∧ ∃ lo, O H0.length H' vo (ints lo) ∧ Dg lo ∧ val lo = x / y ∧ lo.length ≤ 900 := by
  refine loop_wf (fun j a H' => j ≤ (nf x).length ∧ a 0 = va ∧ a 1 = vi y ∧ a 6 = vo ∧ a 8 = vi ((j : Int) - 1) ∧ Old H0.length H0 H' ∧ WF H' ∧ ∃ lo t, a 7 = vi t ∧ O H0.length H' vo (ints lo) ∧ lo.length = (nf x).length ∧ Dg lo ∧ 0 ≤ t ∧ t < y ∧ val ((nf x).drop j) = y * val (lo.drop j) + t ∧ val (lo.take j) = 0) _ ?_ k (nf x).length a H hk
    ⟨Nat.le_refl _, h0, h1, h6, h8, old, hw, _, 0, h7, ho, by simp, fun z hz => by have := List.eq_of_mem_replicate hz; subst this; unfold B; omega, by omega, by omega, by rw [List.drop_length, List.drop_eq_nil_of_le (by simp)]; simp [val], by rw [List.take_replicate, val_zeros]⟩
  intro j a H' ⟨hj, h0, h1, h6, h8, old, hw, lo, t, h7, ho, hl, hd, t0, t1, hval, hz⟩
  rw [show shoA = atC [1, 1, 0, 1, 0, 0] ((Try.f154.body).getD .skip) from rfl]
  by_cases hj0 : j = 0
  · subst hj0
    right
    have c1 : decide ((0 : Int) ≤ ((0 : Nat) : Int) - 1) = false := rfl
    simp (disch := omega) only [Try.f154, Option.getD_some, atC, es_seq, es_region, es_cond, es_exit, ops_nil, ops_cons, st_move, sy_bin, binS_geq, bindO_some, bindF_some, bindX_normal, bindX_exit, condX_false, ev_tmp, ev_const, putA, upd_at, ↓reduceIte, ↓bindO_some, ↓bindF_some, ↓bindX_normal, ↓bindX_exit, ↓condX_false, h8, c1]
    rw [List.drop_zero, List.drop_zero, nf_val] at hval
    have e1 : x / y = val lo := by
      rw [hval, Int.add_comm, Int.add_mul_ediv_left _ _ (by omega), Int.ediv_eq_zero_of_lt t0 t1, Int.zero_add]
    have e2 : x % y = t := by
      rw [hval, Int.add_comm, Int.add_mul_emod_self_left, Int.emod_eq_of_lt t0 t1]
    exact ⟨_, _, _, rfl, by simp, rfl, old, hw, h6, by simp only [upd_at, ↓reduceIte, Nat.reduceEqDiff, h7, e2], lo, ho, hd, e1.symm, by omega⟩
  · obtain ⟨i, rfl⟩ : ∃ i, j = i + 1 := ⟨j - 1, by omega⟩
    left
    rw [show ((i + 1 : Nat) : Int) - 1 = (i : Int) from by omega] at h8
    have c1 : (0 : Int) ≤ (i : Int) := by omega
    have e1 : IntKind.i64.wrap ((i : Int) - 1) = (i : Int) - 1 := wr64 (by omega) (by omega)
    have hx := ha H' old
    have hro := ho.R
    have hdi := (nf_dg x0).getD i
    have e2 : IntKind.i64.wrap (t * 100000000) = t * 100000000 := wr64 (by omega) (by omega)
    have e3 : IntKind.i64.wrap (t * 100000000 + (nf x).getD i 0) = t * 100000000 + (nf x).getD i 0 := wr64 (by omega) (by omega)
    have hs0 : 0 ≤ t * 100000000 + (nf x).getD i 0 := by omega
    have hs1 : t * 100000000 + (nf x).getD i 0 < 100000000 * y := by omega
    have hq0 : 0 ≤ (t * 100000000 + (nf x).getD i 0) / y := Int.ediv_nonneg hs0 (by omega)
    have hq1 : (t * 100000000 + (nf x).getD i 0) / y < 100000000 := Int.ediv_lt_of_lt_mul y0 (by omega)
    have e4 : (t * 100000000 + (nf x).getD i 0).tdiv y = (t * 100000000 + (nf x).getD i 0) / y := tdiv_pos hs0 _
    have e5 : (t * 100000000 + (nf x).getD i 0).tmod y = (t * 100000000 + (nf x).getD i 0) % y := tmod_pos hs0 _
    have e6 : IntKind.i64.wrap ((t * 100000000 + (nf x).getD i 0) / y) = (t * 100000000 + (nf x).getD i 0) / y := wr64 (by omega) (by omega)
    obtain ⟨H2, s2, o2, old2, wf2⟩ := ho.setI hw (i := i) (by omega) ((t * 100000000 + (nf x).getD i 0) / y)
    have hy0 : y ≠ 0 := by omega
    simp (disch := omega) only [Try.f154, Option.getD_some, atC, es_seq, es_region, es_draw, d0, es_cond, es_block, es_skip, ops_nil, ops_cons, opsV_nil, opsV_cons, st_move, st_assign, sy_addr eL, sy_load aI, sy_store zI, sy_bin, binS_geq, binS_add, binS_sub, binS_mul, binS_quo, binS_rem, bindO_some, bindF_some, bindX_normal, blkX_normal, condX_true, iteB_true, iteB_false, ev_tmp, ev_const, putA, upd_at, Option.map_some, ↓reduceIte, Nat.reduceEqDiff, Int.toNat_natCast, decide_true, ↓bindO_some, ↓bindF_some, ↓bindX_normal, ↓condX_true, ↓iteB_true, ↓iteB_false, reflV_move, reflV_assign, reflV_bin, reflV_addr, reflV_store, h0, h1, h6, h7, h8, c1, hx.addrI, hx.loadI, hro.addrI, e1, e2, e3, e4, e5, e6, s2]
    refine ⟨_, _, rfl, i, by omega, by omega, h0, h1, h6, rfl, old.trans old2, wf2, _, _, by simp only [upd_at, ↓reduceIte, Nat.reduceEqDiff]; rfl, o2, by rw [List.length_set]; exact hl, hd.set i hq0 hq1, Int.emod_nonneg _ hy0, Int.emod_lt_of_pos _ y0, ?_, ?_⟩
    · have := div_step (A := nf x) (ql := lo) (i := i) (by omega) (by omega) y0 hval
      rw [show (nf x).getD i 0 + B * t = t * 100000000 + (nf x).getD i 0 from by unfold B; omega] at this
      exact this
    · rw [List.take_set_of_le (Nat.le_refl i)]
      have e := val_take_succ lo i
      rw [hz] at e
      have h1 := (hd.take i).val.1
      have h2 := hd.getD i
      have h3 := Int.mul_nonneg (Int.le_of_lt (pow_pos i)) h2.1
      omega
theorem short_run {H : Heap} {va : Value} {x y : Int} (hw : WF H) (ha : R H va (ints (nf x))) (x0 : 0 ≤ x) (y0 : 0 < y) (y1 : y < 100000000) (lx : (nf x).length ≤ 900) (n : Nat) (hn : 2010 ≤ n) :
    ∃ v H', evB Try.prog noC n (.func (.func 154) #[] #[]) [va, vi y] H = some (.tuple #[v, vi (x % y)], H') ∧ RO H.length H' v (ints (nf (x / y))) ∧ Old H.length H H' ∧ WF H' := by
  refine run_of (F := 2009) (Q := fun r => ∃ v H', r = some (.tuple #[v, vi (x % y)], H') ∧ RO H.length H' v (ints (nf (x / y))) ∧ Old H.length H H' ∧ WF H') (fun n hn => ?_) n hn
  rw [body_runS Try.func154 rfl (ok_fn (by rfl) Try.func154 rfl) (Nat.le_of_ble_eq_true rfl) (D := D0) (by kernel_rfl)]
  have hz := zeros_I (nf x).length
  have hlr : (ints (List.replicate (nf x).length (0 : Int))).length = (nf x).length := by rw [ints_len, List.length_replicate]
  have or := O.made (B := H.length) (Nat.le_refl H.length) (ints (List.replicate (nf x).length (0 : Int)))
  rw [hlr] at or
  have oldm := Old.app H [.cells H.length true (ints (List.replicate (nf x).length (0 : Int)))]
  have wfm := hw.app (Nat.le_refl H.length) (o := true) (cs := ints (List.replicate (nf x).length (0 : Int)))
  have c2 : (0 : Int) ≤ ((nf x).length : Int) := by omega
  have c3 : ((nf x).length : Int) ≤ 1048576 := by omega
  have e1 : IntKind.i64.wrap (((nf x).length : Int) - 1) = ((nf x).length : Int) - 1 := wr64 (by omega) (by omega)
  have key := fun (A : Fr) => sho_loop (fun G hG => ha.mono hG) x0 y0 y1 lx oldm wfm or (evB Try.prog noC n) n Try.f154.ntmps (a := A) (k := n) (by omega)
  rw [show shoA = atC [1, 1, 0, 1, 0, 0] ((Try.f154.body).getD .skip) from rfl] at key
  simp only [Try.f154, Option.getD_some, atC] at key
  simp (disch := omega) only [Try.f154, es_seq, es_region, es_block, es_loop, es_ret, ops_nil, ops_cons, st_move, st_assign, st_fun, sy_len uL, sy_bin, sy_make eL yI (by decide), binS_sub, bindO_some, bindF_some, bindX_normal, ev_tmp, ev_const, ev_func, putA, upd_at, Option.map_some, ↓reduceIte, Nat.reduceEqDiff, Int.toNat_natCast, frOf_0, List.map_cons, List.map_nil, ↓bindO_some, ↓bindF_some, ↓bindX_normal, ha.lenI, c2, c3, Int.le_refl, and_self, hz, e1]
  generalize hA : upd _ 8 _ = A
  obtain ⟨r, a', H', e, hr, old2, wf2, h6, h7, lo, ol, hd, hval, hll⟩ := key A (by subst hA; rfl) (by subst hA; rfl) (by subst hA; rfl) (by subst hA; rfl) (by subst hA; rfl)
  subst hr
  rw [e]
  clear e key
  obtain ⟨d, sd, rd⟩ := trimmed_run ol.RO (by omega) n (by omega)
  rw [nf_of_digs hd hval] at rd
  simp (disch := omega) only [bindO_some, bindF_some, bindX_normal, blkX_exit, upd_at, Option.map_some, ↓reduceIte, Nat.reduceEqDiff, ↓bindO_some, ↓bindF_some, ↓bindX_normal, fin_r, res_nil, res_tmp, pack_2, scal_vi, h6, h7, sd, rd.R.scal]
  exact ⟨_, _, rfl, rd, old2, wf2⟩
end Go.Proofs.Ytmmgdgmjkhcfaaa
namespace Go.Proofs.Ytmmgdgmjkhcfaaa
open Go Go.Abs Go.Num
set_option maxRecDepth 10000
attribute [local congr] bindO_congr bindF_congr bindX_congr condX_congr iteB_congr binS_congr pickS_congr eqB_congr nilS_congr clsW_congr
theorem cpl_reset {l z : List Int} {i : Nat} {u w : Int} (hz : z.length = i) : (cpl l (z ++ [u]) (i + 1)).set i w = cpl l (z ++ [w]) (i + 1) := by
  unfold cpl
  rw [List.append_assoc, List.append_assoc, List.set_append_right _ _ (by omega), hz, Nat.sub_self]; rfl
theorem cpl_last {l z : List Int} {i : Nat} {u : Int} (hz : z.length = i) : (cpl l (z ++ [u]) (i + 1)).getD i 0 = u := by
  unfold cpl
  rw [List.getD_eq_getElem?_getD, List.append_assoc, List.getElem?_append_right (by omega), hz, Nat.sub_self]
  rfl
noncomputable def lesA : Code := atC [1, 1, 0, 1, 0, 0] ((Try.f116.body).getD .skip)
theorem les_loop {B0 : Nat} {H : Heap} {va vb : Value} {x y : Int} (ha : O B0 H va (ints (nf x))) (hb : ∀ H', Old B0 H H' → R H' vb (ints (nf y))) (x0 : 0 ≤ x) (y0 : 0 ≤ y) (hw : WF H) (lx : (nf x).length ≤ 900) (call : CallF) (m nt : Nat) {a : Fr} {k : Nat} (hk : (nf x).length < k)
    (h0 : a 0 = va) (h1 : a 1 = vb) (h5 : a 5 = vi 0) (h8 : a 8 = vi (nf x).length) (h9 : a 9 = vi (0 : Nat)) :
    ∃ r a' H', loopN (evS Try.prog call m nt none lesA) k a H = some (r, a', H') ∧ r = .exit 0 ∧ a' 0 = va ∧ Old B0 H H' ∧ WF H' ∧ ∃ sz b, O B0 H' va (ints sz) ∧ sz.length = (nf x).length ∧ Dg sz ∧ (b = 0 ∨ b = 1) ∧ val sz = x - val ((nf y).take (nf x).length) + b * B ^ (nf x).length := by
  refine loop_up (nf x).length (fun i a H' => a 0 = va ∧ a 1 = vb ∧ a 8 = vi (nf x).length ∧ a 9 = vi i ∧ Old B0 H H' ∧ WF H' ∧ ∃ sz b, a 5 = vi b ∧ O B0 H' va (ints (cpl (nf x) sz i)) ∧ sz.length = i ∧ Dg sz ∧ (b = 0 ∨ b = 1) ∧ val sz = val ((nf x).take i) - val ((nf y).take i) + b * B ^ i) _ ?_ ?_ hk
    ⟨h0, h1, h8, h9, Old.refl _ _, hw, [], 0, h5, by simpa [cpl] using ha, rfl, Dg.nil, .inl rfl, by simp [val]⟩
  · intro i a H' hi ⟨h0, h1, h8, h9, old, hw, sz, b, h5, ho, hsl, hds, hbb, hval⟩
    left
    rw [show lesA = atC [1, 1, 0, 1, 0, 0] ((Try.f116.body).getD .skip) from rfl]
    have hx := (nf_dg x0).getD i
    have hy := (nf_dg y0).getD i
    have hcl := cpl_len hsl (by omega : i ≤ (nf x).length)
    have hcg := cpl_get hsl hi
    have hlt : (i : Int) < (nf x).length := by omega
    have hr := ho.R
    have a1 : addrS 1 va (vi i) = some (pt va i) := by have := hr.addrI (i := (i : Int)) (by omega) (by omega); simpa using this
    have l1 : loadS (pt va i) H' = some (vi ((nf x).getD i 0)) := by rw [hr.loadI (by omega), hcg]
    have e1 : IntKind.i64.wrap ((nf x).getD i 0 - b) = (nf x).getD i 0 - b := wr64 (by omega) (by omega)
    have e3 : IntKind.i64.wrap ((i : Int) + 1) = ((i + 1 : Nat) : Int) := by rw [wr64 (by omega) (by omega)]; omega
    obtain ⟨H2, s2, o2, old2, wf2⟩ := ho.setI hw (i := i) (by omega) ((nf x).getD i 0 - b)
    rw [cpl_set hsl hi] at o2
    have hcl2 : ∀ u : Int, (cpl (nf x) (sz ++ [u]) (i + 1)).length = (nf x).length := fun u => cpl_len (by simp [hsl]) (by omega)
    have l2 : loadS (pt va i) H2 = some (vi ((nf x).getD i 0 - b)) := by rw [o2.R.loadI (by rw [hcl2]; exact hi), cpl_last hsl]
    have hb2 := hb H2 (old.trans old2)
    have hst := fun (b2 : Int) => less_step (x := (nf x).getD i 0) (y := (nf y).getD i 0) (b2 := b2) hsl hval
    rw [← val_take_succ, ← val_take_succ] at hst
    -- what stands behind the second difference
    have tail : ∀ (H3 : Heap), O B0 H3 va (ints (cpl (nf x) (sz ++ [(nf x).getD i 0 - b - (nf y).getD i 0]) (i + 1))) → WF H3 → Old B0 H H3 →
        loadS (pt va i) H3 = some (vi ((nf x).getD i 0 - b - (nf y).getD i 0)) ∧ ∃ H4, storeS (pt va i) (vi ((nf x).getD i 0 - b - (nf y).getD i 0 + 100000000)) H3 = some H4 ∧ O B0 H4 va (ints (cpl (nf x) (sz ++ [(nf x).getD i 0 - b - (nf y).getD i 0 + 100000000]) (i + 1))) ∧ WF H4 ∧ Old B0 H H4 := by
      intro H3 o3 wf3 old3
      refine ⟨by rw [o3.R.loadI (by rw [hcl2]; exact hi), cpl_last hsl], ?_⟩
      obtain ⟨H4, s4, o4, old4, wf4⟩ := o3.setI wf3 (i := i) (by rw [hcl2]; exact hi) ((nf x).getD i 0 - b - (nf y).getD i 0 + 100000000)
      rw [cpl_reset hsl] at o4
      exact ⟨H4, s4, o4, wf4, old3.trans old4⟩
    have e4 : IntKind.i64.wrap ((nf x).getD i 0 - b - (nf y).getD i 0) = (nf x).getD i 0 - b - (nf y).getD i 0 := wr64 (by omega) (by omega)
    have e5 : IntKind.i64.wrap ((nf x).getD i 0 - b - (nf y).getD i 0 + 100000000) = (nf x).getD i 0 - b - (nf y).getD i 0 + 100000000 := wr64 (by omega) (by omega)
    by_cases c2 : (i : Int) < (nf y).length
    · obtain ⟨H3, s3, o3, old3, wf3⟩ := o2.setI wf2 (i := i) (by rw [hcl2]; exact hi) ((nf x).getD i 0 - b - (nf y).getD i 0)
      rw [cpl_reset hsl] at o3
      obtain ⟨l3, H4, s4, o4, wf4, old4⟩ := tail H3 o3 wf3 ((old.trans old2).trans old3)
      by_cases c3 : (nf x).getD i 0 - b - (nf y).getD i 0 < 0
      · simp (disch := omega) only [Try.f116, Option.getD_some, atC, es_seq, es_region, es_draw, d0, es_cond, es_block, es_skip, ops_nil, ops_cons, opsV_nil, opsV_cons, st_move, st_assign, sy_len uL, sy_addr eL, sy_load aI, sy_store zI, sy_bin, binS_lss, binS_add, binS_sub, bindO_some, bindF_some, bindX_normal, blkX_normal, condX_true, iteB_true, iteB_false, ev_tmp, ev_const, putA, upd_at, Option.map_some, ↓reduceIte, Nat.reduceEqDiff, Int.toNat_natCast, decide_true, ↓bindO_some, ↓bindF_some, ↓bindX_normal, ↓condX_true, ↓iteB_true, ↓iteB_false, reflV_load, reflV_move, reflV_bin, reflV_addr, reflV_store, vEq_vi, h0, h1, h5, h8, h9, hlt, a1, l1, e1, s2, hb2.lenI, c2, l2, hb2.addrI, hb2.loadI, e4, s3, l3, c3, e5, s4, e3]
        exact ⟨_, _, rfl, by simp only [upd_get, ↓reduceIte, Nat.reduceEqDiff, h0], by simp only [upd_get, ↓reduceIte, Nat.reduceEqDiff, h1], by simp only [upd_get, ↓reduceIte, Nat.reduceEqDiff, h8], by simp only [upd_get, ↓reduceIte], old4, wf4, _, 1, by simp only [upd_get, ↓reduceIte, Nat.reduceEqDiff], o4, by simp [hsl], hds.app (Dg.one (by omega) (by unfold B; omega)), .inr rfl, by have := hst 1; rwa [Int.mul_one] at this⟩
      · simp (disch := omega) only [Try.f116, Option.getD_some, atC, es_seq, es_region, es_draw, d0, es_cond, es_block, es_skip, ops_nil, ops_cons, opsV_nil, opsV_cons, st_move, st_assign, sy_len uL, sy_addr eL, sy_load aI, sy_store zI, sy_bin, binS_lss, binS_add, binS_sub, bindO_some, bindF_some, bindX_normal, blkX_normal, condX_true, condX_false, iteB_true, iteB_false, ev_tmp, ev_const, putA, upd_at, Option.map_some, ↓reduceIte, Nat.reduceEqDiff, Int.toNat_natCast, decide_true, decide_false, ↓bindO_some, ↓bindF_some, ↓bindX_normal, ↓condX_true, ↓condX_false, ↓iteB_true, ↓iteB_false, reflV_load, reflV_move, reflV_bin, reflV_addr, reflV_store, vEq_vi, h0, h1, h5, h8, h9, hlt, a1, l1, e1, s2, hb2.lenI, c2, l2, hb2.addrI, hb2.loadI, e4, s3, l3, c3, e3]
        exact ⟨_, _, rfl, by simp only [upd_get, ↓reduceIte, Nat.reduceEqDiff, h0], by simp only [upd_get, ↓reduceIte, Nat.reduceEqDiff, h1], by simp only [upd_get, ↓reduceIte, Nat.reduceEqDiff, h8], by simp only [upd_get, ↓reduceIte], (old.trans old2).trans old3, wf3, _, 0, by simp only [upd_get, ↓reduceIte, Nat.reduceEqDiff], o3, by simp [hsl], hds.app (Dg.one (by omega) (by unfold B; omega)), .inl rfl, by have := hst 0; rwa [Int.mul_zero, Int.add_zero] at this⟩
    · have hz : (nf y).getD i 0 = 0 := by rw [List.getD_eq_getElem?_getD, List.getElem?_eq_none (by omega)]; rfl
      rw [hz, Int.sub_zero] at tail e5
      obtain ⟨_, H4, s4, o4, wf4, old4⟩ := tail H2 o2 wf2 (old.trans old2)
      rw [hz] at hst
      by_cases c3 : (nf x).getD i 0 - b < 0
      · simp (disch := omega) only [Try.f116, Option.getD_some, atC, es_seq, es_region, es_cond, es_block, es_skip, ops_nil, ops_cons, st_move, st_assign, sy_len uL, sy_addr eL, sy_load aI, sy_store zI, sy_bin, binS_lss, binS_add, binS_sub, bindO_some, bindF_some, bindX_normal, blkX_normal, condX_true, condX_false, ev_tmp, ev_const, putA, upd_at, Option.map_some, ↓reduceIte, Nat.reduceEqDiff, decide_true, decide_false, ↓bindO_some, ↓bindF_some, ↓bindX_normal, ↓condX_true, ↓condX_false, h0, h1, h5, h8, h9, hlt, a1, l1, e1, s2, hb2.lenI, c2, l2, c3, e5, s4, e3]
        exact ⟨_, _, rfl, by simp only [upd_get, ↓reduceIte, Nat.reduceEqDiff, h0], by simp only [upd_get, ↓reduceIte, Nat.reduceEqDiff, h1], by simp only [upd_get, ↓reduceIte, Nat.reduceEqDiff, h8], by simp only [upd_get, ↓reduceIte], old4, wf4, _, 1, by simp only [upd_get, ↓reduceIte, Nat.reduceEqDiff], o4, by simp [hsl], hds.app (Dg.one (by omega) (by unfold B; omega)), .inr rfl, by have := hst 1; rwa [Int.mul_one, Int.sub_zero] at this⟩
      · simp (disch := omega) only [Try.f116, Option.getD_some, atC, es_seq, es_region, es_cond, es_block, es_skip, ops_nil, ops_cons, st_move, st_assign, sy_len uL, sy_addr eL, sy_load aI, sy_store zI, sy_bin, binS_lss, binS_add, binS_sub, bindO_some, bindF_some, bindX_normal, blkX_normal, condX_true, condX_false, ev_tmp, ev_const, putA, upd_at, Option.map_some, ↓reduceIte, Nat.reduceEqDiff, decide_true, decide_false, ↓bindO_some, ↓bindF_some, ↓bindX_normal, ↓condX_true, ↓condX_false, h0, h1, h5, h8, h9, hlt, a1, l1, e1, s2, hb2.lenI, c2, l2, c3, e3]
        exact ⟨_, _, rfl, by simp only [upd_get, ↓reduceIte, Nat.reduceEqDiff, h0], by simp only [upd_get, ↓reduceIte, Nat.reduceEqDiff, h1], by simp only [upd_get, ↓reduceIte, Nat.reduceEqDiff, h8], by simp only [upd_get, ↓reduceIte], old.trans old2, wf2, _, 0, by simp only [upd_get, ↓reduceIte, Nat.reduceEqDiff], o2, by simp [hsl], hds.app (Dg.one (by omega) (by unfold B; omega)), .inl rfl, by have := hst 0; rwa [Int.mul_zero, Int.add_zero, Int.sub_zero] at this⟩
  · intro a H' ⟨h0, h1, h8, h9, old, hw, sz, b, h5, ho, hsl, hds, hbb, hval⟩
    rw [show lesA = atC [1, 1, 0, 1, 0, 0] ((Try.f116.body).getD .skip) from rfl]
    simp (disch := omega) only [Try.f116, Option.getD_some, atC, es_seq, es_region, es_cond, es_exit, ops_nil, ops_cons, sy_bin, binS_lss, bindO_some, bindF_some, bindX_normal, bindX_exit, condX_false, ev_tmp, putA, upd_at, ↓reduceIte, decide_false, ↓bindO_some, ↓bindF_some, ↓bindX_normal, ↓bindX_exit, ↓condX_false, h8, h9, Int.lt_irrefl]
    have e0 : cpl (nf x) sz (nf x).length = sz := by unfold cpl; rw [List.drop_length, List.append_nil]
    rw [e0] at ho
    exact ⟨_, _, _, rfl, by simp, rfl, by simp only [upd_get, ↓reduceIte, Nat.reduceEqDiff, h0], old, hw, sz, b, ho, hsl, hds, hbb, by rw [hval, List.take_length, nf_val]⟩
theorem les_run {B0 : Nat} {H : Heap} {va vb : Value} {x y : Int} (ha : O B0 H va (ints (nf x))) (hb : ∀ H', Old B0 H H' → R H' vb (ints (nf y))) (y0 : 0 ≤ y) (hxy : y ≤ x) (hw : WF H) (lx : (nf x).length ≤ 900) (n : Nat) (hn : 2002 ≤ n) :
    ∃ v' H', evB Try.prog noC n (.func (.func 116) #[] #[]) [va, vb] H = some (v', H') ∧ RO B0 H' v' (ints (nf (x - y))) ∧ Old B0 H H' ∧ WF H' := by
  refine run_of (F := 2001) (Q := fun r => ∃ v' H', r = some (v', H') ∧ RO B0 H' v' (ints (nf (x - y))) ∧ Old B0 H H' ∧ WF H') (fun n hn => ?_) n hn
  rw [body_runS Try.func116 rfl (ok_fn (by rfl) Try.func116 rfl) (Nat.le_of_ble_eq_true rfl) (D := D0) (by kernel_rfl)]
  have key := fun (A : Fr) => les_loop ha hb (by omega) y0 hw lx (evB Try.prog noC n) n Try.f116.ntmps (a := A) (k := n) (by omega)
  rw [show lesA = atC [1, 1, 0, 1, 0, 0] ((Try.f116.body).getD .skip) from rfl] at key
  simp only [Try.f116, Option.getD_some, atC] at key
  have hla := ha.R.lenI
  simp (disch := omega) only [Try.f116, es_seq, es_region, es_block, es_loop, es_ret, ops_nil, ops_cons, st_move, st_assign, st_fun, sy_len uL, bindO_some, bindF_some, bindX_normal, ev_tmp, ev_const, ev_func, putA, upd_at, Option.map_some, ↓reduceIte, Nat.reduceEqDiff, frOf_0, List.map_cons, List.map_nil, ↓bindO_some, ↓bindF_some, ↓bindX_normal, hla]
  generalize hA : upd _ 9 _ = A
  obtain ⟨r, a', H', e, hr, h0, old, wf, sz, b, ho, hsl, hds, hbb, hval⟩ := key A (by subst hA; rfl) (by subst hA; rfl) (by subst hA; rfl) (by subst hA; rfl) (by subst hA; rfl)
  subst hr
  rw [e]
  obtain ⟨v', s1, r1⟩ := trimmed_run ho.RO (by omega) n (by omega)
  simp (disch := omega) only [bindO_some, bindF_some, bindX_normal, blkX_exit, upd_at, Option.map_some, ↓reduceIte, ↓bindO_some, ↓bindF_some, ↓bindX_normal, fin_r, res_nil, res_tmp, pack_1, h0, s1, r1.R.scal]
  refine ⟨_, _, rfl, ?_, old, wf⟩
  rw [List.take_of_length_le (nf_len_mono y0 hxy), nf_val] at hval
  have hv := hds.val
  have hp := pow_pos (nf x).length
  rw [hsl] at hv
  have hb0 : b = 0 := by
    rcases hbb with h | h
    · exact h
    · subst h; omega
  subst hb0
  rw [Int.zero_mul, Int.add_zero] at hval
  rw [← nf_of_digs hds hval]
  exact r1
noncomputable def pluA : Code := atC [1, 0, 1, 0, 1, 1, 1, 1, 0, 1, 0, 0] ((Try.f84.body).getD .skip)
theorem plu_loop {B0 : Nat} {H : Heap} {vl vs vo p2 p4 : Value} {u w : Int} (hB : B0 ≤ H.length) (hlg : ∀ H', Old B0 H H' → R H' vl (ints (nf u))) (hsh : ∀ H', Old B0 H H' → R H' vs (ints (nf w))) (u0 : 0 ≤ u) (w0 : 0 ≤ w) (hlw : (nf w).length ≤ (nf u).length) (hw : WF H) (lu : (nf u).length ≤ 900) (ho : O B0 H vo (ints [])) (call : CallF) (m nt : Nat) {a : Fr} {k : Nat} (hk : (nf u).length < k)
    (h2 : a 2 = p2) (h4 : a 4 = p4) (h6 : a 6 = vs) (h7 : a 7 = vo) (h8 : a 8 = vi 0) (h31 : a 31 = vl) (h32 : a 32 = vi (nf u).length) (h33 : a 33 = vi (0 : Nat)) :
    ∃ r a' H', loopN (evT Try.prog call m nt none D1 pluA) k a H = some (r, a', H') ∧ r = .exit 0 ∧ a' 2 = p2 ∧ a' 4 = p4 ∧ Old B0 H H' ∧ WF H' ∧ ∃ vo out c, a' 7 = vo ∧ a' 8 = vi c ∧ O B0 H' vo (ints out) ∧ out.length = (nf u).length ∧ Dg out ∧ 0 ≤ c ∧ c ≤ 1 ∧ val out + B ^ out.length * c = u + w := by
  refine loop_up (nf u).length (fun i a H' => a 2 = p2 ∧ a 4 = p4 ∧ a 6 = vs ∧ a 31 = vl ∧ a 32 = vi (nf u).length ∧ a 33 = vi i ∧ Old B0 H H' ∧ WF H' ∧ ∃ vo out c, a 7 = vo ∧ a 8 = vi c ∧ O B0 H' vo (ints out) ∧ out.length = i ∧ Dg out ∧ 0 ≤ c ∧ c ≤ 1 ∧ val out + B ^ i * c = val ((nf u).take i) + val ((nf w).take i)) _ ?_ ?_ hk
    ⟨h2, h4, h6, h31, h32, h33, Old.refl _ _, hw, vo, [], 0, h7, h8, ho, rfl, Dg.nil, by omega, by omega, by simp [val]⟩
  · intro i a H' hi ⟨h2, h4, h6, h31, h32, h33, old, hw, vo, out, c, h7, h8, ho, hol, hd, c0, c1, hval⟩
    left
    rw [show pluA = atC [1, 0, 1, 0, 1, 1, 1, 1, 0, 1, 0, 0] ((Try.f84.body).getD .skip) from rfl]
    have hx := (nf_dg u0).getD i
    have hy := (nf_dg w0).getD i
    have hrl := hlg H' old
    have hrs := hsh H' old
    have hlt : (i : Int) < (nf u).length := by omega
    have e1 : IntKind.i64.wrap ((nf u).getD i 0 + c) = (nf u).getD i 0 + c := wr64 (by omega) (by omega)
    have e3 : IntKind.i64.wrap ((i : Int) + 1) = ((i + 1 : Nat) : Int) := by rw [wr64 (by omega) (by omega)]; omega
    have hst := plus_step (x := (nf u).getD i 0) (y := (nf w).getD i 0) hol hval
    rw [← val_take_succ, ← val_take_succ] at hst
    by_cases c2 : (i : Int) < (nf w).length
    · have e2 : IntKind.i64.wrap ((nf u).getD i 0 + c + (nf w).getD i 0) = (nf u).getD i 0 + c + (nf w).getD i 0 := wr64 (by omega) (by omega)
      have e4 : ((nf u).getD i 0 + c + (nf w).getD i 0).tdiv 100000000 = ((nf u).getD i 0 + c + (nf w).getD i 0) / 100000000 := tdiv_pos (by omega) _
      have e5 : ((nf u).getD i 0 + c + (nf w).getD i 0).tmod 100000000 = ((nf u).getD i 0 + c + (nf w).getD i 0) % 100000000 := tmod_pos (by omega) _
      have e6 : IntKind.i64.wrap (((nf u).getD i 0 + c + (nf w).getD i 0) / 100000000) = ((nf u).getD i 0 + c + (nf w).getD i 0) / 100000000 := wr64 (by omega) (by omega)
      obtain ⟨v2, H2, s2, o2, old2, wf2⟩ := ho.pushI hw (Nat.le_trans hB old.1) (by unfold maxA; omega) (((nf u).getD i 0 + c + (nf w).getD i 0) % 100000000)
      simp (disch := omega) only [Try.f84, Option.getD_some, atC, es_seq, es_region, es_cond, es_block, es_skip, ops_nil, ops_cons, st_move, st_assign, sy_len uL, sy_addr eL, sy_load aI, sy_bin, sy_append eL pI, sy_build1 eL oI, binS_lss, binS_add, binS_quo, binS_rem, bindO_some, bindF_some, bindX_normal, blkX_normal, condX_true, ev_tmp, ev_const, putA, upd_at, Option.map_some, ↓reduceIte, Nat.reduceEqDiff, Int.toNat_natCast, decide_true, ↓bindO_some, ↓bindF_some, ↓bindX_normal, ↓condX_true, scal_vi, h6, h7, h8, h31, h32, h33, hlt, hrl.addrI, hrl.loadI, e1, hrs.lenI, c2, hrs.addrI, hrs.loadI, e2, e4, e5, e6, s2, e3]
      exact ⟨_, _, rfl, by simp only [upd_get, ↓reduceIte, Nat.reduceEqDiff, h2], by simp only [upd_get, ↓reduceIte, Nat.reduceEqDiff, h4], by simp only [upd_get, ↓reduceIte, Nat.reduceEqDiff, h6], by simp only [upd_get, ↓reduceIte, Nat.reduceEqDiff, h31], by simp only [upd_get, ↓reduceIte, Nat.reduceEqDiff, h32], by simp only [upd_get, ↓reduceIte], old.trans old2, wf2, v2, _, _, by simp only [upd_get, ↓reduceIte, Nat.reduceEqDiff], by simp only [upd_get, ↓reduceIte, Nat.reduceEqDiff], o2, by simp [hol], hd.app (Dg.one (by omega) (by unfold B; omega)), by omega, by omega, hst⟩
    · have hz : (nf w).getD i 0 = 0 := by rw [List.getD_eq_getElem?_getD, List.getElem?_eq_none (by omega)]; rfl
      rw [hz, Int.add_zero] at hst
      have e4 : ((nf u).getD i 0 + c).tdiv 100000000 = ((nf u).getD i 0 + c) / 100000000 := tdiv_pos (by omega) _
      have e5 : ((nf u).getD i 0 + c).tmod 100000000 = ((nf u).getD i 0 + c) % 100000000 := tmod_pos (by omega) _
      have e6 : IntKind.i64.wrap (((nf u).getD i 0 + c) / 100000000) = ((nf u).getD i 0 + c) / 100000000 := wr64 (by omega) (by omega)
      obtain ⟨v2, H2, s2, o2, old2, wf2⟩ := ho.pushI hw (Nat.le_trans hB old.1) (by unfold maxA; omega) (((nf u).getD i 0 + c) % 100000000)
      simp (disch := omega) only [Try.f84, Option.getD_some, atC, es_seq, es_region, es_cond, es_block, es_skip, ops_nil, ops_cons, st_move, st_assign, sy_len uL, sy_addr eL, sy_load aI, sy_bin, sy_append eL pI, sy_build1 eL oI, binS_lss, binS_add, binS_quo, binS_rem, bindO_some, bindF_some, bindX_normal, blkX_normal, condX_true, condX_false, ev_tmp, ev_const, putA, upd_at, Option.map_some, ↓reduceIte, Nat.reduceEqDiff, Int.toNat_natCast, decide_true, decide_false, ↓bindO_some, ↓bindF_some, ↓bindX_normal, ↓condX_true, ↓condX_false, scal_vi, h6, h7, h8, h31, h32, h33, hlt, hrl.addrI, hrl.loadI, e1, hrs.lenI, c2, e4, e5, e6, s2, e3]
      exact ⟨_, _, rfl, by simp only [upd_get, ↓reduceIte, Nat.reduceEqDiff, h2], by simp only [upd_get, ↓reduceIte, Nat.reduceEqDiff, h4], by simp only [upd_get, ↓reduceIte, Nat.reduceEqDiff, h6], by simp only [upd_get, ↓reduceIte, Nat.reduceEqDiff, h31], by simp only [upd_get, ↓reduceIte, Nat.reduceEqDiff, h32], by simp only [upd_get, ↓reduceIte], old.trans old2, wf2, v2, _, _, by simp only [upd_get, ↓reduceIte, Nat.reduceEqDiff], by simp only [upd_get, ↓reduceIte, Nat.reduceEqDiff], o2, by simp [hol], hd.app (Dg.one (by omega) (by unfold B; omega)), by omega, by omega, hst⟩
  · intro a H' ⟨h2, h4, h6, h31, h32, h33, old, hw, vo, out, c, h7, h8, ho, hol, hd, c0, c1, hval⟩
    rw [show pluA = atC [1, 0, 1, 0, 1, 1, 1, 1, 0, 1, 0, 0] ((Try.f84.body).getD .skip) from rfl]
    simp (disch := omega) only [Try.f84, Option.getD_some, atC, es_seq, es_region, es_cond, es_exit, ops_nil, ops_cons, sy_bin, binS_lss, bindO_some, bindF_some, bindX_normal, bindX_exit, condX_false, ev_tmp, putA, upd_at, ↓reduceIte, decide_false, ↓bindO_some, ↓bindF_some, ↓bindX_normal, ↓bindX_exit, ↓condX_false, h32, h33, Int.lt_irrefl]
    exact ⟨_, _, _, rfl, by simp, rfl, by simp only [upd_get, ↓reduceIte, Nat.reduceEqDiff, h2], by simp only [upd_get, ↓reduceIte, Nat.reduceEqDiff, h4], old, hw, vo, out, c, by simp only [upd_get, ↓reduceIte, Nat.reduceEqDiff, h7], by simp only [upd_get, ↓reduceIte, Nat.reduceEqDiff, h8], ho, hol, hd, c0, c1, by rw [hol, hval, List.take_length, List.take_of_length_le hlw, nf_val, nf_val]⟩
theorem plu_fin {out : List Int} {c u w : Int} (hd : Dg out) (hol : out.length = (nf u).length) (u0 : 0 ≤ u) (w0 : 0 ≤ w) (hlw : (nf w).length ≤ (nf u).length) (c0 : 0 ≤ c) (c1 : c ≤ 1) (hval : val out + B ^ out.length * c = u + w) :
    (c = 0 → out = nf (u + w)) ∧ (c = 1 → out ++ [1] = nf (u + w)) := by
  refine ⟨fun h => ?_, fun h => ?_⟩
  · subst h
    rw [Int.mul_zero, Int.add_zero] at hval
    rw [← hval]
    refine nf_of_big hd ?_
    by_cases hu : u = 0
    · left
      subst hu
      rw [nf_zero] at hol
      exact List.eq_nil_of_length_eq_zero hol
    · right
      rw [hval, hol]
      have := nf_ge (x := u) (by omega)
      omega
  · subst h
    rw [← hval, Int.mul_one, ← Int.mul_one (B ^ out.length), ← val_snoc]
    refine nf_of_big (hd.app (Dg.one (by omega) (by unfold B; omega))) (.inr ?_)
    rw [List.length_append, List.length_singleton, Nat.add_sub_cancel, val_snoc]
    have := hd.val
    omega
theorem plu_r2 {H : Heap} {px py vx vy : Value} (call : CallF) (k nt : Nat) (rd : Option Nat) {a : Fr} {qx qy : Value} (h2 : a 2 = px) (h3 : a 3 = py) (fx : faddrS 1 px = some qx) (fy : faddrS 1 py = some qy) (lx : loadS qx H = some vx) (ly : loadS qy H = some vy) (rx : vEq vx vx = true) (ry : vEq vy vy = true) :
    ∃ a' H', evT Try.prog call k nt rd D1 (atC [1, 0, 1, 0, 0] ((Try.f84.body).getD .skip)) a H = some (.normal, a', H') ∧ H' = H ∧ a' 5 = vx ∧ a' 6 = vy ∧ a' 2 = px ∧ a' 3 = py ∧ a' 4 = a 4 := by
  simp only [Try.f84, Option.getD_some, atC]
  refine et_from (fun a' H' => H' = H ∧ a' 5 = vx ∧ a' 6 = vy ∧ a' 2 = px ∧ a' 3 = py ∧ a' 4 = a 4) ?_
  simp (disch := omega) only [st_assign, bindO_some, ev_tmp, putA, upd_at, Option.map_some, ↓reduceIte, Nat.reduceEqDiff, ↓bindO_some, sy_load aL, sy_faddr fW1, opsW_nil, opsW_cons, clsW_read, clsW_pure, ↓clsW_read, ↓clsW_pure, cls_assign, cls_load, cls_faddr, h2, h3, fx, fy, lx, ly]
  refine ⟨_, rfl, ?_, rfl, ?_⟩
  · intro G hG r hr
    simp only [List.mem_cons, List.not_mem_nil, or_false] at hG hr
    subst hG
    rcases hr with rfl | rfl
    all_goals simp only [still_ld aL, ev_tmp, upd_at, ↓reduceIte, lx, ly, rx, ry]
  · simp only [upd_get, ↓reduceIte, Nat.reduceEqDiff, h2, h3, and_self]
theorem plu_r23 {H H4 H5 H6 : Heap} {px py p4 vx vy c d : Value} {nb : Bool} (call : CallF) (k nt : Nat) (rd : Option Nat) {a : Fr} {q0 q1 qy : Value} (h2 : a 2 = px) (h3 : a 3 = py) (h4 : a 4 = p4) (f0 : faddrS 0 px = some q0) (f1 : faddrS 1 px = some q1) (fy : faddrS 1 py = some qy)
    (l0 : ∀ G, G = H ∨ G = H4 ∨ G = H5 ∨ G = H6 → loadS q0 G = some (.bool nb)) (l1 : ∀ G, G = H ∨ G = H4 ∨ G = H5 ∨ G = H6 → loadS q1 G = some vx) (ly : ∀ G, G = H ∨ G = H4 ∨ G = H5 ∨ G = H6 → loadS qy G = some vy) (rx : vEq vx vx = true) (ry : vEq vy vy = true)
    (s1 : call (.func (.func 61) #[] #[]) [vx] H = some (c, H4)) (s2 : call (.func (.func 116) #[] #[]) [c, vy] H4 = some (d, H5)) (sd : Abs.scal d = some [d]) (s3 : storeN 2 p4 (.agg #[.bool nb, d]) H5 = some H6) :
    ∃ a' H', evT Try.prog call k nt rd D1 (atC [1, 1, 0, 1, 0, 1, 1, 1, 0, 0] ((Try.f84.body).getD .skip)) a H = some (.normal, a', H') ∧ H' = H6 ∧ a' 4 = p4 := by
  simp only [Try.f84, Option.getD_some, atC]
  refine et_from (fun a' H' => H' = H6 ∧ a' 4 = p4) ?_
  have e0 := l0 H (.inl rfl)
  have e1 := l1 H (.inl rfl)
  have e2 := ly H4 (.inr (.inl rfl))
  simp (disch := omega) only [st_fun, bindO_some, ev_tmp, ev_func, putA, upd_at, Option.map_some, ↓reduceIte, Nat.reduceEqDiff, List.map_cons, List.map_nil, ↓bindO_some, sy_load aL, sy_load aB, sy_faddr fW0, sy_faddr fW1, sy_storeN zW, sy_build, opsW_nil, opsW_cons, clsW_eff, clsW_read, clsW_pure, ↓clsW_eff, ↓clsW_read, ↓clsW_pure, cls_load, cls_callF, cls_store, cls_faddr, cls_build, h2, h3, h4, f0, f1, fy, e0, e1, s1, e2, s2, bW2 nb d sd, s3]
  refine ⟨_, rfl, ?_, rfl, ?_⟩
  · intro G hG r hr
    simp only [List.mem_cons, List.not_mem_nil, or_false] at hG hr
    have hG' : G = H ∨ G = H4 ∨ G = H5 ∨ G = H6 := by
      rcases hG with h | h | h | h
      · exact .inr (.inr (.inr h))
      · exact .inr (.inr (.inl h))
      · exact .inr (.inl h)
      · exact .inl h
    have e0 := l0 G hG'
    have e1 := l1 G hG'
    have e2 := ly G hG'
    rcases hr with rfl | rfl | rfl
    all_goals simp only [still_ld aB, still_ld aL, ev_tmp, upd_at, ↓reduceIte, vEq_bool, e0, e1, e2, rx, ry]
  · simp only [upd_get, ↓reduceIte, Nat.reduceEqDiff, h4]
theorem plu_r24 {H H4 H5 H6 : Heap} {px py p4 vx vy c d : Value} {nb : Bool} (call : CallF) (k nt : Nat) (rd : Option Nat) {a : Fr} {q0 q1 qy : Value} (h2 : a 3 = px) (h3 : a 2 = py) (h4 : a 4 = p4) (f0 : faddrS 0 px = some q0) (f1 : faddrS 1 px = some q1) (fy : faddrS 1 py = some qy)
    (l0 : ∀ G, G = H ∨ G = H4 ∨ G = H5 ∨ G = H6 → loadS q0 G = some (.bool nb)) (l1 : ∀ G, G = H ∨ G = H4 ∨ G = H5 ∨ G = H6 → loadS q1 G = some vx) (ly : ∀ G, G = H ∨ G = H4 ∨ G = H5 ∨ G = H6 → loadS qy G = some vy) (rx : vEq vx vx = true) (ry : vEq vy vy = true)
    (s1 : call (.func (.func 61) #[] #[]) [vx] H = some (c, H4)) (s2 : call (.func (.func 116) #[] #[]) [c, vy] H4 = some (d, H5)) (sd : Abs.scal d = some [d]) (s3 : storeN 2 p4 (.agg #[.bool nb, d]) H5 = some H6) :
    ∃ a' H', evT Try.prog call k nt rd D1 (atC [1, 1, 1, 0] ((Try.f84.body).getD .skip)) a H = some (.normal, a', H') ∧ H' = H6 ∧ a' 4 = p4 := by
  simp only [Try.f84, Option.getD_some, atC]
  refine et_from (fun a' H' => H' = H6 ∧ a' 4 = p4) ?_
  have e0 := l0 H (.inl rfl)
  have e1 := l1 H (.inl rfl)
  have e2 := ly H4 (.inr (.inl rfl))
  simp (disch := omega) only [st_fun, bindO_some, ev_tmp, ev_func, putA, upd_at, Option.map_some, ↓reduceIte, Nat.reduceEqDiff, List.map_cons, List.map_nil, ↓bindO_some, sy_load aL, sy_load aB, sy_faddr fW0, sy_faddr fW1, sy_storeN zW, sy_build, opsW_nil, opsW_cons, clsW_eff, clsW_read, clsW_pure, ↓clsW_eff, ↓clsW_read, ↓clsW_pure, cls_load, cls_callF, cls_store, cls_faddr, cls_build, h2, h3, h4, f0, f1, fy, e0, e1, s1, e2, s2, bW2 nb d sd, s3]
  refine ⟨_, rfl, ?_, rfl, ?_⟩
  · intro G hG r hr
    simp only [List.mem_cons, List.not_mem_nil, or_false] at hG hr
    have hG' : G = H ∨ G = H4 ∨ G = H5 ∨ G = H6 := by
      rcases hG with h | h | h | h
      · exact .inr (.inr (.inr h))
      · exact .inr (.inr (.inl h))
      · exact .inr (.inl h)
      · exact .inl h
    have e0 := l0 G hG'
    have e1 := l1 G hG'
    have e2 := ly G hG'
    rcases hr with rfl | rfl | rfl
    all_goals simp only [still_ld aB, still_ld aL, ev_tmp, upd_at, ↓reduceIte, vEq_bool, e0, e1, e2, rx, ry]
  · simp only [upd_get, ↓reduceIte, Nat.reduceEqDiff, h4]
end Go.Proofs.Ytmmgdgmjkhcfaaa
namespace Go.Proofs.Ytmmgdgmjkhcfaaa
open Go Go.Abs Go.Num
set_option maxRecDepth 10000
attribute [local congr] bindO_congr bindF_congr bindX_congr condX_congr iteB_congr binS_congr pickS_congr eqB_congr nilS_congr clsW_congr
theorem cpl_sign {x y : Int} {nx : Bool} (hx : decide (x < 0) = nx) (hy : decide (y < 0) = nx) : decide (x + y < 0) = nx ∧ ((x + y).natAbs : Int) = x.natAbs + y.natAbs := by
  cases nx with
  | true =>
    have h1 : x < 0 := by simpa using hx
    have h2 : y < 0 := by simpa using hy
    exact ⟨by simp; omega, by omega⟩
  | false =>
    have h1 : ¬ x < 0 := by simpa using hx
    have h2 : ¬ y < 0 := by simpa using hy
    exact ⟨by simp; omega, by omega⟩
theorem mix_sign {x y : Int} {nx ny : Bool} (hx : decide (x < 0) = nx) (hy : decide (y < 0) = ny) (hn : nx ≠ ny) :
    ((y.natAbs : Int) < x.natAbs → decide (x + y < 0) = nx ∧ ((x + y).natAbs : Int) = x.natAbs - y.natAbs) ∧ ((x.natAbs : Int) < y.natAbs → decide (x + y < 0) = ny ∧ ((x + y).natAbs : Int) = y.natAbs - x.natAbs) ∧ ((x.natAbs : Int) = y.natAbs → x + y = 0) := by
  cases nx <;> cases ny <;> first | exact absurd rfl hn | skip
  · have h1 : ¬ x < 0 := by simpa using hx
    have h2 : y < 0 := by simpa using hy
    exact ⟨fun h => ⟨by simp; omega, by omega⟩, fun h => ⟨by simp; omega, by omega⟩, fun h => by omega⟩
  · have h1 : x < 0 := by simpa using hx
    have h2 : ¬ y < 0 := by simpa using hy
    exact ⟨fun h => ⟨by simp; omega, by omega⟩, fun h => ⟨by simp; omega, by omega⟩, fun h => by omega⟩
theorem plus_run {C : Nat} {H : Heap} {wx wy : Value} {x y : Int} (hw : WF H) (hx : Wh C H wx x) (hy : Wh C H wy y) (lx : (nf x.natAbs).length ≤ 890) (ly : (nf y.natAbs).length ≤ 890) (n : Nat) (hn : 2010 ≤ n) :
    OneW H (evB Try.prog noC n (.func (.func 84) #[] #[]) [wx, wy] H) (x + y) := by
  obtain ⟨vx, rfl, hx⟩ := hx
  obtain ⟨vy, rfl, hy⟩ := hy
  have hx := hx.R
  have hy := hy.R
  generalize hnx : decide (x < 0) = nx
  generalize hny : decide (y < 0) = ny
  refine run_of (F := 2009) (Q := fun r => OneW H r (x + y)) (fun n hn => ?_) n hn
  rw [body_runS Try.func84 rfl (ok_fn (by rfl) Try.func84 rfl) (Nat.le_of_ble_eq_true rfl) (D := D1) (by kernel_rfl)]
  have old1 := Old.app H [.cells H.length true [.bool nx, vx]]
  have wf1 := hw.app (Nat.le_refl H.length) (o := true) (cs := [.bool nx, vx])
  have b1 := BxM.made (B := H.length) (H := H) (Nat.le_refl _) [.bool nx, vx]
  generalize hH1 : H ++ [Blk.cells H.length true [.bool nx, vx]] = H1 at *
  have old2 := Old.app H1 [.cells H1.length true [.bool ny, vy]]
  have wf2 := wf1.app (Nat.le_refl H1.length) (o := true) (cs := [.bool ny, vy])
  have b2 := BxM.made (B := H1.length) (H := H1) (Nat.le_refl _) [.bool ny, vy]
  generalize hH2 : H1 ++ [Blk.cells H1.length true [.bool ny, vy]] = H2 at *
  have old3 := Old.app H2 [.cells H2.length true [.bool false, .slice none 0 0]]
  have wf3 := wf2.app (Nat.le_refl H2.length) (o := true) (cs := [.bool false, .slice none 0 0])
  have b3 := BxM.made (B := H2.length) (H := H2) (Nat.le_refl _) [.bool false, .slice none 0 0]
  generalize hH3 : H2 ++ [Blk.cells H2.length true [.bool false, .slice none 0 0]] = H3 at *
  have old13 := old2.trans (old3.mono old2.1)
  have old03 := old1.trans (old13.mono old1.1)
  have b1 := b1.mono old13
  have b2 := b2.mono old3
  have f10 := b1.faddr 0
  have f11 := b1.faddr 1
  have f20 := b2.faddr 0
  have f21 := b2.faddr 1
  have l10 : loadS (bx (ptrA H.length 0) 0) H3 = some (.bool nx) := b1.load 0
  have l11 : loadS (bx (ptrA H.length 0) 1) H3 = some vx := b1.load 1
  have l20 : loadS (bx (ptrA H1.length 0) 0) H3 = some (.bool ny) := b2.load 0
  have l21 : loadS (bx (ptrA H1.length 0) 1) H3 = some vy := b2.load 1
  have hx3 := hx.mono old03
  have hy3 := hy.mono old03
  have hlx := hx.lenI
  have hly := hy.lenI
  -- the end: the box of the result
  have fin : ∀ (H4 : Heap) (v : Value) (nb : Bool) (z : Int), Old H3.length H3 H4 → WF H4 → RO H3.length H4 v (ints (nf z.natAbs)) → decide (z < 0) = nb → ∃ H5, storeN 2 (ptrA H2.length 0) (.agg #[.bool nb, v]) H4 = some H5 ∧ loadN 2 (ptrA H2.length 0) H5 = some (.agg #[.bool nb, v]) ∧ OneW H (some (.agg #[.bool nb, v], H5)) z ∧ Old H2.length H3 H5 := by
    intro H4 v nb z old4 wf4 r4 hz
    obtain ⟨H5, s5, b5, old5, wf5, keep5⟩ := (b3.mono old4).store wf4 (vs := [.bool nb, v]) rfl
    exact ⟨H5, s5, b5.loadAll, ⟨_, _, rfl, ⟨v, by rw [hz], (r4.kept keep5).below old03.1⟩, (old03.trans (old4.mono old03.1)).trans (old5.mono (Nat.le_trans old1.1 old2.1)), wf5⟩, (old4.mono old3.1).trans old5⟩
  by_cases hs : nx = ny
  · subst hs
    obtain ⟨hsgn, hsum⟩ := cpl_sign hnx hny
    have key := fun (A : Fr) {vl vs vo : Value} {u w : Int} {H' : Heap} (hB : H3.length ≤ H'.length) (hlg : ∀ G, Old H3.length H' G → R G vl (ints (nf u))) (hsh : ∀ G, Old H3.length H' G → R G vs (ints (nf w))) (u0 : 0 ≤ u) (w0 : 0 ≤ w) (hlw : (nf w).length ≤ (nf u).length) (hw : WF H') (lu : (nf u).length ≤ 890) (ho : O H3.length H' vo (ints [])) => plu_loop (p2 := ptrA H.length 0) (p4 := ptrA H2.length 0) hB hlg hsh u0 w0 hlw hw (by omega) ho (evB Try.prog noC n) n Try.f84.ntmps (a := A) (k := n) (by omega)
    rw [show pluA = atC [1, 0, 1, 0, 1, 1, 1, 1, 0, 1, 0, 0] ((Try.f84.body).getD .skip) from rfl] at key
    have kr := fun (A : Fr) (h2 : A 2 = ptrA H.length 0) (h3 : A 3 = ptrA H1.length 0) => plu_r2 (evB Try.prog noC n) n Try.f84.ntmps none (a := A) h2 h3 f11 f21 l11 l21 hx.refl hy.refl
    simp only [Try.f84, Option.getD_some, atC] at key kr
    have heq : (nx == nx) = true := by cases nx <;> rfl
    have z0 : zeros Try.prog 3 1 (Int.toNat 0) = some [] := nI
    have z0' : zeros Try.prog 3 1 0 = some [] := nI
    have oldm := Old.app H3 [.cells H3.length true []]
    have wfm := wf3.app (Nat.le_refl H3.length) (o := true) (cs := [])
    have om := O.empty (H := H3) (Nat.le_refl H3.length)
    have stay : ∀ {v : Value} {l : List Value}, R H3 v l → ∀ G, Old H3.length (H3 ++ [.cells H3.length true []]) G → R G v l := fun h G hG => h.mono (oldm.trans hG)
    simp (disch := omega) only [Try.f84, es_seq, es_region, es_cond, es_block, es_loop, es_skip, es_ret, ops_nil, ops_cons, st_move, st_assign, st_fun, sy_len uL, sy_bin, sy_append eL pI, sy_build1 eL oI, sy_make eL yI (by decide), bindO_some, bindF_some, bindX_normal, condX_true, ev_tmp, ev_const, ev_func, putA, upd_at, Option.map_some, ↓reduceIte, Nat.reduceEqDiff, frOf_0, frOf_1, List.map_cons, List.map_nil, beq_self_eq_true, ↓bindO_some, ↓bindF_some, ↓bindX_normal, ↓condX_true, sy_load aL, sy_load aB, sy_faddr fW0, sy_faddr fW1, sy_storeN zW, sy_alloc iW scal_agg, sy_box, sy_build, bW0, sy_eq qB, eqB_bool, scal_agg, Bool.false_xor, hH1, hH2, hH3, f10, f20, l10, l20]
    generalize hA : upd _ 15 _ = A
    obtain ⟨a2, H', e2, hH', g5, g6, g2, g3, g4⟩ := kr A (by subst hA; rfl) (by subst hA; rfl)
    have g4 : a2 4 = ptrA H2.length 0 := by rw [g4]; subst hA; rfl
    subst hH'
    rw [e2]
    clear e2 kr
    by_cases hlen : (nf x.natAbs).length < (nf y.natAbs).length
    · have c1 : ((nf x.natAbs).length : Int) < (nf y.natAbs).length := by omega
      have e1 : IntKind.i64.wrap (((nf y.natAbs).length : Int) + 1) = ((nf y.natAbs).length : Int) + 1 := wr64 (by omega) (by omega)
      have c2 : (0 : Int) ≤ ((nf y.natAbs).length : Int) + 1 := by omega
      have c3 : ((nf y.natAbs).length : Int) + 1 ≤ 1048576 := by omega
      simp (disch := omega) only [binS_lss, binS_add, bindO_some, bindF_some, bindX_normal, condX_true, upd_at, Option.map_some, ↓reduceIte, Nat.reduceEqDiff, decide_true, ↓bindO_some, ↓bindF_some, ↓bindX_normal, ↓condX_true, g5, g6, hlx, hly, c1, e1, c2, c3, Int.le_refl, and_self, z0]
      generalize hA : upd _ 33 _ = A
      obtain ⟨r, a', H', e, hr, g2, g4, old4, wf4, vo, out, c, g7, g8, oo, hol, hd, c0, c1', hval⟩ := key A oldm.1 (stay hy3) (stay hx3) (by omega) (by omega) (by omega) wfm ly om (by subst hA; exact g2) (by subst hA; exact g4) (by subst hA; rfl) (by subst hA; rfl) (by subst hA; rfl) (by subst hA; rfl) (by subst hA; rfl) (by subst hA; rfl)
      subst hr
      rw [e]
      clear e key
      have old34 := oldm.trans old4
      obtain ⟨pf0, pf1⟩ := plu_fin hd hol (by omega) (by omega) (by omega) c0 c1' hval
      rw [show ((y.natAbs : Nat) : Int) + x.natAbs = (x + y).natAbs from by omega] at pf0 pf1
      by_cases hc : c = 0
      · subst hc
        rw [pf0 rfl] at oo
        have m10 : loadS (bx (ptrA H.length 0) 0) H' = some (.bool nx) := (b1.mono (old34.mono (by have := old2.1; have := old3.1; omega))).load 0
        obtain ⟨H5, s5, s6, ow, _⟩ := fin H' vo nx (x + y) old34 wf4 oo.RO hsgn
        simp (disch := omega) only [binS_gtr, bindO_some, bindF_some, bindX_normal, bindX_ret, blkX_exit, condX_false, upd_at, Option.map_some, ↓reduceIte, Nat.reduceEqDiff, dec00, ↓bindO_some, ↓bindF_some, ↓bindX_normal, ↓bindX_ret, ↓condX_false, fin_r, res_nil, pack_1, res_cell aW zW, g2, g4, g7, g8, f10, m10, bW2 nx vo oo.R.scal, s5, s6]
        exact ow
      · obtain rfl : c = 1 := by omega
        have hpos : (0 : Int) < 1 := by omega
        obtain ⟨v6, H6, s6', o6, old6, wf6⟩ := oo.pushI wf4 old34.1 (by unfold maxA; omega) 1
        rw [pf1 rfl] at o6
        have old36 := old34.trans old6
        have m10 : loadS (bx (ptrA H.length 0) 0) H6 = some (.bool nx) := (b1.mono (old36.mono (by have := old2.1; have := old3.1; omega))).load 0
        obtain ⟨H5, s5, s6, ow, _⟩ := fin H6 v6 nx (x + y) old36 wf6 o6.RO hsgn
        simp (disch := omega) only [binS_gtr, bindO_some, bindF_some, bindX_normal, bindX_ret, blkX_exit, condX_true, upd_at, Option.map_some, ↓reduceIte, Nat.reduceEqDiff, decide_true, ↓bindO_some, ↓bindF_some, ↓bindX_normal, ↓bindX_ret, ↓condX_true, fin_r, res_nil, pack_1, scal_vi, res_cell aW zW, g2, g4, g7, g8, hpos, s6', f10, m10, bW2 nx v6 o6.R.scal, s5, s6]
        exact ow
    · have c1 : ¬ ((nf x.natAbs).length : Int) < (nf y.natAbs).length := by omega
      have e1 : IntKind.i64.wrap (((nf x.natAbs).length : Int) + 1) = ((nf x.natAbs).length : Int) + 1 := wr64 (by omega) (by omega)
      have c2 : (0 : Int) ≤ ((nf x.natAbs).length : Int) + 1 := by omega
      have c3 : ((nf x.natAbs).length : Int) + 1 ≤ 1048576 := by omega
      simp (disch := omega) only [binS_lss, binS_add, bindO_some, bindF_some, bindX_normal, condX_false, upd_at, Option.map_some, ↓reduceIte, Nat.reduceEqDiff, decide_false, ↓bindO_some, ↓bindF_some, ↓bindX_normal, ↓condX_false, g5, g6, hlx, hly, c1, e1, c2, c3, Int.le_refl, and_self, z0]
      generalize hA : upd _ 33 _ = A
      obtain ⟨r, a', H', e, hr, g2, g4, old4, wf4, vo, out, c, g7, g8, oo, hol, hd, c0, c1', hval⟩ := key A oldm.1 (stay hx3) (stay hy3) (by omega) (by omega) (by omega) wfm lx om (by subst hA; exact g2) (by subst hA; exact g4) (by subst hA; exact g6) (by subst hA; rfl) (by subst hA; rfl) (by subst hA; rfl) (by subst hA; rfl) (by subst hA; rfl)
      subst hr
      rw [e]
      clear e key
      have old34 := oldm.trans old4
      obtain ⟨pf0, pf1⟩ := plu_fin hd hol (by omega) (by omega) (by omega) c0 c1' hval
      rw [show ((x.natAbs : Nat) : Int) + y.natAbs = (x + y).natAbs from by omega] at pf0 pf1
      by_cases hc : c = 0
      · subst hc
        rw [pf0 rfl] at oo
        have m10 : loadS (bx (ptrA H.length 0) 0) H' = some (.bool nx) := (b1.mono (old34.mono (by have := old2.1; have := old3.1; omega))).load 0
        obtain ⟨H5, s5, s6, ow, _⟩ := fin H' vo nx (x + y) old34 wf4 oo.RO hsgn
        simp (disch := omega) only [binS_gtr, bindO_some, bindF_some, bindX_normal, bindX_ret, blkX_exit, condX_false, upd_at, Option.map_some, ↓reduceIte, Nat.reduceEqDiff, dec00, ↓bindO_some, ↓bindF_some, ↓bindX_normal, ↓bindX_ret, ↓condX_false, fin_r, res_nil, pack_1, res_cell aW zW, g2, g4, g7, g8, f10, m10, bW2 nx vo oo.R.scal, s5, s6]
        exact ow
      · obtain rfl : c = 1 := by omega
        have hpos : (0 : Int) < 1 := by omega
        obtain ⟨v6, H6, s6', o6, old6, wf6⟩ := oo.pushI wf4 old34.1 (by unfold maxA; omega) 1
        rw [pf1 rfl] at o6
        have old36 := old34.trans old6
        have m10 : loadS (bx (ptrA H.length 0) 0) H6 = some (.bool nx) := (b1.mono (old36.mono (by have := old2.1; have := old3.1; omega))).load 0
        obtain ⟨H5, s5, s6, ow, _⟩ := fin H6 v6 nx (x + y) old36 wf6 o6.RO hsgn
        simp (disch := omega) only [binS_gtr, bindO_some, bindF_some, bindX_normal, bindX_ret, blkX_exit, condX_true, upd_at, Option.map_some, ↓reduceIte, Nat.reduceEqDiff, decide_true, ↓bindO_some, ↓bindF_some, ↓bindX_normal, ↓bindX_ret, ↓condX_true, fin_r, res_nil, pack_1, scal_vi, res_cell aW zW, g2, g4, g7, g8, hpos, s6', f10, m10, bW2 nx v6 o6.R.scal, s5, s6]
        exact ow
  · have hne : (nx == ny) = false := by cases nx <;> cases ny <;> first | rfl | exact absurd rfl hs
    obtain ⟨m1, m2, m3⟩ := mix_sign hnx hny hs
    have s0 := sizes_run hx3 hy3 (by omega) (by omega) (by omega) (by omega) n (by omega)
    have k23 := fun (A : Fr) {H4 H5 H6 : Heap} {c d : Value} {nb : Bool} => plu_r23 (H := H3) (H4 := H4) (H5 := H5) (H6 := H6) (px := ptrA H.length 0) (py := ptrA H1.length 0) (p4 := ptrA H2.length 0) (vx := vx) (vy := vy) (c := c) (d := d) (nb := nb) (q0 := bx (ptrA H.length 0) 0) (q1 := bx (ptrA H.length 0) 1) (qy := bx (ptrA H1.length 0) 1) (evB Try.prog noC n) n Try.f84.ntmps none (a := A)
    have k24 := fun (A : Fr) {H4 H5 H6 : Heap} {c d : Value} {nb : Bool} => plu_r24 (H := H3) (H4 := H4) (H5 := H5) (H6 := H6) (px := ptrA H1.length 0) (py := ptrA H.length 0) (p4 := ptrA H2.length 0) (vx := vy) (vy := vx) (c := c) (d := d) (nb := nb) (q0 := bx (ptrA H1.length 0) 0) (q1 := bx (ptrA H1.length 0) 1) (qy := bx (ptrA H.length 0) 1) (evB Try.prog noC n) n Try.f84.ntmps none (a := A)
    simp only [Try.f84, Option.getD_some, atC] at k23 k24
    have rd : ∀ (G : Heap), Old H2.length H3 G → loadS (bx (ptrA H.length 0) 0) G = some (.bool nx) ∧ loadS (bx (ptrA H.length 0) 1) G = some vx ∧ loadS (bx (ptrA H1.length 0) 0) G = some (.bool ny) ∧ loadS (bx (ptrA H1.length 0) 1) G = some vy := fun G hG =>
      ⟨(b1.mono (hG.mono old2.1)).load 0, (b1.mono (hG.mono old2.1)).load 1, (b2.mono hG).load 0, (b2.mono hG).load 1⟩
    by_cases h1 : (y.natAbs : Int) < x.natAbs
    · have ec : cmpZ (x.natAbs : Int) y.natAbs = 1 := by unfold cmpZ; rw [if_neg (by omega), if_pos h1]
      rw [ec] at s0
      obtain ⟨hsg, hab⟩ := m1 h1
      obtain ⟨v4, H4, s4, o4, old4, wf4⟩ := clone_run wf3 hx3 (by omega) n (by omega)
      obtain ⟨v5, H5, s5, r5, old5, wf5⟩ := les_run o4 (fun G hG => hy3.mono (old4.trans hG)) (by omega) (by omega) wf4 (by omega) n (by omega)
      rw [← hab] at r5
      obtain ⟨H6, s6, s7, ow, old6⟩ := fin H5 v5 nx (x + y) (old4.trans old5) wf5 r5 hsg
      have c1 : ¬ (1 : Int) = 0 := by omega
      simp (disch := omega) only [Try.f84, es_seq, es_region, es_cond, es_block, es_skip, es_ret, ops_nil, ops_cons, st_assign, st_fun, sy_bin, binS_eql, bindO_some, bindF_some, bindX_normal, condX_true, condX_false, ev_tmp, ev_const, ev_func, putA, upd_at, Option.map_some, ↓reduceIte, Nat.reduceEqDiff, frOf_0, frOf_1, List.map_cons, List.map_nil, decide_true, decide_false, ↓bindO_some, ↓bindF_some, ↓bindX_normal, ↓condX_true, ↓condX_false, sy_load aL, sy_load aB, sy_faddr fW0, sy_faddr fW1, sy_alloc iW scal_agg, sy_box, sy_eq qB, eqB_bool, scal_agg, Bool.false_xor, hH1, hH2, hH3, f10, f20, l10, l20, hne, f11, f21, l11, l21, s0, c1]
      generalize hA : upd _ 77 _ = A
      have hG : ∀ G, G = H3 ∨ G = H4 ∨ G = H5 ∨ G = H6 → Old H2.length H3 G := fun G h => by
        rcases h with rfl | rfl | rfl | rfl
        · exact Old.refl _ _
        · exact old4.mono old3.1
        · exact (old4.trans old5).mono old3.1
        · exact old6
      obtain ⟨a', H', e, hH', g4⟩ := k23 A (H4 := H4) (H5 := H5) (H6 := H6) (by subst hA; rfl) (by subst hA; rfl) (by subst hA; rfl) f10 f11 f21 (fun G h => (rd G (hG G h)).1) (fun G h => (rd G (hG G h)).2.1) (fun G h => (rd G (hG G h)).2.2.2) hx.refl hy.refl s4 s5 r5.R.scal s6
      subst hH'
      rw [e]
      simp (disch := omega) only [bindX_normal, bindX_ret, blkX_ret, Option.map_some, ↓bindX_normal, ↓bindX_ret, fin_r, res_nil, pack_1, res_cell aW zW, g4, s7]
      exact ow
    · by_cases h2 : (x.natAbs : Int) < y.natAbs
      · have ec : cmpZ (x.natAbs : Int) y.natAbs = -1 := by unfold cmpZ; rw [if_pos h2]
        rw [ec] at s0
        obtain ⟨hsg, hab⟩ := m2 h2
        obtain ⟨v4, H4, s4, o4, old4, wf4⟩ := clone_run wf3 hy3 (by omega) n (by omega)
        obtain ⟨v5, H5, s5, r5, old5, wf5⟩ := les_run o4 (fun G hG => hx3.mono (old4.trans hG)) (by omega) (by omega) wf4 (by omega) n (by omega)
        rw [← hab] at r5
        obtain ⟨H6, s6, s7, ow, old6⟩ := fin H5 v5 ny (x + y) (old4.trans old5) wf5 r5 hsg
        have c1 : decide ((-1 : Int) = 0) = false := by decide
        have c2 : decide ((-1 : Int) = 1) = false := by decide
        simp (disch := omega) only [Try.f84, es_seq, es_region, es_cond, es_block, es_skip, es_ret, ops_nil, ops_cons, st_assign, st_fun, sy_bin, binS_eql, bindO_some, bindF_some, bindX_normal, blkX_normal, condX_false, ev_tmp, ev_const, ev_func, putA, upd_at, Option.map_some, ↓reduceIte, Nat.reduceEqDiff, frOf_0, frOf_1, List.map_cons, List.map_nil, ↓bindO_some, ↓bindF_some, ↓bindX_normal, ↓condX_false, sy_load aL, sy_load aB, sy_faddr fW0, sy_faddr fW1, sy_alloc iW scal_agg, sy_box, sy_eq qB, eqB_bool, scal_agg, Bool.false_xor, hH1, hH2, hH3, f10, f20, l10, l20, hne, f11, f21, l11, l21, s0, c1, c2]
        generalize hA : upd _ 77 _ = A
        have hG : ∀ G, G = H3 ∨ G = H4 ∨ G = H5 ∨ G = H6 → Old H2.length H3 G := fun G h => by
          rcases h with rfl | rfl | rfl | rfl
          · exact Old.refl _ _
          · exact old4.mono old3.1
          · exact (old4.trans old5).mono old3.1
          · exact old6
        obtain ⟨a', H', e, hH', g4⟩ := k24 A (H4 := H4) (H5 := H5) (H6 := H6) (by subst hA; rfl) (by subst hA; rfl) (by subst hA; rfl) f20 f21 f11 (fun G h => (rd G (hG G h)).2.2.1) (fun G h => (rd G (hG G h)).2.2.2) (fun G h => (rd G (hG G h)).2.1) hy.refl hx.refl s4 s5 r5.R.scal s6
        subst hH'
        rw [e]
        simp (disch := omega) only [bindX_normal, Option.map_some, ↓bindX_normal, fin_r, res_nil, pack_1, res_cell aW zW, g4, s7]
        exact ow
      · have hxy : x + y = 0 := m3 (by omega)
        have ec : cmpZ (x.natAbs : Int) y.natAbs = 0 := by unfold cmpZ; rw [if_neg h2, if_neg h1]
        rw [ec] at s0
        obtain ⟨H5, s5, s6, ow, _⟩ := fin H3 (.slice none 0 0) false (x + y) (Old.refl _ _) wf3 (by rw [hxy, show ((0 : Int).natAbs : Int) = 0 from rfl, nf_zero]; exact .inl ⟨rfl, rfl⟩) (by rw [hxy]; rfl)
        have c1 : decide ((0 : Int) = 0) = true := by decide
        simp (disch := omega) only [Try.f84, es_seq, es_region, es_cond, es_block, es_skip, es_ret, ops_nil, ops_cons, st_assign, st_fun, sy_bin, binS_eql, bindO_some, bindF_some, bindX_normal, bindX_ret, blkX_ret, condX_true, condX_false, ev_tmp, ev_const, ev_func, putA, upd_at, Option.map_some, ↓reduceIte, Nat.reduceEqDiff, frOf_0, frOf_1, List.map_cons, List.map_nil, decide_true, ↓bindO_some, ↓bindF_some, ↓bindX_normal, ↓bindX_ret, ↓condX_true, ↓condX_false, fin_r, res_nil, pack_1, sy_load aL, sy_load aB, sy_faddr fW0, sy_faddr fW1, sy_storeN zW, sy_alloc iW scal_agg, sy_box, sy_build, bW0, sy_eq qB, eqB_bool, res_cell aW zW, scal_agg, Bool.false_xor, hH1, hH2, hH3, f10, f20, l10, l20, hne, f11, f21, l11, l21, s0, s5, s6]
        exact ow
end Go.Proofs.Ytmmgdgmjkhcfaaa
namespace Go.Proofs.Ytmmgdgmjkhcfaaa
open Go Go.Abs Go.Num
set_option maxRecDepth 10000
attribute [local congr] bindO_congr bindF_congr bindX_congr condX_congr iteB_congr binS_congr pickS_congr eqB_congr nilS_congr clsW_congr
theorem addP_run {H : Heap} {vx vy : Value} {x y : Int} (hw : WF H) (hx : NumV H vx x) (hy : NumV H vy y) (lx : (nf x).length ≤ 880) (ly : (nf y).length ≤ 880) (n : Nat) (hn : 2012 ≤ n) :
    OneL H (evB Try.prog noC n (.func (.func 38) #[] #[]) [vx, vy] H) (nf (x + y)) := by
  refine run_of (F := 2011) (Q := fun r => OneL H r (nf (x + y))) (fun n hn => ?_) n hn
  rw [body_runS Try.func38 rfl (ok_fn (by rfl) Try.func38 rfl) (Nat.le_of_ble_eq_true rfl) (D := D0) (by kernel_rfl)]
  obtain ⟨wx, H1, s1, w1, old1, wf1⟩ := read_run hw hx n (by omega)
  obtain ⟨wy, H2, s2, w2, old2, wf2⟩ := read_run wf1 (hy.mono old1) n (by omega)
  obtain ⟨wz, H3, s3, w3, old3, wf3⟩ := plus_run wf2 (w1.mono old2) (w2.below old1.1) (by rw [abs_len]; omega) (by rw [abs_len]; omega) n (by omega)
  obtain ⟨v, H4, s4, o4, old4, wf4⟩ := list_run wf3 w3 (by rw [abs_len]; have := add_len lx ly; omega) n (by omega)
  simp (disch := omega) only [Try.f38, es_seq, es_region, es_ret, ops_nil, ops_cons, st_move, st_assign, st_fun, bindO_some, bindF_some, bindX_normal, ev_tmp, ev_const, ev_func, putA, upd_at, Option.map_some, ↓reduceIte, Nat.reduceEqDiff, frOf_0, frOf_1, List.map_cons, List.map_nil, ↓bindO_some, ↓bindF_some, ↓bindX_normal, fin_r, res_nil, res_tmp, pack_1, s1, s2, s3, s4, o4.R.scal]
  have old12 := old1.trans (old2.mono old1.1)
  have old13 := old12.trans (old3.mono old12.1)
  exact ⟨_, _, rfl, o4.below old13.1, old13.trans (old4.mono old13.1), wf4⟩
theorem subP_run {H : Heap} {vx vy : Value} {x y : Int} (hw : WF H) (hx : NumV H vx x) (hy : NumV H vy y) (lx : (nf x).length ≤ 880) (ly : (nf y).length ≤ 880) (n : Nat) (hn : 2012 ≤ n) :
    OneL H (evB Try.prog noC n (.func (.func 35) #[] #[]) [vx, vy] H) (nf (x - y)) := by
  refine run_of (F := 2011) (Q := fun r => OneL H r (nf (x - y))) (fun n hn => ?_) n hn
  rw [body_runS Try.func35 rfl (ok_fn (by rfl) Try.func35 rfl) (Nat.le_of_ble_eq_true rfl) (D := D0) (by kernel_rfl)]
  obtain ⟨wx, H1, s1, w1, old1, wf1⟩ := read_run hw hx n (by omega)
  obtain ⟨wy, H2, s2, ⟨v2, rfl, r2⟩, old2, wf2⟩ := read_run wf1 (hy.mono old1) n (by omega)
  obtain ⟨Hm, sm, oldm, wfm⟩ := minus_run wf2 r2.R n (by omega)
  have w2 : Wh H1.length Hm (.agg #[.bool (decide (-y < 0)), v2]) (-y) := ⟨v2, rfl, by rw [Int.natAbs_neg]; exact r2.mono oldm⟩
  have old2m := old2.trans (oldm.mono old2.1)
  obtain ⟨wz, H3, s3, w3, old3, wf3⟩ := plus_run wfm (w1.mono old2m) (w2.below old1.1) (by rw [abs_len]; omega) (by rw [abs_len, neg_len]; omega) n (by omega)
  rw [show x + -y = x - y from by omega] at w3
  obtain ⟨v, H4, s4, o4, old4, wf4⟩ := list_run wf3 w3 (by rw [abs_len, show x - y = x + -y from by omega]; have := add_len lx (y := -y) (by rw [neg_len]; exact ly); omega) n (by omega)
  simp (disch := omega) only [Try.f35, es_seq, es_region, es_ret, ops_nil, ops_cons, st_move, st_assign, st_fun, bindO_some, bindF_some, bindX_normal, ev_tmp, ev_const, ev_func, putA, upd_at, Option.map_some, ↓reduceIte, Nat.reduceEqDiff, frOf_0, frOf_1, List.map_cons, List.map_nil, ↓bindO_some, ↓bindF_some, ↓bindX_normal, fin_r, res_nil, res_tmp, pack_1, s1, s2, sm, s3, s4, o4.R.scal]
  have old12 := old1.trans (old2m.mono old1.1)
  have old13 := old12.trans (old3.mono old12.1)
  exact ⟨_, _, rfl, o4.below old13.1, old13.trans (old4.mono old13.1), wf4⟩
end Go.Proofs.Ytmmgdgmjkhcfaaa
