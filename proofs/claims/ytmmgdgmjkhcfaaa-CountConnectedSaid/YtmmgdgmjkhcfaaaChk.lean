/- The checks of lists: what they answer for every list. -/
import Derived.Test.YtmmgdgmjkhcfaaaOkf
import Derived.Test.YtmmgdgmjkhcfaaaAbX
import Derived.Test.YtmmgdgmjkhcfaaaFa3
set_option linter.all false
namespace Go.Proofs.Ytmmgdgmjkhcfaaa
open Go Go.Abs
set_option maxRecDepth 10000
set_option linter.unusedSimpArgs false
attribute [local congr] bindO_congr bindF_congr bindX_congr condX_congr iteB_congr drawOp_congr drawC_congr
theorem t22 : Try.prog.underlying 22 = some (.slice 3) := by kernel_rfl
theorem s22 : sliceElem Try.prog 22 = some (3, 1) := by kernel_rfl
theorem a3 : isAggT Try.prog 3 = some false := by kernel_rfl
theorem b_ft : (false == true) = false := rfl
theorem b_tf : (true == false) = false := rfl
theorem rng14 : List.range 14 = [0, 1, 2, 3, 4, 5, 6, 7, 8, 9, 10, 11, 12, 13] := rfl
def ints (l : List Int) : List Value := l.map vi
theorem ints_len (l : List Int) : (ints l).length = l.length := List.length_map ..
theorem ints_get {l : List Int} {i : Nat} {x : Int} (h : l[i]? = some x) : (ints l)[i]? = some (vi x) := by simp [ints, h]
theorem drop_get {l : List Int} {i : Nat} {x : Int} {r : List Int} (h : l.drop i = x :: r) : l[i]? = some x ∧ l.drop (i + 1) = r ∧ i < l.length := by
  have h1 : i < l.length := by
    apply Nat.lt_of_not_le
    intro hge
    rw [List.drop_eq_nil_of_le hge] at h
    cases h
  rw [List.drop_eq_getElem_cons h1] at h
  injection h with e1 e2
  exact ⟨by rw [List.getElem?_eq_getElem h1, e1], e2, h1⟩
theorem drop_nil {l : List Int} {i : Nat} (h : l.drop i = []) : l.length ≤ i := by
  apply Nat.le_of_not_lt
  intro h1
  rw [List.drop_eq_getElem_cons h1] at h
  cases h
def atC : List Nat → Code → Code
  | [], c => c
  | 0 :: p, .seq x _ => atC p x
  | _ :: p, .seq _ y => atC p y
  | 0 :: p, .cond _ x _ => atC p x
  | _ :: p, .cond _ _ y => atC p y
  | _ :: p, .block _ c => atC p c
  | _ :: p, .loop c => atC p c
  | _, c => c
theorem wr {z : Int} (h1 : -100000 ≤ z) (h2 : z ≤ 100000) : IntKind.i64.wrap z = z := wrap_small (by omega) (by omega)
theorem ok_fn {f : Nat} {fn : Func} {c : Code} (ho : okN f = true) (hf : Try.prog.funcs[f]? = some fn) (hb : fn.body = some c) : funcOk fn c = true := hF f fn c ho hf hb

theorem within_run (n : Nat) (x lo hi : Int) (H : Heap) : evB Try.prog noC (n + 1) (.func (.func 36) #[] #[]) [vi x, vi lo, vi hi] H = some (.bool (decide (lo ≤ x) && decide (x ≤ hi)), H) := by
  rw [evB_noC, body_run Try.func36 rfl (ok_fn (by rfl) Try.func36 rfl) (Nat.le_of_ble_eq_true rfl)]
  by_cases h : lo ≤ x
  · simp only [Try.f36, code_seq, code_region, code_draw, code_cond, code_block, code_loop, code_skip, code_exit, code_ret, ops_nil, ops_cons, ops_consG, st_move, st_assign, st_pick, st_fun, st_len t22, st_addr s22, st_load a3, st_bin, st_not, bin2, bindO_some, bindF_some, bindX_normal, bindX_exit, bindX_ret, blkX_normal, blkX_exit, blkX_ret, condX_true, condX_false, iteB_true, iteB_false, ev, putA, upd_get, sliceA, ptrA, cell_0, Option.map_some, ↓reduceIte, Nat.reduceEqDiff, Nat.zero_add, Int.toNat_natCast, Int.natCast_nonneg, true_and, Nat.mul_one, frOf_0, frOf_1, frOf_2, List.map_cons, List.map_nil, decide_true, decide_false, Bool.not_true, Bool.not_false, yieldO_eq, yieldO, List.getElem?_cons_zero, List.getElem?_cons_succ, beq_self_eq_true, Bool.false_eq_true, Option.some_beq_some, b_ft, b_tf, ↓bindO_some, ↓bindF_some, ↓bindX_normal, ↓bindX_exit, ↓bindX_ret, ↓condX_true, ↓condX_false, ↓iteB_true, ↓iteB_false, ↓drawOp_some, ↓drawC_read, ↓drawC_pure, draw_cons, drawOp_some, drawC_read, drawC_pure, draw_nil, cls_move, cls_assign, cls_pick, cls_bin, cls_un, cls_addr, cls_load, cls_len, still_load, window_one, vEq_vi, List.all_cons, List.all_nil, Bool.and_true, Region.wanted, List.size_toArray, List.length_cons, List.length_nil, Nat.reduceAdd, rng14, Bool.true_and, Bool.false_and, Bool.and_false, Bool.and_self, h]
    exact fin_retB (z := decide (x ≤ hi)) rfl
  · simp only [Try.f36, code_seq, code_region, code_draw, code_cond, code_block, code_loop, code_skip, code_exit, code_ret, ops_nil, ops_cons, ops_consG, st_move, st_assign, st_pick, st_fun, st_len t22, st_addr s22, st_load a3, st_bin, st_not, bin2, bindO_some, bindF_some, bindX_normal, bindX_exit, bindX_ret, blkX_normal, blkX_exit, blkX_ret, condX_true, condX_false, iteB_true, iteB_false, ev, putA, upd_get, sliceA, ptrA, cell_0, Option.map_some, ↓reduceIte, Nat.reduceEqDiff, Nat.zero_add, Int.toNat_natCast, Int.natCast_nonneg, true_and, Nat.mul_one, frOf_0, frOf_1, frOf_2, List.map_cons, List.map_nil, decide_true, decide_false, Bool.not_true, Bool.not_false, yieldO_eq, yieldO, List.getElem?_cons_zero, List.getElem?_cons_succ, beq_self_eq_true, Bool.false_eq_true, Option.some_beq_some, b_ft, b_tf, ↓bindO_some, ↓bindF_some, ↓bindX_normal, ↓bindX_exit, ↓bindX_ret, ↓condX_true, ↓condX_false, ↓iteB_true, ↓iteB_false, ↓drawOp_some, ↓drawC_read, ↓drawC_pure, draw_cons, drawOp_some, drawC_read, drawC_pure, draw_nil, cls_move, cls_assign, cls_pick, cls_bin, cls_un, cls_addr, cls_load, cls_len, still_load, window_one, vEq_vi, List.all_cons, List.all_nil, Bool.and_true, Region.wanted, List.size_toArray, List.length_cons, List.length_nil, Nat.reduceAdd, rng14, Bool.true_and, Bool.false_and, Bool.and_false, Bool.and_self, h]
    exact fin_retB (z := false) rfl

noncomputable def rszbody : Code := atC [1, 1, 0, 1, 0, 0] ((Try.f17.body).getD .skip)
theorem rsz_loop (l : List Int) (call : CallF) (m : Nat) : ∀ (r : List Int) (i : Nat) (s : Int) (a : Fr), l.drop i = r → l.length ≤ 1000 → 0 ≤ s → s + 20 * r.length ≤ 10000 → (∀ x ∈ r, 1 ≤ x ∧ x ≤ 20) → a 0 = sliceA 0 0 l.length 1 → a 3 = vi s → a 4 = vi (i : Nat) → ∀ k, r.length < k →
    ∃ a', loopN (evCode Try.prog call m 18 none rszbody) k a [.cells 0 false (ints l)] = some (.exit 0, a', [.cells 0 false (ints l)]) ∧ a' 3 = vi (s + r.sum) := by
  have eb : rszbody = atC [1, 1, 0, 1, 0, 0] ((Try.f17.body).getD .skip) := rfl
  intro r
  induction r with
  | nil =>
    intro i s a hd hlen h0 h1 hr ha0 ha3 ha4 k hk
    have hi := drop_nil hd
    have hlt : ¬ ((i : Int) < l.length) := by omega
    cases k with
    | zero => omega
    | succ k =>
      rw [loopN, eb]
      simp only [Try.f17, Option.getD_some, atC, code_seq, code_region, code_draw, code_cond, code_block, code_loop, code_skip, code_exit, code_ret, ops_nil, ops_cons, ops_consG, st_move, st_assign, st_pick, st_fun, st_len t22, st_addr s22, st_load a3, st_bin, st_not, bin2, bindO_some, bindF_some, bindX_normal, bindX_exit, bindX_ret, blkX_normal, blkX_exit, blkX_ret, condX_true, condX_false, iteB_true, iteB_false, ev, putA, upd_get, sliceA, ptrA, cell_0, Option.map_some, ↓reduceIte, Nat.reduceEqDiff, Nat.zero_add, Int.toNat_natCast, Int.natCast_nonneg, true_and, Nat.mul_one, frOf_0, frOf_1, frOf_2, List.map_cons, List.map_nil, decide_true, decide_false, Bool.not_true, Bool.not_false, yieldO_eq, yieldO, List.getElem?_cons_zero, List.getElem?_cons_succ, beq_self_eq_true, Bool.false_eq_true, Option.some_beq_some, b_ft, b_tf, ↓bindO_some, ↓bindF_some, ↓bindX_normal, ↓bindX_exit, ↓bindX_ret, ↓condX_true, ↓condX_false, ↓iteB_true, ↓iteB_false, ↓drawOp_some, ↓drawC_read, ↓drawC_pure, draw_cons, drawOp_some, drawC_read, drawC_pure, draw_nil, cls_move, cls_assign, cls_pick, cls_bin, cls_un, cls_addr, cls_load, cls_len, still_load, window_one, vEq_vi, List.all_cons, List.all_nil, Bool.and_true, Region.wanted, List.size_toArray, List.length_cons, List.length_nil, Nat.reduceAdd, rng14, Bool.true_and, Bool.false_and, Bool.and_false, Bool.and_self, ha0, ha3, ha4, hlt]
      exact ⟨_, rfl, by simp only [upd_get, ↓reduceIte, Nat.reduceEqDiff, ha3, List.sum_nil, Int.add_zero]⟩
  | cons x r ih =>
    intro i s a hd hlen h0 h1 hr ha0 ha3 ha4 k hk
    obtain ⟨hx, hd2, hi⟩ := drop_get hd
    have hlt : ((i : Int) < l.length) := by omega
    have hx2 := ints_get hx
    have hxr := hr x (List.mem_cons_self ..)
    simp only [List.length_cons] at h1 hk
    cases k with
    | zero => omega
    | succ k =>
      rw [loopN, eb]
      simp only [Try.f17, Option.getD_some, atC, code_seq, code_region, code_draw, code_cond, code_block, code_loop, code_skip, code_exit, code_ret, ops_nil, ops_cons, ops_consG, st_move, st_assign, st_pick, st_fun, st_len t22, st_addr s22, st_load a3, st_bin, st_not, bin2, bindO_some, bindF_some, bindX_normal, bindX_exit, bindX_ret, blkX_normal, blkX_exit, blkX_ret, condX_true, condX_false, iteB_true, iteB_false, ev, putA, upd_get, sliceA, ptrA, cell_0, Option.map_some, ↓reduceIte, Nat.reduceEqDiff, Nat.zero_add, Int.toNat_natCast, Int.natCast_nonneg, true_and, Nat.mul_one, frOf_0, frOf_1, frOf_2, List.map_cons, List.map_nil, decide_true, decide_false, Bool.not_true, Bool.not_false, yieldO_eq, yieldO, List.getElem?_cons_zero, List.getElem?_cons_succ, beq_self_eq_true, Bool.false_eq_true, Option.some_beq_some, b_ft, b_tf, ↓bindO_some, ↓bindF_some, ↓bindX_normal, ↓bindX_exit, ↓bindX_ret, ↓condX_true, ↓condX_false, ↓iteB_true, ↓iteB_false, ↓drawOp_some, ↓drawC_read, ↓drawC_pure, draw_cons, drawOp_some, drawC_read, drawC_pure, draw_nil, cls_move, cls_assign, cls_pick, cls_bin, cls_un, cls_addr, cls_load, cls_len, still_load, window_one, vEq_vi, List.all_cons, List.all_nil, Bool.and_true, Region.wanted, List.size_toArray, List.length_cons, List.length_nil, Nat.reduceAdd, rng14, Bool.true_and, Bool.false_and, Bool.and_false, Bool.and_self, ha0, ha3, ha4, hlt, hx2]
      rw [eb] at ih
      simp only [Try.f17, Option.getD_some, atC] at ih
      refine (ih (i + 1) (s + x) _ hd2 hlen (by omega) (by omega) (fun y hy => hr y (List.mem_cons_of_mem _ hy)) ?_ ?_ ?_ k (by omega)).imp fun a' h => ⟨h.1, by rw [h.2, List.sum_cons, Int.add_assoc]⟩
      · exact ha0
      · show vi _ = vi _; rw [wr (by omega) (by omega)]
      · show vi _ = vi _; rw [wr (by omega) (by omega)]; rfl
theorem rsz_run (l : List Int) (h : l.length ≤ 40) (hr : ∀ x ∈ l, 1 ≤ x ∧ x ≤ 20) (n : Nat) : evB Try.prog noC (n + 50) (.func (.func 17) #[] #[]) [sliceA 0 0 l.length 1] [.cells 0 false (ints l)] = some (vi l.sum, [.cells 0 false (ints l)]) := by
  rw [evB_noC, body_run Try.func17 rfl (ok_fn (by rfl) Try.func17 rfl) (Nat.le_of_ble_eq_true rfl)]
  have key := rsz_loop l (evB Try.prog noC (n + 49)) (n + 49) l 0 0
  have eb : rszbody = atC [1, 1, 0, 1, 0, 0] ((Try.f17.body).getD .skip) := rfl
  rw [eb] at key
  simp only [Try.f17, Option.getD_some, atC] at key
  simp only [Try.f17, code_seq, code_region, code_draw, code_cond, code_block, code_loop, code_skip, code_exit, code_ret, ops_nil, ops_cons, ops_consG, st_move, st_assign, st_pick, st_fun, st_len t22, st_addr s22, st_load a3, st_bin, st_not, bin2, bindO_some, bindF_some, bindX_normal, bindX_exit, bindX_ret, blkX_normal, blkX_exit, blkX_ret, condX_true, condX_false, iteB_true, iteB_false, ev, putA, upd_get, sliceA, ptrA, cell_0, Option.map_some, ↓reduceIte, Nat.reduceEqDiff, Nat.zero_add, Int.toNat_natCast, Int.natCast_nonneg, true_and, Nat.mul_one, frOf_0, frOf_1, frOf_2, List.map_cons, List.map_nil, decide_true, decide_false, Bool.not_true, Bool.not_false, yieldO_eq, yieldO, List.getElem?_cons_zero, List.getElem?_cons_succ, beq_self_eq_true, Bool.false_eq_true, Option.some_beq_some, b_ft, b_tf, ↓bindO_some, ↓bindF_some, ↓bindX_normal, ↓bindX_exit, ↓bindX_ret, ↓condX_true, ↓condX_false, ↓iteB_true, ↓iteB_false, ↓drawOp_some, ↓drawC_read, ↓drawC_pure, draw_cons, drawOp_some, drawC_read, drawC_pure, draw_nil, cls_move, cls_assign, cls_pick, cls_bin, cls_un, cls_addr, cls_load, cls_len, still_load, window_one, vEq_vi, List.all_cons, List.all_nil, Bool.and_true, Region.wanted, List.size_toArray, List.length_cons, List.length_nil, Nat.reduceAdd, rng14, Bool.true_and, Bool.false_and, Bool.and_false, Bool.and_self]
  generalize hA : upd _ _ _ = A
  obtain ⟨a', e1, e2⟩ := key A rfl (by omega) (by omega) (by omega) hr (by subst hA; simp only [upd_get, ↓reduceIte, Nat.reduceEqDiff, frOf_0, sliceA]) (by subst hA; simp only [upd_get, ↓reduceIte, Nat.reduceEqDiff]) (by subst hA; simp only [upd_get, ↓reduceIte, Nat.reduceEqDiff]; rfl) (n + 49) (by omega)
  rw [e1]
  simp only [code_seq, code_region, code_draw, code_cond, code_block, code_loop, code_skip, code_exit, code_ret, ops_nil, ops_cons, ops_consG, st_move, st_assign, st_pick, st_fun, st_len t22, st_addr s22, st_load a3, st_bin, st_not, bin2, bindO_some, bindF_some, bindX_normal, bindX_exit, bindX_ret, blkX_normal, blkX_exit, blkX_ret, condX_true, condX_false, iteB_true, iteB_false, ev, putA, upd_get, sliceA, ptrA, cell_0, Option.map_some, ↓reduceIte, Nat.reduceEqDiff, Nat.zero_add, Int.toNat_natCast, Int.natCast_nonneg, true_and, Nat.mul_one, frOf_0, frOf_1, frOf_2, List.map_cons, List.map_nil, decide_true, decide_false, Bool.not_true, Bool.not_false, yieldO_eq, yieldO, List.getElem?_cons_zero, List.getElem?_cons_succ, beq_self_eq_true, Bool.false_eq_true, Option.some_beq_some, b_ft, b_tf, ↓bindO_some, ↓bindF_some, ↓bindX_normal, ↓bindX_exit, ↓bindX_ret, ↓condX_true, ↓condX_false, ↓iteB_true, ↓iteB_false, ↓drawOp_some, ↓drawC_read, ↓drawC_pure, draw_cons, drawOp_some, drawC_read, drawC_pure, draw_nil, cls_move, cls_assign, cls_pick, cls_bin, cls_un, cls_addr, cls_load, cls_len, still_load, window_one, vEq_vi, List.all_cons, List.all_nil, Bool.and_true, Region.wanted, List.size_toArray, List.length_cons, List.length_nil, Nat.reduceAdd, rng14, Bool.true_and, Bool.false_and, Bool.and_false, Bool.and_self, e2]
  rw [fin_ret (z := l.sum)]
  simp only [upd_get, ↓reduceIte, Nat.reduceEqDiff, Int.zero_add]

noncomputable def cszbody : Code := atC [1, 1, 0, 1, 0, 0] ((Try.f60.body).getD .skip)
theorem csz_loop (l : List Int) (call : CallF) (m : Nat) : ∀ (r : List Int) (i : Nat) (s : Int) (a : Fr), l.drop i = r → l.length ≤ 1000 → 0 ≤ s → s + 20 * r.length ≤ 10000 → (∀ x ∈ r, 1 ≤ x ∧ x ≤ 20) → a 0 = sliceA 0 0 l.length 1 → a 3 = vi s → a 6 = sliceA 0 0 l.length 1 → a 7 = vi (l.length : Nat) → a 8 = vi (i : Nat) → ∀ k, r.length < k →
    ∃ a', loopN (evCode Try.prog call m 17 none cszbody) k a [.cells 0 false (ints l)] = some (.exit 0, a', [.cells 0 false (ints l)]) ∧ a' 3 = vi (s + r.sum) := by
  have eb : cszbody = atC [1, 1, 0, 1, 0, 0] ((Try.f60.body).getD .skip) := rfl
  intro r
  induction r with
  | nil =>
    intro i s a hd hlen h0 h1 hr ha0 ha3 ha6 ha7 ha8 k hk
    have hi := drop_nil hd
    have hlt : ¬ ((i : Int) < l.length) := by omega
    cases k with
    | zero => omega
    | succ k =>
      rw [loopN, eb]
      simp only [Try.f60, Option.getD_some, atC, code_seq, code_region, code_draw, code_cond, code_block, code_loop, code_skip, code_exit, code_ret, ops_nil, ops_cons, ops_consG, st_move, st_assign, st_pick, st_fun, st_len t22, st_addr s22, st_load a3, st_bin, st_not, bin2, bindO_some, bindF_some, bindX_normal, bindX_exit, bindX_ret, blkX_normal, blkX_exit, blkX_ret, condX_true, condX_false, iteB_true, iteB_false, ev, putA, upd_get, sliceA, ptrA, cell_0, Option.map_some, ↓reduceIte, Nat.reduceEqDiff, Nat.zero_add, Int.toNat_natCast, Int.natCast_nonneg, true_and, Nat.mul_one, frOf_0, frOf_1, frOf_2, List.map_cons, List.map_nil, decide_true, decide_false, Bool.not_true, Bool.not_false, yieldO_eq, yieldO, List.getElem?_cons_zero, List.getElem?_cons_succ, beq_self_eq_true, Bool.false_eq_true, Option.some_beq_some, b_ft, b_tf, ↓bindO_some, ↓bindF_some, ↓bindX_normal, ↓bindX_exit, ↓bindX_ret, ↓condX_true, ↓condX_false, ↓iteB_true, ↓iteB_false, ↓drawOp_some, ↓drawC_read, ↓drawC_pure, draw_cons, drawOp_some, drawC_read, drawC_pure, draw_nil, cls_move, cls_assign, cls_pick, cls_bin, cls_un, cls_addr, cls_load, cls_len, still_load, window_one, vEq_vi, List.all_cons, List.all_nil, Bool.and_true, Region.wanted, List.size_toArray, List.length_cons, List.length_nil, Nat.reduceAdd, rng14, Bool.true_and, Bool.false_and, Bool.and_false, Bool.and_self, ha0, ha3, ha6, ha7, ha8, hlt]
      exact ⟨_, rfl, by simp only [upd_get, ↓reduceIte, Nat.reduceEqDiff, ha3, List.sum_nil, Int.add_zero]⟩
  | cons x r ih =>
    intro i s a hd hlen h0 h1 hr ha0 ha3 ha6 ha7 ha8 k hk
    obtain ⟨hx, hd2, hi⟩ := drop_get hd
    have hlt : ((i : Int) < l.length) := by omega
    have hx2 := ints_get hx
    have hxr := hr x (List.mem_cons_self ..)
    simp only [List.length_cons] at h1 hk
    cases k with
    | zero => omega
    | succ k =>
      rw [loopN, eb]
      simp only [Try.f60, Option.getD_some, atC, code_seq, code_region, code_draw, code_cond, code_block, code_loop, code_skip, code_exit, code_ret, ops_nil, ops_cons, ops_consG, st_move, st_assign, st_pick, st_fun, st_len t22, st_addr s22, st_load a3, st_bin, st_not, bin2, bindO_some, bindF_some, bindX_normal, bindX_exit, bindX_ret, blkX_normal, blkX_exit, blkX_ret, condX_true, condX_false, iteB_true, iteB_false, ev, putA, upd_get, sliceA, ptrA, cell_0, Option.map_some, ↓reduceIte, Nat.reduceEqDiff, Nat.zero_add, Int.toNat_natCast, Int.natCast_nonneg, true_and, Nat.mul_one, frOf_0, frOf_1, frOf_2, List.map_cons, List.map_nil, decide_true, decide_false, Bool.not_true, Bool.not_false, yieldO_eq, yieldO, List.getElem?_cons_zero, List.getElem?_cons_succ, beq_self_eq_true, Bool.false_eq_true, Option.some_beq_some, b_ft, b_tf, ↓bindO_some, ↓bindF_some, ↓bindX_normal, ↓bindX_exit, ↓bindX_ret, ↓condX_true, ↓condX_false, ↓iteB_true, ↓iteB_false, ↓drawOp_some, ↓drawC_read, ↓drawC_pure, draw_cons, drawOp_some, drawC_read, drawC_pure, draw_nil, cls_move, cls_assign, cls_pick, cls_bin, cls_un, cls_addr, cls_load, cls_len, still_load, window_one, vEq_vi, List.all_cons, List.all_nil, Bool.and_true, Region.wanted, List.size_toArray, List.length_cons, List.length_nil, Nat.reduceAdd, rng14, Bool.true_and, Bool.false_and, Bool.and_false, Bool.and_self, ha0, ha3, ha6, ha7, ha8, hlt, hx2]
      rw [eb] at ih
      simp only [Try.f60, Option.getD_some, atC] at ih
      refine (ih (i + 1) (s + x) _ hd2 hlen (by omega) (by omega) (fun y hy => hr y (List.mem_cons_of_mem _ hy)) ?_ ?_ ?_ ?_ ?_ k (by omega)).imp fun a' h => ⟨h.1, by rw [h.2, List.sum_cons, Int.add_assoc]⟩
      · exact ha0
      · show vi _ = vi _; rw [wr (by omega) (by omega)]
      · exact ha6
      · exact ha7
      · show vi _ = vi _; rw [wr (by omega) (by omega)]; rfl
theorem csz_run (l : List Int) (h : l.length ≤ 40) (hr : ∀ x ∈ l, 1 ≤ x ∧ x ≤ 20) (n : Nat) : evB Try.prog noC (n + 50) (.func (.func 60) #[] #[]) [sliceA 0 0 l.length 1] [.cells 0 false (ints l)] = some (vi l.sum, [.cells 0 false (ints l)]) := by
  rw [evB_noC, body_run Try.func60 rfl (ok_fn (by rfl) Try.func60 rfl) (Nat.le_of_ble_eq_true rfl)]
  have key := csz_loop l (evB Try.prog noC (n + 49)) (n + 49) l 0 0
  have eb : cszbody = atC [1, 1, 0, 1, 0, 0] ((Try.f60.body).getD .skip) := rfl
  rw [eb] at key
  simp only [Try.f60, Option.getD_some, atC] at key
  simp only [Try.f60, code_seq, code_region, code_draw, code_cond, code_block, code_loop, code_skip, code_exit, code_ret, ops_nil, ops_cons, ops_consG, st_move, st_assign, st_pick, st_fun, st_len t22, st_addr s22, st_load a3, st_bin, st_not, bin2, bindO_some, bindF_some, bindX_normal, bindX_exit, bindX_ret, blkX_normal, blkX_exit, blkX_ret, condX_true, condX_false, iteB_true, iteB_false, ev, putA, upd_get, sliceA, ptrA, cell_0, Option.map_some, ↓reduceIte, Nat.reduceEqDiff, Nat.zero_add, Int.toNat_natCast, Int.natCast_nonneg, true_and, Nat.mul_one, frOf_0, frOf_1, frOf_2, List.map_cons, List.map_nil, decide_true, decide_false, Bool.not_true, Bool.not_false, yieldO_eq, yieldO, List.getElem?_cons_zero, List.getElem?_cons_succ, beq_self_eq_true, Bool.false_eq_true, Option.some_beq_some, b_ft, b_tf, ↓bindO_some, ↓bindF_some, ↓bindX_normal, ↓bindX_exit, ↓bindX_ret, ↓condX_true, ↓condX_false, ↓iteB_true, ↓iteB_false, ↓drawOp_some, ↓drawC_read, ↓drawC_pure, draw_cons, drawOp_some, drawC_read, drawC_pure, draw_nil, cls_move, cls_assign, cls_pick, cls_bin, cls_un, cls_addr, cls_load, cls_len, still_load, window_one, vEq_vi, List.all_cons, List.all_nil, Bool.and_true, Region.wanted, List.size_toArray, List.length_cons, List.length_nil, Nat.reduceAdd, rng14, Bool.true_and, Bool.false_and, Bool.and_false, Bool.and_self]
  generalize hA : upd _ _ _ = A
  obtain ⟨a', e1, e2⟩ := key A rfl (by omega) (by omega) (by omega) hr (by subst hA; simp only [upd_get, ↓reduceIte, Nat.reduceEqDiff, frOf_0, sliceA]) (by subst hA; simp only [upd_get, ↓reduceIte, Nat.reduceEqDiff]) (by subst hA; simp only [upd_get, ↓reduceIte, Nat.reduceEqDiff, frOf_0, sliceA]) (by subst hA; simp only [upd_get, ↓reduceIte, Nat.reduceEqDiff]) (by subst hA; simp only [upd_get, ↓reduceIte, Nat.reduceEqDiff]; rfl) (n + 49) (by omega)
  rw [e1]
  simp only [code_seq, code_region, code_draw, code_cond, code_block, code_loop, code_skip, code_exit, code_ret, ops_nil, ops_cons, ops_consG, st_move, st_assign, st_pick, st_fun, st_len t22, st_addr s22, st_load a3, st_bin, st_not, bin2, bindO_some, bindF_some, bindX_normal, bindX_exit, bindX_ret, blkX_normal, blkX_exit, blkX_ret, condX_true, condX_false, iteB_true, iteB_false, ev, putA, upd_get, sliceA, ptrA, cell_0, Option.map_some, ↓reduceIte, Nat.reduceEqDiff, Nat.zero_add, Int.toNat_natCast, Int.natCast_nonneg, true_and, Nat.mul_one, frOf_0, frOf_1, frOf_2, List.map_cons, List.map_nil, decide_true, decide_false, Bool.not_true, Bool.not_false, yieldO_eq, yieldO, List.getElem?_cons_zero, List.getElem?_cons_succ, beq_self_eq_true, Bool.false_eq_true, Option.some_beq_some, b_ft, b_tf, ↓bindO_some, ↓bindF_some, ↓bindX_normal, ↓bindX_exit, ↓bindX_ret, ↓condX_true, ↓condX_false, ↓iteB_true, ↓iteB_false, ↓drawOp_some, ↓drawC_read, ↓drawC_pure, draw_cons, drawOp_some, drawC_read, drawC_pure, draw_nil, cls_move, cls_assign, cls_pick, cls_bin, cls_un, cls_addr, cls_load, cls_len, still_load, window_one, vEq_vi, List.all_cons, List.all_nil, Bool.and_true, Region.wanted, List.size_toArray, List.length_cons, List.length_nil, Nat.reduceAdd, rng14, Bool.true_and, Bool.false_and, Bool.and_false, Bool.and_self, e2]
  rw [fin_ret (z := l.sum)]
  simp only [upd_get, ↓reduceIte, Nat.reduceEqDiff, Int.zero_add]

def bad (p : Option Int) (x : Int) : Option Int := if x < 1 then some 2 else if 20 < x then some 2 else match p with
  | some q => if q < x then some 9 else none
  | none => none
def chkGo : Option Int → List Int → Option Int
  | _, [] => none
  | p, x :: r => match bad p x with
    | some e => some e
    | none => chkGo (some x) r
/-- The error of a partition. -/
def chk (l : List Int) : Int := if 20 < l.length then 8 else match chkGo none l with
  | some e => e
  | none => if 20 < l.sum then 8 else 0
theorem bad_none {p : Option Int} {x : Int} (h : bad p x = none) : 1 ≤ x ∧ x ≤ 20 := by
  unfold bad at h
  split at h
  · cases h
  · split at h
    · cases h
    · omega
theorem chkGo_none : ∀ {l : List Int} {p : Option Int}, chkGo p l = none → ∀ x ∈ l, 1 ≤ x ∧ x ≤ 20 := by
  intro l
  induction l with
  | nil => intro p _ x hx; cases hx
  | cons y l ih =>
    intro p h x hx
    unfold chkGo at h
    split at h
    · cases h
    · rename_i hb
      rcases List.mem_cons.1 hx with rfl | hx
      · exact bad_none hb
      · exact ih h x hx
theorem sum_le : ∀ {l : List Int}, (∀ x ∈ l, 1 ≤ x ∧ x ≤ 20) → 0 ≤ l.sum ∧ l.sum ≤ 20 * l.length := by
  intro l
  induction l with
  | nil => intro _; simp
  | cons x l ih =>
    intro h
    have h1 := h x (List.mem_cons_self ..)
    have h2 := ih fun y hy => h y (List.mem_cons_of_mem _ hy)
    simp only [List.sum_cons, List.length_cons]
    omega
def Ends (nm : Code) (nt m k : Nat) (call : CallF) (a : Fr) (H : Heap) (keep : Fr → Prop) : Option Int → Prop
  | none => ∃ a', loopN (evCode Try.prog call m nt none nm) k a H = some (.exit 0, a', H) ∧ keep a'
  | some e => ∃ a', loopN (evCode Try.prog call m nt none nm) k a H = some (.ret, a', H) ∧ a' 2 = vi e
theorem ends_step {nm : Code} {nt m k : Nat} {call : CallF} {a : Fr} {H : Heap} {keep : Fr → Prop} {e : Option Int} {Q : Fr → Prop} (h : ∃ a1, evCode Try.prog call m nt none nm a H = some (.normal, a1, H) ∧ Q a1) (he : ∀ a1, Q a1 → Ends nm nt m k call a1 H keep e) : Ends nm nt m (k + 1) call a H keep e := by
  obtain ⟨a1, h, hq⟩ := h
  have he := he a1 hq
  cases e <;> (unfold Ends at he ⊢; rw [loopN, h]; exact he)

noncomputable def reg8 : Code := atC [1, 1, 0, 1, 0, 0, 1, 0, 0, 1, 0] ((Try.f16.body).getD .skip)
theorem reg8_ops : ∃ O, reg8 = .region 8 O true ∧ O.size = 14 ∧ O.toList[0]? = some ((match reg8 with | .region _ p _ => p | _ => #[]).getD 0 default) ∧ O.toList[1]? = some ((match reg8 with | .region _ p _ => p | _ => #[]).getD 1 default) ∧ O.toList[2]? = some ((match reg8 with | .region _ p _ => p | _ => #[]).getD 2 default) ∧ O.toList[3]? = some ((match reg8 with | .region _ p _ => p | _ => #[]).getD 3 default) ∧ O.toList[4]? = some ((match reg8 with | .region _ p _ => p | _ => #[]).getD 4 default) ∧ O.toList[5]? = some ((match reg8 with | .region _ p _ => p | _ => #[]).getD 5 default) ∧ O.toList[6]? = some ((match reg8 with | .region _ p _ => p | _ => #[]).getD 6 default) ∧ O.toList[7]? = some ((match reg8 with | .region _ p _ => p | _ => #[]).getD 7 default) ∧ O.toList[8]? = some ((match reg8 with | .region _ p _ => p | _ => #[]).getD 8 default) ∧ O.toList[9]? = some ((match reg8 with | .region _ p _ => p | _ => #[]).getD 9 default) ∧ O.toList[10]? = some ((match reg8 with | .region _ p _ => p | _ => #[]).getD 10 default) ∧ O.toList[11]? = some ((match reg8 with | .region _ p _ => p | _ => #[]).getD 11 default) ∧ O.toList[12]? = some ((match reg8 with | .region _ p _ => p | _ => #[]).getD 12 default) ∧ O.toList[13]? = some ((match reg8 with | .region _ p _ => p | _ => #[]).getD 13 default) :=
  ⟨_, rfl, rfl, rfl, rfl, rfl, rfl, rfl, rfl, rfl, rfl, rfl, rfl, rfl, rfl, rfl, rfl⟩
theorem reg8_pos (call : CallF) (k nt : Nat) (l : List Int) (i j : Nat) (x q : Int) (hg : 0 < (i : Int)) (hw : IntKind.i64.wrap ((i : Int) - 1) = (j : Int)) (hj : (j : Int) < l.length) (hlt : (i : Int) < l.length) (hx2 : (ints l)[i]? = some (vi x)) (hq2 : (ints l)[j]? = some (vi q)) (a : Fr) (ha0 : a 0 = sliceA 0 0 l.length 1) (ha3 : a 3 = vi (i : Nat)) :
    ∃ a', evCode Try.prog call k nt none reg8 a [.cells 0 false (ints l)] = some (.normal, a', [.cells 0 false (ints l)]) ∧ a' 32 = .bool (decide (q < x)) ∧ a' 0 = a 0 ∧ a' 3 = a 3 ∧ a' 2 = a 2 := by
  obtain ⟨O, e, hs, h0, h1, h2, h3, h4, h5, h6, h7, h8, h9, h10, h11, h12, h13⟩ := reg8_ops
  rw [e]
  simp only [reg8, Try.f16, Option.getD_some, atC, Array.getD_eq_getD_getElem?, List.getElem?_toArray, List.getElem?_cons_zero, List.getElem?_cons_succ] at h0 h1 h2 h3 h4 h5 h6 h7 h8 h9 h10 h11 h12 h13
  clear e
  rw [code_draw, hs, rng14]
  generalize Region.before O = B
  rw [dr_pure h0 rfl (v := vi i) ?_]; rotate_left
  · exact (show some (a 3, _) = some (vi i, _) by rw [ha3])
  rw [dr_pure h1 rfl (v := .bool true) ?_]; rotate_left
  · exact (st_bin.trans (show bin2 .gtr (vi i) (vi 0) _ _ = _ from by simp only [bin2, hg, decide_true]))
  rw [dr_pure h2 rfl (v := .bool true) ?_]; rotate_left
  · exact (rfl)
  rw [dr_pureG h3 (yv h2 rfl) rfl (v := sliceA 0 0 l.length 1) ?_]; rotate_left
  · exact (show some (a 0, _) = some (sliceA 0 0 l.length 1, _) by rw [ha0])
  rw [dr_pureG h4 (yv h2 rfl) rfl (v := vi i) ?_]; rotate_left
  · exact (show some (a 3, _) = some (vi i, _) by rw [ha3])
  rw [dr_pureG h5 (yv h2 rfl) rfl (v := ptrA 0 i) ?_]; rotate_left
  · exact ((st_addr s22).trans (show (if 0 ≤ (i : Int) ∧ (i : Int) < l.length then some (ptrA 0 (0 + (i : Int).toNat * 1), _) else none) = _ from by rw [if_pos ⟨by omega, hlt⟩, Int.toNat_natCast, Nat.mul_one, Nat.zero_add]))
  rw [dr_readG h6 (yv h2 rfl) rfl (v := vi x) ?_ vEq_vi]; rotate_left
  · exact ((st_load a3).trans (show ((ints l)[i]?).map (·, _) = _ from by rw [hx2]; rfl))
  rw [dr_pureG h7 (yv h2 rfl) rfl (v := sliceA 0 0 l.length 1) ?_]; rotate_left
  · exact (show some (a 0, _) = some (sliceA 0 0 l.length 1, _) by rw [ha0])
  rw [dr_pureG h8 (yv h2 rfl) rfl (v := vi i) ?_]; rotate_left
  · exact (show some (a 3, _) = some (vi i, _) by rw [ha3])
  rw [dr_pureG h9 (yv h2 rfl) rfl (v := vi j) ?_]; rotate_left
  · exact (st_bin.trans (show bin2 .sub (vi i) (vi 1) _ _ = _ from by simp only [bin2, hw]))
  rw [dr_pureG h10 (yv h2 rfl) rfl (v := ptrA 0 j) ?_]; rotate_left
  · exact ((st_addr s22).trans (show (if 0 ≤ (j : Int) ∧ (j : Int) < l.length then some (ptrA 0 (0 + (j : Int).toNat * 1), _) else none) = _ from by rw [if_pos ⟨by omega, hj⟩, Int.toNat_natCast, Nat.mul_one, Nat.zero_add]))
  rw [dr_readG h11 (yv h2 rfl) rfl (v := vi q) ?_ vEq_vi]; rotate_left
  · exact ((st_load a3).trans (show ((ints l)[j]?).map (·, _) = _ from by rw [hq2]; rfl))
  rw [dr_pureG h12 (yv h2 rfl) rfl (v := .bool (decide (q < x))) ?_]; rotate_left
  · exact (st_bin.trans rfl)
  rw [dr_pure h13 rfl (v := .bool (decide (q < x))) ?_]; rotate_left
  · exact (rfl)
  rw [draw_nil, bindF_some]
  exact ⟨_, rfl, rfl, rfl, rfl, rfl⟩
theorem reg8_zero (call : CallF) (k nt : Nat) (l : List Int) (i : Nat) (hg : ¬ (0 < (i : Int))) (a : Fr) (ha3 : a 3 = vi (i : Nat)) :
    ∃ a', evCode Try.prog call k nt none reg8 a [.cells 0 false (ints l)] = some (.normal, a', [.cells 0 false (ints l)]) ∧ a' 32 = .bool false ∧ a' 0 = a 0 ∧ a' 3 = a 3 ∧ a' 2 = a 2 := by
  obtain ⟨O, e, hs, h0, h1, h2, h3, h4, h5, h6, h7, h8, h9, h10, h11, h12, h13⟩ := reg8_ops
  rw [e]
  simp only [reg8, Try.f16, Option.getD_some, atC, Array.getD_eq_getD_getElem?, List.getElem?_toArray, List.getElem?_cons_zero, List.getElem?_cons_succ] at h0 h1 h2 h3 h4 h5 h6 h7 h8 h9 h10 h11 h12 h13
  clear e
  rw [code_draw, hs, rng14]
  generalize Region.before O = B
  rw [dr_pure h0 rfl (v := vi i) ?_]; rotate_left
  · exact (show some (a 3, _) = some (vi i, _) by rw [ha3])
  rw [dr_pure h1 rfl (v := .bool false) ?_]; rotate_left
  · exact (st_bin.trans (show bin2 .gtr (vi i) (vi 0) _ _ = _ from by simp only [bin2, hg, decide_false]))
  rw [dr_pure h2 rfl (v := .bool false) ?_]; rotate_left
  · exact (rfl)
  rw [dr_skip h3 (yv h2 rfl) (by decide)]
  rw [dr_skip h4 (yv h2 rfl) (by decide)]
  rw [dr_skip h5 (yv h2 rfl) (by decide)]
  rw [dr_skip h6 (yv h2 rfl) (by decide)]
  rw [dr_skip h7 (yv h2 rfl) (by decide)]
  rw [dr_skip h8 (yv h2 rfl) (by decide)]
  rw [dr_skip h9 (yv h2 rfl) (by decide)]
  rw [dr_skip h10 (yv h2 rfl) (by decide)]
  rw [dr_skip h11 (yv h2 rfl) (by decide)]
  rw [dr_skip h12 (yv h2 rfl) (by decide)]
  rw [dr_pure h13 rfl (v := .bool false) ?_]; rotate_left
  · exact (rfl)
  rw [draw_nil, bindF_some]
  exact ⟨_, rfl, rfl, rfl, rfl, rfl⟩

noncomputable def rckbody : Code := atC [1, 1, 0, 1, 0, 0] ((Try.f16.body).getD .skip)
theorem rck_loop (l : List Int) (n m : Nat) : ∀ (r : List Int) (i : Nat) (a : Fr) (p : Option Int), l.drop i = r → l.length ≤ 20 → (i = 0 ∧ p = none ∨ ∃ j q, i = j + 1 ∧ l[j]? = some q ∧ p = some q) → a 0 = sliceA 0 0 l.length 1 → a 3 = vi (i : Nat) → ∀ k, r.length < k →
    Ends rckbody 36 m k (evB Try.prog noC (n + 1)) a [.cells 0 false (ints l)] (fun a' => a' 0 = sliceA 0 0 l.length 1) (chkGo p r) := by
  have eb : rckbody = atC [1, 1, 0, 1, 0, 0] ((Try.f16.body).getD .skip) := rfl
  rw [eb]
  simp only [Try.f16, Option.getD_some, atC]
  intro r
  induction r with
  | nil =>
    intro i a p hd hlen hp ha0 ha3 k hk
    have hi := drop_nil hd
    have hlt : ¬ ((i : Int) < l.length) := by omega
    cases k with
    | zero => omega
    | succ k =>
      unfold chkGo Ends
      rw [loopN]
      simp only [code_seq, code_region, code_cond, code_block, code_loop, code_skip, code_exit, code_ret, ops_nil, ops_cons, ops_consG, st_move, st_assign, st_pick, st_fun, st_len t22, st_addr s22, st_load a3, st_bin, st_not, bin2, bindO_some, bindF_some, bindX_normal, bindX_exit, bindX_ret, blkX_normal, blkX_exit, blkX_ret, condX_true, condX_false, iteB_true, iteB_false, ev, putA, upd_get, sliceA, ptrA, cell_0, Option.map_some, ↓reduceIte, Nat.reduceEqDiff, Nat.zero_add, Int.toNat_natCast, Int.natCast_nonneg, true_and, Nat.mul_one, frOf_0, frOf_1, frOf_2, List.map_cons, List.map_nil, decide_true, decide_false, Bool.not_true, Bool.not_false, List.getElem?_cons_zero, List.getElem?_cons_succ, beq_self_eq_true, Bool.false_eq_true, Option.some_beq_some, b_ft, b_tf, ↓bindO_some, ↓bindF_some, ↓bindX_normal, ↓bindX_exit, ↓bindX_ret, ↓condX_true, ↓condX_false, ↓iteB_true, ↓iteB_false, ↓drawOp_some, ↓drawC_read, ↓drawC_pure, drawOp_some, drawC_read, drawC_pure, draw_nil, cls_move, cls_assign, cls_pick, cls_bin, cls_un, cls_addr, cls_load, cls_len, still_load, window_one, vEq_vi, List.all_cons, List.all_nil, Bool.and_true, List.size_toArray, List.length_cons, List.length_nil, Nat.reduceAdd, rng14, Bool.true_and, Bool.false_and, Bool.and_false, Bool.and_self, ha0, ha3, hlt]
      exact ⟨_, rfl, by simp only [upd_get, ↓reduceIte, Nat.reduceEqDiff, ha0, sliceA]⟩
  | cons x r ih =>
    intro i a p hd hlen hp ha0 ha3 k hk
    obtain ⟨hx, hd2, hi⟩ := drop_get hd
    have hlt : ((i : Int) < l.length) := by omega
    have hx2 := ints_get hx
    simp only [List.length_cons] at hk
    cases k with
    | zero => omega
    | succ k =>
    have step : chkGo p (x :: r) = match bad p x with | some e => some e | none => chkGo (some x) r := rfl
    rw [step]
    by_cases h1 : x < 1
    · have hb : bad p x = some 2 := by unfold bad; rw [if_pos h1]
      rw [hb]
      have h1' : ¬ (1 ≤ x) := by omega
      unfold Ends
      rw [loopN]
      simp only [code_seq, code_region, code_cond, code_block, code_loop, code_skip, code_exit, code_ret, ops_nil, ops_cons, ops_consG, st_move, st_assign, st_pick, st_fun, st_len t22, st_addr s22, st_load a3, st_bin, st_not, bin2, bindO_some, bindF_some, bindX_normal, bindX_exit, bindX_ret, blkX_normal, blkX_exit, blkX_ret, condX_true, condX_false, iteB_true, iteB_false, ev, putA, upd_get, sliceA, ptrA, cell_0, Option.map_some, ↓reduceIte, Nat.reduceEqDiff, Nat.zero_add, Int.toNat_natCast, Int.natCast_nonneg, true_and, Nat.mul_one, frOf_0, frOf_1, frOf_2, List.map_cons, List.map_nil, decide_true, decide_false, Bool.not_true, Bool.not_false, List.getElem?_cons_zero, List.getElem?_cons_succ, beq_self_eq_true, Bool.false_eq_true, Option.some_beq_some, b_ft, b_tf, ↓bindO_some, ↓bindF_some, ↓bindX_normal, ↓bindX_exit, ↓bindX_ret, ↓condX_true, ↓condX_false, ↓iteB_true, ↓iteB_false, ↓drawOp_some, ↓drawC_read, ↓drawC_pure, drawOp_some, drawC_read, drawC_pure, draw_nil, cls_move, cls_assign, cls_pick, cls_bin, cls_un, cls_addr, cls_load, cls_len, still_load, window_one, vEq_vi, List.all_cons, List.all_nil, Bool.and_true, List.size_toArray, List.length_cons, List.length_nil, Nat.reduceAdd, rng14, Bool.true_and, Bool.false_and, Bool.and_false, Bool.and_self, ha0, ha3, hlt, hx2, within_run, h1, h1']
      exact ⟨_, rfl, rfl⟩
    by_cases h2 : 20 < x
    · have hb : bad p x = some 2 := by unfold bad; rw [if_neg h1, if_pos h2]
      rw [hb]
      have h1' : 1 ≤ x := by omega
      have h2' : ¬ (x ≤ 20) := by omega
      unfold Ends
      rw [loopN]
      simp only [code_seq, code_region, code_cond, code_block, code_loop, code_skip, code_exit, code_ret, ops_nil, ops_cons, ops_consG, st_move, st_assign, st_pick, st_fun, st_len t22, st_addr s22, st_load a3, st_bin, st_not, bin2, bindO_some, bindF_some, bindX_normal, bindX_exit, bindX_ret, blkX_normal, blkX_exit, blkX_ret, condX_true, condX_false, iteB_true, iteB_false, ev, putA, upd_get, sliceA, ptrA, cell_0, Option.map_some, ↓reduceIte, Nat.reduceEqDiff, Nat.zero_add, Int.toNat_natCast, Int.natCast_nonneg, true_and, Nat.mul_one, frOf_0, frOf_1, frOf_2, List.map_cons, List.map_nil, decide_true, decide_false, Bool.not_true, Bool.not_false, List.getElem?_cons_zero, List.getElem?_cons_succ, beq_self_eq_true, Bool.false_eq_true, Option.some_beq_some, b_ft, b_tf, ↓bindO_some, ↓bindF_some, ↓bindX_normal, ↓bindX_exit, ↓bindX_ret, ↓condX_true, ↓condX_false, ↓iteB_true, ↓iteB_false, ↓drawOp_some, ↓drawC_read, ↓drawC_pure, drawOp_some, drawC_read, drawC_pure, draw_nil, cls_move, cls_assign, cls_pick, cls_bin, cls_un, cls_addr, cls_load, cls_len, still_load, window_one, vEq_vi, List.all_cons, List.all_nil, Bool.and_true, List.size_toArray, List.length_cons, List.length_nil, Nat.reduceAdd, rng14, Bool.true_and, Bool.false_and, Bool.and_false, Bool.and_self, ha0, ha3, hlt, hx2, within_run, h1, h1', h2, h2']
      exact ⟨_, rfl, rfl⟩
    have h1' : 1 ≤ x := by omega
    have h2' : x ≤ 20 := by omega
    have go : ∀ a1, a1 0 = sliceA 0 0 l.length 1 → a1 3 = vi (i + 1 : Nat) → Ends _ 36 m k _ a1 _ _ (chkGo (some x) r) := fun a1 e0 e3 => ih (i + 1) a1 (some x) hd2 hlen (.inr ⟨i, x, rfl, hx, rfl⟩) e0 e3 k (by omega)
    rcases hp with ⟨hi0, rfl⟩ | ⟨j, q, hij, hq, rfl⟩
    · have hb : bad none x = none := by unfold bad; rw [if_neg h1, if_neg h2]
      rw [hb]
      have hg : ¬ (0 < (i : Int)) := by omega
      refine ends_step (Q := fun a1 => a1 0 = sliceA 0 0 l.length 1 ∧ a1 3 = vi (i + 1 : Nat)) ?_ (fun a1 h => go a1 h.1 h.2)
      simp only [code_seq, code_region, code_cond, code_block, code_loop, code_skip, code_exit, code_ret, ops_nil, ops_cons, ops_consG, st_move, st_assign, st_pick, st_fun, st_len t22, st_addr s22, st_load a3, st_bin, st_not, bin2, bindO_some, bindF_some, bindX_normal, bindX_exit, bindX_ret, blkX_normal, blkX_exit, blkX_ret, condX_true, condX_false, iteB_true, iteB_false, ev, putA, upd_get, sliceA, ptrA, cell_0, Option.map_some, ↓reduceIte, Nat.reduceEqDiff, Nat.zero_add, Int.toNat_natCast, Int.natCast_nonneg, true_and, Nat.mul_one, frOf_0, frOf_1, frOf_2, List.map_cons, List.map_nil, decide_true, decide_false, Bool.not_true, Bool.not_false, List.getElem?_cons_zero, List.getElem?_cons_succ, beq_self_eq_true, Bool.false_eq_true, Option.some_beq_some, b_ft, b_tf, ↓bindO_some, ↓bindF_some, ↓bindX_normal, ↓bindX_exit, ↓bindX_ret, ↓condX_true, ↓condX_false, ↓iteB_true, ↓iteB_false, ↓drawOp_some, ↓drawC_read, ↓drawC_pure, drawOp_some, drawC_read, drawC_pure, draw_nil, cls_move, cls_assign, cls_pick, cls_bin, cls_un, cls_addr, cls_load, cls_len, still_load, window_one, vEq_vi, List.all_cons, List.all_nil, Bool.and_true, List.size_toArray, List.length_cons, List.length_nil, Nat.reduceAdd, rng14, Bool.true_and, Bool.false_and, Bool.and_false, Bool.and_self, ha0, ha3, hlt, hx2, within_run, h1, h1', h2, h2', hg]
      generalize hA : upd _ _ _ = A
      have fA0 : A 0 = sliceA 0 0 l.length 1 := by subst hA; exact ha0
      have fA3 : A 3 = vi i := by subst hA; exact ha3
      obtain ⟨a8, e8, f32, f0, f3, f2⟩ := reg8_zero (evB Try.prog noC (n + 1)) m 36 l i hg A fA3
      have f0 := f0.trans fA0
      have f3 := f3.trans fA3
      simp only [reg8, Try.f16, Option.getD_some, atC] at e8
      rw [e8]
      simp only [code_seq, code_region, code_cond, code_block, code_loop, code_skip, code_exit, code_ret, ops_nil, ops_cons, ops_consG, st_move, st_assign, st_pick, st_fun, st_len t22, st_addr s22, st_load a3, st_bin, st_not, bin2, bindO_some, bindF_some, bindX_normal, bindX_exit, bindX_ret, blkX_normal, blkX_exit, blkX_ret, condX_true, condX_false, iteB_true, iteB_false, ev, putA, upd_get, sliceA, ptrA, cell_0, Option.map_some, ↓reduceIte, Nat.reduceEqDiff, Nat.zero_add, Int.toNat_natCast, Int.natCast_nonneg, true_and, Nat.mul_one, frOf_0, frOf_1, frOf_2, List.map_cons, List.map_nil, decide_true, decide_false, Bool.not_true, Bool.not_false, List.getElem?_cons_zero, List.getElem?_cons_succ, beq_self_eq_true, Bool.false_eq_true, Option.some_beq_some, b_ft, b_tf, ↓bindO_some, ↓bindF_some, ↓bindX_normal, ↓bindX_exit, ↓bindX_ret, ↓condX_true, ↓condX_false, ↓iteB_true, ↓iteB_false, ↓drawOp_some, ↓drawC_read, ↓drawC_pure, drawOp_some, drawC_read, drawC_pure, draw_nil, cls_move, cls_assign, cls_pick, cls_bin, cls_un, cls_addr, cls_load, cls_len, still_load, window_one, vEq_vi, List.all_cons, List.all_nil, Bool.and_true, List.size_toArray, List.length_cons, List.length_nil, Nat.reduceAdd, rng14, Bool.true_and, Bool.false_and, Bool.and_false, Bool.and_self, f32, f0, f3]
      exact ⟨_, rfl, f0, by show vi _ = vi _; rw [wr (by omega) (by omega)]; rfl⟩
    · by_cases h3 : q < x
      · have hb : bad (some q) x = some 9 := by unfold bad; rw [if_neg h1, if_neg h2]; exact if_pos h3
        rw [hb]
        have hg : 0 < (i : Int) := by omega
        have hw : IntKind.i64.wrap ((i : Int) - 1) = (j : Int) := by rw [wr (by omega) (by omega)]; omega
        have hj : (j : Int) < l.length := by omega
        have hq2 := ints_get hq
        unfold Ends
        rw [loopN]
        simp only [code_seq, code_region, code_cond, code_block, code_loop, code_skip, code_exit, code_ret, ops_nil, ops_cons, ops_consG, st_move, st_assign, st_pick, st_fun, st_len t22, st_addr s22, st_load a3, st_bin, st_not, bin2, bindO_some, bindF_some, bindX_normal, bindX_exit, bindX_ret, blkX_normal, blkX_exit, blkX_ret, condX_true, condX_false, iteB_true, iteB_false, ev, putA, upd_get, sliceA, ptrA, cell_0, Option.map_some, ↓reduceIte, Nat.reduceEqDiff, Nat.zero_add, Int.toNat_natCast, Int.natCast_nonneg, true_and, Nat.mul_one, frOf_0, frOf_1, frOf_2, List.map_cons, List.map_nil, decide_true, decide_false, Bool.not_true, Bool.not_false, List.getElem?_cons_zero, List.getElem?_cons_succ, beq_self_eq_true, Bool.false_eq_true, Option.some_beq_some, b_ft, b_tf, ↓bindO_some, ↓bindF_some, ↓bindX_normal, ↓bindX_exit, ↓bindX_ret, ↓condX_true, ↓condX_false, ↓iteB_true, ↓iteB_false, ↓drawOp_some, ↓drawC_read, ↓drawC_pure, drawOp_some, drawC_read, drawC_pure, draw_nil, cls_move, cls_assign, cls_pick, cls_bin, cls_un, cls_addr, cls_load, cls_len, still_load, window_one, vEq_vi, List.all_cons, List.all_nil, Bool.and_true, List.size_toArray, List.length_cons, List.length_nil, Nat.reduceAdd, rng14, Bool.true_and, Bool.false_and, Bool.and_false, Bool.and_self, ha0, ha3, hlt, hx2, within_run, h1, h1', h2, h2', hg, hw, hj, hq2, h3]
        generalize hA : upd _ _ _ = A
        have fA0 : A 0 = sliceA 0 0 l.length 1 := by subst hA; exact ha0
        have fA3 : A 3 = vi i := by subst hA; exact ha3
        obtain ⟨a8, e8, f32, f0, f3, f2⟩ := reg8_pos (evB Try.prog noC (n + 1)) m 36 l i j x q hg hw hj hlt hx2 hq2 A fA0 fA3
        have f0 := f0.trans fA0
        have f3 := f3.trans fA3
        simp only [reg8, Try.f16, Option.getD_some, atC] at e8
        rw [e8]
        simp only [code_seq, code_region, code_cond, code_block, code_loop, code_skip, code_exit, code_ret, ops_nil, ops_cons, ops_consG, st_move, st_assign, st_pick, st_fun, st_len t22, st_addr s22, st_load a3, st_bin, st_not, bin2, bindO_some, bindF_some, bindX_normal, bindX_exit, bindX_ret, blkX_normal, blkX_exit, blkX_ret, condX_true, condX_false, iteB_true, iteB_false, ev, putA, upd_get, sliceA, ptrA, cell_0, Option.map_some, ↓reduceIte, Nat.reduceEqDiff, Nat.zero_add, Int.toNat_natCast, Int.natCast_nonneg, true_and, Nat.mul_one, frOf_0, frOf_1, frOf_2, List.map_cons, List.map_nil, decide_true, decide_false, Bool.not_true, Bool.not_false, List.getElem?_cons_zero, List.getElem?_cons_succ, beq_self_eq_true, Bool.false_eq_true, Option.some_beq_some, b_ft, b_tf, ↓bindO_some, ↓bindF_some, ↓bindX_normal, ↓bindX_exit, ↓bindX_ret, ↓condX_true, ↓condX_false, ↓iteB_true, ↓iteB_false, ↓drawOp_some, ↓drawC_read, ↓drawC_pure, drawOp_some, drawC_read, drawC_pure, draw_nil, cls_move, cls_assign, cls_pick, cls_bin, cls_un, cls_addr, cls_load, cls_len, still_load, window_one, vEq_vi, List.all_cons, List.all_nil, Bool.and_true, List.size_toArray, List.length_cons, List.length_nil, Nat.reduceAdd, rng14, Bool.true_and, Bool.false_and, Bool.and_false, Bool.and_self, f32, f0, f3, h3]
        exact ⟨_, rfl, rfl⟩
      · have hb : bad (some q) x = none := by unfold bad; rw [if_neg h1, if_neg h2]; exact if_neg h3
        rw [hb]
        have hg : 0 < (i : Int) := by omega
        have hw : IntKind.i64.wrap ((i : Int) - 1) = (j : Int) := by rw [wr (by omega) (by omega)]; omega
        have hj : (j : Int) < l.length := by omega
        have hq2 := ints_get hq
        refine ends_step (Q := fun a1 => a1 0 = sliceA 0 0 l.length 1 ∧ a1 3 = vi (i + 1 : Nat)) ?_ (fun a1 h => go a1 h.1 h.2)
        simp only [code_seq, code_region, code_cond, code_block, code_loop, code_skip, code_exit, code_ret, ops_nil, ops_cons, ops_consG, st_move, st_assign, st_pick, st_fun, st_len t22, st_addr s22, st_load a3, st_bin, st_not, bin2, bindO_some, bindF_some, bindX_normal, bindX_exit, bindX_ret, blkX_normal, blkX_exit, blkX_ret, condX_true, condX_false, iteB_true, iteB_false, ev, putA, upd_get, sliceA, ptrA, cell_0, Option.map_some, ↓reduceIte, Nat.reduceEqDiff, Nat.zero_add, Int.toNat_natCast, Int.natCast_nonneg, true_and, Nat.mul_one, frOf_0, frOf_1, frOf_2, List.map_cons, List.map_nil, decide_true, decide_false, Bool.not_true, Bool.not_false, List.getElem?_cons_zero, List.getElem?_cons_succ, beq_self_eq_true, Bool.false_eq_true, Option.some_beq_some, b_ft, b_tf, ↓bindO_some, ↓bindF_some, ↓bindX_normal, ↓bindX_exit, ↓bindX_ret, ↓condX_true, ↓condX_false, ↓iteB_true, ↓iteB_false, ↓drawOp_some, ↓drawC_read, ↓drawC_pure, drawOp_some, drawC_read, drawC_pure, draw_nil, cls_move, cls_assign, cls_pick, cls_bin, cls_un, cls_addr, cls_load, cls_len, still_load, window_one, vEq_vi, List.all_cons, List.all_nil, Bool.and_true, List.size_toArray, List.length_cons, List.length_nil, Nat.reduceAdd, rng14, Bool.true_and, Bool.false_and, Bool.and_false, Bool.and_self, ha0, ha3, hlt, hx2, within_run, h1, h1', h2, h2', hg, hw, hj, hq2, h3]
        generalize hA : upd _ _ _ = A
        have fA0 : A 0 = sliceA 0 0 l.length 1 := by subst hA; exact ha0
        have fA3 : A 3 = vi i := by subst hA; exact ha3
        obtain ⟨a8, e8, f32, f0, f3, f2⟩ := reg8_pos (evB Try.prog noC (n + 1)) m 36 l i j x q hg hw hj hlt hx2 hq2 A fA0 fA3
        have f0 := f0.trans fA0
        have f3 := f3.trans fA3
        simp only [reg8, Try.f16, Option.getD_some, atC] at e8
        rw [e8]
        simp only [code_seq, code_region, code_cond, code_block, code_loop, code_skip, code_exit, code_ret, ops_nil, ops_cons, ops_consG, st_move, st_assign, st_pick, st_fun, st_len t22, st_addr s22, st_load a3, st_bin, st_not, bin2, bindO_some, bindF_some, bindX_normal, bindX_exit, bindX_ret, blkX_normal, blkX_exit, blkX_ret, condX_true, condX_false, iteB_true, iteB_false, ev, putA, upd_get, sliceA, ptrA, cell_0, Option.map_some, ↓reduceIte, Nat.reduceEqDiff, Nat.zero_add, Int.toNat_natCast, Int.natCast_nonneg, true_and, Nat.mul_one, frOf_0, frOf_1, frOf_2, List.map_cons, List.map_nil, decide_true, decide_false, Bool.not_true, Bool.not_false, List.getElem?_cons_zero, List.getElem?_cons_succ, beq_self_eq_true, Bool.false_eq_true, Option.some_beq_some, b_ft, b_tf, ↓bindO_some, ↓bindF_some, ↓bindX_normal, ↓bindX_exit, ↓bindX_ret, ↓condX_true, ↓condX_false, ↓iteB_true, ↓iteB_false, ↓drawOp_some, ↓drawC_read, ↓drawC_pure, drawOp_some, drawC_read, drawC_pure, draw_nil, cls_move, cls_assign, cls_pick, cls_bin, cls_un, cls_addr, cls_load, cls_len, still_load, window_one, vEq_vi, List.all_cons, List.all_nil, Bool.and_true, List.size_toArray, List.length_cons, List.length_nil, Nat.reduceAdd, rng14, Bool.true_and, Bool.false_and, Bool.and_false, Bool.and_self, f32, f0, f3, h3]
        exact ⟨_, rfl, f0, by show vi _ = vi _; rw [wr (by omega) (by omega)]; rfl⟩

noncomputable def cckbody : Code := atC [1, 1, 0, 1, 0, 0] ((Try.f44.body).getD .skip)
theorem cck_loop (l : List Int) (n m : Nat) : ∀ (r : List Int) (i : Nat) (a : Fr) (p : Option Int), l.drop i = r → l.length ≤ 20 → (i = 0 ∧ p = none ∨ ∃ j q, i = j + 1 ∧ l[j]? = some q ∧ p = some q) → a 0 = sliceA 0 0 l.length 1 → a 8 = sliceA 0 0 l.length 1 → a 9 = vi (l.length : Nat) → a 10 = vi (i : Nat) → ∀ k, r.length < k →
    Ends cckbody 38 m k (evB Try.prog noC (n + 1)) a [.cells 0 false (ints l)] (fun a' => a' 0 = sliceA 0 0 l.length 1) (chkGo p r) := by
  have eb : cckbody = atC [1, 1, 0, 1, 0, 0] ((Try.f44.body).getD .skip) := rfl
  rw [eb]
  simp only [Try.f44, Option.getD_some, atC]
  intro r
  induction r with
  | nil =>
    intro i a p hd hlen hp ha0 ha8 ha9 ha10 k hk
    have hi := drop_nil hd
    have hlt : ¬ ((i : Int) < l.length) := by omega
    cases k with
    | zero => omega
    | succ k =>
      unfold chkGo Ends
      rw [loopN]
      simp only [code_seq, code_region, code_cond, code_block, code_loop, code_skip, code_exit, code_ret, ops_nil, ops_cons, ops_consG, st_move, st_assign, st_pick, st_fun, st_len t22, st_addr s22, st_load a3, st_bin, st_not, bin2, bindO_some, bindF_some, bindX_normal, bindX_exit, bindX_ret, blkX_normal, blkX_exit, blkX_ret, condX_true, condX_false, iteB_true, iteB_false, ev, putA, upd_get, sliceA, ptrA, cell_0, Option.map_some, ↓reduceIte, Nat.reduceEqDiff, Nat.zero_add, Int.toNat_natCast, Int.natCast_nonneg, true_and, Nat.mul_one, frOf_0, frOf_1, frOf_2, List.map_cons, List.map_nil, decide_true, decide_false, Bool.not_true, Bool.not_false, yieldO_eq, yieldO, List.getElem?_cons_zero, List.getElem?_cons_succ, beq_self_eq_true, Bool.false_eq_true, Option.some_beq_some, b_ft, b_tf, ↓bindO_some, ↓bindF_some, ↓bindX_normal, ↓bindX_exit, ↓bindX_ret, ↓condX_true, ↓condX_false, ↓iteB_true, ↓iteB_false, ↓drawOp_some, ↓drawC_read, ↓drawC_pure, drawOp_some, drawC_read, drawC_pure, draw_nil, cls_move, cls_assign, cls_pick, cls_bin, cls_un, cls_addr, cls_load, cls_len, still_load, window_one, vEq_vi, List.all_cons, List.all_nil, Bool.and_true, Region.wanted, List.size_toArray, List.length_cons, List.length_nil, Nat.reduceAdd, rng14, Bool.true_and, Bool.false_and, Bool.and_false, Bool.and_self, ha0, ha8, ha9, ha10, hlt]
      exact ⟨_, rfl, by simp only [upd_get, ↓reduceIte, Nat.reduceEqDiff, ha0, sliceA]⟩
  | cons x r ih =>
    intro i a p hd hlen hp ha0 ha8 ha9 ha10 k hk
    obtain ⟨hx, hd2, hi⟩ := drop_get hd
    have hlt : ((i : Int) < l.length) := by omega
    have hx2 := ints_get hx
    simp only [List.length_cons] at hk
    cases k with
    | zero => omega
    | succ k =>
    have step : chkGo p (x :: r) = match bad p x with | some e => some e | none => chkGo (some x) r := rfl
    rw [step]
    by_cases h1 : x < 1
    · have hb : bad p x = some 2 := by unfold bad; rw [if_pos h1]
      rw [hb]
      have h1' : ¬ (1 ≤ x) := by omega
      unfold Ends
      rw [loopN]
      simp only [code_seq, code_region, code_cond, code_block, code_loop, code_skip, code_exit, code_ret, ops_nil, ops_cons, ops_consG, st_move, st_assign, st_pick, st_fun, st_len t22, st_addr s22, st_load a3, st_bin, st_not, bin2, bindO_some, bindF_some, bindX_normal, bindX_exit, bindX_ret, blkX_normal, blkX_exit, blkX_ret, condX_true, condX_false, iteB_true, iteB_false, ev, putA, upd_get, sliceA, ptrA, cell_0, Option.map_some, ↓reduceIte, Nat.reduceEqDiff, Nat.zero_add, Int.toNat_natCast, Int.natCast_nonneg, true_and, Nat.mul_one, frOf_0, frOf_1, frOf_2, List.map_cons, List.map_nil, decide_true, decide_false, Bool.not_true, Bool.not_false, yieldO_eq, yieldO, List.getElem?_cons_zero, List.getElem?_cons_succ, beq_self_eq_true, Bool.false_eq_true, Option.some_beq_some, b_ft, b_tf, ↓bindO_some, ↓bindF_some, ↓bindX_normal, ↓bindX_exit, ↓bindX_ret, ↓condX_true, ↓condX_false, ↓iteB_true, ↓iteB_false, ↓drawOp_some, ↓drawC_read, ↓drawC_pure, drawOp_some, drawC_read, drawC_pure, draw_nil, cls_move, cls_assign, cls_pick, cls_bin, cls_un, cls_addr, cls_load, cls_len, still_load, window_one, vEq_vi, List.all_cons, List.all_nil, Bool.and_true, Region.wanted, List.size_toArray, List.length_cons, List.length_nil, Nat.reduceAdd, rng14, Bool.true_and, Bool.false_and, Bool.and_false, Bool.and_self, ha0, ha8, ha9, ha10, hlt, hx2, ha8, h1, h1']
      exact ⟨_, rfl, rfl⟩
    by_cases h2 : 20 < x
    · have hb : bad p x = some 2 := by unfold bad; rw [if_neg h1, if_pos h2]
      rw [hb]
      have h1' : 1 ≤ x := by omega
      have h2' : ¬ (x ≤ 20) := by omega
      unfold Ends
      rw [loopN]
      simp only [code_seq, code_region, code_cond, code_block, code_loop, code_skip, code_exit, code_ret, ops_nil, ops_cons, ops_consG, st_move, st_assign, st_pick, st_fun, st_len t22, st_addr s22, st_load a3, st_bin, st_not, bin2, bindO_some, bindF_some, bindX_normal, bindX_exit, bindX_ret, blkX_normal, blkX_exit, blkX_ret, condX_true, condX_false, iteB_true, iteB_false, ev, putA, upd_get, sliceA, ptrA, cell_0, Option.map_some, ↓reduceIte, Nat.reduceEqDiff, Nat.zero_add, Int.toNat_natCast, Int.natCast_nonneg, true_and, Nat.mul_one, frOf_0, frOf_1, frOf_2, List.map_cons, List.map_nil, decide_true, decide_false, Bool.not_true, Bool.not_false, yieldO_eq, yieldO, List.getElem?_cons_zero, List.getElem?_cons_succ, beq_self_eq_true, Bool.false_eq_true, Option.some_beq_some, b_ft, b_tf, ↓bindO_some, ↓bindF_some, ↓bindX_normal, ↓bindX_exit, ↓bindX_ret, ↓condX_true, ↓condX_false, ↓iteB_true, ↓iteB_false, ↓drawOp_some, ↓drawC_read, ↓drawC_pure, drawOp_some, drawC_read, drawC_pure, draw_nil, cls_move, cls_assign, cls_pick, cls_bin, cls_un, cls_addr, cls_load, cls_len, still_load, window_one, vEq_vi, List.all_cons, List.all_nil, Bool.and_true, Region.wanted, List.size_toArray, List.length_cons, List.length_nil, Nat.reduceAdd, rng14, Bool.true_and, Bool.false_and, Bool.and_false, Bool.and_self, ha0, ha8, ha9, ha10, hlt, hx2, ha8, h1, h1', h2, h2']
      exact ⟨_, rfl, rfl⟩
    have h1' : 1 ≤ x := by omega
    have h2' : x ≤ 20 := by omega
    have go : ∀ a1, a1 0 = sliceA 0 0 l.length 1 → a1 8 = sliceA 0 0 l.length 1 → a1 9 = vi (l.length : Nat) → a1 10 = vi (i + 1 : Nat) → Ends _ 38 m k _ a1 _ _ (chkGo (some x) r) := fun a1 e0 e8 e9 e10 => ih (i + 1) a1 (some x) hd2 hlen (.inr ⟨i, x, rfl, hx, rfl⟩) e0 e8 e9 e10 k (by omega)
    rcases hp with ⟨hi0, rfl⟩ | ⟨j, q, hij, hq, rfl⟩
    · have hb : bad none x = none := by unfold bad; rw [if_neg h1, if_neg h2]
      rw [hb]
      have hg : ¬ (0 < (i : Int)) := by omega
      refine ends_step (Q := fun a1 => a1 0 = sliceA 0 0 l.length 1 ∧ a1 8 = sliceA 0 0 l.length 1 ∧ a1 9 = vi (l.length : Nat) ∧ a1 10 = vi (i + 1 : Nat)) ?_ (fun a1 h => go a1 h.1 h.2.1 h.2.2.1 h.2.2.2)
      simp only [code_seq, code_region, code_cond, code_block, code_loop, code_skip, code_exit, code_ret, ops_nil, ops_cons, ops_consG, st_move, st_assign, st_pick, st_fun, st_len t22, st_addr s22, st_load a3, st_bin, st_not, bin2, bindO_some, bindF_some, bindX_normal, bindX_exit, bindX_ret, blkX_normal, blkX_exit, blkX_ret, condX_true, condX_false, iteB_true, iteB_false, ev, putA, upd_get, sliceA, ptrA, cell_0, Option.map_some, ↓reduceIte, Nat.reduceEqDiff, Nat.zero_add, Int.toNat_natCast, Int.natCast_nonneg, true_and, Nat.mul_one, frOf_0, frOf_1, frOf_2, List.map_cons, List.map_nil, decide_true, decide_false, Bool.not_true, Bool.not_false, yieldO_eq, yieldO, List.getElem?_cons_zero, List.getElem?_cons_succ, beq_self_eq_true, Bool.false_eq_true, Option.some_beq_some, b_ft, b_tf, ↓bindO_some, ↓bindF_some, ↓bindX_normal, ↓bindX_exit, ↓bindX_ret, ↓condX_true, ↓condX_false, ↓iteB_true, ↓iteB_false, ↓drawOp_some, ↓drawC_read, ↓drawC_pure, drawOp_some, drawC_read, drawC_pure, draw_nil, cls_move, cls_assign, cls_pick, cls_bin, cls_un, cls_addr, cls_load, cls_len, still_load, window_one, vEq_vi, List.all_cons, List.all_nil, Bool.and_true, Region.wanted, List.size_toArray, List.length_cons, List.length_nil, Nat.reduceAdd, rng14, Bool.true_and, Bool.false_and, Bool.and_false, Bool.and_self, ha0, ha8, ha9, ha10, hlt, hx2, ha8, h1, h1', h2, h2', hg]
      skip
      exact ⟨_, rfl, ha0, ha8, ha9, by show vi _ = vi _; rw [wr (by omega) (by omega)]; rfl⟩
    · by_cases h3 : q < x
      · have hb : bad (some q) x = some 9 := by unfold bad; rw [if_neg h1, if_neg h2]; exact if_pos h3
        rw [hb]
        have hg : 0 < (i : Int) := by omega
        have hw : IntKind.i64.wrap ((i : Int) - 1) = (j : Int) := by rw [wr (by omega) (by omega)]; omega
        have hj : (j : Int) < l.length := by omega
        have hq2 := ints_get hq
        unfold Ends
        rw [loopN]
        simp only [code_seq, code_region, code_cond, code_block, code_loop, code_skip, code_exit, code_ret, ops_nil, ops_cons, ops_consG, st_move, st_assign, st_pick, st_fun, st_len t22, st_addr s22, st_load a3, st_bin, st_not, bin2, bindO_some, bindF_some, bindX_normal, bindX_exit, bindX_ret, blkX_normal, blkX_exit, blkX_ret, condX_true, condX_false, iteB_true, iteB_false, ev, putA, upd_get, sliceA, ptrA, cell_0, Option.map_some, ↓reduceIte, Nat.reduceEqDiff, Nat.zero_add, Int.toNat_natCast, Int.natCast_nonneg, true_and, Nat.mul_one, frOf_0, frOf_1, frOf_2, List.map_cons, List.map_nil, decide_true, decide_false, Bool.not_true, Bool.not_false, yieldO_eq, yieldO, List.getElem?_cons_zero, List.getElem?_cons_succ, beq_self_eq_true, Bool.false_eq_true, Option.some_beq_some, b_ft, b_tf, ↓bindO_some, ↓bindF_some, ↓bindX_normal, ↓bindX_exit, ↓bindX_ret, ↓condX_true, ↓condX_false, ↓iteB_true, ↓iteB_false, ↓drawOp_some, ↓drawC_read, ↓drawC_pure, drawOp_some, drawC_read, drawC_pure, draw_nil, cls_move, cls_assign, cls_pick, cls_bin, cls_un, cls_addr, cls_load, cls_len, still_load, window_one, vEq_vi, List.all_cons, List.all_nil, Bool.and_true, Region.wanted, List.size_toArray, List.length_cons, List.length_nil, Nat.reduceAdd, rng14, Bool.true_and, Bool.false_and, Bool.and_false, Bool.and_self, ha0, ha8, ha9, ha10, hlt, hx2, ha8, h1, h1', h2, h2', hg, hw, hj, hq2, h3]
        skip
        exact ⟨_, rfl, rfl⟩
      · have hb : bad (some q) x = none := by unfold bad; rw [if_neg h1, if_neg h2]; exact if_neg h3
        rw [hb]
        have hg : 0 < (i : Int) := by omega
        have hw : IntKind.i64.wrap ((i : Int) - 1) = (j : Int) := by rw [wr (by omega) (by omega)]; omega
        have hj : (j : Int) < l.length := by omega
        have hq2 := ints_get hq
        refine ends_step (Q := fun a1 => a1 0 = sliceA 0 0 l.length 1 ∧ a1 8 = sliceA 0 0 l.length 1 ∧ a1 9 = vi (l.length : Nat) ∧ a1 10 = vi (i + 1 : Nat)) ?_ (fun a1 h => go a1 h.1 h.2.1 h.2.2.1 h.2.2.2)
        simp only [code_seq, code_region, code_cond, code_block, code_loop, code_skip, code_exit, code_ret, ops_nil, ops_cons, ops_consG, st_move, st_assign, st_pick, st_fun, st_len t22, st_addr s22, st_load a3, st_bin, st_not, bin2, bindO_some, bindF_some, bindX_normal, bindX_exit, bindX_ret, blkX_normal, blkX_exit, blkX_ret, condX_true, condX_false, iteB_true, iteB_false, ev, putA, upd_get, sliceA, ptrA, cell_0, Option.map_some, ↓reduceIte, Nat.reduceEqDiff, Nat.zero_add, Int.toNat_natCast, Int.natCast_nonneg, true_and, Nat.mul_one, frOf_0, frOf_1, frOf_2, List.map_cons, List.map_nil, decide_true, decide_false, Bool.not_true, Bool.not_false, yieldO_eq, yieldO, List.getElem?_cons_zero, List.getElem?_cons_succ, beq_self_eq_true, Bool.false_eq_true, Option.some_beq_some, b_ft, b_tf, ↓bindO_some, ↓bindF_some, ↓bindX_normal, ↓bindX_exit, ↓bindX_ret, ↓condX_true, ↓condX_false, ↓iteB_true, ↓iteB_false, ↓drawOp_some, ↓drawC_read, ↓drawC_pure, drawOp_some, drawC_read, drawC_pure, draw_nil, cls_move, cls_assign, cls_pick, cls_bin, cls_un, cls_addr, cls_load, cls_len, still_load, window_one, vEq_vi, List.all_cons, List.all_nil, Bool.and_true, Region.wanted, List.size_toArray, List.length_cons, List.length_nil, Nat.reduceAdd, rng14, Bool.true_and, Bool.false_and, Bool.and_false, Bool.and_self, ha0, ha8, ha9, ha10, hlt, hx2, ha8, h1, h1', h2, h2', hg, hw, hj, hq2, h3]
        skip
        exact ⟨_, rfl, ha0, ha8, ha9, by show vi _ = vi _; rw [wr (by omega) (by omega)]; rfl⟩

theorem rck_run (l : List Int) (hl : l.length ≤ 40) (n : Nat) : evB Try.prog noC (n + 60) (.func (.func 16) #[] #[]) [sliceA 0 0 l.length 1] [.cells 0 false (ints l)] = some (vi (chk l), [.cells 0 false (ints l)]) := by
  rw [evB_noC, body_run Try.func16 rfl (ok_fn (by rfl) Try.func16 rfl) (Nat.le_of_ble_eq_true rfl)]
  unfold chk
  by_cases h20 : 20 < l.length
  · rw [if_pos h20]
    have h20' : (20 : Int) < l.length := by omega
    simp only [Try.f16, code_seq, code_region, code_cond, code_block, code_loop, code_skip, code_exit, code_ret, ops_nil, ops_cons, ops_consG, st_move, st_assign, st_pick, st_fun, st_len t22, st_addr s22, st_load a3, st_bin, st_not, bin2, bindO_some, bindF_some, bindX_normal, bindX_exit, bindX_ret, blkX_normal, blkX_exit, blkX_ret, condX_true, condX_false, iteB_true, iteB_false, ev, putA, upd_get, sliceA, ptrA, cell_0, Option.map_some, ↓reduceIte, Nat.reduceEqDiff, Nat.zero_add, Int.toNat_natCast, Int.natCast_nonneg, true_and, Nat.mul_one, frOf_0, frOf_1, frOf_2, List.map_cons, List.map_nil, decide_true, decide_false, Bool.not_true, Bool.not_false, List.getElem?_cons_zero, List.getElem?_cons_succ, beq_self_eq_true, Bool.false_eq_true, Option.some_beq_some, b_ft, b_tf, ↓bindO_some, ↓bindF_some, ↓bindX_normal, ↓bindX_exit, ↓bindX_ret, ↓condX_true, ↓condX_false, ↓iteB_true, ↓iteB_false, ↓drawOp_some, ↓drawC_read, ↓drawC_pure, drawOp_some, drawC_read, drawC_pure, draw_nil, cls_move, cls_assign, cls_pick, cls_bin, cls_un, cls_addr, cls_load, cls_len, still_load, window_one, vEq_vi, List.all_cons, List.all_nil, Bool.and_true, List.size_toArray, List.length_cons, List.length_nil, Nat.reduceAdd, rng14, Bool.true_and, Bool.false_and, Bool.and_false, Bool.and_self, h20']
    exact fin_ret rfl
  rw [if_neg h20]
  have h20' : ¬ (20 : Int) < l.length := by omega
  have key := rck_loop l (n + 58) (n + 59) l
  have eb : rckbody = atC [1, 1, 0, 1, 0, 0] ((Try.f16.body).getD .skip) := rfl
  rw [eb] at key
  simp only [Try.f16, Option.getD_some, atC] at key
  simp only [Try.f16, code_seq, code_region, code_cond, code_block, code_loop, code_skip, code_exit, code_ret, ops_nil, ops_cons, ops_consG, st_move, st_assign, st_pick, st_fun, st_len t22, st_addr s22, st_load a3, st_bin, st_not, bin2, bindO_some, bindF_some, bindX_normal, bindX_exit, bindX_ret, blkX_normal, blkX_exit, blkX_ret, condX_true, condX_false, iteB_true, iteB_false, ev, putA, upd_get, sliceA, ptrA, cell_0, Option.map_some, ↓reduceIte, Nat.reduceEqDiff, Nat.zero_add, Int.toNat_natCast, Int.natCast_nonneg, true_and, Nat.mul_one, frOf_0, frOf_1, frOf_2, List.map_cons, List.map_nil, decide_true, decide_false, Bool.not_true, Bool.not_false, List.getElem?_cons_zero, List.getElem?_cons_succ, beq_self_eq_true, Bool.false_eq_true, Option.some_beq_some, b_ft, b_tf, ↓bindO_some, ↓bindF_some, ↓bindX_normal, ↓bindX_exit, ↓bindX_ret, ↓condX_true, ↓condX_false, ↓iteB_true, ↓iteB_false, ↓drawOp_some, ↓drawC_read, ↓drawC_pure, drawOp_some, drawC_read, drawC_pure, draw_nil, cls_move, cls_assign, cls_pick, cls_bin, cls_un, cls_addr, cls_load, cls_len, still_load, window_one, vEq_vi, List.all_cons, List.all_nil, Bool.and_true, List.size_toArray, List.length_cons, List.length_nil, Nat.reduceAdd, rng14, Bool.true_and, Bool.false_and, Bool.and_false, Bool.and_self, h20']
  generalize hA : upd _ _ _ = A
  have key := key 0 A none rfl (by omega) (.inl ⟨rfl, rfl⟩) (by subst hA; rfl) (by subst hA; rfl) (n + 59) (by omega)
  cases hc : chkGo none l with
  | some e =>
    rw [hc] at key
    unfold Ends at key
    obtain ⟨a', e1, e2⟩ := key
    rw [e1]
    simp only [code_seq, code_region, code_cond, code_block, code_loop, code_skip, code_exit, code_ret, ops_nil, ops_cons, ops_consG, st_move, st_assign, st_pick, st_fun, st_len t22, st_addr s22, st_load a3, st_bin, st_not, bin2, bindO_some, bindF_some, bindX_normal, bindX_exit, bindX_ret, blkX_normal, blkX_exit, blkX_ret, condX_true, condX_false, iteB_true, iteB_false, ev, putA, upd_get, sliceA, ptrA, cell_0, Option.map_some, ↓reduceIte, Nat.reduceEqDiff, Nat.zero_add, Int.toNat_natCast, Int.natCast_nonneg, true_and, Nat.mul_one, frOf_0, frOf_1, frOf_2, List.map_cons, List.map_nil, decide_true, decide_false, Bool.not_true, Bool.not_false, List.getElem?_cons_zero, List.getElem?_cons_succ, beq_self_eq_true, Bool.false_eq_true, Option.some_beq_some, b_ft, b_tf, ↓bindO_some, ↓bindF_some, ↓bindX_normal, ↓bindX_exit, ↓bindX_ret, ↓condX_true, ↓condX_false, ↓iteB_true, ↓iteB_false, ↓drawOp_some, ↓drawC_read, ↓drawC_pure, drawOp_some, drawC_read, drawC_pure, draw_nil, cls_move, cls_assign, cls_pick, cls_bin, cls_un, cls_addr, cls_load, cls_len, still_load, window_one, vEq_vi, List.all_cons, List.all_nil, Bool.and_true, List.size_toArray, List.length_cons, List.length_nil, Nat.reduceAdd, rng14, Bool.true_and, Bool.false_and, Bool.and_false, Bool.and_self]
    exact fin_ret e2
  | none =>
    rw [hc] at key
    unfold Ends at key
    obtain ⟨a', e1, e0⟩ := key
    rw [e1]
    have hr := chkGo_none hc
    have hs := rsz_run l (by omega) hr (n + 9)
    rw [show n + 9 + 50 = n + 59 from by omega] at hs
    simp only [sliceA] at hs
    by_cases hb : 20 < l.sum
    · simp only [code_seq, code_region, code_cond, code_block, code_loop, code_skip, code_exit, code_ret, ops_nil, ops_cons, ops_consG, st_move, st_assign, st_pick, st_fun, st_len t22, st_addr s22, st_load a3, st_bin, st_not, bin2, bindO_some, bindF_some, bindX_normal, bindX_exit, bindX_ret, blkX_normal, blkX_exit, blkX_ret, condX_true, condX_false, iteB_true, iteB_false, ev, putA, upd_get, sliceA, ptrA, cell_0, Option.map_some, ↓reduceIte, Nat.reduceEqDiff, Nat.zero_add, Int.toNat_natCast, Int.natCast_nonneg, true_and, Nat.mul_one, frOf_0, frOf_1, frOf_2, List.map_cons, List.map_nil, decide_true, decide_false, Bool.not_true, Bool.not_false, List.getElem?_cons_zero, List.getElem?_cons_succ, beq_self_eq_true, Bool.false_eq_true, Option.some_beq_some, b_ft, b_tf, ↓bindO_some, ↓bindF_some, ↓bindX_normal, ↓bindX_exit, ↓bindX_ret, ↓condX_true, ↓condX_false, ↓iteB_true, ↓iteB_false, ↓drawOp_some, ↓drawC_read, ↓drawC_pure, drawOp_some, drawC_read, drawC_pure, draw_nil, cls_move, cls_assign, cls_pick, cls_bin, cls_un, cls_addr, cls_load, cls_len, still_load, window_one, vEq_vi, List.all_cons, List.all_nil, Bool.and_true, List.size_toArray, List.length_cons, List.length_nil, Nat.reduceAdd, rng14, Bool.true_and, Bool.false_and, Bool.and_false, Bool.and_self, e0, hs, hb]
      refine fin_ret ?_
      rfl
    · simp only [code_seq, code_region, code_cond, code_block, code_loop, code_skip, code_exit, code_ret, ops_nil, ops_cons, ops_consG, st_move, st_assign, st_pick, st_fun, st_len t22, st_addr s22, st_load a3, st_bin, st_not, bin2, bindO_some, bindF_some, bindX_normal, bindX_exit, bindX_ret, blkX_normal, blkX_exit, blkX_ret, condX_true, condX_false, iteB_true, iteB_false, ev, putA, upd_get, sliceA, ptrA, cell_0, Option.map_some, ↓reduceIte, Nat.reduceEqDiff, Nat.zero_add, Int.toNat_natCast, Int.natCast_nonneg, true_and, Nat.mul_one, frOf_0, frOf_1, frOf_2, List.map_cons, List.map_nil, decide_true, decide_false, Bool.not_true, Bool.not_false, List.getElem?_cons_zero, List.getElem?_cons_succ, beq_self_eq_true, Bool.false_eq_true, Option.some_beq_some, b_ft, b_tf, ↓bindO_some, ↓bindF_some, ↓bindX_normal, ↓bindX_exit, ↓bindX_ret, ↓condX_true, ↓condX_false, ↓iteB_true, ↓iteB_false, ↓drawOp_some, ↓drawC_read, ↓drawC_pure, drawOp_some, drawC_read, drawC_pure, draw_nil, cls_move, cls_assign, cls_pick, cls_bin, cls_un, cls_addr, cls_load, cls_len, still_load, window_one, vEq_vi, List.all_cons, List.all_nil, Bool.and_true, List.size_toArray, List.length_cons, List.length_nil, Nat.reduceAdd, rng14, Bool.true_and, Bool.false_and, Bool.and_false, Bool.and_self, e0, hs, hb]
      refine fin_ret ?_
      rfl

theorem cck_run (l : List Int) (hl : l.length ≤ 40) (n : Nat) : evB Try.prog noC (n + 60) (.func (.func 44) #[] #[]) [sliceA 0 0 l.length 1] [.cells 0 false (ints l)] = some (vi (chk l), [.cells 0 false (ints l)]) := by
  rw [evB_noC, body_run Try.func44 rfl (ok_fn (by rfl) Try.func44 rfl) (Nat.le_of_ble_eq_true rfl)]
  unfold chk
  by_cases h20 : 20 < l.length
  · rw [if_pos h20]
    have h20' : (20 : Int) < l.length := by omega
    simp only [Try.f44, code_seq, code_region, code_cond, code_block, code_loop, code_skip, code_exit, code_ret, ops_nil, ops_cons, ops_consG, st_move, st_assign, st_pick, st_fun, st_len t22, st_addr s22, st_load a3, st_bin, st_not, bin2, bindO_some, bindF_some, bindX_normal, bindX_exit, bindX_ret, blkX_normal, blkX_exit, blkX_ret, condX_true, condX_false, iteB_true, iteB_false, ev, putA, upd_get, sliceA, ptrA, cell_0, Option.map_some, ↓reduceIte, Nat.reduceEqDiff, Nat.zero_add, Int.toNat_natCast, Int.natCast_nonneg, true_and, Nat.mul_one, frOf_0, frOf_1, frOf_2, List.map_cons, List.map_nil, decide_true, decide_false, Bool.not_true, Bool.not_false, List.getElem?_cons_zero, List.getElem?_cons_succ, beq_self_eq_true, Bool.false_eq_true, Option.some_beq_some, b_ft, b_tf, ↓bindO_some, ↓bindF_some, ↓bindX_normal, ↓bindX_exit, ↓bindX_ret, ↓condX_true, ↓condX_false, ↓iteB_true, ↓iteB_false, ↓drawOp_some, ↓drawC_read, ↓drawC_pure, drawOp_some, drawC_read, drawC_pure, draw_nil, cls_move, cls_assign, cls_pick, cls_bin, cls_un, cls_addr, cls_load, cls_len, still_load, window_one, vEq_vi, List.all_cons, List.all_nil, Bool.and_true, List.size_toArray, List.length_cons, List.length_nil, Nat.reduceAdd, rng14, Bool.true_and, Bool.false_and, Bool.and_false, Bool.and_self, h20']
    exact fin_ret rfl
  rw [if_neg h20]
  have h20' : ¬ (20 : Int) < l.length := by omega
  have key := cck_loop l (n + 58) (n + 59) l
  have eb : cckbody = atC [1, 1, 0, 1, 0, 0] ((Try.f44.body).getD .skip) := rfl
  rw [eb] at key
  simp only [Try.f44, Option.getD_some, atC] at key
  simp only [Try.f44, code_seq, code_region, code_cond, code_block, code_loop, code_skip, code_exit, code_ret, ops_nil, ops_cons, ops_consG, st_move, st_assign, st_pick, st_fun, st_len t22, st_addr s22, st_load a3, st_bin, st_not, bin2, bindO_some, bindF_some, bindX_normal, bindX_exit, bindX_ret, blkX_normal, blkX_exit, blkX_ret, condX_true, condX_false, iteB_true, iteB_false, ev, putA, upd_get, sliceA, ptrA, cell_0, Option.map_some, ↓reduceIte, Nat.reduceEqDiff, Nat.zero_add, Int.toNat_natCast, Int.natCast_nonneg, true_and, Nat.mul_one, frOf_0, frOf_1, frOf_2, List.map_cons, List.map_nil, decide_true, decide_false, Bool.not_true, Bool.not_false, List.getElem?_cons_zero, List.getElem?_cons_succ, beq_self_eq_true, Bool.false_eq_true, Option.some_beq_some, b_ft, b_tf, ↓bindO_some, ↓bindF_some, ↓bindX_normal, ↓bindX_exit, ↓bindX_ret, ↓condX_true, ↓condX_false, ↓iteB_true, ↓iteB_false, ↓drawOp_some, ↓drawC_read, ↓drawC_pure, drawOp_some, drawC_read, drawC_pure, draw_nil, cls_move, cls_assign, cls_pick, cls_bin, cls_un, cls_addr, cls_load, cls_len, still_load, window_one, vEq_vi, List.all_cons, List.all_nil, Bool.and_true, List.size_toArray, List.length_cons, List.length_nil, Nat.reduceAdd, rng14, Bool.true_and, Bool.false_and, Bool.and_false, Bool.and_self, h20']
  generalize hA : upd _ _ _ = A
  have key := key 0 A none rfl (by omega) (.inl ⟨rfl, rfl⟩) (by subst hA; rfl) (by subst hA; rfl) (by subst hA; rfl) (by subst hA; rfl) (n + 59) (by omega)
  cases hc : chkGo none l with
  | some e =>
    rw [hc] at key
    unfold Ends at key
    obtain ⟨a', e1, e2⟩ := key
    rw [e1]
    simp only [code_seq, code_region, code_cond, code_block, code_loop, code_skip, code_exit, code_ret, ops_nil, ops_cons, ops_consG, st_move, st_assign, st_pick, st_fun, st_len t22, st_addr s22, st_load a3, st_bin, st_not, bin2, bindO_some, bindF_some, bindX_normal, bindX_exit, bindX_ret, blkX_normal, blkX_exit, blkX_ret, condX_true, condX_false, iteB_true, iteB_false, ev, putA, upd_get, sliceA, ptrA, cell_0, Option.map_some, ↓reduceIte, Nat.reduceEqDiff, Nat.zero_add, Int.toNat_natCast, Int.natCast_nonneg, true_and, Nat.mul_one, frOf_0, frOf_1, frOf_2, List.map_cons, List.map_nil, decide_true, decide_false, Bool.not_true, Bool.not_false, List.getElem?_cons_zero, List.getElem?_cons_succ, beq_self_eq_true, Bool.false_eq_true, Option.some_beq_some, b_ft, b_tf, ↓bindO_some, ↓bindF_some, ↓bindX_normal, ↓bindX_exit, ↓bindX_ret, ↓condX_true, ↓condX_false, ↓iteB_true, ↓iteB_false, ↓drawOp_some, ↓drawC_read, ↓drawC_pure, drawOp_some, drawC_read, drawC_pure, draw_nil, cls_move, cls_assign, cls_pick, cls_bin, cls_un, cls_addr, cls_load, cls_len, still_load, window_one, vEq_vi, List.all_cons, List.all_nil, Bool.and_true, List.size_toArray, List.length_cons, List.length_nil, Nat.reduceAdd, rng14, Bool.true_and, Bool.false_and, Bool.and_false, Bool.and_self]
    exact fin_ret e2
  | none =>
    rw [hc] at key
    unfold Ends at key
    obtain ⟨a', e1, e0⟩ := key
    rw [e1]
    have hr := chkGo_none hc
    have hs := csz_run l (by omega) hr (n + 9)
    rw [show n + 9 + 50 = n + 59 from by omega] at hs
    simp only [sliceA] at hs
    by_cases hb : 20 < l.sum
    · simp only [code_seq, code_region, code_cond, code_block, code_loop, code_skip, code_exit, code_ret, ops_nil, ops_cons, ops_consG, st_move, st_assign, st_pick, st_fun, st_len t22, st_addr s22, st_load a3, st_bin, st_not, bin2, bindO_some, bindF_some, bindX_normal, bindX_exit, bindX_ret, blkX_normal, blkX_exit, blkX_ret, condX_true, condX_false, iteB_true, iteB_false, ev, putA, upd_get, sliceA, ptrA, cell_0, Option.map_some, ↓reduceIte, Nat.reduceEqDiff, Nat.zero_add, Int.toNat_natCast, Int.natCast_nonneg, true_and, Nat.mul_one, frOf_0, frOf_1, frOf_2, List.map_cons, List.map_nil, decide_true, decide_false, Bool.not_true, Bool.not_false, List.getElem?_cons_zero, List.getElem?_cons_succ, beq_self_eq_true, Bool.false_eq_true, Option.some_beq_some, b_ft, b_tf, ↓bindO_some, ↓bindF_some, ↓bindX_normal, ↓bindX_exit, ↓bindX_ret, ↓condX_true, ↓condX_false, ↓iteB_true, ↓iteB_false, ↓drawOp_some, ↓drawC_read, ↓drawC_pure, drawOp_some, drawC_read, drawC_pure, draw_nil, cls_move, cls_assign, cls_pick, cls_bin, cls_un, cls_addr, cls_load, cls_len, still_load, window_one, vEq_vi, List.all_cons, List.all_nil, Bool.and_true, List.size_toArray, List.length_cons, List.length_nil, Nat.reduceAdd, rng14, Bool.true_and, Bool.false_and, Bool.and_false, Bool.and_self, e0, hs, hb]
      refine fin_ret ?_
      rfl
    · simp only [code_seq, code_region, code_cond, code_block, code_loop, code_skip, code_exit, code_ret, ops_nil, ops_cons, ops_consG, st_move, st_assign, st_pick, st_fun, st_len t22, st_addr s22, st_load a3, st_bin, st_not, bin2, bindO_some, bindF_some, bindX_normal, bindX_exit, bindX_ret, blkX_normal, blkX_exit, blkX_ret, condX_true, condX_false, iteB_true, iteB_false, ev, putA, upd_get, sliceA, ptrA, cell_0, Option.map_some, ↓reduceIte, Nat.reduceEqDiff, Nat.zero_add, Int.toNat_natCast, Int.natCast_nonneg, true_and, Nat.mul_one, frOf_0, frOf_1, frOf_2, List.map_cons, List.map_nil, decide_true, decide_false, Bool.not_true, Bool.not_false, List.getElem?_cons_zero, List.getElem?_cons_succ, beq_self_eq_true, Bool.false_eq_true, Option.some_beq_some, b_ft, b_tf, ↓bindO_some, ↓bindF_some, ↓bindX_normal, ↓bindX_exit, ↓bindX_ret, ↓condX_true, ↓condX_false, ↓iteB_true, ↓iteB_false, ↓drawOp_some, ↓drawC_read, ↓drawC_pure, drawOp_some, drawC_read, drawC_pure, draw_nil, cls_move, cls_assign, cls_pick, cls_bin, cls_un, cls_addr, cls_load, cls_len, still_load, window_one, vEq_vi, List.all_cons, List.all_nil, Bool.and_true, List.size_toArray, List.length_cons, List.length_nil, Nat.reduceAdd, rng14, Bool.true_and, Bool.false_and, Bool.and_false, Bool.and_self, e0, hs, hb]
      refine fin_ret ?_
      rfl

theorem long_run (l : List Int) (n : Nat) : evB Try.prog noC (n + 1) (.func (.func 14) #[] #[]) [sliceA 0 0 l.length 1] [.cells 0 false (ints l)] = some (.bool (decide (40 < l.length)), [.cells 0 false (ints l)]) := by
  rw [evB_noC, body_run Try.func14 rfl (ok_fn (by rfl) Try.func14 rfl) (Nat.le_of_ble_eq_true rfl)]
  by_cases h : 40 < l.length
  · have h' : (40 : Int) < l.length := by omega
    simp only [Try.f14, code_seq, code_region, code_cond, code_block, code_loop, code_skip, code_exit, code_ret, ops_nil, ops_cons, ops_consG, st_move, st_assign, st_pick, st_fun, st_len t22, st_addr s22, st_load a3, st_bin, st_not, bin2, bindO_some, bindF_some, bindX_normal, bindX_exit, bindX_ret, blkX_normal, blkX_exit, blkX_ret, condX_true, condX_false, iteB_true, iteB_false, ev, putA, upd_get, sliceA, ptrA, cell_0, Option.map_some, ↓reduceIte, Nat.reduceEqDiff, Nat.zero_add, Int.toNat_natCast, Int.natCast_nonneg, true_and, Nat.mul_one, frOf_0, frOf_1, frOf_2, List.map_cons, List.map_nil, decide_true, decide_false, Bool.not_true, Bool.not_false, List.getElem?_cons_zero, List.getElem?_cons_succ, beq_self_eq_true, Bool.false_eq_true, Option.some_beq_some, b_ft, b_tf, ↓bindO_some, ↓bindF_some, ↓bindX_normal, ↓bindX_exit, ↓bindX_ret, ↓condX_true, ↓condX_false, ↓iteB_true, ↓iteB_false, ↓drawOp_some, ↓drawC_read, ↓drawC_pure, drawOp_some, drawC_read, drawC_pure, draw_nil, cls_move, cls_assign, cls_pick, cls_bin, cls_un, cls_addr, cls_load, cls_len, still_load, window_one, vEq_vi, List.all_cons, List.all_nil, Bool.and_true, List.size_toArray, List.length_cons, List.length_nil, Nat.reduceAdd, rng14, Bool.true_and, Bool.false_and, Bool.and_false, Bool.and_self, h, h']
    exact fin_retB rfl
  · have h' : ¬ (40 : Int) < l.length := by omega
    simp only [Try.f14, code_seq, code_region, code_cond, code_block, code_loop, code_skip, code_exit, code_ret, ops_nil, ops_cons, ops_consG, st_move, st_assign, st_pick, st_fun, st_len t22, st_addr s22, st_load a3, st_bin, st_not, bin2, bindO_some, bindF_some, bindX_normal, bindX_exit, bindX_ret, blkX_normal, blkX_exit, blkX_ret, condX_true, condX_false, iteB_true, iteB_false, ev, putA, upd_get, sliceA, ptrA, cell_0, Option.map_some, ↓reduceIte, Nat.reduceEqDiff, Nat.zero_add, Int.toNat_natCast, Int.natCast_nonneg, true_and, Nat.mul_one, frOf_0, frOf_1, frOf_2, List.map_cons, List.map_nil, decide_true, decide_false, Bool.not_true, Bool.not_false, List.getElem?_cons_zero, List.getElem?_cons_succ, beq_self_eq_true, Bool.false_eq_true, Option.some_beq_some, b_ft, b_tf, ↓bindO_some, ↓bindF_some, ↓bindX_normal, ↓bindX_exit, ↓bindX_ret, ↓condX_true, ↓condX_false, ↓iteB_true, ↓iteB_false, ↓drawOp_some, ↓drawC_read, ↓drawC_pure, drawOp_some, drawC_read, drawC_pure, draw_nil, cls_move, cls_assign, cls_pick, cls_bin, cls_un, cls_addr, cls_load, cls_len, still_load, window_one, vEq_vi, List.all_cons, List.all_nil, Bool.and_true, List.size_toArray, List.length_cons, List.length_nil, Nat.reduceAdd, rng14, Bool.true_and, Bool.false_and, Bool.and_false, Bool.and_self, h, h']
    exact fin_retB rfl
end Go.Proofs.Ytmmgdgmjkhcfaaa
