/- Lists compared; small facts. -/
import Derived.Test.YtmmgdgmjkhcfaaaSyA
set_option linter.all false
namespace Go.Proofs.Ytmmgdgmjkhcfaaa
open Go Go.Abs Go.Num
set_option maxRecDepth 10000
attribute [local congr] bindO_congr bindF_congr bindX_congr condX_congr iteB_congr binS_congr pickS_congr eqB_congr nilS_congr clsW_congr maxS_congr minS_congr
/-- A list of the call's own inside a tuple. -/
def OneT (H : Heap) (r : Option (Value × Heap)) (f : Value → Value) (l : List Int) : Prop := ∃ v H', r = some (f v, H') ∧ O H.length H' v (ints l) ∧ Old H.length H H' ∧ WF H'
theorem within_runS (x lo hi : Int) (H : Heap) (n : Nat) (hn : 1 ≤ n) : evB Try.prog noC n (.func (.func 36) #[] #[]) [vi x, vi lo, vi hi] H = some (.bool (decide (lo ≤ x) && decide (x ≤ hi)), H) := by
  refine run_of (F := 0) (Q := fun r => r = some (.bool (decide (lo ≤ x) && decide (x ≤ hi)), H)) (fun n hn => ?_) n hn
  rw [body_runS Try.func36 rfl (ok_fn (by rfl) Try.func36 rfl) (Nat.le_of_ble_eq_true rfl) (D := D0) (by kernel_rfl)]
  by_cases h1 : lo ≤ x
  all_goals by_cases h2 : x ≤ hi
  all_goals simp (disch := omega) only [Try.f36, es_seq, es_region, es_ret, ops_nil, ops_cons, ops_consG, st_move, st_assign, sy_pick, pickS_true, pickS_false, sy_bin, binS_leq, binS_geq, bindO_some, bindF_some, bindX_normal, iteB_true, iteB_false, ev_tmp, ev_const, putA, upd_at, Option.map_some, ↓reduceIte, Nat.reduceEqDiff, frOf_0, frOf_1, frOf_2, decide_true, decide_false, yieldO_eq, yO, yV_bool, some_true, List.getElem?_cons_zero, List.getElem?_cons_succ, beq_self_eq_true, ↓bindO_some, ↓bindF_some, ↓bindX_normal, ↓iteB_true, ↓iteB_false, fin_r, res_nil, res_tmp, pack_1, scal_bool, h1, h2, Bool.and_self, Bool.and_false, Bool.and_true]
noncomputable def intA : Code := atC [1, 1, 0, 1, 0, 0] ((Try.f19.body).getD .skip)
theorem take_eq_succ {l m : List Int} {i : Nat} (h1 : i < l.length) (h2 : i < m.length) : l.take (i + 1) = m.take (i + 1) ↔ l.take i = m.take i ∧ l.getD i 0 = m.getD i 0 := by
  rw [take_snoc' h1, take_snoc' h2]
  constructor
  · intro h
    have := List.append_inj h (by rw [List.length_take, List.length_take]; omega)
    exact ⟨this.1, by simpa using this.2⟩
  · intro ⟨h3, h4⟩; rw [h3, h4]
theorem ints_run {H : Heap} {va vb : Value} {l m : List Int} (ha : R H va (ints l)) (hb : R H vb (ints m)) (ll : l.length ≤ 10000) (lm : m.length ≤ 10000) (n : Nat) (hn : 10002 ≤ n) :
    evB Try.prog noC n (.func (.func 19) #[] #[]) [va, vb] H = some (.bool (decide (l = m)), H) := by
  refine run_of (F := 10001) (Q := fun r => r = some (.bool (decide (l = m)), H)) (fun n hn => ?_) n hn
  rw [body_runS Try.func19 rfl (ok_fn (by rfl) Try.func19 rfl) (Nat.le_of_ble_eq_true rfl) (D := D0) (by kernel_rfl)]
  by_cases hl : l.length = m.length
  · have c1 : (l.length : Int) = (m.length : Int) := by omega
    have key : ∀ A : Fr, A 0 = va → A 1 = vb → A 5 = vi (0 : Nat) → ∃ r a' H', loopN (evS Try.prog (evB Try.prog noC n) n Try.f19.ntmps none intA) n A H = some (r, a', H') ∧ H' = H ∧ ((r = .exit 0 ∧ l = m) ∨ (r = .ret ∧ a' 4 = .bool false ∧ l ≠ m)) := by
      intro A h0 h1 h5
      refine loop_up l.length (fun i a H' => H' = H ∧ a 0 = va ∧ a 1 = vb ∧ a 5 = vi i ∧ l.take i = m.take i) _ ?_ ?_ (by omega) ⟨rfl, h0, h1, h5, rfl⟩
      · intro i a H' hi ⟨hH, h0, h1, h5, ht⟩
        subst hH
        rw [show intA = atC [1, 1, 0, 1, 0, 0] ((Try.f19.body).getD .skip) from rfl]
        have hlt : (i : Int) < l.length := by omega
        have e1 : IntKind.i64.wrap ((i : Int) + 1) = ((i + 1 : Nat) : Int) := by rw [wr64 (by omega) (by omega)]; omega
        by_cases he : l.getD i 0 = m.getD i 0
        · left
          simp (disch := omega) only [Try.f19, Option.getD_some, atC, es_seq, es_region, es_draw, d0, es_cond, es_block, es_skip, ops_nil, ops_cons, opsV_nil, opsV_cons, st_move, st_assign, sy_len uL, sy_addr eL, sy_load aI, sy_bin, binS_lss, binS_neq, binS_add, bindO_some, bindF_some, bindX_normal, blkX_normal, condX_true, condX_false, iteB_true, iteB_false, ev_tmp, ev_const, putA, upd_at, Option.map_some, ↓reduceIte, Nat.reduceEqDiff, Int.toNat_natCast, decide_true, Bool.not_true, ↓bindO_some, ↓bindF_some, ↓bindX_normal, ↓condX_true, ↓condX_false, ↓iteB_true, ↓iteB_false, reflV_load, reflV_move, reflV_bin, reflV_addr, vEq_vi, h0, h1, h5, ha.lenI, hlt, ha.addrI, ha.loadI, hb.addrI, hb.loadI, he, e1]
          exact ⟨_, _, rfl, rfl, h0, h1, rfl, (take_eq_succ hi (by omega)).2 ⟨ht, he⟩⟩
        · right
          simp (disch := omega) only [Try.f19, Option.getD_some, atC, es_seq, es_region, es_draw, d0, es_cond, es_block, es_skip, es_ret, ops_nil, ops_cons, opsV_nil, opsV_cons, st_move, st_assign, sy_len uL, sy_addr eL, sy_load aI, sy_bin, binS_lss, binS_neq, bindO_some, bindF_some, bindX_normal, bindX_ret, blkX_ret, condX_true, iteB_true, iteB_false, ev_tmp, ev_const, putA, upd_at, Option.map_some, ↓reduceIte, Nat.reduceEqDiff, Int.toNat_natCast, decide_true, decide_false, Bool.not_false, ↓bindO_some, ↓bindF_some, ↓bindX_normal, ↓bindX_ret, ↓condX_true, ↓iteB_true, ↓iteB_false, reflV_load, reflV_move, reflV_bin, reflV_addr, vEq_vi, h0, h1, h5, ha.lenI, hlt, ha.addrI, ha.loadI, hb.addrI, hb.loadI, he]
          refine ⟨_, _, _, rfl, by simp, rfl, .inr ⟨rfl, rfl, fun h => he (by rw [h])⟩⟩
      · intro a H' ⟨hH, h0, h1, h5, ht⟩
        subst hH
        rw [show intA = atC [1, 1, 0, 1, 0, 0] ((Try.f19.body).getD .skip) from rfl]
        simp (disch := omega) only [Try.f19, Option.getD_some, atC, es_seq, es_region, es_cond, es_exit, ops_nil, ops_cons, st_move, sy_len uL, sy_bin, binS_lss, bindO_some, bindF_some, bindX_normal, bindX_exit, condX_false, ev_tmp, putA, upd_at, Option.map_some, ↓reduceIte, Nat.reduceEqDiff, decide_false, ↓bindO_some, ↓bindF_some, ↓bindX_normal, ↓bindX_exit, ↓condX_false, h0, h5, ha.lenI, Int.lt_irrefl]
        rw [List.take_length, hl, List.take_length] at ht
        exact ⟨_, _, _, rfl, by simp, rfl, .inl ⟨rfl, ht⟩⟩
    rw [show intA = atC [1, 1, 0, 1, 0, 0] ((Try.f19.body).getD .skip) from rfl] at key
    simp only [Try.f19, Option.getD_some, atC] at key
    simp (disch := omega) only [Try.f19, es_seq, es_region, es_cond, es_block, es_loop, es_skip, es_ret, ops_nil, ops_cons, st_move, st_assign, sy_len uL, sy_bin, binS_neq, bindO_some, bindF_some, bindX_normal, condX_false, ev_tmp, ev_const, putA, upd_at, Option.map_some, ↓reduceIte, Nat.reduceEqDiff, frOf_0, frOf_1, decide_true, Bool.not_true, ↓bindO_some, ↓bindF_some, ↓bindX_normal, ↓condX_false, ha.lenI, hb.lenI, c1]
    generalize hA : upd _ 5 _ = A
    obtain ⟨r, a', H', e, hH, h⟩ := key A (by subst hA; rfl) (by subst hA; rfl) (by subst hA; rfl)
    subst hH
    rw [e]
    rcases h with ⟨rfl, rfl⟩ | ⟨rfl, h4, hne⟩
    · simp (disch := omega) only [bindX_normal, blkX_exit, upd_at, Option.map_some, ↓reduceIte, decide_true, ↓bindX_normal, fin_r, res_nil, res_tmp, pack_1, scal_bool]
    · rw [decide_eq_false hne]
      simp (disch := omega) only [bindX_ret, blkX_ret, Option.map_some, ↓bindX_ret, fin_r, res_nil, res_tmp, pack_1, scal_bool, h4]
  · have c1 : ¬ (l.length : Int) = (m.length : Int) := by omega
    rw [decide_eq_false (fun h => hl (by rw [h]))]
    simp (disch := omega) only [Try.f19, es_seq, es_region, es_cond, es_ret, ops_nil, ops_cons, st_move, st_assign, sy_len uL, sy_bin, binS_neq, bindO_some, bindF_some, bindX_normal, bindX_ret, condX_true, ev_tmp, ev_const, putA, upd_at, Option.map_some, ↓reduceIte, Nat.reduceEqDiff, frOf_0, frOf_1, decide_false, Bool.not_false, ↓bindO_some, ↓bindF_some, ↓bindX_normal, ↓bindX_ret, ↓condX_true, fin_r, res_nil, res_tmp, pack_1, scal_bool, ha.lenI, hb.lenI, c1]
theorem uLL : Try.prog.underlying 53 = some (.slice 22) := by kernel_rfl
theorem eLL : sliceElem Try.prog 53 = some (22, 1) := by kernel_rfl
theorem oLL : zeros Try.prog 22 1 1 = some [.slice none 0 0] := by kernel_rfl
theorem pLL : ((bytesT Try.prog 22).isSome && decide ((bytesT Try.prog 22).getD 0 ≤ maxA) && (zeros Try.prog 22 1 1).isSome) = true := by kernel_rfl
noncomputable def liA : Code := atC [1, 1, 0, 1, 0, 0] ((Try.f46.body).getD .skip)
/-- Equal lists of lists are found equal. -/
theorem lists_run {H : Heap} {va vb : Value} {ls : List (List Int)} (ha : RL H va ls) (hb : RL H vb ls) (hl : ls.length ≤ 1000) (hr : ∀ r ∈ ls, r.length ≤ 1000) (n : Nat) (hn : 10010 ≤ n) :
    evB Try.prog noC n (.func (.func 46) #[] #[]) [va, vb] H = some (.bool true, H) := by
  refine run_of (F := 10009) (Q := fun r => r = some (.bool true, H)) (fun n hn => ?_) n hn
  rw [body_runS Try.func46 rfl (ok_fn (by rfl) Try.func46 rfl) (Nat.le_of_ble_eq_true rfl) (D := D0) (by kernel_rfl)]
  have la := RG.len ha
  have lb := RG.len hb
  have key : ∀ A : Fr, A 0 = va → A 1 = vb → A 5 = vi (0 : Nat) → ∃ r a' H', loopN (evS Try.prog (evB Try.prog noC n) n Try.f46.ntmps none liA) n A H = some (r, a', H') ∧ r = .exit 0 ∧ H' = H := by
    intro A h0 h1 h5
    refine loop_up ls.length (fun i a H' => H' = H ∧ a 0 = va ∧ a 1 = vb ∧ a 5 = vi i) _ ?_ ?_ (by omega) ⟨rfl, h0, h1, h5⟩
    · intro i a H' hi ⟨hH, h0, h1, h5⟩
      subst hH
      left
      rw [show liA = atC [1, 1, 0, 1, 0, 0] ((Try.f46.body).getD .skip) from rfl]
      have hlt : (i : Int) < ls.length := by omega
      have e1 : IntKind.i64.wrap ((i : Int) + 1) = ((i + 1 : Nat) : Int) := by rw [wr64 (by omega) (by omega)]; omega
      obtain ⟨ra, la1, ra2⟩ := ha.row hi
      obtain ⟨rb, lb1, rb2⟩ := hb.row hi
      have hrl : (ls.getD i []).length ≤ 10000 := by
        have e : ls.getD i [] = ls[i] := by simp [List.getD_eq_getElem?_getD, List.getElem?_eq_getElem hi]
        rw [e]
        have := hr _ (List.getElem_mem hi)
        omega
      have s1 := ints_run ra2 rb2 hrl hrl n (by omega)
      rw [decide_eq_true rfl] at s1
      have a1 := ha.addr hi
      have a2 := hb.addr hi
      simp (disch := omega) only [Try.f46, Option.getD_some, atC, es_seq, es_region, es_draw, d0, es_cond, es_block, es_skip, ops_nil, ops_cons, opsV_nil, opsV_cons, st_move, st_assign, st_fun, sy_bin, st_not, binS_lss, binS_add, bindO_some, bindF_some, bindX_normal, blkX_normal, condX_true, condX_false, iteB_true, iteB_false, ev_tmp, ev_const, ev_func, putA, upd_at, Option.map_some, ↓reduceIte, Nat.reduceEqDiff, List.map_cons, List.map_nil, decide_true, Bool.not_true, ↓bindO_some, ↓bindF_some, ↓bindX_normal, ↓condX_true, ↓condX_false, ↓iteB_true, ↓iteB_false, reflV_load, reflV_move, reflV_un, reflV_addr, reflV_call, sy_load aL, sy_len uLL, sy_addr eLL, ra2.refl, rb2.refl, h0, h1, h5, la, hlt, a1, a2, la1, lb1, s1, e1]
      exact ⟨_, _, rfl, rfl, h0, h1, rfl⟩
    · intro a H' ⟨hH, h0, h1, h5⟩
      subst hH
      rw [show liA = atC [1, 1, 0, 1, 0, 0] ((Try.f46.body).getD .skip) from rfl]
      simp (disch := omega) only [Try.f46, Option.getD_some, atC, es_seq, es_region, es_cond, es_exit, ops_nil, ops_cons, st_move, sy_bin, binS_lss, bindO_some, bindF_some, bindX_normal, bindX_exit, condX_false, ev_tmp, putA, upd_at, Option.map_some, ↓reduceIte, Nat.reduceEqDiff, decide_false, ↓bindO_some, ↓bindF_some, ↓bindX_normal, ↓bindX_exit, ↓condX_false, sy_len uLL, h0, h5, la, Int.lt_irrefl]
      exact ⟨_, _, _, rfl, by simp, rfl, rfl⟩
  rw [show liA = atC [1, 1, 0, 1, 0, 0] ((Try.f46.body).getD .skip) from rfl] at key
  simp only [Try.f46, Option.getD_some, atC] at key
  have c1 : decide ((ls.length : Int) = (ls.length : Int)) = true := decide_eq_true rfl
  simp (disch := omega) only [Try.f46, es_seq, es_region, es_cond, es_block, es_loop, es_skip, es_ret, ops_nil, ops_cons, st_move, st_assign, sy_bin, binS_neq, bindO_some, bindF_some, bindX_normal, condX_false, ev_tmp, ev_const, putA, upd_at, Option.map_some, ↓reduceIte, Nat.reduceEqDiff, frOf_0, frOf_1, decide_true, Bool.not_true, ↓bindO_some, ↓bindF_some, ↓bindX_normal, ↓condX_false, sy_len uLL, la, lb]
  generalize hA : upd _ 5 _ = A
  obtain ⟨r, a', H', e, hr, hH⟩ := key A (by subst hA; rfl) (by subst hA; rfl) (by subst hA; rfl)
  subst hr
  rw [e]
  subst hH
  simp (disch := omega) only [bindX_normal, blkX_exit, upd_at, Option.map_some, ↓reduceIte, ↓bindX_normal, fin_r, res_nil, res_tmp, pack_1, scal_bool]
end Go.Proofs.Ytmmgdgmjkhcfaaa
