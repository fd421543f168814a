/- Of the law: texts of its proof, joined (part 10). -/
import Derived.Test.YtmmgdgmjkhcfaaaQst9
set_option linter.all false
namespace Go.Proofs.Ytmmgdgmjkhcfaaa
open Go Go.Abs
theorem uL : Try.prog.underlying 22 = some (.slice 3) := by kernel_rfl
theorem eL : sliceElem Try.prog 22 = some (3, 1) := by kernel_rfl
theorem aI : isAggT Try.prog 3 = some false := by kernel_rfl
theorem pI : ((bytesT Try.prog 3).isSome && decide ((bytesT Try.prog 3).getD 0 ≤ maxA) && (zeros Try.prog 3 1 1).isSome) = true := by kernel_rfl
theorem oI : zeros Try.prog 3 1 1 = some [vi 0] := by kernel_rfl
theorem nI : zeros Try.prog 3 1 0 = some [] := by kernel_rfl
theorem ok_fn {f : Nat} {fn : Func} {c : Code} (ho : okN f = true) (hf : Try.prog.funcs[f]? = some fn) (hb : fn.body = some c) : funcOk fn c = true := hF f fn c ho hf hb
theorem run_ofB {F : Nat} {fv : Value} {args : List Value} {H : Heap} {Q : Option (Value × Heap) → Prop} (h : ∀ n, F ≤ n → Q (evBody Try.prog (evB Try.prog bC n) n fv args H)) (n : Nat) (hn : F + 1 ≤ n) (hb : bC fv args H = none := by rfl) : Q (evB Try.prog bC n fv args H) := by
  obtain ⟨m, rfl⟩ : ∃ m, n = m + 1 := ⟨n - 1, by omega⟩
  have e : evB Try.prog bC (m + 1) fv args H = evBody Try.prog (evB Try.prog bC m) m fv args H := by
    show (match bC fv args H with | some r => some r | none => evBody Try.prog (evB Try.prog bC m) m fv args H) = _
    rw [hb]
  rw [e]
  exact h m (by omega)
end Go.Proofs.Ytmmgdgmjkhcfaaa
namespace Go.Proofs.Ytmmgdgmjkhcfaaa
open Go Go.Abs Go.Num
set_option maxRecDepth 10000
attribute [local congr] bindO_congr bindF_congr bindX_congr condX_congr iteB_congr binS_congr pickS_congr
theorem tdiv_pos {z : Int} (h : 0 ≤ z) (b : Int) : z.tdiv b = z / b := Int.tdiv_eq_ediv_of_nonneg h
theorem tmod_pos {z : Int} (h : 0 ≤ z) (b : Int) : z.tmod b = z % b := Int.tmod_eq_emod_of_nonneg h
theorem take_snoc' {l : List Int} {c : Nat} (h : c < l.length) : l.take (c + 1) = l.take c ++ [l.getD c 0] := by
  rw [List.take_succ_eq_append_getElem h]
  simp [List.getD_eq_getElem?_getD, List.getElem?_eq_getElem h]
def OneL (H : Heap) (r : Option (Value × Heap)) (l : List Int) : Prop := ∃ v' H', r = some (v', H') ∧ O H.length H' v' (ints l) ∧ Old H.length H H' ∧ WF H'
theorem getD_mem {l : List Int} {i : Nat} (h : i < l.length) : l.getD i 0 ∈ l := by
  rw [List.getD_eq_getElem?_getD, List.getElem?_eq_getElem h]; exact List.getElem_mem h
end Go.Proofs.Ytmmgdgmjkhcfaaa
namespace Go.Proofs.Ytmmgdgmjkhcfaaa
open Go Go.Abs Go.Num
theorem setList_all : ∀ (vs cs : List Value) (o : Nat), o + vs.length ≤ cs.length → setList cs o vs = cs.take o ++ vs ++ cs.drop (o + vs.length) := by
  intro vs
  induction vs with
  | nil => intro cs o _; simp [setList]
  | cons v vs ih =>
    intro cs o h
    simp only [List.length_cons] at h
    rw [setList, ih _ _ (by simp; omega)]
    have e1 : (cs.set o v).take (o + 1) = cs.take o ++ [v] := by
      rw [List.take_succ_eq_append_getElem (by simp; omega)]
      simp only [List.getElem_set_self]
      rw [List.take_set, List.set_eq_of_length_le (by rw [List.length_take]; omega)]
    have e2 : (cs.set o v).drop (o + 1 + vs.length) = cs.drop (o + 1 + vs.length) := by
      rw [List.drop_set]; rw [if_pos (by omega)]
    rw [e1, e2]
    simp [Nat.add_assoc, Nat.add_comm 1]
theorem sort_at {B : Nat} {H : Heap} {v : Value} {l : List Int} (h : O B H v (ints l)) (hw : WF H) (hl : l.length < 4611686018427387904) :
    ∃ H', bC (.func (.func 96) #[] #[]) [v, .func (.func 97) #[] #[]] H = some (.tuple #[], H') ∧ O B H' v (ints (fallS l)) ∧ Old B H H' ∧ WF H' := by
  rcases h with ⟨rfl, e⟩ | ⟨b, f, rfl, h1, h2, hb⟩
  · have : l = [] := by simpa [ints] using e
    subst this
    refine ⟨H, ?_, .inl ⟨rfl, by simp [fallS, ints]⟩, Old.refl _ _, hw⟩
    unfold bC
    simp only [if_true]
    rfl
  · have e1 : H.cellsAt b 0 (ints l).length = some (ints l) := by
      unfold Heap.cellsAt
      rw [hb]
      simp
    have e2 : unInts (ints l) = some l := unInts_map l
    have hle : (ints (fallS l)).length = (ints l).length := by rw [ints_len, ints_len, fallS_len]
    have e3 : H.write b 0 (ints (fallS l)) = some ((H.map (truncFam f 0)).set b (.cells f true (ints (fallS l)))) := by
      unfold Heap.write
      rw [hb]
      simp only [Nat.zero_add]
      rw [if_pos (by omega), setList_all _ _ _ (by omega), List.take_zero, List.nil_append, Nat.zero_add, List.drop_of_length_le (by omega), List.append_nil]
    refine ⟨(H.map (truncFam f 0)).set b (.cells f true (ints (fallS l))), ?_, .inr ⟨b, f, by rw [hle], h1, h2, ?_⟩, ?_, ?_⟩
    · unfold bC
      simp only [if_true]
      show (match sortC _ _ fallS _ _ _ with | some r => some r | none => _) = _
      have : sortC 96 97 fallS (.func (.func 96) #[] #[]) [sliceA b 0 (ints l).length 1, .func (.func 97) #[] #[]] H = some (.tuple #[], (H.map (truncFam f 0)).set b (.cells f true (ints (fallS l)))) := by
        simp only [sortC, sliceA]
        rw [if_pos ⟨trivial, trivial, by rw [ints_len]; exact hl, rfl⟩, e1]
        simp only [e2]
        rw [if_pos (fallS_len l)]
        rw [show (fallS l).map (Value.int .i64) = ints (fallS l) from rfl, e3]
        rfl
      rw [this]
    · rw [List.getElem?_set]
      simp [lt_of_blk hb]
    · have h3 := old_trunc hw h2 (k := 0)
      refine ⟨by simp, fun x hx => ?_⟩
      rw [List.getElem?_set, if_neg (by omega), h3.2 x hx]
    · intro b' f' o' cs' hb'
      rw [List.getElem?_set] at hb'
      split at hb'
      · rename_i e
        subst e
        split at hb'
        · injection hb' with hb'; injection hb' with e1 _ _; subst e1; exact hw b f true _ hb
        · cases hb'
      · exact wf_trunc hw b' f' o' cs' hb'
theorem sort_run {B : Nat} {H : Heap} {v : Value} {l : List Int} (h : O B H v (ints l)) (hw : WF H) (hl : l.length < 4611686018427387904) (n : Nat) (hn : 1 ≤ n) :
    ∃ H', evB Try.prog bC n (.func (.func 96) #[] #[]) [v, .func (.func 97) #[] #[]] H = some (.tuple #[], H') ∧ O B H' v (ints (fallS l)) ∧ Old B H H' ∧ WF H' := by
  obtain ⟨H', e, h'⟩ := sort_at h hw hl
  obtain ⟨m, rfl⟩ : ∃ m, n = m + 1 := ⟨n - 1, by omega⟩
  refine ⟨H', ?_, h'⟩
  show (match bC _ _ H with | some r => some r | none => evBody Try.prog (evB Try.prog bC m) m _ _ H) = _
  rw [e]
end Go.Proofs.Ytmmgdgmjkhcfaaa
namespace Go.Proofs.Ytmmgdgmjkhcfaaa
open Go Go.Abs Go.Num
theorem rep_run {B : Nat} {H : Heap} (hw : WF H) (hB : B ≤ H.length) (k : Nat) (hk : k ≤ 20) (n : Nat) (hn : 1 ≤ n) :
    ∃ v H', evB Try.prog bC n (.func (.func 95) #[] #[]) [sliceA H.length 0 1 1, vi k] (H ++ [.cells H.length true [vi 1]]) = some (v, H') ∧ R H' v (ints (List.replicate k 1)) ∧ Old B H H' ∧ WF H' := by
  refine ⟨sliceA (H.length + 1) 0 k 1, H ++ [.cells H.length true [vi 1]] ++ [.cells (H.length + 1) true (ints (List.replicate k 1))], ?_, ?_, ?_, ?_⟩
  · obtain ⟨m, rfl⟩ : ∃ m, n = m + 1 := ⟨n - 1, by omega⟩
    show (match bC _ _ _ with | some r => some r | none => evBody Try.prog (evB Try.prog bC m) m _ _ _) = _
    have e : bC (.func (.func 95) #[] #[]) [sliceA H.length 0 1 1, vi k] (H ++ [.cells H.length true [vi 1]]) = some (sliceA (H.length + 1) 0 k 1, H ++ [.cells H.length true [vi 1]] ++ [.cells (H.length + 1) true (ints (List.replicate k 1))]) := by
      unfold bC
      simp only
      rw [if_neg (by decide)]
      simp only [if_true]
      unfold tabC
      simp only [Array.isEmpty_iff, Bool.and_self, if_true]
      have e1 : mapO (readArg (H ++ [.cells H.length true [vi 1]])) [sliceA H.length 0 1 1, vi k] = some [.li (ints [1]), .imm (vi k)] := by
        have h1 : readArg (H ++ [.cells H.length true [vi 1]]) (sliceA H.length 0 1 1) = some (.li (ints [1])) := by
          unfold readArg sliceA
          simp only [List.getElem?_concat_length]
          rfl
        simp only [mapO, h1]
        rfl
      simp only [e1, repS_li hk, repR]
      rw [show renV (fun b => some (b + (H ++ [Blk.cells H.length true [vi 1]]).length)) (sliceA 0 0 k 1) = some (sliceA (0 + (H ++ [Blk.cells H.length true [vi 1]]).length) 0 k 1) from rfl]
      have e2 : mkBlks (H ++ [Blk.cells H.length true [vi 1]]).length (H ++ [Blk.cells H.length true [vi 1]]).length [ints (List.replicate k 1)] = some [.cells (H ++ [Blk.cells H.length true [vi 1]]).length true (ints (List.replicate k 1))] := by
        have h3 : ∀ (B : Nat) (k : Nat), mapO (renS (fun b => some (b + B))) (ints (List.replicate k 1)) = some (ints (List.replicate k 1)) := by
          intro B k
          induction k with
          | zero => rfl
          | succ k ih =>
            unfold ints at ih ⊢
            simp only [List.replicate_succ, List.map_cons, mapO, ih]
            rfl
        simp only [mkBlks, h3]
      simp only [e2]
      simp
    rw [e]
  · refine .inr (.inr ⟨H.length + 1, 0, H.length + 1, true, ints (List.replicate k 1), by simp [ints], ?_, by simp, by simp⟩)
    simp
  · exact ((Old.app H _).trans ((Old.app (H ++ [.cells H.length true [vi 1]]) _).mono (by simp))).mono hB
  · exact (hw.app (Nat.le_refl _)).app (by simp)
end Go.Proofs.Ytmmgdgmjkhcfaaa
namespace Go.Proofs.Ytmmgdgmjkhcfaaa
open Go Go.Abs Go.Num
set_option maxRecDepth 10000
attribute [local congr] bindO_congr bindF_congr bindX_congr condX_congr iteB_congr binS_congr pickS_congr eqB_congr nilS_congr clsW_congr maxS_congr minS_congr
def OneT (H : Heap) (r : Option (Value × Heap)) (f : Value → Value) (l : List Int) : Prop := ∃ v H', r = some (f v, H') ∧ O H.length H' v (ints l) ∧ Old H.length H H' ∧ WF H'
theorem within_runS (x lo hi : Int) (H : Heap) (n : Nat) (hn : 1 ≤ n) : evB Try.prog bC n (.func (.func 36) #[] #[]) [vi x, vi lo, vi hi] H = some (.bool (decide (lo ≤ x) && decide (x ≤ hi)), H) := by
  refine run_ofB (F := 0) (Q := fun r => r = some (.bool (decide (lo ≤ x) && decide (x ≤ hi)), H)) (fun n hn => ?_) n hn
  rw [body_runS Try.func36 rfl (ok_fn (by rfl) Try.func36 rfl) (Nat.le_of_ble_eq_true rfl) (D := D0) (by kernel_rfl)]
  by_cases h1 : lo ≤ x
  all_goals by_cases h2 : x ≤ hi
  all_goals simp (disch := omega) only [Try.f36, es_seq, es_region, es_ret, ops_nil, ops_cons, ops_consG, st_move, st_assign, sy_pick, pickS_true, pickS_false, sy_bin, binS_leq, binS_geq, bindO_some, bindF_some, bindX_normal, iteB_true, iteB_false, ev_tmp, ev_const, putA, upd_at, Option.map_some, ↓reduceIte, Nat.reduceEqDiff, frOf_0, frOf_1, frOf_2, decide_true, decide_false, yieldO_eq, yO, yV_bool, some_true, List.getElem?_cons_zero, List.getElem?_cons_succ, beq_self_eq_true, ↓bindO_some, ↓bindF_some, ↓bindX_normal, ↓iteB_true, ↓iteB_false, fin_r, res_nil, res_tmp, pack_1, scal_bool, h1, h2, Bool.and_self, Bool.and_false, Bool.and_true]
noncomputable def intA : Code := atC [1, 1, 0, 1, 0, 0] ((Try.f19.body).getD .skip)
theorem take_eq_succ {l m : List Int} {i : Nat} (h1 : i < l.length) (h2 : i < m.length) : l.take (i + 1) = m.take (i + 1) ↔ l.take i = m.take i ∧ l.getD i 0 = m.getD i 0 := by
  rw [take_snoc' h1, take_snoc' h2]
  constructor
  · intro h
    have := List.append_inj h (by rw [List.length_take, List.length_take]; omega)
    exact ⟨this.1, by simpa using this.2⟩
  · intro ⟨h3, h4⟩; rw [h3, h4]
theorem ints_run {H : Heap} {va vb : Value} {l m : List Int} (ha : R H va (ints l)) (hb : R H vb (ints m)) (ll : l.length ≤ 10000) (lm : m.length ≤ 10000) (n : Nat) (hn : 10002 ≤ n) :
    evB Try.prog bC n (.func (.func 19) #[] #[]) [va, vb] H = some (.bool (decide (l = m)), H) := by
  refine run_ofB (F := 10001) (Q := fun r => r = some (.bool (decide (l = m)), H)) (fun n hn => ?_) n hn
  rw [body_runS Try.func19 rfl (ok_fn (by rfl) Try.func19 rfl) (Nat.le_of_ble_eq_true rfl) (D := D0) (by kernel_rfl)]
  by_cases hl : l.length = m.length
  · have c1 : (l.length : Int) = (m.length : Int) := by omega
    have key : ∀ A : Fr, A 0 = va → A 1 = vb → A 5 = vi (0 : Nat) → ∃ r a' H', loopN (evS Try.prog (evB Try.prog bC n) n Try.f19.ntmps none intA) n A H = some (r, a', H') ∧ H' = H ∧ ((r = .exit 0 ∧ l = m) ∨ (r = .ret ∧ a' 4 = .bool false ∧ l ≠ m)) := by
      intro A h0 h1 h5
      refine loop_up l.length (fun i a H' => H' = H ∧ a 0 = va ∧ a 1 = vb ∧ a 5 = vi i ∧ l.take i = m.take i) _ ?_ ?_ (by omega) ⟨rfl, h0, h1, h5, rfl⟩
      · intro i a H' hi ⟨hH, h0, h1, h5, ht⟩
        subst hH
        rw [show intA = atC [1, 1, 0, 1, 0, 0] ((Try.f19.body).getD .skip) from rfl]
        have hlt : (i : Int) < l.length := by omega
        have e1 : IntKind.i64.wrap ((i : Int) + 1) = ((i + 1 : Nat) : Int) := by rw [wr64 (by omega) (by omega)]; omega
        by_cases he : l.getD i 0 = m.getD i 0
        · left
          simp (disch := omega) only [Try.f19, Option.getD_some, atC, es_seq, es_region, es_draw, d0, es_cond, es_block, es_skip, ops_nil, ops_cons, opsV_nil, opsV_cons, st_move, st_assign, sy_len uL, sy_addr eL, sy_load aI, sy_bin, binS_lss, binS_neq, binS_add, bindO_some, bindF_some, bindX_normal, blkX_normal, condX_true, condX_false, iteB_true, iteB_false, ev_tmp, ev_const, putA, upd_at, Option.map_some, ↓reduceIte, Nat.reduceEqDiff, Int.toNat_natCast, decide_true, Bool.not_true, ↓bindO_some, ↓bindF_some, ↓bindX_normal, ↓condX_true, ↓condX_false, ↓iteB_true, ↓iteB_false, reflV_load, reflV_move, reflV_bin, reflV_addr, vEq_vi, h0, h1, h5, ha.lenI, hlt, ha.addrI, ha.loadI, hb.addrI, hb.loadI, he, e1]
          exact ⟨_, _, rfl, rfl, h0, h1, rfl, (take_eq_succ hi (by omega)).2 ⟨ht, he⟩⟩
        · right
          simp (disch := omega) only [Try.f19, Option.getD_some, atC, es_seq, es_region, es_draw, d0, es_cond, es_block, es_skip, es_ret, ops_nil, ops_cons, opsV_nil, opsV_cons, st_move, st_assign, sy_len uL, sy_addr eL, sy_load aI, sy_bin, binS_lss, binS_neq, bindO_some, bindF_some, bindX_normal, bindX_ret, blkX_ret, condX_true, iteB_true, iteB_false, ev_tmp, ev_const, putA, upd_at, Option.map_some, ↓reduceIte, Nat.reduceEqDiff, Int.toNat_natCast, decide_true, decide_false, Bool.not_false, ↓bindO_some, ↓bindF_some, ↓bindX_normal, ↓bindX_ret, ↓condX_true, ↓iteB_true, ↓iteB_false, reflV_load, reflV_move, reflV_bin, reflV_addr, vEq_vi, h0, h1, h5, ha.lenI, hlt, ha.addrI, ha.loadI, hb.addrI, hb.loadI, he]
          refine ⟨_, _, _, rfl, by simp, rfl, .inr ⟨rfl, rfl, fun h => he (by rw [h])⟩⟩
      · intro a H' ⟨hH, h0, h1, h5, ht⟩
        subst hH
        rw [show intA = atC [1, 1, 0, 1, 0, 0] ((Try.f19.body).getD .skip) from rfl]
        simp (disch := omega) only [Try.f19, Option.getD_some, atC, es_seq, es_region, es_cond, es_exit, ops_nil, ops_cons, st_move, sy_len uL, sy_bin, binS_lss, bindO_some, bindF_some, bindX_normal, bindX_exit, condX_false, ev_tmp, putA, upd_at, Option.map_some, ↓reduceIte, Nat.reduceEqDiff, decide_false, ↓bindO_some, ↓bindF_some, ↓bindX_normal, ↓bindX_exit, ↓condX_false, h0, h5, ha.lenI, Int.lt_irrefl]
        rw [List.take_length, hl, List.take_length] at ht
        exact ⟨_, _, _, rfl, by simp, rfl, .inl ⟨rfl, ht⟩⟩
    rw [show intA = atC [1, 1, 0, 1, 0, 0] ((Try.f19.body).getD .skip) from rfl] at key
    simp only [Try.f19, Option.getD_some, atC] at key
    simp (disch := omega) only [Try.f19, es_seq, es_region, es_cond, es_block, es_loop, es_skip, es_ret, ops_nil, ops_cons, st_move, st_assign, sy_len uL, sy_bin, binS_neq, bindO_some, bindF_some, bindX_normal, condX_false, ev_tmp, ev_const, putA, upd_at, Option.map_some, ↓reduceIte, Nat.reduceEqDiff, frOf_0, frOf_1, decide_true, Bool.not_true, ↓bindO_some, ↓bindF_some, ↓bindX_normal, ↓condX_false, ha.lenI, hb.lenI, c1]
    generalize hA : upd _ 5 _ = A
    obtain ⟨r, a', H', e, hH, h⟩ := key A (by subst hA; rfl) (by subst hA; rfl) (by subst hA; rfl)
    subst hH
    rw [e]
    rcases h with ⟨rfl, rfl⟩ | ⟨rfl, h4, hne⟩
    · simp (disch := omega) only [bindX_normal, blkX_exit, upd_at, Option.map_some, ↓reduceIte, decide_true, ↓bindX_normal, fin_r, res_nil, res_tmp, pack_1, scal_bool]
    · rw [decide_eq_false hne]
      simp (disch := omega) only [bindX_ret, blkX_ret, Option.map_some, ↓bindX_ret, fin_r, res_nil, res_tmp, pack_1, scal_bool, h4]
  · have c1 : ¬ (l.length : Int) = (m.length : Int) := by omega
    rw [decide_eq_false (fun h => hl (by rw [h]))]
    simp (disch := omega) only [Try.f19, es_seq, es_region, es_cond, es_ret, ops_nil, ops_cons, st_move, st_assign, sy_len uL, sy_bin, binS_neq, bindO_some, bindF_some, bindX_normal, bindX_ret, condX_true, ev_tmp, ev_const, putA, upd_at, Option.map_some, ↓reduceIte, Nat.reduceEqDiff, frOf_0, frOf_1, decide_false, Bool.not_false, ↓bindO_some, ↓bindF_some, ↓bindX_normal, ↓bindX_ret, ↓condX_true, fin_r, res_nil, res_tmp, pack_1, scal_bool, ha.lenI, hb.lenI, c1]
end Go.Proofs.Ytmmgdgmjkhcfaaa
namespace Go.Proofs.Ytmmgdgmjkhcfaaa
open Go Go.Abs Go.Num
set_option maxRecDepth 10000
attribute [local congr] bindO_congr bindF_congr bindX_congr condX_congr iteB_congr binS_congr pickS_congr eqB_congr nilS_congr clsW_congr maxS_congr minS_congr
noncomputable def faB : Code := atC [1,1,0,1,0,0,1,0,0,1,0,0,0] ((Try.f99.body).getD .skip)
def putN (x : Int) : List Int → Nat
  | [] => 0
  | y :: l => if y ≥ x then putN x l + 1 else 0
theorem putN_le (x : Int) (l : List Int) : putN x l ≤ l.length := by
  induction l with
  | nil => exact Nat.le_refl _
  | cons y l ih => unfold putN; split <;> simp; exact ih
theorem putN_ge (x : Int) (l : List Int) : ∀ j, j < putN x l → l.getD j 0 ≥ x := by
  induction l with
  | nil => intro j h; simp [putN] at h
  | cons y l ih =>
    intro j h
    unfold putN at h
    split at h
    · cases j with
      | zero => simpa
      | succ j => simpa using ih j (by omega)
    · omega
theorem putN_lt (x : Int) (l : List Int) (h : putN x l < l.length) : l.getD (putN x l) 0 < x := by
  induction l with
  | nil => simp at h
  | cons y l ih =>
    unfold putN at h ⊢
    split
    · rename_i hy
      rw [if_pos hy] at h
      simpa using ih (by simpa using h)
    · rename_i hy
      simp; omega
theorem putN_put (x : Int) (l : List Int) : l.take (putN x l) ++ [x] ++ l.drop (putN x l) = putF x l :=
  (putF_at x l (putN x l) (putN_le x l) (fun j hj h => by have := putN_ge x l j h; rw [List.getD_eq_getElem?_getD, List.getElem?_eq_getElem hj] at this; exact this) (fun hj => by have := putN_lt x l hj; rw [List.getD_eq_getElem?_getD, List.getElem?_eq_getElem hj] at this; exact this)).symm
def D8 : Nat → Bool := fun id => id == 8
theorem d86 : D8 6 = false := (rfl)
theorem et_at {P : Program} {call : CallF} {ops : Array Oper} {k nt id : Nat} {rd : Option Nat} {a : Fr} {H : Heap} {D : Nat → Bool} (hd : D id = true) (bs : Array Nat) (hb : Region.before ops = bs) (Q : Fr → Heap → Prop) (h : ∃ r, evOpsI P call ops 0 ops.toList a H [(none, H)] [] = some r ∧ (∀ G ∈ r.2.2.1, ∀ q ∈ r.2.2.2, ordB bs G.1 q.1 = false → stillReads P G.2 q.2.1 q.2.2.1 q.2.2.2 = true) ∧ Q r.1 r.2.1) :
    ∃ a' H', evT P call k nt rd D (.region id ops true) a H = some (.normal, a', H') ∧ Q a' H' := by
  obtain ⟨a', H', e, q⟩ := et_idx (k := k) (nt := nt) (id := id) (rd := rd) bs hb Q h
  refine ⟨a', H', ?_, q⟩
  rw [es_draw] at e ⊢
  rw [hd]; exact e
theorem fa_r8 {H He H3 H4 H5 : Heap} {vl w p v1 v2 v3 v4 v5 : Value} {i j : Nat} {z : Int} (call : CallF) (k nt : Nat) (rd : Option Nat) {a : Fr} (h0 : a 0 = vl) (h3 : a 3 = w) (h4 : a 4 = vi i) (h5 : a 5 = vi j)
    (hHe : H ++ [.cells H.length true []] = He) (t1 : subS w none (some (vi j)) = some v1) (s3 : appS (sliceA H.length 0 0 1) v1 He = some (v3, H3)) (ad : addrS 1 vl (vi i) = some p) (ld : ∀ G, G = H ∨ G = He ∨ G = H3 → loadS p G = some (vi z))
    (s4 : appS v3 (sliceA H3.length 0 1 1) (H3 ++ [.cells H3.length true [vi z]]) = some (v4, H4)) (t2 : subS w (some (vi j)) none = some v2) (s5 : appS v4 v2 H4 = some (v5, H5)) :
    ∃ a' H', evT Try.prog call k nt rd D8 (atC [1,1,0,1,0,0,1,0,0,1,1] ((Try.f99.body).getD .skip)) a H = some (.normal, a', H') ∧ H' = H5 ∧ a' 0 = vl ∧ a' 3 = v5 ∧ a' 4 = vi i := by
  simp only [Try.f99, Option.getD_some, atC]
  refine et_at (by rfl) #[0, 0, 0, 6, 15, 0, 0, 96, 224, 480, 1023, 0, 0, 6144, 16383, 32767] (by kernel_rfl) (fun a' H' => H' = H5 ∧ a' 0 = vl ∧ a' 3 = v5 ∧ a' 4 = vi i) ?_
  have e1 := ld H (.inl rfl)
  have e2 := ld He (.inr (.inl rfl))
  have e3 := ld H3 (.inr (.inr rfl))
  simp (disch := omega) only [st_move, st_assign, sy_addr eL, sy_load aI, sy_append eL pI, sy_build1 eL oI, sy_build0 eL nI, sy_slice eL, bindO_some, ev_tmp, putA, upd_at, Option.map_some, ↓reduceIte, Nat.reduceEqDiff, Nat.zero_add, ↓bindO_some, scal_vi, opsI_nil, opsI_cons, Nat.reduceAdd, clsW_eff, clsW_all, clsW_read, clsW_pure, ↓clsW_eff, ↓clsW_all, ↓clsW_read, ↓clsW_pure, cls_move, cls_assign, cls_addr, cls_load, cls_append, cls_buildS, cls_slice, Option.map_none, h0, h3, h4, h5, hHe, t1, s3, ad, e3, s4, t2, s5]
  refine ⟨_, rfl, ?_, rfl, ?_, ?_, ?_⟩
  · intro G hG r hr
    simp only [List.mem_cons, List.not_mem_nil, or_false] at hG hr
    subst hr
    rcases hG with rfl | rfl | rfl | rfl | rfl <;> first
      | (intro h; dsimp only at h; exact absurd h (by decide))
      | (intro _; simp only [still_ld aI, ev_tmp, upd_at, ↓reduceIte, vEq_vi, e1, e3])
  · simp only [upd_at, ↓reduceIte, Nat.reduceEqDiff, h0]
  · simp only [upd_at, ↓reduceIte]
  · simp only [upd_at, ↓reduceIte, Nat.reduceEqDiff, h4]
theorem fa_in {H : Heap} {v w : Value} {l out : List Int} (hv : R H v (ints l)) (ho : R H w (ints out)) (hl : out.length ≤ 1000) {i n : Nat} (hi : i < l.length) (hn : 1010 ≤ n) {A : Fr} (h0 : A 0 = v) (h3 : A 3 = w) (h4 : A 4 = vi i) (h5 : A 5 = vi 0) :
    ∃ r a' H2, loopN (evT Try.prog (evB Try.prog bC n) n Try.f99.ntmps none D8 faB) n A H = some (r, a', H2) ∧ r = .exit 2 ∧ H2 = H ∧ a' 0 = v ∧ a' 3 = w ∧ a' 4 = vi i ∧ a' 5 = vi (putN (l.getD i 0) out) := by
  have hple := putN_le (l.getD i 0) out
  refine loop_up (putN (l.getD i 0) out) (fun k a H' => H' = H ∧ a 0 = v ∧ a 3 = w ∧ a 4 = vi i ∧ a 5 = vi k) _ ?_ ?_ (by omega) ⟨rfl, h0, h3, h4, h5⟩
  · intro k a H' hk ⟨hH, h0, h3, h4, h5⟩
    subst hH
    left
    have c1 : (k : Int) < out.length := by omega
    have c2 := putN_ge (l.getD i 0) out k hk
    have c3 : l.getD i 0 ≤ out.getD k 0 := c2
    have e1 : IntKind.i64.wrap ((k : Int) + 1) = ((k + 1 : Nat) : Int) := by rw [wr64 (by omega) (by omega)]; omega
    rw [show faB = atC [1,1,0,1,0,0,1,0,0,1,0,0,0] ((Try.f99.body).getD .skip) from rfl]
    simp (disch := omega) only [Try.f99, Option.getD_some, atC, es_seq, es_region, es_draw, es_cond, es_block, es_skip, ops_nil, ops_cons, opsV_nil, opsV_cons, opsV_consG, st_move, st_assign, sy_pick, pickS_true, sy_len uL, sy_addr eL, sy_load aI, sy_bin, binS_lss, binS_geq, binS_add, bindO_some, bindF_some, bindX_normal, blkX_normal, condX_true, iteB_true, iteB_false, ev_tmp, ev_const, putA, upd_at, Option.map_some, ↓reduceIte, Nat.reduceEqDiff, Int.toNat_natCast, decide_true, yieldO_eq, yO, yV_bool, List.getElem?_cons_zero, List.getElem?_cons_succ, beq_self_eq_true, ↓bindO_some, ↓bindF_some, ↓bindX_normal, ↓condX_true, ↓iteB_true, ↓iteB_false, reflV_load, reflV_move, reflV_pick, reflV_bin, reflV_addr, reflV_call, vEq_vi, d86, h0, h3, h4, h5, ho.lenI, ho.addrI, ho.loadI, hv.addrI, hv.loadI, c1, c2, e1]
    exact ⟨_, _, rfl, rfl, h0, h3, h4, rfl⟩
  · intro a H' ⟨hH, h0, h3, h4, h5⟩
    subst hH
    rw [show faB = atC [1,1,0,1,0,0,1,0,0,1,0,0,0] ((Try.f99.body).getD .skip) from rfl]
    by_cases hp : putN (l.getD i 0) out < out.length
    · have c1 : (putN (l.getD i 0) out : Int) < out.length := by omega
      have c2 : ¬ out.getD (putN (l.getD i 0) out) 0 ≥ l.getD i 0 := by have := putN_lt (l.getD i 0) out hp; omega
      have c3 : ¬ l.getD i 0 ≤ out.getD (putN (l.getD i 0) out) 0 := c2
      simp (disch := omega) only [Try.f99, Option.getD_some, atC, es_seq, es_draw, es_cond, es_exit, opsV_nil, opsV_cons, opsV_consG, st_move, sy_pick, pickS_true, sy_len uL, sy_addr eL, sy_load aI, sy_bin, binS_lss, binS_geq, bindO_some, bindF_some, bindX_normal, bindX_exit, condX_false, iteB_true, iteB_false, ev_tmp, putA, upd_at, Option.map_some, ↓reduceIte, Nat.reduceEqDiff, Int.toNat_natCast, decide_true, decide_false, yieldO_eq, yO, yV_bool, List.getElem?_cons_zero, List.getElem?_cons_succ, beq_self_eq_true, ↓bindO_some, ↓bindF_some, ↓bindX_normal, ↓bindX_exit, ↓condX_false, ↓iteB_true, ↓iteB_false, reflV_load, reflV_move, reflV_pick, reflV_bin, reflV_addr, reflV_call, vEq_vi, d86, h0, h3, h4, h5, ho.lenI, ho.addrI, ho.loadI, hv.addrI, hv.loadI, c1, c2]
      exact ⟨_, _, _, rfl, by simp, rfl, rfl, h0, h3, h4, h5⟩
    · have c1 : ¬ (putN (l.getD i 0) out : Int) < out.length := by omega
      simp (disch := omega) only [Try.f99, Option.getD_some, atC, es_seq, es_draw, es_cond, es_exit, opsV_nil, opsV_cons, opsV_consG, st_move, sy_pick, pickS_false, sy_len uL, sy_bin, binS_lss, bindO_some, bindF_some, bindX_normal, bindX_exit, condX_false, iteB_true, iteB_false, ev_tmp, ev_const, putA, upd_at, Option.map_some, ↓reduceIte, Nat.reduceEqDiff, decide_false, yieldO_eq, yO, yV_bool, some_true, List.getElem?_cons_zero, List.getElem?_cons_succ, ↓bindO_some, ↓bindF_some, ↓bindX_normal, ↓bindX_exit, ↓condX_false, ↓iteB_true, ↓iteB_false, reflV_move, reflV_pick, reflV_bin, reflV_call, d86, h3, h5, ho.lenI, c1]
      exact ⟨_, _, _, rfl, by simp, rfl, rfl, h0, h3, h4, h5⟩
noncomputable def faA : Code := atC [1,1,0,1,0,0] ((Try.f99.body).getD .skip)
theorem foldl_take_succ {l : List Int} {i : Nat} (hi : i < l.length) : (l.take (i + 1)).foldl (fun out x => putF x out) [] = putF (l.getD i 0) ((l.take i).foldl (fun out x => putF x out) []) := by
  rw [List.take_succ_eq_append_getElem hi, List.foldl_append]
  simp [hi]
theorem fold_len (l : List Int) : (l.foldl (fun out x => putF x out) []).length = l.length := by
  have := (fallI_aux l [] .nil).2.length_eq
  simpa using this
theorem falling_run {H : Heap} {v : Value} {l : List Int} (hw : WF H) (hv : R H v (ints l)) (hl : l.length ≤ 1000) (n : Nat) (hn : 1011 ≤ n) :
    OneL H (evB Try.prog bC n (.func (.func 99) #[] #[]) [v] H) (fallI l) := by
  refine run_ofB (F := 1010) (Q := fun r => OneL H r (fallI l)) (fun n hn => ?_) n hn
  rw [body_runS Try.func99 rfl (ok_fn (by rfl) Try.func99 rfl) (Nat.le_of_ble_eq_true rfl) (D := D8) (by kernel_rfl)]
  have key : ∀ A : Fr, A 0 = v → A 3 = .slice none 0 0 → A 4 = vi (0 : Nat) → ∃ r a' H2, loopN (evT Try.prog (evB Try.prog bC n) n Try.f99.ntmps none D8 faA) n A H = some (r, a', H2) ∧ r = .exit 0 ∧ WF H2 ∧ Old H.length H H2 ∧ ∃ w, a' 3 = w ∧ O H.length H2 w (ints (fallI l)) := by
    intro A h0 h3 h4
    refine loop_up l.length (fun i a H' => a 0 = v ∧ a 4 = vi i ∧ WF H' ∧ Old H.length H H' ∧ ∃ w, a 3 = w ∧ O H.length H' w (ints ((l.take i).foldl (fun out x => putF x out) []))) _ ?_ ?_ (by omega) ⟨h0, h4, hw, Old.refl _ _, _, h3, O.nil _ _⟩
    · intro i a H' hi ⟨h0, h4, wf, old, w, h3, o⟩
      left
      have hlt : (i : Int) < l.length := by omega
      have hvR := hv.mono old
      have hol : ((l.take i).foldl (fun out x => putF x out) []).length = i := by rw [fold_len, List.length_take]; omega
      generalize hout : (l.take i).foldl (fun out x => putF x out) [] = out at *
      have e1 : IntKind.i64.wrap ((i : Int) + 1) = ((i + 1 : Nat) : Int) := by rw [wr64 (by omega) (by omega)]; omega
      have key := @fa_in H' v w l out hvR o.R (by omega) i n hi hn
      rw [show faB = atC [1,1,0,1,0,0,1,0,0,1,0,0,0] ((Try.f99.body).getD .skip) from rfl] at key
      simp only [Try.f99, Option.getD_some, atC] at key
      rw [show faA = atC [1,1,0,1,0,0] ((Try.f99.body).getD .skip) from rfl]
      simp (disch := omega) only [Try.f99, Option.getD_some, atC, es_seq, es_region, es_cond, es_block, es_loop, es_skip, ops_nil, ops_cons, st_move, st_assign, sy_len uL, sy_bin, binS_lss, bindO_some, bindF_some, bindX_normal, condX_true, ev_tmp, ev_const, putA, upd_at, Option.map_some, ↓reduceIte, Nat.reduceEqDiff, decide_true, ↓bindO_some, ↓bindF_some, ↓bindX_normal, ↓condX_true, h0, h4, hlt, hvR.lenI]
      generalize hA : upd _ 5 _ = A2
      obtain ⟨r, a2, H2, e, hr, hH2, g0, g3, g4, g5⟩ := @key A2 (by subst hA; exact h0) (by subst hA; exact h3) (by subst hA; exact h4) (by subst hA; rfl)
      subst hr
      subst hH2
      rw [e]
      have hple := putN_le (l.getD i 0) out
      have oe := O.empty (B := H2.length) (H := H2) (Nat.le_refl _)
      have olde := Old.app H2 [.cells H2.length true []]
      have wfe := wf.app (Nat.le_refl H2.length) (o := true) (cs := [])
      have hlee : H2.length + 1 = (H2 ++ [Blk.cells H2.length true []]).length := by simp
      obtain ⟨v1, t1, rt⟩ := o.R.upto (c := putN (l.getD i 0) out) hple
      obtain ⟨v2, t2, rd⟩ := o.R.from (c := putN (l.getD i 0) out) hple
      generalize hHe : H2 ++ [Blk.cells H2.length true []] = He at *
      have olde' := olde.1
      obtain ⟨v3, H3, s3, o3, old3, wf3⟩ := oe.app wfe (by omega) (rt.mono olde) (by rw [ints_len, List.length_take]; simp [maxA]; omega)
      rw [List.nil_append] at o3
      have old3' := old3.1
      have hvR3 := hvR.mono (olde.trans old3)
      obtain ⟨v4, H4, s4, o4, old4, wf4⟩ := o3.pushI wf3 (by omega) (by rw [List.length_take]; unfold maxA; omega) (l.getD i 0)
      have old4' := old4.1
      obtain ⟨v5, H5, s5, o5, old5, wf5⟩ := o4.app wf4 (by omega) (rd.mono ((olde.trans old3).trans old4)) (by rw [ints_len, ints_len]; simp [maxA]; omega)
      rw [← ints_app, putN_put] at o5
      have ld : ∀ G, G = H2 ∨ G = He ∨ G = H3 → loadS (pt v i) G = some (vi (l.getD i 0)) := by
        rintro G (rfl | rfl | rfl)
        · exact hvR.loadI hi
        · exact (hvR.mono olde).loadI hi
        · exact hvR3.loadI hi
      have ad : addrS 1 v (vi (i : Int)) = some (pt v i) := hvR.addrI (by omega) (by omega)
      obtain ⟨a3, H6, e8, hH6, k0, k3, k4⟩ := fa_r8 (evB Try.prog bC n) n Try.f99.ntmps none g0 g3 g4 g5 hHe t1 s3 ad ld s4 t2 s5
      subst hH6
      simp only [Try.f99, Option.getD_some, atC] at e8
      simp (disch := omega) only [binS_add, bindO_some, bindF_some, bindX_normal, blkX_normal, blkX_exit, ↓reduceIte, ↓bindO_some, ↓bindF_some, ↓bindX_normal, e8, k4, e1]
      refine ⟨_, _, rfl, k0, rfl, wf5, old.trans ((((olde.trans old3).trans old4).trans old5).mono old.1), v5, k3, ?_⟩
      rw [foldl_take_succ hi, hout]
      exact o5.below old.1
    · intro a H' ⟨h0, h4, wf, old, w, h3, o⟩
      have hvR := hv.mono old
      rw [show faA = atC [1,1,0,1,0,0] ((Try.f99.body).getD .skip) from rfl]
      simp (disch := omega) only [Try.f99, Option.getD_some, atC, es_seq, es_region, es_cond, es_exit, ops_nil, ops_cons, st_move, sy_len uL, sy_bin, binS_lss, bindO_some, bindF_some, bindX_normal, bindX_exit, condX_false, ev_tmp, putA, upd_at, Option.map_some, ↓reduceIte, Nat.reduceEqDiff, decide_false, ↓bindO_some, ↓bindF_some, ↓bindX_normal, ↓bindX_exit, ↓condX_false, h0, h4, hvR.lenI, Int.lt_irrefl]
      rw [List.take_length] at o
      exact ⟨_, _, _, rfl, by simp, rfl, wf, old, w, h3, o⟩
  rw [show faA = atC [1,1,0,1,0,0] ((Try.f99.body).getD .skip) from rfl] at key
  simp only [Try.f99, Option.getD_some, atC] at key
  simp (disch := omega) only [Try.f99, es_seq, es_region, es_block, es_loop, es_ret, ops_nil, ops_cons, st_move, st_assign, bindO_some, bindF_some, bindX_normal, ev_tmp, ev_const, putA, upd_at, ↓reduceIte, ↓bindO_some, ↓bindF_some, ↓bindX_normal]
  generalize hA : upd _ 4 _ = A
  obtain ⟨r, a', H2, e, hr, wf2, old2, w, h3, o⟩ := @key A (by subst hA; rfl) (by subst hA; rfl) (by subst hA; rfl)
  subst hr
  rw [e]
  simp (disch := omega) only [bindX_normal, blkX_exit, upd_at, Option.map_some, ↓reduceIte, ↓bindX_normal, fin_r, res_nil, res_tmp, pack_1, h3, o.R.scal]
  exact ⟨_, _, rfl, o, old2, wf2⟩
end Go.Proofs.Ytmmgdgmjkhcfaaa
namespace Go.Proofs.Ytmmgdgmjkhcfaaa
open Go Go.Abs Go.Num
set_option maxRecDepth 10000
attribute [local congr] bindO_congr bindF_congr bindX_congr condX_congr iteB_congr binS_congr pickS_congr eqB_congr nilS_congr clsW_congr maxS_congr minS_congr
def Sm (l : List Int) : Prop := l.length ≤ 1000 ∧ ∀ x ∈ l, -1000000 ≤ x ∧ x ≤ 1000000
theorem Sm.getD {l : List Int} (h : Sm l) (i : Nat) : -1000000 ≤ l.getD i 0 ∧ l.getD i 0 ≤ 1000000 := by
  by_cases hi : i < l.length
  · exact h.2 _ (getD_mem hi)
  · rw [List.getD_eq_getElem?_getD, List.getElem?_eq_none (by omega)]; simp
theorem Sm.sum {l : List Int} (h : Sm l) (i : Nat) : -1000000000 ≤ (l.take i).sum ∧ (l.take i).sum ≤ 1000000000 := by
  have := sum_bd (b := 1000000) (by omega) fun x (hx : x ∈ l.take i) => h.2 x (List.mem_of_mem_take hx)
  have h2 : (l.take i).length ≤ 1000 := Nat.le_trans (List.length_take_le' ..) h.1
  omega
noncomputable def cszA : Code := atC [1, 1, 0, 1, 0, 0] ((Try.f60.body).getD .skip)
theorem csize_run {H : Heap} {v : Value} {l : List Int} (hv : R H v (ints l)) (hs : Sm l) (n : Nat) (hn : 1010 ≤ n) : evB Try.prog bC n (.func (.func 60) #[] #[]) [v] H = some (vi l.sum, H) := by
  refine run_ofB (F := 1009) (Q := fun r => r = some (vi l.sum, H)) (fun n hn => ?_) n hn
  rw [body_runS Try.func60 rfl (ok_fn (by rfl) Try.func60 rfl) (Nat.le_of_ble_eq_true rfl) (D := D0) (by kernel_rfl)]
  have hl := hs.1
  have key : ∀ A : Fr, A 3 = vi 0 → A 6 = v → A 7 = vi l.length → A 8 = vi (0 : Nat) → ∃ r a' H', loopN (evS Try.prog (evB Try.prog bC n) n Try.f60.ntmps none cszA) n A H = some (r, a', H') ∧ H' = H ∧ r = .exit 0 ∧ a' 3 = vi l.sum := by
    intro A h3 h6 h7 h8
    refine loop_up l.length (fun i a H' => H' = H ∧ a 3 = vi (l.take i).sum ∧ a 6 = v ∧ a 7 = vi l.length ∧ a 8 = vi i) _ ?_ ?_ (by omega) ⟨rfl, by rw [h3]; rfl, h6, h7, h8⟩
    · intro i a H' hi ⟨hH, h3, h6, h7, h8⟩
      subst hH
      left
      rw [show cszA = atC [1, 1, 0, 1, 0, 0] ((Try.f60.body).getD .skip) from rfl]
      have hlt : (i : Int) < l.length := by omega
      have e1 : IntKind.i64.wrap ((i : Int) + 1) = ((i + 1 : Nat) : Int) := by rw [wr64 (by omega) (by omega)]; omega
      have b1 := hs.sum i
      have b2 := hs.getD i
      have e2 : IntKind.i64.wrap ((l.take i).sum + l.getD i 0) = (l.take (i + 1)).sum := by rw [sum_take_succ hi]; exact wr64 (by omega) (by omega)
      simp (disch := omega) only [Try.f60, Option.getD_some, atC, es_seq, es_region, es_cond, es_block, es_skip, ops_nil, ops_cons, st_move, st_assign, sy_addr eL, sy_load aI, sy_bin, binS_lss, binS_add, bindO_some, bindF_some, bindX_normal, blkX_normal, condX_true, ev_tmp, ev_const, putA, upd_at, Option.map_some, ↓reduceIte, Nat.reduceEqDiff, Int.toNat_natCast, decide_true, ↓bindO_some, ↓bindF_some, ↓bindX_normal, ↓condX_true, h3, h6, h7, h8, hlt, hv.addrI, hv.loadI, e1, e2]
      exact ⟨_, _, rfl, rfl, rfl, h6, h7, rfl⟩
    · intro a H' ⟨hH, h3, h6, h7, h8⟩
      subst hH
      rw [show cszA = atC [1, 1, 0, 1, 0, 0] ((Try.f60.body).getD .skip) from rfl]
      simp (disch := omega) only [Try.f60, Option.getD_some, atC, es_seq, es_region, es_cond, es_exit, ops_nil, ops_cons, sy_bin, binS_lss, bindO_some, bindF_some, bindX_normal, bindX_exit, condX_false, ev_tmp, putA, upd_at, ↓reduceIte, decide_false, ↓bindO_some, ↓bindF_some, ↓bindX_normal, ↓bindX_exit, ↓condX_false, h7, h8, Int.lt_irrefl]
      rw [List.take_length] at h3
      exact ⟨_, _, _, rfl, by simp, rfl, rfl, h3⟩
  rw [show cszA = atC [1, 1, 0, 1, 0, 0] ((Try.f60.body).getD .skip) from rfl] at key
  simp only [Try.f60, Option.getD_some, atC] at key
  simp (disch := omega) only [Try.f60, es_seq, es_region, es_block, es_loop, es_ret, ops_nil, ops_cons, st_move, st_assign, sy_len uL, bindO_some, bindF_some, bindX_normal, ev_tmp, ev_const, putA, upd_at, Option.map_some, ↓reduceIte, Nat.reduceEqDiff, frOf_0, ↓bindO_some, ↓bindF_some, ↓bindX_normal, hv.lenI]
  generalize hA : upd _ 8 _ = A
  obtain ⟨r, a', H', e, hH, hr, h3⟩ := key A (by subst hA; rfl) (by subst hA; rfl) (by subst hA; rfl) (by subst hA; rfl)
  subst hr
  rw [e]
  subst hH
  simp (disch := omega) only [bindX_normal, blkX_exit, upd_at, Option.map_some, ↓reduceIte, ↓bindX_normal, fin_r, res_nil, res_tmp, pack_1, scal_vi, h3]
noncomputable def rszA : Code := atC [1, 1, 0, 1, 0, 0] ((Try.f17.body).getD .skip)
theorem rsize_run {H : Heap} {v : Value} {l : List Int} (hv : R H v (ints l)) (hs : Sm l) (n : Nat) (hn : 1010 ≤ n) : evB Try.prog bC n (.func (.func 17) #[] #[]) [v] H = some (vi l.sum, H) := by
  refine run_ofB (F := 1009) (Q := fun r => r = some (vi l.sum, H)) (fun n hn => ?_) n hn
  rw [body_runS Try.func17 rfl (ok_fn (by rfl) Try.func17 rfl) (Nat.le_of_ble_eq_true rfl) (D := D0) (by kernel_rfl)]
  have hl := hs.1
  have key : ∀ A : Fr, A 0 = v → A 3 = vi 0 → A 4 = vi (0 : Nat) → ∃ r a' H', loopN (evS Try.prog (evB Try.prog bC n) n Try.f17.ntmps none rszA) n A H = some (r, a', H') ∧ H' = H ∧ r = .exit 0 ∧ a' 3 = vi l.sum := by
    intro A h0 h3 h4
    refine loop_up l.length (fun i a H' => H' = H ∧ a 0 = v ∧ a 3 = vi (l.take i).sum ∧ a 4 = vi i) _ ?_ ?_ (by omega) ⟨rfl, h0, by rw [h3]; rfl, h4⟩
    · intro i a H' hi ⟨hH, h0, h3, h4⟩
      subst hH
      left
      rw [show rszA = atC [1, 1, 0, 1, 0, 0] ((Try.f17.body).getD .skip) from rfl]
      have hlt : (i : Int) < l.length := by omega
      have e1 : IntKind.i64.wrap ((i : Int) + 1) = ((i + 1 : Nat) : Int) := by rw [wr64 (by omega) (by omega)]; omega
      have b1 := hs.sum i
      have b2 := hs.getD i
      have e2 : IntKind.i64.wrap ((l.take i).sum + l.getD i 0) = (l.take (i + 1)).sum := by rw [sum_take_succ hi]; exact wr64 (by omega) (by omega)
      simp (disch := omega) only [Try.f17, Option.getD_some, atC, es_seq, es_region, es_cond, es_block, es_skip, ops_nil, ops_cons, st_move, st_assign, sy_len uL, sy_addr eL, sy_load aI, sy_bin, binS_lss, binS_add, bindO_some, bindF_some, bindX_normal, blkX_normal, condX_true, ev_tmp, ev_const, putA, upd_at, Option.map_some, ↓reduceIte, Nat.reduceEqDiff, Int.toNat_natCast, decide_true, ↓bindO_some, ↓bindF_some, ↓bindX_normal, ↓condX_true, h0, h3, h4, hlt, hv.lenI, hv.addrI, hv.loadI, e1, e2]
      exact ⟨_, _, rfl, rfl, h0, rfl, rfl⟩
    · intro a H' ⟨hH, h0, h3, h4⟩
      subst hH
      rw [show rszA = atC [1, 1, 0, 1, 0, 0] ((Try.f17.body).getD .skip) from rfl]
      simp (disch := omega) only [Try.f17, Option.getD_some, atC, es_seq, es_region, es_cond, es_exit, ops_nil, ops_cons, st_move, sy_len uL, sy_bin, binS_lss, bindO_some, bindF_some, bindX_normal, bindX_exit, condX_false, ev_tmp, putA, upd_at, Option.map_some, ↓reduceIte, Nat.reduceEqDiff, decide_false, ↓bindO_some, ↓bindF_some, ↓bindX_normal, ↓bindX_exit, ↓condX_false, h0, h4, hv.lenI, Int.lt_irrefl]
      rw [List.take_length] at h3
      exact ⟨_, _, _, rfl, by simp, rfl, rfl, h3⟩
  rw [show rszA = atC [1, 1, 0, 1, 0, 0] ((Try.f17.body).getD .skip) from rfl] at key
  simp only [Try.f17, Option.getD_some, atC] at key
  simp (disch := omega) only [Try.f17, es_seq, es_region, es_block, es_loop, es_ret, ops_nil, ops_cons, st_move, st_assign, bindO_some, bindF_some, bindX_normal, ev_tmp, ev_const, putA, upd_at, ↓reduceIte, ↓bindO_some, ↓bindF_some, ↓bindX_normal]
  generalize hA : upd _ 4 _ = A
  obtain ⟨r, a', H', e, hH, hr, h3⟩ := key A (by subst hA; rfl) (by subst hA; rfl) (by subst hA; rfl)
  subst hr
  rw [e]
  subst hH
  simp (disch := omega) only [bindX_normal, blkX_exit, upd_at, Option.map_some, ↓reduceIte, ↓bindX_normal, fin_r, res_nil, res_tmp, pack_1, scal_vi, h3]
theorem part_sm {l : List Int} (h1 : l.length ≤ 1000) (h : chkGo none l = none) : Sm l := ⟨h1, fun x hx => by have := chkGo_none h x hx; omega⟩
noncomputable def cckA : Code := atC [1, 1, 0, 1, 0, 0] ((Try.f44.body).getD .skip)
theorem ccheck_run {H : Heap} {v : Value} {l : List Int} (hv : R H v (ints l)) (hl : l.length ≤ 1000) (n : Nat) (hn : 1011 ≤ n) : evB Try.prog bC n (.func (.func 44) #[] #[]) [v] H = some (vi (chk l), H) := by
  refine run_ofB (F := 1010) (Q := fun r => r = some (vi (chk l), H)) (fun n hn => ?_) n hn
  rw [body_runS Try.func44 rfl (ok_fn (by rfl) Try.func44 rfl) (Nat.le_of_ble_eq_true rfl) (D := D0) (by kernel_rfl)]
  by_cases hbig : 20 < l.length
  · have c1 : (20 : Int) < (l.length : Int) := by omega
    rw [show chk l = 8 from if_pos hbig]
    simp (disch := omega) only [Try.f44, es_seq, es_region, es_cond, es_ret, ops_nil, ops_cons, st_move, st_assign, sy_len uL, sy_bin, binS_gtr, bindO_some, bindF_some, bindX_normal, bindX_ret, condX_true, ev_tmp, ev_const, putA, upd_at, Option.map_some, ↓reduceIte, Nat.reduceEqDiff, frOf_0, decide_true, ↓bindO_some, ↓bindF_some, ↓bindX_normal, ↓bindX_ret, ↓condX_true, fin_r, res_nil, res_tmp, pack_1, scal_vi, hv.lenI, c1]
  · have c1 : ¬ (20 : Int) < (l.length : Int) := by omega
    rw [show chk l = _ from if_neg hbig]
    have key : ∀ A : Fr, A 0 = v → A 8 = v → A 9 = vi l.length → A 10 = vi (0 : Nat) → ∃ r a' H', loopN (evS Try.prog (evB Try.prog bC n) n Try.f44.ntmps none cckA) n A H = some (r, a', H') ∧ H' = H ∧ ((r = .exit 0 ∧ a' 0 = v ∧ chkGo none l = none) ∨ ∃ e, r = .ret ∧ a' 2 = vi e ∧ chkGo none l = some e) := by
      intro A h0 h8 h9 h10
      refine loop_up l.length (fun i a H' => H' = H ∧ a 0 = v ∧ a 8 = v ∧ a 9 = vi l.length ∧ a 10 = vi i ∧ chkGo none l = chkGo (prv l i) (l.drop i)) _ ?_ ?_ (by omega) ⟨rfl, h0, h8, h9, h10, rfl⟩
      · intro i a H' hi ⟨hH, h0, h8, h9, h10, hg⟩
        subst hH
        rw [show cckA = atC [1, 1, 0, 1, 0, 0] ((Try.f44.body).getD .skip) from rfl]
        have hlt : (i : Int) < l.length := by omega
        have e1 : IntKind.i64.wrap ((i : Int) + 1) = ((i + 1 : Nat) : Int) := by rw [wr64 (by omega) (by omega)]; omega
        rw [chkGo_at hi] at hg
        by_cases hx1 : l.getD i 0 < 1
        · right
          rw [show bad (prv l i) (l.getD i 0) = some 2 from if_pos hx1] at hg
          simp (disch := omega) only [Try.f44, Option.getD_some, atC, es_seq, es_region, es_cond, es_block, es_skip, es_ret, ops_nil, ops_cons, ops_consG, st_move, st_assign, sy_pick, pickS_true, sy_addr eL, sy_load aI, sy_bin, binS_lss, bindO_some, bindF_some, bindX_normal, bindX_ret, blkX_ret, condX_true, iteB_false, ev_tmp, ev_const, putA, upd_at, Option.map_some, ↓reduceIte, Nat.reduceEqDiff, Int.toNat_natCast, decide_true, Bool.not_true, yieldO_eq, yO, yV_bool, some_false, List.getElem?_cons_zero, List.getElem?_cons_succ, ↓bindO_some, ↓bindF_some, ↓bindX_normal, ↓bindX_ret, ↓condX_true, ↓iteB_false, h8, h9, h10, hlt, hv.addrI, hv.loadI, hx1]
          exact ⟨_, _, _, rfl, by simp, rfl, .inr ⟨2, rfl, rfl, hg⟩⟩
        · by_cases hx2 : 20 < l.getD i 0
          · right
            rw [show bad (prv l i) (l.getD i 0) = some 2 from by unfold bad; rw [if_neg hx1, if_pos hx2]] at hg
            simp (disch := omega) only [Try.f44, Option.getD_some, atC, es_seq, es_region, es_cond, es_block, es_skip, es_ret, ops_nil, ops_cons, ops_consG, st_move, st_assign, sy_pick, pickS_false, sy_addr eL, sy_load aI, sy_bin, binS_lss, binS_gtr, bindO_some, bindF_some, bindX_normal, bindX_ret, blkX_ret, condX_true, iteB_true, ev_tmp, ev_const, putA, upd_at, Option.map_some, ↓reduceIte, Nat.reduceEqDiff, Int.toNat_natCast, decide_true, decide_false, yieldO_eq, yO, yV_bool, List.getElem?_cons_zero, List.getElem?_cons_succ, beq_self_eq_true, ↓bindO_some, ↓bindF_some, ↓bindX_normal, ↓bindX_ret, ↓condX_true, ↓iteB_true, h8, h9, h10, hlt, hv.addrI, hv.loadI, hx1, hx2]
            exact ⟨_, _, _, rfl, by simp, rfl, .inr ⟨2, rfl, rfl, hg⟩⟩
          · cases i with
            | zero =>
              left
              rw [show bad (prv l 0) (l.getD 0 0) = none from by unfold bad; rw [if_neg hx1, if_neg hx2]; rfl] at hg
              have c0 : decide ((0 : Int) < ((0 : Nat) : Int)) = false := rfl
              simp (disch := omega) only [Try.f44, Option.getD_some, atC, es_seq, es_region, es_cond, es_block, es_skip, ops_nil, ops_cons, ops_consG, st_move, st_assign, sy_pick, pickS_false, sy_addr eL, sy_load aI, sy_bin, binS_lss, binS_gtr, binS_add, bindO_some, bindF_some, bindX_normal, blkX_normal, condX_true, condX_false, iteB_true, iteB_false, ev_tmp, ev_const, putA, upd_at, Option.map_some, ↓reduceIte, Nat.reduceEqDiff, Nat.zero_add, Int.toNat_natCast, decide_true, decide_false, yieldO_eq, yO, yV_bool, some_true, List.getElem?_cons_zero, List.getElem?_cons_succ, beq_self_eq_true, ↓bindO_some, ↓bindF_some, ↓bindX_normal, ↓condX_true, ↓condX_false, ↓iteB_true, ↓iteB_false, h8, h9, h10, hlt, hv.addrI, hv.loadI, hx1, hx2, c0, e1]
              exact ⟨_, _, rfl, rfl, h0, h8, h9, rfl, hg⟩
            | succ j =>
              have c0 : (0 : Int) < ((j + 1 : Nat) : Int) := by omega
              have e2 : IntKind.i64.wrap (((j + 1 : Nat) : Int) - 1) = (j : Int) := by rw [wr64 (by omega) (by omega)]; omega
              by_cases hq : l.getD j 0 < l.getD (j + 1) 0
              · right
                rw [show bad (prv l (j + 1)) (l.getD (j + 1) 0) = some 9 from by unfold bad; rw [if_neg hx1, if_neg hx2]; exact if_pos hq] at hg
                simp (disch := omega) only [Try.f44, Option.getD_some, atC, es_seq, es_region, es_cond, es_block, es_skip, es_ret, ops_nil, ops_cons, ops_consG, st_move, st_assign, sy_pick, pickS_true, pickS_false, sy_addr eL, sy_load aI, sy_bin, binS_lss, binS_gtr, binS_sub, bindO_some, bindF_some, bindX_normal, bindX_ret, blkX_ret, condX_true, condX_false, iteB_true, ev_tmp, ev_const, putA, upd_at, Option.map_some, ↓reduceIte, Nat.reduceEqDiff, Int.toNat_natCast, decide_true, decide_false, yieldO_eq, yO, yV_bool, List.getElem?_cons_zero, List.getElem?_cons_succ, beq_self_eq_true, ↓bindO_some, ↓bindF_some, ↓bindX_normal, ↓bindX_ret, ↓condX_true, ↓condX_false, ↓iteB_true, h0, h8, h9, h10, hlt, hv.addrI, hv.loadI, hx1, hx2, c0, e2, hq]
                exact ⟨_, _, _, rfl, by simp, rfl, .inr ⟨9, rfl, rfl, hg⟩⟩
              · left
                rw [show bad (prv l (j + 1)) (l.getD (j + 1) 0) = none from by unfold bad; rw [if_neg hx1, if_neg hx2]; exact if_neg hq] at hg
                simp (disch := omega) only [Try.f44, Option.getD_some, atC, es_seq, es_region, es_cond, es_block, es_skip, ops_nil, ops_cons, ops_consG, st_move, st_assign, sy_pick, pickS_true, pickS_false, sy_addr eL, sy_load aI, sy_bin, binS_lss, binS_gtr, binS_add, binS_sub, bindO_some, bindF_some, bindX_normal, blkX_normal, condX_true, condX_false, iteB_true, ev_tmp, ev_const, putA, upd_at, Option.map_some, ↓reduceIte, Nat.reduceEqDiff, Int.toNat_natCast, decide_true, decide_false, yieldO_eq, yO, yV_bool, List.getElem?_cons_zero, List.getElem?_cons_succ, beq_self_eq_true, ↓bindO_some, ↓bindF_some, ↓bindX_normal, ↓condX_true, ↓condX_false, ↓iteB_true, h0, h8, h9, h10, hlt, hv.addrI, hv.loadI, hx1, hx2, c0, e2, hq, e1]
                exact ⟨_, _, rfl, rfl, h0, h8, h9, rfl, hg⟩
      · intro a H' ⟨hH, h0, h8, h9, h10, hg⟩
        subst hH
        rw [show cckA = atC [1, 1, 0, 1, 0, 0] ((Try.f44.body).getD .skip) from rfl]
        simp (disch := omega) only [Try.f44, Option.getD_some, atC, es_seq, es_region, es_cond, es_exit, ops_nil, ops_cons, sy_bin, binS_lss, bindO_some, bindF_some, bindX_normal, bindX_exit, condX_false, ev_tmp, putA, upd_at, ↓reduceIte, decide_false, ↓bindO_some, ↓bindF_some, ↓bindX_normal, ↓bindX_exit, ↓condX_false, h9, h10, Int.lt_irrefl]
        rw [List.drop_length] at hg
        exact ⟨_, _, _, rfl, by simp, rfl, .inl ⟨rfl, h0, hg⟩⟩
    rw [show cckA = atC [1, 1, 0, 1, 0, 0] ((Try.f44.body).getD .skip) from rfl] at key
    simp only [Try.f44, Option.getD_some, atC] at key
    simp (disch := omega) only [Try.f44, es_seq, es_region, es_cond, es_block, es_loop, es_skip, es_ret, ops_nil, ops_cons, st_move, st_assign, st_fun, sy_len uL, sy_bin, binS_gtr, bindO_some, bindF_some, bindX_normal, condX_false, ev_tmp, ev_const, ev_func, putA, upd_at, Option.map_some, ↓reduceIte, Nat.reduceEqDiff, frOf_0, List.map_cons, List.map_nil, decide_false, ↓bindO_some, ↓bindF_some, ↓bindX_normal, ↓condX_false, hv.lenI, c1]
    generalize hA : upd _ 10 _ = A
    obtain ⟨r, a', H', e, hH, h⟩ := key A (by subst hA; rfl) (by subst hA; rfl) (by subst hA; rfl) (by subst hA; rfl)
    rw [e]
    subst hH
    rcases h with ⟨rfl, h0, hg⟩ | ⟨e2, rfl, h2, hg⟩
    · rw [hg]
      have s1 := csize_run hv (part_sm hl hg) n (by omega)
      by_cases hb : 20 < l.sum
      · simp (disch := omega) only [binS_gtr, bindO_some, bindF_some, bindX_normal, bindX_ret, blkX_exit, condX_true, upd_at, Option.map_some, ↓reduceIte, decide_true, ↓bindO_some, ↓bindF_some, ↓bindX_normal, ↓bindX_ret, ↓condX_true, fin_r, res_nil, res_tmp, pack_1, scal_vi, h0, s1, hb]
      · simp (disch := omega) only [binS_gtr, bindO_some, bindF_some, bindX_normal, blkX_exit, condX_false, upd_at, Option.map_some, ↓reduceIte, decide_false, ↓bindO_some, ↓bindF_some, ↓bindX_normal, ↓condX_false, fin_r, res_nil, res_tmp, pack_1, scal_vi, h0, s1, hb]
    · rw [hg]
      simp (disch := omega) only [bindX_ret, blkX_ret, Option.map_some, ↓bindX_ret, fin_r, res_nil, res_tmp, pack_1, scal_vi, h2]
noncomputable def rckA : Code := atC [1, 1, 0, 1, 0, 0] ((Try.f16.body).getD .skip)
theorem rcheck_run {H : Heap} {v : Value} {l : List Int} (hv : R H v (ints l)) (hl : l.length ≤ 1000) (n : Nat) (hn : 1011 ≤ n) : evB Try.prog bC n (.func (.func 16) #[] #[]) [v] H = some (vi (chk l), H) := by
  refine run_ofB (F := 1010) (Q := fun r => r = some (vi (chk l), H)) (fun n hn => ?_) n hn
  rw [body_runS Try.func16 rfl (ok_fn (by rfl) Try.func16 rfl) (Nat.le_of_ble_eq_true rfl) (D := D0) (by kernel_rfl)]
  by_cases hbig : 20 < l.length
  · have c1 : (20 : Int) < (l.length : Int) := by omega
    rw [show chk l = 8 from if_pos hbig]
    simp (disch := omega) only [Try.f16, es_seq, es_region, es_cond, es_ret, ops_nil, ops_cons, st_move, st_assign, sy_len uL, sy_bin, binS_gtr, bindO_some, bindF_some, bindX_normal, bindX_ret, condX_true, ev_tmp, ev_const, putA, upd_at, Option.map_some, ↓reduceIte, Nat.reduceEqDiff, frOf_0, decide_true, ↓bindO_some, ↓bindF_some, ↓bindX_normal, ↓bindX_ret, ↓condX_true, fin_r, res_nil, res_tmp, pack_1, scal_vi, hv.lenI, c1]
  · have c1 : ¬ (20 : Int) < (l.length : Int) := by omega
    rw [show chk l = _ from if_neg hbig]
    have key : ∀ A : Fr, A 0 = v → A 3 = vi (0 : Nat) → ∃ r a' H', loopN (evS Try.prog (evB Try.prog bC n) n Try.f16.ntmps none rckA) n A H = some (r, a', H') ∧ H' = H ∧ ((r = .exit 0 ∧ a' 0 = v ∧ chkGo none l = none) ∨ ∃ e, r = .ret ∧ a' 2 = vi e ∧ chkGo none l = some e) := by
      intro A h0 h3
      refine loop_up l.length (fun i a H' => H' = H ∧ a 0 = v ∧ a 3 = vi i ∧ chkGo none l = chkGo (prv l i) (l.drop i)) _ ?_ ?_ (by omega) ⟨rfl, h0, h3, rfl⟩
      · intro i a H' hi ⟨hH, h0, h3, hg⟩
        subst hH
        rw [show rckA = atC [1, 1, 0, 1, 0, 0] ((Try.f16.body).getD .skip) from rfl]
        have hlt : (i : Int) < l.length := by omega
        have e1 : IntKind.i64.wrap ((i : Int) + 1) = ((i + 1 : Nat) : Int) := by rw [wr64 (by omega) (by omega)]; omega
        rw [chkGo_at hi] at hg
        have s0 := within_runS (l.getD i 0) 1 20 H' n (by omega)
        by_cases hx : l.getD i 0 < 1 ∨ 20 < l.getD i 0
        · right
          rw [show bad (prv l i) (l.getD i 0) = some 2 from by unfold bad; split; · rfl
                                                               · rw [if_pos (by omega)]] at hg
          rw [show (decide (1 ≤ l.getD i 0) && decide (l.getD i 0 ≤ 20)) = false from by rw [Bool.and_eq_false_iff]; exact hx.imp (fun h => decide_eq_false (by omega)) (fun h => decide_eq_false (by omega))] at s0
          simp (disch := omega) only [Try.f16, Option.getD_some, atC, es_seq, es_region, es_cond, es_block, es_skip, es_ret, ops_nil, ops_cons, st_move, st_assign, st_fun, sy_len uL, sy_addr eL, sy_load aI, sy_bin, st_not, binS_lss, bindO_some, bindF_some, bindX_normal, bindX_ret, blkX_ret, condX_true, ev_tmp, ev_const, ev_func, putA, upd_at, Option.map_some, ↓reduceIte, Nat.reduceEqDiff, Int.toNat_natCast, List.map_cons, List.map_nil, decide_true, Bool.not_false, ↓bindO_some, ↓bindF_some, ↓bindX_normal, ↓bindX_ret, ↓condX_true, h0, h3, hv.lenI, hlt, hv.addrI, hv.loadI, s0]
          exact ⟨_, _, _, rfl, by simp, rfl, .inr ⟨2, rfl, rfl, hg⟩⟩
        · have hx1 : ¬ l.getD i 0 < 1 := fun h => hx (.inl h)
          have hx2 : ¬ 20 < l.getD i 0 := fun h => hx (.inr h)
          rw [show (decide (1 ≤ l.getD i 0) && decide (l.getD i 0 ≤ 20)) = true from by rw [Bool.and_eq_true, decide_eq_true_eq, decide_eq_true_eq]; omega] at s0
          cases i with
          | zero =>
            left
            rw [show bad (prv l 0) (l.getD 0 0) = none from by unfold bad; rw [if_neg hx1, if_neg hx2]; rfl] at hg
            have c0 : decide ((0 : Int) < ((0 : Nat) : Int)) = false := rfl
            simp (disch := omega) only [Try.f16, Option.getD_some, atC, es_seq, es_region, es_draw, d0, es_cond, es_block, es_skip, ops_nil, ops_cons, opsV_nil, opsV_cons, opsV_consG, st_move, st_assign, sy_pick, pickS_false, st_fun, sy_len uL, sy_addr eL, sy_load aI, sy_bin, st_not, binS_lss, binS_gtr, binS_add, bindO_some, bindF_some, bindX_normal, blkX_normal, condX_true, condX_false, iteB_true, iteB_false, ev_tmp, ev_const, ev_func, putA, upd_at, Option.map_some, ↓reduceIte, Nat.reduceEqDiff, Nat.zero_add, Int.toNat_natCast, List.map_cons, List.map_nil, decide_true, Bool.not_true, yieldO_eq, yO, yV_bool, some_true, List.getElem?_cons_zero, List.getElem?_cons_succ, ↓bindO_some, ↓bindF_some, ↓bindX_normal, ↓condX_true, ↓condX_false, ↓iteB_true, ↓iteB_false, reflV_move, reflV_pick, reflV_bin, h0, h3, hv.lenI, hlt, hv.addrI, hv.loadI, s0, c0, e1]
            exact ⟨_, _, rfl, rfl, h0, rfl, hg⟩
          | succ j =>
            have c0 : (0 : Int) < ((j + 1 : Nat) : Int) := by omega
            have e2 : IntKind.i64.wrap (((j + 1 : Nat) : Int) - 1) = (j : Int) := by rw [wr64 (by omega) (by omega)]; omega
            by_cases hq : l.getD j 0 < l.getD (j + 1) 0
            · right
              rw [show bad (prv l (j + 1)) (l.getD (j + 1) 0) = some 9 from by unfold bad; rw [if_neg hx1, if_neg hx2]; exact if_pos hq] at hg
              simp (disch := omega) only [Try.f16, Option.getD_some, atC, es_seq, es_region, es_draw, d0, es_cond, es_block, es_skip, es_ret, ops_nil, ops_cons, opsV_nil, opsV_cons, opsV_consG, st_move, st_assign, sy_pick, pickS_true, st_fun, sy_len uL, sy_addr eL, sy_load aI, sy_bin, st_not, binS_lss, binS_gtr, binS_sub, bindO_some, bindF_some, bindX_normal, bindX_ret, blkX_ret, condX_true, condX_false, iteB_true, iteB_false, ev_tmp, ev_const, ev_func, putA, upd_at, Option.map_some, ↓reduceIte, Nat.reduceEqDiff, Int.toNat_natCast, List.map_cons, List.map_nil, decide_true, Bool.not_true, yieldO_eq, yO, yV_bool, List.getElem?_cons_zero, List.getElem?_cons_succ, beq_self_eq_true, ↓bindO_some, ↓bindF_some, ↓bindX_normal, ↓bindX_ret, ↓condX_true, ↓condX_false, ↓iteB_true, ↓iteB_false, reflV_load, reflV_move, reflV_pick, reflV_bin, reflV_addr, vEq_vi, h0, h3, hv.lenI, hlt, hv.addrI, hv.loadI, s0, c0, e2, hq]
              exact ⟨_, _, _, rfl, by simp, rfl, .inr ⟨9, rfl, rfl, hg⟩⟩
            · left
              rw [show bad (prv l (j + 1)) (l.getD (j + 1) 0) = none from by unfold bad; rw [if_neg hx1, if_neg hx2]; exact if_neg hq] at hg
              simp (disch := omega) only [Try.f16, Option.getD_some, atC, es_seq, es_region, es_draw, d0, es_cond, es_block, es_skip, ops_nil, ops_cons, opsV_nil, opsV_cons, opsV_consG, st_move, st_assign, sy_pick, pickS_true, st_fun, sy_len uL, sy_addr eL, sy_load aI, sy_bin, st_not, binS_lss, binS_gtr, binS_add, binS_sub, bindO_some, bindF_some, bindX_normal, blkX_normal, condX_true, condX_false, iteB_true, iteB_false, ev_tmp, ev_const, ev_func, putA, upd_at, Option.map_some, ↓reduceIte, Nat.reduceEqDiff, Int.toNat_natCast, List.map_cons, List.map_nil, decide_true, decide_false, Bool.not_true, yieldO_eq, yO, yV_bool, List.getElem?_cons_zero, List.getElem?_cons_succ, beq_self_eq_true, ↓bindO_some, ↓bindF_some, ↓bindX_normal, ↓condX_true, ↓condX_false, ↓iteB_true, ↓iteB_false, reflV_load, reflV_move, reflV_pick, reflV_bin, reflV_addr, vEq_vi, h0, h3, hv.lenI, hlt, hv.addrI, hv.loadI, s0, c0, e2, hq, e1]
              exact ⟨_, _, rfl, rfl, h0, rfl, hg⟩
      · intro a H' ⟨hH, h0, h3, hg⟩
        subst hH
        rw [show rckA = atC [1, 1, 0, 1, 0, 0] ((Try.f16.body).getD .skip) from rfl]
        simp (disch := omega) only [Try.f16, Option.getD_some, atC, es_seq, es_region, es_cond, es_exit, ops_nil, ops_cons, st_move, sy_len uL, sy_bin, binS_lss, bindO_some, bindF_some, bindX_normal, bindX_exit, condX_false, ev_tmp, putA, upd_at, Option.map_some, ↓reduceIte, Nat.reduceEqDiff, decide_false, ↓bindO_some, ↓bindF_some, ↓bindX_normal, ↓bindX_exit, ↓condX_false, h0, h3, hv.lenI, Int.lt_irrefl]
        rw [List.drop_length] at hg
        exact ⟨_, _, _, rfl, by simp, rfl, .inl ⟨rfl, h0, hg⟩⟩
    rw [show rckA = atC [1, 1, 0, 1, 0, 0] ((Try.f16.body).getD .skip) from rfl] at key
    simp only [Try.f16, Option.getD_some, atC] at key
    simp (disch := omega) only [Try.f16, es_seq, es_region, es_cond, es_block, es_loop, es_skip, es_ret, ops_nil, ops_cons, st_move, st_assign, st_fun, sy_len uL, sy_bin, binS_gtr, bindO_some, bindF_some, bindX_normal, condX_false, ev_tmp, ev_const, ev_func, putA, upd_at, Option.map_some, ↓reduceIte, Nat.reduceEqDiff, frOf_0, List.map_cons, List.map_nil, decide_false, ↓bindO_some, ↓bindF_some, ↓bindX_normal, ↓condX_false, hv.lenI, c1]
    generalize hA : upd _ 3 _ = A
    obtain ⟨r, a', H', e, hH, h⟩ := key A (by subst hA; rfl) (by subst hA; rfl)
    rw [e]
    subst hH
    rcases h with ⟨rfl, h0, hg⟩ | ⟨e2, rfl, h2, hg⟩
    · rw [hg]
      have s1 := rsize_run hv (part_sm hl hg) n (by omega)
      by_cases hb : 20 < l.sum
      · simp (disch := omega) only [binS_gtr, bindO_some, bindF_some, bindX_normal, bindX_ret, blkX_exit, condX_true, upd_at, Option.map_some, ↓reduceIte, decide_true, ↓bindO_some, ↓bindF_some, ↓bindX_normal, ↓bindX_ret, ↓condX_true, fin_r, res_nil, res_tmp, pack_1, scal_vi, h0, s1, hb]
      · simp (disch := omega) only [binS_gtr, bindO_some, bindF_some, bindX_normal, blkX_exit, condX_false, upd_at, Option.map_some, ↓reduceIte, decide_false, ↓bindO_some, ↓bindF_some, ↓bindX_normal, ↓condX_false, fin_r, res_nil, res_tmp, pack_1, scal_vi, h0, s1, hb]
    · rw [hg]
      simp (disch := omega) only [bindX_ret, blkX_ret, Option.map_some, ↓bindX_ret, fin_r, res_nil, res_tmp, pack_1, scal_vi, h2]
theorem long_run {H : Heap} {v : Value} {l : List Int} (hv : R H v (ints l)) (n : Nat) (hn : 1 ≤ n) : evB Try.prog bC n (.func (.func 14) #[] #[]) [v] H = some (.bool (decide (40 < (l.length : Int))), H) := by
  refine run_ofB (F := 0) (Q := fun r => r = some (.bool (decide (40 < (l.length : Int))), H)) (fun n hn => ?_) n hn
  rw [body_runS Try.func14 rfl (ok_fn (by rfl) Try.func14 rfl) (Nat.le_of_ble_eq_true rfl) (D := D0) (by kernel_rfl)]
  simp (disch := omega) only [Try.f14, es_seq, es_region, es_ret, ops_nil, ops_cons, st_move, st_assign, sy_len uL, sy_bin, binS_gtr, bindO_some, bindF_some, bindX_normal, ev_tmp, ev_const, putA, upd_at, Option.map_some, ↓reduceIte, Nat.reduceEqDiff, frOf_0, ↓bindO_some, ↓bindF_some, ↓bindX_normal, fin_r, res_nil, res_tmp, pack_1, scal_bool, hv.lenI]
end Go.Proofs.Ytmmgdgmjkhcfaaa
namespace Go.Proofs.Ytmmgdgmjkhcfaaa
open Go Go.Abs Go.Num
set_option maxRecDepth 10000
attribute [local congr] bindO_congr bindF_congr bindX_congr condX_congr iteB_congr binS_congr pickS_congr eqB_congr nilS_congr clsW_congr maxS_congr minS_congr
theorem map_take_snoc {l : List Int} {i : Nat} (hi : i < l.length) (g : Int → Int) : (l.take (i + 1)).map g = (l.take i).map g ++ [g (l.getD i 0)] := by
  rw [List.take_succ_eq_append_getElem hi, List.map_append]
  simp [hi]
noncomputable def stA1 : Code := atC [1,1,1,0,1,0,0] ((Try.f54.body).getD .skip)
theorem st_in {H : Heap} {v : Value} {l : List Int} (hv : R H v (ints l)) (hl : l.length ≤ 40) {n : Nat} (hn : 1010 ≤ n) {N : Int} {A : Fr} (h0 : A 0 = vi N) (h1 : A 1 = v) (h6 : A 6 = vi 0) (h18 : A 18 = v) (h19 : A 19 = vi l.length) (h20 : A 20 = vi (0 : Nat)) :
    ∃ r a' H2, loopN (evS Try.prog (evB Try.prog bC n) n Try.f54.ntmps none stA1) n A H = some (r, a', H2) ∧ H2 = H ∧ ((r = .exit 0 ∧ stOk l = true ∧ a' 0 = vi N ∧ a' 1 = v ∧ a' 6 = vi l.sum) ∨ (r = .ret ∧ stOk l = false ∧ a' 4 = .slice none 0 0 ∧ a' 5 = vi 2)) := by
  refine loop_up l.length (fun i a H' => H' = H ∧ a 0 = vi N ∧ a 1 = v ∧ a 6 = vi (l.take i).sum ∧ a 18 = v ∧ a 19 = vi l.length ∧ a 20 = vi i ∧ ∀ j, j < i → goodO (l.getD j 0)) _ ?_ ?_ (by omega) ⟨rfl, h0, h1, by rw [h6]; rfl, h18, h19, h20, fun j hj => by omega⟩
  · intro i a H' hi ⟨hH, h0, h1, h6, h18, h19, h20, hg⟩
    subst hH
    have hlt : (i : Int) < l.length := by omega
    have e1 : IntKind.i64.wrap ((i : Int) + 1) = ((i + 1 : Nat) : Int) := by rw [wr64 (by omega) (by omega)]; omega
    rw [show stA1 = atC [1,1,1,0,1,0,0] ((Try.f54.body).getD .skip) from rfl]
    have bad : ¬ goodO (l.getD i 0) → stOk l = false := fun h => by
      cases hb : stOk l with
      | false => rfl
      | true => exact absurd (stOk_at hb i hi) h
    by_cases c1 : l.getD i 0 < 0
    · right
      simp (disch := omega) only [Try.f54, Option.getD_some, atC, es_seq, es_region, es_cond, es_block, es_skip, es_ret, ops_nil, ops_cons, ops_consG, st_move, st_assign, sy_pick, pickS_true, sy_addr eL, sy_load aI, sy_bin, binS_lss, bindO_some, bindF_some, bindX_normal, bindX_ret, blkX_ret, condX_true, iteB_false, ev_tmp, ev_const, putA, upd_at, Option.map_some, ↓reduceIte, Nat.reduceEqDiff, Int.toNat_natCast, decide_true, Bool.not_true, yieldO_eq, yO, yV_bool, some_false, List.getElem?_cons_zero, List.getElem?_cons_succ, ↓bindO_some, ↓bindF_some, ↓bindX_normal, ↓bindX_ret, ↓condX_true, ↓iteB_false, h18, h19, h20, hlt, hv.addrI, hv.loadI, c1]
      exact ⟨_, _, _, rfl, by simp, rfl, .inr ⟨rfl, bad (fun h => by unfold goodO at h; omega), rfl, rfl⟩⟩
    · by_cases c2 : 20 < l.getD i 0
      · have c3 : l.getD i 0 > 20 := c2
        right
        simp (disch := omega) only [Try.f54, Option.getD_some, atC, es_seq, es_region, es_cond, es_block, es_skip, es_ret, ops_nil, ops_cons, ops_consG, st_move, st_assign, sy_pick, pickS_false, sy_addr eL, sy_load aI, sy_bin, binS_lss, binS_gtr, bindO_some, bindF_some, bindX_normal, bindX_ret, blkX_ret, condX_true, iteB_true, ev_tmp, ev_const, putA, upd_at, Option.map_some, ↓reduceIte, Nat.reduceEqDiff, Int.toNat_natCast, decide_true, decide_false, yieldO_eq, yO, yV_bool, List.getElem?_cons_zero, List.getElem?_cons_succ, beq_self_eq_true, ↓bindO_some, ↓bindF_some, ↓bindX_normal, ↓bindX_ret, ↓condX_true, ↓iteB_true, h18, h19, h20, hlt, hv.addrI, hv.loadI, c1, c2]
        exact ⟨_, _, _, rfl, by simp, rfl, .inr ⟨rfl, bad (fun h => by unfold goodO at h; omega), rfl, rfl⟩⟩
      · have c3 : ¬ l.getD i 0 > 20 := c2
        left
        have hs := sum_bd (b := 20) (l := l.take i) (by omega) fun x hx => by
          obtain ⟨j, hj, rfl⟩ := List.getElem_of_mem hx
          rw [List.length_take] at hj
          have := hg j (by omega)
          rw [List.getD_eq_getElem?_getD, List.getElem?_eq_getElem (by omega)] at this
          rw [List.getElem_take]
          unfold goodO at this
          simp only [Option.getD_some] at this
          omega
        have hlen : (l.take i).length ≤ 40 := by rw [List.length_take]; omega
        have e2 : IntKind.i64.wrap ((l.take i).sum + l.getD i 0) = (l.take (i + 1)).sum := by rw [sum_take_succ hi]; exact wr64 (by omega) (by omega)
        simp (disch := omega) only [Try.f54, Option.getD_some, atC, es_seq, es_region, es_cond, es_block, es_skip, ops_nil, ops_cons, ops_consG, st_move, st_assign, sy_pick, pickS_false, sy_addr eL, sy_load aI, sy_bin, binS_lss, binS_gtr, binS_add, bindO_some, bindF_some, bindX_normal, blkX_normal, condX_true, condX_false, iteB_true, ev_tmp, ev_const, putA, upd_at, Option.map_some, ↓reduceIte, Nat.reduceEqDiff, Int.toNat_natCast, decide_true, decide_false, yieldO_eq, yO, yV_bool, List.getElem?_cons_zero, List.getElem?_cons_succ, beq_self_eq_true, ↓bindO_some, ↓bindF_some, ↓bindX_normal, ↓condX_true, ↓condX_false, ↓iteB_true, h6, h18, h19, h20, hlt, hv.addrI, hv.loadI, c1, c2, e1, e2]
        refine ⟨_, _, rfl, rfl, h0, h1, rfl, h18, h19, rfl, fun j hj => ?_⟩
        by_cases hji : j = i
        · subst hji; unfold goodO; omega
        · exact hg j (by omega)
  · intro a H' ⟨hH, h0, h1, h6, h18, h19, h20, hg⟩
    subst hH
    rw [show stA1 = atC [1,1,1,0,1,0,0] ((Try.f54.body).getD .skip) from rfl]
    simp (disch := omega) only [Try.f54, Option.getD_some, atC, es_seq, es_region, es_cond, es_exit, ops_nil, ops_cons, sy_bin, binS_lss, bindO_some, bindF_some, bindX_normal, bindX_exit, condX_false, ev_tmp, putA, upd_at, ↓reduceIte, decide_false, ↓bindO_some, ↓bindF_some, ↓bindX_normal, ↓bindX_exit, ↓condX_false, h19, h20, Int.lt_irrefl]
    rw [List.take_length] at h6
    exact ⟨_, _, _, rfl, by simp, rfl, .inl ⟨rfl, stOk_true hg, h0, h1, h6⟩⟩
noncomputable def stA2 : Code := atC [1,1,1,1,1,1,0,1,0,0] ((Try.f54.body).getD .skip)
theorem st_up {H : Heap} {v : Value} {l : List Int} (hw : WF H) (hv : R H v (ints l)) (hl : l.length ≤ 40) (hg : stOk l = true) {n : Nat} (hn : 1010 ≤ n) {N S : Int} {A : Fr} (h0 : A 0 = vi N) (h1 : A 1 = v) (h6 : A 6 = vi S) (h9 : A 9 = .slice none 0 0) (h45 : A 45 = v) (h46 : A 46 = vi l.length) (h47 : A 47 = vi (0 : Nat)) :
    ∃ r a' H2, loopN (evS Try.prog (evB Try.prog bC n) n Try.f54.ntmps none stA2) n A H = some (r, a', H2) ∧ r = .exit 3 ∧ a' 0 = vi N ∧ a' 1 = v ∧ a' 6 = vi S ∧ WF H2 ∧ Old H.length H H2 ∧ ∃ w, a' 9 = w ∧ O H.length H2 w (ints (l.map (· + 1))) := by
  refine loop_up l.length (fun i a H' => a 0 = vi N ∧ a 1 = v ∧ a 6 = vi S ∧ a 45 = v ∧ a 46 = vi l.length ∧ a 47 = vi i ∧ WF H' ∧ Old H.length H H' ∧ ∃ w, a 9 = w ∧ O H.length H' w (ints ((l.take i).map (· + 1)))) _ ?_ ?_ (by omega) ⟨h0, h1, h6, h45, h46, h47, hw, Old.refl _ _, _, h9, O.nil _ _⟩
  · intro i a H' hi ⟨h0, h1, h6, h45, h46, h47, wf, old, w, h9, o⟩
    left
    have hlt : (i : Int) < l.length := by omega
    have hvR := hv.mono old
    have e1 : IntKind.i64.wrap ((i : Int) + 1) = ((i + 1 : Nat) : Int) := by rw [wr64 (by omega) (by omega)]; omega
    have hb := stOk_at hg i hi
    unfold goodO at hb
    have e2 : IntKind.i64.wrap (l.getD i 0 + 1) = l.getD i 0 + 1 := wr64 (by omega) (by omega)
    obtain ⟨w3, H3, s3, o3, old3, wf3⟩ := o.pushI wf old.1 (by rw [List.length_map, List.length_take]; unfold maxA; omega) (l.getD i 0 + 1)
    rw [show stA2 = atC [1,1,1,1,1,1,0,1,0,0] ((Try.f54.body).getD .skip) from rfl]
    simp (disch := omega) only [Try.f54, Option.getD_some, atC, es_seq, es_region, es_cond, es_block, es_skip, ops_nil, ops_cons, st_move, st_assign, sy_addr eL, sy_load aI, sy_bin, sy_append eL pI, sy_build1 eL oI, binS_lss, binS_add, bindO_some, bindF_some, bindX_normal, blkX_normal, condX_true, ev_tmp, ev_const, putA, upd_at, Option.map_some, ↓reduceIte, Nat.reduceEqDiff, Int.toNat_natCast, decide_true, ↓bindO_some, ↓bindF_some, ↓bindX_normal, ↓condX_true, scal_vi, h9, h45, h46, h47, hlt, hvR.addrI, hvR.loadI, e1, e2, s3]
    exact ⟨_, _, rfl, h0, h1, h6, h45, h46, rfl, wf3, old.trans old3, w3, rfl, by rw [map_take_snoc hi]; exact o3⟩
  · intro a H' ⟨h0, h1, h6, h45, h46, h47, wf, old, w, h9, o⟩
    rw [show stA2 = atC [1,1,1,1,1,1,0,1,0,0] ((Try.f54.body).getD .skip) from rfl]
    simp (disch := omega) only [Try.f54, Option.getD_some, atC, es_seq, es_region, es_cond, es_exit, ops_nil, ops_cons, sy_bin, binS_lss, bindO_some, bindF_some, bindX_normal, bindX_exit, condX_false, ev_tmp, putA, upd_at, ↓reduceIte, decide_false, ↓bindO_some, ↓bindF_some, ↓bindX_normal, ↓bindX_exit, ↓condX_false, h46, h47, Int.lt_irrefl]
    rw [List.take_length] at o
    exact ⟨_, _, _, rfl, by simp, rfl, h0, h1, h6, wf, old, w, h9, o⟩
theorem stratum_run {H : Heap} {v : Value} {l : List Int} {N : Int} (hw : WF H) (hv : R H v (ints l)) (hl : l.length ≤ 40) (n : Nat) (hn : 1100 ≤ n) :
    OneT H (evB Try.prog bC n (.func (.func 54) #[] #[]) [vi N, v] H) (fun u => .tuple #[u, vi (stE N l)]) (stL N l) := by
  refine run_ofB (F := 1099) (Q := fun r => OneT H r (fun u => .tuple #[u, vi (stE N l)]) (stL N l)) (fun n hn => ?_) n hn
  rw [body_runS Try.func54 rfl (ok_fn (by rfl) Try.func54 rfl) (Nat.le_of_ble_eq_true rfl) (D := D0) (by kernel_rfl)]
  by_cases c1 : N < 1
  · have hE : stE N l = 2 := by unfold stE; rw [if_neg (by omega)]
    have hL : stL N l = [] := by unfold stL; rw [hE, if_neg (by omega)]
    rw [hE, hL]
    simp (disch := omega) only [Try.f54, es_seq, es_region, es_cond, es_ret, ops_nil, ops_cons, ops_consG, st_move, st_assign, sy_pick, pickS_true, sy_bin, binS_lss, bindO_some, bindF_some, bindX_normal, bindX_ret, condX_true, iteB_false, ev_tmp, ev_const, putA, upd_at, Option.map_some, ↓reduceIte, Nat.reduceEqDiff, frOf_0, decide_true, Bool.not_true, yieldO_eq, yO, yV_bool, some_false, List.getElem?_cons_zero, List.getElem?_cons_succ, ↓bindO_some, ↓bindF_some, ↓bindX_normal, ↓bindX_ret, ↓condX_true, ↓iteB_false, fin_r, res_nil, res_tmp, pack_2, scal_vi, scal_nil, c1]
    exact ⟨_, _, rfl, O.nil _ _, Old.refl _ _, hw⟩
  by_cases c2 : 20 < N
  · have c3 : N > 20 := c2
    have hE : stE N l = 2 := by unfold stE; rw [if_neg (by omega)]
    have hL : stL N l = [] := by unfold stL; rw [hE, if_neg (by omega)]
    rw [hE, hL]
    simp (disch := omega) only [Try.f54, es_seq, es_region, es_cond, es_ret, ops_nil, ops_cons, ops_consG, st_move, st_assign, sy_pick, pickS_false, sy_bin, binS_lss, binS_gtr, bindO_some, bindF_some, bindX_normal, bindX_ret, condX_true, iteB_true, ev_tmp, ev_const, putA, upd_at, Option.map_some, ↓reduceIte, Nat.reduceEqDiff, frOf_0, decide_true, decide_false, yieldO_eq, yO, yV_bool, List.getElem?_cons_zero, List.getElem?_cons_succ, beq_self_eq_true, ↓bindO_some, ↓bindF_some, ↓bindX_normal, ↓bindX_ret, ↓condX_true, ↓iteB_true, fin_r, res_nil, res_tmp, pack_2, scal_vi, scal_nil, c1, c2]
    exact ⟨_, _, rfl, O.nil _ _, Old.refl _ _, hw⟩
  have c3 : ¬ N > 20 := c2
  have key := @st_in H v l hv hl n (by omega) N
  rw [show stA1 = atC [1,1,1,0,1,0,0] ((Try.f54.body).getD .skip) from rfl] at key
  simp only [Try.f54, Option.getD_some, atC] at key
  simp (disch := omega) only [Try.f54, es_seq, es_region, es_cond, es_block, es_loop, es_skip, es_ret, ops_nil, ops_cons, ops_consG, st_move, st_assign, sy_pick, pickS_false, st_fun, sy_len uL, sy_bin, sy_append eL pI, sy_build1 eL oI, binS_lss, binS_gtr, bindO_some, bindF_some, bindX_normal, condX_false, iteB_true, ev_tmp, ev_const, ev_func, putA, upd_at, Option.map_some, ↓reduceIte, Nat.reduceEqDiff, frOf_0, frOf_1, List.map_cons, List.map_nil, decide_false, yieldO_eq, yO, yV_bool, List.getElem?_cons_zero, List.getElem?_cons_succ, beq_self_eq_true, ↓bindO_some, ↓bindF_some, ↓bindX_normal, ↓condX_false, ↓iteB_true, scal_vi, c1, c2, hv.lenI]
  generalize hA : upd _ 20 _ = A
  obtain ⟨r, a1, H1, e, hH, h⟩ := @key A (by subst hA; rfl) (by subst hA; rfl) (by subst hA; rfl) (by subst hA; rfl) (by subst hA; rfl) (by subst hA; rfl)
  subst hH
  rw [e]
  rcases h with ⟨rfl, hok, g0, g1, g6⟩ | ⟨rfl, hok, g4, g5⟩
  · have hs := stOk_sum hok l.length
    rw [List.take_length] at hs
    have hle := stOk_le hok
    have e1 : IntKind.i64.wrap (l.sum + l.length) = l.sum + l.length := wr64 (by omega) (by omega)
    by_cases c4 : N < l.sum + l.length
    · have c5 : l.sum + (l.length : Int) > N := c4
      have hE : stE N l = 10 := by unfold stE; rw [if_pos (by omega), if_pos hok, if_pos c4]
      have hL : stL N l = [] := by unfold stL; rw [hE, if_neg (by omega)]
      rw [hE, hL]
      simp (disch := omega) only [binS_gtr, binS_add, bindO_some, bindF_some, bindX_normal, bindX_ret, blkX_exit, blkX_ret, condX_true, upd_at, Option.map_some, ↓reduceIte, Nat.reduceEqDiff, decide_true, ↓bindO_some, ↓bindF_some, ↓bindX_normal, ↓bindX_ret, ↓condX_true, fin_r, res_nil, res_tmp, pack_2, scal_vi, scal_nil, g0, g1, g6, hv.lenI, e1, c4]
      exact ⟨_, _, rfl, O.nil _ _, Old.refl _ _, hw⟩
    · have c5 : ¬ l.sum + (l.length : Int) > N := c4
      have e2 : Int.tmod l.sum 2 = l.sum % 2 := tmod_pos hs.1 2
      by_cases c6 : l.sum % 2 = 1
      · have hE : stE N l = 3 := by unfold stE; rw [if_pos (by omega), if_pos hok, if_neg c4, if_pos c6]
        have hL : stL N l = [] := by unfold stL; rw [hE, if_neg (by omega)]
        rw [hE, hL]
        simp (disch := omega) only [binS_gtr, binS_eql, binS_add, binS_rem, bindO_some, bindF_some, bindX_normal, bindX_ret, blkX_exit, blkX_ret, condX_true, condX_false, upd_at, Option.map_some, ↓reduceIte, Nat.reduceEqDiff, decide_true, decide_false, ↓bindO_some, ↓bindF_some, ↓bindX_normal, ↓bindX_ret, ↓condX_true, ↓condX_false, fin_r, res_nil, res_tmp, pack_2, scal_vi, scal_nil, g0, g1, g6, hv.lenI, e1, c4, e2, c6]
        exact ⟨_, _, rfl, O.nil _ _, Old.refl _ _, hw⟩
      · have hE : stE N l = 0 := by unfold stE; rw [if_pos (by omega), if_pos hok, if_neg c4, if_neg c6]
        have hL : stL N l = fallS (stRow N l) := by unfold stL; rw [hE, if_pos rfl]
        rw [hE, hL]
        have c7 : decide (l.sum % 2 = 1) = false := decide_eq_false c6
        have key := @st_up H1 v l hw hv hl hok n (by omega) N l.sum
        rw [show stA2 = atC [1,1,1,1,1,1,0,1,0,0] ((Try.f54.body).getD .skip) from rfl] at key
        simp only [Try.f54, Option.getD_some, atC] at key
        simp (disch := omega) only [binS_gtr, binS_eql, binS_add, binS_rem, bindO_some, bindF_some, bindX_normal, blkX_normal, blkX_exit, condX_false, upd_at, Option.map_some, ↓reduceIte, Nat.reduceEqDiff, decide_false, ↓bindO_some, ↓bindF_some, ↓bindX_normal, ↓condX_false, g0, g1, g6, hv.lenI, e1, c4, e2, c7]
        generalize hA : upd _ 47 _ = A2
        obtain ⟨r, a2, H2, e, hr, k0, k1, k6, wf2, old2, w, k9, o⟩ := @key A2 (by subst hA; exact g0) (by subst hA; exact g1) (by subst hA; exact g6) (by subst hA; rfl) (by subst hA; rfl) (by subst hA; rfl) (by subst hA; rfl)
        subst hr
        rw [e]
        have hv2 := hv.mono old2
        have oldp := Old.app H2 [.cells H2.length true [vi 1]]
        obtain ⟨k, hk⟩ : ∃ k : Nat, N - l.sum - l.length = (k : Int) := ⟨(N - l.sum - l.length).toNat, by omega⟩
        have e3 : IntKind.i64.wrap (N - l.sum) = N - l.sum := wr64 (by omega) (by omega)
        have e4 : IntKind.i64.wrap (N - l.sum - l.length) = (k : Int) := by rw [← hk]; exact wr64 (by omega) (by omega)
        obtain ⟨u, H3, s3, r3, old3, wf3⟩ := rep_run (B := H2.length) wf2 (Nat.le_refl _) k (by omega) n (by omega)
        obtain ⟨w4, H4, s4, o4, old4, wf4⟩ := (o.mono old3).app wf3 (by have := old2.1; have := old3.1; omega) r3 (by rw [ints_len, ints_len, List.length_map, List.length_replicate]; unfold maxA; omega)
        rw [← ints_app] at o4
        obtain ⟨H5, s5, o5, old5, wf5⟩ := sort_run o4 wf4 (by rw [List.length_append, List.length_map, List.length_replicate]; omega) n (by omega)
        simp (disch := omega) only [binS_sub, bindO_some, bindF_some, bindX_normal, blkX_exit, upd_at, Option.map_some, ↓reduceIte, Nat.reduceEqDiff, ↓bindO_some, ↓bindF_some, ↓bindX_normal, fin_r, res_nil, res_tmp, pack_2, scal_vi, k0, k1, k6, k9, hv2.lenI, e3, e4, s3, s4, s5, o5.R.scal]
        have er : stRow N l = l.map (· + 1) ++ List.replicate k 1 := by unfold stRow; rw [hk, Int.toNat_natCast]
        rw [er]
        exact ⟨_, _, rfl, o5, ((old2.trans (old3.mono old2.1)).trans old4).trans old5, wf5⟩
  · have hE : stE N l = 2 := by unfold stE; rw [if_pos (by omega), hok]; rfl
    have hL : stL N l = [] := by unfold stL; rw [hE, if_neg (by omega)]
    rw [hE, hL]
    simp (disch := omega) only [bindX_ret, blkX_ret, Option.map_some, ↓bindX_ret, fin_r, res_nil, res_tmp, pack_2, scal_vi, scal_nil, g4, g5]
    exact ⟨_, _, rfl, O.nil _ _, Old.refl _ _, hw⟩
end Go.Proofs.Ytmmgdgmjkhcfaaa
namespace Go.Proofs.Ytmmgdgmjkhcfaaa
open Go Go.Abs Go.Num
set_option maxRecDepth 10000
attribute [local congr] bindO_congr bindF_congr bindX_congr condX_congr iteB_congr binS_congr pickS_congr eqB_congr nilS_congr clsW_congr maxS_congr minS_congr
noncomputable def rsA1 : Code := atC [1,1,1,1,0,1,0,0] ((Try.f55.body).getD .skip)
theorem rs_in {H : Heap} {v : Value} {l : List Int} (hv : R H v (ints l)) (hl : l.length ≤ 40) {n : Nat} (hn : 1010 ≤ n) {N : Int} {A : Fr} (h1 : A 1 = v) (h6 : A 6 = .slice none 0 0) (h7 : A 7 = vi N) (h8 : A 8 = vi 0) (h9 : A 9 = vi (0 : Nat)) :
    ∃ r a' H2, loopN (evS Try.prog (evB Try.prog bC n) n Try.f55.ntmps none rsA1) n A H = some (r, a', H2) ∧ H2 = H ∧ ((r = .exit 0 ∧ stOk l = true ∧ a' 1 = v ∧ a' 6 = .slice none 0 0 ∧ a' 7 = vi N ∧ a' 8 = vi 0) ∨ (r = .ret ∧ stOk l = false ∧ a' 4 = .slice none 0 0 ∧ a' 5 = vi 2)) := by
  refine loop_up l.length (fun i a H' => H' = H ∧ a 1 = v ∧ a 6 = .slice none 0 0 ∧ a 7 = vi N ∧ a 8 = vi 0 ∧ a 9 = vi i ∧ ∀ j, j < i → goodO (l.getD j 0)) _ ?_ ?_ (by omega) ⟨rfl, h1, h6, h7, h8, h9, fun j hj => by omega⟩
  · intro i a H' hi ⟨hH, h1, h6, h7, h8, h9, hg⟩
    subst hH
    have hlt : (i : Int) < l.length := by omega
    have e1 : IntKind.i64.wrap ((i : Int) + 1) = ((i + 1 : Nat) : Int) := by rw [wr64 (by omega) (by omega)]; omega
    have s1 := within_runS (l.getD i 0) 0 20 H' n (by omega)
    rw [show rsA1 = atC [1,1,1,1,0,1,0,0] ((Try.f55.body).getD .skip) from rfl]
    by_cases hb : goodO (l.getD i 0)
    · left
      rw [decide_eq_true hb.1, decide_eq_true hb.2, Bool.and_self] at s1
      simp (disch := omega) only [Try.f55, Option.getD_some, atC, es_seq, es_region, es_cond, es_block, es_skip, ops_nil, ops_cons, st_move, st_assign, st_fun, sy_len uL, sy_addr eL, sy_load aI, sy_bin, st_not, binS_lss, binS_add, bindO_some, bindF_some, bindX_normal, blkX_normal, condX_true, condX_false, ev_tmp, ev_const, ev_func, putA, upd_at, Option.map_some, ↓reduceIte, Nat.reduceEqDiff, Int.toNat_natCast, List.map_cons, List.map_nil, decide_true, Bool.not_true, ↓bindO_some, ↓bindF_some, ↓bindX_normal, ↓condX_true, ↓condX_false, h1, h9, hlt, hv.lenI, hv.addrI, hv.loadI, s1, e1]
      refine ⟨_, _, rfl, rfl, h1, h6, h7, h8, rfl, fun j hj => ?_⟩
      by_cases hji : j = i
      · subst hji; exact hb
      · exact hg j (by omega)
    · right
      have hd : (decide (0 ≤ l.getD i 0) && decide (l.getD i 0 ≤ 20)) = false := by
        unfold goodO at hb
        by_cases h : 0 ≤ l.getD i 0
        · rw [decide_eq_false (by omega : ¬ l.getD i 0 ≤ 20), Bool.and_false]
        · rw [decide_eq_false h, Bool.false_and]
      rw [hd] at s1
      simp (disch := omega) only [Try.f55, Option.getD_some, atC, es_seq, es_region, es_cond, es_block, es_skip, es_ret, ops_nil, ops_cons, st_move, st_assign, st_fun, sy_len uL, sy_addr eL, sy_load aI, sy_bin, st_not, binS_lss, bindO_some, bindF_some, bindX_normal, bindX_ret, blkX_ret, condX_true, ev_tmp, ev_const, ev_func, putA, upd_at, Option.map_some, ↓reduceIte, Nat.reduceEqDiff, Int.toNat_natCast, List.map_cons, List.map_nil, decide_true, Bool.not_false, ↓bindO_some, ↓bindF_some, ↓bindX_normal, ↓bindX_ret, ↓condX_true, h1, h9, hlt, hv.lenI, hv.addrI, hv.loadI, s1]
      refine ⟨_, _, _, rfl, by simp, rfl, .inr ⟨rfl, ?_, rfl, rfl⟩⟩
      cases hs : stOk l with
      | false => rfl
      | true => exact absurd (stOk_at hs i hi) hb
  · intro a H' ⟨hH, h1, h6, h7, h8, h9, hg⟩
    subst hH
    rw [show rsA1 = atC [1,1,1,1,0,1,0,0] ((Try.f55.body).getD .skip) from rfl]
    simp (disch := omega) only [Try.f55, Option.getD_some, atC, es_seq, es_region, es_cond, es_exit, ops_nil, ops_cons, st_move, sy_len uL, sy_bin, binS_lss, bindO_some, bindF_some, bindX_normal, bindX_exit, condX_false, ev_tmp, putA, upd_at, Option.map_some, ↓reduceIte, Nat.reduceEqDiff, decide_false, ↓bindO_some, ↓bindF_some, ↓bindX_normal, ↓bindX_exit, ↓condX_false, h1, h9, hv.lenI, Int.lt_irrefl]
    exact ⟨_, _, _, rfl, by simp, rfl, .inl ⟨rfl, stOk_true hg, h1, h6, h7, h8⟩⟩
noncomputable def rsA2 : Code := atC [1,1,1,1,1,0,1,0,0] ((Try.f55.body).getD .skip)
theorem rs_left {H : Heap} {v : Value} {l : List Int} (hw : WF H) (hv : R H v (ints l)) (hl : l.length ≤ 40) (hok : stOk l = true) {n : Nat} (hn : 1010 ≤ n) {N : Int} (hN : 1 ≤ N ∧ N ≤ 20) {A : Fr} (h1 : A 1 = v) (h6 : A 6 = .slice none 0 0) (h7 : A 7 = vi N) (h8 : A 8 = vi 0) (h10 : A 10 = vi (0 : Nat)) :
    ∃ r a' H2, loopN (evS Try.prog (evB Try.prog bC n) n Try.f55.ntmps none rsA2) n A H = some (r, a', H2) ∧ r = .exit 2 ∧ a' 1 = v ∧ a' 8 = vi 0 ∧ WF H2 ∧ Old H.length H H2 ∧ ((N < l.sum + l.length ∧ ∃ z, a' 7 = vi z ∧ z < 0) ∨ (¬ N < l.sum + l.length ∧ a' 7 = vi (N - l.sum - l.length) ∧ ∃ w, a' 6 = w ∧ O H.length H2 w (ints (l.map (· + 1))))) := by
  refine loop_up l.length (fun i a H' => a 1 = v ∧ a 7 = vi (N - (l.take i).sum - i) ∧ a 8 = vi 0 ∧ a 10 = vi i ∧ WF H' ∧ Old H.length H H' ∧ ∃ w, a 6 = w ∧ O H.length H' w (ints ((l.take i).map (· + 1)))) _ ?_ ?_ (by omega) ⟨h1, by rw [h7]; simp, h8, h10, hw, Old.refl _ _, _, h6, O.nil _ _⟩
  · intro i a H' hi ⟨h1, h7, h8, h10, wf, old, w, h6, o⟩
    have hlt : (i : Int) < l.length := by omega
    have hvR := hv.mono old
    have e1 : IntKind.i64.wrap ((i : Int) + 1) = ((i + 1 : Nat) : Int) := by rw [wr64 (by omega) (by omega)]; omega
    have hb := stOk_at hok i hi
    unfold goodO at hb
    have hs := stOk_sum hok i
    have hs2 := stOk_le hok
    rw [show rsA2 = atC [1,1,1,1,1,0,1,0,0] ((Try.f55.body).getD .skip) from rfl]
    by_cases c1 : 0 ≤ N - (l.take i).sum - i
    · left
      have c2 : N - (l.take i).sum - (i : Int) ≥ 0 := c1
      have e2 : IntKind.i64.wrap (l.getD i 0 + 1) = l.getD i 0 + 1 := wr64 (by omega) (by omega)
      have e3 : IntKind.i64.wrap (N - (l.take i).sum - i - l.getD i 0) = N - (l.take i).sum - i - l.getD i 0 := wr64 (by omega) (by omega)
      have e4 : IntKind.i64.wrap (N - (l.take i).sum - i - l.getD i 0 - 1) = N - (l.take (i + 1)).sum - ((i + 1 : Nat) : Int) := by rw [sum_take_succ hi, wr64 (by omega) (by omega)]; omega
      obtain ⟨w3, H3, s3, o3, old3, wf3⟩ := o.pushI wf old.1 (by rw [List.length_map, List.length_take]; unfold maxA; omega) (l.getD i 0 + 1)
      have hvR3 := hv.mono (old.trans old3)
      simp (disch := omega) only [Try.f55, Option.getD_some, atC, es_seq, es_region, es_cond, es_block, es_skip, ops_nil, ops_cons, ops_consG, st_move, st_assign, sy_pick, pickS_true, sy_len uL, sy_addr eL, sy_load aI, sy_bin, sy_append eL pI, sy_build1 eL oI, binS_lss, binS_geq, binS_add, binS_sub, bindO_some, bindF_some, bindX_normal, blkX_normal, condX_true, iteB_true, ev_tmp, ev_const, putA, upd_at, Option.map_some, ↓reduceIte, Nat.reduceEqDiff, Int.toNat_natCast, decide_true, yieldO_eq, yO, yV_bool, List.getElem?_cons_zero, List.getElem?_cons_succ, beq_self_eq_true, ↓bindO_some, ↓bindF_some, ↓bindX_normal, ↓condX_true, ↓iteB_true, scal_vi, h1, h6, h7, h10, hlt, hvR.lenI, hvR.addrI, hvR.loadI, c1, e1, e2, s3, hvR3.loadI, e3, e4]
      exact ⟨_, _, rfl, h1, rfl, h8, rfl, wf3, old.trans old3, w3, rfl, by rw [map_take_snoc hi]; exact o3⟩
    · right
      have c2 : ¬ N - (l.take i).sum - (i : Int) ≥ 0 := c1
      simp (disch := omega) only [Try.f55, Option.getD_some, atC, es_seq, es_region, es_cond, es_exit, ops_nil, ops_cons, ops_consG, st_move, sy_pick, pickS_true, sy_len uL, sy_bin, binS_lss, binS_geq, bindO_some, bindF_some, bindX_normal, bindX_exit, condX_false, iteB_true, ev_tmp, ev_const, putA, upd_at, Option.map_some, ↓reduceIte, Nat.reduceEqDiff, decide_true, decide_false, yieldO_eq, yO, yV_bool, List.getElem?_cons_zero, List.getElem?_cons_succ, beq_self_eq_true, ↓bindO_some, ↓bindF_some, ↓bindX_normal, ↓bindX_exit, ↓condX_false, ↓iteB_true, h1, h7, h10, hlt, hvR.lenI, c1]
      exact ⟨_, _, _, rfl, by simp, rfl, h1, h8, wf, old, .inl ⟨by omega, _, h7, by omega⟩⟩
  · intro a H' ⟨h1, h7, h8, h10, wf, old, w, h6, o⟩
    have hvR := hv.mono old
    rw [show rsA2 = atC [1,1,1,1,1,0,1,0,0] ((Try.f55.body).getD .skip) from rfl]
    simp (disch := omega) only [Try.f55, Option.getD_some, atC, es_seq, es_region, es_cond, es_exit, ops_nil, ops_cons, ops_consG, st_move, sy_pick, pickS_false, sy_len uL, sy_bin, binS_lss, bindO_some, bindF_some, bindX_normal, bindX_exit, condX_false, iteB_false, ev_tmp, ev_const, putA, upd_at, Option.map_some, ↓reduceIte, Nat.reduceEqDiff, decide_false, yieldO_eq, yO, yV_bool, some_true, List.getElem?_cons_zero, List.getElem?_cons_succ, ↓bindO_some, ↓bindF_some, ↓bindX_normal, ↓bindX_exit, ↓condX_false, ↓iteB_false, h1, h10, hvR.lenI, Int.lt_irrefl]
    rw [List.take_length] at o h7
    by_cases c : N < l.sum + l.length
    · exact ⟨_, _, _, rfl, by simp, rfl, h1, h8, wf, old, .inl ⟨c, _, h7, by omega⟩⟩
    · exact ⟨_, _, _, rfl, by simp, rfl, h1, h8, wf, old, .inr ⟨c, h7, w, h6, o⟩⟩
noncomputable def rsA3 : Code := atC [1,1,1,1,1,1,1,0,1,0,0] ((Try.f55.body).getD .skip)
theorem rs_sum {H : Heap} {v w : Value} {l : List Int} (hv : R H v (ints l)) (hl : l.length ≤ 40) (hok : stOk l = true) {n : Nat} (hn : 1010 ≤ n) {N : Int} {A : Fr} (h1 : A 1 = v) (h6 : A 6 = w) (h7 : A 7 = vi N) (h8 : A 8 = vi 0) (h11 : A 11 = vi (0 : Nat)) :
    ∃ r a' H2, loopN (evS Try.prog (evB Try.prog bC n) n Try.f55.ntmps none rsA3) n A H = some (r, a', H2) ∧ H2 = H ∧ r = .exit 4 ∧ a' 6 = w ∧ a' 7 = vi N ∧ a' 8 = vi l.sum := by
  refine loop_up l.length (fun i a H' => H' = H ∧ a 1 = v ∧ a 6 = w ∧ a 7 = vi N ∧ a 8 = vi (l.take i).sum ∧ a 11 = vi i) _ ?_ ?_ (by omega) ⟨rfl, h1, h6, h7, by rw [h8]; rfl, h11⟩
  · intro i a H' hi ⟨hH, h1, h6, h7, h8, h11⟩
    subst hH
    left
    have hlt : (i : Int) < l.length := by omega
    have e1 : IntKind.i64.wrap ((i : Int) + 1) = ((i + 1 : Nat) : Int) := by rw [wr64 (by omega) (by omega)]; omega
    have hs := stOk_sum hok (i + 1)
    have hs2 := stOk_le hok
    have e2 : IntKind.i64.wrap ((l.take i).sum + l.getD i 0) = (l.take (i + 1)).sum := by rw [← sum_take_succ hi]; exact wr64 (by omega) (by omega)
    rw [show rsA3 = atC [1,1,1,1,1,1,1,0,1,0,0] ((Try.f55.body).getD .skip) from rfl]
    simp (disch := omega) only [Try.f55, Option.getD_some, atC, es_seq, es_region, es_cond, es_block, es_skip, ops_nil, ops_cons, st_move, st_assign, sy_len uL, sy_addr eL, sy_load aI, sy_bin, binS_lss, binS_add, bindO_some, bindF_some, bindX_normal, blkX_normal, condX_true, ev_tmp, ev_const, putA, upd_at, Option.map_some, ↓reduceIte, Nat.reduceEqDiff, Int.toNat_natCast, decide_true, ↓bindO_some, ↓bindF_some, ↓bindX_normal, ↓condX_true, h1, h8, h11, hlt, hv.lenI, hv.addrI, hv.loadI, e1, e2]
    exact ⟨_, _, rfl, rfl, h1, h6, h7, rfl, rfl⟩
  · intro a H' ⟨hH, h1, h6, h7, h8, h11⟩
    subst hH
    rw [show rsA3 = atC [1,1,1,1,1,1,1,0,1,0,0] ((Try.f55.body).getD .skip) from rfl]
    simp (disch := omega) only [Try.f55, Option.getD_some, atC, es_seq, es_region, es_cond, es_exit, ops_nil, ops_cons, st_move, sy_len uL, sy_bin, binS_lss, bindO_some, bindF_some, bindX_normal, bindX_exit, condX_false, ev_tmp, putA, upd_at, Option.map_some, ↓reduceIte, Nat.reduceEqDiff, decide_false, ↓bindO_some, ↓bindF_some, ↓bindX_normal, ↓bindX_exit, ↓condX_false, h1, h11, hv.lenI, Int.lt_irrefl]
    rw [List.take_length] at h8
    exact ⟨_, _, _, rfl, by simp, rfl, rfl, h6, h7, h8⟩
noncomputable def rsA4 : Code := atC [1,1,1,1,1,1,1,1,1,0,1,0,0] ((Try.f55.body).getD .skip)
theorem rs_ones {B : Nat} {H : Heap} {w : Value} {m : List Int} (hw : WF H) (hB : B ≤ H.length) (ho : O B H w (ints m)) (hm : m.length ≤ 40) {k : Nat} (hk : k ≤ 20) {n : Nat} (hn : 1010 ≤ n) {A : Fr} (h6 : A 6 = w) (h7 : A 7 = vi k) (h12 : A 12 = vi (0 : Nat)) :
    ∃ r a' H2, loopN (evS Try.prog (evB Try.prog bC n) n Try.f55.ntmps none rsA4) n A H = some (r, a', H2) ∧ r = .exit 6 ∧ WF H2 ∧ Old B H H2 ∧ ∃ w, a' 6 = w ∧ O B H2 w (ints (m ++ List.replicate k 1)) := by
  refine loop_up k (fun i a H' => a 7 = vi k ∧ a 12 = vi i ∧ WF H' ∧ Old B H H' ∧ ∃ w, a 6 = w ∧ O B H' w (ints (m ++ List.replicate i 1))) _ ?_ ?_ (by omega) ⟨h7, h12, hw, Old.refl _ _, w, h6, by rw [List.replicate_zero, List.append_nil]; exact ho⟩
  · intro i a H' hi ⟨h7, h12, wf, old, w, h6, o⟩
    left
    have hlt : (i : Int) < k := by omega
    have e1 : IntKind.i64.wrap ((i : Int) + 1) = ((i + 1 : Nat) : Int) := by rw [wr64 (by omega) (by omega)]; omega
    obtain ⟨w3, H3, s3, o3, old3, wf3⟩ := o.pushI wf (Nat.le_trans hB old.1) (by rw [List.length_append, List.length_replicate]; unfold maxA; omega) 1
    rw [List.append_assoc, ← List.replicate_succ'] at o3
    rw [show rsA4 = atC [1,1,1,1,1,1,1,1,1,0,1,0,0] ((Try.f55.body).getD .skip) from rfl]
    simp (disch := omega) only [Try.f55, Option.getD_some, atC, es_seq, es_region, es_cond, es_block, es_skip, ops_nil, ops_cons, st_move, st_assign, sy_bin, sy_append eL pI, sy_build1 eL oI, binS_lss, binS_add, bindO_some, bindF_some, bindX_normal, blkX_normal, condX_true, ev_tmp, ev_const, putA, upd_at, ↓reduceIte, Nat.reduceEqDiff, decide_true, ↓bindO_some, ↓bindF_some, ↓bindX_normal, ↓condX_true, scal_vi, h6, h7, h12, hlt, e1, s3]
    exact ⟨_, _, rfl, h7, rfl, wf3, old.trans old3, w3, rfl, o3⟩
  · intro a H' ⟨h7, h12, wf, old, w, h6, o⟩
    rw [show rsA4 = atC [1,1,1,1,1,1,1,1,1,0,1,0,0] ((Try.f55.body).getD .skip) from rfl]
    simp (disch := omega) only [Try.f55, Option.getD_some, atC, es_seq, es_region, es_cond, es_exit, ops_nil, ops_cons, st_move, sy_bin, binS_lss, bindO_some, bindF_some, bindX_normal, bindX_exit, condX_false, ev_tmp, putA, upd_at, ↓reduceIte, Nat.reduceEqDiff, decide_false, ↓bindO_some, ↓bindF_some, ↓bindX_normal, ↓bindX_exit, ↓condX_false, h7, h12, Int.lt_irrefl]
    exact ⟨_, _, _, rfl, by simp, rfl, wf, old, w, h6, o⟩
theorem rstratum_run {H : Heap} {v : Value} {l : List Int} {N : Int} (hw : WF H) (hv : R H v (ints l)) (hl : l.length ≤ 40) (n : Nat) (hn : 1100 ≤ n) :
    OneT H (evB Try.prog bC n (.func (.func 55) #[] #[]) [vi N, v] H) (fun u => .tuple #[u, vi (stE N l)]) (stL N l) := by
  refine run_ofB (F := 1099) (Q := fun r => OneT H r (fun u => .tuple #[u, vi (stE N l)]) (stL N l)) (fun n hn => ?_) n hn
  rw [body_runS Try.func55 rfl (ok_fn (by rfl) Try.func55 rfl) (Nat.le_of_ble_eq_true rfl) (D := D0) (by kernel_rfl)]
  have s1 := within_runS N 1 20 H n (by omega)
  by_cases c1 : 1 ≤ N ∧ N ≤ 20
  · rw [decide_eq_true c1.1, decide_eq_true c1.2, Bool.and_self] at s1
    have key := @rs_in H v l hv hl n (by omega) N
    rw [show rsA1 = atC [1,1,1,1,0,1,0,0] ((Try.f55.body).getD .skip) from rfl] at key
    simp only [Try.f55, Option.getD_some, atC] at key
    simp (disch := omega) only [Try.f55, es_seq, es_region, es_cond, es_block, es_loop, es_skip, es_ret, ops_nil, ops_cons, st_move, st_assign, st_fun, sy_bin, st_not, bindO_some, bindF_some, bindX_normal, condX_false, ev_tmp, ev_const, ev_func, putA, upd_at, ↓reduceIte, Nat.reduceEqDiff, frOf_0, List.map_cons, List.map_nil, Bool.not_true, ↓bindO_some, ↓bindF_some, ↓bindX_normal, ↓condX_false, s1]
    generalize hA : upd _ 9 _ = A
    obtain ⟨r, a1, H1, e, hH, h⟩ := @key A (by subst hA; rfl) (by subst hA; rfl) (by subst hA; rfl) (by subst hA; rfl) (by subst hA; rfl)
    subst hH
    rw [e]
    rcases h with ⟨rfl, hok, g1, g6, g7, g8⟩ | ⟨rfl, hok, g4, g5⟩
    · have hs := stOk_sum hok l.length
      rw [List.take_length] at hs
      have hle := stOk_le hok
      have key2 := @rs_left H1 v l hw hv hl hok n (by omega) N c1
      rw [show rsA2 = atC [1,1,1,1,1,0,1,0,0] ((Try.f55.body).getD .skip) from rfl] at key2
      simp only [Try.f55, Option.getD_some, atC] at key2
      simp (disch := omega) only [bindX_normal, blkX_exit, ↓reduceIte, ↓bindX_normal]
      generalize hA2 : upd _ 10 _ = A2
      obtain ⟨r, a2, H2, e, hr, k1, k8, wf2, old2, h⟩ := @key2 A2 (by subst hA2; exact g1) (by subst hA2; exact g6) (by subst hA2; exact g7) (by subst hA2; exact g8) (by subst hA2; rfl)
      subst hr
      rw [e]
      rcases h with ⟨c, z, k7, hz⟩ | ⟨c, k7, w, k6, o⟩
      · have hE : stE N l = 10 := by unfold stE; rw [if_pos c1, if_pos hok, if_pos c]
        have hL : stL N l = [] := by unfold stL; rw [hE, if_neg (by omega)]
        rw [hE, hL]
        simp (disch := omega) only [binS_lss, bindO_some, bindF_some, bindX_normal, bindX_ret, blkX_exit, condX_true, upd_at, Option.map_some, ↓reduceIte, Nat.reduceEqDiff, decide_true, ↓bindO_some, ↓bindF_some, ↓bindX_normal, ↓bindX_ret, ↓condX_true, fin_r, res_nil, res_tmp, pack_2, scal_vi, scal_nil, k7, hz]
        exact ⟨_, _, rfl, O.nil _ _, old2, wf2⟩
      · have hv2 := hv.mono old2
        have c3 : ¬ N - l.sum - (l.length : Int) < 0 := by omega
        have key3 := @rs_sum H2 v w l hv2 hl hok n (by omega) (N - l.sum - l.length)
        rw [show rsA3 = atC [1,1,1,1,1,1,1,0,1,0,0] ((Try.f55.body).getD .skip) from rfl] at key3
        simp only [Try.f55, Option.getD_some, atC] at key3
        simp (disch := omega) only [binS_lss, bindO_some, bindF_some, bindX_normal, blkX_exit, condX_false, upd_at, ↓reduceIte, decide_false, ↓bindO_some, ↓bindF_some, ↓bindX_normal, ↓condX_false, k7, c3]
        generalize hA3 : upd _ 11 _ = A3
        obtain ⟨r, a3, H3, e, hH, hr, m6, m7, m8⟩ := @key3 A3 (by subst hA3; exact k1) (by subst hA3; exact k6) (by subst hA3; exact k7) (by subst hA3; exact k8) (by subst hA3; rfl)
        subst hr
        subst hH
        rw [e]
        have e2 : Int.tmod l.sum 2 = l.sum % 2 := tmod_pos hs.1 2
        by_cases c6 : l.sum % 2 = 1
        · have hE : stE N l = 3 := by unfold stE; rw [if_pos c1, if_pos hok, if_neg c, if_pos c6]
          have hL : stL N l = [] := by unfold stL; rw [hE, if_neg (by omega)]
          have c7 : decide (l.sum % 2 = 0) = false := decide_eq_false (by omega)
          rw [hE, hL]
          simp (disch := omega) only [binS_neq, binS_rem, bindO_some, bindF_some, bindX_normal, bindX_ret, blkX_exit, condX_true, upd_at, Option.map_some, ↓reduceIte, Nat.reduceEqDiff, Bool.not_false, ↓bindO_some, ↓bindF_some, ↓bindX_normal, ↓bindX_ret, ↓condX_true, fin_r, res_nil, res_tmp, pack_2, scal_vi, scal_nil, m8, e2, c7]
          exact ⟨_, _, rfl, O.nil _ _, old2, wf2⟩
        · have hE : stE N l = 0 := by unfold stE; rw [if_pos c1, if_pos hok, if_neg c, if_neg c6]
          have hL : stL N l = fallS (stRow N l) := by unfold stL; rw [hE, if_pos rfl]
          have c7 : decide (l.sum % 2 = 0) = true := decide_eq_true (by omega)
          rw [hE, hL]
          obtain ⟨k, hk⟩ : ∃ k : Nat, N - l.sum - l.length = (k : Int) := ⟨(N - l.sum - l.length).toNat, by omega⟩
          rw [hk] at m7
          have key4 := @rs_ones H1.length H3 w (l.map (· + 1)) wf2 old2.1 o (by rw [List.length_map]; omega) k (by omega) n (by omega)
          rw [show rsA4 = atC [1,1,1,1,1,1,1,1,1,0,1,0,0] ((Try.f55.body).getD .skip) from rfl] at key4
          simp only [Try.f55, Option.getD_some, atC] at key4
          simp (disch := omega) only [binS_neq, binS_rem, bindO_some, bindF_some, bindX_normal, blkX_exit, condX_false, upd_at, ↓reduceIte, Bool.not_true, ↓bindO_some, ↓bindF_some, ↓bindX_normal, ↓condX_false, m8, e2, c7]
          generalize hA4 : upd _ 12 _ = A4
          obtain ⟨r, a4, H4, e, hr, wf4, old4, w4, j6, o4⟩ := @key4 A4 (by subst hA4; exact m6) (by subst hA4; exact m7) (by subst hA4; rfl)
          subst hr
          rw [e]
          obtain ⟨w5, H5, s5, o5, old5, wf5⟩ := falling_run wf4 o4.R (by rw [List.length_append, List.length_map, List.length_replicate]; omega) n (by omega)
          rw [fallI_eq] at o5
          have er : stRow N l = l.map (· + 1) ++ List.replicate k 1 := by unfold stRow; rw [hk, Int.toNat_natCast]
          rw [er]
          simp (disch := omega) only [bindO_some, bindF_some, bindX_normal, blkX_exit, upd_at, Option.map_some, ↓reduceIte, Nat.reduceEqDiff, ↓bindO_some, ↓bindF_some, ↓bindX_normal, fin_r, res_nil, res_tmp, pack_2, scal_vi, j6, s5, o5.R.scal]
          have h24 := old2.trans old4
          exact ⟨_, _, rfl, o5.below h24.1, h24.trans (old5.mono h24.1), wf5⟩
    · have hE : stE N l = 2 := by unfold stE; rw [if_pos c1, hok]; rfl
      have hL : stL N l = [] := by unfold stL; rw [hE, if_neg (by omega)]
      rw [hE, hL]
      simp (disch := omega) only [bindX_ret, blkX_ret, Option.map_some, ↓bindX_ret, fin_r, res_nil, res_tmp, pack_2, scal_vi, scal_nil, g4, g5]
      exact ⟨_, _, rfl, O.nil _ _, Old.refl _ _, hw⟩
  · have hd : (decide (1 ≤ N) && decide (N ≤ 20)) = false := by
      by_cases h : 1 ≤ N
      · rw [decide_eq_false (by omega : ¬ N ≤ 20), Bool.and_false]
      · rw [decide_eq_false h, Bool.false_and]
    rw [hd] at s1
    have hE : stE N l = 2 := by unfold stE; rw [if_neg c1]
    have hL : stL N l = [] := by unfold stL; rw [hE, if_neg (by omega)]
    rw [hE, hL]
    simp (disch := omega) only [Try.f55, es_seq, es_region, es_cond, es_ret, ops_nil, ops_cons, st_move, st_assign, st_fun, st_not, bindO_some, bindF_some, bindX_normal, bindX_ret, condX_true, ev_tmp, ev_const, ev_func, putA, upd_at, Option.map_some, ↓reduceIte, Nat.reduceEqDiff, frOf_0, List.map_cons, List.map_nil, Bool.not_false, ↓bindO_some, ↓bindF_some, ↓bindX_normal, ↓bindX_ret, ↓condX_true, fin_r, res_nil, res_tmp, pack_2, scal_vi, scal_nil, s1]
    exact ⟨_, _, rfl, O.nil _ _, Old.refl _ _, hw⟩
end Go.Proofs.Ytmmgdgmjkhcfaaa
namespace Go.Proofs.Ytmmgdgmjkhcfaaa
open Go Go.Abs Go.Num
set_option maxRecDepth 10000
attribute [local congr] bindO_congr bindF_congr bindX_congr condX_congr iteB_congr binS_congr pickS_congr eqB_congr nilS_congr clsW_congr maxS_congr minS_congr
theorem ord_take_snoc {l : List Int} {i : Nat} (hi : i < l.length) : ordL (l.take (i + 1)) = ordL (l.take i) ++ [l.getD i 0 - 1] := by
  unfold ordL
  rw [List.take_succ_eq_append_getElem hi, List.map_append]
  simp [hi]
noncomputable def odA : Code := atC [1,1,1,0,1,0,0] ((Try.f56.body).getD .skip)
theorem orders_run {H : Heap} {v : Value} {l : List Int} (hw : WF H) (hv : R H v (ints l)) (hc : chk l = 0) (n : Nat) (hn : 1100 ≤ n) :
    OneT H (evB Try.prog bC n (.func (.func 56) #[] #[]) [v] H) (fun u => .tuple #[u, vi 0]) (ordL l) := by
  refine run_ofB (F := 1099) (Q := fun r => OneT H r (fun u => .tuple #[u, vi 0]) (ordL l)) (fun n hn => ?_) n hn
  rw [body_runS Try.func56 rfl (ok_fn (by rfl) Try.func56 rfl) (Nat.le_of_ble_eq_true rfl) (D := D0) (by kernel_rfl)]
  have hp := chk_part hc
  have hl := hp.len
  have s0 := ccheck_run hv (by omega) n (by omega)
  rw [hc] at s0
  have c1 : decide ((0 : Int) = 0) = true := rfl
  have key : ∀ A : Fr, A 5 = .slice none 0 0 → A 13 = v → A 14 = vi l.length → A 15 = vi (0 : Nat) → ∃ r a' H2, loopN (evS Try.prog (evB Try.prog bC n) n Try.f56.ntmps none odA) n A H = some (r, a', H2) ∧ r = .exit 0 ∧ WF H2 ∧ Old H.length H H2 ∧ ∃ w, a' 5 = w ∧ O H.length H2 w (ints (ordL l)) := by
    intro A h5 h13 h14 h15
    refine loop_up l.length (fun i a H' => a 13 = v ∧ a 14 = vi l.length ∧ a 15 = vi i ∧ WF H' ∧ Old H.length H H' ∧ ∃ w, a 5 = w ∧ O H.length H' w (ints (ordL (l.take i)))) _ ?_ ?_ (by omega) ⟨h13, h14, h15, hw, Old.refl _ _, _, h5, O.nil _ _⟩
    · intro i a H' hi ⟨h13, h14, h15, wf, old, w, h5, o⟩
      left
      have hlt : (i : Int) < l.length := by omega
      have hvR := hv.mono old
      have e1 : IntKind.i64.wrap ((i : Int) + 1) = ((i + 1 : Nat) : Int) := by rw [wr64 (by omega) (by omega)]; omega
      have hb := hp.getD hi
      have e2 : IntKind.i64.wrap (l.getD i 0 - 1) = l.getD i 0 - 1 := wr64 (by omega) (by omega)
      obtain ⟨w3, H3, s3, o3, old3, wf3⟩ := o.pushI wf old.1 (by rw [ordL_len, List.length_take]; unfold maxA; omega) (l.getD i 0 - 1)
      rw [show odA = atC [1,1,1,0,1,0,0] ((Try.f56.body).getD .skip) from rfl]
      simp (disch := omega) only [Try.f56, Option.getD_some, atC, es_seq, es_region, es_cond, es_block, es_skip, ops_nil, ops_cons, st_move, st_assign, sy_addr eL, sy_load aI, sy_bin, sy_append eL pI, sy_build1 eL oI, binS_lss, binS_add, binS_sub, bindO_some, bindF_some, bindX_normal, blkX_normal, condX_true, ev_tmp, ev_const, putA, upd_at, Option.map_some, ↓reduceIte, Nat.reduceEqDiff, Int.toNat_natCast, decide_true, ↓bindO_some, ↓bindF_some, ↓bindX_normal, ↓condX_true, scal_vi, h5, h13, h14, h15, hlt, hvR.addrI, hvR.loadI, e1, e2, s3]
      exact ⟨_, _, rfl, h13, h14, rfl, wf3, old.trans old3, w3, rfl, by rw [ord_take_snoc hi]; exact o3⟩
    · intro a H' ⟨h13, h14, h15, wf, old, w, h5, o⟩
      rw [show odA = atC [1,1,1,0,1,0,0] ((Try.f56.body).getD .skip) from rfl]
      simp (disch := omega) only [Try.f56, Option.getD_some, atC, es_seq, es_region, es_cond, es_exit, ops_nil, ops_cons, sy_bin, binS_lss, bindO_some, bindF_some, bindX_normal, bindX_exit, condX_false, ev_tmp, putA, upd_at, ↓reduceIte, decide_false, ↓bindO_some, ↓bindF_some, ↓bindX_normal, ↓bindX_exit, ↓condX_false, h14, h15, Int.lt_irrefl]
      rw [List.take_length] at o
      exact ⟨_, _, _, rfl, by simp, rfl, wf, old, w, h5, o⟩
  rw [show odA = atC [1,1,1,0,1,0,0] ((Try.f56.body).getD .skip) from rfl] at key
  simp only [Try.f56, Option.getD_some, atC] at key
  simp (disch := omega) only [Try.f56, es_seq, es_region, es_cond, es_block, es_loop, es_skip, es_ret, ops_nil, ops_cons, st_move, st_assign, st_fun, sy_len uL, sy_bin, binS_neq, bindO_some, bindF_some, bindX_normal, condX_false, ev_tmp, ev_const, ev_func, putA, upd_at, Option.map_some, ↓reduceIte, Nat.reduceEqDiff, frOf_0, List.map_cons, List.map_nil, decide_true, Bool.not_true, ↓bindO_some, ↓bindF_some, ↓bindX_normal, ↓condX_false, s0, hv.lenI]
  generalize hA : upd _ 15 _ = A
  obtain ⟨r, a', H2, e, hr, wf2, old2, w, h5, o⟩ := key A (by subst hA; rfl) (by subst hA; rfl) (by subst hA; rfl) (by subst hA; rfl)
  subst hr
  rw [e]
  simp (disch := omega) only [bindX_normal, blkX_exit, upd_at, Option.map_some, ↓reduceIte, Nat.reduceEqDiff, ↓bindX_normal, fin_r, res_nil, res_tmp, pack_2, scal_vi, h5, o.R.scal]
  exact ⟨_, _, rfl, o, old2, wf2⟩
theorem orders_bad {H : Heap} {v : Value} {l : List Int} (hv : R H v (ints l)) (hl : l.length ≤ 1000) (hc : chk l ≠ 0) (n : Nat) (hn : 1100 ≤ n) :
    evB Try.prog bC n (.func (.func 56) #[] #[]) [v] H = some (.tuple #[.slice none 0 0, vi (chk l)], H) := by
  refine run_ofB (F := 1099) (Q := fun r => r = some (.tuple #[.slice none 0 0, vi (chk l)], H)) (fun n hn => ?_) n hn
  rw [body_runS Try.func56 rfl (ok_fn (by rfl) Try.func56 rfl) (Nat.le_of_ble_eq_true rfl) (D := D0) (by kernel_rfl)]
  have s0 := ccheck_run hv hl n (by omega)
  have c1 : decide (chk l = 0) = false := decide_eq_false hc
  simp (disch := omega) only [Try.f56, es_seq, es_region, es_cond, es_ret, ops_nil, ops_cons, st_move, st_assign, st_fun, sy_bin, binS_neq, bindO_some, bindF_some, bindX_normal, bindX_ret, condX_true, ev_tmp, ev_const, ev_func, putA, upd_at, Option.map_some, ↓reduceIte, Nat.reduceEqDiff, frOf_0, List.map_cons, List.map_nil, Bool.not_false, ↓bindO_some, ↓bindF_some, ↓bindX_normal, ↓bindX_ret, ↓condX_true, fin_r, res_nil, res_tmp, pack_2, scal_vi, scal_nil, s0, c1]
theorem ord_sm {l : List Int} (hp : Part l) : Sm (ordL l) := by
  refine ⟨by rw [ordL_len]; have := hp.len; omega, fun x hx => ?_⟩
  unfold ordL at hx
  obtain ⟨y, hy, rfl⟩ := List.mem_map.1 hx
  have := hp.mem y hy; omega
theorem partSm {l : List Int} (hp : Part l) : Sm l := ⟨by have := hp.len; omega, fun x hx => by have := hp.mem x hx; omega⟩
theorem genus_run {H : Heap} {v : Value} {l : List Int} (hw : WF H) (hv : R H v (ints l)) (hc : chk l = 0) (n : Nat) (hn : 1200 ≤ n) :
    ∃ H', evB Try.prog bC n (.func (.func 57) #[] #[]) [v] H = some (.tuple #[vi (genV l), vi (genE l)], H') ∧ Old H.length H H' ∧ WF H' := by
  refine run_ofB (F := 1199) (Q := fun r => ∃ H', r = some (.tuple #[vi (genV l), vi (genE l)], H') ∧ Old H.length H H' ∧ WF H') (fun n hn => ?_) n hn
  rw [body_runS Try.func57 rfl (ok_fn (by rfl) Try.func57 rfl) (Nat.le_of_ble_eq_true rfl) (D := D0) (by kernel_rfl)]
  have hp := chk_part hc
  have h0 := part_sum_len hp
  have h1 := hp.sum
  have h2 := hp.len
  obtain ⟨w, H1, s1, o1, old1, wf1⟩ := orders_run hw hv hc n (by omega)
  have s2 := csize_run o1.R (ord_sm hp) n (by omega)
  rw [ordL_sum] at s2
  have c0 : decide ((0 : Int) = 0) = true := rfl
  have e2 : Int.tmod (l.sum - l.length) 2 = (l.sum - l.length) % 2 := tmod_pos h0 2
  unfold genV genE
  by_cases h : (l.sum - l.length) % 2 = 1
  · have c1 : decide ((l.sum - l.length) % 2 = 1) = true := decide_eq_true h
    rw [if_pos h, if_pos h]
    simp (disch := omega) only [Try.f57, es_seq, es_region, es_cond, es_block, es_ret, ops_nil, ops_cons, st_move, st_assign, st_fun, sy_bin, sy_ext, ext_20, ext_21, binS_eql, binS_neq, binS_rem, bindO_some, bindF_some, bindX_normal, bindX_ret, blkX_ret, condX_true, condX_false, ev_tmp, ev_const, ev_func, putA, upd_at, Option.map_some, ↓reduceIte, Nat.reduceEqDiff, frOf_0, List.map_cons, List.map_nil, decide_true, Bool.not_true, ↓bindO_some, ↓bindF_some, ↓bindX_normal, ↓bindX_ret, ↓condX_true, ↓condX_false, fin_r, res_nil, res_tmp, pack_2, scal_vi, s1, s2, e2, c1]
    exact ⟨_, rfl, old1, wf1⟩
  · have c1 : decide ((l.sum - l.length) % 2 = 1) = false := decide_eq_false h
    have e3 : Int.tdiv (l.sum - l.length) 2 = (l.sum - l.length) / 2 := tdiv_pos h0 2
    have e4 : IntKind.i64.wrap ((l.sum - l.length) / 2) = (l.sum - l.length) / 2 := wr64 (by omega) (by omega)
    have e5 : IntKind.i64.wrap (1 + (l.sum - l.length) / 2) = 1 + (l.sum - l.length) / 2 := wr64 (by omega) (by omega)
    rw [if_neg h, if_neg h]
    simp (disch := omega) only [Try.f57, es_seq, es_region, es_cond, es_block, es_skip, es_ret, ops_nil, ops_cons, st_move, st_assign, st_fun, sy_bin, sy_ext, ext_20, ext_21, binS_eql, binS_neq, binS_add, binS_quo, binS_rem, bindO_some, bindF_some, bindX_normal, blkX_normal, condX_false, ev_tmp, ev_const, ev_func, putA, upd_at, Option.map_some, ↓reduceIte, Nat.reduceEqDiff, frOf_0, List.map_cons, List.map_nil, decide_true, Bool.not_true, ↓bindO_some, ↓bindF_some, ↓bindX_normal, ↓condX_false, fin_r, res_nil, res_tmp, pack_2, scal_vi, s1, s2, e2, c1, e3, e4, e5]
    exact ⟨_, rfl, old1, wf1⟩
theorem genus_bad {H : Heap} {v : Value} {l : List Int} (hv : R H v (ints l)) (hl : l.length ≤ 1000) (hc : chk l ≠ 0) (n : Nat) (hn : 1200 ≤ n) :
    evB Try.prog bC n (.func (.func 57) #[] #[]) [v] H = some (.tuple #[vi 0, vi (chk l)], H) := by
  refine run_ofB (F := 1199) (Q := fun r => r = some (.tuple #[vi 0, vi (chk l)], H)) (fun n hn => ?_) n hn
  rw [body_runS Try.func57 rfl (ok_fn (by rfl) Try.func57 rfl) (Nat.le_of_ble_eq_true rfl) (D := D0) (by kernel_rfl)]
  have s1 := orders_bad hv hl hc n (by omega)
  have c1 : decide (chk l = 0) = false := decide_eq_false hc
  simp (disch := omega) only [Try.f57, es_seq, es_region, es_cond, es_block, es_ret, ops_nil, ops_cons, st_move, st_assign, st_fun, sy_bin, sy_ext, ext_20, ext_21, binS_neq, bindO_some, bindF_some, bindX_normal, bindX_ret, blkX_ret, condX_true, ev_tmp, ev_const, ev_func, putA, upd_at, Option.map_some, ↓reduceIte, Nat.reduceEqDiff, frOf_0, List.map_cons, List.map_nil, Bool.not_false, ↓bindO_some, ↓bindF_some, ↓bindX_normal, ↓bindX_ret, ↓condX_true, fin_r, res_nil, res_tmp, pack_2, scal_vi, s1, c1]
theorem rgenus_run {H : Heap} {v : Value} {l : List Int} (hv : R H v (ints l)) (hc : chk l = 0) (n : Nat) (hn : 1200 ≤ n) :
    evB Try.prog bC n (.func (.func 58) #[] #[]) [v] H = some (.tuple #[vi (genV l), vi (genE l)], H) := by
  refine run_ofB (F := 1199) (Q := fun r => r = some (.tuple #[vi (genV l), vi (genE l)], H)) (fun n hn => ?_) n hn
  rw [body_runS Try.func58 rfl (ok_fn (by rfl) Try.func58 rfl) (Nat.le_of_ble_eq_true rfl) (D := D0) (by kernel_rfl)]
  have hp := chk_part hc
  have h0 := part_sum_len hp
  have h1 := hp.sum
  have h2 := hp.len
  have s2 := rsize_run hv (partSm hp) n (by omega)
  have e1 : IntKind.i64.wrap (l.sum - l.length) = l.sum - l.length := wr64 (by omega) (by omega)
  have e2 : Int.tmod (l.sum - l.length) 2 = (l.sum - l.length) % 2 := tmod_pos h0 2
  unfold genV genE
  by_cases h : (l.sum - l.length) % 2 = 1
  · have c1 : decide ((l.sum - l.length) % 2 = 0) = false := decide_eq_false (by omega)
    rw [if_pos h, if_pos h]
    simp (disch := omega) only [Try.f58, es_seq, es_region, es_cond, es_ret, ops_nil, ops_cons, st_move, st_assign, st_fun, sy_len uL, sy_bin, binS_neq, binS_sub, binS_rem, bindO_some, bindF_some, bindX_normal, bindX_ret, condX_true, ev_tmp, ev_const, ev_func, putA, upd_at, Option.map_some, ↓reduceIte, Nat.reduceEqDiff, frOf_0, List.map_cons, List.map_nil, Bool.not_false, ↓bindO_some, ↓bindF_some, ↓bindX_normal, ↓bindX_ret, ↓condX_true, fin_r, res_nil, res_tmp, pack_2, scal_vi, s2, hv.lenI, e1, e2, c1]
  · have c1 : decide ((l.sum - l.length) % 2 = 0) = true := decide_eq_true (by omega)
    have e3 : Int.tdiv (l.sum - l.length) 2 = (l.sum - l.length) / 2 := tdiv_pos h0 2
    have e4 : IntKind.i64.wrap ((l.sum - l.length) / 2) = (l.sum - l.length) / 2 := wr64 (by omega) (by omega)
    have e5 : IntKind.i64.wrap (1 + (l.sum - l.length) / 2) = 1 + (l.sum - l.length) / 2 := wr64 (by omega) (by omega)
    rw [if_neg h, if_neg h]
    simp (disch := omega) only [Try.f58, es_seq, es_region, es_cond, es_skip, es_ret, ops_nil, ops_cons, st_move, st_assign, st_fun, sy_len uL, sy_bin, binS_neq, binS_add, binS_sub, binS_quo, binS_rem, bindO_some, bindF_some, bindX_normal, condX_false, ev_tmp, ev_const, ev_func, putA, upd_at, Option.map_some, ↓reduceIte, Nat.reduceEqDiff, frOf_0, List.map_cons, List.map_nil, Bool.not_true, ↓bindO_some, ↓bindF_some, ↓bindX_normal, ↓condX_false, fin_r, res_nil, res_tmp, pack_2, scal_vi, s2, hv.lenI, e1, e2, c1, e3, e4, e5]
noncomputable def roA : Code := atC [1,1,0,1,0,0] ((Try.f59.body).getD .skip)
theorem rorders_run {H : Heap} {v : Value} {l : List Int} (hw : WF H) (hv : R H v (ints l)) (hp : Part l) (n : Nat) (hn : 1100 ≤ n) :
    OneL H (evB Try.prog bC n (.func (.func 59) #[] #[]) [v] H) (ordL l) := by
  refine run_ofB (F := 1099) (Q := fun r => OneL H r (ordL l)) (fun n hn => ?_) n hn
  rw [body_runS Try.func59 rfl (ok_fn (by rfl) Try.func59 rfl) (Nat.le_of_ble_eq_true rfl) (D := D0) (by kernel_rfl)]
  have hl := hp.len
  have key : ∀ A : Fr, A 0 = v → A 3 = .slice none 0 0 → A 4 = vi (0 : Nat) → ∃ r a' H2, loopN (evS Try.prog (evB Try.prog bC n) n Try.f59.ntmps none roA) n A H = some (r, a', H2) ∧ r = .exit 0 ∧ WF H2 ∧ Old H.length H H2 ∧ ∃ w, a' 3 = w ∧ O H.length H2 w (ints (ordL l)) := by
    intro A h0 h3 h4
    refine loop_up l.length (fun i a H' => a 0 = v ∧ a 4 = vi i ∧ WF H' ∧ Old H.length H H' ∧ ∃ w, a 3 = w ∧ O H.length H' w (ints (ordL (l.take i)))) _ ?_ ?_ (by omega) ⟨h0, h4, hw, Old.refl _ _, _, h3, O.nil _ _⟩
    · intro i a H' hi ⟨h0, h4, wf, old, w, h3, o⟩
      left
      have hlt : (i : Int) < l.length := by omega
      have hvR := hv.mono old
      have e1 : IntKind.i64.wrap ((i : Int) + 1) = ((i + 1 : Nat) : Int) := by rw [wr64 (by omega) (by omega)]; omega
      have hb := hp.getD hi
      have e2 : IntKind.i64.wrap (l.getD i 0 - 1) = l.getD i 0 - 1 := wr64 (by omega) (by omega)
      obtain ⟨w3, H3, s3, o3, old3, wf3⟩ := o.pushI wf old.1 (by rw [ordL_len, List.length_take]; unfold maxA; omega) (l.getD i 0 - 1)
      rw [show roA = atC [1,1,0,1,0,0] ((Try.f59.body).getD .skip) from rfl]
      simp (disch := omega) only [Try.f59, Option.getD_some, atC, es_seq, es_region, es_cond, es_block, es_skip, ops_nil, ops_cons, st_move, st_assign, sy_len uL, sy_addr eL, sy_load aI, sy_bin, sy_append eL pI, sy_build1 eL oI, binS_lss, binS_add, binS_sub, bindO_some, bindF_some, bindX_normal, blkX_normal, condX_true, ev_tmp, ev_const, putA, upd_at, Option.map_some, ↓reduceIte, Nat.reduceEqDiff, Int.toNat_natCast, decide_true, ↓bindO_some, ↓bindF_some, ↓bindX_normal, ↓condX_true, scal_vi, h0, h3, h4, hlt, hvR.lenI, hvR.addrI, hvR.loadI, e1, e2, s3]
      exact ⟨_, _, rfl, h0, rfl, wf3, old.trans old3, w3, rfl, by rw [ord_take_snoc hi]; exact o3⟩
    · intro a H' ⟨h0, h4, wf, old, w, h3, o⟩
      have hvR := hv.mono old
      rw [show roA = atC [1,1,0,1,0,0] ((Try.f59.body).getD .skip) from rfl]
      simp (disch := omega) only [Try.f59, Option.getD_some, atC, es_seq, es_region, es_cond, es_exit, ops_nil, ops_cons, st_move, sy_len uL, sy_bin, binS_lss, bindO_some, bindF_some, bindX_normal, bindX_exit, condX_false, ev_tmp, putA, upd_at, Option.map_some, ↓reduceIte, Nat.reduceEqDiff, decide_false, ↓bindO_some, ↓bindF_some, ↓bindX_normal, ↓bindX_exit, ↓condX_false, h0, h4, hvR.lenI, Int.lt_irrefl]
      rw [List.take_length] at o
      exact ⟨_, _, _, rfl, by simp, rfl, wf, old, w, h3, o⟩
  rw [show roA = atC [1,1,0,1,0,0] ((Try.f59.body).getD .skip) from rfl] at key
  simp only [Try.f59, Option.getD_some, atC] at key
  simp (disch := omega) only [Try.f59, es_seq, es_region, es_block, es_loop, es_ret, ops_nil, ops_cons, st_move, st_assign, bindO_some, bindF_some, bindX_normal, ev_tmp, ev_const, putA, upd_at, ↓reduceIte, ↓bindO_some, ↓bindF_some, ↓bindX_normal]
  generalize hA : upd _ 4 _ = A
  obtain ⟨r, a', H2, e, hr, wf2, old2, w, h3, o⟩ := key A (by subst hA; rfl) (by subst hA; rfl) (by subst hA; rfl)
  subst hr
  rw [e]
  simp (disch := omega) only [bindX_normal, blkX_exit, upd_at, Option.map_some, ↓reduceIte, ↓bindX_normal, fin_r, res_nil, res_tmp, pack_1, h3, o.R.scal]
  exact ⟨_, _, rfl, o, old2, wf2⟩
end Go.Proofs.Ytmmgdgmjkhcfaaa
namespace Go.Proofs.Ytmmgdgmjkhcfaaa
open Go Go.Abs
def Row (k : IntKind) (w : World) (a : Option Addr) (len cap : Nat) (zs : List Int) : Prop :=
  (a = none ∧ len = 0 ∧ cap = 0 ∧ zs = []) ∨
  ∃ x, a = some x ∧ len ≤ cap ∧ cap ≤ maxLen ∧ zs.length = cap ∧ (∀ i, i < zs.length → w.cell? (x.add i) = some (.int k (zs.getD i 0))) ∧ ∀ n ∈ zs, (Lit.int k n).wf = true
theorem row_at {w : World} {a : Option Addr} {len cap : Nat} {zs : List Int} (h : Row .i64 w a len cap zs) :
    ArgAt w (.imm (.slice none 0 0)) (.slice a len cap) ∨ ArgAt w (.imm lostSlice) (.slice a len cap) ∨ ∃ l : List Int, 0 < l.length ∧ ArgAt w (.li (ints l)) (.slice a len cap) := by
  rcases h with ⟨rfl, rfl, rfl, _⟩ | ⟨x, rfl, h1, h2, h3, h4, _⟩
  · exact .inl (.imm fun m => .a (.s .sliceNil))
  · by_cases h0 : len = 0
    · subst h0
      exact .inr (.inl (.imm fun m => .a (.s (.lost _ _ _ _))))
    · refine .inr (.inr ⟨zs.take len, by rw [List.length_take]; omega, ?_⟩)
      obtain ⟨g, o, s⟩ := x
      have hc0 := h4 0 (by omega)
      unfold World.cell? Addr.add at hc0
      simp only at hc0
      split at hc0
      case h_2 => cases hc0
      rename_i C el fr hh
      have hs : s = none := by
        cases s with
        | none => rfl
        | some p => simp at hc0
      subst hs
      have hG : w.heap[g]? = some (.cells C el fr) := hh
      have hcell : ∀ i, i < zs.length → C[o + i]? = some (.int .i64 (zs.getD i 0)) := fun i hi => by
        have := h4 i hi
        unfold World.cell? Addr.add at this
        by_cases hi0 : i = 0
        · subst hi0
          rw [if_pos rfl] at this
          simp only at this
          rw [hG] at this
          exact this
        · rw [if_neg hi0] at this
          simp only at this
          rw [hG] at this
          exact this
      have hlen : len = (zs.take len).length := by rw [List.length_take]; omega
      have hsz : o + cap ≤ C.size := by
        have := hcell (cap - 1) (by omega)
        have := Array.getElem?_eq_some_iff.1 this
        obtain ⟨h, _⟩ := this
        omega
      have key := ArgAt.li (w := w) (l := ints (zs.take len)) (g := g) (o := o) (cap := cap) hG (by rw [ints_len, ← hlen]; exact h1) hsz (fun i v hv => by
        unfold ints at hv
        rw [List.getElem?_map, List.getElem?_take] at hv
        split at hv
        · rename_i hi
          have h5 : i < zs.length := by omega
          rw [List.getElem?_eq_getElem h5] at hv
          cases hv
          rw [hcell i h5, List.getD_eq_getElem?_getD, List.getElem?_eq_getElem h5]
          rfl
        · cases hv) (fun v hv => by
        unfold ints at hv
        obtain ⟨z, _, rfl⟩ := List.mem_map.1 hv
        rfl)
      rw [ints_len, ← hlen] at key
      exact key
end Go.Proofs.Ytmmgdgmjkhcfaaa
namespace Go.Proofs.Ytmmgdgmjkhcfaaa
open Go Go.Abs
theorem row_two {w : World} {a b : Option Addr} {len cap len' cap' : Nat} {zs zs' : List Int} (h : Row .i64 w a len cap zs) (h' : Row .i64 w b len' cap' zs') : ∃ (x y : Arg) (l c : List Int) (v u : Value), ArgAt w x (.slice a len cap) ∧ ArgAt w y (.slice b len' cap') ∧ mkVals 0 [x, y] = [v, u] ∧ R (mkHeap 0 [x, y]) v (ints l) ∧ R (mkHeap 0 [x, y]) u (ints c) ∧ WF (mkHeap 0 [x, y]) := by
  have w1 : ∀ m : List Value, WF [.cells 0 false m] := fun m b f o cs hb => by
    cases b with
    | zero => simp at hb; omega
    | succ b => simp at hb
  have w2 : ∀ m k : List Value, WF [.cells 0 false m, .cells 1 false k] := fun m k b f o cs hb => by
    match b with
    | 0 => simp at hb; omega
    | 1 => simp at hb; omega
    | b + 2 => simp at hb
  have w0 : WF [] := fun b f o cs hb => by simp at hb
  have r1 : ∀ (l : List Int) (H : Heap) (j : Nat), H[j]? = some (.cells j false (ints l)) → R H (sliceA j 0 (ints l).length 1) (ints l) := fun l H j h => .inr (.inr ⟨j, 0, j, false, ints l, rfl, h, by simp, by simp⟩)
  rcases row_at h with h | h | ⟨l, hl, h⟩ <;> rcases row_at h' with h' | h' | ⟨c, hc, h'⟩
  · exact ⟨_, _, [], [], _, _, h, h', rfl, .inl ⟨rfl, rfl⟩, .inl ⟨rfl, rfl⟩, w0⟩
  · exact ⟨_, _, [], [], _, _, h, h', rfl, .inl ⟨rfl, rfl⟩, .inr (.inl ⟨rfl, rfl⟩), w0⟩
  · exact ⟨_, _, [], c, _, _, h, h', rfl, .inl ⟨rfl, rfl⟩, r1 c _ 0 rfl, w1 _⟩
  · exact ⟨_, _, [], [], _, _, h, h', rfl, .inr (.inl ⟨rfl, rfl⟩), .inl ⟨rfl, rfl⟩, w0⟩
  · exact ⟨_, _, [], [], _, _, h, h', rfl, .inr (.inl ⟨rfl, rfl⟩), .inr (.inl ⟨rfl, rfl⟩), w0⟩
  · exact ⟨_, _, [], c, _, _, h, h', rfl, .inr (.inl ⟨rfl, rfl⟩), r1 c _ 0 rfl, w1 _⟩
  · exact ⟨_, _, l, [], _, _, h, h', rfl, r1 l _ 0 rfl, .inl ⟨rfl, rfl⟩, w1 _⟩
  · exact ⟨_, _, l, [], _, _, h, h', rfl, r1 l _ 0 rfl, .inr (.inl ⟨rfl, rfl⟩), w1 _⟩
  · exact ⟨_, _, l, c, _, _, h, h', rfl, r1 l _ 0 rfl, r1 c _ 1 rfl, w2 _ _⟩
end Go.Proofs.Ytmmgdgmjkhcfaaa
namespace Go.Proofs.Ytmmgdgmjkhcfaaa
open Go Go.Abs
set_option maxRecDepth 10000
noncomputable def awkS : Nat → List Arg → Option Res := fun f xs => match xs with
  | [] => if f = 15 then some trueR else none
  | _ => none
theorem awkS_ok : ∀ f xs r, awkS f xs = some r → LineOK Try.prog f xs r := by
  intro f xs r h
  unfold awkS at h
  split at h
  · split at h
    · rename_i hf; subst hf; cases h; exact awake_line
    · cases h
  · cases h
noncomputable def callA (n : Nat) : CallF := Abs.orC (tabC awkS) (evB Try.prog bC n)
theorem callA_ok (n : Nat) : CallOK Try.prog (callA n) := Abs.orC_ok (tabC_ok awkS_ok) (evB_ok hmix bC_ok bC_grow n)
theorem callA_grow (n : Nat) : CallGrow (callA n) := Abs.orC_grow (tabC_grow _) (evB_grow bC_grow n)
theorem ca_other {n f : Nat} {args : List Value} {H : Heap} (h : f ≠ 15) : callA n (.func (.func f) #[] #[]) args H = evB Try.prog bC n (.func (.func f) #[] #[]) args H := by
  unfold callA Abs.orC
  have e : tabC awkS (.func (.func f) #[] #[]) args H = none := by
    unfold tabC
    simp only
    split
    · split
      · rename_i xs _
        have : awkS f xs = none := by
          unfold awkS
          split
          · rw [if_neg h]
          · rfl
        rw [this]
      · rfl
    · rfl
  rw [e]
theorem ca_awake {n : Nat} {H : Heap} : callA n (.func (.func 15) #[] #[]) [] H = some (.bool true, H) := by
  unfold callA Abs.orC
  have e : tabC awkS (.func (.func 15) #[] #[]) [] H = some (.bool true, H ++ []) := rfl
  rw [e, List.append_nil]
end Go.Proofs.Ytmmgdgmjkhcfaaa
namespace Go.Proofs.Ytmmgdgmjkhcfaaa
open Go Go.Abs Go.Num
set_option maxRecDepth 10000
attribute [local congr] bindO_congr bindF_congr bindX_congr condX_congr iteB_congr binS_congr pickS_congr eqB_congr nilS_congr clsW_congr maxS_congr minS_congr
theorem stL_len {N : Int} {l : List Int} (hl : l.length ≤ 40) : (stL N l).length ≤ 10000 := by
  unfold stL
  split
  · rename_i h
    rw [fallS_len]
    unfold stE at h
    split at h
    · split at h
      · rename_i hN hok
        have hs := stOk_sum hok l.length
        rw [List.take_length] at hs
        unfold stRow
        rw [List.length_append, List.length_map, List.length_replicate]
        omega
      · omega
    · omega
  · simp
set_option maxHeartbeats 2000000 in
theorem strLaw_run {H : Heap} {v u : Value} {l c : List Int} {N : Int} (hw : WF H) (hv : R H v (ints l)) (hu : R H u (ints c)) : ∃ H', evBody Try.prog (callA 200000000) 200000000 (.func (.func 13) #[] #[]) [vi N, v, u] H = some (.bool true, H') := by
  obtain ⟨n, hn⟩ : ∃ n, n = 200000000 := ⟨_, rfl⟩
  rw [← hn]
  rw [body_runS (c := (Try.f13.body).getD .skip) Try.func13 rfl (ok_fn (by rfl) Try.func13 rfl) (Nat.le_of_ble_eq_true rfl) (D := D0) (by kernel_rfl)]
  have s0 := long_run hv n (by omega)
  have s00 := long_run hu n (by omega)
  by_cases hlong : (40 : Int) < (l.length : Int)
  · rw [decide_eq_true hlong] at s0
    simp (disch := omega) only [Try.f13, Option.getD_some, es_seq, es_region, es_cond, es_ret, ops_nil, ops_cons, ops_consG, st_move, st_assign, sy_pick, pickS_true, st_fun, bindO_some, bindF_some, bindX_normal, bindX_ret, condX_true, iteB_false, ev_tmp, ev_const, ev_func, putA, upd_at, Option.map_some, ↓reduceIte, Nat.reduceEqDiff, frOf_1, List.map_cons, List.map_nil, Bool.not_true, yieldO_eq, yO, yV_bool, some_false, List.getElem?_cons_zero, List.getElem?_cons_succ, ↓bindO_some, ↓bindF_some, ↓bindX_normal, ↓bindX_ret, ↓condX_true, ↓iteB_false, fin_r, res_nil, res_tmp, pack_1, scal_bool, ca_other, ca_awake, s0]
    exact ⟨_, rfl⟩
  rw [decide_eq_false hlong] at s0
  by_cases hlong2 : (40 : Int) < (c.length : Int)
  · rw [decide_eq_true hlong2] at s00
    simp (disch := omega) only [Try.f13, Option.getD_some, es_seq, es_region, es_cond, es_ret, ops_nil, ops_cons, ops_consG, st_move, st_assign, sy_pick, pickS_false, st_fun, bindO_some, bindF_some, bindX_normal, bindX_ret, condX_true, iteB_true, ev_tmp, ev_const, ev_func, putA, upd_at, Option.map_some, ↓reduceIte, Nat.reduceEqDiff, frOf_1, frOf_2, List.map_cons, List.map_nil, yieldO_eq, yO, yV_bool, List.getElem?_cons_zero, List.getElem?_cons_succ, beq_self_eq_true, ↓bindO_some, ↓bindF_some, ↓bindX_normal, ↓bindX_ret, ↓condX_true, ↓iteB_true, fin_r, res_nil, res_tmp, pack_1, scal_bool, ca_other, ca_awake, s0, s00]
    exact ⟨_, rfl⟩
  rw [decide_eq_false hlong2] at s00
  have hl : l.length ≤ 40 := by omega
  have hcl : c.length ≤ 1000 := by omega
  obtain ⟨v1, H1, s1, o1, old1, wf1⟩ := stratum_run (N := N) hw hv hl n (by omega)
  obtain ⟨v2, H2, s2, o2, old2, wf2⟩ := rstratum_run (N := N) wf1 (hv.mono old1) hl n (by omega)
  have old12 : Old H.length H H2 := old1.trans (old2.mono old1.1)
  have lst := stL_len (N := N) hl
  have z0 : decide ((0 : Int) = 0) = true := rfl
  have zE : decide (stE N l = stE N l) = true := decide_eq_true rfl
  have ln : lenS (.slice none 0 0) = some 0 := rfl
  have hu2 := hu.mono old12
  by_cases hc : chk c = 0
  · have hp := chk_part hc
    obtain ⟨v3, H3, s3, o3, old3, wf3⟩ := orders_run wf2 hu2 hc n (by omega)
    obtain ⟨H4, s4, old4, wf4⟩ := genus_run wf3 (hu2.mono old3) hc n (by omega)
    have old23 : Old H1.length H1 H3 := old2.trans (old3.mono old2.1)
    have old24 : Old H1.length H1 H4 := old23.trans (old4.mono old23.1)
    have old34 : Old H2.length H2 H4 := old3.trans (old4.mono old3.1)
    have s5 := ints_run (o1.R.mono old24) (o2.R.mono old34) lst lst n (by omega)
    rw [decide_eq_true rfl] at s5
    have hu4 := hu2.mono old34
    have s6 := rcheck_run hu4 hcl n (by omega)
    rw [hc] at s6
    have s7 := rgenus_run hu4 hc n (by omega)
    obtain ⟨v8, H8, s8, o8, old8, wf8⟩ := rorders_run wf4 hu4 hp n (by omega)
    have lo : (ordL c).length ≤ 10000 := by rw [ordL_len]; omega
    have old48 : Old H3.length H3 H8 := old4.trans (old8.mono old4.1)
    have s9 := ints_run (o3.R.mono old48) o8.R lo lo n (by omega)
    rw [decide_eq_true rfl] at s9
    have hu8 := hu4.mono old8
    have s10 := rsize_run hu8 (partSm hp) n (by omega)
    obtain ⟨v11, H11, s11, o11, old11, wf11⟩ := stratum_run (N := c.sum) wf8 (o3.R.mono old48) (by rw [ordL_len]; have := hp.len; omega) n (by omega)
    have hu11 := hu8.mono old11
    have s12 := rsize_run hu11 (partSm hp) n (by omega)
    have zV : decide (genV c = genV c) = true := decide_eq_true rfl
    have zG : decide (genE c = genE c) = true := decide_eq_true rfl
    by_cases hz : c.sum = 0
    · rw [back_zero hz] at s11
      have c1 : decide (c.sum = 0) = true := decide_eq_true hz
      have c2 : decide ((2 : Int) = 2) = true := rfl
      simp (maxSteps := 1000000) (disch := omega) only [Try.f13, Option.getD_some, es_seq, es_region, es_cond, es_skip, es_ret, ops_nil, ops_cons, ops_consG, st_move, st_assign, sy_pick, pickS_true, pickS_false, st_fun, sy_bin, st_not, sy_ext, ext_20, ext_21, binS_eql, binS_neq, bindO_some, bindF_some, bindX_normal, bindX_ret, condX_true, condX_false, iteB_true, ev_tmp, ev_const, ev_func, putA, upd_at, Option.map_some, ↓reduceIte, Nat.reduceEqDiff, frOf_0, frOf_1, frOf_2, List.map_cons, List.map_nil, decide_true, Bool.not_true, yieldO_eq, yO, yV_bool, List.getElem?_cons_zero, List.getElem?_cons_succ, beq_self_eq_true, ↓bindO_some, ↓bindF_some, ↓bindX_normal, ↓bindX_ret, ↓condX_true, ↓condX_false, ↓iteB_true, fin_r, res_nil, res_tmp, pack_1, scal_bool, ca_other, ca_awake, s0, s00, s1, s2, s3, s4, s5, s6, s7, s8, s9, s10, s11, s12, c1]
      exact ⟨_, rfl⟩
    · rw [back_err hp hz] at s11
      have c1 : decide (c.sum = 0) = false := decide_eq_false hz
      by_cases hg : genE c = 0
      · rw [back_row hp hz hg] at o11
        rw [hg] at s7 s11 s4
        have s13 := ints_run o11.R hu11 (by omega) (by omega) n (by omega)
        rw [decide_eq_true rfl] at s13
        simp (maxSteps := 1000000) (disch := omega) only [Try.f13, Option.getD_some, es_seq, es_region, es_cond, es_skip, es_ret, ops_nil, ops_cons, ops_consG, st_move, st_assign, sy_pick, pickS_true, pickS_false, st_fun, sy_bin, st_not, sy_ext, ext_20, ext_21, binS_eql, binS_neq, bindO_some, bindF_some, bindX_normal, condX_false, iteB_true, iteB_false, ev_tmp, ev_const, ev_func, putA, upd_at, Option.map_some, ↓reduceIte, Nat.reduceEqDiff, frOf_0, frOf_1, frOf_2, List.map_cons, List.map_nil, decide_true, Bool.not_true, yieldO_eq, yO, yV_bool, some_true, List.getElem?_cons_zero, List.getElem?_cons_succ, beq_self_eq_true, ↓bindO_some, ↓bindF_some, ↓bindX_normal, ↓condX_false, ↓iteB_true, ↓iteB_false, fin_r, res_nil, res_tmp, pack_1, scal_bool, ca_other, ca_awake, s0, s00, s1, s2, s3, s4, s5, s6, s7, s8, s9, s10, s11, s12, s13, c1]
        exact ⟨_, rfl⟩
      · have hg3 : genE c = 3 := by unfold genE at hg ⊢; split at hg; rw [if_pos (by assumption)]; exact absurd rfl hg
        rw [hg3] at s7 s11 s4
        have c3 : decide ((3 : Int) = 3) = true := rfl
        have c4 : decide ((3 : Int) = 0) = false := rfl
        simp (maxSteps := 1000000) (disch := omega) only [Try.f13, Option.getD_some, es_seq, es_region, es_cond, es_skip, es_ret, ops_nil, ops_cons, ops_consG, st_move, st_assign, sy_pick, pickS_true, pickS_false, st_fun, sy_bin, st_not, sy_ext, ext_20, ext_21, binS_eql, binS_neq, bindO_some, bindF_some, bindX_normal, condX_false, iteB_true, iteB_false, ev_tmp, ev_const, ev_func, putA, upd_at, Option.map_some, ↓reduceIte, Nat.reduceEqDiff, frOf_0, frOf_1, frOf_2, List.map_cons, List.map_nil, decide_true, Bool.not_true, Bool.not_false, yieldO_eq, yO, yV_bool, yV_undef, none_some, some_false, List.getElem?_cons_zero, List.getElem?_cons_succ, beq_self_eq_true, ↓bindO_some, ↓bindF_some, ↓bindX_normal, ↓condX_false, ↓iteB_true, ↓iteB_false, fin_r, res_nil, res_tmp, pack_1, scal_bool, ca_other, ca_awake, s0, s00, s1, s2, s3, s4, s5, s6, s7, s8, s9, s10, s11, s12, c1, c4]
        exact ⟨_, rfl⟩
  · have s3 := orders_bad hu2 hcl hc n (by omega)
    have s4 := genus_bad hu2 hcl hc n (by omega)
    have s5 := ints_run (o1.R.mono old2) o2.R lst lst n (by omega)
    rw [decide_eq_true rfl] at s5
    have s6 := rcheck_run hu2 hcl n (by omega)
    have c1 : decide (chk c = 0) = false := decide_eq_false hc
    have c2 : decide (chk c = chk c) = true := decide_eq_true rfl
    have z00 : decide (((0 : Nat) : Int) = 0) = true := rfl
    simp (maxSteps := 1000000) (disch := omega) only [Try.f13, Option.getD_some, es_seq, es_region, es_cond, es_skip, es_ret, ops_nil, ops_cons, ops_consG, st_move, st_assign, sy_pick, pickS_true, pickS_false, st_fun, sy_len uL, sy_bin, st_not, sy_ext, ext_20, ext_21, binS_eql, binS_neq, bindO_some, bindF_some, bindX_normal, bindX_ret, condX_true, condX_false, iteB_true, ev_tmp, ev_const, ev_func, putA, upd_at, Option.map_some, ↓reduceIte, Nat.reduceEqDiff, frOf_0, frOf_1, frOf_2, List.map_cons, List.map_nil, decide_true, Bool.not_true, Bool.not_false, yieldO_eq, yO, yV_bool, List.getElem?_cons_zero, List.getElem?_cons_succ, beq_self_eq_true, ↓bindO_some, ↓bindF_some, ↓bindX_normal, ↓bindX_ret, ↓condX_true, ↓condX_false, ↓iteB_true, fin_r, res_nil, res_tmp, pack_1, scal_bool, ca_other, ca_awake, s0, s00, s1, s2, s3, s4, s5, s6, z00, c1, ln]
    exact ⟨_, rfl⟩
open Go.RowKit in
theorem CountStrata_walk (a0 : Int) (a1 : Option Addr) (len1 cap1 : Nat) (z1 : List Int) (a2 : Option Addr) (len2 cap2 : Nat) (z2 : List Int) (w : World) (w0 : (Lit.int .i64 a0).wf = true) (w1 : Row .i64 w a1 len1 cap1 z1) (w2 : Row .i64 w a2 len2 cap2 z2) :
    Calls Try.prog 13 #[.int .i64 a0, .slice a1 len1 cap1, .slice a2 len2 cap2] w fun e w' => e = .returned (.bool true) ∧ Below w.heap.size w w' := by
  obtain ⟨x, y, l, c, v, u, h1, h2, h3, h4, h5, h6⟩ := row_two w1 w2
  obtain ⟨H', h⟩ := strLaw_run (N := a0) h6 h4 h5
  rw [← h3] at h
  exact law_args («ays» := [.imm (vi a0), x, y]) hmix (callA_ok _) (callA_grow _) h (.cons (.imm fun m => .a (.s (.int _ _))) (.cons h1 (.cons h2 .nil)))
end Go.Proofs.Ytmmgdgmjkhcfaaa
