/- Of the law: texts of its proof, joined (part 14). -/
import Derived.Test.YtkedcelpadiakaaGreatQap13
set_option linter.all false
namespace Go.Proofs.YtkedcelpadiakaaGreat
open Go Go.Abs
theorem uL : Tryz.prog.underlying 22 = some (.slice 3) := by kernel_rfl
theorem eL : sliceElem Tryz.prog 22 = some (3, 1) := by kernel_rfl
theorem aI : isAggT Tryz.prog 3 = some false := by kernel_rfl
theorem zI : sizeT Tryz.prog 3 = some 1 := by kernel_rfl
theorem pI : ((bytesT Tryz.prog 3).isSome && decide ((bytesT Tryz.prog 3).getD 0 ≤ maxA) && (zeros Tryz.prog 3 1 1).isSome) = true := by kernel_rfl
theorem yI : bytesT Tryz.prog 3 = some 8 := by kernel_rfl
theorem oI : zeros Tryz.prog 3 1 1 = some [vi 0] := by kernel_rfl
theorem nI : zeros Tryz.prog 3 1 0 = some [] := by kernel_rfl
theorem ok_fn {f : Nat} {fn : Func} {c : Code} (ho : okN f = true) (hf : Tryz.prog.funcs[f]? = some fn) (hb : fn.body = some c) : funcOk fn c = true := hF f fn c ho hf hb
theorem aL : isAggT Tryz.prog 22 = some false := by kernel_rfl
theorem aB : isAggT Tryz.prog 4 = some false := by kernel_rfl
theorem zL : sizeT Tryz.prog 22 = some 1 := by kernel_rfl
theorem zB : sizeT Tryz.prog 4 = some 1 := by kernel_rfl
theorem qB (x y : Operand) (p q : Bool) : pureVal Tryz.prog (do eqGuard .eql 4 x y (.bool p) (.bool q); binOp .eql 4 (.bool p) (.bool q)) = some (.bool (p == q)) := by kernel_rfl
theorem nB (x y : Operand) (p q : Bool) : pureVal Tryz.prog (do eqGuard .neq 4 x y (.bool p) (.bool q); binOp .neq 4 (.bool p) (.bool q)) = some (.bool (!(p == q))) := by kernel_rfl
theorem aW : isAggT Tryz.prog 100 = some true := by kernel_rfl
theorem zW : sizeT Tryz.prog 100 = some 2 := by kernel_rfl
theorem fW0 : fieldOff Tryz.prog 100 0 = some 0 := by kernel_rfl
theorem fW1 : fieldOff Tryz.prog 100 1 = some 1 := by kernel_rfl
theorem iW : zeroT Tryz.prog 100 = some (.agg #[.bool false, .slice none 0 0]) := by kernel_rfl
theorem bW0 : buildA Tryz.prog 100 [] = some (.agg #[.bool false, .slice none 0 0]) := by kernel_rfl
theorem run_ofB {F : Nat} {fv : Value} {args : List Value} {H : Heap} {Q : Option (Value × Heap) → Prop} (h : ∀ n, F ≤ n → Q (evBody Tryz.prog (evB Tryz.prog bC n) n fv args H)) (n : Nat) (hn : F + 1 ≤ n) (hb : bC fv args H = none := by rfl) : Q (evB Tryz.prog bC n fv args H) := by
  obtain ⟨m, rfl⟩ : ∃ m, n = m + 1 := ⟨n - 1, by omega⟩
  have e : evB Tryz.prog bC (m + 1) fv args H = evBody Tryz.prog (evB Tryz.prog bC m) m fv args H := by
    show (match bC fv args H with | some r => some r | none => evBody Tryz.prog (evB Tryz.prog bC m) m fv args H) = _
    rw [hb]
  rw [e]
  exact h m (by omega)
end Go.Proofs.YtkedcelpadiakaaGreat
namespace Go.Proofs.YtkedcelpadiakaaGreat
open Go Go.Abs Go.Num
set_option maxRecDepth 10000
attribute [local congr] bindO_congr bindF_congr bindX_congr condX_congr iteB_congr binS_congr pickS_congr eqB_congr nilS_congr clsW_congr maxS_congr minS_congr
def cmpI (x y : Int) : Int := if x < y then -1 else if y < x then 1 else 0
def cmpL : List Int → List Int → Int
  | [], [] => 0
  | [], _ :: _ => -1
  | _ :: _, [] => 1
  | x :: xs, y :: ys => if cmpI x y = 0 then cmpL xs ys else cmpI x y
def cmpO (x y : Key) : Int := if cmpL x.1 y.1 = 0 then cmpL x.2 y.2 else cmpL x.1 y.1
theorem cmpI_zero {x y : Int} : cmpI x y = 0 ↔ x = y := by unfold cmpI; split <;> (try split) <;> omega
theorem cmpL_zero : ∀ {l m : List Int}, cmpL l m = 0 ↔ l = m
  | [], [] => by simp [cmpL]
  | [], _ :: _ => by simp [cmpL]
  | _ :: _, [] => by simp [cmpL]
  | x :: xs, y :: ys => by
    simp only [cmpL]
    split
    · rename_i h
      rw [cmpL_zero (l := xs) (m := ys), cmpI_zero.1 h]; simp
    · rename_i h
      constructor
      · intro h'; exact absurd h' h
      · intro h'; injection h' with h1 _; exact absurd (cmpI_zero.2 h1) h
theorem cmpI_anti (x y : Int) : cmpI y x = - cmpI x y := by unfold cmpI; split <;> split <;> (try split) <;> omega
theorem cmpL_anti : ∀ (l m : List Int), cmpL m l = - cmpL l m
  | [], [] => by simp [cmpL]
  | [], _ :: _ => by simp [cmpL]
  | _ :: _, [] => by simp [cmpL]
  | x :: xs, y :: ys => by
    simp only [cmpL]
    have := cmpI_anti x y
    have := cmpL_anti xs ys
    split <;> split <;> omega
theorem cmpI_trans {x y z : Int} (h1 : cmpI x y ≤ 0) (h2 : cmpI y z ≤ 0) : cmpI x z ≤ 0 ∧ (cmpI x z = 0 → cmpI x y = 0 ∧ cmpI y z = 0) := by
  unfold cmpI at *; constructor
  · split <;> (try split) <;> (repeat (split at h1)) <;> (repeat (split at h2)) <;> omega
  · intro h; constructor <;> (repeat (split at h)) <;> (repeat (split at h1)) <;> (repeat (split at h2)) <;> (repeat split) <;> omega
theorem cmpL_trans : ∀ {l m k : List Int}, cmpL l m ≤ 0 → cmpL m k ≤ 0 → cmpL l k ≤ 0 ∧ (cmpL l k = 0 → cmpL l m = 0 ∧ cmpL m k = 0)
  | [], [], [] => by simp [cmpL]
  | [], [], _ :: _ => by simp [cmpL]
  | [], _ :: _, [] => by simp [cmpL]
  | [], _ :: _, _ :: _ => by simp [cmpL]
  | _ :: _, [], _ => by simp [cmpL]
  | _ :: _, _ :: _, [] => by simp [cmpL]
  | x :: xs, y :: ys, z :: zs => by
    simp only [cmpL]
    intro h1 h2
    have hx : cmpI x y ≤ 0 := by split at h1 <;> omega
    have hy : cmpI y z ≤ 0 := by split at h2 <;> omega
    have ht := cmpI_trans hx hy
    by_cases e1 : cmpI x y = 0
    · by_cases e2 : cmpI y z = 0
      · rw [if_pos e1] at h1
        rw [if_pos e2] at h2
        have e3 : cmpI x z = 0 := cmpI_zero.2 ((cmpI_zero.1 e1).trans (cmpI_zero.1 e2))
        rw [if_pos e1, if_pos e2, if_pos e3]
        exact cmpL_trans h1 h2
      · have e3 : cmpI x z ≠ 0 := fun h => e2 (ht.2 h).2
        rw [if_neg e3]
        exact ⟨ht.1, fun h => absurd h e3⟩
    · have e3 : cmpI x z ≠ 0 := fun h => e1 (ht.2 h).1
      rw [if_neg e3]
      exact ⟨ht.1, fun h => absurd h e3⟩
theorem cmpO_zero {x y : Key} : cmpO x y = 0 ↔ x = y := by
  unfold cmpO
  split
  · rename_i h
    rw [cmpL_zero]
    constructor
    · intro h2; exact Prod.ext (cmpL_zero.1 h) h2
    · intro h2; rw [h2]
  · rename_i h
    constructor
    · intro h'; exact absurd h' h
    · intro h'; rw [h'] at h; exact absurd (cmpL_zero.2 rfl) h
theorem cmpO_anti (x y : Key) : cmpO y x = - cmpO x y := by
  unfold cmpO
  have := cmpL_anti x.1 y.1
  have := cmpL_anti x.2 y.2
  split <;> split <;> omega
theorem cmpO_trans {x y z : Key} (h1 : cmpO x y ≤ 0) (h2 : cmpO y z ≤ 0) : cmpO x z ≤ 0 ∧ (cmpO x z = 0 → cmpO x y = 0 ∧ cmpO y z = 0) := by
  unfold cmpO at *
  have hx : cmpL x.1 y.1 ≤ 0 := by split at h1 <;> omega
  have hy : cmpL y.1 z.1 ≤ 0 := by split at h2 <;> omega
  have ht := cmpL_trans hx hy
  by_cases e1 : cmpL x.1 y.1 = 0
  · by_cases e2 : cmpL y.1 z.1 = 0
    · rw [if_pos e1] at h1
      rw [if_pos e2] at h2
      have e3 : cmpL x.1 z.1 = 0 := cmpL_zero.2 ((cmpL_zero.1 e1).trans (cmpL_zero.1 e2))
      rw [if_pos e1, if_pos e2, if_pos e3]
      exact cmpL_trans h1 h2
    · have e3 : cmpL x.1 z.1 ≠ 0 := fun h => e2 (ht.2 h).2
      rw [if_neg e3]
      exact ⟨ht.1, fun h => absurd h e3⟩
  · have e3 : cmpL x.1 z.1 ≠ 0 := fun h => e1 (ht.2 h).1
    rw [if_neg e3]
    exact ⟨ht.1, fun h => absurd h e3⟩
theorem cmpO_ord : CmpOrd cmpO where
  irrefl x := by rw [cmpO_zero.2 rfl]; omega
  trans x y z h1 h2 := by
    have := cmpO_trans (Int.le_of_lt h1) (Int.le_of_lt h2)
    by_cases h : cmpO x z = 0
    · have := (this.2 h).1; omega
    · omega
  ntrans x y z h1 h2 := by
    have a1 := cmpO_anti x y
    have a2 := cmpO_anti y z
    have a3 := cmpO_anti x z
    have := cmpO_trans (x := z) (y := y) (z := x) (by omega) (by omega)
    omega
  total x y h1 h2 := by
    have := cmpO_anti x y
    exact cmpO_zero.1 (by omega)
theorem nan_run (x : Int) (H : Heap) (n : Nat) (hn : 1 ≤ n) : evB Tryz.prog bC n (.func (.func 134) #[] #[]) [vi x] H = some (.bool false, H) := by
  refine run_ofB (F := 0) (Q := fun r => r = some (.bool false, H)) (fun n hn => ?_) n hn
  rw [body_runS Tryz.func134 rfl (ok_fn (by rfl) Tryz.func134 rfl) (Nat.le_of_ble_eq_true rfl) (D := D0) (by kernel_rfl)]
  have c1 : decide (x = x) = true := decide_eq_true rfl
  simp (disch := omega) only [Tryz.f134, es_seq, es_region, es_ret, ops_nil, ops_cons, st_move, st_assign, sy_bin, binS_neq, bindO_some, bindF_some, bindX_normal, ev_tmp, ev_const, putA, upd_at, Option.map_some, ↓reduceIte, Nat.reduceEqDiff, frOf_0, decide_true, Bool.not_true, ↓bindO_some, ↓bindF_some, ↓bindX_normal, fin_r, res_nil, res_tmp, pack_1, scal_bool]
theorem cmpc_run (x y : Int) (H : Heap) (n : Nat) (hn : 2 ≤ n) : evB Tryz.prog bC n (.func (.func 84) #[] #[]) [vi x, vi y] H = some (vi (cmpI x y), H) := by
  refine run_ofB (F := 1) (Q := fun r => r = some (vi (cmpI x y), H)) (fun n hn => ?_) n hn
  rw [body_runS Tryz.func84 rfl (ok_fn (by rfl) Tryz.func84 rfl) (Nat.le_of_ble_eq_true rfl) (D := D0) (by kernel_rfl)]
  have s1 := nan_run x H n (by omega)
  have s2 := nan_run y H n (by omega)
  unfold cmpI
  by_cases h1 : x < y
  · rw [if_pos h1]
    simp (disch := omega) only [Tryz.f84, es_seq, es_region, es_cond, es_skip, es_ret, ops_nil, ops_cons, st_move, st_assign, st_fun, sy_bin, binS_lss, bindO_some, bindF_some, bindX_normal, bindX_ret, condX_true, condX_false, ev_tmp, ev_const, ev_func, putA, upd_at, Option.map_some, ↓reduceIte, Nat.reduceEqDiff, frOf_0, frOf_1, List.map_cons, List.map_nil, decide_true, ↓bindO_some, ↓bindF_some, ↓bindX_normal, ↓bindX_ret, ↓condX_true, ↓condX_false, fin_r, res_nil, res_tmp, pack_1, scal_vi, s1, s2, h1]
  · rw [if_neg h1]
    by_cases h2 : y < x
    · have h3 : x > y := h2
      rw [if_pos h2]
      simp (disch := omega) only [Tryz.f84, es_seq, es_region, es_cond, es_skip, es_ret, ops_nil, ops_cons, st_move, st_assign, st_fun, sy_bin, binS_lss, binS_gtr, bindO_some, bindF_some, bindX_normal, bindX_ret, condX_true, condX_false, ev_tmp, ev_const, ev_func, putA, upd_at, Option.map_some, ↓reduceIte, Nat.reduceEqDiff, frOf_0, frOf_1, List.map_cons, List.map_nil, decide_true, decide_false, ↓bindO_some, ↓bindF_some, ↓bindX_normal, ↓bindX_ret, ↓condX_true, ↓condX_false, fin_r, res_nil, res_tmp, pack_1, scal_vi, s1, s2, h1, h2]
    · have h3 : ¬ x > y := h2
      rw [if_neg h2]
      simp (disch := omega) only [Tryz.f84, es_seq, es_region, es_cond, es_skip, es_ret, ops_nil, ops_cons, st_move, st_assign, st_fun, sy_bin, binS_lss, binS_gtr, bindO_some, bindF_some, bindX_normal, condX_false, ev_tmp, ev_const, ev_func, putA, upd_at, Option.map_some, ↓reduceIte, Nat.reduceEqDiff, frOf_0, frOf_1, List.map_cons, List.map_nil, decide_false, ↓bindO_some, ↓bindF_some, ↓bindX_normal, ↓condX_false, fin_r, res_nil, res_tmp, pack_1, scal_vi, s1, s2, h1, h2]
noncomputable def scA : Code := atC [1,0,1,0,0] ((Tryz.f53.body).getD .skip)
theorem drop_at {l : List Int} {i : Nat} (hi : i < l.length) : l.drop i = l.getD i 0 :: l.drop (i + 1) := by
  rw [List.drop_eq_getElem_cons hi, List.getD_eq_getElem?_getD, List.getElem?_eq_getElem hi]; rfl
theorem slcmp_run {H : Heap} {va vb : Value} {l m : List Int} (ha : R H va (ints l)) (hb : R H vb (ints m)) (hl : l.length ≤ 1000) (hm : m.length ≤ 1000) (n : Nat) (hn : 1010 ≤ n) :
    evB Tryz.prog bC n (.func (.func 53) #[] #[]) [va, vb] H = some (vi (cmpL l m), H) := by
  refine run_ofB (F := 1009) (Q := fun r => r = some (vi (cmpL l m), H)) (fun n hn => ?_) n hn
  rw [body_runS Tryz.func53 rfl (ok_fn (by rfl) Tryz.func53 rfl) (Nat.le_of_ble_eq_true rfl) (D := D0) (by kernel_rfl)]
  have key : ∀ A : Fr, A 0 = va → A 1 = vb → A 9 = va → A 10 = vi l.length → A 11 = vi (0 : Nat) → ∃ r a' H', loopN (evS Tryz.prog (evB Tryz.prog bC n) n Tryz.f53.ntmps none scA) n A H = some (r, a', H') ∧ H' = H ∧ ((r = .ret ∧ a' 4 = vi (cmpL l m)) ∨ (r = .exit 0 ∧ a' 0 = va ∧ a' 1 = vb ∧ l.length ≤ m.length ∧ cmpL l m = cmpL [] (m.drop l.length))) := by
    intro A h0 h1 h9 h10 h11
    refine loop_up l.length (fun i a H' => H' = H ∧ a 0 = va ∧ a 1 = vb ∧ a 9 = va ∧ a 10 = vi l.length ∧ a 11 = vi i ∧ i ≤ m.length ∧ cmpL l m = cmpL (l.drop i) (m.drop i)) _ ?_ ?_ (by omega) ⟨rfl, h0, h1, h9, h10, h11, by omega, by rw [List.drop_zero, List.drop_zero]⟩
    · intro i a H' hi ⟨hH, h0, h1, h9, h10, h11, him, hc⟩
      subst hH
      have hlt : (i : Int) < l.length := by omega
      have e1 : IntKind.i64.wrap ((i : Int) + 1) = ((i + 1 : Nat) : Int) := by rw [wr64 (by omega) (by omega)]; omega
      rw [show scA = atC [1,0,1,0,0] ((Tryz.f53.body).getD .skip) from rfl]
      rw [drop_at hi] at hc
      by_cases c1 : (m.length : Int) ≤ i
      · right
        have c2 : (i : Int) ≥ m.length := c1
        simp (disch := omega) only [Tryz.f53, Option.getD_some, atC, es_seq, es_region, es_cond, es_block, es_skip, es_ret, ops_nil, ops_cons, st_move, st_assign, sy_len uL, sy_addr eL, sy_load aI, sy_bin, binS_lss, binS_geq, bindO_some, bindF_some, bindX_normal, bindX_ret, blkX_ret, condX_true, ev_tmp, ev_const, putA, upd_at, Option.map_some, ↓reduceIte, Nat.reduceEqDiff, Int.toNat_natCast, decide_true, ↓bindO_some, ↓bindF_some, ↓bindX_normal, ↓bindX_ret, ↓condX_true, h1, h9, h10, h11, hlt, ha.addrI, ha.loadI, hb.lenI, c1]
        refine ⟨_, _, _, rfl, by simp, rfl, .inl ⟨rfl, ?_⟩⟩
        rw [hc, show m.drop i = [] from List.drop_of_length_le (by omega)]; rfl
      · have c2 : ¬ (i : Int) ≥ m.length := c1
        have s1 := cmpc_run (l.getD i 0) (m.getD i 0) H' n (by omega)
        rw [drop_at (l := m) (by omega)] at hc
        simp only [cmpL] at hc
        by_cases hz : cmpI (l.getD i 0) (m.getD i 0) = 0
        · left
          have c3 : decide (cmpI (l.getD i 0) (m.getD i 0) = 0) = true := decide_eq_true hz
          simp (disch := omega) only [Tryz.f53, Option.getD_some, atC, es_seq, es_region, es_cond, es_block, es_skip, ops_nil, ops_cons, st_move, st_assign, st_fun, sy_len uL, sy_addr eL, sy_load aI, sy_bin, binS_lss, binS_geq, binS_neq, binS_add, bindO_some, bindF_some, bindX_normal, blkX_normal, condX_true, condX_false, ev_tmp, ev_const, ev_func, putA, upd_at, Option.map_some, ↓reduceIte, Nat.reduceEqDiff, Int.toNat_natCast, List.map_cons, List.map_nil, decide_true, decide_false, Bool.not_true, ↓bindO_some, ↓bindF_some, ↓bindX_normal, ↓condX_true, ↓condX_false, h1, h9, h10, h11, hlt, ha.addrI, ha.loadI, hb.lenI, hb.addrI, hb.loadI, c1, s1, c3, e1]
          rw [if_pos hz] at hc
          exact ⟨_, _, rfl, rfl, h0, h1, h9, h10, rfl, by omega, hc⟩
        · right
          have c3 : decide (cmpI (l.getD i 0) (m.getD i 0) = 0) = false := decide_eq_false hz
          simp (disch := omega) only [Tryz.f53, Option.getD_some, atC, es_seq, es_region, es_cond, es_block, es_skip, es_ret, ops_nil, ops_cons, st_move, st_assign, st_fun, sy_len uL, sy_addr eL, sy_load aI, sy_bin, binS_lss, binS_geq, binS_neq, bindO_some, bindF_some, bindX_normal, bindX_ret, blkX_ret, condX_true, condX_false, ev_tmp, ev_const, ev_func, putA, upd_at, Option.map_some, ↓reduceIte, Nat.reduceEqDiff, Int.toNat_natCast, List.map_cons, List.map_nil, decide_true, decide_false, Bool.not_false, ↓bindO_some, ↓bindF_some, ↓bindX_normal, ↓bindX_ret, ↓condX_true, ↓condX_false, h1, h9, h10, h11, hlt, ha.addrI, ha.loadI, hb.lenI, hb.addrI, hb.loadI, c1, s1, c3]
          rw [if_neg hz] at hc
          exact ⟨_, _, _, rfl, by simp, rfl, .inl ⟨rfl, by rw [hc]; rfl⟩⟩
    · intro a H' ⟨hH, h0, h1, h9, h10, h11, him, hc⟩
      subst hH
      rw [show scA = atC [1,0,1,0,0] ((Tryz.f53.body).getD .skip) from rfl]
      simp (disch := omega) only [Tryz.f53, Option.getD_some, atC, es_seq, es_region, es_cond, es_exit, ops_nil, ops_cons, sy_bin, binS_lss, bindO_some, bindF_some, bindX_normal, bindX_exit, condX_false, ev_tmp, putA, upd_at, ↓reduceIte, decide_false, ↓bindO_some, ↓bindF_some, ↓bindX_normal, ↓bindX_exit, ↓condX_false, h10, h11, Int.lt_irrefl]
      rw [List.drop_length] at hc
      exact ⟨_, _, _, rfl, by simp, rfl, .inr ⟨rfl, h0, h1, him, hc⟩⟩
  rw [show scA = atC [1,0,1,0,0] ((Tryz.f53.body).getD .skip) from rfl] at key
  simp only [Tryz.f53, Option.getD_some, atC] at key
  simp (disch := omega) only [Tryz.f53, es_seq, es_region, es_cond, es_block, es_loop, es_skip, es_ret, ops_nil, ops_cons, st_move, st_assign, sy_len uL, sy_bin, bindO_some, bindF_some, bindX_normal, ev_tmp, ev_const, putA, upd_at, Option.map_some, ↓reduceIte, Nat.reduceEqDiff, frOf_0, ↓bindO_some, ↓bindF_some, ↓bindX_normal, ha.lenI]
  generalize hA : upd _ 11 _ = A
  obtain ⟨r, a', H', e, hH, h⟩ := key A (by subst hA; rfl) (by subst hA; rfl) (by subst hA; rfl) (by subst hA; rfl) (by subst hA; rfl)
  subst hH
  rw [e]
  rcases h with ⟨rfl, h4⟩ | ⟨rfl, h0, h1, hlm, hc⟩
  · simp (disch := omega) only [bindX_ret, blkX_ret, Option.map_some, ↓bindX_ret, fin_r, res_nil, res_tmp, pack_1, scal_vi, h4]
  · by_cases c : (l.length : Int) < m.length
    · simp (disch := omega) only [binS_lss, bindO_some, bindF_some, bindX_normal, bindX_ret, blkX_exit, condX_true, upd_at, Option.map_some, ↓reduceIte, decide_true, ↓bindO_some, ↓bindF_some, ↓bindX_normal, ↓bindX_ret, ↓condX_true, fin_r, res_nil, res_tmp, pack_1, scal_vi, h0, h1, ha.lenI, hb.lenI, c]
      rw [hc, drop_at (by omega)]; rfl
    · simp (disch := omega) only [binS_lss, bindO_some, bindF_some, bindX_normal, blkX_exit, condX_false, upd_at, Option.map_some, ↓reduceIte, decide_false, ↓bindO_some, ↓bindF_some, ↓bindX_normal, ↓condX_false, fin_r, res_nil, res_tmp, pack_1, scal_vi, h0, h1, ha.lenI, hb.lenI, c]
      rw [hc, List.drop_of_length_le (by omega)]; rfl
def orL : List Int → Int
  | [] => 0
  | x :: l => if x = 0 then orL l else x
noncomputable def coA : Code := atC [1,1,0,1,0,0] ((Tryz.f52.body).getD .skip)
theorem or_run {H : Heap} {v : Value} {l : List Int} (hv : R H v (ints l)) (hl : l.length ≤ 1000) (n : Nat) (hn : 1010 ≤ n) :
    evB Tryz.prog bC n (.func (.func 52) #[] #[]) [v] H = some (vi (orL l), H) := by
  refine run_ofB (F := 1009) (Q := fun r => r = some (vi (orL l), H)) (fun n hn => ?_) n hn
  rw [body_runS Tryz.func52 rfl (ok_fn (by rfl) Tryz.func52 rfl) (Nat.le_of_ble_eq_true rfl) (D := D0) (by kernel_rfl)]
  have key : ∀ A : Fr, A 3 = vi 0 → A 6 = v → A 7 = vi l.length → A 8 = vi (0 : Nat) → ∃ r a' H', loopN (evS Tryz.prog (evB Tryz.prog bC n) n Tryz.f52.ntmps none coA) n A H = some (r, a', H') ∧ H' = H ∧ ((r = .ret ∧ a' 2 = vi (orL l)) ∨ (r = .exit 0 ∧ a' 3 = vi 0 ∧ orL l = 0)) := by
    intro A h3 h6 h7 h8
    refine loop_up l.length (fun i a H' => H' = H ∧ a 3 = vi 0 ∧ a 6 = v ∧ a 7 = vi l.length ∧ a 8 = vi i ∧ orL l = orL (l.drop i)) _ ?_ ?_ (by omega) ⟨rfl, h3, h6, h7, h8, by rw [List.drop_zero]⟩
    · intro i a H' hi ⟨hH, h3, h6, h7, h8, hc⟩
      subst hH
      have hlt : (i : Int) < l.length := by omega
      have e1 : IntKind.i64.wrap ((i : Int) + 1) = ((i + 1 : Nat) : Int) := by rw [wr64 (by omega) (by omega)]; omega
      rw [show coA = atC [1,1,0,1,0,0] ((Tryz.f52.body).getD .skip) from rfl]
      rw [drop_at hi] at hc
      simp only [orL] at hc
      by_cases hz : l.getD i 0 = 0
      · left
        have c3 : decide (l.getD i 0 = 0) = true := decide_eq_true hz
        simp (disch := omega) only [Tryz.f52, Option.getD_some, atC, es_seq, es_region, es_cond, es_block, es_skip, ops_nil, ops_cons, st_move, st_assign, sy_addr eL, sy_load aI, sy_bin, binS_lss, binS_neq, binS_add, bindO_some, bindF_some, bindX_normal, blkX_normal, condX_true, condX_false, ev_tmp, ev_const, putA, upd_at, Option.map_some, ↓reduceIte, Nat.reduceEqDiff, Int.toNat_natCast, decide_true, Bool.not_true, ↓bindO_some, ↓bindF_some, ↓bindX_normal, ↓condX_true, ↓condX_false, h3, h6, h7, h8, hlt, hv.addrI, hv.loadI, c3, e1]
        rw [if_pos hz] at hc
        exact ⟨_, _, rfl, rfl, h3, h6, h7, rfl, hc⟩
      · right
        have c3 : decide (l.getD i 0 = 0) = false := decide_eq_false hz
        simp (disch := omega) only [Tryz.f52, Option.getD_some, atC, es_seq, es_region, es_cond, es_block, es_skip, es_ret, ops_nil, ops_cons, st_move, st_assign, sy_addr eL, sy_load aI, sy_bin, binS_lss, binS_neq, bindO_some, bindF_some, bindX_normal, bindX_ret, blkX_ret, condX_true, ev_tmp, putA, upd_at, Option.map_some, ↓reduceIte, Nat.reduceEqDiff, Int.toNat_natCast, decide_true, Bool.not_false, ↓bindO_some, ↓bindF_some, ↓bindX_normal, ↓bindX_ret, ↓condX_true, h3, h6, h7, h8, hlt, hv.addrI, hv.loadI, c3]
        rw [if_neg hz] at hc
        exact ⟨_, _, _, rfl, by simp, rfl, .inl ⟨rfl, by rw [hc]; rfl⟩⟩
    · intro a H' ⟨hH, h3, h6, h7, h8, hc⟩
      subst hH
      rw [show coA = atC [1,1,0,1,0,0] ((Tryz.f52.body).getD .skip) from rfl]
      simp (disch := omega) only [Tryz.f52, Option.getD_some, atC, es_seq, es_region, es_cond, es_exit, ops_nil, ops_cons, sy_bin, binS_lss, bindO_some, bindF_some, bindX_normal, bindX_exit, condX_false, ev_tmp, putA, upd_at, ↓reduceIte, decide_false, ↓bindO_some, ↓bindF_some, ↓bindX_normal, ↓bindX_exit, ↓condX_false, h7, h8, Int.lt_irrefl]
      rw [List.drop_length] at hc
      exact ⟨_, _, _, rfl, by simp, rfl, .inr ⟨rfl, h3, hc⟩⟩
  rw [show coA = atC [1,1,0,1,0,0] ((Tryz.f52.body).getD .skip) from rfl] at key
  simp only [Tryz.f52, Option.getD_some, atC] at key
  simp (disch := omega) only [Tryz.f52, es_seq, es_region, es_block, es_loop, es_ret, ops_nil, ops_cons, st_move, st_assign, sy_len uL, bindO_some, bindF_some, bindX_normal, ev_tmp, ev_const, putA, upd_at, Option.map_some, ↓reduceIte, Nat.reduceEqDiff, frOf_0, ↓bindO_some, ↓bindF_some, ↓bindX_normal, hv.lenI]
  generalize hA : upd _ 8 _ = A
  obtain ⟨r, a', H', e, hH, h⟩ := key A (by subst hA; rfl) (by subst hA; rfl) (by subst hA; rfl) (by subst hA; rfl)
  subst hH
  rw [e]
  rcases h with ⟨rfl, h2⟩ | ⟨rfl, h3, hc⟩
  · simp (disch := omega) only [bindX_ret, blkX_ret, Option.map_some, ↓bindX_ret, fin_r, res_nil, res_tmp, pack_1, scal_vi, h2]
  · rw [hc]
    simp (disch := omega) only [bindX_normal, blkX_exit, upd_at, Option.map_some, ↓reduceIte, ↓bindX_normal, fin_r, res_nil, res_tmp, pack_1, scal_vi, h3]
end Go.Proofs.YtkedcelpadiakaaGreat
namespace Go.Proofs.YtkedcelpadiakaaGreat
open Go Go.Abs Go.Num
set_option maxRecDepth 10000
attribute [local congr] bindO_congr bindF_congr bindX_congr condX_congr iteB_congr binS_congr pickS_congr eqB_congr nilS_congr clsW_congr maxS_congr minS_congr
theorem fO0 : fieldOff Tryz.prog 34 0 = some 0 := by kernel_rfl
theorem fO1 : fieldOff Tryz.prog 34 1 = some 1 := by kernel_rfl
theorem z2I : zeros Tryz.prog 3 1 2 = some [vi 0, vi 0] := by kernel_rfl
theorem scal_agg2 {u v : Value} : scal (.agg #[u, v]) = some [u, v] := (rfl)
theorem sy_b2 {call : CallF} {a : Fr} {H : Heap} {d : Option Nat} {ty : TypeId} {pos : String} {aft : Array Edge} {g : Option (Nat × Bool)} {x y : Operand} {p q : Int} (hx : ev a x = vi p) (hy : ev a y = vi q) : stepA Tryz.prog call a ⟨d, .buildSlice 22 2 #[(0, x), (1, y)], ty, pos, aft, g⟩ H = some (sliceA H.length 0 2 1, H ++ [.cells H.length true [vi p, vi q]]) :=
  sy_build2 (u := vi p) (v := vi q) eL z2I hx hy rfl rfl
theorem et_at {P : Program} {call : CallF} {ops : Array Oper} {k nt id : Nat} {rd : Option Nat} {a : Fr} {H : Heap} {D : Nat → Bool} (hd : D id = true) (bs : Array Nat) (hb : Region.before ops = bs) (Q : Fr → Heap → Prop) (h : ∃ r, evOpsI P call ops 0 ops.toList a H [(none, H)] [] = some r ∧ (∀ G ∈ r.2.2.1, ∀ q ∈ r.2.2.2, ordB bs G.1 q.1 = false → stillReads P G.2 q.2.1 q.2.2.1 q.2.2.2 = true) ∧ Q r.1 r.2.1) :
    ∃ a' H', evT P call k nt rd D (.region id ops true) a H = some (.normal, a', H') ∧ Q a' H' := by
  obtain ⟨a', H', e, q⟩ := et_idx (k := k) (nt := nt) (id := id) (rd := rd) bs hb Q h
  refine ⟨a', H', ?_, q⟩
  rw [es_draw] at e ⊢
  rw [hd]; exact e
def Dr1 : Nat → Bool := fun id => id == 1
theorem clsCmp : CmpSaysK Tryz.prog 51 cmpO := by
  intro r u r' u' l1 l2 l3 l4
  refine ⟨evB Tryz.prog bC 2000, 2000, ?_⟩
  have hok : CallOK Tryz.prog (evB Tryz.prog bC 2000) := evB_ok hmix bC_ok bC_grow 2000
  have hgr : CallGrow (evB Tryz.prog bC 2000) := evB_grow bC_grow 2000
  obtain ⟨n, hn⟩ : ∃ n, n = 2000 := ⟨_, rfl⟩
  rw [← hn] at hok hgr ⊢
  suffices h : ∃ H', evBody Tryz.prog (evB Tryz.prog bC n) n (.func (.func 51) #[] #[]) (cmpArgs r u r' u') (cmpHeap r u r' u') = some (vi (cmpO (r, u) (r', u')), H') by
    obtain ⟨H', h⟩ := h; exact ⟨H', hok, hgr, h⟩
  have hl4 : (cmpHeap r u r' u').length = 4 := rfl
  have hr : ∀ J, R (cmpHeap r u r' u' ++ J) (sliceA 0 0 r.length 1) (ints r) ∧ R (cmpHeap r u r' u' ++ J) (sliceA 1 0 u.length 1) (ints u) ∧ R (cmpHeap r u r' u' ++ J) (sliceA 2 0 r'.length 1) (ints r') ∧ R (cmpHeap r u r' u' ++ J) (sliceA 3 0 u'.length 1) (ints u') := fun J =>
    ⟨.inr (.inr ⟨0, 0, 0, false, ints r, by rw [ints_len], rfl, by simp, by simp⟩), .inr (.inr ⟨1, 0, 1, false, ints u, by rw [ints_len], rfl, by simp, by simp⟩), .inr (.inr ⟨2, 0, 2, false, ints r', by rw [ints_len], rfl, by simp, by simp⟩), .inr (.inr ⟨3, 0, 3, false, ints u', by rw [ints_len], rfl, by simp, by simp⟩)⟩
  rw [show cmpArgs r u r' u' = [.agg #[sliceA 0 0 r.length 1, sliceA 1 0 u.length 1], .agg #[sliceA 2 0 r'.length 1, sliceA 3 0 u'.length 1]] from rfl]
  have v1 : vEq (sliceA 0 0 r.length 1) (sliceA 0 0 r.length 1) = true := vEq_sl
  have v2 : vEq (sliceA 1 0 u.length 1) (sliceA 1 0 u.length 1) = true := vEq_sl
  have v3 : vEq (sliceA 2 0 r'.length 1) (sliceA 2 0 r'.length 1) = true := vEq_sl
  have v4 : vEq (sliceA 3 0 u'.length 1) (sliceA 3 0 u'.length 1) = true := vEq_sl
  generalize cmpHeap r u r' u' = H0 at *
  generalize sliceA 0 0 r.length 1 = s1 at *
  generalize sliceA 1 0 u.length 1 = s2 at *
  generalize sliceA 2 0 r'.length 1 = s3 at *
  generalize sliceA 3 0 u'.length 1 = s4 at *
  rw [body_runS Tryz.func51 rfl (ok_fn (by rfl) Tryz.func51 rfl) (Nat.le_of_ble_eq_true rfl) (D := Dr1) (by kernel_rfl)]
  simp (disch := omega) only [Tryz.f51, es_seq, es_region, es_ret, ops_nil, ops_cons, st_assign, bindO_some, bindF_some, bindX_normal, ev_tmp, ev_const, putA, upd_at, Option.map_some, ↓reduceIte, Nat.reduceEqDiff, frOf_0, frOf_1, ↓bindO_some, ↓bindF_some, ↓bindX_normal, sy_box, scal_agg]
  have hH : H0 ++ [Blk.cells H0.length true [s1, s2]] ++ [Blk.cells (H0 ++ [Blk.cells H0.length true [s1, s2]]).length true [s3, s4]] = H0 ++ [.cells H0.length true [s1, s2], .cells (H0.length + 1) true [s3, s4]] := by simp
  rw [hH]
  have hb2 : ptrA (H0 ++ [Blk.cells H0.length true [s1, s2]]).length 0 = ptrA (H0.length + 1) 0 := by simp
  rw [hb2]
  obtain ⟨g1, g2, g3, g4⟩ := hr [.cells H0.length true [s1, s2], .cells (H0.length + 1) true [s3, s4]]
  have m1 : ∀ J, loadS (ptrA H0.length (0 + 0)) (H0 ++ [.cells H0.length true [s1, s2], .cells (H0.length + 1) true [s3, s4]] ++ J) = some s1 := fun J => by simp [loadS, ptrA, Heap.cell]
  have m2 : ∀ J, loadS (ptrA H0.length (0 + 1)) (H0 ++ [.cells H0.length true [s1, s2], .cells (H0.length + 1) true [s3, s4]] ++ J) = some s2 := fun J => by simp [loadS, ptrA, Heap.cell]
  have m3 : ∀ J, loadS (ptrA (H0.length + 1) (0 + 0)) (H0 ++ [.cells H0.length true [s1, s2], .cells (H0.length + 1) true [s3, s4]] ++ J) = some s3 := fun J => by simp [loadS, ptrA, Heap.cell]
  have m4 : ∀ J, loadS (ptrA (H0.length + 1) (0 + 1)) (H0 ++ [.cells H0.length true [s1, s2], .cells (H0.length + 1) true [s3, s4]] ++ J) = some s4 := fun J => by simp [loadS, ptrA, Heap.cell]
  have f1 : ∀ (b k : Nat), faddrS k (ptrA b 0) = some (ptrA b (0 + k)) := fun b k => rfl
  generalize hHH : H0 ++ [Blk.cells H0.length true [s1, s2], .cells (H0.length + 1) true [s3, s4]] = H2 at *
  have q1 := slcmp_run g1 g3 (by omega) (by omega) n (by omega)
  have q2 := slcmp_run g2 g4 (by omega) (by omega) n (by omega)
  have e1 := m1 []
  have e2 := m2 []
  have e3 := m3 []
  have e4 := m4 []
  rw [List.append_nil] at e1 e2 e3 e4
  have d1 := m1 [.cells H2.length true [vi (cmpL r r'), vi (cmpL u u')]]
  have d2 := m2 [.cells H2.length true [vi (cmpL r r'), vi (cmpL u u')]]
  have d3 := m3 [.cells H2.length true [vi (cmpL r r'), vi (cmpL u u')]]
  have d4 := m4 [.cells H2.length true [vi (cmpL r r'), vi (cmpL u u')]]
  have rO : R (H2 ++ [.cells H2.length true [vi (cmpL r r'), vi (cmpL u u')]]) (sliceA H2.length 0 2 1) (ints [cmpL r r', cmpL u u']) := .inr (.inr ⟨H2.length, 0, H2.length, true, _, rfl, by simp; rfl, by simp [ints], by simp [ints]⟩)
  have q3 := or_run rO (by simp) n (by omega)
  have ho : orL [cmpL r r', cmpL u u'] = cmpO (r, u) (r', u') := by
    unfold cmpO
    simp only [orL]
    by_cases h : cmpL r r' = 0
    · rw [if_pos h, if_pos h]; split <;> omega
    · rw [if_neg h, if_neg h]
  rw [ho] at q3
  have key : ∀ A : Fr, A 2 = ptrA H0.length 0 → A 3 = ptrA (H0.length + 1) 0 → ∃ a' H', evT Tryz.prog (evB Tryz.prog bC n) n Tryz.f51.ntmps none Dr1 (atC [1, 0] ((Tryz.f51.body).getD .skip)) A H2 = some (.normal, a', H') ∧ a' 4 = vi (cmpO (r, u) (r', u')) := by
    intro A h2 h3
    simp only [Tryz.f51, Option.getD_some, atC]
    refine et_at (by rfl) #[0, 1, 0, 4, 15, 0, 32, 0, 128, 511, 1023, 2047, 4095] (by kernel_rfl) (fun a' H' => a' 4 = vi (cmpO (r, u) (r', u'))) ?_
    simp (disch := omega) only [st_assign, st_fun, bindO_some, ev_tmp, ev_func, putA, upd_at, Option.map_some, ↓reduceIte, Nat.reduceEqDiff, Nat.zero_add, List.map_cons, List.map_nil, ↓bindO_some, sy_load aL, opsI_nil, opsI_cons, Nat.reduceAdd, clsW_eff, clsW_all, clsW_read, clsW_pure, ↓clsW_eff, ↓clsW_all, ↓clsW_read, ↓clsW_pure, cls_assign, cls_load, cls_callF, cls_faddr, cls_buildS, sy_faddr fO0, sy_faddr fO1, h2, h3, f1, e1, e2, e3, e4, q1, q2]
    rw [sy_b2 (p := cmpL r r') (q := cmpL u u') (by simp only [ev_tmp, upd_at, ↓reduceIte, Nat.reduceEqDiff]) (by simp only [ev_tmp, upd_at, ↓reduceIte])]
    simp (disch := omega) only [bindO_some, ↓bindO_some, q3]
    refine ⟨_, rfl, ?_, ?_⟩
    · intro G hG q hq
      simp only [List.mem_cons, List.not_mem_nil, or_false] at hG hq
      rcases hq with rfl | rfl | rfl | rfl <;> rcases hG with rfl | rfl | rfl | rfl | rfl <;> first
        | (intro h; dsimp only at h; exact absurd h (by decide))
        | (intro _; simp only [still_ld aL, ev_tmp, upd_at, ↓reduceIte, e1, e2, e3, e4, v1, v2, v3, v4])
    · simp only [upd_at, ↓reduceIte]
  simp only [Tryz.f51, Option.getD_some, atC] at key
  generalize hA : upd _ 4 _ = A
  obtain ⟨a', H', e, h4⟩ := key A (by subst hA; rfl) (by subst hA; rfl)
  rw [e]
  simp (disch := omega) only [bindX_normal, Option.map_some, ↓bindX_normal, fin_r, res_nil, res_tmp, pack_1, scal_vi, h4]
  exact ⟨_, rfl⟩
theorem srtK_ent : ∀ args w, (callFunc 50 args).run Tryz.prog w = .ok (.enter 50 args) w := enters_of Tryz.func50 (by kernel_rfl) rfl
theorem cls_ent : ∀ args w, (callFunc 51 args).run Tryz.prog w = .ok (.enter 51 args) w := enters_of Tryz.func51 (by kernel_rfl) rfl
theorem sortSaysK : SortSaysK Tryz.prog 50 51 := by
  intro N enc cf blk off cap w h2 h1 hO hT hcmp hH hblk hN
  have h := Go.Proofs.AnyQ.slices_SortFunc_total srtKLays 2 Tryz.isAgg34 Tryz.sizeOf34 enc h2 h1 cf hO 51 #[] blk off cap (List.finRange (N + 1)).toArray w cls_ent (by simpa using hcmp) hH hblk (by simp; omega) hT
  simp only [List.size_toArray, List.length_finRange] at h
  exact h
theorem srtK_ok : CallOK Tryz.prog (sortKC 50 51 cmpO) := sortKC_ok hmix srtK_ent sortSaysK clsCmp cmpO_ord
theorem srtKNone (fv : Value) (w : World) : Calls Tryz.prog 50 #[.slice none 0 0, fv] w fun e w' => e = .returned (.tuple #[]) ∧ w' = w :=
  Go.Proofs.AnyF.slices_SortFunc_none (P := Tryz.prog) (ρ := srtKRen) srtKLays none 0 fv w
end Go.Proofs.YtkedcelpadiakaaGreat
namespace Go.Proofs.YtkedcelpadiakaaGreat
open Go Go.Abs Go.Num
set_option maxRecDepth 10000
attribute [local congr] bindO_congr bindF_congr bindX_congr condX_congr iteB_congr binS_congr pickS_congr eqB_congr nilS_congr clsW_congr maxS_congr minS_congr
theorem aO : isAggT Tryz.prog 34 = some true := by kernel_rfl
theorem zO : sizeT Tryz.prog 34 = some 2 := by kernel_rfl
theorem iO : zeroT Tryz.prog 34 = some (.agg #[.slice none 0 0, .slice none 0 0]) := by kernel_rfl
theorem eOO : sliceElem Tryz.prog 27 = some (34, 2) := by kernel_rfl
theorem oOO : zeros Tryz.prog 34 2 1 = some [.slice none 0 0, .slice none 0 0] := by kernel_rfl
theorem pOO : ((bytesT Tryz.prog 34).isSome && decide ((bytesT Tryz.prog 34).getD 0 ≤ maxA) && (zeros Tryz.prog 34 2 1).isSome) = true := by kernel_rfl
def opsOf : Code → Array Oper
  | .region _ ops _ => ops
  | _ => #[]
noncomputable def clB : Code := (Tryz.f14.body).getD .skip
noncomputable def clOps0 : Array Oper := opsOf (atC [1,1,1,1,1,1,0,0] clB)
noncomputable def clOps1 : Array Oper := opsOf (atC [1,1,1,1,1,1,0,1,0,0,0] clB)
noncomputable def clOps2 : Array Oper := opsOf (atC [1,1,1,1,1,1,0,1,0,0,1,1,0,0] clB)
noncomputable def clBody : Code := atC [1,1,1,1,1,1,0,1,0,0,1,1,0,1] clB
def FamOK (H : Heap) : Prop := ∀ (b f : Nat) (o : Bool) (cs : List Value), H[b]? = some (.cells f o cs) → f < H.length
theorem FamOK.app {H : Heap} (h : FamOK H) {f : Nat} {o : Bool} {cs : List Value} (hf : f ≤ H.length) : FamOK (H ++ [.cells f o cs]) := by
  intro b g o' cs' hb
  by_cases hlt : b < H.length
  · rw [List.getElem?_append_left hlt] at hb; have := h b g o' cs' hb; simp; omega
  · rw [List.getElem?_append_right (by omega)] at hb
    have e : b - H.length = 0 := by have := lt_of_blk hb; simp at this; omega
    rw [e] at hb
    simp at hb
    simp; omega
theorem FamOK.trunc {H : Heap} (h : FamOK H) (f k : Nat) : FamOK (H.map (truncFam f k)) := by
  intro b g o cs hb
  rw [List.getElem?_map] at hb
  cases hx : H[b]? with
  | none => rw [hx] at hb; cases hb
  | some x =>
    rw [hx, Option.map_some] at hb
    cases x with
    | cells f' o' cs' =>
      unfold truncFam at hb
      simp only at hb
      split at hb <;> (injection hb with hb; injection hb with h1 _ _; subst h1; have := h b _ _ _ hx; simpa using this)
    | _ => injection hb with hb; simp [truncFam] at hb
theorem trunc_none {H : Heap} {f : Nat} (h : ∀ (b g : Nat) (o : Bool) (cs : List Value), H[b]? = some (.cells g o cs) → g ≠ f) (k : Nat) : H.map (truncFam f k) = H := by
  apply List.ext_getElem?
  intro b
  rw [List.getElem?_map]
  cases hx : H[b]? with
  | none => rfl
  | some x =>
    rw [Option.map_some, truncFam_other]
    intro g o cs e
    subst e
    exact h b g o cs hx
def flatV (done : List (Value × Value)) : List Value := done.flatMap fun e => match e.2 with
  | .agg cs => cs.toList
  | _ => []
def OutL (n0 : Nat) (H : Heap) (w : Value) (done : List (Value × Value)) : Prop :=
  (w = .slice none 0 0 ∧ done = []) ∨ ∃ b f, w = sliceA b 0 done.length 2 ∧ n0 ≤ b ∧ n0 ≤ f ∧ H[b]? = some (.cells f true (flatV done)) ∧ (flatV done).length = done.length * 2 ∧ 0 < done.length
def PeC (e : Value × Value) : Prop := ∃ x y, e.2 = .agg #[x, y] ∧ scal x = some [x] ∧ scal y = some [y]
def ClI (n0 gi : Nat) (G0 : Heap) (done : List (Value × Value)) (a : Fr) (H : Heap) : Prop :=
  a 58 = .pointer (some ⟨gi, 0, none⟩) ∧ Old n0 G0 H ∧ FamOK H ∧ OutL n0 H (a 11) done
theorem cl_store {H : Heap} (hf : FamOK H) {x y u v : Value} : storeN 2 (ptrA H.length 0) (.agg #[x, y]) (H ++ [.cells H.length true [u, v]]) = some (H ++ [.cells H.length true [x, y]]) := by
  simp only [storeN, ptrA, scal_agg2, List.length_cons, List.length_nil, Nat.reduceAdd, if_true, Heap.write]
  have hg : (H ++ [Blk.cells H.length true [u, v]])[H.length]? = some (.cells H.length true [u, v]) := by simp
  rw [hg]
  simp only [List.length_cons, List.length_nil, Nat.zero_add, Nat.reduceAdd, Nat.le_refl, if_true, setList]
  congr 1
  have e1 : H.map (truncFam H.length 0) = H := trunc_none (fun b g o cs hb => by have := hf b g o cs hb; omega) 0
  rw [List.map_append, e1]
  apply List.ext_getElem?
  intro i
  rw [List.getElem?_set]
  by_cases hi : H.length = i
  · subst hi; simp
  · rw [if_neg hi]
    by_cases hlt : i < H.length
    · rw [List.getElem?_append_left hlt, List.getElem?_append_left hlt]
    · rw [List.getElem?_eq_none (by simp; omega), List.getElem?_eq_none (by simp; omega)]
theorem cl_load {H : Heap} {x y : Value} : loadN 2 (ptrA H.length 0) (H ++ [.cells H.length true [x, y]]) = some (.agg #[x, y]) := by
  simp [loadN, ptrA, Heap.cellsAt]
theorem cl_app {n0 : Nat} {G0 H : Heap} {w x y : Value} {e : Value × Value} {done : List (Value × Value)} (ho : Old n0 G0 H) (hf : FamOK H) (hG : ∀ (b f : Nat) (o : Bool) (cs : List Value), G0[b]? = some (.cells f o cs) → f < n0) (hn0 : n0 ≤ H.length) (hw : OutL n0 H w done) (he : e.2 = .agg #[x, y]) (hl : done.length < 100000) :
    ∃ w' H', appNS 2 w (sliceA H.length 0 1 2) (H ++ [.cells H.length true [x, y]]) = some (w', H') ∧ OutL n0 H' w' (done ++ [e]) ∧ Old n0 G0 H' ∧ FamOK H' := by
  have hr : readA (H ++ [.cells H.length true [x, y]]) 2 (sliceA H.length 0 1 2) = some [x, y] := by simp [readA, sliceA, Heap.cellsAt]
  have oldA : ∀ J, Old n0 G0 (H ++ J) := fun J => ⟨by have := ho.1; simp; omega, fun b hb => by rw [List.getElem?_append_left (by omega)]; exact ho.2 b hb⟩
  rcases hw with ⟨rfl, rfl⟩ | ⟨b, f, rfl, h1, h2, hb, h3, h4⟩
  · refine ⟨sliceA (H.length + 1) 0 1 2, H ++ [.cells H.length true [x, y]] ++ [.cells (H.length + 1) true [x, y]], ?_, ?_, ?_, ?_⟩
    · unfold appNS
      rw [hr]
      simp [sliceA, maxA]
    · refine .inr ⟨H.length + 1, H.length + 1, rfl, by omega, by omega, ?_, ?_, by simp⟩
      · simp [flatV, he]
      · simp [flatV, he]
    · rw [List.append_assoc]; exact oldA _
    · exact (hf.app (Nat.le_refl _)).app (by simp)
  · have hblt := lt_of_blk hb
    have hb1 : (H ++ [Blk.cells H.length true [x, y]])[b]? = some (.cells f true (flatV done)) := by rw [List.getElem?_append_left hblt]; exact hb
    have hff := hf b f true _ hb
    refine ⟨sliceA (H.length + 1) 0 (done.length + 1) 2, (H ++ [Blk.cells H.length true [x, y]]).map (truncFam f (done.length * 2)) ++ [.cells f true (flatV done ++ [x, y])], ?_, ?_, ?_, ?_⟩
    · unfold appNS
      rw [hr]
      simp only [sliceA, Nat.one_ne_zero, if_false, hb1]
      rw [if_pos ⟨trivial, by omega, by omega, by unfold maxA; omega⟩, List.take_of_length_le (by omega)]
      simp
    · refine .inr ⟨H.length + 1, f, by simp, by omega, h2, ?_, ?_, by simp⟩
      · simp [flatV, he]
      · have : flatV (done ++ [e]) = flatV done ++ [x, y] := by simp [flatV, he]
        rw [this]; simp; omega
    · refine ⟨by have := ho.1; simp; omega, fun c hc => ?_⟩
      rw [List.getElem?_append_left (by simp; omega), List.getElem?_map, List.getElem?_append_left (by omega), ho.2 c hc]
      cases hx : G0[c]? with
      | none => rfl
      | some z =>
        rw [Option.map_some, truncFam_other]
        intro g o cs e'
        subst e'
        have := hG c g o cs hx
        omega
    · exact ((hf.app (Nat.le_refl _)).trunc f _).app (by simp; omega)
theorem cl_round {call : CallF} {kk nt n0 gi : Nat} {G0 : Heap} (hG : ∀ (b f : Nat) (o : Bool) (cs : List Value), G0[b]? = some (.cells f o cs) → f < n0) (hn0 : n0 ≤ G0.length) {done : List (Value × Value)} {e : Value × Value} {a : Fr} {H : Heap} (he : PeC e) (hl : done.length < 100000) (hI : ClI n0 gi G0 done a H) :
    ∃ a1 H1 a2 H2, evOps Tryz.prog call clOps2 (clOps2.toList.drop 1) (upd a 61 (.tuple #[e.1, e.2])) H = some (a1, H1) ∧ evCode Tryz.prog call kk nt none clBody a1 H1 = some (.normal, a2, H2) ∧ ClI n0 gi G0 (done ++ [e]) a2 H2 := by
  obtain ⟨x, y, hxy, sx, sy⟩ := he
  obtain ⟨h58, ho, hf, hout⟩ := hI
  have sA := cl_store hf (x := x) (y := y) (u := .slice none 0 0) (v := .slice none 0 0)
  have sL := cl_load (H := H) (x := x) (y := y)
  have ho1 : Old n0 G0 (H ++ [.cells H.length true [x, y]]) := ⟨by have := ho.1; simp; omega, fun b hb => by rw [List.getElem?_append_left (by have := ho.1; omega)]; exact ho.2 b hb⟩
  have hout1 : OutL n0 (H ++ [.cells H.length true [x, y]]) (a 11) done := by
    rcases hout with h | ⟨b, f, h1, h2, h3, h4, h5⟩
    · exact .inl h
    · exact .inr ⟨b, f, h1, h2, h3, by rw [List.getElem?_append_left (lt_of_blk h4)]; exact h4, h5⟩
  obtain ⟨w', H', sP, out', old', fam'⟩ := cl_app (e := e) (x := x) (y := y) ho1 (hf.app (Nat.le_refl _)) hG (by have := ho.1; simp; omega) hout1 hxy hl
  generalize hH1 : H ++ [Blk.cells H.length true [x, y]] = H1 at *
  have ext1 : extS (.tuple #[e.1, .agg #[x, y]]) 1 = some (.agg #[x, y]) := rfl
  rw [hxy]
  have k1 : ∃ a1, evOps Tryz.prog call clOps2 (clOps2.toList.drop 1) (upd a 61 (.tuple #[e.1, .agg #[x, y]])) H = some (a1, H1) ∧ a1 58 = a 58 ∧ a1 11 = a 11 ∧ a1 13 = ptrA H.length 0 := by
    rw [show clOps2 = opsOf (atC [1,1,1,1,1,1,0,1,0,0,1,1,0,0] ((Tryz.f14.body).getD .skip)) from rfl]
    simp (disch := omega) only [Tryz.f14, Option.getD_some, atC, opsOf, List.drop, es_seq, es_region, es_draw, d0, es_cond, es_block, es_loop, es_skip, es_exit, es_ret, ops_nil, ops_cons, ops_consG, opsV_nil, opsV_cons, opsV_consG, st_move, st_assign, sy_max, sy_min, maxS_vi, minS_vi, sy_pick, pickS_true, pickS_false, st_fun, sy_len uL, sy_addr eL, sy_load aI, sy_store zI, sy_bin, sy_neg, st_not, sy_append eL pI, sy_build1 eL oI, sy_build0 eL nI, sy_slice eL, sy_ext, ext_20, ext_21, sy_make eL yI (by decide), binS_lss, binS_gtr, binS_leq, binS_geq, binS_eql, binS_neq, binS_add, binS_sub, binS_mul, binS_quo, binS_rem, bindO_some, bindF_some, bindX_normal, bindX_exit, bindX_ret, blkX_normal, blkX_exit, blkX_ret, condX_true, condX_false, iteB_true, iteB_false, ev_tmp, ev_const, ev_func, putA, upd_at, Option.map_some, ↓reduceIte, Nat.reduceEqDiff, Nat.zero_add, Int.toNat_natCast, Int.natCast_nonneg, true_and, Nat.mul_one, frOf_0, frOf_1, frOf_2, frOf_3, frOf_4, List.map_cons, List.map_nil, decide_true, decide_false, Bool.not_true, Bool.not_false, yieldO_eq, yO, yV_bool, yV_undef, none_some, some_true, some_false, List.getElem?_cons_zero, List.getElem?_cons_succ, beq_self_eq_true, Bool.false_eq_true, dec00, dec0n, b_ft, b_tf, ↓bindO_some, ↓bindF_some, ↓bindX_normal, ↓bindX_exit, ↓bindX_ret, ↓condX_true, ↓condX_false, ↓iteB_true, ↓iteB_false, reflV_load, reflV_move, reflV_assign, reflV_pick, reflV_bin, reflV_un, reflV_addr, reflV_call, reflV_build, reflV_make, reflV_slice, reflV_extract, reflV_store, vEq_vi, vEq_bool, fin_n, fin_r, res_nil, res_tmp, pack_1, pack_2, pack_3, scal_vi, scal_bool, scal_nil, scal_sl, sy_load aL, sy_load aB, sy_store zL, sy_store zB, sy_faddr fW0, sy_faddr fW1, sy_loadN aW zW, sy_storeN zW, sy_alloc iW scal_agg, sy_box, sy_build, bW0, sy_eq qB, sy_ne nB, eqB_bool, reflV_loadN, reflV_buildS, reflV_box, reflV_alloc, reflV_faddr, reflV_field, res_cell aW zW, scal_agg, Bool.false_xor, Bool.true_xor, sy_alloc iO scal_agg2, sy_storeN zO, ext1, sA]
    exact ⟨_, rfl, rfl, rfl, rfl⟩
  obtain ⟨a1, k2, k58, k11, k13⟩ := k1
  refine ⟨a1, H1, ?_⟩
  have k3 : ∃ a2, evCode Tryz.prog call kk nt none clBody a1 H1 = some (.normal, a2, H') ∧ a2 58 = a1 58 ∧ a2 11 = w' := by
    rw [evS_eq (D := D0) clBody (by rfl), show clBody = atC [1,1,1,1,1,1,0,1,0,0,1,1,0,1] ((Tryz.f14.body).getD .skip) from rfl]
    simp (disch := omega) only [Tryz.f14, Option.getD_some, atC, es_seq, es_region, es_draw, d0, es_cond, es_block, es_loop, es_skip, es_exit, es_ret, ops_nil, ops_cons, ops_consG, opsV_nil, opsV_cons, opsV_consG, st_move, st_assign, sy_max, sy_min, maxS_vi, minS_vi, sy_pick, pickS_true, pickS_false, st_fun, sy_len uL, sy_addr eL, sy_load aI, sy_store zI, sy_bin, sy_neg, st_not, sy_append eL pI, sy_build1 eL oI, sy_build0 eL nI, sy_slice eL, sy_ext, ext_20, ext_21, sy_make eL yI (by decide), binS_lss, binS_gtr, binS_leq, binS_geq, binS_eql, binS_neq, binS_add, binS_sub, binS_mul, binS_quo, binS_rem, bindO_some, bindF_some, bindX_normal, bindX_exit, bindX_ret, blkX_normal, blkX_exit, blkX_ret, condX_true, condX_false, iteB_true, iteB_false, ev_tmp, ev_const, ev_func, putA, upd_at, Option.map_some, ↓reduceIte, Nat.reduceEqDiff, Nat.zero_add, Int.toNat_natCast, Int.natCast_nonneg, true_and, Nat.mul_one, frOf_0, frOf_1, frOf_2, frOf_3, frOf_4, List.map_cons, List.map_nil, decide_true, decide_false, Bool.not_true, Bool.not_false, yieldO_eq, yO, yV_bool, yV_undef, none_some, some_true, some_false, List.getElem?_cons_zero, List.getElem?_cons_succ, beq_self_eq_true, Bool.false_eq_true, dec00, dec0n, b_ft, b_tf, ↓bindO_some, ↓bindF_some, ↓bindX_normal, ↓bindX_exit, ↓bindX_ret, ↓condX_true, ↓condX_false, ↓iteB_true, ↓iteB_false, reflV_load, reflV_move, reflV_assign, reflV_pick, reflV_bin, reflV_un, reflV_addr, reflV_call, reflV_build, reflV_make, reflV_slice, reflV_extract, reflV_store, vEq_vi, vEq_bool, fin_n, fin_r, res_nil, res_tmp, pack_1, pack_2, pack_3, scal_vi, scal_bool, scal_nil, scal_sl, sy_load aL, sy_load aB, sy_store zL, sy_store zB, sy_faddr fW0, sy_faddr fW1, sy_loadN aW zW, sy_storeN zW, sy_alloc iW scal_agg, sy_box, sy_build, bW0, sy_eq qB, sy_ne nB, eqB_bool, reflV_loadN, reflV_buildS, reflV_box, reflV_alloc, reflV_faddr, reflV_field, res_cell aW zW, scal_agg, Bool.false_xor, Bool.true_xor, k13, k11, sy_loadN aO zO, sL, sy_buildN eOO oOO rfl rfl, scal_agg2, buildS_2, sy_appN eOO pOO, sP]
    exact ⟨_, rfl, rfl, rfl⟩
  obtain ⟨a2, k4, k5, k6⟩ := k3
  exact ⟨a2, H', k2, k4, by rw [k5, k58]; exact h58, old', fam', by rw [k6]; exact out'⟩
end Go.Proofs.YtkedcelpadiakaaGreat
namespace Go.Proofs.YtkedcelpadiakaaGreat
open Go Go.Abs Go.Num
theorem ms_int {acc : List Nat} {v : Value} {z : Int} (h : MS acc v (.int .i64 z)) : v = .int .i64 z := by
  rcases h with ⟨_, h⟩ | ⟨b, j, o, n, e, _, h, _⟩
  · exact h.symm
  · cases h
theorem ms_ints {acc : List Nat} : ∀ {cs : List Value} {l : List Int}, All2 (MS acc) cs (l.map (.int .i64)) → cs = l.map (.int .i64) := by
  intro cs l
  induction l generalizing cs with
  | nil => intro h; cases h; rfl
  | cons z l ih =>
    intro h
    cases h with
    | cons h1 h2 => rw [List.map_cons, ← ih h2, ms_int h1]
theorem ms_slice {acc : List Nat} {v : Value} {j n : Nat} (h : MS acc v (.slice (some ⟨j, 0, none⟩) n 1)) : ∃ b, v = .slice (some ⟨b, 0, none⟩) n 1 ∧ acc[j]? = some b := by
  rcases h with ⟨hi, h⟩ | ⟨b, j', o, m, e, h1, h2, h3⟩
  · rw [← h] at hi; simp [immOk] at hi
  · injection h2 with h2 h4 h5
    injection h2 with h2
    injection h2 with h6 h7 _
    subst h6; subst h7; subst h4; subst h5
    exact ⟨b, h1, h3⟩
theorem canB_get : ∀ {E : List Key2} {i : Nat} {r u : List Int}, E[i]? = some (r, u) → (canB E)[2 * i]? = some (r.map (.int .i64)) ∧ (canB E)[2 * i + 1]? = some (u.map (.int .i64)) := by
  intro E
  induction E with
  | nil => intro i r u h; simp at h
  | cons k E ih =>
    intro i r u h
    obtain ⟨r0, u0⟩ := k
    cases i with
    | zero => simp at h; obtain ⟨rfl, rfl⟩ := h; exact ⟨rfl, rfl⟩
    | succ i =>
      have := ih (i := i) (by simpa using h)
      rw [show 2 * (i + 1) = 2 * i + 2 from by omega]
      exact ⟨by simpa [canB] using this.1, by simpa [canB] using this.2⟩
theorem canB_len (E : List Key2) : (canB E).length = 2 * E.length := by
  induction E with
  | nil => rfl
  | cons k E ih => obtain ⟨r, u⟩ := k; simp [canB, ih]; omega
def EntAt (acc : List Nat) (j : Nat) (e : Value × Value) (k : Key2) : Prop :=
  ∃ s bx by', e = (.string s, .agg #[.slice (some ⟨bx, 0, none⟩) k.1.length 1, .slice (some ⟨by', 0, none⟩) k.2.length 1]) ∧ acc[j]? = some bx ∧ acc[j + 1]? = some by'
theorem ents_at {acc : List Nat} : ∀ {es : List (Value × Value)} {fl : List Value} {E : List Key2} {j : Nat}, flatE es = some fl → All2 (MS acc) fl (canS j E) → es.length = E.length ∧ ∀ i e, es[i]? = some e → ∃ k, E[i]? = some k ∧ EntAt acc (j + 2 * i) e k := by
  intro es
  induction es with
  | nil =>
    intro fl E j h hA
    simp [flatE] at h
    subst h
    cases E with
    | nil => exact ⟨rfl, fun i e h => by simp at h⟩
    | cons k E => obtain ⟨r, u⟩ := k; cases hA
  | cons e es ih =>
    intro fl E j h hA
    unfold flatE at h
    split at h
    · rename_i h'; cases h'
    · rename_i s cs r' h'
      injection h' with h1 h2
      subst h1; subst h2
      split at h
      · rename_i a b hab
        cases hr : flatE es with
        | none => rw [hr] at h; cases h
        | some l =>
          rw [hr] at h
          simp only [Option.map_some] at h
          injection h with h
          subst h
          cases E with
          | nil => cases hA
          | cons k E =>
            obtain ⟨r, u⟩ := k
            simp only [canS] at hA
            cases hA with
            | cons m1 hA => cases hA with
              | cons m2 hA =>
                obtain ⟨bx, rfl, q1⟩ := ms_slice m1
                obtain ⟨by', rfl, q2⟩ := ms_slice m2
                obtain ⟨i1, i2⟩ := ih hr hA
                refine ⟨by simp [i1], fun i e he => ?_⟩
                cases i with
                | zero =>
                  simp at he
                  subst he
                  refine ⟨(r, u), rfl, s, bx, by', ?_, q1, q2⟩
                  have : cs = #[.slice (some ⟨bx, 0, none⟩) r.length 1, .slice (some ⟨by', 0, none⟩) u.length 1] := by cases cs; simp at hab; rw [hab]
                  rw [this]
                | succ i =>
                  obtain ⟨k, k1, s', bx', by'', k2, k3, k4⟩ := i2 i e (by simpa using he)
                  exact ⟨k, by simpa using k1, s', bx', by'', k2, by rw [show j + 2 * (i + 1) = j + 2 + 2 * i from by omega]; exact k3, by rw [show j + 2 * (i + 1) = j + 2 + 2 * i from by omega]; exact k4⟩
      · cases h
    · cases h
def blkOf (v : Value) : Nat := match v with
  | .slice (some ⟨b, _, _⟩) _ _ => b
  | _ => 0
def pairE (e : Value × Value) : Value × Value := match e.2 with
  | .agg cs => (cs.toList.getD 0 undef, cs.toList.getD 1 undef)
  | _ => (undef, undef)
def leZ (x y : Key × (Value × Value)) : Bool := !decide (cmpO y.1 x.1 < 0)
def leE (x y : Key) : Bool := !decide (cmpO y x < 0)
def sortE (E : List Key) : List Key := E.mergeSort leE
theorem leE_trans (a b c : Key) (h1 : leE a b = true) (h2 : leE b c = true) : leE a c = true := by
  simp only [leE, Bool.not_eq_true', decide_eq_false_iff_not] at *
  exact cmpO_ord.ntrans _ _ _ h2 h1
theorem leE_total (a b : Key) : (leE a b || leE b a) = true := by
  simp only [leE, Bool.or_eq_true, Bool.not_eq_true', decide_eq_false_iff_not]
  have := cmpO_anti a b
  omega
theorem leE_anti {a b : Key} (h1 : leE a b = true) (h2 : leE b a = true) : a = b := by
  simp only [leE, Bool.not_eq_true', decide_eq_false_iff_not] at *
  exact cmpO_ord.total _ _ h2 h1
theorem sort_perm {l l' : List (Key × (Value × Value))} (hp : l'.Perm l) (hn : (l.map (·.1)).Nodup) : l'.mergeSort leZ = l.mergeSort leZ := by
  have tr : ∀ a b c : Key × (Value × Value), leZ a b = true → leZ b c = true → leZ a c = true := fun a b c => leE_trans a.1 b.1 c.1
  have to : ∀ a b : Key × (Value × Value), (leZ a b || leZ b a) = true := fun a b => leE_total a.1 b.1
  have h1 := List.pairwise_mergeSort (le := leZ) tr to l'
  have h2 := List.pairwise_mergeSort (le := leZ) tr to l
  have hp2 : (l'.mergeSort leZ).Perm (l.mergeSort leZ) := (List.mergeSort_perm l' leZ).trans (hp.trans (List.mergeSort_perm l leZ).symm)
  refine hp2.eq_of_pairwise (fun a b ha hb k1 k2 => ?_) h1 h2
  have hk : a.1 = b.1 := leE_anti k1 k2
  have ha' : a ∈ l := hp.mem_iff.1 ((List.mergeSort_perm l' leZ).mem_iff.1 ha)
  have hb' : b ∈ l := (List.mergeSort_perm l leZ).mem_iff.1 hb
  have inj : ∀ (l : List (Key × (Value × Value))), (l.map (·.1)).Nodup → ∀ x ∈ l, ∀ y ∈ l, x.1 = y.1 → x = y := by
    intro l
    induction l with
    | nil => intro _ x hx; cases hx
    | cons z l ih =>
      intro hn x hx y hy hxy
      rw [List.map_cons, List.nodup_cons] at hn
      rcases List.mem_cons.1 hx with rfl | hx
      · rcases List.mem_cons.1 hy with rfl | hy
        · rfl
        · exact absurd (List.mem_map.2 ⟨y, hy, hxy.symm⟩) hn.1
      · rcases List.mem_cons.1 hy with hz | hy'
        · exact absurd (show z.1 ∈ l.map (·.1) from List.mem_map.2 ⟨x, hx, by rw [hxy, hz]⟩) hn.1
        · exact ih hn.2 x hx y hy' hxy
  exact inj l hn a ha' b hb' hk
theorem pairsOf_flat2 : ∀ ps : List (Value × Value), pairsOf (flat2 ps) = some ps := by
  intro ps
  induction ps with
  | nil => rfl
  | cons p ps ih =>
    show pairsOf (p.1 :: p.2 :: flat2 ps) = _
    simp only [pairsOf, ih, Option.map_some]
theorem mapO_map {α β γ : Type} (f : β → Option γ) (g : α → β) (h : α → γ) : ∀ l : List α, (∀ x ∈ l, f (g x) = some (h x)) → mapO f (l.map g) = some (l.map h) := by
  intro l
  induction l with
  | nil => intro _; rfl
  | cons x l ih =>
    intro hl
    rw [List.map_cons, mapO, hl x (List.mem_cons_self ..), ih fun y hy => hl y (List.mem_cons_of_mem _ hy)]
    rfl
end Go.Proofs.YtkedcelpadiakaaGreat
namespace Go.Proofs.YtkedcelpadiakaaGreat
open Go Go.Abs Go.Num
def ZOK (H : Heap) (z : Key × (Value × Value)) : Prop :=
  ∃ bx by', z.2 = (.slice (some ⟨bx, 0, none⟩) z.1.1.length 1, .slice (some ⟨by', 0, none⟩) z.1.2.length 1) ∧ (∃ f, H[bx]? = some (.cells f true (z.1.1.map (.int .i64)))) ∧ ∃ f, H[by']? = some (.cells f true (z.1.2.map (.int .i64)))
def blk2 (z : Key × (Value × Value)) : List Nat := [blkOf z.2.1, blkOf z.2.2]
def RB (H : Heap) (b c : Nat) : Prop := ∀ (f : Nat) (cs ds : List Value), H[b]? = some (.cells f true cs) → H[c]? = some (.cells f true ds) → False
theorem RB.symm {H : Heap} {b c : Nat} (h : RB H b c) : RB H c b := fun f cs ds h1 h2 => h f ds cs h2 h1
def zsOf (E : List Key2) (es : List (Value × Value)) : List (Key × (Value × Value)) := E.zip (es.map pairE)
theorem zs_blk {acc : List Nat} : ∀ {es : List (Value × Value)} {fl : List Value} {E : List Key2} {j : Nat}, flatE es = some fl → All2 (MS acc) fl (canS j E) → (zsOf E es).flatMap blk2 = (acc.drop j).take (2 * E.length) ∧ (zsOf E es).map (·.1) = E ∧ (zsOf E es).map (·.2) = es.map pairE := by
  intro es fl E
  induction E generalizing es fl with
  | nil =>
    intro j h hA
    obtain ⟨h1, _⟩ := ents_at h hA
    cases es with
    | nil => exact ⟨by simp [zsOf], rfl, rfl⟩
    | cons e es => simp at h1
  | cons k E ih =>
    intro j h hA
    obtain ⟨h1, h2⟩ := ents_at h hA
    cases es with
    | nil => simp at h1
    | cons e es =>
      obtain ⟨k', hk, s, bx, by', he, q1, q2⟩ := h2 0 e rfl
      simp at hk
      subst hk
      subst he
      obtain ⟨r, u⟩ := k
      have h3 : ∃ l, flatE es = some l ∧ fl = .slice (some ⟨bx, 0, none⟩) r.length 1 :: .slice (some ⟨by', 0, none⟩) u.length 1 :: l := by
        simp only [flatE] at h
        cases hf : flatE es with
        | none => rw [hf] at h; cases h
        | some l => rw [hf] at h; injection h with h; exact ⟨l, rfl, h.symm⟩
      obtain ⟨l, h4, rfl⟩ := h3
      simp only [canS] at hA
      cases hA with
      | cons _ hA => cases hA with
        | cons _ hA =>
          obtain ⟨i1, i2, i3⟩ := ih h4 hA
          have e0 : zsOf ((r, u) :: E) ((.string s, .agg #[.slice (some ⟨bx, 0, none⟩) r.length 1, .slice (some ⟨by', 0, none⟩) u.length 1]) :: es) = ((r, u), (.slice (some ⟨bx, 0, none⟩) r.length 1, .slice (some ⟨by', 0, none⟩) u.length 1)) :: zsOf E es := rfl
          simp only at e0 ⊢
          rw [e0]
          refine ⟨?_, by simp only [List.map_cons, i2], by simp only [List.map_cons, i3]; rfl⟩
          rw [List.flatMap_cons, i1]
          simp only [Nat.mul_zero, Nat.add_zero] at q1 q2
          have hj1 : j + 1 < acc.length := (List.getElem?_eq_some_iff.1 q2).1
          have d1 : acc.drop j = bx :: by' :: acc.drop (j + 2) := by
            rw [List.drop_eq_getElem_cons (by omega), List.drop_eq_getElem_cons (i := j + 1) (by omega)]
            rw [(List.getElem?_eq_some_iff.1 q1).2, (List.getElem?_eq_some_iff.1 q2).2]
          rw [d1, List.length_cons, show 2 * (E.length + 1) = 2 * E.length + 1 + 1 from by omega, List.take_succ_cons, List.take_succ_cons]
          rfl
theorem zs_ok {acc : List Nat} {es : List (Value × Value)} {fl : List Value} {E : List Key2} {H : Heap} (h : flatE es = some fl) (hA : All2 (MS acc) fl (canS 0 E))
    (hB : ∀ (j b : Nat), acc[j]? = some b → ∃ f cs c, H[b]? = some (.cells f true cs) ∧ (canB E)[j]? = some c ∧ All2 (MS acc) cs c) : ∀ z ∈ zsOf E es, ZOK H z := by
  intro z hz
  obtain ⟨h1, h2⟩ := ents_at h hA
  obtain ⟨i, hi, rfl⟩ := List.getElem_of_mem hz
  have hl : i < E.length ∧ i < es.length := by simp only [zsOf, List.length_zip, List.length_map] at hi; omega
  have hes : es[i]? = some es[i] := List.getElem?_eq_getElem hl.2
  obtain ⟨k, hk, s, bx, by', he, q1, q2⟩ := h2 i _ hes
  have ez : (zsOf E es)[i] = (k, (.slice (some ⟨bx, 0, none⟩) k.1.length 1, .slice (some ⟨by', 0, none⟩) k.2.length 1)) := by
    simp only [zsOf, List.getElem_zip, List.getElem_map, he]
    rw [(List.getElem?_eq_some_iff.1 hk).2]
    rfl
  rw [ez]
  rw [Nat.zero_add] at q1
  rw [show 0 + 2 * i + 1 = 2 * i + 1 from by omega] at q2
  obtain ⟨f1, cs1, c1, a1, a2, a3⟩ := hB _ _ q1
  obtain ⟨f2, cs2, c2, b1, b2, b3⟩ := hB _ _ q2
  obtain ⟨g1, g2⟩ := canB_get (r := k.1) (u := k.2) hk
  rw [g1] at a2; injection a2 with a2; subst a2
  rw [g2] at b2; injection b2 with b2; subst b2
  rw [ms_ints a3] at a1
  rw [ms_ints b3] at b1
  exact ⟨bx, by', rfl, ⟨f1, a1⟩, f2, b1⟩
theorem flatV_pair : ∀ {es : List (Value × Value)}, (∀ e ∈ es, PeC e) → flatV es = flat2 (es.map pairE) := by
  intro es
  induction es with
  | nil => intro _; rfl
  | cons e es ih =>
    intro h
    obtain ⟨x, y, hx, _⟩ := h e (List.mem_cons_self ..)
    have i := ih fun e he => h e (List.mem_cons_of_mem _ he)
    unfold flatV flat2 at *
    rw [List.flatMap_cons, List.map_cons, List.flatMap_cons, i, hx]
    simp [pairE, hx]
theorem es_pe {acc : List Nat} {es : List (Value × Value)} {fl : List Value} {E : List Key2} (h : flatE es = some fl) (hA : All2 (MS acc) fl (canS 0 E)) : ∀ e ∈ es, PeC e ∧ ∃ s, e.1 = .string s := by
  intro e he
  obtain ⟨i, hi, rfl⟩ := List.getElem_of_mem he
  obtain ⟨k, hk, s, bx, by', q, _, _⟩ := (ents_at h hA).2 i _ (List.getElem?_eq_getElem hi)
  rw [q]
  exact ⟨⟨_, _, rfl, rfl, rfl⟩, s, rfl⟩
theorem good_at {H : Heap} {acc : List Nat} : ∀ {S : List (Key × (Value × Value))} {j : Nat}, (∀ z ∈ S, ZOK H z) → acc.drop j = S.flatMap blk2 →
    All2 (MS acc) (flat2 (S.map (·.2))) (canS j (S.map (·.1))) ∧ (∀ (i b : Nat), (S.flatMap blk2)[i]? = some b → ∃ f c, H[b]? = some (.cells f true c) ∧ (canB (S.map (·.1)))[i]? = some c ∧ ∃ l : List Int, c = l.map (.int .i64)) ∧ (canB (S.map (·.1))).length = (S.flatMap blk2).length := by
  intro S
  induction S with
  | nil => intro j _ _; exact ⟨.nil, fun i b h => by simp at h, rfl⟩
  | cons z S ih =>
    intro j hz hd
    obtain ⟨bx, by', e, ⟨f1, h1⟩, f2, h2⟩ := hz z (List.mem_cons_self ..)
    obtain ⟨⟨r, u⟩, p⟩ := z
    simp only at e h1 h2
    subst e
    have hd0 : acc.drop j = bx :: by' :: S.flatMap blk2 := by rw [hd, List.flatMap_cons]; rfl
    have hd2 : acc.drop (j + 2) = S.flatMap blk2 := by
      have : (acc.drop j).drop 2 = S.flatMap blk2 := by rw [hd0]; rfl
      rw [List.drop_drop] at this
      exact this
    have g1 : acc[j]? = some bx := by have := congrArg (fun l : List Nat => l[0]?) hd0; simpa using this
    have g2 : acc[j + 1]? = some by' := by have := congrArg (fun l : List Nat => l[1]?) hd0; simpa using this
    obtain ⟨i1, i2, i3⟩ := ih (fun z hz' => hz z (List.mem_cons_of_mem _ hz')) hd2
    refine ⟨.cons (.inr ⟨bx, j, 0, _, 1, rfl, rfl, g1⟩) (.cons (.inr ⟨by', j + 1, 0, _, 1, rfl, rfl, g2⟩) i1), fun i b hb => ?_, ?_⟩
    · rw [List.flatMap_cons] at hb
      match i, hb with
      | 0, hb =>
        have e : bx = b := by simpa [blk2, blkOf] using hb
        subst e
        exact ⟨f1, _, h1, rfl, r, rfl⟩
      | 1, hb =>
        have e : by' = b := by simpa [blk2, blkOf] using hb
        subst e
        exact ⟨f2, _, h2, rfl, u, rfl⟩
      | i + 2, hb =>
        have hb : (S.flatMap blk2)[i]? = some b := by simpa [blk2] using hb
        obtain ⟨f, c, k1, k2, k3⟩ := i2 i b hb
        exact ⟨f, c, k1, by simpa [canB] using k2, k3⟩
    · rw [List.flatMap_cons, List.map_cons, canB, List.length_cons, List.length_cons, i3]
      simp [blk2]
theorem all_ints (acc : List Nat) (l : List Int) : All2 (MS acc) (l.map (.int .i64)) (l.map (.int .i64)) := by
  induction l with
  | nil => exact .nil
  | cons z l ih => exact .cons (.inl ⟨rfl, rfl⟩) ih
def clsR (SE : List Key2) : Res := (.tuple #[sliceA 0 0 SE.length 2, vi 0], canS 1 SE :: canB SE)
theorem good_sorted {H : Heap} {b f : Nat} {S : List (Key × (Value × Value))} (hz : ∀ z ∈ S, ZOK H z) (hb : H[b]? = some (.cells f true (flat2 (S.map (·.2))))) (hp : (S.flatMap blk2).Pairwise (RB H)) (hf : ∀ c ∈ S.flatMap blk2, RB H b c) :
    GoodRes (b :: S.flatMap blk2) H (.tuple #[sliceA b 0 S.length 2, vi 0]) (clsR (S.map (·.1))) := by
  obtain ⟨g1, g2, g3⟩ := good_at (acc := b :: S.flatMap blk2) (j := 1) hz rfl
  have hp2 : (b :: S.flatMap blk2).Pairwise (RB H) := List.pairwise_cons.2 ⟨hf, hp⟩
  refine ⟨.inl ⟨_, _, rfl, rfl, .cons (.inr (.inr ⟨b, 0, 0, S.length, 2, rfl, by simp [sliceA], rfl⟩)) (.cons (.inr (.inl ⟨rfl, rfl⟩)) .nil)⟩, by simp only [clsR, List.length_cons, g3], fun j c hj => ?_, fun i j b1 c1 f1 cs ds hij h1 h2 h3 h4 => ?_⟩
  · cases j with
    | zero =>
      simp at hj
      subst hj
      exact ⟨f, _, _, hb, rfl, g1⟩
    | succ j =>
      obtain ⟨f1, c1, k1, k2, l, rfl⟩ := g2 j c (by simpa using hj)
      exact ⟨f1, _, _, k1, by simpa [clsR] using k2, all_ints _ l⟩
  · have key : ∀ (i j b1 c1 : Nat), i < j → (b :: S.flatMap blk2)[i]? = some b1 → (b :: S.flatMap blk2)[j]? = some c1 → RB H b1 c1 := by
      intro i j b1 c1 hlt h1 h2
      obtain ⟨i1, i2⟩ := List.getElem?_eq_some_iff.1 h1
      obtain ⟨j1, j2⟩ := List.getElem?_eq_some_iff.1 h2
      have := List.pairwise_iff_getElem.1 hp2 i j i1 j1 hlt
      rwa [i2, j2] at this
    rcases Nat.lt_or_gt_of_ne hij with h | h
    · exact key i j b1 c1 h h1 h2 f1 cs ds h3 h4
    · exact key j i c1 b1 h h2 h1 f1 ds cs h4 h3
end Go.Proofs.YtkedcelpadiakaaGreat
namespace Go.Proofs.YtkedcelpadiakaaGreat
open Go Go.Abs Go.Num
set_option maxRecDepth 10000
attribute [local congr] bindO_congr bindF_congr bindX_congr condX_congr iteB_congr binS_congr pickS_congr eqB_congr nilS_congr clsW_congr maxS_congr minS_congr
noncomputable def srtKC : CallF := orC (sortKC 50 51 cmpO) (sortN 50)
theorem srtKC_ok : CallOK Tryz.prog srtKC := orC_ok srtK_ok (sortN_ok srtK_ent srtKNone)
theorem srtKC_grow : CallGrow srtKC := orC_grow sortKC_grow sortN_grow
theorem aM : isAggT Tryz.prog 75 = some false := by kernel_rfl
noncomputable abbrev cAt (i : Nat) : Code := atC (List.replicate i 1 ++ [0]) clB
theorem clB_eq : clB = .seq (cAt 0) (.seq (cAt 1) (.seq (cAt 2) (.seq (cAt 3) (.seq (cAt 4) (.seq (cAt 5) (.seq (cAt 6) (.seq (cAt 7) (.seq (cAt 8) .ret)))))))) := by kernel_rfl
theorem ok0 : codeOk Tryz.f14.ntmps (cAt 0) = true := by kernel_rfl
theorem ok1 : codeOk Tryz.f14.ntmps (cAt 1) = true := by kernel_rfl
theorem ok2 : codeOk Tryz.f14.ntmps (cAt 2) = true := by kernel_rfl
theorem ok3 : codeOk Tryz.f14.ntmps (cAt 3) = true := by kernel_rfl
theorem ok4 : codeOk Tryz.f14.ntmps (cAt 4) = true := by kernel_rfl
theorem ok5 : codeOk Tryz.f14.ntmps (cAt 5) = true := by kernel_rfl
theorem ok6 : codeOk Tryz.f14.ntmps (cAt 6) = true := by kernel_rfl
theorem ok7 : codeOk Tryz.f14.ntmps (cAt 7) = true := by kernel_rfl
theorem ok8 : codeOk Tryz.f14.ntmps (cAt 8) = true := by kernel_rfl
theorem cls_ent0 : ∀ args w, (callFunc 14 args).run Tryz.prog w = .ok (.enter 14 args) w := enters_of Tryz.func14 (by kernel_rfl) rfl
theorem c5_run {call : CallF} {n : Nat} {a a' : Fr} {H H' : Heap} (h : evCode Tryz.prog call n Tryz.f14.ntmps none (cAt 5) a H = some (.normal, a', H')) : a' 11 = .slice none 0 0 := by
  have e : evCode Tryz.prog call n Tryz.f14.ntmps none (cAt 5) a H = some (.normal, upd a 11 (.slice none 0 0), H) := by
    rw [evS_eq (D := D0) (cAt 5) (by rfl), show cAt 5 = atC [1,1,1,1,1,0] ((Tryz.f14.body).getD .skip) from rfl]
    simp only [Tryz.f14, Option.getD_some, atC, es_seq, es_region, es_draw, d0, es_cond, es_block, es_loop, es_skip, es_exit, es_ret, ops_nil, ops_cons, ops_consG, opsV_nil, opsV_cons, opsV_consG, st_move, st_assign, sy_max, sy_min, maxS_vi, minS_vi, sy_pick, pickS_true, pickS_false, st_fun, sy_len uL, sy_addr eL, sy_load aI, sy_store zI, sy_bin, sy_neg, st_not, sy_append eL pI, sy_build1 eL oI, sy_build0 eL nI, sy_slice eL, sy_ext, ext_20, ext_21, sy_make eL yI (by decide), binS_lss, binS_gtr, binS_leq, binS_geq, binS_eql, binS_neq, binS_add, binS_sub, binS_mul, binS_quo, binS_rem, bindO_some, bindF_some, bindX_normal, bindX_exit, bindX_ret, blkX_normal, blkX_exit, blkX_ret, condX_true, condX_false, iteB_true, iteB_false, ev_tmp, ev_const, ev_func, putA, upd_at, Option.map_some, ↓reduceIte, Nat.reduceEqDiff, Nat.zero_add, Int.toNat_natCast, Int.natCast_nonneg, true_and, Nat.mul_one, frOf_0, frOf_1, frOf_2, frOf_3, frOf_4, List.map_cons, List.map_nil, decide_true, decide_false, Bool.not_true, Bool.not_false, yieldO_eq, yO, yV_bool, yV_undef, none_some, some_true, some_false, List.getElem?_cons_zero, List.getElem?_cons_succ, beq_self_eq_true, Bool.false_eq_true, dec00, dec0n, b_ft, b_tf, ↓bindO_some, ↓bindF_some, ↓bindX_normal, ↓bindX_exit, ↓bindX_ret, ↓condX_true, ↓condX_false, ↓iteB_true, ↓iteB_false, reflV_load, reflV_move, reflV_assign, reflV_pick, reflV_bin, reflV_un, reflV_addr, reflV_call, reflV_build, reflV_make, reflV_slice, reflV_extract, reflV_store, vEq_vi, vEq_bool, fin_n, fin_r, res_nil, res_tmp, pack_1, pack_2, pack_3, scal_vi, scal_bool, scal_nil, scal_sl]
  rw [e] at h
  injection h with h
  injection h with _ h
  injection h with h _
  rw [← h]; rfl
theorem c7_run {call : CallF} {n : Nat} {a : Fr} {H H' : Heap} {v : Value} (h : call (.func (.func 50) #[] #[]) [a 11, .func (.func 51) #[] #[]] H = some (v, H')) :
    ∃ a', evCode Tryz.prog call n Tryz.f14.ntmps none (cAt 7) a H = some (.normal, a', H') ∧ a' 11 = a 11 := by
  rw [evS_eq (D := D0) (cAt 7) (by rfl), show cAt 7 = atC [1,1,1,1,1,1,1,0] ((Tryz.f14.body).getD .skip) from rfl]
  simp only [Tryz.f14, Option.getD_some, atC, es_seq, es_region, es_draw, d0, es_cond, es_block, es_loop, es_skip, es_exit, es_ret, ops_nil, ops_cons, ops_consG, opsV_nil, opsV_cons, opsV_consG, st_move, st_assign, sy_max, sy_min, maxS_vi, minS_vi, sy_pick, pickS_true, pickS_false, st_fun, sy_len uL, sy_addr eL, sy_load aI, sy_store zI, sy_bin, sy_neg, st_not, sy_append eL pI, sy_build1 eL oI, sy_build0 eL nI, sy_slice eL, sy_ext, ext_20, ext_21, sy_make eL yI (by decide), binS_lss, binS_gtr, binS_leq, binS_geq, binS_eql, binS_neq, binS_add, binS_sub, binS_mul, binS_quo, binS_rem, bindO_some, bindF_some, bindX_normal, bindX_exit, bindX_ret, blkX_normal, blkX_exit, blkX_ret, condX_true, condX_false, iteB_true, iteB_false, ev_tmp, ev_const, ev_func, putA, upd_at, Option.map_some, ↓reduceIte, Nat.reduceEqDiff, Nat.zero_add, Int.toNat_natCast, Int.natCast_nonneg, true_and, Nat.mul_one, frOf_0, frOf_1, frOf_2, frOf_3, frOf_4, List.map_cons, List.map_nil, decide_true, decide_false, Bool.not_true, Bool.not_false, yieldO_eq, yO, yV_bool, yV_undef, none_some, some_true, some_false, List.getElem?_cons_zero, List.getElem?_cons_succ, beq_self_eq_true, Bool.false_eq_true, dec00, dec0n, b_ft, b_tf, ↓bindO_some, ↓bindF_some, ↓bindX_normal, ↓bindX_exit, ↓bindX_ret, ↓condX_true, ↓condX_false, ↓iteB_true, ↓iteB_false, reflV_load, reflV_move, reflV_assign, reflV_pick, reflV_bin, reflV_un, reflV_addr, reflV_call, reflV_build, reflV_make, reflV_slice, reflV_extract, reflV_store, vEq_vi, vEq_bool, fin_n, fin_r, res_nil, res_tmp, pack_1, pack_2, pack_3, scal_vi, scal_bool, scal_nil, scal_sl, h]
  exact ⟨_, rfl, rfl⟩
theorem c8_run {call : CallF} {n : Nat} {a : Fr} {H : Heap} : ∃ a', evCode Tryz.prog call n Tryz.f14.ntmps none (cAt 8) a H = some (.normal, a', H) ∧ a' 2 = a 11 ∧ a' 3 = vi 0 := by
  rw [evS_eq (D := D0) (cAt 8) (by rfl), show cAt 8 = atC [1,1,1,1,1,1,1,1,0] ((Tryz.f14.body).getD .skip) from rfl]
  simp only [Tryz.f14, Option.getD_some, atC, es_seq, es_region, es_draw, d0, es_cond, es_block, es_loop, es_skip, es_exit, es_ret, ops_nil, ops_cons, ops_consG, opsV_nil, opsV_cons, opsV_consG, st_move, st_assign, sy_max, sy_min, maxS_vi, minS_vi, sy_pick, pickS_true, pickS_false, st_fun, sy_len uL, sy_addr eL, sy_load aI, sy_store zI, sy_bin, sy_neg, st_not, sy_append eL pI, sy_build1 eL oI, sy_build0 eL nI, sy_slice eL, sy_ext, ext_20, ext_21, sy_make eL yI (by decide), binS_lss, binS_gtr, binS_leq, binS_geq, binS_eql, binS_neq, binS_add, binS_sub, binS_mul, binS_quo, binS_rem, bindO_some, bindF_some, bindX_normal, bindX_exit, bindX_ret, blkX_normal, blkX_exit, blkX_ret, condX_true, condX_false, iteB_true, iteB_false, ev_tmp, ev_const, ev_func, putA, upd_at, Option.map_some, ↓reduceIte, Nat.reduceEqDiff, Nat.zero_add, Int.toNat_natCast, Int.natCast_nonneg, true_and, Nat.mul_one, frOf_0, frOf_1, frOf_2, frOf_3, frOf_4, List.map_cons, List.map_nil, decide_true, decide_false, Bool.not_true, Bool.not_false, yieldO_eq, yO, yV_bool, yV_undef, none_some, some_true, some_false, List.getElem?_cons_zero, List.getElem?_cons_succ, beq_self_eq_true, Bool.false_eq_true, dec00, dec0n, b_ft, b_tf, ↓bindO_some, ↓bindF_some, ↓bindX_normal, ↓bindX_exit, ↓bindX_ret, ↓condX_true, ↓condX_false, ↓iteB_true, ↓iteB_false, reflV_load, reflV_move, reflV_assign, reflV_pick, reflV_bin, reflV_un, reflV_addr, reflV_call, reflV_build, reflV_make, reflV_slice, reflV_extract, reflV_store, vEq_vi, vEq_bool, fin_n, fin_r, res_nil, res_tmp, pack_1, pack_2, pack_3, scal_vi, scal_bool, scal_nil, scal_sl]
  exact ⟨_, rfl, rfl, rfl⟩
def clsRes (E : List Key2) : Res := match E with
  | [] => (.tuple #[.slice none 0 0, vi 0], [])
  | k :: E => clsR (sortE (k :: E))
end Go.Proofs.YtkedcelpadiakaaGreat
namespace Go.Proofs.YtkedcelpadiakaaGreat
open Go Go.Abs Go.Num
theorem unInts_map (l : List Int) : unInts (l.map (.int .i64)) = some l := by
  induction l with
  | nil => rfl
  | cons z l ih => simp only [List.map_cons, unInts, ih, Option.map_some]
theorem setList_all {cs vs : List Value} (h : vs.length = cs.length) : setList cs 0 vs = vs := by
  apply List.ext_getElem?
  intro i
  rw [setList_get _ _ _ _ (by omega)]
  by_cases hi : i < vs.length
  · rw [if_pos ⟨by omega, by omega⟩, Nat.sub_zero]
  · rw [if_neg (by omega), List.getElem?_eq_none (by omega), List.getElem?_eq_none (by omega)]
theorem zip_self {α β : Type} (κ : α → β) : ∀ l : List α, (l.map κ).zip l = l.map fun p => (κ p, p) := by
  intro l
  induction l with
  | nil => rfl
  | cons x l ih => simp only [List.map_cons, List.zip_cons_cons, ih]
theorem flat2_map_len (S : List (Key × (Value × Value))) : (flat2 (S.map (·.2))).length = S.length * 2 := by rw [flat2_len, List.length_map]
theorem sort_run {H1 H2 : Heap} {mb b f : Nat} {done es : List (Value × Value)} {E : List Key2} {acc : List Nat} {fl : List Value} (hfl : flatE es = some fl) (hA : All2 (MS acc) fl (canS 0 E)) (hlen : (canB E).length = acc.length)
    (hB : ∀ (j b : Nat), acc[j]? = some b → ∃ f cs c, H1[b]? = some (.cells f true cs) ∧ (canB E)[j]? = some c ∧ All2 (MS acc) cs c)
    (hD : ∀ (i j b c f : Nat) cs ds, i ≠ j → acc[i]? = some b → acc[j]? = some c → H1[b]? = some (.cells f true cs) → H1[c]? = some (.cells f true ds) → False)
    (hF : ∀ (b f : Nat) (o : Bool) (cs : List Value), H1[b]? = some (.cells f o cs) → f < H1.length) (hmb : H1[mb]? = some (.map es)) (hold : Old (H1.length + 1) (H1.set mb .dead ++ [.dead]) H2)
    (hp : es.Perm done) (hf0 : H1.length + 1 ≤ f) (hb0 : H1.length + 1 ≤ b) (hb : H2[b]? = some (.cells f true (flatV done))) (hl : (flatV done).length = done.length * 2) (hpos : 0 < done.length) (hE : E.Nodup) (hr : ∀ k ∈ E, k.1.length ≤ 100 ∧ k.2.length ≤ 100) (hsz : E.length < 1000000) :
    ∃ H3, srtKC (.func (.func 50) #[] #[]) [sliceA b 0 done.length 2, .func (.func 51) #[] #[]] H2 = some (.tuple #[], H3) ∧ ∃ acc', GoodRes acc' H3 (.tuple #[sliceA b 0 done.length 2, vi 0]) (clsR (sortE E)) := by
  obtain ⟨z1, z2, z3⟩ := zs_blk hfl hA
  have zok := zs_ok hfl hA hB
  have hEl : es.length = E.length := (ents_at hfl hA).1
  have hdl : done.length = E.length := by rw [← hp.length_eq, hEl]
  have hpe := es_pe hfl hA
  generalize hZ : zsOf E es = Zs at *
  have up : ∀ (c g : Nat) (cs : List Value), H1[c]? = some (.cells g true cs) → g ≠ f ∧ c ≠ b ∧ H2[c]? = some (.cells g true cs) := by
    intro c g cs h
    have h1 := (List.getElem?_eq_some_iff.1 h).1
    have h2 := hF _ _ _ _ h
    refine ⟨by omega, by omega, ?_⟩
    have hne : mb ≠ c := fun e => by rw [← e, hmb] at h; cases h
    rw [hold.2 c (by omega), List.getElem?_append_left (by simpa using h1), List.getElem?_set, if_neg hne]
    exact h
  have row : ∀ (c g : Nat) (l : List Int), l.length ≤ 100 → H1[c]? = some (.cells g true (l.map (.int .i64))) → rowOf H2 f (.slice (some ⟨c, 0, none⟩) l.length 1) = some l := by
    intro c g l hl h
    obtain ⟨u1, u2, u3⟩ := up _ _ _ h
    unfold rowOf
    simp only [u3]
    rw [if_pos ⟨u1, by simp, hl⟩, List.drop_zero, List.take_of_length_le (by simp)]
    exact unInts_map l
  have hk : ∀ z ∈ Zs, Abs.keyOf H2 f z.2 = some z.1 := by
    intro z hz
    obtain ⟨bx, by', e, ⟨f1, h1⟩, f2, h2⟩ := zok z hz
    have hkE : z.1 ∈ E := by rw [← z2]; exact List.mem_map.2 ⟨z, hz, rfl⟩
    obtain ⟨l1, l2⟩ := hr _ hkE
    rw [e]
    unfold Abs.keyOf
    simp only [row _ _ _ l1 h1, row _ _ _ l2 h2]
  let κ : Value × Value → Key := fun p => (Abs.keyOf H2 f p).getD ([], [])
  have hκ : ∀ z ∈ Zs, κ z.2 = z.1 := fun z hz => by show (Abs.keyOf H2 f z.2).getD _ = _; rw [hk z hz]; rfl
  have hZs : Zs = (es.map pairE).map fun p => (κ p, p) := by
    rw [← z3, List.map_map]
    conv => lhs; rw [← List.map_id Zs]
    apply List.map_congr_left
    intro z hz
    show z = (κ z.2, z.2)
    rw [hκ z hz]
  have hpm : ((done.map pairE).map fun p => (κ p, p)).Perm Zs := by
    rw [hZs]; exact (hp.symm.map pairE).map _
  have hks : mapO (Abs.keyOf H2 f) (done.map pairE) = some (done.map fun e => κ (pairE e)) := by
    apply mapO_map
    intro e he
    have : pairE e ∈ Zs.map (·.2) := by rw [z3]; exact List.mem_map.2 ⟨e, hp.mem_iff.2 he, rfl⟩
    obtain ⟨z, hz, ez⟩ := List.mem_map.1 this
    rw [← ez, hk z hz, hκ z hz]
  have hzip : (done.map fun e => κ (pairE e)).zip (done.map pairE) = (done.map pairE).map fun p => (κ p, p) := by
    rw [← zip_self, List.map_map]; rfl
  have hnd : (Zs.map (·.1)).Nodup := by rw [z2]; exact hE
  have hknd : (done.map fun e => κ (pairE e)).Nodup := by
    have e : (done.map fun e => κ (pairE e)) = ((done.map pairE).map fun p => (κ p, p)).map (·.1) := by rw [List.map_map, List.map_map]; rfl
    rw [e]
    exact ((hpm.map (·.1)).nodup_iff).2 hnd
  have hps : pairsOf (((flatV done).drop 0).take (done.length * 2)) = some (done.map pairE) := by
    rw [List.drop_zero, List.take_of_length_le (by omega), flatV_pair fun e he => (hpe e (hp.mem_iff.2 he)).1, pairsOf_flat2]
  let S := Zs.mergeSort leZ
  have hS : sortZ cmpO (done.map fun e => κ (pairE e)) (done.map pairE) = S.map (·.2) := by
    unfold sortZ
    rw [hzip]
    show (((done.map pairE).map fun p => (κ p, p)).mergeSort leZ).map (·.2) = _
    rw [sort_perm hpm hnd]
  have hSp : S.Perm Zs := List.mergeSort_perm Zs leZ
  have hSl : S.length = done.length := by
    rw [hSp.length_eq, hdl, ← z2, List.length_map]
  have hS1 : S.map (·.1) = sortE E := by
    have := List.map_mergeSort (r := leZ) (s := leE) (f := fun z : Key × (Value × Value) => z.1) (l := Zs) (fun a _ b _ => rfl)
    show (Zs.mergeSort leZ).map (·.1) = _
    rw [this, z2]; rfl
  have hvl : (flat2 (S.map (·.2))).length = (flatV done).length := by rw [flat2_map_len, hSl, hl]
  have hw : H2.write b 0 (flat2 (S.map (·.2))) = some ((H2.map (truncFam f 0)).set b (.cells f true (flat2 (S.map (·.2))))) := by
    unfold Heap.write
    simp only [hb]
    rw [if_pos (by omega), setList_all hvl]
  generalize hH3 : (H2.map (truncFam f 0)).set b (.cells f true (flat2 (S.map (·.2)))) = H3 at hw
  have hb3 : H3[b]? = some (.cells f true (flat2 (S.map (·.2)))) := by
    rw [← hH3, List.getElem?_set, if_pos rfl, if_pos (by simpa using (List.getElem?_eq_some_iff.1 hb).1)]
  have up3 : ∀ (c g : Nat) (cs : List Value), H1[c]? = some (.cells g true cs) → H3[c]? = some (.cells g true cs) := by
    intro c g cs h
    obtain ⟨u1, u2, u3⟩ := up _ _ _ h
    rw [← hH3, List.getElem?_set, if_neg (Ne.symm u2), List.getElem?_map, u3, Option.map_some, truncFam_other]
    intro g' o cs' e
    injection e with e1 _ _
    rw [← e1]; exact u1
  refine ⟨H3, ?_, b :: S.flatMap blk2, ?_⟩
  · unfold srtKC orC
    have : sortKC 50 51 cmpO (.func (.func 50) #[] #[]) [sliceA b 0 done.length 2, .func (.func 51) #[] #[]] H2 = some (.tuple #[], H3) := by
      unfold sortKC sliceA
      simp only [hb]
      rw [if_pos ⟨trivial, trivial, trivial, hpos, by omega, by rfl⟩, if_pos (by omega)]
      simp only [hps, hks]
      rw [if_pos hknd, hS, hw]
      rfl
    rw [this]
  · have h := good_sorted (H := H3) (b := b) (f := f) (S := S) (fun z hz => ?_) hb3 ?_ ?_
    · rw [hS1, hSl] at h; exact h
    · obtain ⟨bx, by', e, ⟨f1, h1⟩, f2, h2⟩ := zok z (hSp.mem_iff.1 hz)
      exact ⟨bx, by', e, ⟨f1, up3 _ _ _ h1⟩, f2, up3 _ _ _ h2⟩
    · have hacc : acc.Pairwise (RB H1) := by
        rw [List.pairwise_iff_getElem]
        intro i j hi hj hij g cs ds h1 h2
        exact hD i j _ _ g cs ds (by omega) (List.getElem?_eq_getElem hi) (List.getElem?_eq_getElem hj) h1 h2
      have hzb : Zs.flatMap blk2 = acc := by
        rw [z1, List.drop_zero, List.take_of_length_le]
        rw [← hlen, canB_len]; exact Nat.le_refl _
      have hpp : (S.flatMap blk2).Perm acc := by rw [← hzb]; exact hSp.flatMap_right blk2
      have h1 : (S.flatMap blk2).Pairwise (RB H1) := (List.Perm.pairwise_iff (fun h => RB.symm h) hpp).2 hacc
      refine h1.imp_of_mem fun {x y} hx hy hxy g cs ds k1 k2 => ?_
      obtain ⟨i, hi, ex⟩ := List.getElem_of_mem (hpp.mem_iff.1 hx)
      obtain ⟨j, hj, ey⟩ := List.getElem_of_mem (hpp.mem_iff.1 hy)
      obtain ⟨g1, c1, _, m1, _⟩ := hB i x (by rw [List.getElem?_eq_getElem hi, ex])
      obtain ⟨g2, c2, _, m2, _⟩ := hB j y (by rw [List.getElem?_eq_getElem hj, ey])
      have n1 := up3 _ _ _ m1
      have n2 := up3 _ _ _ m2
      rw [n1] at k1
      rw [n2] at k2
      injection k1 with k1
      injection k1 with k1 _ _
      injection k2 with k2
      injection k2 with k2 _ _
      subst k1; subst k2
      exact hxy _ _ _ m1 m2
    · intro c hc g cs ds k1 k2
      have hc' : ∃ z ∈ Zs, c ∈ blk2 z := by
        obtain ⟨z, hz, hcz⟩ := List.mem_flatMap.1 hc
        exact ⟨z, hSp.mem_iff.1 hz, hcz⟩
      obtain ⟨z, hz, hcz⟩ := hc'
      obtain ⟨bx, by', e, ⟨f1, h1⟩, f2, h2⟩ := zok z hz
      rw [hb3] at k1
      injection k1 with k1
      injection k1 with k1 _ _
      subst k1
      unfold blk2 at hcz
      rw [e] at hcz
      simp only [blkOf, List.mem_cons, List.not_mem_nil, or_false] at hcz
      rcases hcz with rfl | rfl
      · have n1 := up3 _ _ _ h1
        rw [n1] at k2
        injection k2 with k2
        injection k2 with k2 _ _
        exact (up _ _ _ h1).1 k2
      · have n1 := up3 _ _ _ h2
        rw [n1] at k2
        injection k2 with k2
        injection k2 with k2 _ _
        exact (up _ _ _ h2).1 k2
end Go.Proofs.YtkedcelpadiakaaGreat
namespace Go.Proofs.YtkedcelpadiakaaGreat
open Go Go.Abs Go.Num
set_option maxRecDepth 10000
attribute [local congr] bindO_congr bindF_congr bindX_congr condX_congr iteB_congr binS_congr pickS_congr eqB_congr nilS_congr clsW_congr maxS_congr minS_congr
noncomputable abbrev nC : Nat := Tryz.f14.ntmps
noncomputable def clO (ops : Array Oper) (i : Nat) : Oper := ops.toList.getD i ⟨none, .range 0 (.const (.bool false)), 0, "", #[], none⟩
theorem c6_eq : cAt 6 = .seq (.region 17 clOps0 false) (.block 4 (.loop (roundC 60 4 5 18 19 clOps1 clOps2 clBody))) := by kernel_rfl
theorem clL_run {call : CallF} {a : Fr} {H : Heap} {pb mb fam : Nat} {own : Bool} (h5 : a 5 = .pointer (some ⟨pb, 0, none⟩)) (hpb : H[pb]? = some (.cells fam own [.map (some mb)])) : stepA Tryz.prog call a (clO clOps0 0) H = some (.map (some mb), H) := by
  have e : clO clOps0 0 = (clO (opsOf (atC [1,1,1,1,1,1,0,0] ((Tryz.f14.body).getD .skip))) 0) := rfl
  rw [e]
  simp only [clO, Tryz.f14, Option.getD_some, atC, opsOf, List.getD_cons_zero, sy_load aM, ev_tmp, h5]
  simp [loadS, Heap.cell, hpb]
theorem clE_run {call : CallF} (a : Fr) (H : Heap) (vs : Array Value) (bv : Bool) (h : vs[0]? = some (.bool bv)) : evOps Tryz.prog call clOps1 (clOps1.toList.drop 1) (upd a 59 (.tuple vs)) H = some (upd (upd a 59 (.tuple vs)) 60 (.bool bv), H) := by
  rw [show clOps1 = opsOf (atC [1,1,1,1,1,1,0,1,0,0,0] ((Tryz.f14.body).getD .skip)) from rfl]
  have ext : extS (.tuple vs) 0 = some (.bool bv) := by simp [extS, h]
  simp only [Tryz.f14, Option.getD_some, atC, opsOf, List.drop, es_seq, es_region, es_draw, d0, es_cond, es_block, es_loop, es_skip, es_exit, es_ret, ops_nil, ops_cons, ops_consG, opsV_nil, opsV_cons, opsV_consG, st_move, st_assign, sy_max, sy_min, maxS_vi, minS_vi, sy_pick, pickS_true, pickS_false, st_fun, sy_len uL, sy_addr eL, sy_load aI, sy_store zI, sy_bin, sy_neg, st_not, sy_append eL pI, sy_build1 eL oI, sy_build0 eL nI, sy_slice eL, sy_ext, ext_20, ext_21, sy_make eL yI (by decide), binS_lss, binS_gtr, binS_leq, binS_geq, binS_eql, binS_neq, binS_add, binS_sub, binS_mul, binS_quo, binS_rem, bindO_some, bindF_some, bindX_normal, bindX_exit, bindX_ret, blkX_normal, blkX_exit, blkX_ret, condX_true, condX_false, iteB_true, iteB_false, ev_tmp, ev_const, ev_func, putA, upd_at, Option.map_some, ↓reduceIte, Nat.reduceEqDiff, Nat.zero_add, Int.toNat_natCast, Int.natCast_nonneg, true_and, Nat.mul_one, frOf_0, frOf_1, frOf_2, frOf_3, frOf_4, List.map_cons, List.map_nil, decide_true, decide_false, Bool.not_true, Bool.not_false, yieldO_eq, yO, yV_bool, yV_undef, none_some, some_true, some_false, List.getElem?_cons_zero, List.getElem?_cons_succ, beq_self_eq_true, Bool.false_eq_true, dec00, dec0n, b_ft, b_tf, ↓bindO_some, ↓bindF_some, ↓bindX_normal, ↓bindX_exit, ↓bindX_ret, ↓condX_true, ↓condX_false, ↓iteB_true, ↓iteB_false, reflV_load, reflV_move, reflV_assign, reflV_pick, reflV_bin, reflV_un, reflV_addr, reflV_call, reflV_build, reflV_make, reflV_slice, reflV_extract, reflV_store, vEq_vi, vEq_bool, fin_n, fin_r, res_nil, res_tmp, pack_1, pack_2, pack_3, scal_vi, scal_bool, scal_nil, scal_sl, sy_load aL, sy_load aB, sy_store zL, sy_store zB, sy_faddr fW0, sy_faddr fW1, sy_loadN aW zW, sy_storeN zW, sy_alloc iW scal_agg, sy_box, sy_build, bW0, sy_eq qB, sy_ne nB, eqB_bool, reflV_loadN, reflV_buildS, reflV_box, reflV_alloc, reflV_faddr, reflV_field, res_cell aW zW, scal_agg, Bool.false_xor, Bool.true_xor, ext]
theorem good_nil (H : Heap) : GoodRes [] H (.tuple #[.slice none 0 0, vi 0]) (clsRes []) :=
  ⟨.inl ⟨_, _, rfl, rfl, .cons (.inr (.inl ⟨rfl, rfl⟩)) (.cons (.inr (.inl ⟨rfl, rfl⟩)) .nil)⟩, rfl, fun j b h => by simp at h, fun i j b c f cs ds _ h => by simp at h⟩
theorem srt_nil (H : Heap) : srtKC (.func (.func 50) #[] #[]) [.slice none 0 0, .func (.func 51) #[] #[]] H = some (.tuple #[], H) := by
  unfold srtKC orC sortKC sortN
  simp
theorem cls_line {sp : Abs.Spec} (hsp : Ok sp) {arg : Arg} {E : List Key2} (hP : PreC sp arg E) (hn : E.Nodup) (hr : ∀ k ∈ E, k.1.length ≤ 100 ∧ k.2.length ≤ 100) (hsz : E.length < 100000) : LineOK Tryz.prog 14 [arg] (clsRes E) := by
  obtain ⟨hc, hok, hg⟩ := hsp.calls hF hmix 200
  obtain ⟨call, n, a1, H1, pb, mb, fam, own, es, fl, acc, hcall, hgrow, hev, h5, hpb, hmb, hfl, hA, hlen, hB, hD, hFam⟩ := preK_sound hc hok hg (by simp) hP
  have hdl : es.length = E.length := (ents_at hfl hA).1
  have hpe := es_pe hfl hA
  refine line_rel Tryz.func14 (c := clB) rfl (by kernel_rfl) cls_ent0 (by cases arg <;> exact Nat.le_of_ble_eq_true rfl) (Q := fun a H => a 3 = vi 0 ∧ ∃ acc, GoodRes acc H (.tuple #[a 2, vi 0]) (clsRes E) ∧ ∃ x, scal (a 2) = some x) ?_ ?_
  · intro m w hR b hb tmps s0 cs
    rw [clB_eq]
    have hev : evCode Tryz.prog call n nC none (.seq (cAt 0) (.seq (cAt 1) (.seq (cAt 2) (.seq (cAt 3) (.seq (cAt 4) (cAt 5)))))) (frOf (mkVals 0 [arg])) (mkHeap 0 [arg]) = some (.normal, a1, H1) := hev
    obtain ⟨x0, G0, e0, hev⟩ := seq_split hev
    obtain ⟨x1, G1, e1, hev⟩ := seq_split hev
    obtain ⟨x2, G2, e2, hev⟩ := seq_split hev
    obtain ⟨x3, G3, e3, hev⟩ := seq_split hev
    obtain ⟨x4, G4, e4, e5⟩ := seq_split hev
    have hd := drawOK hmix hcall hgrow nC
    obtain ⟨m1, w1, t1, d1, q1, s1, p1⟩ := s0.head hcall hd hb ok0 e0 [] cs
    obtain ⟨m2, w2, t2, d2, q2, s2, p2⟩ := s1.head hcall hd hb ok1 e1 [] cs
    obtain ⟨m3, w3, t3, d3, q3, s3, p3⟩ := s2.head hcall hd hb ok2 e2 [] cs
    obtain ⟨m4, w4, t4, d4, q4, s4, p4⟩ := s3.head hcall hd hb ok3 e3 [] cs
    obtain ⟨m5, w5, t5, d5, q5, s5, p5⟩ := s4.head hcall hd hb ok4 e4 [] cs
    obtain ⟨m6, w6, t6, d6, q6, s6, p6⟩ := s5.head hcall hd hb ok5 e5 [] cs
    have h11 := c5_run e5
    have hG : ∀ (b f : Nat) (o : Bool) (cs : List Value), (H1.set mb .dead ++ [Blk.dead])[b]? = some (.cells f o cs) → f < H1.length + 1 := by
      intro b f o cs h
      by_cases hlt : b < H1.length
      · rw [List.getElem?_append_left (by simpa using hlt), List.getElem?_set] at h
        split at h
        · split at h
          · cases h
          · cases h
        · have := hFam _ _ _ _ h; omega
      · rw [List.getElem?_append_right (by simpa using hlt)] at h
        have := (List.getElem?_eq_some_iff.1 h).1
        simp at this
        have e : b - (H1.set mb Blk.dead).length = 0 := by simp; omega
        rw [e] at h
        simp at h
    have hlen0 : (H1.set mb Blk.dead ++ [Blk.dead]).length = H1.length + 1 := by simp
    have hI : ClI (H1.length + 1) H1.length (H1.set mb .dead ++ [.dead]) [] (upd (upd a1 57 (.map (some mb))) 58 (.pointer (some ⟨H1.length, 0, none⟩))) (H1.set mb .dead ++ [.dead]) :=
      ⟨rfl, ⟨by rw [hlen0]; exact Nat.le_refl _, fun _ _ => rfl⟩, fun b f o cs h => by rw [hlen0]; exact hG b f o cs h, .inl ⟨h11, rfl⟩⟩
    obtain ⟨m7, H2, w7, a2, t7, d7, done, s7, q7, hperm, hI2, p7⟩ := map_range (lo := w.heap.size) hcall hd hb (kk := n) (id0 := 17) (ops0 := clOps0) (oL := clO clOps0 0) (oR := clO clOps0 1) (tm := 57) (it := 58) (tn := 59) (tok := 60) (te := 61) (ex := 4) (bl := 5) (id1 := 18) (id2 := 19) (ops1 := clOps1) (ops2 := clOps2) (o1 := clO clOps1 0) (o2 := clO clOps2 0) (l1 := clOps1.toList.drop 1) (l2 := clOps2.toList.drop 1) (body := clBody)
      (tt := 75) (kt := 9) (et := 34) (mb := mb) (ents := es) (I := ClI (H1.length + 1) H1.length (H1.set mb .dead ++ [.dead])) (Pe := PeC) (N := E.length) (by rw [← c6_eq]; exact ok6)
      (by kernel_rfl) (by kernel_rfl) (by kernel_rfl) (by kernel_rfl) (by kernel_rfl) (by kernel_rfl) (by kernel_rfl) (clL_run h5 hpb) hmb (fun e he => (hpe e he).2) (by kernel_rfl) (by kernel_rfl) (by kernel_rfl) (by kernel_rfl) (by kernel_rfl) (by kernel_rfl) (by kernel_rfl) (by kernel_rfl)
      clE_run (fun _ _ _ h => h.1) (fun _ _ _ _ _ h => h) (fun done e a H he hl hI => cl_round hG (by rw [hlen0]; exact Nat.le_refl _) he (by omega) hI) (fun e he => (hpe e he).1) hdl hI s6 [.code (.seq (cAt 7) (.seq (cAt 8) .ret))] cs
    rw [← c6_eq] at p7
    obtain ⟨_, hold, _, hout⟩ := hI2
    obtain ⟨H3, hc3, hgood⟩ : ∃ H3, srtKC (.func (.func 50) #[] #[]) [a2 11, .func (.func 51) #[] #[]] H2 = some (.tuple #[], H3) ∧ ∃ acc', GoodRes acc' H3 (.tuple #[a2 11, vi 0]) (clsRes E) ∧ ∃ x, scal (a2 11) = some x := by
      rcases hout with ⟨h2, rfl⟩ | ⟨b', f, h2, hb0, hf0, hbk, hl, hpos⟩
      · have hes : es.length = 0 := by rw [hperm.length_eq]; rfl
        have hE0 : E = [] := List.eq_nil_of_length_eq_zero (by omega)
        subst hE0
        exact ⟨H2, by rw [h2]; exact srt_nil H2, [], by rw [h2]; exact good_nil H2, [.slice none 0 0], by rw [h2]; rfl⟩
      · obtain ⟨H3, k1, acc', k2⟩ := sort_run hfl hA hlen hB hD hFam hmb hold hperm hf0 hb0 hbk hl hpos hn hr (by omega)
        refine ⟨H3, by rw [h2]; exact k1, acc', ?_, _, by rw [h2]; rfl⟩
        rw [h2]
        cases E with
        | nil => have := hperm.length_eq; simp at hdl; subst hdl; simp at this; omega
        | cons k E => exact k2
    obtain ⟨a3, e7, h7⟩ := c7_run (n := 0) hc3
    have hd2 := drawOK hmix srtKC_ok srtKC_grow nC
    obtain ⟨m8, w8, t8, d8, q8, s8, p8⟩ := s7.head srtKC_ok hd2 hb ok7 e7 [] cs
    obtain ⟨a4, e8, h8, h8'⟩ := c8_run (call := srtKC) (n := 0) (a := a3) (H := H3)
    obtain ⟨m9, w9, t9, d9, q9, s9, p9⟩ := s8.head srtKC_ok hd2 hb ok8 e8 [] cs
    refine ⟨m9, H3, w9, a4, t9, d9, [], s9, ((((((((q1.trans q2).trans q3).trans q4).trans q5).trans q6).trans q7).trans q8).trans q9), ⟨h8', ?_⟩, ?_⟩
    · rw [h8, h7]; exact hgood
    · exact p1.trans (p2.trans (p3.trans (p4.trans (p5.trans (p6.trans (.head st_seq (p7.trans (p8.trans p9))))))))
  · rintro a' H' ⟨h3, acc', hgd, x, hx⟩
    refine ⟨[a' 2, a' 3], ?_, acc', by rw [h3]; exact hgd⟩
    have er : Tryz.f14.results.toList = [.tmp 2, .tmp 3] := by kernel_rfl
    rw [er]
    have h3' : scal (a' 3) = some [vi 0] := by rw [h3]; rfl
    show (match scal (a' 2) with
      | some _ => (match scal (a' 3) with
        | some _ => (some [] : Option (List Value)).map (a' 3 :: ·)
        | none => none).map (a' 2 :: ·)
      | none => none) = _
    rw [hx, h3']
    rfl
end Go.Proofs.YtkedcelpadiakaaGreat
namespace Go.Proofs.YtkedcelpadiakaaGreat
open Go Go.Abs Go.Num
def sortedB : List Key2 → Bool
  | [] => true
  | [_] => true
  | a :: b :: l => leE a b && sortedB (b :: l)
theorem sorted_of : ∀ {l : List Key2}, sortedB l = true → l.Pairwise fun a b => leE a b = true := by
  intro l
  induction l with
  | nil => intro _; exact .nil
  | cons a l ih =>
    intro h
    cases l with
    | nil => exact List.pairwise_singleton _ _
    | cons b l =>
      simp only [sortedB, Bool.and_eq_true] at h
      have hl := ih h.2
      refine List.pairwise_cons.2 ⟨fun c hc => ?_, hl⟩
      rcases List.mem_cons.1 hc with rfl | hc
      · exact h.1
      · exact leE_trans a b c h.1 (List.rel_of_pairwise_cons hl hc)
theorem sortE_eq {E SE : List Key2} (hp : SE.isPerm E = true) (hs : sortedB SE = true) : sortE E = SE := by
  have h1 := List.pairwise_mergeSort (le := leE) leE_trans leE_total E
  exact List.Perm.eq_of_pairwise (le := fun a b => leE a b = true) (fun a b _ _ h1 h2 => leE_anti h1 h2) h1 (sorted_of hs) ((List.mergeSort_perm E leE).trans (List.isPerm_iff.1 hp).symm)
def smallB (E : List Key2) : Bool := E.all fun k => decide (k.1.length ≤ 100) && decide (k.2.length ≤ 100)
def nodupB : List Key2 → Bool
  | [] => true
  | k :: l => !l.contains k && nodupB l
theorem nodup_of : ∀ {l : List Key2}, nodupB l = true → l.Nodup := by
  intro l
  induction l with
  | nil => intro _; exact .nil
  | cons k l ih =>
    intro h
    simp only [nodupB, Bool.and_eq_true, Bool.not_eq_true', List.contains_eq_mem, decide_eq_false_iff_not] at h
    exact List.nodup_cons.2 ⟨h.1, ih h.2⟩
def clsS (SE : List Key2) : Res := match SE with
  | [] => (.tuple #[.slice none 0 0, vi 0], [])
  | _ => clsR SE
theorem cls_of {sp : Abs.Spec} (hsp : Ok sp) {arg : Arg} {E SE : List Key2} (hP : PreC sp arg E) (h1 : SE.isPerm E = true) (h2 : sortedB SE = true) (h3 : nodupB E = true) (h4 : smallB E = true) (h5 : decide (E.length < 100000) = true) : LineOK Tryz.prog 14 [arg] (clsS SE) := by
  have h := cls_line hsp hP (nodup_of h3) (fun k hk => by have := List.all_eq_true.1 h4 k hk; simpa using this) (of_decide_eq_true h5)
  have e : clsRes E = clsS SE := by
    cases E with
    | nil =>
      have : SE = [] := by have := (List.isPerm_iff.1 h1).length_eq; exact List.eq_nil_of_length_eq_zero this
      subst this; rfl
    | cons k E =>
      have : clsS SE = clsR SE := by
        cases SE with
        | nil => have := (List.isPerm_iff.1 h1).length_eq; simp at this
        | cons => rfl
      rw [this, ← sortE_eq h1 h2]; rfl
  rw [← e]; exact h
end Go.Proofs.YtkedcelpadiakaaGreat
