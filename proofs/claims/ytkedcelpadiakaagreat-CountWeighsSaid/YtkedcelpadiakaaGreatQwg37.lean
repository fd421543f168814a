/- Of the law: texts of its proof, joined (part 37). -/
import Derived.Test.YtkedcelpadiakaaGreatQwg29
import Derived.Test.YtkedcelpadiakaaGreatQwg3
import Derived.Test.YtkedcelpadiakaaGreatQwg30
import Derived.Test.YtkedcelpadiakaaGreatQwg32
import Derived.Test.YtkedcelpadiakaaGreatQwg33
import Derived.Test.YtkedcelpadiakaaGreatQwg4
import Derived.Test.YtkedcelpadiakaaGreatQwg6
import Derived.Test.YtkedcelpadiakaaGreatQwg7
set_option linter.all false
namespace Go.Proofs.YtkedcelpadiakaaGreat
open Go Go.Abs
theorem uL : Tryz.prog.underlying 22 = some (.slice 3) := by kernel_rfl
theorem eL : sliceElem Tryz.prog 22 = some (3, 1) := by kernel_rfl
theorem aI : isAggT Tryz.prog 3 = some false := by kernel_rfl
theorem zI : sizeT Tryz.prog 3 = some 1 := by kernel_rfl
theorem pI : ((bytesT Tryz.prog 3).isSome && decide ((bytesT Tryz.prog 3).getD 0 ≤ maxA) && (zeros Tryz.prog 3 1 1).isSome) = true := by kernel_rfl
theorem yI : bytesT Tryz.prog 3 = some 8 := by kernel_rfl
theorem oI : zeros Tryz.prog 3 1 1 = some [vi 0] := by kernel_rfl
theorem nI : zeros Tryz.prog 3 1 0 = some [] := by kernel_rfl
theorem ok_fn {f : Nat} {fn : Func} {c : Code} (ho : okN f = true) (hf : Tryz.prog.funcs[f]? = some fn) (hb : fn.body = some c) : funcOk fn c = true := hF f fn c ho hf hb
theorem aL : isAggT Tryz.prog 22 = some false := by kernel_rfl
theorem aB : isAggT Tryz.prog 4 = some false := by kernel_rfl
theorem zL : sizeT Tryz.prog 22 = some 1 := by kernel_rfl
theorem zB : sizeT Tryz.prog 4 = some 1 := by kernel_rfl
theorem qB (x y : Operand) (p q : Bool) : pureVal Tryz.prog (do eqGuard .eql 4 x y (.bool p) (.bool q); binOp .eql 4 (.bool p) (.bool q)) = some (.bool (p == q)) := by kernel_rfl
theorem nB (x y : Operand) (p q : Bool) : pureVal Tryz.prog (do eqGuard .neq 4 x y (.bool p) (.bool q); binOp .neq 4 (.bool p) (.bool q)) = some (.bool (!(p == q))) := by kernel_rfl
theorem aW : isAggT Tryz.prog 100 = some true := by kernel_rfl
theorem zW : sizeT Tryz.prog 100 = some 2 := by kernel_rfl
theorem fW0 : fieldOff Tryz.prog 100 0 = some 0 := by kernel_rfl
theorem fW1 : fieldOff Tryz.prog 100 1 = some 1 := by kernel_rfl
theorem iW : zeroT Tryz.prog 100 = some (.agg #[.bool false, .slice none 0 0]) := by kernel_rfl
noncomputable def sfs (t : TypeId) : Array Field := match Tryz.prog.underlying t with
  | some (.struct fs) => fs
  | _ => #[]
theorem bW0 : buildA Tryz.prog 100 [] = some (.agg #[.bool false, .slice none 0 0]) := by kernel_rfl
theorem run_ofB {F : Nat} {fv : Value} {args : List Value} {H : Heap} {Q : Option (Value × Heap) → Prop} (h : ∀ n, F ≤ n → Q (evBody Tryz.prog (evB Tryz.prog bC n) n fv args H)) (n : Nat) (hn : F + 1 ≤ n) (hb : bC fv args H = none := by rfl) : Q (evB Tryz.prog bC n fv args H) := by
  obtain ⟨m, rfl⟩ : ∃ m, n = m + 1 := ⟨n - 1, by omega⟩
  have e : evB Tryz.prog bC (m + 1) fv args H = evBody Tryz.prog (evB Tryz.prog bC m) m fv args H := by
    show (match bC fv args H with | some r => some r | none => evBody Tryz.prog (evB Tryz.prog bC m) m fv args H) = _
    rw [hb]
  rw [e]
  exact h m (by omega)
end Go.Proofs.YtkedcelpadiakaaGreat
namespace Go.Proofs.YtkedcelpadiakaaGreat
open Go Go.Abs Go.Num
set_option maxRecDepth 10000
attribute [local congr] bindO_congr bindF_congr bindX_congr condX_congr iteB_congr binS_congr pickS_congr
theorem take_snoc' {l : List Int} {c : Nat} (h : c < l.length) : l.take (c + 1) = l.take c ++ [l.getD c 0] := by
  rw [List.take_succ_eq_append_getElem h]
  simp [List.getD_eq_getElem?_getD, List.getElem?_eq_getElem h]
def OneL (H : Heap) (r : Option (Value × Heap)) (l : List Int) : Prop := ∃ v' H', r = some (v', H') ∧ O H.length H' v' (ints l) ∧ Old H.length H H' ∧ WF H'
theorem getD_mem {l : List Int} {i : Nat} (h : i < l.length) : l.getD i 0 ∈ l := by
  rw [List.getD_eq_getElem?_getD, List.getElem?_eq_getElem h]; exact List.getElem_mem h
end Go.Proofs.YtkedcelpadiakaaGreat
namespace Go.Proofs.YtkedcelpadiakaaGreat
open Go Go.Abs Go.Num
set_option maxRecDepth 10000
attribute [local congr] bindO_congr bindF_congr bindX_congr condX_congr iteB_congr binS_congr pickS_congr eqB_congr nilS_congr clsW_congr maxS_congr minS_congr
theorem within_runS (x lo hi : Int) (H : Heap) (n : Nat) (hn : 1 ≤ n) : evB Tryz.prog bC n (.func (.func 11) #[] #[]) [vi x, vi lo, vi hi] H = some (.bool (decide (lo ≤ x) && decide (x ≤ hi)), H) := by
  refine run_ofB (F := 0) (Q := fun r => r = some (.bool (decide (lo ≤ x) && decide (x ≤ hi)), H)) (fun n hn => ?_) n hn
  rw [body_runS Tryz.func11 rfl (ok_fn (by rfl) Tryz.func11 rfl) (Nat.le_of_ble_eq_true rfl) (D := D0) (by kernel_rfl)]
  by_cases h1 : lo ≤ x
  all_goals by_cases h2 : x ≤ hi
  all_goals simp (disch := omega) only [Tryz.f11, es_seq, es_region, es_ret, ops_nil, ops_cons, ops_consG, st_move, st_assign, sy_pick, pickS_true, pickS_false, sy_bin, binS_leq, binS_geq, bindO_some, bindF_some, bindX_normal, iteB_true, iteB_false, ev_tmp, ev_const, putA, upd_at, Option.map_some, ↓reduceIte, Nat.reduceEqDiff, frOf_0, frOf_1, frOf_2, decide_true, decide_false, yieldO_eq, yO, yV_bool, some_true, List.getElem?_cons_zero, List.getElem?_cons_succ, beq_self_eq_true, ↓bindO_some, ↓bindF_some, ↓bindX_normal, ↓iteB_true, ↓iteB_false, fin_r, res_nil, res_tmp, pack_1, scal_bool, h1, h2, Bool.and_self, Bool.and_false, Bool.and_true]
theorem take_eq_succ {l m : List Int} {i : Nat} (h1 : i < l.length) (h2 : i < m.length) : l.take (i + 1) = m.take (i + 1) ↔ l.take i = m.take i ∧ l.getD i 0 = m.getD i 0 := by
  rw [take_snoc' h1, take_snoc' h2]
  constructor
  · intro h
    have := List.append_inj h (by rw [List.length_take, List.length_take]; omega)
    exact ⟨this.1, by simpa using this.2⟩
  · intro ⟨h3, h4⟩; rw [h3, h4]
end Go.Proofs.YtkedcelpadiakaaGreat
namespace Go.Proofs.YtkedcelpadiakaaGreat
open Go Go.Abs Go.Num
set_option maxRecDepth 10000
attribute [local congr] bindO_congr bindF_congr bindX_congr condX_congr iteB_congr binS_congr pickS_congr eqB_congr nilS_congr clsW_congr maxS_congr minS_congr
def Sm (l : List Int) : Prop := l.length ≤ 1000 ∧ ∀ x ∈ l, -1000000 ≤ x ∧ x ≤ 1000000
theorem Sm.getD {l : List Int} (h : Sm l) (i : Nat) : -1000000 ≤ l.getD i 0 ∧ l.getD i 0 ≤ 1000000 := by
  by_cases hi : i < l.length
  · exact h.2 _ (getD_mem hi)
  · rw [List.getD_eq_getElem?_getD, List.getElem?_eq_none (by omega)]; simp
theorem Sm.sum {l : List Int} (h : Sm l) (i : Nat) : -1000000000 ≤ (l.take i).sum ∧ (l.take i).sum ≤ 1000000000 := by
  have := sum_bd (b := 1000000) (by omega) fun x (hx : x ∈ l.take i) => h.2 x (List.mem_of_mem_take hx)
  have h2 : (l.take i).length ≤ 1000 := Nat.le_trans (List.length_take_le' ..) h.1
  omega
noncomputable def cszA : Code := atC [1, 1, 0, 1, 0, 0] ((Tryz.f44.body).getD .skip)
theorem csize_run {H : Heap} {v : Value} {l : List Int} (hv : R H v (ints l)) (hs : Sm l) (n : Nat) (hn : 1010 ≤ n) : evB Tryz.prog bC n (.func (.func 44) #[] #[]) [v] H = some (vi l.sum, H) := by
  refine run_ofB (F := 1009) (Q := fun r => r = some (vi l.sum, H)) (fun n hn => ?_) n hn
  rw [body_runS Tryz.func44 rfl (ok_fn (by rfl) Tryz.func44 rfl) (Nat.le_of_ble_eq_true rfl) (D := D0) (by kernel_rfl)]
  have hl := hs.1
  have key : ∀ A : Fr, A 3 = vi 0 → A 6 = v → A 7 = vi l.length → A 8 = vi (0 : Nat) → ∃ r a' H', loopN (evS Tryz.prog (evB Tryz.prog bC n) n Tryz.f44.ntmps none cszA) n A H = some (r, a', H') ∧ H' = H ∧ r = .exit 0 ∧ a' 3 = vi l.sum := by
    intro A h3 h6 h7 h8
    refine loop_up l.length (fun i a H' => H' = H ∧ a 3 = vi (l.take i).sum ∧ a 6 = v ∧ a 7 = vi l.length ∧ a 8 = vi i) _ ?_ ?_ (by omega) ⟨rfl, by rw [h3]; rfl, h6, h7, h8⟩
    · intro i a H' hi ⟨hH, h3, h6, h7, h8⟩
      subst hH
      left
      rw [show cszA = atC [1, 1, 0, 1, 0, 0] ((Tryz.f44.body).getD .skip) from rfl]
      have hlt : (i : Int) < l.length := by omega
      have e1 : IntKind.i64.wrap ((i : Int) + 1) = ((i + 1 : Nat) : Int) := by rw [wr64 (by omega) (by omega)]; omega
      have b1 := hs.sum i
      have b2 := hs.getD i
      have e2 : IntKind.i64.wrap ((l.take i).sum + l.getD i 0) = (l.take (i + 1)).sum := by rw [sum_take_succ hi]; exact wr64 (by omega) (by omega)
      simp (disch := omega) only [Tryz.f44, Option.getD_some, atC, es_seq, es_region, es_cond, es_block, es_skip, ops_nil, ops_cons, st_move, st_assign, sy_addr eL, sy_load aI, sy_bin, binS_lss, binS_add, bindO_some, bindF_some, bindX_normal, blkX_normal, condX_true, ev_tmp, ev_const, putA, upd_at, Option.map_some, ↓reduceIte, Nat.reduceEqDiff, Int.toNat_natCast, decide_true, ↓bindO_some, ↓bindF_some, ↓bindX_normal, ↓condX_true, h3, h6, h7, h8, hlt, hv.addrI, hv.loadI, e1, e2]
      exact ⟨_, _, rfl, rfl, rfl, h6, h7, rfl⟩
    · intro a H' ⟨hH, h3, h6, h7, h8⟩
      subst hH
      rw [show cszA = atC [1, 1, 0, 1, 0, 0] ((Tryz.f44.body).getD .skip) from rfl]
      simp (disch := omega) only [Tryz.f44, Option.getD_some, atC, es_seq, es_region, es_cond, es_exit, ops_nil, ops_cons, sy_bin, binS_lss, bindO_some, bindF_some, bindX_normal, bindX_exit, condX_false, ev_tmp, putA, upd_at, ↓reduceIte, decide_false, ↓bindO_some, ↓bindF_some, ↓bindX_normal, ↓bindX_exit, ↓condX_false, h7, h8, Int.lt_irrefl]
      rw [List.take_length] at h3
      exact ⟨_, _, _, rfl, by simp, rfl, rfl, h3⟩
  rw [show cszA = atC [1, 1, 0, 1, 0, 0] ((Tryz.f44.body).getD .skip) from rfl] at key
  simp only [Tryz.f44, Option.getD_some, atC] at key
  simp (disch := omega) only [Tryz.f44, es_seq, es_region, es_block, es_loop, es_ret, ops_nil, ops_cons, st_move, st_assign, sy_len uL, bindO_some, bindF_some, bindX_normal, ev_tmp, ev_const, putA, upd_at, Option.map_some, ↓reduceIte, Nat.reduceEqDiff, frOf_0, ↓bindO_some, ↓bindF_some, ↓bindX_normal, hv.lenI]
  generalize hA : upd _ 8 _ = A
  obtain ⟨r, a', H', e, hH, hr, h3⟩ := key A (by subst hA; rfl) (by subst hA; rfl) (by subst hA; rfl) (by subst hA; rfl)
  subst hr
  rw [e]
  subst hH
  simp (disch := omega) only [bindX_normal, blkX_exit, upd_at, Option.map_some, ↓reduceIte, ↓bindX_normal, fin_r, res_nil, res_tmp, pack_1, scal_vi, h3]
noncomputable def rszA : Code := atC [1, 1, 0, 1, 0, 0] ((Tryz.f12.body).getD .skip)
theorem rsize_run {H : Heap} {v : Value} {l : List Int} (hv : R H v (ints l)) (hs : Sm l) (n : Nat) (hn : 1010 ≤ n) : evB Tryz.prog bC n (.func (.func 12) #[] #[]) [v] H = some (vi l.sum, H) := by
  refine run_ofB (F := 1009) (Q := fun r => r = some (vi l.sum, H)) (fun n hn => ?_) n hn
  rw [body_runS Tryz.func12 rfl (ok_fn (by rfl) Tryz.func12 rfl) (Nat.le_of_ble_eq_true rfl) (D := D0) (by kernel_rfl)]
  have hl := hs.1
  have key : ∀ A : Fr, A 0 = v → A 3 = vi 0 → A 4 = vi (0 : Nat) → ∃ r a' H', loopN (evS Tryz.prog (evB Tryz.prog bC n) n Tryz.f12.ntmps none rszA) n A H = some (r, a', H') ∧ H' = H ∧ r = .exit 0 ∧ a' 3 = vi l.sum := by
    intro A h0 h3 h4
    refine loop_up l.length (fun i a H' => H' = H ∧ a 0 = v ∧ a 3 = vi (l.take i).sum ∧ a 4 = vi i) _ ?_ ?_ (by omega) ⟨rfl, h0, by rw [h3]; rfl, h4⟩
    · intro i a H' hi ⟨hH, h0, h3, h4⟩
      subst hH
      left
      rw [show rszA = atC [1, 1, 0, 1, 0, 0] ((Tryz.f12.body).getD .skip) from rfl]
      have hlt : (i : Int) < l.length := by omega
      have e1 : IntKind.i64.wrap ((i : Int) + 1) = ((i + 1 : Nat) : Int) := by rw [wr64 (by omega) (by omega)]; omega
      have b1 := hs.sum i
      have b2 := hs.getD i
      have e2 : IntKind.i64.wrap ((l.take i).sum + l.getD i 0) = (l.take (i + 1)).sum := by rw [sum_take_succ hi]; exact wr64 (by omega) (by omega)
      simp (disch := omega) only [Tryz.f12, Option.getD_some, atC, es_seq, es_region, es_cond, es_block, es_skip, ops_nil, ops_cons, st_move, st_assign, sy_len uL, sy_addr eL, sy_load aI, sy_bin, binS_lss, binS_add, bindO_some, bindF_some, bindX_normal, blkX_normal, condX_true, ev_tmp, ev_const, putA, upd_at, Option.map_some, ↓reduceIte, Nat.reduceEqDiff, Int.toNat_natCast, decide_true, ↓bindO_some, ↓bindF_some, ↓bindX_normal, ↓condX_true, h0, h3, h4, hlt, hv.lenI, hv.addrI, hv.loadI, e1, e2]
      exact ⟨_, _, rfl, rfl, h0, rfl, rfl⟩
    · intro a H' ⟨hH, h0, h3, h4⟩
      subst hH
      rw [show rszA = atC [1, 1, 0, 1, 0, 0] ((Tryz.f12.body).getD .skip) from rfl]
      simp (disch := omega) only [Tryz.f12, Option.getD_some, atC, es_seq, es_region, es_cond, es_exit, ops_nil, ops_cons, st_move, sy_len uL, sy_bin, binS_lss, bindO_some, bindF_some, bindX_normal, bindX_exit, condX_false, ev_tmp, putA, upd_at, Option.map_some, ↓reduceIte, Nat.reduceEqDiff, decide_false, ↓bindO_some, ↓bindF_some, ↓bindX_normal, ↓bindX_exit, ↓condX_false, h0, h4, hv.lenI, Int.lt_irrefl]
      rw [List.take_length] at h3
      exact ⟨_, _, _, rfl, by simp, rfl, rfl, h3⟩
  rw [show rszA = atC [1, 1, 0, 1, 0, 0] ((Tryz.f12.body).getD .skip) from rfl] at key
  simp only [Tryz.f12, Option.getD_some, atC] at key
  simp (disch := omega) only [Tryz.f12, es_seq, es_region, es_block, es_loop, es_ret, ops_nil, ops_cons, st_move, st_assign, bindO_some, bindF_some, bindX_normal, ev_tmp, ev_const, putA, upd_at, ↓reduceIte, ↓bindO_some, ↓bindF_some, ↓bindX_normal]
  generalize hA : upd _ 4 _ = A
  obtain ⟨r, a', H', e, hH, hr, h3⟩ := key A (by subst hA; rfl) (by subst hA; rfl) (by subst hA; rfl)
  subst hr
  rw [e]
  subst hH
  simp (disch := omega) only [bindX_normal, blkX_exit, upd_at, Option.map_some, ↓reduceIte, ↓bindX_normal, fin_r, res_nil, res_tmp, pack_1, scal_vi, h3]
theorem part_sm {l : List Int} (h1 : l.length ≤ 1000) (h : chkGo none l = none) : Sm l := ⟨h1, fun x hx => by have := chkGo_none h x hx; omega⟩
noncomputable def cckA : Code := atC [1, 1, 0, 1, 0, 0] ((Tryz.f43.body).getD .skip)
theorem ccheck_run {H : Heap} {v : Value} {l : List Int} (hv : R H v (ints l)) (hl : l.length ≤ 1000) (n : Nat) (hn : 1011 ≤ n) : evB Tryz.prog bC n (.func (.func 43) #[] #[]) [v] H = some (vi (chk l), H) := by
  refine run_ofB (F := 1010) (Q := fun r => r = some (vi (chk l), H)) (fun n hn => ?_) n hn
  rw [body_runS Tryz.func43 rfl (ok_fn (by rfl) Tryz.func43 rfl) (Nat.le_of_ble_eq_true rfl) (D := D0) (by kernel_rfl)]
  by_cases hbig : 20 < l.length
  · have c1 : (20 : Int) < (l.length : Int) := by omega
    rw [show chk l = 8 from if_pos hbig]
    simp (disch := omega) only [Tryz.f43, es_seq, es_region, es_cond, es_ret, ops_nil, ops_cons, st_move, st_assign, sy_len uL, sy_bin, binS_gtr, bindO_some, bindF_some, bindX_normal, bindX_ret, condX_true, ev_tmp, ev_const, putA, upd_at, Option.map_some, ↓reduceIte, Nat.reduceEqDiff, frOf_0, decide_true, ↓bindO_some, ↓bindF_some, ↓bindX_normal, ↓bindX_ret, ↓condX_true, fin_r, res_nil, res_tmp, pack_1, scal_vi, hv.lenI, c1]
  · have c1 : ¬ (20 : Int) < (l.length : Int) := by omega
    rw [show chk l = _ from if_neg hbig]
    have key : ∀ A : Fr, A 0 = v → A 8 = v → A 9 = vi l.length → A 10 = vi (0 : Nat) → ∃ r a' H', loopN (evS Tryz.prog (evB Tryz.prog bC n) n Tryz.f43.ntmps none cckA) n A H = some (r, a', H') ∧ H' = H ∧ ((r = .exit 0 ∧ a' 0 = v ∧ chkGo none l = none) ∨ ∃ e, r = .ret ∧ a' 2 = vi e ∧ chkGo none l = some e) := by
      intro A h0 h8 h9 h10
      refine loop_up l.length (fun i a H' => H' = H ∧ a 0 = v ∧ a 8 = v ∧ a 9 = vi l.length ∧ a 10 = vi i ∧ chkGo none l = chkGo (prv l i) (l.drop i)) _ ?_ ?_ (by omega) ⟨rfl, h0, h8, h9, h10, rfl⟩
      · intro i a H' hi ⟨hH, h0, h8, h9, h10, hg⟩
        subst hH
        rw [show cckA = atC [1, 1, 0, 1, 0, 0] ((Tryz.f43.body).getD .skip) from rfl]
        have hlt : (i : Int) < l.length := by omega
        have e1 : IntKind.i64.wrap ((i : Int) + 1) = ((i + 1 : Nat) : Int) := by rw [wr64 (by omega) (by omega)]; omega
        rw [chkGo_at hi] at hg
        by_cases hx1 : l.getD i 0 < 1
        · right
          rw [show bad (prv l i) (l.getD i 0) = some 2 from if_pos hx1] at hg
          simp (disch := omega) only [Tryz.f43, Option.getD_some, atC, es_seq, es_region, es_cond, es_block, es_skip, es_ret, ops_nil, ops_cons, ops_consG, st_move, st_assign, sy_pick, pickS_true, sy_addr eL, sy_load aI, sy_bin, binS_lss, bindO_some, bindF_some, bindX_normal, bindX_ret, blkX_ret, condX_true, iteB_false, ev_tmp, ev_const, putA, upd_at, Option.map_some, ↓reduceIte, Nat.reduceEqDiff, Int.toNat_natCast, decide_true, Bool.not_true, yieldO_eq, yO, yV_bool, some_false, List.getElem?_cons_zero, List.getElem?_cons_succ, ↓bindO_some, ↓bindF_some, ↓bindX_normal, ↓bindX_ret, ↓condX_true, ↓iteB_false, h8, h9, h10, hlt, hv.addrI, hv.loadI, hx1]
          exact ⟨_, _, _, rfl, by simp, rfl, .inr ⟨2, rfl, rfl, hg⟩⟩
        · by_cases hx2 : 20 < l.getD i 0
          · right
            rw [show bad (prv l i) (l.getD i 0) = some 2 from by unfold bad; rw [if_neg hx1, if_pos hx2]] at hg
            simp (disch := omega) only [Tryz.f43, Option.getD_some, atC, es_seq, es_region, es_cond, es_block, es_skip, es_ret, ops_nil, ops_cons, ops_consG, st_move, st_assign, sy_pick, pickS_false, sy_addr eL, sy_load aI, sy_bin, binS_lss, binS_gtr, bindO_some, bindF_some, bindX_normal, bindX_ret, blkX_ret, condX_true, iteB_true, ev_tmp, ev_const, putA, upd_at, Option.map_some, ↓reduceIte, Nat.reduceEqDiff, Int.toNat_natCast, decide_true, decide_false, yieldO_eq, yO, yV_bool, List.getElem?_cons_zero, List.getElem?_cons_succ, beq_self_eq_true, ↓bindO_some, ↓bindF_some, ↓bindX_normal, ↓bindX_ret, ↓condX_true, ↓iteB_true, h8, h9, h10, hlt, hv.addrI, hv.loadI, hx1, hx2]
            exact ⟨_, _, _, rfl, by simp, rfl, .inr ⟨2, rfl, rfl, hg⟩⟩
          · cases i with
            | zero =>
              left
              rw [show bad (prv l 0) (l.getD 0 0) = none from by unfold bad; rw [if_neg hx1, if_neg hx2]; rfl] at hg
              have c0 : decide ((0 : Int) < ((0 : Nat) : Int)) = false := rfl
              simp (disch := omega) only [Tryz.f43, Option.getD_some, atC, es_seq, es_region, es_cond, es_block, es_skip, ops_nil, ops_cons, ops_consG, st_move, st_assign, sy_pick, pickS_false, sy_addr eL, sy_load aI, sy_bin, binS_lss, binS_gtr, binS_add, bindO_some, bindF_some, bindX_normal, blkX_normal, condX_true, condX_false, iteB_true, iteB_false, ev_tmp, ev_const, putA, upd_at, Option.map_some, ↓reduceIte, Nat.reduceEqDiff, Nat.zero_add, Int.toNat_natCast, decide_true, decide_false, yieldO_eq, yO, yV_bool, some_true, List.getElem?_cons_zero, List.getElem?_cons_succ, beq_self_eq_true, ↓bindO_some, ↓bindF_some, ↓bindX_normal, ↓condX_true, ↓condX_false, ↓iteB_true, ↓iteB_false, h8, h9, h10, hlt, hv.addrI, hv.loadI, hx1, hx2, c0, e1]
              exact ⟨_, _, rfl, rfl, h0, h8, h9, rfl, hg⟩
            | succ j =>
              have c0 : (0 : Int) < ((j + 1 : Nat) : Int) := by omega
              have e2 : IntKind.i64.wrap (((j + 1 : Nat) : Int) - 1) = (j : Int) := by rw [wr64 (by omega) (by omega)]; omega
              by_cases hq : l.getD j 0 < l.getD (j + 1) 0
              · right
                rw [show bad (prv l (j + 1)) (l.getD (j + 1) 0) = some 9 from by unfold bad; rw [if_neg hx1, if_neg hx2]; exact if_pos hq] at hg
                simp (disch := omega) only [Tryz.f43, Option.getD_some, atC, es_seq, es_region, es_cond, es_block, es_skip, es_ret, ops_nil, ops_cons, ops_consG, st_move, st_assign, sy_pick, pickS_true, pickS_false, sy_addr eL, sy_load aI, sy_bin, binS_lss, binS_gtr, binS_sub, bindO_some, bindF_some, bindX_normal, bindX_ret, blkX_ret, condX_true, condX_false, iteB_true, ev_tmp, ev_const, putA, upd_at, Option.map_some, ↓reduceIte, Nat.reduceEqDiff, Int.toNat_natCast, decide_true, decide_false, yieldO_eq, yO, yV_bool, List.getElem?_cons_zero, List.getElem?_cons_succ, beq_self_eq_true, ↓bindO_some, ↓bindF_some, ↓bindX_normal, ↓bindX_ret, ↓condX_true, ↓condX_false, ↓iteB_true, h0, h8, h9, h10, hlt, hv.addrI, hv.loadI, hx1, hx2, c0, e2, hq]
                exact ⟨_, _, _, rfl, by simp, rfl, .inr ⟨9, rfl, rfl, hg⟩⟩
              · left
                rw [show bad (prv l (j + 1)) (l.getD (j + 1) 0) = none from by unfold bad; rw [if_neg hx1, if_neg hx2]; exact if_neg hq] at hg
                simp (disch := omega) only [Tryz.f43, Option.getD_some, atC, es_seq, es_region, es_cond, es_block, es_skip, ops_nil, ops_cons, ops_consG, st_move, st_assign, sy_pick, pickS_true, pickS_false, sy_addr eL, sy_load aI, sy_bin, binS_lss, binS_gtr, binS_add, binS_sub, bindO_some, bindF_some, bindX_normal, blkX_normal, condX_true, condX_false, iteB_true, ev_tmp, ev_const, putA, upd_at, Option.map_some, ↓reduceIte, Nat.reduceEqDiff, Int.toNat_natCast, decide_true, decide_false, yieldO_eq, yO, yV_bool, List.getElem?_cons_zero, List.getElem?_cons_succ, beq_self_eq_true, ↓bindO_some, ↓bindF_some, ↓bindX_normal, ↓condX_true, ↓condX_false, ↓iteB_true, h0, h8, h9, h10, hlt, hv.addrI, hv.loadI, hx1, hx2, c0, e2, hq, e1]
                exact ⟨_, _, rfl, rfl, h0, h8, h9, rfl, hg⟩
      · intro a H' ⟨hH, h0, h8, h9, h10, hg⟩
        subst hH
        rw [show cckA = atC [1, 1, 0, 1, 0, 0] ((Tryz.f43.body).getD .skip) from rfl]
        simp (disch := omega) only [Tryz.f43, Option.getD_some, atC, es_seq, es_region, es_cond, es_exit, ops_nil, ops_cons, sy_bin, binS_lss, bindO_some, bindF_some, bindX_normal, bindX_exit, condX_false, ev_tmp, putA, upd_at, ↓reduceIte, decide_false, ↓bindO_some, ↓bindF_some, ↓bindX_normal, ↓bindX_exit, ↓condX_false, h9, h10, Int.lt_irrefl]
        rw [List.drop_length] at hg
        exact ⟨_, _, _, rfl, by simp, rfl, .inl ⟨rfl, h0, hg⟩⟩
    rw [show cckA = atC [1, 1, 0, 1, 0, 0] ((Tryz.f43.body).getD .skip) from rfl] at key
    simp only [Tryz.f43, Option.getD_some, atC] at key
    simp (disch := omega) only [Tryz.f43, es_seq, es_region, es_cond, es_block, es_loop, es_skip, es_ret, ops_nil, ops_cons, st_move, st_assign, st_fun, sy_len uL, sy_bin, binS_gtr, bindO_some, bindF_some, bindX_normal, condX_false, ev_tmp, ev_const, ev_func, putA, upd_at, Option.map_some, ↓reduceIte, Nat.reduceEqDiff, frOf_0, List.map_cons, List.map_nil, decide_false, ↓bindO_some, ↓bindF_some, ↓bindX_normal, ↓condX_false, hv.lenI, c1]
    generalize hA : upd _ 10 _ = A
    obtain ⟨r, a', H', e, hH, h⟩ := key A (by subst hA; rfl) (by subst hA; rfl) (by subst hA; rfl) (by subst hA; rfl)
    rw [e]
    subst hH
    rcases h with ⟨rfl, h0, hg⟩ | ⟨e2, rfl, h2, hg⟩
    · rw [hg]
      have s1 := csize_run hv (part_sm hl hg) n (by omega)
      by_cases hb : 20 < l.sum
      · simp (disch := omega) only [binS_gtr, bindO_some, bindF_some, bindX_normal, bindX_ret, blkX_exit, condX_true, upd_at, Option.map_some, ↓reduceIte, decide_true, ↓bindO_some, ↓bindF_some, ↓bindX_normal, ↓bindX_ret, ↓condX_true, fin_r, res_nil, res_tmp, pack_1, scal_vi, h0, s1, hb]
      · simp (disch := omega) only [binS_gtr, bindO_some, bindF_some, bindX_normal, blkX_exit, condX_false, upd_at, Option.map_some, ↓reduceIte, decide_false, ↓bindO_some, ↓bindF_some, ↓bindX_normal, ↓condX_false, fin_r, res_nil, res_tmp, pack_1, scal_vi, h0, s1, hb]
    · rw [hg]
      simp (disch := omega) only [bindX_ret, blkX_ret, Option.map_some, ↓bindX_ret, fin_r, res_nil, res_tmp, pack_1, scal_vi, h2]
noncomputable def rckA : Code := atC [1, 1, 0, 1, 0, 0] ((Tryz.f10.body).getD .skip)
theorem rcheck_run {H : Heap} {v : Value} {l : List Int} (hv : R H v (ints l)) (hl : l.length ≤ 1000) (n : Nat) (hn : 1011 ≤ n) : evB Tryz.prog bC n (.func (.func 10) #[] #[]) [v] H = some (vi (chk l), H) := by
  refine run_ofB (F := 1010) (Q := fun r => r = some (vi (chk l), H)) (fun n hn => ?_) n hn
  rw [body_runS Tryz.func10 rfl (ok_fn (by rfl) Tryz.func10 rfl) (Nat.le_of_ble_eq_true rfl) (D := D0) (by kernel_rfl)]
  by_cases hbig : 20 < l.length
  · have c1 : (20 : Int) < (l.length : Int) := by omega
    rw [show chk l = 8 from if_pos hbig]
    simp (disch := omega) only [Tryz.f10, es_seq, es_region, es_cond, es_ret, ops_nil, ops_cons, st_move, st_assign, sy_len uL, sy_bin, binS_gtr, bindO_some, bindF_some, bindX_normal, bindX_ret, condX_true, ev_tmp, ev_const, putA, upd_at, Option.map_some, ↓reduceIte, Nat.reduceEqDiff, frOf_0, decide_true, ↓bindO_some, ↓bindF_some, ↓bindX_normal, ↓bindX_ret, ↓condX_true, fin_r, res_nil, res_tmp, pack_1, scal_vi, hv.lenI, c1]
  · have c1 : ¬ (20 : Int) < (l.length : Int) := by omega
    rw [show chk l = _ from if_neg hbig]
    have key : ∀ A : Fr, A 0 = v → A 3 = vi (0 : Nat) → ∃ r a' H', loopN (evS Tryz.prog (evB Tryz.prog bC n) n Tryz.f10.ntmps none rckA) n A H = some (r, a', H') ∧ H' = H ∧ ((r = .exit 0 ∧ a' 0 = v ∧ chkGo none l = none) ∨ ∃ e, r = .ret ∧ a' 2 = vi e ∧ chkGo none l = some e) := by
      intro A h0 h3
      refine loop_up l.length (fun i a H' => H' = H ∧ a 0 = v ∧ a 3 = vi i ∧ chkGo none l = chkGo (prv l i) (l.drop i)) _ ?_ ?_ (by omega) ⟨rfl, h0, h3, rfl⟩
      · intro i a H' hi ⟨hH, h0, h3, hg⟩
        subst hH
        rw [show rckA = atC [1, 1, 0, 1, 0, 0] ((Tryz.f10.body).getD .skip) from rfl]
        have hlt : (i : Int) < l.length := by omega
        have e1 : IntKind.i64.wrap ((i : Int) + 1) = ((i + 1 : Nat) : Int) := by rw [wr64 (by omega) (by omega)]; omega
        rw [chkGo_at hi] at hg
        have s0 := within_runS (l.getD i 0) 1 20 H' n (by omega)
        by_cases hx : l.getD i 0 < 1 ∨ 20 < l.getD i 0
        · right
          rw [show bad (prv l i) (l.getD i 0) = some 2 from by unfold bad; split; · rfl
                                                               · rw [if_pos (by omega)]] at hg
          rw [show (decide (1 ≤ l.getD i 0) && decide (l.getD i 0 ≤ 20)) = false from by rw [Bool.and_eq_false_iff]; exact hx.imp (fun h => decide_eq_false (by omega)) (fun h => decide_eq_false (by omega))] at s0
          simp (disch := omega) only [Tryz.f10, Option.getD_some, atC, es_seq, es_region, es_cond, es_block, es_skip, es_ret, ops_nil, ops_cons, st_move, st_assign, st_fun, sy_len uL, sy_addr eL, sy_load aI, sy_bin, st_not, binS_lss, bindO_some, bindF_some, bindX_normal, bindX_ret, blkX_ret, condX_true, ev_tmp, ev_const, ev_func, putA, upd_at, Option.map_some, ↓reduceIte, Nat.reduceEqDiff, Int.toNat_natCast, List.map_cons, List.map_nil, decide_true, Bool.not_false, ↓bindO_some, ↓bindF_some, ↓bindX_normal, ↓bindX_ret, ↓condX_true, h0, h3, hv.lenI, hlt, hv.addrI, hv.loadI, s0]
          exact ⟨_, _, _, rfl, by simp, rfl, .inr ⟨2, rfl, rfl, hg⟩⟩
        · have hx1 : ¬ l.getD i 0 < 1 := fun h => hx (.inl h)
          have hx2 : ¬ 20 < l.getD i 0 := fun h => hx (.inr h)
          rw [show (decide (1 ≤ l.getD i 0) && decide (l.getD i 0 ≤ 20)) = true from by rw [Bool.and_eq_true, decide_eq_true_eq, decide_eq_true_eq]; omega] at s0
          cases i with
          | zero =>
            left
            rw [show bad (prv l 0) (l.getD 0 0) = none from by unfold bad; rw [if_neg hx1, if_neg hx2]; rfl] at hg
            have c0 : decide ((0 : Int) < ((0 : Nat) : Int)) = false := rfl
            simp (disch := omega) only [Tryz.f10, Option.getD_some, atC, es_seq, es_region, es_draw, d0, es_cond, es_block, es_skip, ops_nil, ops_cons, opsV_nil, opsV_cons, opsV_consG, st_move, st_assign, sy_pick, pickS_false, st_fun, sy_len uL, sy_addr eL, sy_load aI, sy_bin, st_not, binS_lss, binS_gtr, binS_add, bindO_some, bindF_some, bindX_normal, blkX_normal, condX_true, condX_false, iteB_true, iteB_false, ev_tmp, ev_const, ev_func, putA, upd_at, Option.map_some, ↓reduceIte, Nat.reduceEqDiff, Nat.zero_add, Int.toNat_natCast, List.map_cons, List.map_nil, decide_true, Bool.not_true, yieldO_eq, yO, yV_bool, some_true, List.getElem?_cons_zero, List.getElem?_cons_succ, ↓bindO_some, ↓bindF_some, ↓bindX_normal, ↓condX_true, ↓condX_false, ↓iteB_true, ↓iteB_false, reflV_move, reflV_pick, reflV_bin, h0, h3, hv.lenI, hlt, hv.addrI, hv.loadI, s0, c0, e1]
            exact ⟨_, _, rfl, rfl, h0, rfl, hg⟩
          | succ j =>
            have c0 : (0 : Int) < ((j + 1 : Nat) : Int) := by omega
            have e2 : IntKind.i64.wrap (((j + 1 : Nat) : Int) - 1) = (j : Int) := by rw [wr64 (by omega) (by omega)]; omega
            by_cases hq : l.getD j 0 < l.getD (j + 1) 0
            · right
              rw [show bad (prv l (j + 1)) (l.getD (j + 1) 0) = some 9 from by unfold bad; rw [if_neg hx1, if_neg hx2]; exact if_pos hq] at hg
              simp (disch := omega) only [Tryz.f10, Option.getD_some, atC, es_seq, es_region, es_draw, d0, es_cond, es_block, es_skip, es_ret, ops_nil, ops_cons, opsV_nil, opsV_cons, opsV_consG, st_move, st_assign, sy_pick, pickS_true, st_fun, sy_len uL, sy_addr eL, sy_load aI, sy_bin, st_not, binS_lss, binS_gtr, binS_sub, bindO_some, bindF_some, bindX_normal, bindX_ret, blkX_ret, condX_true, condX_false, iteB_true, iteB_false, ev_tmp, ev_const, ev_func, putA, upd_at, Option.map_some, ↓reduceIte, Nat.reduceEqDiff, Int.toNat_natCast, List.map_cons, List.map_nil, decide_true, Bool.not_true, yieldO_eq, yO, yV_bool, List.getElem?_cons_zero, List.getElem?_cons_succ, beq_self_eq_true, ↓bindO_some, ↓bindF_some, ↓bindX_normal, ↓bindX_ret, ↓condX_true, ↓condX_false, ↓iteB_true, ↓iteB_false, reflV_load, reflV_move, reflV_pick, reflV_bin, reflV_addr, vEq_vi, h0, h3, hv.lenI, hlt, hv.addrI, hv.loadI, s0, c0, e2, hq]
              exact ⟨_, _, _, rfl, by simp, rfl, .inr ⟨9, rfl, rfl, hg⟩⟩
            · left
              rw [show bad (prv l (j + 1)) (l.getD (j + 1) 0) = none from by unfold bad; rw [if_neg hx1, if_neg hx2]; exact if_neg hq] at hg
              simp (disch := omega) only [Tryz.f10, Option.getD_some, atC, es_seq, es_region, es_draw, d0, es_cond, es_block, es_skip, ops_nil, ops_cons, opsV_nil, opsV_cons, opsV_consG, st_move, st_assign, sy_pick, pickS_true, st_fun, sy_len uL, sy_addr eL, sy_load aI, sy_bin, st_not, binS_lss, binS_gtr, binS_add, binS_sub, bindO_some, bindF_some, bindX_normal, blkX_normal, condX_true, condX_false, iteB_true, iteB_false, ev_tmp, ev_const, ev_func, putA, upd_at, Option.map_some, ↓reduceIte, Nat.reduceEqDiff, Int.toNat_natCast, List.map_cons, List.map_nil, decide_true, decide_false, Bool.not_true, yieldO_eq, yO, yV_bool, List.getElem?_cons_zero, List.getElem?_cons_succ, beq_self_eq_true, ↓bindO_some, ↓bindF_some, ↓bindX_normal, ↓condX_true, ↓condX_false, ↓iteB_true, ↓iteB_false, reflV_load, reflV_move, reflV_pick, reflV_bin, reflV_addr, vEq_vi, h0, h3, hv.lenI, hlt, hv.addrI, hv.loadI, s0, c0, e2, hq, e1]
              exact ⟨_, _, rfl, rfl, h0, rfl, hg⟩
      · intro a H' ⟨hH, h0, h3, hg⟩
        subst hH
        rw [show rckA = atC [1, 1, 0, 1, 0, 0] ((Tryz.f10.body).getD .skip) from rfl]
        simp (disch := omega) only [Tryz.f10, Option.getD_some, atC, es_seq, es_region, es_cond, es_exit, ops_nil, ops_cons, st_move, sy_len uL, sy_bin, binS_lss, bindO_some, bindF_some, bindX_normal, bindX_exit, condX_false, ev_tmp, putA, upd_at, Option.map_some, ↓reduceIte, Nat.reduceEqDiff, decide_false, ↓bindO_some, ↓bindF_some, ↓bindX_normal, ↓bindX_exit, ↓condX_false, h0, h3, hv.lenI, Int.lt_irrefl]
        rw [List.drop_length] at hg
        exact ⟨_, _, _, rfl, by simp, rfl, .inl ⟨rfl, h0, hg⟩⟩
    rw [show rckA = atC [1, 1, 0, 1, 0, 0] ((Tryz.f10.body).getD .skip) from rfl] at key
    simp only [Tryz.f10, Option.getD_some, atC] at key
    simp (disch := omega) only [Tryz.f10, es_seq, es_region, es_cond, es_block, es_loop, es_skip, es_ret, ops_nil, ops_cons, st_move, st_assign, st_fun, sy_len uL, sy_bin, binS_gtr, bindO_some, bindF_some, bindX_normal, condX_false, ev_tmp, ev_const, ev_func, putA, upd_at, Option.map_some, ↓reduceIte, Nat.reduceEqDiff, frOf_0, List.map_cons, List.map_nil, decide_false, ↓bindO_some, ↓bindF_some, ↓bindX_normal, ↓condX_false, hv.lenI, c1]
    generalize hA : upd _ 3 _ = A
    obtain ⟨r, a', H', e, hH, h⟩ := key A (by subst hA; rfl) (by subst hA; rfl)
    rw [e]
    subst hH
    rcases h with ⟨rfl, h0, hg⟩ | ⟨e2, rfl, h2, hg⟩
    · rw [hg]
      have s1 := rsize_run hv (part_sm hl hg) n (by omega)
      by_cases hb : 20 < l.sum
      · simp (disch := omega) only [binS_gtr, bindO_some, bindF_some, bindX_normal, bindX_ret, blkX_exit, condX_true, upd_at, Option.map_some, ↓reduceIte, decide_true, ↓bindO_some, ↓bindF_some, ↓bindX_normal, ↓bindX_ret, ↓condX_true, fin_r, res_nil, res_tmp, pack_1, scal_vi, h0, s1, hb]
      · simp (disch := omega) only [binS_gtr, bindO_some, bindF_some, bindX_normal, blkX_exit, condX_false, upd_at, Option.map_some, ↓reduceIte, decide_false, ↓bindO_some, ↓bindF_some, ↓bindX_normal, ↓condX_false, fin_r, res_nil, res_tmp, pack_1, scal_vi, h0, s1, hb]
    · rw [hg]
      simp (disch := omega) only [bindX_ret, blkX_ret, Option.map_some, ↓bindX_ret, fin_r, res_nil, res_tmp, pack_1, scal_vi, h2]
end Go.Proofs.YtkedcelpadiakaaGreat
namespace Go.Proofs.YtkedcelpadiakaaGreat
open Go Go.Abs Go.Num
set_option maxRecDepth 10000
attribute [local congr] bindO_congr bindF_congr bindX_congr condX_congr iteB_congr binS_congr pickS_congr eqB_congr nilS_congr clsW_congr maxS_congr minS_congr
theorem rcheck_any {H : Heap} {v : Value} {l : List Int} (hv : R H v (ints l)) (n : Nat) (hn : 1011 ≤ n) : evB Tryz.prog bC n (.func (.func 10) #[] #[]) [v] H = some (vi (chk l), H) := by
  by_cases hl : l.length ≤ 1000
  · exact rcheck_run hv hl n hn
  refine run_ofB (F := 1010) (Q := fun r => r = some (vi (chk l), H)) (fun n hn => ?_) n hn
  rw [body_runS Tryz.func10 rfl (ok_fn (by rfl) Tryz.func10 rfl) (Nat.le_of_ble_eq_true rfl) (D := D0) (by kernel_rfl)]
  have c1 : (20 : Int) < (l.length : Int) := by omega
  rw [show chk l = 8 from if_pos (by omega)]
  simp (disch := omega) only [Tryz.f10, es_seq, es_region, es_cond, es_ret, ops_nil, ops_cons, st_move, st_assign, sy_len uL, sy_bin, binS_gtr, bindO_some, bindF_some, bindX_normal, bindX_ret, condX_true, ev_tmp, ev_const, putA, upd_at, Option.map_some, ↓reduceIte, Nat.reduceEqDiff, frOf_0, decide_true, ↓bindO_some, ↓bindF_some, ↓bindX_normal, ↓bindX_ret, ↓condX_true, fin_r, res_nil, res_tmp, pack_1, scal_vi, hv.lenI, c1]
theorem smallL_run {H : Heap} {v : Value} {l : List Int} (hv : R H v (ints l)) (m : Int) (n : Nat) (hn : 1020 ≤ n) : evB Tryz.prog bC n (.func (.func 17) #[] #[]) [v, vi m] H = some (.bool (decide (chk l = 0) && decide (l.sum ≤ m)), H) := by
  refine run_ofB (F := 1019) (Q := fun r => r = some (.bool (decide (chk l = 0) && decide (l.sum ≤ m)), H)) (fun n hn => ?_) n hn
  rw [body_runS Tryz.func17 rfl (ok_fn (by rfl) Tryz.func17 rfl) (Nat.le_of_ble_eq_true rfl) (D := D0) (by kernel_rfl)]
  have s0 := rcheck_any hv n (by omega)
  by_cases hc : chk l = 0
  · have hp := chk_part hc
    have s1 := rsize_run hv ⟨by have := hp.len; omega, fun x hx => by have := hp.mem x hx; omega⟩ n (by omega)
    have c1 : decide (chk l = 0) = true := decide_eq_true hc
    simp (disch := omega) only [Tryz.f17, es_seq, es_region, es_ret, ops_nil, ops_cons, ops_consG, st_move, st_assign, sy_pick, pickS_true, st_fun, sy_bin, binS_leq, binS_eql, bindO_some, bindF_some, bindX_normal, iteB_true, ev_tmp, ev_const, ev_func, putA, upd_at, Option.map_some, ↓reduceIte, Nat.reduceEqDiff, frOf_0, frOf_1, List.map_cons, List.map_nil, yieldO_eq, yO, yV_bool, List.getElem?_cons_zero, List.getElem?_cons_succ, beq_self_eq_true, ↓bindO_some, ↓bindF_some, ↓bindX_normal, ↓iteB_true, fin_r, res_nil, res_tmp, pack_1, scal_bool, s0, s1, c1, Bool.true_and]
  · have c1 : decide (chk l = 0) = false := decide_eq_false hc
    simp (disch := omega) only [Tryz.f17, es_seq, es_region, es_ret, ops_nil, ops_cons, ops_consG, st_move, st_assign, sy_pick, pickS_false, st_fun, sy_bin, binS_eql, bindO_some, bindF_some, bindX_normal, iteB_false, ev_tmp, ev_const, ev_func, putA, upd_at, Option.map_some, ↓reduceIte, Nat.reduceEqDiff, frOf_0, List.map_cons, List.map_nil, yieldO_eq, yO, yV_bool, some_true, List.getElem?_cons_zero, List.getElem?_cons_succ, ↓bindO_some, ↓bindF_some, ↓bindX_normal, ↓iteB_false, fin_r, res_nil, res_tmp, pack_1, scal_bool, s0, c1, Bool.false_and]
end Go.Proofs.YtkedcelpadiakaaGreat
namespace Go.Proofs.YtkedcelpadiakaaGreat
open Go Go.Abs
def Row (k : IntKind) (w : World) (a : Option Addr) (len cap : Nat) (zs : List Int) : Prop :=
  (a = none ∧ len = 0 ∧ cap = 0 ∧ zs = []) ∨
  ∃ x, a = some x ∧ len ≤ cap ∧ cap ≤ maxLen ∧ zs.length = cap ∧ (∀ i, i < zs.length → w.cell? (x.add i) = some (.int k (zs.getD i 0))) ∧ ∀ n ∈ zs, (Lit.int k n).wf = true
theorem row_at {w : World} {a : Option Addr} {len cap : Nat} {zs : List Int} (h : Row .i64 w a len cap zs) :
    ArgAt w (.imm (.slice none 0 0)) (.slice a len cap) ∨ ArgAt w (.imm lostSlice) (.slice a len cap) ∨ ∃ l : List Int, 0 < l.length ∧ ArgAt w (.li (ints l)) (.slice a len cap) := by
  rcases h with ⟨rfl, rfl, rfl, _⟩ | ⟨x, rfl, h1, h2, h3, h4, _⟩
  · exact .inl (.imm fun m => .a (.s .sliceNil))
  · by_cases h0 : len = 0
    · subst h0
      exact .inr (.inl (.imm fun m => .a (.s (.lost _ _ _ _))))
    · refine .inr (.inr ⟨zs.take len, by rw [List.length_take]; omega, ?_⟩)
      obtain ⟨g, o, s⟩ := x
      have hc0 := h4 0 (by omega)
      unfold World.cell? Addr.add at hc0
      simp only at hc0
      split at hc0
      case h_2 => cases hc0
      rename_i C el fr hh
      have hs : s = none := by
        cases s with
        | none => rfl
        | some p => simp at hc0
      subst hs
      have hG : w.heap[g]? = some (.cells C el fr) := hh
      have hcell : ∀ i, i < zs.length → C[o + i]? = some (.int .i64 (zs.getD i 0)) := fun i hi => by
        have := h4 i hi
        unfold World.cell? Addr.add at this
        by_cases hi0 : i = 0
        · subst hi0
          rw [if_pos rfl] at this
          simp only at this
          rw [hG] at this
          exact this
        · rw [if_neg hi0] at this
          simp only at this
          rw [hG] at this
          exact this
      have hlen : len = (zs.take len).length := by rw [List.length_take]; omega
      have hsz : o + cap ≤ C.size := by
        have := hcell (cap - 1) (by omega)
        have := Array.getElem?_eq_some_iff.1 this
        obtain ⟨h, _⟩ := this
        omega
      have key := ArgAt.li (w := w) (l := ints (zs.take len)) (g := g) (o := o) (cap := cap) hG (by rw [ints_len, ← hlen]; exact h1) hsz (fun i v hv => by
        unfold ints at hv
        rw [List.getElem?_map, List.getElem?_take] at hv
        split at hv
        · rename_i hi
          have h5 : i < zs.length := by omega
          rw [List.getElem?_eq_getElem h5] at hv
          cases hv
          rw [hcell i h5, List.getD_eq_getElem?_getD, List.getElem?_eq_getElem h5]
          rfl
        · cases hv) (fun v hv => by
        unfold ints at hv
        obtain ⟨z, _, rfl⟩ := List.mem_map.1 hv
        rfl)
      rw [ints_len, ← hlen] at key
      exact key
end Go.Proofs.YtkedcelpadiakaaGreat
namespace Go.Proofs.YtkedcelpadiakaaGreat
open Go Go.Abs
set_option maxRecDepth 10000
noncomputable def awkS : Nat → List Arg → Option Res := fun f xs => match xs with
  | [] => if f = 13 then some trueR else none
  | _ => none
theorem awkS_ok : ∀ f xs r, awkS f xs = some r → LineOK Tryz.prog f xs r := by
  intro f xs r h
  unfold awkS at h
  split at h
  · split at h
    · rename_i hf; subst hf; cases h; exact awake_line
    · cases h
  · cases h
noncomputable def callA (n : Nat) : CallF := Abs.orC (tabC awkS) (evB Tryz.prog bC n)
theorem callA_ok (n : Nat) : CallOK Tryz.prog (callA n) := Abs.orC_ok (tabC_ok awkS_ok) (evB_ok hmix bC_ok bC_grow n)
theorem callA_grow (n : Nat) : CallGrow (callA n) := Abs.orC_grow (tabC_grow _) (evB_grow bC_grow n)
theorem ca_other {n f : Nat} {args : List Value} {H : Heap} (h : f ≠ 13) : callA n (.func (.func f) #[] #[]) args H = evB Tryz.prog bC n (.func (.func f) #[] #[]) args H := by
  unfold callA Abs.orC
  have e : tabC awkS (.func (.func f) #[] #[]) args H = none := by
    unfold tabC
    simp only
    split
    · split
      · rename_i xs _
        have : awkS f xs = none := by
          unfold awkS
          split
          · rw [if_neg h]
          · rfl
        rw [this]
      · rfl
    · rfl
  rw [e]
theorem ca_awake {n : Nat} {H : Heap} : callA n (.func (.func 13) #[] #[]) [] H = some (.bool true, H) := by
  unfold callA Abs.orC
  have e : tabC awkS (.func (.func 13) #[] #[]) [] H = some (.bool true, H ++ []) := rfl
  rw [e, List.append_nil]
end Go.Proofs.YtkedcelpadiakaaGreat
namespace Go.Proofs.YtkedcelpadiakaaGreat
open Go Go.Abs Go.Num
set_option maxRecDepth 10000
attribute [local congr] bindO_congr bindF_congr bindX_congr condX_congr iteB_congr binS_congr pickS_congr
theorem OneL.trans {H H1 : Heap} {r : Option (Value × Heap)} {l : List Int} (ho : Old H.length H H1) (h : OneL H1 r l) : OneL H r l := by
  obtain ⟨v', H', e, o, old, wf⟩ := h
  exact ⟨v', H', e, o.below ho.1, ho.trans (old.mono ho.1), wf⟩
end Go.Proofs.YtkedcelpadiakaaGreat
namespace Go.Proofs.YtkedcelpadiakaaGreat
open Go Go.Abs Go.Num
set_option maxRecDepth 10000
attribute [local congr] bindO_congr bindF_congr bindX_congr condX_congr iteB_congr binS_congr pickS_congr
def NumV (H : Heap) (v : Value) (z : Int) : Prop := ∃ l, R H v (ints l) ∧ val l = z ∧ l.length ≤ 900 ∧ ∀ x ∈ l, -4000000000000000000 ≤ x ∧ x ≤ 4000000000000000000
theorem NumV.mono {H H' : Heap} {v : Value} {z : Int} (h : NumV H v z) (ho : Old H.length H H') : NumV H' v z := by
  obtain ⟨l, hr, h⟩ := h
  exact ⟨l, hr.mono ho, h⟩
theorem NumV.of {H : Heap} {v : Value} {z : Int} (h : R H v (ints (nf z))) (hl : (nf z).length ≤ 900) : NumV H v z :=
  ⟨nf z, h, nf_val z, hl, fun x hx => by have := nf_bound z x hx; unfold B at this; omega⟩
theorem NumV.one {H : Heap} {v : Value} {z : Int} (h : R H v (ints [z])) (h1 : -4000000000000000000 ≤ z) (h2 : z ≤ 4000000000000000000) : NumV H v z :=
  ⟨[z], h, by simp [val], by simp, fun x hx => by simp at hx; subst hx; exact ⟨h1, h2⟩⟩
end Go.Proofs.YtkedcelpadiakaaGreat
namespace Go.Proofs.YtkedcelpadiakaaGreat
open Go Go.Abs Go.Num
set_option maxRecDepth 10000
attribute [local congr] bindO_congr bindF_congr bindX_congr condX_congr iteB_congr binS_congr pickS_congr
theorem zeros_I : ∀ n : Nat, zeros Tryz.prog 3 1 n = some (ints (List.replicate n 0)) := by
  have h : ∀ n : Nat, repl n [vi 0] = ints (List.replicate n 0) := by
    intro n
    induction n with
    | zero => rfl
    | succ n ih => rw [repl, ih, List.replicate_succ]; rfl
  intro n
  have e : zeros Tryz.prog 3 1 n = some (repl n [vi 0]) := by
    have h0 : zeroT Tryz.prog 3 = some (vi 0) := by kernel_rfl
    unfold zeros
    rw [h0]
    rfl
  rw [e, h]
end Go.Proofs.YtkedcelpadiakaaGreat
namespace Go.Proofs.YtkedcelpadiakaaGreat
open Go Go.Abs Go.Num
set_option maxRecDepth 10000
attribute [local congr] bindO_congr bindF_congr bindX_congr condX_congr iteB_congr binS_congr pickS_congr eqB_congr
def Wh (C : Nat) (H : Heap) (w : Value) (z : Int) : Prop := ∃ v, w = .agg #[.bool (decide (z < 0)), v] ∧ RO C H v (ints (nf z.natAbs))
theorem Wh.mono {C : Nat} {H H' : Heap} {w : Value} {z : Int} (h : Wh C H w z) (ho : Old H.length H H') : Wh C H' w z := by
  obtain ⟨v, h1, h2⟩ := h
  exact ⟨v, h1, h2.mono ho⟩
theorem Wh.below {C C' : Nat} {H : Heap} {w : Value} {z : Int} (h : Wh C H w z) (hc : C' ≤ C) : Wh C' H w z := by
  obtain ⟨v, h1, h2⟩ := h
  exact ⟨v, h1, h2.below hc⟩
theorem Wh.kept {C : Nat} {H H' : Heap} {w : Value} {z : Int} (h : Wh C H w z) (k : Kept C H H') : Wh C H' w z := by
  obtain ⟨v, h1, h2⟩ := h
  exact ⟨v, h1, h2.kept k⟩
end Go.Proofs.YtkedcelpadiakaaGreat
namespace Go.Abs
theorem O.readArg {B : Nat} {H : Heap} {v : Value} {l : List Int} (h : O B H v (ints l)) : (v = .slice none 0 0 ∧ l = [] ∧ readArg H v = some (.imm (.slice none 0 0))) ∨ readArg H v = some (.li (ints l)) := by
  rcases h with ⟨rfl, h⟩ | ⟨b, f, rfl, _, _, hb⟩
  · refine .inl ⟨rfl, ?_, rfl⟩
    cases l with
    | nil => rfl
    | cons x l => cases h
  · refine .inr ?_
    show Abs.readArg0 H (sliceA b 0 (ints l).length 1) = _
    unfold Abs.readArg0
    simp only [sliceA, hb]
    have hall : (ints l).all plain = true := by
      rw [List.all_eq_true]
      intro v hv
      obtain ⟨z, _, rfl⟩ := List.mem_map.1 hv
      rfl
    rw [if_pos ⟨by omega, by rw [List.drop_zero]; exact hall⟩, List.drop_zero, List.take_length]
end Go.Abs
namespace Go.Proofs.YtkedcelpadiakaaGreat
open Go Go.Abs Go.Num
set_option maxRecDepth 10000
attribute [local congr] bindO_congr bindF_congr bindX_congr condX_congr iteB_congr binS_congr pickS_congr eqB_congr nilS_congr clsW_congr maxS_congr minS_congr
theorem cyc_run {B : Nat} {H : Heap} {v : Value} {f : List Int} {n : Nat} (hw : WF H) (hv : O B H v (ints f)) (hn : n ≤ 5) (hf : f ∈ permsP n) (m : Nat) : OneL H (evB Tryz.prog bC m (.func (.func 99) #[] #[]) [v] H) (cycP f) := by
  have key : OneL H (bC (.func (.func 99) #[] #[]) [v] H) (cycP f) := by
    show OneL H (tabC cycS (.func (.func 99) #[] #[]) [v] H) (cycP f)
    rcases hv.readArg with ⟨rfl, rfl, hr⟩ | hr
    · have e : tabC cycS (.func (.func 99) #[] #[]) [.slice none 0 0] H = some (.slice none 0 0, H ++ []) := by
        unfold tabC
        simp only [mapO, hr]
        simp only [cycS_nil]
        rfl
      rw [e, List.append_nil]
      exact ⟨_, _, rfl, .inl ⟨rfl, rfl⟩, Old.refl _ _, hw⟩
    · have hs := cycS_li hn hf
      cases hc : cycP f with
      | nil =>
        have e : tabC cycS (.func (.func 99) #[] #[]) [v] H = some (.slice none 0 0, H ++ []) := by
          unfold tabC
          simp only [mapO, hr, hs, cycR, hc]
          rfl
        rw [e, List.append_nil]
        exact ⟨_, _, rfl, .inl ⟨rfl, rfl⟩, Old.refl _ _, hw⟩
      | cons x l =>
        have ren : ∀ l : List Int, mapO (renS fun b => some (b + H.length)) (ints l) = some (ints l) := by
          intro l
          induction l with
          | nil => rfl
          | cons z l ih => unfold ints at ih ⊢; rw [List.map_cons, mapO, ih]; rfl
        have e : tabC cycS (.func (.func 99) #[] #[]) [v] H = some (sliceA H.length 0 (x :: l).length 1, H ++ [.cells H.length true (ints (x :: l))]) := by
          unfold tabC
          simp only [mapO, hr, hs, cycR, hc, mkBlks, ren]
          show some (sliceA (0 + H.length) 0 (x :: l).length 1, _) = _
          rw [Nat.zero_add]
        rw [e]
        have o := O.made (B := H.length) (H := H) (Nat.le_refl _) (ints (x :: l))
        rw [ints_len] at o
        exact ⟨_, _, rfl, o, Old.app _ _, hw.app (Nat.le_refl _)⟩
  cases m with
  | zero => exact key
  | succ m =>
    obtain ⟨w, H', e, h⟩ := key
    refine ⟨w, H', ?_, h⟩
    show (match bC (.func (.func 99) #[] #[]) [v] H with | some r => some r | none => _) = _
    rw [e]
noncomputable def kdA : Code := atC [1, 1, 1, 0, 1, 0, 0] ((Tryz.f48.body).getD .skip)
noncomputable def kdB : Code := atC [1, 1, 1, 1, 0, 1, 0, 0] ((Tryz.f48.body).getD .skip)
theorem set_mid (l : List Int) (k : Nat) (x : Int) : (l ++ List.replicate (k + 1) 0).set l.length x = (l ++ [x]) ++ List.replicate k 0 := by
  rw [List.set_append_right _ _ (Nat.le_refl _), Nat.sub_self, List.replicate_succ, List.set_cons_zero, List.append_assoc]; rfl
theorem kd_back {B C : Nat} {H0 H : Heap} {vr vu vf vb : Value} {r u f : List Int} {N : Nat} (hN : N ≤ 20) (hr : Rng N r) (hu : Rng N u) (rr : R H0 vr (ints r)) (ru : R H0 vu (ints u)) (hB : B = H0.length) (hC : B ≤ C) (oldC : Old B H0 H) (hw : WF H) (of : OM B C H vf (ints f)) (ob : O C H vb (ints (List.replicate r.length 0))) (call : CallF) (m nt : Nat) {a : Fr} {k : Nat} (hk : N < k)
    (h0 : a 0 = vr) (h1 : a 1 = vu) (h5 : a 5 = vf) (h6 : a 6 = vb) (h16 : a 16 = vi N) (h17 : a 17 = vi (0 : Nat)) :
    ∃ x a' H', loopN (evS Tryz.prog call m nt none kdA) k a H = some (x, a', H') ∧ x = .exit 0 ∧ a' 0 = vr ∧ a' 1 = vu ∧ a' 5 = vf ∧ a' 6 = vb ∧ OM B C H' vf (ints f) ∧ O C H' vb (ints (backP r u)) ∧ Old B H0 H' ∧ WF H' := by
  have hrl := hr.len
  have hul := hu.len
  refine loop_up N (fun i a H' => a 0 = vr ∧ a 1 = vu ∧ a 5 = vf ∧ a 6 = vb ∧ a 16 = vi N ∧ a 17 = vi i ∧ OM B C H' vf (ints f) ∧ O C H' vb (ints ((List.range i).foldl (backS r u) (List.replicate r.length 0))) ∧ Old B H0 H' ∧ WF H') _ ?_ ?_ hk ⟨h0, h1, h5, h6, h16, h17, of, ob, oldC, hw⟩
  · intro i a H' hi ⟨h0, h1, h5, h6, h16, h17, of, ob, old, hw⟩
    left
    rw [show kdA = atC [1, 1, 1, 0, 1, 0, 0] ((Tryz.f48.body).getD .skip) from rfl]
    have hlt : (i : Int) < (N : Int) := by omega
    have e1 : IntKind.i64.wrap ((i : Int) + 1) = ((i + 1 : Nat) : Int) := by rw [wr64 (by omega) (by omega)]; omega
    have r1 := rr.mono (old.mono (by omega))
    have u1 := ru.mono (old.mono (by omega))
    have bu := hu.getD hi
    have br := hr.getD (i := (u.getD i 0).toNat) (by omega)
    have hb := (back_rng (u := u) hr (Nat.le_of_lt hi)).len
    have a1 : addrS 1 vr (vi (u.getD i 0)) = some (pt vr (u.getD i 0).toNat) := r1.addrI (by omega) (by omega)
    have l1 := r1.loadI (i := (u.getD i 0).toNat) (by omega)
    have a2 : addrS 1 vb (vi (r.getD (u.getD i 0).toNat 0)) = some (pt vb (r.getD (u.getD i 0).toNat 0).toNat) := ob.R.addrI (by omega) (by omega)
    obtain ⟨H2, es, ob2, old2, wf2⟩ := ob.setI hw (i := (r.getD (u.getD i 0).toNat 0).toNat) (by omega) (i : Int)
    simp (disch := omega) only [Tryz.f48, Option.getD_some, atC, es_seq, es_region, es_cond, es_block, es_skip, ops_nil, ops_cons, st_move, st_assign, sy_addr eL, sy_load aI, sy_store zI, sy_bin, binS_lss, binS_add, bindO_some, bindF_some, bindX_normal, blkX_normal, condX_true, ev_tmp, ev_const, putA, upd_at, Option.map_some, ↓reduceIte, Nat.reduceEqDiff, Int.toNat_natCast, decide_true, ↓bindO_some, ↓bindF_some, ↓bindX_normal, ↓condX_true, h0, h1, h6, h16, h17, hlt, u1.addrI, u1.loadI, a1, l1, a2, es, e1]
    refine ⟨_, _, rfl, ?_, ?_, ?_, ?_, ?_, rfl, of.mono old2, ?_, old.trans (old2.mono hC), wf2⟩
    · exact h0
    · exact h1
    · exact h5
    · exact h6
    · exact h16
    · rw [foldl_range_succ]; exact ob2
  · intro a H' ⟨h0, h1, h5, h6, h16, h17, of, ob, old, hw⟩
    rw [show kdA = atC [1, 1, 1, 0, 1, 0, 0] ((Tryz.f48.body).getD .skip) from rfl]
    simp (disch := omega) only [Tryz.f48, Option.getD_some, atC, es_seq, es_region, es_cond, es_exit, ops_nil, ops_cons, sy_bin, binS_lss, bindO_some, bindF_some, bindX_normal, bindX_exit, condX_false, ev_tmp, putA, upd_at, ↓reduceIte, decide_false, ↓bindO_some, ↓bindF_some, ↓bindX_normal, ↓bindX_exit, ↓condX_false, h16, h17, Int.lt_irrefl]
    refine ⟨_, _, _, rfl, by simp, rfl, h0, h1, h5, h6, of, ?_, old, hw⟩
    unfold backP
    rw [hrl]
    rw [hrl] at ob
    exact ob
theorem kd_comm {B C : Nat} {H0 H : Heap} {vr vu vf vb : Value} {r u b : List Int} {N : Nat} (hN : N ≤ 20) (hr : Rng N r) (hu : Rng N u) (hb : Rng N b) (rr : R H0 vr (ints r)) (ru : R H0 vu (ints u)) (hB : B = H0.length) (hC : B ≤ C) (oldC : Old B H0 H) (hw : WF H) (of : OM B C H vf (ints (List.replicate N 0))) (ob : O C H vb (ints b)) (call : CallF) (m nt : Nat) {a : Fr} {k : Nat} (hk : N < k)
    (h0 : a 0 = vr) (h1 : a 1 = vu) (h5 : a 5 = vf) (h6 : a 6 = vb) (h32 : a 32 = vi N) (h33 : a 33 = vi (0 : Nat)) :
    ∃ x a' H', loopN (evS Tryz.prog call m nt none kdB) k a H = some (x, a', H') ∧ x = .exit 2 ∧ a' 5 = vf ∧ OM B C H' vf (ints ((List.range N).map (commV r u b))) ∧ Old B H0 H' ∧ WF H' := by
  have hrl := hr.len
  have hul := hu.len
  have hbl := hb.len
  refine loop_up N (fun i a H' => a 0 = vr ∧ a 1 = vu ∧ a 5 = vf ∧ a 6 = vb ∧ a 32 = vi N ∧ a 33 = vi i ∧ OM B C H' vf (ints ((List.range i).map (commV r u b) ++ List.replicate (N - i) 0)) ∧ O C H' vb (ints b) ∧ Old B H0 H' ∧ WF H') _ ?_ ?_ hk ⟨h0, h1, h5, h6, h32, h33, of, ob, oldC, hw⟩
  · intro i a H' hi ⟨h0, h1, h5, h6, h32, h33, of, ob, old, hw⟩
    left
    rw [show kdB = atC [1, 1, 1, 1, 0, 1, 0, 0] ((Tryz.f48.body).getD .skip) from rfl]
    have hlt : (i : Int) < (N : Int) := by omega
    have e1 : IntKind.i64.wrap ((i : Int) + 1) = ((i + 1 : Nat) : Int) := by rw [wr64 (by omega) (by omega)]; omega
    have r1 := rr.mono (old.mono (by omega))
    have u1 := ru.mono (old.mono (by omega))
    have br := hr.getD hi
    have bu := hu.getD (i := (r.getD i 0).toNat) (by omega)
    have bb := hb.getD (i := (u.getD (r.getD i 0).toNat 0).toNat) (by omega)
    have a1 : addrS 1 vu (vi (r.getD i 0)) = some (pt vu (r.getD i 0).toNat) := u1.addrI (by omega) (by omega)
    have l1 := u1.loadI (i := (r.getD i 0).toNat) (by omega)
    have a2 : addrS 1 vb (vi (u.getD (r.getD i 0).toNat 0)) = some (pt vb (u.getD (r.getD i 0).toNat 0).toNat) := ob.R.addrI (by omega) (by omega)
    have l2 := ob.R.loadI (i := (u.getD (r.getD i 0).toNat 0).toNat) (by omega)
    have hfl : ((List.range i).map (commV r u b) ++ List.replicate (N - i) 0).length = N := by simp; omega
    have a3 : addrS 1 vf (vi (i : Int)) = some (pt vf i) := of.O.R.addrI (by omega) (by omega)
    obtain ⟨H2, es, of2, old2, wf2, kp⟩ := of.setI hw (i := i) (by omega) (b.getD (u.getD (r.getD i 0).toNat 0).toNat 0)
    have es2 : ((List.range i).map (commV r u b) ++ List.replicate (N - i) 0).set i (b.getD (u.getD (r.getD i 0).toNat 0).toNat 0) = (List.range (i + 1)).map (commV r u b) ++ List.replicate (N - (i + 1)) 0 := by
      have h := set_mid ((List.range i).map (commV r u b)) (N - i - 1) (b.getD (u.getD (r.getD i 0).toNat 0).toNat 0)
      rw [List.length_map, List.length_range, show N - i - 1 + 1 = N - i from by omega] at h
      rw [h, List.range_succ, List.map_append]
      rfl
    rw [es2] at of2
    simp (disch := omega) only [Tryz.f48, Option.getD_some, atC, es_seq, es_region, es_cond, es_block, es_skip, ops_nil, ops_cons, st_move, st_assign, sy_addr eL, sy_load aI, sy_store zI, sy_bin, binS_lss, binS_add, bindO_some, bindF_some, bindX_normal, blkX_normal, condX_true, ev_tmp, ev_const, putA, upd_at, Option.map_some, ↓reduceIte, Nat.reduceEqDiff, Int.toNat_natCast, decide_true, ↓bindO_some, ↓bindF_some, ↓bindX_normal, ↓condX_true, h0, h1, h5, h6, h32, h33, hlt, r1.addrI, r1.loadI, a1, l1, a2, l2, a3, es, e1]
    refine ⟨_, _, rfl, ?_, ?_, ?_, ?_, ?_, rfl, of2, kp _ _ ob, old.trans old2, wf2⟩
    · exact h0
    · exact h1
    · exact h5
    · exact h6
    · exact h32
  · intro a H' ⟨h0, h1, h5, h6, h32, h33, of, ob, old, hw⟩
    rw [show kdB = atC [1, 1, 1, 1, 0, 1, 0, 0] ((Tryz.f48.body).getD .skip) from rfl]
    simp (disch := omega) only [Tryz.f48, Option.getD_some, atC, es_seq, es_region, es_cond, es_exit, ops_nil, ops_cons, sy_bin, binS_lss, bindO_some, bindF_some, bindX_normal, bindX_exit, condX_false, ev_tmp, putA, upd_at, ↓reduceIte, decide_false, ↓bindO_some, ↓bindF_some, ↓bindX_normal, ↓bindX_exit, ↓condX_false, h32, h33, Int.lt_irrefl]
    refine ⟨_, _, _, rfl, by simp, rfl, h5, ?_, old, hw⟩
    rw [Nat.sub_self, List.replicate_zero, List.append_nil] at of
    exact of
theorem kind_run {H : Heap} {vr vu : Value} {r u : List Int} {N : Nat} (hw : WF H) (hN : N ≤ 5) (hr : r ∈ permsP N) (hu : u ∈ permsP N) (hc : commP r u ∈ permsP N) (rr : R H vr (ints r)) (ru : R H vu (ints u)) (n : Nat) (hn : 30 ≤ n) : OneL H (evB Tryz.prog bC n (.func (.func 48) #[] #[]) [vr, vu] H) (kindP r u) := by
  have gr := perms_rng r hr
  have gu := perms_rng u hu
  have hrl := gr.len
  refine run_ofB (F := 29) (Q := fun x => OneL H x (kindP r u)) (fun n hn => ?_) n hn
  rw [body_runS Tryz.func48 rfl (ok_fn (by rfl) Tryz.func48 rfl) (Nat.le_of_ble_eq_true rfl) (D := D0) (by kernel_rfl)]
  have hz := zeros_I N
  have lr := rr.lenI
  rw [hrl] at lr
  have c2 : (0 : Int) ≤ (N : Int) := by omega
  have c3 : (N : Int) ≤ 1048576 := by omega
  have hlz : (ints (List.replicate N (0 : Int))).length = N := by rw [ints_len, List.length_replicate]
  have of := O.made (B := H.length) (Nat.le_refl H.length) (ints (List.replicate N (0 : Int)))
  rw [hlz] at of
  have old1 := Old.app H [.cells H.length true (ints (List.replicate N (0 : Int)))]
  have wf1 := hw.app (Nat.le_refl H.length) (o := true) (cs := ints (List.replicate N (0 : Int)))
  generalize hH1 : H ++ [Blk.cells H.length true (ints (List.replicate N (0 : Int)))] = H1 at *
  have lr1 := (rr.mono old1).lenI
  rw [hrl] at lr1
  have om := OM.of of wf1
  have ob := O.made (B := H1.length) (Nat.le_refl H1.length) (ints (List.replicate N (0 : Int)))
  rw [hlz] at ob
  have old2 := Old.app H1 [.cells H1.length true (ints (List.replicate N (0 : Int)))]
  have wf2 := wf1.app (Nat.le_refl H1.length) (o := true) (cs := ints (List.replicate N (0 : Int)))
  generalize hH2 : H1 ++ [Blk.cells H1.length true (ints (List.replicate N (0 : Int)))] = H2 at *
  have t2 := old1.trans (old2.mono old1.1)
  have lr2 := (rr.mono t2).lenI
  rw [hrl] at lr2
  have key := fun (A : Fr) => kd_back (a := A) (u := u) (by omega) gr gu rr ru rfl old1.1 t2 wf2 (om.mono old2) (by rw [hrl]; exact ob) (evB Tryz.prog bC n) n Tryz.f48.ntmps (k := n) (by omega)
  rw [show kdA = atC [1, 1, 1, 0, 1, 0, 0] ((Tryz.f48.body).getD .skip) from rfl] at key
  simp only [Tryz.f48, Option.getD_some, atC] at key
  simp (disch := omega) only [Tryz.f48, es_seq, es_region, es_block, es_loop, es_ret, ops_nil, ops_cons, st_move, st_assign, st_fun, sy_len uL, sy_make eL yI (by decide), bindO_some, bindF_some, bindX_normal, ev_tmp, ev_const, ev_func, putA, upd_at, Option.map_some, ↓reduceIte, Nat.reduceEqDiff, Int.toNat_natCast, frOf_0, List.map_cons, List.map_nil, ↓bindO_some, ↓bindF_some, ↓bindX_normal, lr, c2, c3, Int.le_refl, and_self, hz, hH1, hH2]
  generalize hA : upd _ 17 _ = A
  obtain ⟨x, a', H3, e, rfl, g0, g1, g5, g6, om3, ob3, old3, wf3⟩ := key A (by subst hA; rfl) (by subst hA; rfl) (by subst hA; rfl) (by subst hA; rfl) (by subst hA; rfl) (by subst hA; rfl)
  have lr3 := (rr.mono old3).lenI
  rw [hrl] at lr3
  have gb := back_rng (u := u) gr (Nat.le_refl N)
  rw [show (List.range N).foldl (backS r u) (List.replicate r.length 0) = backP r u from by unfold backP; rw [hrl]] at gb
  have key2 := fun (A : Fr) => kd_comm (a := A) (by omega) gr gu gb rr ru rfl old1.1 old3 wf3 om3 ob3 (evB Tryz.prog bC n) n Tryz.f48.ntmps (k := n) (by omega)
  rw [show kdB = atC [1, 1, 1, 1, 0, 1, 0, 0] ((Tryz.f48.body).getD .skip) from rfl] at key2
  simp only [Tryz.f48, Option.getD_some, atC] at key2
  rw [e]
  clear e key
  simp (disch := omega) only [bindO_some, bindF_some, bindX_normal, blkX_exit, Option.map_some, ↓reduceIte, ↓bindO_some, ↓bindF_some, ↓bindX_normal, g0, lr3]
  generalize hA2 : upd _ 33 _ = A2
  obtain ⟨x, a2, H4, e, rfl, k5, om4, old4, wf4⟩ := key2 A2 (by subst hA2; exact g0) (by subst hA2; exact g1) (by subst hA2; exact g5) (by subst hA2; exact g6) (by subst hA2; rfl) (by subst hA2; rfl)
  rw [e]
  clear e key2
  rw [show (List.range N).map (commV r u (backP r u)) = commP r u from by unfold commP; rw [hrl]] at om4
  obtain ⟨w, H5, s5, o5, old5, wf5⟩ := cyc_run wf4 om4.O hN hc n
  simp (disch := omega) only [bindO_some, bindF_some, bindX_normal, blkX_exit, upd_at, Option.map_some, ↓reduceIte, ↓bindO_some, ↓bindF_some, ↓bindX_normal, fin_r, res_nil, res_tmp, pack_1, k5, s5, o5.R.scal]
  exact ⟨_, _, rfl, o5.below old4.1, old4.trans (old5.mono old4.1), wf5⟩
end Go.Proofs.YtkedcelpadiakaaGreat
namespace Go.Proofs.YtkedcelpadiakaaGreat
open Go Go.Abs Go.Num
set_option maxRecDepth 10000
attribute [local congr] bindO_congr bindF_congr bindX_congr condX_congr iteB_congr binS_congr pickS_congr eqB_congr nilS_congr clsW_congr maxS_congr minS_congr
theorem uBl : Tryz.prog.underlying 66 = some (.slice 4) := by kernel_rfl
theorem eBl : sliceElem Tryz.prog 66 = some (4, 1) := by kernel_rfl
theorem yB : bytesT Tryz.prog 4 = some 1 := by kernel_rfl
def bools (l : List Bool) : List Value := l.map .bool
theorem bools_len (l : List Bool) : (bools l).length = l.length := by unfold bools; simp
theorem bools_set (l : List Bool) (i : Nat) (x : Bool) : (bools l).set i (.bool x) = bools (l.set i x) := by unfold bools; rw [List.map_set]
theorem bools_get {l : List Bool} {i : Nat} (h : i < l.length) : (bools l)[i]? = some (.bool (l.getD i true)) := by
  unfold bools
  rw [List.getElem?_map, List.getD_eq_getElem?_getD, List.getElem?_eq_getElem h]; rfl
theorem zeros_B (n : Nat) : zeros Tryz.prog 4 1 n = some (bools (List.replicate n false)) := by
  have h : ∀ n : Nat, repl n [.bool false] = bools (List.replicate n false) := by
    intro n
    induction n with
    | zero => rfl
    | succ n ih => rw [repl, ih, List.replicate_succ]; rfl
  have e : zeros Tryz.prog 4 1 n = some (repl n [.bool false]) := by
    have h0 : zeroT Tryz.prog 4 = some (.bool false) := by kernel_rfl
    unfold zeros
    rw [h0]
    rfl
  rw [e, h]
theorem own_R {H : Heap} {b f : Nat} {cs : List Value} (hb : H[b]? = some (.cells f true cs)) : R H (sliceA b 0 cs.length 1) cs := .inr (.inr ⟨b, 0, f, true, cs, rfl, hb, by simp, by simp⟩)
def QX (P : Nat → Prop) (H : Heap) (v : Value) (x : List Int) : Prop := ∃ b f, v = sliceA b 0 x.length 1 ∧ P b ∧ P f ∧ H[b]? = some (.cells f true (ints x))
def QL (G : Nat → Prop) (H : Heap) (vs : List Value) (x : List Int) : Prop := ∃ v, vs = [v] ∧ RI (fun b => ¬G b) H v (ints x) ∧ QX (fun b => ¬G b) H v x
theorem QX.R {P : Nat → Prop} {H : Heap} {v : Value} {x : List Int} (h : QX P H v x) : R H v (ints x) := by
  obtain ⟨b, f, rfl, _, _, h3⟩ := h
  exact .inr (.inr ⟨b, 0, f, true, ints x, by rw [ints_len], h3, by simp, by simp⟩)
theorem QX.keep {P : Nat → Prop} {H H' : Heap} {v : Value} {x : List Int} (h : QX P H v x) (k : KeepG P H H') : QX P H' v x := by
  obtain ⟨b, f, h0, h1, h2, h3⟩ := h
  exact ⟨b, f, h0, h1, h2, k.2 b _ h1 h3 h2⟩
theorem QX.sub {P P' : Nat → Prop} (hs : ∀ b, P b → P' b) {H : Heap} {v : Value} {x : List Int} (h : QX P H v x) : QX P' H v x := by
  obtain ⟨b, f, h0, h1, h2, h3⟩ := h
  exact ⟨b, f, h0, hs b h1, hs f h2, h3⟩
structure ArS (B : Nat) (S : Nat → Prop) (H0 : Heap) (bu fl : Nat) (us : List Bool) (G : Nat → Prop) (H : Heap) : Prop where
  wf : WF H
  gok : GOk B G H
  low : ∀ b, b < B → ¬S b → H[b]? = H0[b]?
  used : H[bu]? = some (.cells bu true (bools us))
  gu : ¬G bu
  gl : ¬G fl
  ne : fl ≠ bu
  hu : B ≤ bu
  hl : B ≤ fl
theorem split_at {α : Type} (N i : Nat) (h : i < N) (f : Nat → List α) : (List.range N).flatMap f = (List.range i).flatMap f ++ f i ++ ((List.range N).drop (i + 1)).flatMap f := by
  have e : List.range N = List.range i ++ i :: (List.range N).drop (i + 1) := by
    have h1 := List.take_append_drop i (List.range N)
    rw [range_drop h] at h1
    rw [List.take_range, Nat.min_eq_left (by omega)] at h1
    exact h1.symm
  conv => lhs; rw [e]
  rw [List.flatMap_append, List.flatMap_cons, List.append_assoc]
noncomputable def arA : Code := atC [1, 1, 0, 1, 0, 0] ((Tryz.f98.body).getD .skip)
theorem ars_low {B : Nat} {S : Nat → Prop} {H0 H H' : Heap} {bu fl : Nat} {us : List Bool} {G : Nat → Prop} (h : ArS B S H0 bu fl us G H) {f : Nat} (hf : B ≤ f) {k : Nat} (hk : ∀ (d : Nat) (x : Blk), H[d]? = some x → d ≠ f → famLe f k x → H'[d]? = some x) : ∀ b, b < B → ¬S b → H'[b]? = H0[b]? := by
  intro b hb hs
  rw [← h.low b hb hs]
  have hlt : b < H.length := Nat.lt_of_lt_of_le hb h.gok.len
  have hx : H[b]? = some H[b] := List.getElem?_eq_getElem hlt
  rw [hx]
  refine hk b _ hx (by omega) (famLe_ne fun g o cs e => ?_)
  rw [e] at hx
  have := h.wf b g o cs hx
  omega
theorem ars_keep {G : Nat → Prop} {H H' : Heap} {f : Nat} (hf : ¬G f) (hl : H.length ≤ H'.length) {k : Nat} (hk : ∀ (d : Nat) (x : Blk), H[d]? = some x → d ≠ f → famLe f k x → H'[d]? = some x) : KeepG G H H' := by
  refine ⟨hl, fun b x hb hx hi => hk b x hx (fun e => hf (e ▸ hb)) (famLe_ne fun g o cs e => ?_)⟩
  subst e
  exact fun e => hf (e ▸ hi)
section
variable {N F B : Nat} {Y : Value} {S : Nat → Prop} {I : (Nat → Prop) → List (List Int) → Heap → Prop} {items : List (List Int)} {H0 : Heap} {bu fl : Nat}
def ArrOk (N F B : Nat) (Y : Value) (S : Nat → Prop) (I : (Nat → Prop) → List (List Int) → Heap → Prop) (items : List (List Int)) (H0 : Heap) (bu fl k : Nat) : Prop :=
  ∀ (us : List Bool) (l : List Int) (bl : Nat) (G : Nat → Prop) (H1 : Heap) (done rest : List (List Int)), us.length = N → l.length + k = N → items = done ++ arrP k us l ++ rest → ArS B S H0 bu fl us G H1 → H1[bl]? = some (.cells fl true (ints l)) → ¬G bl → bl ≠ bu → I G done H1 →
    ∀ n, F + k + 60 ≤ n → ∃ G' H2, evB Tryz.prog bC n (.func (.func 98) #[] #[]) [sliceA bl 0 l.length 1, sliceA bu 0 N 1, Y] H1 = some (.bool true, H2) ∧ ArS B S H0 bu fl us G' H2 ∧ I G' (done ++ arrP k us l) H2 ∧ (∀ b, G' b → G b ∨ H1.length ≤ b) ∧ H1.length ≤ H2.length ∧
      ∀ (d : Nat) (o : Bool) (cs : List Value), H1[d]? = some (.cells fl o cs) → ¬G d → d ≠ bu → cs.length ≤ l.length → H2[d]? = some (.cells fl o cs)
theorem arr_leaf (hN : N ≤ 20) (he : Eats (fun n => evB Tryz.prog bC n) F Y B S items QL I) : ArrOk N F B Y S I items H0 bu fl 0 := by
  intro us l bl G H1 done rest hus hl hitems hs hbl hgl hbu hI n hn
  refine run_ofB (F := F + 59) (Q := fun r => ∃ G' H2, r = some (.bool true, H2) ∧ ArS B S H0 bu fl us G' H2 ∧ I G' (done ++ arrP 0 us l) H2 ∧ (∀ b, G' b → G b ∨ H1.length ≤ b) ∧ H1.length ≤ H2.length ∧ ∀ (d : Nat) (o : Bool) (cs : List Value), H1[d]? = some (.cells fl o cs) → ¬G d → d ≠ bu → cs.length ≤ l.length → H2[d]? = some (.cells fl o cs)) (fun n hn => ?_) n (by omega)
  rw [body_runS Tryz.func98 rfl (ok_fn (by rfl) Tryz.func98 rfl) (Nat.le_of_ble_eq_true rfl) (D := D0) (by kernel_rfl)]
  have rl := own_R hbl
  have ru := own_R hs.used
  rw [ints_len] at rl
  rw [bools_len, hus] at ru
  have ll := rl.lenI
  have lu := ru.len
  rw [bools_len, hus] at lu
  have c1 : decide ((l.length : Int) = (N : Int)) = true := decide_eq_true (by omega)
  obtain ⟨H2, s1, wf2, k2, low2, i2⟩ := he.step n (by omega) G done l rest [sliceA bl 0 l.length 1] H1 (by rw [hitems]; simp [arrP]) hs.wf hs.gok hI ⟨_, rfl, .inr (.inr ⟨bl, 0, fl, true, ints l, by rw [ints_len], hgl, hs.gl, hbl, by simp, by simp⟩), bl, fl, rfl, hgl, hs.gl, hbl⟩
  simp (disch := omega) only [Tryz.f98, es_seq, es_region, es_cond, es_ret, ops_nil, ops_cons, st_move, st_assign, st_fun, sy_len uL, sy_bin, binS_eql, bindO_some, bindF_some, bindX_normal, bindX_ret, condX_true, ev_tmp, ev_const, putA, upd_at, Option.map_some, ↓reduceIte, Nat.reduceEqDiff, frOf_0, frOf_1, frOf_2, List.map_cons, List.map_nil, ↓bindO_some, ↓bindF_some, ↓bindX_normal, ↓bindX_ret, ↓condX_true, fin_r, res_nil, res_tmp, pack_1, scal_bool, sy_len uBl, ll, lu, c1, s1]
  refine ⟨extG G H1 H2, H2, rfl, ⟨wf2, hs.gok.ext k2.1, fun b hb hns => by rw [low2 b hb hns]; exact hs.low b hb hns, k2.2 bu _ hs.gu hs.used hs.gu, ?_, ?_, hs.ne, hs.hu, hs.hl⟩, i2, fun b hb => hb.imp id fun h => h.1, k2.1, fun d o cs hd hg _ _ => k2.2 d _ hg hd hs.gl⟩
  · rintro (h | h)
    · exact hs.gu h
    · have := lt_of_blk hs.used; omega
  · rintro (h | h)
    · exact hs.gl h
    · have := lt_of_blk hbl
      have := hs.wf bl fl true _ hbl
      omega
theorem arr_node (hN : N ≤ 20) (he : Eats (fun n => evB Tryz.prog bC n) F Y B S items QL I) {k : Nat} (ih : ArrOk N F B Y S I items H0 bu fl k) : ArrOk N F B Y S I items H0 bu fl (k + 1) := by
  intro us l bl G H1 done rest hus hl hitems hs hbl hgl hbu hI n hn
  refine run_ofB (F := F + k + 60) (Q := fun r => ∃ G' H2, r = some (.bool true, H2) ∧ ArS B S H0 bu fl us G' H2 ∧ I G' (done ++ arrP (k + 1) us l) H2 ∧ (∀ b, G' b → G b ∨ H1.length ≤ b) ∧ H1.length ≤ H2.length ∧ ∀ (d : Nat) (o : Bool) (cs : List Value), H1[d]? = some (.cells fl o cs) → ¬G d → d ≠ bu → cs.length ≤ l.length → H2[d]? = some (.cells fl o cs)) (fun n hn => ?_) n (by omega)
  rw [body_runS Tryz.func98 rfl (ok_fn (by rfl) Tryz.func98 rfl) (Nat.le_of_ble_eq_true rfl) (D := D0) (by kernel_rfl)]
  have rl := own_R hbl
  have ru := own_R hs.used
  rw [ints_len] at rl
  rw [bools_len, hus] at ru
  have ll := rl.lenI
  have lu := ru.len
  rw [bools_len, hus] at lu
  have c1 : decide ((l.length : Int) = (N : Int)) = false := decide_eq_false (by omega)
  have key : ∀ A : Fr, A 0 = sliceA bl 0 l.length 1 → A 1 = sliceA bu 0 N 1 → A 2 = Y → A 17 = vi N → A 18 = vi (0 : Nat) → ∃ r a' H2, loopN (evS Tryz.prog (evB Tryz.prog bC n) n Tryz.f98.ntmps none arA) n A H1 = some (r, a', H2) ∧ r = .exit 0 ∧ ∃ G', ArS B S H0 bu fl us G' H2 ∧ I G' (done ++ arrP (k + 1) us l) H2 ∧ (∀ b, G' b → G b ∨ H1.length ≤ b) ∧ H1.length ≤ H2.length ∧ ∀ (d : Nat) (o : Bool) (cs : List Value), H1[d]? = some (.cells fl o cs) → ¬G d → d ≠ bu → cs.length ≤ l.length → H2[d]? = some (.cells fl o cs) := by
    intro A h0 h1 h2 h17 h18
    refine loop_up N (fun i a H' => a 0 = sliceA bl 0 l.length 1 ∧ a 1 = sliceA bu 0 N 1 ∧ a 2 = Y ∧ a 17 = vi N ∧ a 18 = vi i ∧ ∃ G', ArS B S H0 bu fl us G' H' ∧ I G' (done ++ (List.range i).flatMap fun i => if us.getD i true then [] else arrP k (us.set i true) (l ++ [(i : Int)])) H' ∧ (∀ b, G' b → G b ∨ H1.length ≤ b) ∧ H1.length ≤ H'.length ∧ ∀ (d : Nat) (o : Bool) (cs : List Value), H1[d]? = some (.cells fl o cs) → ¬G d → d ≠ bu → cs.length ≤ l.length → H'[d]? = some (.cells fl o cs)) _ ?_ ?_ (by omega) ⟨h0, h1, h2, h17, h18, G, hs, by simpa using hI, fun b hb => .inl hb, Nat.le_refl _, fun d o cs h _ _ _ => h⟩
    · intro i a H' hi ⟨h0, h1, h2, h17, h18, G', hs', hI', hg', hl', hfl⟩
      left
      rw [show arA = atC [1, 1, 0, 1, 0, 0] ((Tryz.f98.body).getD .skip) from rfl]
      have hlt : (i : Int) < (N : Int) := by omega
      have e1 : IntKind.i64.wrap ((i : Int) + 1) = ((i + 1 : Nat) : Int) := by rw [wr64 (by omega) (by omega)]; omega
      have ru := own_R hs'.used
      rw [bools_len, hus] at ru
      have au : addrS 1 (sliceA bu 0 N 1) (vi (i : Int)) = some (pt (sliceA bu 0 N 1) i) := ru.addr (by omega) (by rw [bools_len, hus]; omega)
      have lu : loadS (pt (sliceA bu 0 N 1) i) H' = some (.bool (us.getD i true)) := by rw [ru.load (by rw [bools_len, hus]; omega), bools_get (by omega)]
      have hbl' : H'[bl]? = some (.cells fl true (ints l)) := hfl bl true _ hbl hgl hbu (by rw [ints_len]; exact Nat.le_refl _)
      have hgl' : ¬G' bl := fun h => (hg' bl h).elim hgl fun h2 => by have := lt_of_blk hbl; omega
      cases hu : us.getD i true with
      | true =>
        rw [hu] at lu
        simp (disch := omega) only [Tryz.f98, Option.getD_some, atC, es_seq, es_region, es_cond, es_block, es_skip, es_exit, ops_nil, ops_cons, st_move, st_assign, sy_bin, binS_lss, binS_add, bindO_some, bindF_some, bindX_normal, bindX_exit, blkX_exit, condX_true, ev_tmp, ev_const, putA, upd_at, Option.map_some, ↓reduceIte, Nat.reduceEqDiff, decide_true, ↓bindO_some, ↓bindF_some, ↓bindX_normal, ↓bindX_exit, ↓condX_true, sy_addr eBl, sy_load aB, h1, h17, h18, hlt, au, lu, e1]
        refine ⟨_, _, rfl, ?_, ?_, ?_, ?_, rfl, G', hs', ?_, hg', hl', hfl⟩
        · exact h0
        · exact h1
        · exact h2
        · exact h17
        · rw [List.range_succ, List.flatMap_append, List.flatMap_cons, List.flatMap_nil, hu, if_pos rfl, List.append_nil, List.append_nil]; exact hI'
      | false =>
        rw [hu] at lu
        -- used[i] = true
        obtain ⟨H2, es, hl2, hb2, wf2, k2⟩ := own_set hs'.wf hs'.used (i := i) (by rw [bools_len, hus]; exact hi) (c := .bool true) rfl
        rw [bools_len, hus] at es
        rw [bools_set] at hb2
        have low2 := ars_low hs' hs'.hu k2
        have kp2 := ars_keep hs'.gu (Nat.le_of_eq hl2.symm) k2
        have hbl2 : H2[bl]? = some (.cells fl true (ints l)) := k2 bl _ hbl' hbu (famLe_ne fun g o cs e => by injection e with e _ _; rw [← e]; exact hs'.ne)
        -- the longer list
        obtain ⟨H3, ep, hl3, hb3, wf3, k3⟩ := own_push wf2 hbl2 (by rw [ints_len]; unfold maxA; omega) (vi i)
        rw [ints_len] at ep k3
        have low3 : ∀ b, b < B → ¬S b → H3[b]? = H0[b]? := by
          have hs2 : ArS B S H0 bu fl (us.set i true) G' H2 := ⟨wf2, hs'.gok.grow (Nat.le_of_eq hl2.symm), low2, hb2, hs'.gu, hs'.gl, hs'.ne, hs'.hu, hs'.hl⟩
          exact ars_low hs2 hs'.hl fun d x hd _ hle => k3 d x hd hle
        have kp3 : KeepG G' H2 H3 := ars_keep hs'.gl (by omega) fun d x hd _ hle => k3 d x hd hle
        have hu3 : H3[bu]? = some (.cells bu true (bools (us.set i true))) := k3 bu _ hb2 (famLe_ne fun g o cs e => by injection e with e _ _; rw [← e]; exact fun h => hs'.ne h.symm)
        have hs3 : ArS B S H0 bu fl (us.set i true) G' H3 := ⟨wf3, hs'.gok.grow (by omega), low3, hu3, hs'.gu, hs'.gl, hs'.ne, hs'.hu, hs'.hl⟩
        have hI3 := he.keep G' _ H' H3 hs'.wf wf3 hs'.gok (kp2.trans kp3) hI'
        have hg3 : ¬G' (H2.length + 1) := fun h => by have := hs'.gok.lt _ h; omega
        have hbl3 : H3[H2.length + 1]? = some (.cells fl true (ints (l ++ [(i : Int)]))) := by rw [ints_app]; exact hb3
        have hsp := split_at N i hi fun i => if us.getD i true then [] else arrP k (us.set i true) (l ++ [(i : Int)])
        simp only [hu, Bool.false_eq_true, if_false] at hsp
        have hit : items = (done ++ (List.range i).flatMap fun i => if us.getD i true then [] else arrP k (us.set i true) (l ++ [(i : Int)])) ++ arrP k (us.set i true) (l ++ [(i : Int)]) ++ ((((List.range N).drop (i + 1)).flatMap fun i => if us.getD i true then [] else arrP k (us.set i true) (l ++ [(i : Int)])) ++ rest) := by
          rw [hitems]
          show done ++ (List.range us.length).flatMap _ ++ rest = _
          rw [hus, hsp]
          simp only [List.append_assoc]
        have hbu3 : H2.length + 1 ≠ bu := by have := lt_of_blk hb2; omega
        obtain ⟨G4, H4, s4, hs4, hI4, hg4, hl4, hfl4⟩ := ih (us.set i true) (l ++ [(i : Int)]) (H2.length + 1) G' H3 _ _ (by rw [List.length_set]; exact hus) (by simp; omega) hit hs3 hbl3 hg3 hbu3 hI3 n (by omega)
        rw [show (l ++ [(i : Int)]).length = l.length + 1 from by simp] at s4 hfl4
        -- used[i] = false
        obtain ⟨H5, es5, hl5, hb5, wf5, k5⟩ := own_set hs4.wf hs4.used (i := i) (by rw [bools_len, List.length_set, hus]; exact hi) (c := .bool false) rfl
        rw [bools_len, List.length_set, hus] at es5
        rw [bools_set, List.set_set] at hb5
        have hsame : us.set i false = us := by
          refine List.ext_getElem (by simp) fun j h1 h2 => ?_
          rw [List.getElem_set]
          split
          · rename_i e
            subst e
            rw [List.getD_eq_getElem?_getD, List.getElem?_eq_getElem h2] at hu
            exact hu.symm
          · rfl
        rw [hsame] at hb5
        have low5 := ars_low hs4 hs4.hu k5
        have kp5 := ars_keep hs4.gu (Nat.le_of_eq hl5.symm) k5
        have hI5 := he.keep G4 _ H4 H5 hs4.wf wf5 hs4.gok kp5 hI4
        have au4 : addrS 1 (sliceA bu 0 N 1) (vi (i : Int)) = some (pt (sliceA bu 0 N 1) i) := au
        simp (disch := omega) only [Tryz.f98, Option.getD_some, atC, es_seq, es_region, es_cond, es_block, es_skip, ops_nil, ops_cons, st_move, st_assign, st_fun, sy_bin, st_not, sy_append eL pI, sy_build1 eL oI, binS_lss, binS_add, bindO_some, bindF_some, bindX_normal, blkX_normal, condX_true, condX_false, ev_tmp, ev_const, ev_func, putA, upd_at, Option.map_some, ↓reduceIte, Nat.reduceEqDiff, List.map_cons, List.map_nil, decide_true, Bool.not_true, ↓bindO_some, ↓bindF_some, ↓bindX_normal, ↓condX_true, ↓condX_false, scal_vi, sy_addr eBl, sy_load aB, sy_store zB, h0, h1, h2, h17, h18, hlt, au, lu, es, ep, s4, es5, e1]
        refine ⟨_, _, rfl, ?_, ?_, ?_, ?_, rfl, G4, ⟨wf5, hs4.gok.grow (Nat.le_of_eq hl5.symm), low5, hb5, hs4.gu, hs4.gl, hs4.ne, hs4.hu, hs4.hl⟩, ?_, ?_, by omega, ?_⟩
        · exact h0
        · exact h1
        · exact h2
        · exact h17
        · rw [List.range_succ, List.flatMap_append, List.flatMap_cons, List.flatMap_nil, hu, if_neg (by simp), List.append_nil, ← List.append_assoc]; exact hI5
        · intro b hb
          rcases hg4 b hb with hb | hb
          · exact hg' b hb
          · right; omega
        · intro d o cs hd hg hdb hle
          have h1 := hfl d o cs hd hg hdb hle
          have hgd : ¬G' d := fun h => (hg' d h).elim hg fun h2 => by have := lt_of_blk hd; omega
          have h2 := k2 d _ h1 hdb (famLe_ne fun g o cs e => by injection e with e _ _; rw [← e]; exact hs'.ne)
          have h3 := k3 d _ h2 (fun _ => hle)
          have h4 := hfl4 d o cs h3 hgd hdb (by omega)
          exact k5 d _ h4 hdb (famLe_ne fun g o cs e => by injection e with e _ _; rw [← e]; exact hs'.ne)
    · intro a H' ⟨h0, h1, h2, h17, h18, G', hs', hI', hg', hl', hfl⟩
      rw [show arA = atC [1, 1, 0, 1, 0, 0] ((Tryz.f98.body).getD .skip) from rfl]
      simp (disch := omega) only [Tryz.f98, Option.getD_some, atC, es_seq, es_region, es_cond, es_exit, ops_nil, ops_cons, sy_bin, binS_lss, bindO_some, bindF_some, bindX_normal, bindX_exit, condX_false, ev_tmp, putA, upd_at, ↓reduceIte, decide_false, ↓bindO_some, ↓bindF_some, ↓bindX_normal, ↓bindX_exit, ↓condX_false, h17, h18, Int.lt_irrefl]
      refine ⟨_, _, _, rfl, by simp, rfl, G', hs', ?_, hg', hl', hfl⟩
      show I G' (done ++ (List.range us.length).flatMap _) H'
      rw [hus]
      exact hI'
  rw [show arA = atC [1, 1, 0, 1, 0, 0] ((Tryz.f98.body).getD .skip) from rfl] at key
  simp only [Tryz.f98, Option.getD_some, atC] at key
  simp (disch := omega) only [Tryz.f98, es_seq, es_region, es_cond, es_block, es_loop, es_skip, es_ret, ops_nil, ops_cons, st_move, st_assign, sy_len uL, sy_bin, binS_eql, bindO_some, bindF_some, bindX_normal, condX_false, ev_tmp, ev_const, putA, upd_at, Option.map_some, ↓reduceIte, Nat.reduceEqDiff, frOf_0, frOf_1, ↓bindO_some, ↓bindF_some, ↓bindX_normal, ↓condX_false, sy_len uBl, ll, lu, c1]
  generalize hA : upd _ 18 _ = A
  obtain ⟨r, a', H2, e, rfl, G', h⟩ := key A (by subst hA; rfl) (by subst hA; rfl) (by subst hA; rfl) (by subst hA; rfl) (by subst hA; rfl)
  rw [e]
  clear e key
  simp (disch := omega) only [bindX_normal, blkX_exit, upd_at, Option.map_some, ↓reduceIte, ↓bindX_normal, fin_r, res_nil, res_tmp, pack_1, scal_bool]
  exact ⟨G', H2, rfl, h⟩
theorem arr_all (hN : N ≤ 20) (he : Eats (fun n => evB Tryz.prog bC n) F Y B S items QL I) : ∀ k, ArrOk N F B Y S I items H0 bu fl k := by
  intro k
  induction k with
  | zero => exact arr_leaf hN he
  | succ k ih => exact arr_node hN he ih
end
theorem perms_feeds {H : Heap} {bn fn N : Nat} {o : Bool} (hw : WF H) (hN : N ≤ 20) (hb : H[bn]? = some (.cells fn o [vi N])) : Feeds (fun n => evB Tryz.prog bC n) 100 (.func (.func 97) #[] #[ptrA bn 0]) (fun _ => False) H (permsP N) QL := by
  intro F Y S I _ he hI n hn
  refine run_ofB (F := F + 99) (Q := fun r => ∃ G' H', r = some (.tuple #[], H') ∧ WF H' ∧ GOk H.length G' H' ∧ (∀ b, b < H.length → ¬S b → H'[b]? = H[b]?) ∧ I G' (permsP N) H') (fun n hn => ?_) n (by omega)
  rw [body_runC Tryz.func97 rfl (ok_fn (by rfl) Tryz.func97 rfl) (Nat.le_of_ble_eq_true rfl) (D := D0) (by kernel_rfl)]
  have l0 : loadS (ptrA bn 0) H = some (vi N) := by simp [loadS, ptrA, Heap.cell, hb]
  have hz := zeros_B N
  have c2 : (0 : Int) ≤ (N : Int) := by omega
  have c3 : (N : Int) ≤ 1048576 := by omega
  have hblt := lt_of_blk hb
  -- used
  have old1 := Old.app H [.cells H.length true (bools (List.replicate N false))]
  have wf1 := hw.app (Nat.le_refl H.length) (o := true) (cs := bools (List.replicate N false))
  have hu1 : (H ++ [Blk.cells H.length true (bools (List.replicate N false))])[H.length]? = some (.cells H.length true (bools (List.replicate N false))) := by rw [List.getElem?_append_right (Nat.le_refl _), Nat.sub_self]; rfl
  have hl1 : (H ++ [Blk.cells H.length true (bools (List.replicate N false))]).length = H.length + 1 := by simp
  have l1 : loadS (ptrA bn 0) (H ++ [.cells H.length true (bools (List.replicate N false))]) = some (vi N) := by simp [loadS, ptrA, Heap.cell, List.getElem?_append_left hblt, hb]
  have hz0 : zeros Tryz.prog 3 1 0 = some [] := nI
  generalize hH1 : H ++ [Blk.cells H.length true (bools (List.replicate N false))] = H1 at *
  have old2 := Old.app H1 [.cells H1.length true []]
  have wf2 := wf1.app (Nat.le_refl H1.length) (o := true) (cs := [])
  have hb2 : (H1 ++ [Blk.cells H1.length true []])[H1.length]? = some (.cells H1.length true (ints [])) := by rw [List.getElem?_append_right (Nat.le_refl _), Nat.sub_self]; rfl
  have t2 := old1.trans (old2.mono old1.1)
  have hu2 : (H1 ++ [Blk.cells H1.length true []])[H.length]? = some (.cells H.length true (bools (List.replicate N false))) := by rw [List.getElem?_append_left (by omega)]; exact hu1
  have gok : GOk H.length (fun b => b < H.length) (H1 ++ [Blk.cells H1.length true []]) := ⟨fun b hb => hb, fun b hb => by simp; omega, by simp; omega⟩
  have gok0 : GOk H.length (fun b => b < H.length) H := ⟨fun b hb => hb, fun b hb => hb, Nat.le_refl _⟩
  have hI2 := he.keep _ _ H _ hw wf2 gok0 (t2.keepG _) hI
  obtain ⟨G', H', s1, hs, hI', _, hlen, _⟩ := arr_all hN he N (H0 := H) (bu := H.length) (fl := H1.length) (List.replicate N false) [] H1.length (fun b => b < H.length) _ [] [] (by simp) (by simp) (by simp [permsP]) ⟨wf2, gok, fun b hb _ => t2.2 b hb, hu2, by omega, by omega, by omega, by omega, by omega⟩ hb2 (by omega) (by omega) hI2 n (by omega)
  rw [show ([] : List Int).length = 0 from rfl] at s1
  simp (disch := omega) only [Tryz.f97, es_seq, es_region, ops_nil, ops_cons, st_move, st_assign, st_fun, sy_load aI, sy_make eL yI (by decide), bindO_some, bindF_some, bindX_normal, ev_tmp, ev_const, ev_func, putA, upd_at, Option.map_some, ↓reduceIte, Nat.reduceEqDiff, Int.toNat_natCast, frOf_0, frOf_1, List.map_cons, List.map_nil, ↓bindO_some, ↓bindF_some, ↓bindX_normal, fin_n, res_nil, List.cons_append, List.nil_append, sy_make eBl yB (by decide), l0, c2, c3, Int.le_refl, and_self, hz, hH1, l1, hz0, Int.toNat_zero, s1]
  exact ⟨G', H', rfl, hs.wf, hs.gok, hs.low, by rw [List.nil_append] at hI'; exact hI'⟩
theorem perms_run {H : Heap} {N : Nat} (n : Nat) (hn : 1 ≤ n) : evB Tryz.prog bC n (.func (.func 45) #[] #[]) [vi N] H = some (.func (.func 97) #[] #[ptrA H.length 0], H ++ [.cells H.length true [vi N]]) := by
  refine run_ofB (F := 0) (Q := fun r => r = some (Value.func (.func 97) #[] #[ptrA H.length 0], H ++ [Blk.cells H.length true [vi N]])) (fun n hn => ?_) n hn
  rw [body_runS Tryz.func45 rfl (ok_fn (by rfl) Tryz.func45 rfl) (Nat.le_of_ble_eq_true rfl) (D := D0) (by kernel_rfl)]
  simp (disch := omega) only [Tryz.f45, es_seq, es_region, es_ret, ops_nil, ops_cons, st_assign, bindO_some, bindF_some, bindX_normal, ev_tmp, ev_const, putA, upd_at, Option.map_some, ↓reduceIte, Nat.reduceEqDiff, frOf_0, ↓bindO_some, ↓bindF_some, ↓bindX_normal, fin_r, res_nil, res_tmp, pack_1, scal_vi, sy_box, sy_makeF1, mkF1_ptr, scal_fn]
end Go.Proofs.YtkedcelpadiakaaGreat
namespace Go.Proofs.YtkedcelpadiakaaGreat
open Go Go.Abs Go.Num
set_option maxRecDepth 10000
attribute [local congr] bindO_congr bindF_congr bindX_congr condX_congr iteB_congr binS_congr pickS_congr eqB_congr nilS_congr clsW_congr maxS_congr minS_congr
noncomputable def eqlA : Code := atC [1, 1, 0, 1, 0, 0] ((Tryz.f47.body).getD .skip)
theorem equal_run {H : Heap} {va vb : Value} {l m : List Int} (ha : R H va (ints l)) (hb : R H vb (ints m)) (ll : l.length ≤ 1000) (lm : m.length ≤ 1000) (n : Nat) (hn : 1002 ≤ n) :
    evB Tryz.prog bC n (.func (.func 47) #[] #[]) [va, vb] H = some (.bool (decide (l = m)), H) := by
  refine run_ofB (F := 1001) (Q := fun r => r = some (.bool (decide (l = m)), H)) (fun n hn => ?_) n hn
  rw [body_runS Tryz.func47 rfl (ok_fn (by rfl) Tryz.func47 rfl) (Nat.le_of_ble_eq_true rfl) (D := D0) (by kernel_rfl)]
  by_cases hl : l.length = m.length
  · have c1 : (l.length : Int) = (m.length : Int) := by omega
    have key : ∀ A : Fr, A 0 = va → A 1 = vb → A 12 = vi l.length → A 13 = vi (0 : Nat) → ∃ r a' H', loopN (evS Tryz.prog (evB Tryz.prog bC n) n Tryz.f47.ntmps none eqlA) n A H = some (r, a', H') ∧ H' = H ∧ ((r = .exit 0 ∧ l = m) ∨ (r = .ret ∧ a' 4 = .bool false ∧ l ≠ m)) := by
      intro A h0 h1 h12 h13
      refine loop_up l.length (fun i a H' => H' = H ∧ a 0 = va ∧ a 1 = vb ∧ a 12 = vi l.length ∧ a 13 = vi i ∧ l.take i = m.take i) _ ?_ ?_ (by omega) ⟨rfl, h0, h1, h12, h13, rfl⟩
      · intro i a H' hi ⟨hH, h0, h1, h12, h13, ht⟩
        subst hH
        rw [show eqlA = atC [1, 1, 0, 1, 0, 0] ((Tryz.f47.body).getD .skip) from rfl]
        have hlt : (i : Int) < l.length := by omega
        have e1 : IntKind.i64.wrap ((i : Int) + 1) = ((i + 1 : Nat) : Int) := by rw [wr64 (by omega) (by omega)]; omega
        by_cases he : l.getD i 0 = m.getD i 0
        · left
          simp (disch := omega) only [Tryz.f47, Option.getD_some, atC, es_seq, es_region, es_draw, d0, es_cond, es_block, es_skip, ops_nil, ops_cons, opsV_nil, opsV_cons, st_move, st_assign, sy_addr eL, sy_load aI, sy_bin, binS_lss, binS_neq, binS_add, bindO_some, bindF_some, bindX_normal, blkX_normal, condX_true, condX_false, iteB_true, iteB_false, ev_tmp, ev_const, putA, upd_at, Option.map_some, ↓reduceIte, Nat.reduceEqDiff, Int.toNat_natCast, decide_true, Bool.not_true, ↓bindO_some, ↓bindF_some, ↓bindX_normal, ↓condX_true, ↓condX_false, ↓iteB_true, ↓iteB_false, reflV_load, reflV_move, reflV_bin, reflV_addr, vEq_vi, h0, h1, h12, h13, hlt, ha.addrI, ha.loadI, hb.addrI, hb.loadI, he, e1]
          exact ⟨_, _, rfl, rfl, h0, h1, h12, rfl, (take_eq_succ hi (by omega)).2 ⟨ht, he⟩⟩
        · right
          simp (disch := omega) only [Tryz.f47, Option.getD_some, atC, es_seq, es_region, es_draw, d0, es_cond, es_block, es_skip, es_ret, ops_nil, ops_cons, opsV_nil, opsV_cons, st_move, st_assign, sy_addr eL, sy_load aI, sy_bin, binS_lss, binS_neq, bindO_some, bindF_some, bindX_normal, bindX_ret, blkX_ret, condX_true, iteB_true, iteB_false, ev_tmp, ev_const, putA, upd_at, Option.map_some, ↓reduceIte, Nat.reduceEqDiff, Int.toNat_natCast, decide_true, decide_false, Bool.not_false, ↓bindO_some, ↓bindF_some, ↓bindX_normal, ↓bindX_ret, ↓condX_true, ↓iteB_true, ↓iteB_false, reflV_load, reflV_move, reflV_bin, reflV_addr, vEq_vi, h0, h1, h12, h13, hlt, ha.addrI, ha.loadI, hb.addrI, hb.loadI, he]
          refine ⟨_, _, _, rfl, by simp, rfl, .inr ⟨rfl, rfl, fun h => he (by rw [h])⟩⟩
      · intro a H' ⟨hH, h0, h1, h12, h13, ht⟩
        subst hH
        rw [show eqlA = atC [1, 1, 0, 1, 0, 0] ((Tryz.f47.body).getD .skip) from rfl]
        simp (disch := omega) only [Tryz.f47, Option.getD_some, atC, es_seq, es_region, es_cond, es_exit, ops_nil, ops_cons, sy_bin, binS_lss, bindO_some, bindF_some, bindX_normal, bindX_exit, condX_false, ev_tmp, putA, upd_at, ↓reduceIte, decide_false, ↓bindO_some, ↓bindF_some, ↓bindX_normal, ↓bindX_exit, ↓condX_false, h12, h13, Int.lt_irrefl]
        rw [List.take_length, hl, List.take_length] at ht
        exact ⟨_, _, _, rfl, by simp, rfl, .inl ⟨rfl, ht⟩⟩
    rw [show eqlA = atC [1, 1, 0, 1, 0, 0] ((Tryz.f47.body).getD .skip) from rfl] at key
    simp only [Tryz.f47, Option.getD_some, atC] at key
    simp (disch := omega) only [Tryz.f47, es_seq, es_region, es_cond, es_block, es_loop, es_skip, es_ret, ops_nil, ops_cons, st_move, st_assign, sy_len uL, sy_bin, binS_neq, bindO_some, bindF_some, bindX_normal, condX_false, ev_tmp, ev_const, putA, upd_at, Option.map_some, ↓reduceIte, Nat.reduceEqDiff, frOf_0, frOf_1, decide_true, Bool.not_true, ↓bindO_some, ↓bindF_some, ↓bindX_normal, ↓condX_false, ha.lenI, hb.lenI, c1]
    generalize hA : upd _ 13 _ = A
    obtain ⟨r, a', H', e, hH, h⟩ := key A (by subst hA; rfl) (by subst hA; rfl) (by subst hA; exact congrArg (fun z : Int => vi z) c1.symm) (by subst hA; rfl)
    subst hH
    rw [e]
    rcases h with ⟨rfl, rfl⟩ | ⟨rfl, h4, hne⟩
    · simp (disch := omega) only [bindX_normal, blkX_exit, upd_at, Option.map_some, ↓reduceIte, decide_true, ↓bindX_normal, fin_r, res_nil, res_tmp, pack_1, scal_bool]
    · rw [decide_eq_false hne]
      simp (disch := omega) only [bindX_ret, blkX_ret, Option.map_some, ↓bindX_ret, fin_r, res_nil, res_tmp, pack_1, scal_bool, h4]
  · have c1 : ¬ (l.length : Int) = (m.length : Int) := by omega
    rw [decide_eq_false (fun h => hl (by rw [h]))]
    simp (disch := omega) only [Tryz.f47, es_seq, es_region, es_cond, es_ret, ops_nil, ops_cons, st_move, st_assign, sy_len uL, sy_bin, binS_neq, bindO_some, bindF_some, bindX_normal, bindX_ret, condX_true, ev_tmp, ev_const, putA, upd_at, Option.map_some, ↓reduceIte, Nat.reduceEqDiff, frOf_0, frOf_1, decide_false, Bool.not_false, ↓bindO_some, ↓bindF_some, ↓bindX_normal, ↓bindX_ret, ↓condX_true, fin_r, res_nil, res_tmp, pack_1, scal_bool, ha.lenI, hb.lenI, c1]
end Go.Proofs.YtkedcelpadiakaaGreat
namespace Go.Proofs.YtkedcelpadiakaaGreat
open Go Go.Abs Go.Num
set_option maxRecDepth 10000
attribute [local congr] bindO_congr bindF_congr bindX_congr condX_congr iteB_congr binS_congr pickS_congr eqB_congr nilS_congr clsW_congr maxS_congr minS_congr
def cmpI (x y : Int) : Int := if x < y then -1 else if y < x then 1 else 0
def cmpL : List Int → List Int → Int
  | [], [] => 0
  | [], _ :: _ => -1
  | _ :: _, [] => 1
  | x :: xs, y :: ys => if cmpI x y = 0 then cmpL xs ys else cmpI x y
def cmpO (x y : Key) : Int := if cmpL x.1 y.1 = 0 then cmpL x.2 y.2 else cmpL x.1 y.1
theorem cmpI_zero {x y : Int} : cmpI x y = 0 ↔ x = y := by unfold cmpI; split <;> (try split) <;> omega
theorem cmpL_zero : ∀ {l m : List Int}, cmpL l m = 0 ↔ l = m
  | [], [] => by simp [cmpL]
  | [], _ :: _ => by simp [cmpL]
  | _ :: _, [] => by simp [cmpL]
  | x :: xs, y :: ys => by
    simp only [cmpL]
    split
    · rename_i h
      rw [cmpL_zero (l := xs) (m := ys), cmpI_zero.1 h]; simp
    · rename_i h
      constructor
      · intro h'; exact absurd h' h
      · intro h'; injection h' with h1 _; exact absurd (cmpI_zero.2 h1) h
theorem cmpI_anti (x y : Int) : cmpI y x = - cmpI x y := by unfold cmpI; split <;> split <;> (try split) <;> omega
theorem cmpL_anti : ∀ (l m : List Int), cmpL m l = - cmpL l m
  | [], [] => by simp [cmpL]
  | [], _ :: _ => by simp [cmpL]
  | _ :: _, [] => by simp [cmpL]
  | x :: xs, y :: ys => by
    simp only [cmpL]
    have := cmpI_anti x y
    have := cmpL_anti xs ys
    split <;> split <;> omega
theorem cmpI_trans {x y z : Int} (h1 : cmpI x y ≤ 0) (h2 : cmpI y z ≤ 0) : cmpI x z ≤ 0 ∧ (cmpI x z = 0 → cmpI x y = 0 ∧ cmpI y z = 0) := by
  unfold cmpI at *; constructor
  · split <;> (try split) <;> (repeat (split at h1)) <;> (repeat (split at h2)) <;> omega
  · intro h; constructor <;> (repeat (split at h)) <;> (repeat (split at h1)) <;> (repeat (split at h2)) <;> (repeat split) <;> omega
theorem cmpL_trans : ∀ {l m k : List Int}, cmpL l m ≤ 0 → cmpL m k ≤ 0 → cmpL l k ≤ 0 ∧ (cmpL l k = 0 → cmpL l m = 0 ∧ cmpL m k = 0)
  | [], [], [] => by simp [cmpL]
  | [], [], _ :: _ => by simp [cmpL]
  | [], _ :: _, [] => by simp [cmpL]
  | [], _ :: _, _ :: _ => by simp [cmpL]
  | _ :: _, [], _ => by simp [cmpL]
  | _ :: _, _ :: _, [] => by simp [cmpL]
  | x :: xs, y :: ys, z :: zs => by
    simp only [cmpL]
    intro h1 h2
    have hx : cmpI x y ≤ 0 := by split at h1 <;> omega
    have hy : cmpI y z ≤ 0 := by split at h2 <;> omega
    have ht := cmpI_trans hx hy
    by_cases e1 : cmpI x y = 0
    · by_cases e2 : cmpI y z = 0
      · rw [if_pos e1] at h1
        rw [if_pos e2] at h2
        have e3 : cmpI x z = 0 := cmpI_zero.2 ((cmpI_zero.1 e1).trans (cmpI_zero.1 e2))
        rw [if_pos e1, if_pos e2, if_pos e3]
        exact cmpL_trans h1 h2
      · have e3 : cmpI x z ≠ 0 := fun h => e2 (ht.2 h).2
        rw [if_neg e3]
        exact ⟨ht.1, fun h => absurd h e3⟩
    · have e3 : cmpI x z ≠ 0 := fun h => e1 (ht.2 h).1
      rw [if_neg e3]
      exact ⟨ht.1, fun h => absurd h e3⟩
theorem cmpO_zero {x y : Key} : cmpO x y = 0 ↔ x = y := by
  unfold cmpO
  split
  · rename_i h
    rw [cmpL_zero]
    constructor
    · intro h2; exact Prod.ext (cmpL_zero.1 h) h2
    · intro h2; rw [h2]
  · rename_i h
    constructor
    · intro h'; exact absurd h' h
    · intro h'; rw [h'] at h; exact absurd (cmpL_zero.2 rfl) h
theorem cmpO_anti (x y : Key) : cmpO y x = - cmpO x y := by
  unfold cmpO
  have := cmpL_anti x.1 y.1
  have := cmpL_anti x.2 y.2
  split <;> split <;> omega
theorem cmpO_trans {x y z : Key} (h1 : cmpO x y ≤ 0) (h2 : cmpO y z ≤ 0) : cmpO x z ≤ 0 ∧ (cmpO x z = 0 → cmpO x y = 0 ∧ cmpO y z = 0) := by
  unfold cmpO at *
  have hx : cmpL x.1 y.1 ≤ 0 := by split at h1 <;> omega
  have hy : cmpL y.1 z.1 ≤ 0 := by split at h2 <;> omega
  have ht := cmpL_trans hx hy
  by_cases e1 : cmpL x.1 y.1 = 0
  · by_cases e2 : cmpL y.1 z.1 = 0
    · rw [if_pos e1] at h1
      rw [if_pos e2] at h2
      have e3 : cmpL x.1 z.1 = 0 := cmpL_zero.2 ((cmpL_zero.1 e1).trans (cmpL_zero.1 e2))
      rw [if_pos e1, if_pos e2, if_pos e3]
      exact cmpL_trans h1 h2
    · have e3 : cmpL x.1 z.1 ≠ 0 := fun h => e2 (ht.2 h).2
      rw [if_neg e3]
      exact ⟨ht.1, fun h => absurd h e3⟩
  · have e3 : cmpL x.1 z.1 ≠ 0 := fun h => e1 (ht.2 h).1
    rw [if_neg e3]
    exact ⟨ht.1, fun h => absurd h e3⟩
theorem cmpO_ord : CmpOrd cmpO where
  irrefl x := by rw [cmpO_zero.2 rfl]; omega
  trans x y z h1 h2 := by
    have := cmpO_trans (Int.le_of_lt h1) (Int.le_of_lt h2)
    by_cases h : cmpO x z = 0
    · have := (this.2 h).1; omega
    · omega
  ntrans x y z h1 h2 := by
    have a1 := cmpO_anti x y
    have a2 := cmpO_anti y z
    have a3 := cmpO_anti x z
    have := cmpO_trans (x := z) (y := y) (z := x) (by omega) (by omega)
    omega
  total x y h1 h2 := by
    have := cmpO_anti x y
    exact cmpO_zero.1 (by omega)
theorem nan_run (x : Int) (H : Heap) (n : Nat) (hn : 1 ≤ n) : evB Tryz.prog bC n (.func (.func 134) #[] #[]) [vi x] H = some (.bool false, H) := by
  refine run_ofB (F := 0) (Q := fun r => r = some (.bool false, H)) (fun n hn => ?_) n hn
  rw [body_runS Tryz.func134 rfl (ok_fn (by rfl) Tryz.func134 rfl) (Nat.le_of_ble_eq_true rfl) (D := D0) (by kernel_rfl)]
  have c1 : decide (x = x) = true := decide_eq_true rfl
  simp (disch := omega) only [Tryz.f134, es_seq, es_region, es_ret, ops_nil, ops_cons, st_move, st_assign, sy_bin, binS_neq, bindO_some, bindF_some, bindX_normal, ev_tmp, ev_const, putA, upd_at, Option.map_some, ↓reduceIte, Nat.reduceEqDiff, frOf_0, decide_true, Bool.not_true, ↓bindO_some, ↓bindF_some, ↓bindX_normal, fin_r, res_nil, res_tmp, pack_1, scal_bool]
theorem cmpc_run (x y : Int) (H : Heap) (n : Nat) (hn : 2 ≤ n) : evB Tryz.prog bC n (.func (.func 84) #[] #[]) [vi x, vi y] H = some (vi (cmpI x y), H) := by
  refine run_ofB (F := 1) (Q := fun r => r = some (vi (cmpI x y), H)) (fun n hn => ?_) n hn
  rw [body_runS Tryz.func84 rfl (ok_fn (by rfl) Tryz.func84 rfl) (Nat.le_of_ble_eq_true rfl) (D := D0) (by kernel_rfl)]
  have s1 := nan_run x H n (by omega)
  have s2 := nan_run y H n (by omega)
  unfold cmpI
  by_cases h1 : x < y
  · rw [if_pos h1]
    simp (disch := omega) only [Tryz.f84, es_seq, es_region, es_cond, es_skip, es_ret, ops_nil, ops_cons, st_move, st_assign, st_fun, sy_bin, binS_lss, bindO_some, bindF_some, bindX_normal, bindX_ret, condX_true, condX_false, ev_tmp, ev_const, ev_func, putA, upd_at, Option.map_some, ↓reduceIte, Nat.reduceEqDiff, frOf_0, frOf_1, List.map_cons, List.map_nil, decide_true, ↓bindO_some, ↓bindF_some, ↓bindX_normal, ↓bindX_ret, ↓condX_true, ↓condX_false, fin_r, res_nil, res_tmp, pack_1, scal_vi, s1, s2, h1]
  · rw [if_neg h1]
    by_cases h2 : y < x
    · have h3 : x > y := h2
      rw [if_pos h2]
      simp (disch := omega) only [Tryz.f84, es_seq, es_region, es_cond, es_skip, es_ret, ops_nil, ops_cons, st_move, st_assign, st_fun, sy_bin, binS_lss, binS_gtr, bindO_some, bindF_some, bindX_normal, bindX_ret, condX_true, condX_false, ev_tmp, ev_const, ev_func, putA, upd_at, Option.map_some, ↓reduceIte, Nat.reduceEqDiff, frOf_0, frOf_1, List.map_cons, List.map_nil, decide_true, decide_false, ↓bindO_some, ↓bindF_some, ↓bindX_normal, ↓bindX_ret, ↓condX_true, ↓condX_false, fin_r, res_nil, res_tmp, pack_1, scal_vi, s1, s2, h1, h2]
    · have h3 : ¬ x > y := h2
      rw [if_neg h2]
      simp (disch := omega) only [Tryz.f84, es_seq, es_region, es_cond, es_skip, es_ret, ops_nil, ops_cons, st_move, st_assign, st_fun, sy_bin, binS_lss, binS_gtr, bindO_some, bindF_some, bindX_normal, condX_false, ev_tmp, ev_const, ev_func, putA, upd_at, Option.map_some, ↓reduceIte, Nat.reduceEqDiff, frOf_0, frOf_1, List.map_cons, List.map_nil, decide_false, ↓bindO_some, ↓bindF_some, ↓bindX_normal, ↓condX_false, fin_r, res_nil, res_tmp, pack_1, scal_vi, s1, s2, h1, h2]
noncomputable def scA : Code := atC [1,0,1,0,0] ((Tryz.f53.body).getD .skip)
theorem drop_at {l : List Int} {i : Nat} (hi : i < l.length) : l.drop i = l.getD i 0 :: l.drop (i + 1) := by
  rw [List.drop_eq_getElem_cons hi, List.getD_eq_getElem?_getD, List.getElem?_eq_getElem hi]; rfl
theorem slcmp_run {H : Heap} {va vb : Value} {l m : List Int} (ha : R H va (ints l)) (hb : R H vb (ints m)) (hl : l.length ≤ 1000) (hm : m.length ≤ 1000) (n : Nat) (hn : 1010 ≤ n) :
    evB Tryz.prog bC n (.func (.func 53) #[] #[]) [va, vb] H = some (vi (cmpL l m), H) := by
  refine run_ofB (F := 1009) (Q := fun r => r = some (vi (cmpL l m), H)) (fun n hn => ?_) n hn
  rw [body_runS Tryz.func53 rfl (ok_fn (by rfl) Tryz.func53 rfl) (Nat.le_of_ble_eq_true rfl) (D := D0) (by kernel_rfl)]
  have key : ∀ A : Fr, A 0 = va → A 1 = vb → A 9 = va → A 10 = vi l.length → A 11 = vi (0 : Nat) → ∃ r a' H', loopN (evS Tryz.prog (evB Tryz.prog bC n) n Tryz.f53.ntmps none scA) n A H = some (r, a', H') ∧ H' = H ∧ ((r = .ret ∧ a' 4 = vi (cmpL l m)) ∨ (r = .exit 0 ∧ a' 0 = va ∧ a' 1 = vb ∧ l.length ≤ m.length ∧ cmpL l m = cmpL [] (m.drop l.length))) := by
    intro A h0 h1 h9 h10 h11
    refine loop_up l.length (fun i a H' => H' = H ∧ a 0 = va ∧ a 1 = vb ∧ a 9 = va ∧ a 10 = vi l.length ∧ a 11 = vi i ∧ i ≤ m.length ∧ cmpL l m = cmpL (l.drop i) (m.drop i)) _ ?_ ?_ (by omega) ⟨rfl, h0, h1, h9, h10, h11, by omega, by rw [List.drop_zero, List.drop_zero]⟩
    · intro i a H' hi ⟨hH, h0, h1, h9, h10, h11, him, hc⟩
      subst hH
      have hlt : (i : Int) < l.length := by omega
      have e1 : IntKind.i64.wrap ((i : Int) + 1) = ((i + 1 : Nat) : Int) := by rw [wr64 (by omega) (by omega)]; omega
      rw [show scA = atC [1,0,1,0,0] ((Tryz.f53.body).getD .skip) from rfl]
      rw [drop_at hi] at hc
      by_cases c1 : (m.length : Int) ≤ i
      · right
        have c2 : (i : Int) ≥ m.length := c1
        simp (disch := omega) only [Tryz.f53, Option.getD_some, atC, es_seq, es_region, es_cond, es_block, es_skip, es_ret, ops_nil, ops_cons, st_move, st_assign, sy_len uL, sy_addr eL, sy_load aI, sy_bin, binS_lss, binS_geq, bindO_some, bindF_some, bindX_normal, bindX_ret, blkX_ret, condX_true, ev_tmp, ev_const, putA, upd_at, Option.map_some, ↓reduceIte, Nat.reduceEqDiff, Int.toNat_natCast, decide_true, ↓bindO_some, ↓bindF_some, ↓bindX_normal, ↓bindX_ret, ↓condX_true, h1, h9, h10, h11, hlt, ha.addrI, ha.loadI, hb.lenI, c1]
        refine ⟨_, _, _, rfl, by simp, rfl, .inl ⟨rfl, ?_⟩⟩
        rw [hc, show m.drop i = [] from List.drop_of_length_le (by omega)]; rfl
      · have c2 : ¬ (i : Int) ≥ m.length := c1
        have s1 := cmpc_run (l.getD i 0) (m.getD i 0) H' n (by omega)
        rw [drop_at (l := m) (by omega)] at hc
        simp only [cmpL] at hc
        by_cases hz : cmpI (l.getD i 0) (m.getD i 0) = 0
        · left
          have c3 : decide (cmpI (l.getD i 0) (m.getD i 0) = 0) = true := decide_eq_true hz
          simp (disch := omega) only [Tryz.f53, Option.getD_some, atC, es_seq, es_region, es_cond, es_block, es_skip, ops_nil, ops_cons, st_move, st_assign, st_fun, sy_len uL, sy_addr eL, sy_load aI, sy_bin, binS_lss, binS_geq, binS_neq, binS_add, bindO_some, bindF_some, bindX_normal, blkX_normal, condX_true, condX_false, ev_tmp, ev_const, ev_func, putA, upd_at, Option.map_some, ↓reduceIte, Nat.reduceEqDiff, Int.toNat_natCast, List.map_cons, List.map_nil, decide_true, decide_false, Bool.not_true, ↓bindO_some, ↓bindF_some, ↓bindX_normal, ↓condX_true, ↓condX_false, h1, h9, h10, h11, hlt, ha.addrI, ha.loadI, hb.lenI, hb.addrI, hb.loadI, c1, s1, c3, e1]
          rw [if_pos hz] at hc
          exact ⟨_, _, rfl, rfl, h0, h1, h9, h10, rfl, by omega, hc⟩
        · right
          have c3 : decide (cmpI (l.getD i 0) (m.getD i 0) = 0) = false := decide_eq_false hz
          simp (disch := omega) only [Tryz.f53, Option.getD_some, atC, es_seq, es_region, es_cond, es_block, es_skip, es_ret, ops_nil, ops_cons, st_move, st_assign, st_fun, sy_len uL, sy_addr eL, sy_load aI, sy_bin, binS_lss, binS_geq, binS_neq, bindO_some, bindF_some, bindX_normal, bindX_ret, blkX_ret, condX_true, condX_false, ev_tmp, ev_const, ev_func, putA, upd_at, Option.map_some, ↓reduceIte, Nat.reduceEqDiff, Int.toNat_natCast, List.map_cons, List.map_nil, decide_true, decide_false, Bool.not_false, ↓bindO_some, ↓bindF_some, ↓bindX_normal, ↓bindX_ret, ↓condX_true, ↓condX_false, h1, h9, h10, h11, hlt, ha.addrI, ha.loadI, hb.lenI, hb.addrI, hb.loadI, c1, s1, c3]
          rw [if_neg hz] at hc
          exact ⟨_, _, _, rfl, by simp, rfl, .inl ⟨rfl, by rw [hc]; rfl⟩⟩
    · intro a H' ⟨hH, h0, h1, h9, h10, h11, him, hc⟩
      subst hH
      rw [show scA = atC [1,0,1,0,0] ((Tryz.f53.body).getD .skip) from rfl]
      simp (disch := omega) only [Tryz.f53, Option.getD_some, atC, es_seq, es_region, es_cond, es_exit, ops_nil, ops_cons, sy_bin, binS_lss, bindO_some, bindF_some, bindX_normal, bindX_exit, condX_false, ev_tmp, putA, upd_at, ↓reduceIte, decide_false, ↓bindO_some, ↓bindF_some, ↓bindX_normal, ↓bindX_exit, ↓condX_false, h10, h11, Int.lt_irrefl]
      rw [List.drop_length] at hc
      exact ⟨_, _, _, rfl, by simp, rfl, .inr ⟨rfl, h0, h1, him, hc⟩⟩
  rw [show scA = atC [1,0,1,0,0] ((Tryz.f53.body).getD .skip) from rfl] at key
  simp only [Tryz.f53, Option.getD_some, atC] at key
  simp (disch := omega) only [Tryz.f53, es_seq, es_region, es_cond, es_block, es_loop, es_skip, es_ret, ops_nil, ops_cons, st_move, st_assign, sy_len uL, sy_bin, bindO_some, bindF_some, bindX_normal, ev_tmp, ev_const, putA, upd_at, Option.map_some, ↓reduceIte, Nat.reduceEqDiff, frOf_0, ↓bindO_some, ↓bindF_some, ↓bindX_normal, ha.lenI]
  generalize hA : upd _ 11 _ = A
  obtain ⟨r, a', H', e, hH, h⟩ := key A (by subst hA; rfl) (by subst hA; rfl) (by subst hA; rfl) (by subst hA; rfl) (by subst hA; rfl)
  subst hH
  rw [e]
  rcases h with ⟨rfl, h4⟩ | ⟨rfl, h0, h1, hlm, hc⟩
  · simp (disch := omega) only [bindX_ret, blkX_ret, Option.map_some, ↓bindX_ret, fin_r, res_nil, res_tmp, pack_1, scal_vi, h4]
  · by_cases c : (l.length : Int) < m.length
    · simp (disch := omega) only [binS_lss, bindO_some, bindF_some, bindX_normal, bindX_ret, blkX_exit, condX_true, upd_at, Option.map_some, ↓reduceIte, decide_true, ↓bindO_some, ↓bindF_some, ↓bindX_normal, ↓bindX_ret, ↓condX_true, fin_r, res_nil, res_tmp, pack_1, scal_vi, h0, h1, ha.lenI, hb.lenI, c]
      rw [hc, drop_at (by omega)]; rfl
    · simp (disch := omega) only [binS_lss, bindO_some, bindF_some, bindX_normal, blkX_exit, condX_false, upd_at, Option.map_some, ↓reduceIte, decide_false, ↓bindO_some, ↓bindF_some, ↓bindX_normal, ↓condX_false, fin_r, res_nil, res_tmp, pack_1, scal_vi, h0, h1, ha.lenI, hb.lenI, c]
      rw [hc, List.drop_of_length_le (by omega)]; rfl
def orL : List Int → Int
  | [] => 0
  | x :: l => if x = 0 then orL l else x
noncomputable def coA : Code := atC [1,1,0,1,0,0] ((Tryz.f52.body).getD .skip)
theorem or_run {H : Heap} {v : Value} {l : List Int} (hv : R H v (ints l)) (hl : l.length ≤ 1000) (n : Nat) (hn : 1010 ≤ n) :
    evB Tryz.prog bC n (.func (.func 52) #[] #[]) [v] H = some (vi (orL l), H) := by
  refine run_ofB (F := 1009) (Q := fun r => r = some (vi (orL l), H)) (fun n hn => ?_) n hn
  rw [body_runS Tryz.func52 rfl (ok_fn (by rfl) Tryz.func52 rfl) (Nat.le_of_ble_eq_true rfl) (D := D0) (by kernel_rfl)]
  have key : ∀ A : Fr, A 3 = vi 0 → A 6 = v → A 7 = vi l.length → A 8 = vi (0 : Nat) → ∃ r a' H', loopN (evS Tryz.prog (evB Tryz.prog bC n) n Tryz.f52.ntmps none coA) n A H = some (r, a', H') ∧ H' = H ∧ ((r = .ret ∧ a' 2 = vi (orL l)) ∨ (r = .exit 0 ∧ a' 3 = vi 0 ∧ orL l = 0)) := by
    intro A h3 h6 h7 h8
    refine loop_up l.length (fun i a H' => H' = H ∧ a 3 = vi 0 ∧ a 6 = v ∧ a 7 = vi l.length ∧ a 8 = vi i ∧ orL l = orL (l.drop i)) _ ?_ ?_ (by omega) ⟨rfl, h3, h6, h7, h8, by rw [List.drop_zero]⟩
    · intro i a H' hi ⟨hH, h3, h6, h7, h8, hc⟩
      subst hH
      have hlt : (i : Int) < l.length := by omega
      have e1 : IntKind.i64.wrap ((i : Int) + 1) = ((i + 1 : Nat) : Int) := by rw [wr64 (by omega) (by omega)]; omega
      rw [show coA = atC [1,1,0,1,0,0] ((Tryz.f52.body).getD .skip) from rfl]
      rw [drop_at hi] at hc
      simp only [orL] at hc
      by_cases hz : l.getD i 0 = 0
      · left
        have c3 : decide (l.getD i 0 = 0) = true := decide_eq_true hz
        simp (disch := omega) only [Tryz.f52, Option.getD_some, atC, es_seq, es_region, es_cond, es_block, es_skip, ops_nil, ops_cons, st_move, st_assign, sy_addr eL, sy_load aI, sy_bin, binS_lss, binS_neq, binS_add, bindO_some, bindF_some, bindX_normal, blkX_normal, condX_true, condX_false, ev_tmp, ev_const, putA, upd_at, Option.map_some, ↓reduceIte, Nat.reduceEqDiff, Int.toNat_natCast, decide_true, Bool.not_true, ↓bindO_some, ↓bindF_some, ↓bindX_normal, ↓condX_true, ↓condX_false, h3, h6, h7, h8, hlt, hv.addrI, hv.loadI, c3, e1]
        rw [if_pos hz] at hc
        exact ⟨_, _, rfl, rfl, h3, h6, h7, rfl, hc⟩
      · right
        have c3 : decide (l.getD i 0 = 0) = false := decide_eq_false hz
        simp (disch := omega) only [Tryz.f52, Option.getD_some, atC, es_seq, es_region, es_cond, es_block, es_skip, es_ret, ops_nil, ops_cons, st_move, st_assign, sy_addr eL, sy_load aI, sy_bin, binS_lss, binS_neq, bindO_some, bindF_some, bindX_normal, bindX_ret, blkX_ret, condX_true, ev_tmp, putA, upd_at, Option.map_some, ↓reduceIte, Nat.reduceEqDiff, Int.toNat_natCast, decide_true, Bool.not_false, ↓bindO_some, ↓bindF_some, ↓bindX_normal, ↓bindX_ret, ↓condX_true, h3, h6, h7, h8, hlt, hv.addrI, hv.loadI, c3]
        rw [if_neg hz] at hc
        exact ⟨_, _, _, rfl, by simp, rfl, .inl ⟨rfl, by rw [hc]; rfl⟩⟩
    · intro a H' ⟨hH, h3, h6, h7, h8, hc⟩
      subst hH
      rw [show coA = atC [1,1,0,1,0,0] ((Tryz.f52.body).getD .skip) from rfl]
      simp (disch := omega) only [Tryz.f52, Option.getD_some, atC, es_seq, es_region, es_cond, es_exit, ops_nil, ops_cons, sy_bin, binS_lss, bindO_some, bindF_some, bindX_normal, bindX_exit, condX_false, ev_tmp, putA, upd_at, ↓reduceIte, decide_false, ↓bindO_some, ↓bindF_some, ↓bindX_normal, ↓bindX_exit, ↓condX_false, h7, h8, Int.lt_irrefl]
      rw [List.drop_length] at hc
      exact ⟨_, _, _, rfl, by simp, rfl, .inr ⟨rfl, h3, hc⟩⟩
  rw [show coA = atC [1,1,0,1,0,0] ((Tryz.f52.body).getD .skip) from rfl] at key
  simp only [Tryz.f52, Option.getD_some, atC] at key
  simp (disch := omega) only [Tryz.f52, es_seq, es_region, es_block, es_loop, es_ret, ops_nil, ops_cons, st_move, st_assign, sy_len uL, bindO_some, bindF_some, bindX_normal, ev_tmp, ev_const, putA, upd_at, Option.map_some, ↓reduceIte, Nat.reduceEqDiff, frOf_0, ↓bindO_some, ↓bindF_some, ↓bindX_normal, hv.lenI]
  generalize hA : upd _ 8 _ = A
  obtain ⟨r, a', H', e, hH, h⟩ := key A (by subst hA; rfl) (by subst hA; rfl) (by subst hA; rfl) (by subst hA; rfl)
  subst hH
  rw [e]
  rcases h with ⟨rfl, h2⟩ | ⟨rfl, h3, hc⟩
  · simp (disch := omega) only [bindX_ret, blkX_ret, Option.map_some, ↓bindX_ret, fin_r, res_nil, res_tmp, pack_1, scal_vi, h2]
  · rw [hc]
    simp (disch := omega) only [bindX_normal, blkX_exit, upd_at, Option.map_some, ↓reduceIte, ↓bindX_normal, fin_r, res_nil, res_tmp, pack_1, scal_vi, h3]
end Go.Proofs.YtkedcelpadiakaaGreat
namespace Go.Proofs.YtkedcelpadiakaaGreat
open Go Go.Abs Go.Num
set_option maxRecDepth 10000
attribute [local congr] bindO_congr bindF_congr bindX_congr condX_congr iteB_congr binS_congr pickS_congr eqB_congr nilS_congr clsW_congr maxS_congr minS_congr
theorem fO0 : fieldOff Tryz.prog 34 0 = some 0 := by kernel_rfl
theorem fO1 : fieldOff Tryz.prog 34 1 = some 1 := by kernel_rfl
theorem z2I : zeros Tryz.prog 3 1 2 = some [vi 0, vi 0] := by kernel_rfl
theorem scal_agg2 {u v : Value} : scal (.agg #[u, v]) = some [u, v] := (rfl)
theorem sy_b2 {call : CallF} {a : Fr} {H : Heap} {d : Option Nat} {ty : TypeId} {pos : String} {aft : Array Edge} {g : Option (Nat × Bool)} {x y : Operand} {p q : Int} (hx : ev a x = vi p) (hy : ev a y = vi q) : stepA Tryz.prog call a ⟨d, .buildSlice 22 2 #[(0, x), (1, y)], ty, pos, aft, g⟩ H = some (sliceA H.length 0 2 1, H ++ [.cells H.length true [vi p, vi q]]) :=
  sy_build2 (u := vi p) (v := vi q) eL z2I hx hy rfl rfl
theorem et_at {P : Program} {call : CallF} {ops : Array Oper} {k nt id : Nat} {rd : Option Nat} {a : Fr} {H : Heap} {D : Nat → Bool} (hd : D id = true) (bs : Array Nat) (hb : Region.before ops = bs) (Q : Fr → Heap → Prop) (h : ∃ r, evOpsI P call ops 0 ops.toList a H [(none, H)] [] = some r ∧ (∀ G ∈ r.2.2.1, ∀ q ∈ r.2.2.2, ordB bs G.1 q.1 = false → stillReads P G.2 q.2.1 q.2.2.1 q.2.2.2 = true) ∧ Q r.1 r.2.1) :
    ∃ a' H', evT P call k nt rd D (.region id ops true) a H = some (.normal, a', H') ∧ Q a' H' := by
  obtain ⟨a', H', e, q⟩ := et_idx (k := k) (nt := nt) (id := id) (rd := rd) bs hb Q h
  refine ⟨a', H', ?_, q⟩
  rw [es_draw] at e ⊢
  rw [hd]; exact e
def Dr1 : Nat → Bool := fun id => id == 1
theorem clsCmp : CmpSaysK Tryz.prog 51 cmpO := by
  intro r u r' u' l1 l2 l3 l4
  refine ⟨evB Tryz.prog bC 2000, 2000, ?_⟩
  have hok : CallOK Tryz.prog (evB Tryz.prog bC 2000) := evB_ok hmix bC_ok bC_grow 2000
  have hgr : CallGrow (evB Tryz.prog bC 2000) := evB_grow bC_grow 2000
  obtain ⟨n, hn⟩ : ∃ n, n = 2000 := ⟨_, rfl⟩
  rw [← hn] at hok hgr ⊢
  suffices h : ∃ H', evBody Tryz.prog (evB Tryz.prog bC n) n (.func (.func 51) #[] #[]) (cmpArgs r u r' u') (cmpHeap r u r' u') = some (vi (cmpO (r, u) (r', u')), H') by
    obtain ⟨H', h⟩ := h; exact ⟨H', hok, hgr, h⟩
  have hl4 : (cmpHeap r u r' u').length = 4 := rfl
  have hr : ∀ J, R (cmpHeap r u r' u' ++ J) (sliceA 0 0 r.length 1) (ints r) ∧ R (cmpHeap r u r' u' ++ J) (sliceA 1 0 u.length 1) (ints u) ∧ R (cmpHeap r u r' u' ++ J) (sliceA 2 0 r'.length 1) (ints r') ∧ R (cmpHeap r u r' u' ++ J) (sliceA 3 0 u'.length 1) (ints u') := fun J =>
    ⟨.inr (.inr ⟨0, 0, 0, false, ints r, by rw [ints_len], rfl, by simp, by simp⟩), .inr (.inr ⟨1, 0, 1, false, ints u, by rw [ints_len], rfl, by simp, by simp⟩), .inr (.inr ⟨2, 0, 2, false, ints r', by rw [ints_len], rfl, by simp, by simp⟩), .inr (.inr ⟨3, 0, 3, false, ints u', by rw [ints_len], rfl, by simp, by simp⟩)⟩
  rw [show cmpArgs r u r' u' = [.agg #[sliceA 0 0 r.length 1, sliceA 1 0 u.length 1], .agg #[sliceA 2 0 r'.length 1, sliceA 3 0 u'.length 1]] from rfl]
  have v1 : vEq (sliceA 0 0 r.length 1) (sliceA 0 0 r.length 1) = true := vEq_sl
  have v2 : vEq (sliceA 1 0 u.length 1) (sliceA 1 0 u.length 1) = true := vEq_sl
  have v3 : vEq (sliceA 2 0 r'.length 1) (sliceA 2 0 r'.length 1) = true := vEq_sl
  have v4 : vEq (sliceA 3 0 u'.length 1) (sliceA 3 0 u'.length 1) = true := vEq_sl
  generalize cmpHeap r u r' u' = H0 at *
  generalize sliceA 0 0 r.length 1 = s1 at *
  generalize sliceA 1 0 u.length 1 = s2 at *
  generalize sliceA 2 0 r'.length 1 = s3 at *
  generalize sliceA 3 0 u'.length 1 = s4 at *
  rw [body_runS Tryz.func51 rfl (ok_fn (by rfl) Tryz.func51 rfl) (Nat.le_of_ble_eq_true rfl) (D := Dr1) (by kernel_rfl)]
  simp (disch := omega) only [Tryz.f51, es_seq, es_region, es_ret, ops_nil, ops_cons, st_assign, bindO_some, bindF_some, bindX_normal, ev_tmp, ev_const, putA, upd_at, Option.map_some, ↓reduceIte, Nat.reduceEqDiff, frOf_0, frOf_1, ↓bindO_some, ↓bindF_some, ↓bindX_normal, sy_box, scal_agg]
  have hH : H0 ++ [Blk.cells H0.length true [s1, s2]] ++ [Blk.cells (H0 ++ [Blk.cells H0.length true [s1, s2]]).length true [s3, s4]] = H0 ++ [.cells H0.length true [s1, s2], .cells (H0.length + 1) true [s3, s4]] := by simp
  rw [hH]
  have hb2 : ptrA (H0 ++ [Blk.cells H0.length true [s1, s2]]).length 0 = ptrA (H0.length + 1) 0 := by simp
  rw [hb2]
  obtain ⟨g1, g2, g3, g4⟩ := hr [.cells H0.length true [s1, s2], .cells (H0.length + 1) true [s3, s4]]
  have m1 : ∀ J, loadS (ptrA H0.length (0 + 0)) (H0 ++ [.cells H0.length true [s1, s2], .cells (H0.length + 1) true [s3, s4]] ++ J) = some s1 := fun J => by simp [loadS, ptrA, Heap.cell]
  have m2 : ∀ J, loadS (ptrA H0.length (0 + 1)) (H0 ++ [.cells H0.length true [s1, s2], .cells (H0.length + 1) true [s3, s4]] ++ J) = some s2 := fun J => by simp [loadS, ptrA, Heap.cell]
  have m3 : ∀ J, loadS (ptrA (H0.length + 1) (0 + 0)) (H0 ++ [.cells H0.length true [s1, s2], .cells (H0.length + 1) true [s3, s4]] ++ J) = some s3 := fun J => by simp [loadS, ptrA, Heap.cell]
  have m4 : ∀ J, loadS (ptrA (H0.length + 1) (0 + 1)) (H0 ++ [.cells H0.length true [s1, s2], .cells (H0.length + 1) true [s3, s4]] ++ J) = some s4 := fun J => by simp [loadS, ptrA, Heap.cell]
  have f1 : ∀ (b k : Nat), faddrS k (ptrA b 0) = some (ptrA b (0 + k)) := fun b k => rfl
  generalize hHH : H0 ++ [Blk.cells H0.length true [s1, s2], .cells (H0.length + 1) true [s3, s4]] = H2 at *
  have q1 := slcmp_run g1 g3 (by omega) (by omega) n (by omega)
  have q2 := slcmp_run g2 g4 (by omega) (by omega) n (by omega)
  have e1 := m1 []
  have e2 := m2 []
  have e3 := m3 []
  have e4 := m4 []
  rw [List.append_nil] at e1 e2 e3 e4
  have d1 := m1 [.cells H2.length true [vi (cmpL r r'), vi (cmpL u u')]]
  have d2 := m2 [.cells H2.length true [vi (cmpL r r'), vi (cmpL u u')]]
  have d3 := m3 [.cells H2.length true [vi (cmpL r r'), vi (cmpL u u')]]
  have d4 := m4 [.cells H2.length true [vi (cmpL r r'), vi (cmpL u u')]]
  have rO : R (H2 ++ [.cells H2.length true [vi (cmpL r r'), vi (cmpL u u')]]) (sliceA H2.length 0 2 1) (ints [cmpL r r', cmpL u u']) := .inr (.inr ⟨H2.length, 0, H2.length, true, _, rfl, by simp; rfl, by simp [ints], by simp [ints]⟩)
  have q3 := or_run rO (by simp) n (by omega)
  have ho : orL [cmpL r r', cmpL u u'] = cmpO (r, u) (r', u') := by
    unfold cmpO
    simp only [orL]
    by_cases h : cmpL r r' = 0
    · rw [if_pos h, if_pos h]; split <;> omega
    · rw [if_neg h, if_neg h]
  rw [ho] at q3
  have key : ∀ A : Fr, A 2 = ptrA H0.length 0 → A 3 = ptrA (H0.length + 1) 0 → ∃ a' H', evT Tryz.prog (evB Tryz.prog bC n) n Tryz.f51.ntmps none Dr1 (atC [1, 0] ((Tryz.f51.body).getD .skip)) A H2 = some (.normal, a', H') ∧ a' 4 = vi (cmpO (r, u) (r', u')) := by
    intro A h2 h3
    simp only [Tryz.f51, Option.getD_some, atC]
    refine et_at (by rfl) #[0, 1, 0, 4, 15, 0, 32, 0, 128, 511, 1023, 2047, 4095] (by kernel_rfl) (fun a' H' => a' 4 = vi (cmpO (r, u) (r', u'))) ?_
    simp (disch := omega) only [st_assign, st_fun, bindO_some, ev_tmp, ev_func, putA, upd_at, Option.map_some, ↓reduceIte, Nat.reduceEqDiff, Nat.zero_add, List.map_cons, List.map_nil, ↓bindO_some, sy_load aL, opsI_nil, opsI_cons, Nat.reduceAdd, clsW_eff, clsW_all, clsW_read, clsW_pure, ↓clsW_eff, ↓clsW_all, ↓clsW_read, ↓clsW_pure, cls_assign, cls_load, cls_callF, cls_faddr, cls_buildS, sy_faddr fO0, sy_faddr fO1, h2, h3, f1, e1, e2, e3, e4, q1, q2]
    rw [sy_b2 (p := cmpL r r') (q := cmpL u u') (by simp only [ev_tmp, upd_at, ↓reduceIte, Nat.reduceEqDiff]) (by simp only [ev_tmp, upd_at, ↓reduceIte])]
    simp (disch := omega) only [bindO_some, ↓bindO_some, q3]
    refine ⟨_, rfl, ?_, ?_⟩
    · intro G hG q hq
      simp only [List.mem_cons, List.not_mem_nil, or_false] at hG hq
      rcases hq with rfl | rfl | rfl | rfl <;> rcases hG with rfl | rfl | rfl | rfl | rfl <;> first
        | (intro h; dsimp only at h; exact absurd h (by decide))
        | (intro _; simp only [still_ld aL, ev_tmp, upd_at, ↓reduceIte, e1, e2, e3, e4, v1, v2, v3, v4])
    · simp only [upd_at, ↓reduceIte]
  simp only [Tryz.f51, Option.getD_some, atC] at key
  generalize hA : upd _ 4 _ = A
  obtain ⟨a', H', e, h4⟩ := key A (by subst hA; rfl) (by subst hA; rfl)
  rw [e]
  simp (disch := omega) only [bindX_normal, Option.map_some, ↓bindX_normal, fin_r, res_nil, res_tmp, pack_1, scal_vi, h4]
  exact ⟨_, rfl⟩
theorem srtK_ent : ∀ args w, (callFunc 50 args).run Tryz.prog w = .ok (.enter 50 args) w := enters_of Tryz.func50 (by kernel_rfl) rfl
theorem cls_ent : ∀ args w, (callFunc 51 args).run Tryz.prog w = .ok (.enter 51 args) w := enters_of Tryz.func51 (by kernel_rfl) rfl
theorem sortSaysK : SortSaysK Tryz.prog 50 51 := by
  intro N enc cf blk off cap w h2 h1 hO hT hcmp hH hblk hN
  have h := Go.Proofs.AnyQ.slices_SortFunc_total srtKLays 2 Tryz.isAgg34 Tryz.sizeOf34 enc h2 h1 cf hO 51 #[] blk off cap (List.finRange (N + 1)).toArray w cls_ent (by simpa using hcmp) hH hblk (by simp; omega) hT
  simp only [List.size_toArray, List.length_finRange] at h
  exact h
theorem srtK_ok : CallOK Tryz.prog (sortKC 50 51 cmpO) := sortKC_ok hmix srtK_ent sortSaysK clsCmp cmpO_ord
theorem srtKNone (fv : Value) (w : World) : Calls Tryz.prog 50 #[.slice none 0 0, fv] w fun e w' => e = .returned (.tuple #[]) ∧ w' = w :=
  Go.Proofs.AnyF.slices_SortFunc_none (P := Tryz.prog) (ρ := srtKRen) srtKLays none 0 fv w
end Go.Proofs.YtkedcelpadiakaaGreat
namespace Go.Proofs.YtkedcelpadiakaaGreat
open Go Go.Abs Go.Num
set_option maxRecDepth 10000
attribute [local congr] bindO_congr bindF_congr bindX_congr condX_congr iteB_congr binS_congr pickS_congr eqB_congr nilS_congr clsW_congr maxS_congr minS_congr
theorem aO : isAggT Tryz.prog 34 = some true := by kernel_rfl
theorem zO : sizeT Tryz.prog 34 = some 2 := by kernel_rfl
theorem iO : zeroT Tryz.prog 34 = some (.agg #[.slice none 0 0, .slice none 0 0]) := by kernel_rfl
theorem eOO : sliceElem Tryz.prog 27 = some (34, 2) := by kernel_rfl
theorem oOO : zeros Tryz.prog 34 2 1 = some [.slice none 0 0, .slice none 0 0] := by kernel_rfl
theorem pOO : ((bytesT Tryz.prog 34).isSome && decide ((bytesT Tryz.prog 34).getD 0 ≤ maxA) && (zeros Tryz.prog 34 2 1).isSome) = true := by kernel_rfl
def opsOf : Code → Array Oper
  | .region _ ops _ => ops
  | _ => #[]
noncomputable def clB : Code := (Tryz.f14.body).getD .skip
noncomputable def clOps0 : Array Oper := opsOf (atC [1,1,1,1,1,1,0,0] clB)
noncomputable def clOps1 : Array Oper := opsOf (atC [1,1,1,1,1,1,0,1,0,0,0] clB)
noncomputable def clOps2 : Array Oper := opsOf (atC [1,1,1,1,1,1,0,1,0,0,1,1,0,0] clB)
noncomputable def clBody : Code := atC [1,1,1,1,1,1,0,1,0,0,1,1,0,1] clB
def FamOK (H : Heap) : Prop := ∀ (b f : Nat) (o : Bool) (cs : List Value), H[b]? = some (.cells f o cs) → f < H.length
theorem FamOK.app {H : Heap} (h : FamOK H) {f : Nat} {o : Bool} {cs : List Value} (hf : f ≤ H.length) : FamOK (H ++ [.cells f o cs]) := by
  intro b g o' cs' hb
  by_cases hlt : b < H.length
  · rw [List.getElem?_append_left hlt] at hb; have := h b g o' cs' hb; simp; omega
  · rw [List.getElem?_append_right (by omega)] at hb
    have e : b - H.length = 0 := by have := lt_of_blk hb; simp at this; omega
    rw [e] at hb
    simp at hb
    simp; omega
theorem FamOK.trunc {H : Heap} (h : FamOK H) (f k : Nat) : FamOK (H.map (truncFam f k)) := by
  intro b g o cs hb
  rw [List.getElem?_map] at hb
  cases hx : H[b]? with
  | none => rw [hx] at hb; cases hb
  | some x =>
    rw [hx, Option.map_some] at hb
    cases x with
    | cells f' o' cs' =>
      unfold truncFam at hb
      simp only at hb
      split at hb <;> (injection hb with hb; injection hb with h1 _ _; subst h1; have := h b _ _ _ hx; simpa using this)
    | _ => injection hb with hb; simp [truncFam] at hb
theorem trunc_none {H : Heap} {f : Nat} (h : ∀ (b g : Nat) (o : Bool) (cs : List Value), H[b]? = some (.cells g o cs) → g ≠ f) (k : Nat) : H.map (truncFam f k) = H := by
  apply List.ext_getElem?
  intro b
  rw [List.getElem?_map]
  cases hx : H[b]? with
  | none => rfl
  | some x =>
    rw [Option.map_some, truncFam_other]
    intro g o cs e
    subst e
    exact h b g o cs hx
def flatV (done : List (Value × Value)) : List Value := done.flatMap fun e => match e.2 with
  | .agg cs => cs.toList
  | _ => []
def OutL (n0 : Nat) (H : Heap) (w : Value) (done : List (Value × Value)) : Prop :=
  (w = .slice none 0 0 ∧ done = []) ∨ ∃ b f, w = sliceA b 0 done.length 2 ∧ n0 ≤ b ∧ n0 ≤ f ∧ H[b]? = some (.cells f true (flatV done)) ∧ (flatV done).length = done.length * 2 ∧ 0 < done.length
def PeC (e : Value × Value) : Prop := ∃ x y, e.2 = .agg #[x, y] ∧ scal x = some [x] ∧ scal y = some [y]
def ClI (n0 gi : Nat) (G0 : Heap) (done : List (Value × Value)) (a : Fr) (H : Heap) : Prop :=
  a 58 = .pointer (some ⟨gi, 0, none⟩) ∧ Old n0 G0 H ∧ FamOK H ∧ OutL n0 H (a 11) done
theorem cl_store {H : Heap} (hf : FamOK H) {x y u v : Value} : storeN 2 (ptrA H.length 0) (.agg #[x, y]) (H ++ [.cells H.length true [u, v]]) = some (H ++ [.cells H.length true [x, y]]) := by
  simp only [storeN, ptrA, scal_agg2, List.length_cons, List.length_nil, Nat.reduceAdd, if_true, Heap.write]
  have hg : (H ++ [Blk.cells H.length true [u, v]])[H.length]? = some (.cells H.length true [u, v]) := by simp
  rw [hg]
  simp only [List.length_cons, List.length_nil, Nat.zero_add, Nat.reduceAdd, Nat.le_refl, if_true, setList]
  congr 1
  have e1 : H.map (truncFam H.length 0) = H := trunc_none (fun b g o cs hb => by have := hf b g o cs hb; omega) 0
  rw [List.map_append, e1]
  apply List.ext_getElem?
  intro i
  rw [List.getElem?_set]
  by_cases hi : H.length = i
  · subst hi; simp
  · rw [if_neg hi]
    by_cases hlt : i < H.length
    · rw [List.getElem?_append_left hlt, List.getElem?_append_left hlt]
    · rw [List.getElem?_eq_none (by simp; omega), List.getElem?_eq_none (by simp; omega)]
theorem cl_load {H : Heap} {x y : Value} : loadN 2 (ptrA H.length 0) (H ++ [.cells H.length true [x, y]]) = some (.agg #[x, y]) := by
  simp [loadN, ptrA, Heap.cellsAt]
theorem cl_app {n0 : Nat} {G0 H : Heap} {w x y : Value} {e : Value × Value} {done : List (Value × Value)} (ho : Old n0 G0 H) (hf : FamOK H) (hG : ∀ (b f : Nat) (o : Bool) (cs : List Value), G0[b]? = some (.cells f o cs) → f < n0) (hn0 : n0 ≤ H.length) (hw : OutL n0 H w done) (he : e.2 = .agg #[x, y]) (hl : done.length < 100000) :
    ∃ w' H', appNS 2 w (sliceA H.length 0 1 2) (H ++ [.cells H.length true [x, y]]) = some (w', H') ∧ OutL n0 H' w' (done ++ [e]) ∧ Old n0 G0 H' ∧ FamOK H' := by
  have hr : readA (H ++ [.cells H.length true [x, y]]) 2 (sliceA H.length 0 1 2) = some [x, y] := by simp [readA, sliceA, Heap.cellsAt]
  have oldA : ∀ J, Old n0 G0 (H ++ J) := fun J => ⟨by have := ho.1; simp; omega, fun b hb => by rw [List.getElem?_append_left (by omega)]; exact ho.2 b hb⟩
  rcases hw with ⟨rfl, rfl⟩ | ⟨b, f, rfl, h1, h2, hb, h3, h4⟩
  · refine ⟨sliceA (H.length + 1) 0 1 2, H ++ [.cells H.length true [x, y]] ++ [.cells (H.length + 1) true [x, y]], ?_, ?_, ?_, ?_⟩
    · unfold appNS
      rw [hr]
      simp [sliceA, maxA]
    · refine .inr ⟨H.length + 1, H.length + 1, rfl, by omega, by omega, ?_, ?_, by simp⟩
      · simp [flatV, he]
      · simp [flatV, he]
    · rw [List.append_assoc]; exact oldA _
    · exact (hf.app (Nat.le_refl _)).app (by simp)
  · have hblt := lt_of_blk hb
    have hb1 : (H ++ [Blk.cells H.length true [x, y]])[b]? = some (.cells f true (flatV done)) := by rw [List.getElem?_append_left hblt]; exact hb
    have hff := hf b f true _ hb
    refine ⟨sliceA (H.length + 1) 0 (done.length + 1) 2, (H ++ [Blk.cells H.length true [x, y]]).map (truncFam f (done.length * 2)) ++ [.cells f true (flatV done ++ [x, y])], ?_, ?_, ?_, ?_⟩
    · unfold appNS
      rw [hr]
      simp only [sliceA, Nat.one_ne_zero, if_false, hb1]
      rw [if_pos ⟨trivial, by omega, by omega, by unfold maxA; omega⟩, List.take_of_length_le (by omega)]
      simp
    · refine .inr ⟨H.length + 1, f, by simp, by omega, h2, ?_, ?_, by simp⟩
      · simp [flatV, he]
      · have : flatV (done ++ [e]) = flatV done ++ [x, y] := by simp [flatV, he]
        rw [this]; simp; omega
    · refine ⟨by have := ho.1; simp; omega, fun c hc => ?_⟩
      rw [List.getElem?_append_left (by simp; omega), List.getElem?_map, List.getElem?_append_left (by omega), ho.2 c hc]
      cases hx : G0[c]? with
      | none => rfl
      | some z =>
        rw [Option.map_some, truncFam_other]
        intro g o cs e'
        subst e'
        have := hG c g o cs hx
        omega
    · exact ((hf.app (Nat.le_refl _)).trunc f _).app (by simp; omega)
theorem cl_round {call : CallF} {kk nt n0 gi : Nat} {G0 : Heap} (hG : ∀ (b f : Nat) (o : Bool) (cs : List Value), G0[b]? = some (.cells f o cs) → f < n0) (hn0 : n0 ≤ G0.length) {done : List (Value × Value)} {e : Value × Value} {a : Fr} {H : Heap} (he : PeC e) (hl : done.length < 100000) (hI : ClI n0 gi G0 done a H) :
    ∃ a1 H1 a2 H2, evOps Tryz.prog call clOps2 (clOps2.toList.drop 1) (upd a 61 (.tuple #[e.1, e.2])) H = some (a1, H1) ∧ evCode Tryz.prog call kk nt none clBody a1 H1 = some (.normal, a2, H2) ∧ ClI n0 gi G0 (done ++ [e]) a2 H2 := by
  obtain ⟨x, y, hxy, sx, sy⟩ := he
  obtain ⟨h58, ho, hf, hout⟩ := hI
  have sA := cl_store hf (x := x) (y := y) (u := .slice none 0 0) (v := .slice none 0 0)
  have sL := cl_load (H := H) (x := x) (y := y)
  have ho1 : Old n0 G0 (H ++ [.cells H.length true [x, y]]) := ⟨by have := ho.1; simp; omega, fun b hb => by rw [List.getElem?_append_left (by have := ho.1; omega)]; exact ho.2 b hb⟩
  have hout1 : OutL n0 (H ++ [.cells H.length true [x, y]]) (a 11) done := by
    rcases hout with h | ⟨b, f, h1, h2, h3, h4, h5⟩
    · exact .inl h
    · exact .inr ⟨b, f, h1, h2, h3, by rw [List.getElem?_append_left (lt_of_blk h4)]; exact h4, h5⟩
  obtain ⟨w', H', sP, out', old', fam'⟩ := cl_app (e := e) (x := x) (y := y) ho1 (hf.app (Nat.le_refl _)) hG (by have := ho.1; simp; omega) hout1 hxy hl
  generalize hH1 : H ++ [Blk.cells H.length true [x, y]] = H1 at *
  have ext1 : extS (.tuple #[e.1, .agg #[x, y]]) 1 = some (.agg #[x, y]) := rfl
  rw [hxy]
  have k1 : ∃ a1, evOps Tryz.prog call clOps2 (clOps2.toList.drop 1) (upd a 61 (.tuple #[e.1, .agg #[x, y]])) H = some (a1, H1) ∧ a1 58 = a 58 ∧ a1 11 = a 11 ∧ a1 13 = ptrA H.length 0 := by
    rw [show clOps2 = opsOf (atC [1,1,1,1,1,1,0,1,0,0,1,1,0,0] ((Tryz.f14.body).getD .skip)) from rfl]
    simp (disch := omega) only [Tryz.f14, Option.getD_some, atC, opsOf, List.drop, es_seq, es_region, es_draw, d0, es_cond, es_block, es_loop, es_skip, es_exit, es_ret, ops_nil, ops_cons, ops_consG, opsV_nil, opsV_cons, opsV_consG, st_move, st_assign, sy_max, sy_min, maxS_vi, minS_vi, sy_pick, pickS_true, pickS_false, st_fun, sy_len uL, sy_addr eL, sy_load aI, sy_store zI, sy_bin, sy_neg, st_not, sy_append eL pI, sy_build1 eL oI, sy_build0 eL nI, sy_slice eL, sy_ext, ext_20, ext_21, sy_make eL yI (by decide), binS_lss, binS_gtr, binS_leq, binS_geq, binS_eql, binS_neq, binS_add, binS_sub, binS_mul, binS_quo, binS_rem, bindO_some, bindF_some, bindX_normal, bindX_exit, bindX_ret, blkX_normal, blkX_exit, blkX_ret, condX_true, condX_false, iteB_true, iteB_false, ev_tmp, ev_const, ev_func, putA, upd_at, Option.map_some, ↓reduceIte, Nat.reduceEqDiff, Nat.zero_add, Int.toNat_natCast, Int.natCast_nonneg, true_and, Nat.mul_one, frOf_0, frOf_1, frOf_2, frOf_3, frOf_4, List.map_cons, List.map_nil, decide_true, decide_false, Bool.not_true, Bool.not_false, yieldO_eq, yO, yV_bool, yV_undef, none_some, some_true, some_false, List.getElem?_cons_zero, List.getElem?_cons_succ, beq_self_eq_true, Bool.false_eq_true, dec00, dec0n, b_ft, b_tf, ↓bindO_some, ↓bindF_some, ↓bindX_normal, ↓bindX_exit, ↓bindX_ret, ↓condX_true, ↓condX_false, ↓iteB_true, ↓iteB_false, reflV_load, reflV_move, reflV_assign, reflV_pick, reflV_bin, reflV_un, reflV_addr, reflV_call, reflV_build, reflV_make, reflV_slice, reflV_extract, reflV_store, vEq_vi, vEq_bool, fin_n, fin_r, res_nil, res_tmp, pack_1, pack_2, pack_3, scal_vi, scal_bool, scal_nil, scal_sl, sy_load aL, sy_load aB, sy_store zL, sy_store zB, sy_faddr fW0, sy_faddr fW1, sy_loadN aW zW, sy_storeN zW, sy_alloc iW scal_agg, sy_box, sy_build, bW0, sy_eq qB, sy_ne nB, eqB_bool, reflV_loadN, reflV_buildS, reflV_box, reflV_alloc, reflV_faddr, reflV_field, res_cell aW zW, scal_agg, Bool.false_xor, Bool.true_xor, sy_alloc iO scal_agg2, sy_storeN zO, ext1, sA]
    exact ⟨_, rfl, rfl, rfl, rfl⟩
  obtain ⟨a1, k2, k58, k11, k13⟩ := k1
  refine ⟨a1, H1, ?_⟩
  have k3 : ∃ a2, evCode Tryz.prog call kk nt none clBody a1 H1 = some (.normal, a2, H') ∧ a2 58 = a1 58 ∧ a2 11 = w' := by
    rw [evS_eq (D := D0) clBody (by rfl), show clBody = atC [1,1,1,1,1,1,0,1,0,0,1,1,0,1] ((Tryz.f14.body).getD .skip) from rfl]
    simp (disch := omega) only [Tryz.f14, Option.getD_some, atC, es_seq, es_region, es_draw, d0, es_cond, es_block, es_loop, es_skip, es_exit, es_ret, ops_nil, ops_cons, ops_consG, opsV_nil, opsV_cons, opsV_consG, st_move, st_assign, sy_max, sy_min, maxS_vi, minS_vi, sy_pick, pickS_true, pickS_false, st_fun, sy_len uL, sy_addr eL, sy_load aI, sy_store zI, sy_bin, sy_neg, st_not, sy_append eL pI, sy_build1 eL oI, sy_build0 eL nI, sy_slice eL, sy_ext, ext_20, ext_21, sy_make eL yI (by decide), binS_lss, binS_gtr, binS_leq, binS_geq, binS_eql, binS_neq, binS_add, binS_sub, binS_mul, binS_quo, binS_rem, bindO_some, bindF_some, bindX_normal, bindX_exit, bindX_ret, blkX_normal, blkX_exit, blkX_ret, condX_true, condX_false, iteB_true, iteB_false, ev_tmp, ev_const, ev_func, putA, upd_at, Option.map_some, ↓reduceIte, Nat.reduceEqDiff, Nat.zero_add, Int.toNat_natCast, Int.natCast_nonneg, true_and, Nat.mul_one, frOf_0, frOf_1, frOf_2, frOf_3, frOf_4, List.map_cons, List.map_nil, decide_true, decide_false, Bool.not_true, Bool.not_false, yieldO_eq, yO, yV_bool, yV_undef, none_some, some_true, some_false, List.getElem?_cons_zero, List.getElem?_cons_succ, beq_self_eq_true, Bool.false_eq_true, dec00, dec0n, b_ft, b_tf, ↓bindO_some, ↓bindF_some, ↓bindX_normal, ↓bindX_exit, ↓bindX_ret, ↓condX_true, ↓condX_false, ↓iteB_true, ↓iteB_false, reflV_load, reflV_move, reflV_assign, reflV_pick, reflV_bin, reflV_un, reflV_addr, reflV_call, reflV_build, reflV_make, reflV_slice, reflV_extract, reflV_store, vEq_vi, vEq_bool, fin_n, fin_r, res_nil, res_tmp, pack_1, pack_2, pack_3, scal_vi, scal_bool, scal_nil, scal_sl, sy_load aL, sy_load aB, sy_store zL, sy_store zB, sy_faddr fW0, sy_faddr fW1, sy_loadN aW zW, sy_storeN zW, sy_alloc iW scal_agg, sy_box, sy_build, bW0, sy_eq qB, sy_ne nB, eqB_bool, reflV_loadN, reflV_buildS, reflV_box, reflV_alloc, reflV_faddr, reflV_field, res_cell aW zW, scal_agg, Bool.false_xor, Bool.true_xor, k13, k11, sy_loadN aO zO, sL, sy_buildN eOO oOO rfl rfl, scal_agg2, buildS_2, sy_appN eOO pOO, sP]
    exact ⟨_, rfl, rfl, rfl⟩
  obtain ⟨a2, k4, k5, k6⟩ := k3
  exact ⟨a2, H', k2, k4, by rw [k5, k58]; exact h58, old', fam', by rw [k6]; exact out'⟩
end Go.Proofs.YtkedcelpadiakaaGreat
namespace Go.Proofs.YtkedcelpadiakaaGreat
open Go Go.Abs Go.Num
set_option maxRecDepth 10000
theorem evB_base {f n : Nat} {args : List Value} {H : Heap} {r : Value × Heap} (h : bC (.func (.func f) #[] #[]) args H = some r) : evB Tryz.prog bC n (.func (.func f) #[] #[]) args H = some r := by
  cases n with
  | zero => exact h
  | succ n =>
    show (match bC (.func (.func f) #[] #[]) args H with | some r => some r | none => _) = _
    rw [h]
theorem ints_plain (l : List Int) : (ints l).all plain = true := by
  rw [List.all_eq_true]
  intro v hv
  obtain ⟨z, _, rfl⟩ := List.mem_map.1 hv
  rfl
theorem QX.readArg {P : Nat → Prop} {H : Heap} {v : Value} {x : List Int} (h : QX P H v x) : readArg0 H v = some (.li (ints x)) := by
  obtain ⟨b, f, rfl, _, _, h3⟩ := h
  unfold readArg0
  simp only [sliceA, h3]
  rw [if_pos ⟨by rw [ints_len]; omega, by rw [List.drop_zero]; exact ints_plain x⟩, List.drop_zero, List.take_of_length_le (by rw [ints_len]; omega)]
theorem QX.readA {P : Nat → Prop} {H : Heap} {v : Value} {x : List Int} (h : QX P H v x) : Abs.readArg H v = some (.li (ints x)) := by
  have := h.readArg
  obtain ⟨b, f, rfl, _⟩ := h
  exact this
theorem ren_ints (d : Nat) (l : List Int) : mapO (renS fun b => some (b + d)) (ints l) = some (ints l) := by
  induction l with
  | nil => rfl
  | cons z l ih => unfold ints at ih ⊢; rw [List.map_cons, mapO, ih]; rfl
theorem least_run {P : Nat → Prop} {H : Heap} {v : Value} {r : List Int} (hv : QX P H v r) (hr : r ∈ permsP 5) (n : Nat) : evB Tryz.prog bC n (.func (.func 46) #[] #[]) [v] H = some (.bool (L5.contains r), H ++ []) := by
  refine evB_base ?_
  show tabC clsSp (.func (.func 46) #[] #[]) [v] H = _
  have h1 := hv.readA
  have h2 : clsSp 46 [.li (ints r)] = some (.bool (L5.contains r), []) := lea_eq hr
  unfold tabC
  simp only [mapO, h1, h2]
  rfl
theorem key_run {P : Nat → Prop} {H : Heap} {v u : Value} {R U : List Int} (hv : QX P H v R) (hu : QX P H u U) (hk : keyF R U = some (keyS R U, [])) (n : Nat) : evB Tryz.prog bC n (.func (.func 49) #[] #[]) [v, u] H = some (keyS R U, H ++ []) := by
  refine evB_base ?_
  show tabC clsSp (.func (.func 49) #[] #[]) [v, u] H = _
  have h1 := hv.readA
  have h1' := hu.readA
  have h2 : clsSp 49 [.li (ints R), .li (ints U)] = some (keyS R U, []) := hk
  unfold tabC
  simp only [mapO, h1, h1', h2]
  rfl
theorem agg_read {P : Nat → Prop} {H : Heap} {v u : Value} {r w : List Int} (hv : QX P H v r) (hu : QX P H u w) : Abs.readArg H (.agg #[v, u]) = some (.ag (ints r) (ints w)) := by
  unfold Abs.readArg
  simp only [hv.readArg, hu.readArg]
theorem label_split {P : Nat → Prop} {H : Heap} {v u : Value} {r w : List Int} (hv : QX P H v r) (hu : QX P H u w) (hl : labF r w = some splitR) (n : Nat) : evB Tryz.prog bC n (.func (.func 21) #[] #[]) [.agg #[v, u]] H = some (.tuple #[.agg #[.slice none 0 0, .slice none 0 0], .slice none 0 0, vi 16], H ++ []) := by
  refine evB_base ?_
  show tabC clsSp (.func (.func 21) #[] #[]) [.agg #[v, u]] H = _
  have h1 := agg_read hv hu
  have h2 : clsSp 21 [.ag (ints r) (ints w)] = some splitR := hl
  unfold tabC
  simp only [mapO, h1, h2]
  rfl
def blks3 (k : Nat) (R U F : List Int) : Heap := [.cells k true (ints R), .cells (k + 1) true (ints U), .cells (k + 2) true (ints F)]
theorem label_run {P : Nat → Prop} {H : Heap} {v u : Value} {r w R U F : List Int} (hv : QX P H v r) (hu : QX P H u w) (hl : labF r w = some (labI R U F)) (n : Nat) : evB Tryz.prog bC n (.func (.func 21) #[] #[]) [.agg #[v, u]] H = some (.tuple #[.agg #[sliceA H.length 0 R.length 1, sliceA (H.length + 1) 0 U.length 1], sliceA (H.length + 2) 0 F.length 1, vi 0], H ++ blks3 H.length R U F) := by
  refine evB_base ?_
  show tabC clsSp (.func (.func 21) #[] #[]) [.agg #[v, u]] H = _
  have h1 := agg_read hv hu
  have h2 : clsSp 21 [.ag (ints r) (ints w)] = some (labI R U F) := hl
  unfold tabC
  simp only [mapO, h1, h2, labI, mkBlks, ren_ints]
  show some (Value.tuple #[.agg #[sliceA (0 + H.length) 0 R.length 1, sliceA (1 + H.length) 0 U.length 1], sliceA (2 + H.length) 0 F.length 1, vi 0], _) = _
  rw [Nat.zero_add, Nat.add_comm 1, Nat.add_comm 2]
  rfl
end Go.Proofs.YtkedcelpadiakaaGreat
namespace Go.Proofs.YtkedcelpadiakaaGreat
open Go Go.Abs Go.Num
set_option maxRecDepth 10000
attribute [local congr] bindO_congr bindF_congr bindX_congr condX_congr iteB_congr binS_congr pickS_congr eqB_congr nilS_congr clsW_congr maxS_congr minS_congr
noncomputable def cmO : Code := rfBody (atC [1, 1, 1, 1, 0, 1, 0] ((Tryz.f14.body).getD .skip))
noncomputable def cmI : Code := rfBody (atC [0, 1, 1, 0] cmO)
noncomputable def cmOa : Code := rfAsg (atC [1, 1, 1, 1, 0, 1, 0] ((Tryz.f14.body).getD .skip))
noncomputable def cmIa : Code := rfAsg (atC [0, 1, 1, 0] cmO)
def DrC : Nat → Bool := fun id => id == 12 || id == 15
theorem uMO : Tryz.prog.underlying 75 = some (.map 9 34) := by kernel_rfl
theorem uSO : Tryz.prog.underlying 9 = some .string := by kernel_rfl
theorem aMO : isAggT Tryz.prog 75 = some false := by kernel_rfl
theorem uOg : Tryz.prog.underlying 34 = some (.struct (sfs 34)) := by kernel_rfl
theorem oOg : sizesOf Tryz.prog (sfs 34).toList = some [(0, 1), (1, 1)] := by kernel_rfl
theorem bOg {x y : Value} (hx : scal x = some [x]) (hy : scal y = some [y]) : buildA Tryz.prog 34 [(0, x), (1, y)] = some (.agg #[x, y]) := by
  simp only [buildA, iO, uOg, oOg, fillL, hx, hy]
  rfl
theorem sy_mapupO {call : CallF} {a : Fr} {H : Heap} {d : Option Nat} {ty : TypeId} {pos : String} {aft : Array Edge} {g : Option (Nat × Bool)} {t : TypeId} {x k v : Operand} : stepA Tryz.prog call a ⟨d, .mapUpdate t x k v, ty, pos, aft, g⟩ H = (mapUpdateA Tryz.prog t (ev a x) (ev a k) (ev a v) H).map fun h => (undef, h) := (rfl)
theorem mapup_O {H : Heap} {m : Nat} {es : List (Value × Value)} (hm : H[m]? = some (.map es)) (hk : es.all (fun e => keyKind .string e.1) = true) (R U : List Int) {x y : Value} : mapUpdateA Tryz.prog 75 (.map (some m)) (keyS R U) (.agg #[x, y]) H = some (H.set m (.map (setA (keyS R U) (.agg #[x, y]) es))) := by
  unfold mapUpdateA
  simp only [uMO, uSO, scal_agg2, hm]
  rw [if_pos ⟨rfl, hk⟩]
theorem QX.old {P : Nat → Prop} {H H' : Heap} {v : Value} {x : List Int} (h : QX P H v x) (o : Old H.length H H') : QX P H' v x := by
  obtain ⟨b, f, h0, h1, h2, h3⟩ := h
  exact ⟨b, f, h0, h1, h2, by rw [o.2 b (lt_of_blk h3)]; exact h3⟩
theorem QX.sc {P : Nat → Prop} {H : Heap} {v : Value} {x : List Int} (h : QX P H v x) : scal v = some [v] := by
  obtain ⟨b, f, rfl, _⟩ := h; rfl
def CmLeaf (H : Heap) (mb : Nat) (es : List (Value × Value)) (c r u : List Int) (H' : Heap) : Prop :=
  ((kindP r u ≠ c ∨ lb r u = none) ∧ Old H.length H H') ∨
    (kindP r u = c ∧ ∃ R U bx, lb r u = some (R, U) ∧ H.length ≤ bx ∧ H'[bx]? = some (.cells bx true (ints R)) ∧ H'[bx + 1]? = some (.cells (bx + 1) true (ints U)) ∧ H.length ≤ H'.length ∧ (∀ b, b < H.length → b ≠ mb → H'[b]? = H[b]?) ∧ H'[mb]? = some (.map (setA (keyS R U) (.agg #[sliceA bx 0 R.length 1, sliceA (bx + 1) 0 U.length 1]) es)))
theorem cm_leaf {P : Nat → Prop} {H : Heap} {vr vu vc : Value} {r u c : List Int} {br fr bc fc pb fp mb : Nat} {o1 o2 o3 : Bool} {es : List (Value × Value)} (hw : WF H) (hr : r ∈ L5) (hu : u ∈ permsP 5) (hcl : c.length ≤ 1000) (rr : QX P H vr r) (ru : QX P H vu u) (rc : R H vc (ints c))
    (hbr : H[br]? = some (.cells fr o1 [vr])) (hbc : H[bc]? = some (.cells fc o2 [vc])) (hpb : H[pb]? = some (.cells fp o3 [.map (some mb)])) (hmb : H[mb]? = some (.map es)) (hks : es.all (fun e => keyKind .string e.1) = true) (n nt k : Nat) (rd : Option Nat) (hn : 1100 ≤ n) {a : Fr} (h1 : a 1 = ptrA bc 0) (h5 : a 5 = ptrA pb 0) (h6 : a 6 = ptrA br 0) (h7 : a 7 = vu) :
    ∃ a' H', evT Tryz.prog (evB Tryz.prog bC n) k nt rd DrC cmI a H = some (.normal, a', H') ∧ WF H' ∧ CmLeaf H mb es c r u H' := by
  obtain ⟨hrp, hcm, hkl⟩ := comm5 hr hu
  obtain ⟨w, Hk, s1, q1, old1, wf1⟩ := kind_run hw (by omega) hrp hu hcm rr.R ru.R n (by omega)
  have k2 : ∀ {b : Nat} {x : Blk}, H[b]? = some x → Hk[b]? = some x := fun h => by rw [old1.2 _ (lt_of_blk h)]; exact h
  have l1 := load_box hbr
  have l2 := load_box hbc
  have m1 := load_box (k2 hbr)
  have m2 := load_box (k2 hbc)
  have rrv := rr.R.refl
  have rcv := rc.refl
  have s2 := equal_run q1.R (rc.mono old1) hkl hcl n (by omega)
  have key : ∃ a' H', evT Tryz.prog (evB Tryz.prog bC n) k nt rd DrC (atC [0, 0, 0] cmI) a H = some (.normal, a', H') ∧ H' = Hk ∧ a' 39 = .bool (!decide (kindP r u = c)) ∧ a' 1 = ptrA bc 0 ∧ a' 5 = ptrA pb 0 ∧ a' 6 = ptrA br 0 ∧ a' 7 = vu := by
    rw [show cmI = rfBody (atC [0, 1, 1, 0] (rfBody (atC [1, 1, 1, 1, 0, 1, 0] ((Tryz.f14.body).getD .skip)))) from rfl]
    simp only [Tryz.f14, Option.getD_some, atC, rfBody]
    refine et_at (by rfl) #[0, 0, 3, 0, 15, 31] (by kernel_rfl) (fun a' H' => H' = Hk ∧ a' 39 = .bool (!decide (kindP r u = c)) ∧ a' 1 = ptrA bc 0 ∧ a' 5 = ptrA pb 0 ∧ a' 6 = ptrA br 0 ∧ a' 7 = vu) ?_
    simp (disch := omega) only [es_seq, es_region, es_cond, es_block, es_loop, es_skip, es_exit, es_ret, ops_nil, ops_cons, ops_consG, opsV_nil, opsV_cons, opsV_consG, st_move, st_assign, sy_max, sy_min, maxS_vi, minS_vi, sy_pick, pickS_true, pickS_false, st_fun, sy_len uL, sy_addr eL, sy_load aI, sy_store zI, sy_bin, sy_neg, st_not, sy_append eL pI, sy_build1 eL oI, sy_build0 eL nI, sy_slice eL, sy_ext, ext_20, ext_21, sy_make eL yI (by decide), binS_lss, binS_gtr, binS_leq, binS_geq, binS_eql, binS_neq, binS_add, binS_sub, binS_mul, binS_quo, binS_rem, bindO_some, bindF_some, bindX_normal, bindX_exit, bindX_ret, blkX_normal, blkX_exit, blkX_ret, condX_true, condX_false, iteB_true, iteB_false, ev_tmp, ev_const, ev_func, putA, upd_at, Option.map_some, ↓reduceIte, Nat.reduceEqDiff, Nat.zero_add, Int.toNat_natCast, Int.natCast_nonneg, true_and, Nat.mul_one, frOf_0, frOf_1, frOf_2, frOf_3, frOf_4, List.map_cons, List.map_nil, decide_true, decide_false, Bool.not_true, Bool.not_false, yieldO_eq, yO, yV_bool, yV_undef, none_some, some_true, some_false, List.getElem?_cons_zero, List.getElem?_cons_succ, beq_self_eq_true, Bool.false_eq_true, dec00, dec0n, b_ft, b_tf, ↓bindO_some, ↓bindF_some, ↓bindX_normal, ↓bindX_exit, ↓bindX_ret, ↓condX_true, ↓condX_false, ↓iteB_true, ↓iteB_false, reflV_load, reflV_move, reflV_assign, reflV_pick, reflV_bin, reflV_un, reflV_addr, reflV_call, reflV_build, reflV_make, reflV_slice, reflV_extract, reflV_store, vEq_vi, vEq_bool, fin_n, fin_r, res_nil, res_tmp, pack_1, pack_2, pack_3, scal_vi, scal_bool, scal_nil, scal_sl, sy_load aL, sy_load aB, sy_store zL, sy_store zB, sy_faddr fW0, sy_faddr fW1, sy_loadN aW zW, sy_storeN zW, sy_alloc iW scal_agg, sy_box, sy_build, bW0, sy_eq qB, sy_ne nB, eqB_bool, reflV_loadN, reflV_buildS, reflV_box, reflV_alloc, reflV_faddr, reflV_field, res_cell aW zW, scal_agg, Bool.false_xor, Bool.true_xor, opsI_nil, opsI_cons, Nat.reduceAdd, clsW_eff, clsW_all, clsW_read, clsW_pure, ↓clsW_eff, ↓clsW_all, ↓clsW_read, ↓clsW_pure, cls_move, cls_assign, cls_pick, cls_bin, cls_un, cls_addr, cls_load, cls_len, cls_callF, cls_append, cls_store, cls_faddr, cls_field, cls_build, cls_buildS, cls_box, cls_extract, cls_slice, cls_alloc, cls_make, ext_30, ext_31, ext_32, h1, h6, h7, l1, m2, s1, s2]
    refine ⟨_, rfl, ?_, rfl, rfl, h1, h5, h6, h7⟩
    · intro G hG q hq
      simp only [List.mem_cons, List.not_mem_nil, or_false] at hG hq
      rcases hq with rfl | rfl <;> rcases hG with rfl | rfl | rfl <;> first
        | (intro h; dsimp only at h; exact absurd h (by decide))
        | (intro _; simp only [still_ld aB, still_ld aL, still_ld aI, still_ldN aW zW, ev_tmp, ev_const, upd_at, ↓reduceIte, Nat.reduceEqDiff, vEq_bool, vEq_vi, h1, h6, l1, l2, m1, m2, rrv, rcv])
  obtain ⟨a1, H1, e1, rfl, h39, g1, g5, g6, g7⟩ := key
  have cmI_eq : cmI = rfBody (atC [0, 1, 1, 0] (rfBody (atC [1, 1, 1, 1, 0, 1, 0] ((Tryz.f14.body).getD .skip)))) := rfl
  by_cases hq : kindP r u = c
  case neg =>
    rw [decide_eq_false hq] at h39
    refine ⟨a1, H1, ?_, wf1, .inl ⟨.inl hq, old1⟩⟩
    rw [cmI_eq] at e1 ⊢
    simp only [Tryz.f14, Option.getD_some, atC, rfBody] at e1 ⊢
    rw [es_block, es_seq, es_seq, e1]
    simp (disch := omega) only [es_seq, es_region, es_draw, d0, es_cond, es_block, es_loop, es_skip, es_exit, es_ret, ops_nil, ops_cons, ops_consG, opsV_nil, opsV_cons, opsV_consG, st_move, st_assign, sy_max, sy_min, maxS_vi, minS_vi, sy_pick, pickS_true, pickS_false, st_fun, sy_len uL, sy_addr eL, sy_load aI, sy_store zI, sy_bin, sy_neg, st_not, sy_append eL pI, sy_build1 eL oI, sy_build0 eL nI, sy_slice eL, sy_ext, ext_20, ext_21, sy_make eL yI (by decide), binS_lss, binS_gtr, binS_leq, binS_geq, binS_eql, binS_neq, binS_add, binS_sub, binS_mul, binS_quo, binS_rem, bindO_some, bindF_some, bindX_normal, bindX_exit, bindX_ret, blkX_normal, blkX_exit, blkX_ret, condX_true, condX_false, iteB_true, iteB_false, ev_tmp, ev_const, ev_func, putA, upd_at, Option.map_some, ↓reduceIte, Nat.reduceEqDiff, Nat.zero_add, Int.toNat_natCast, Int.natCast_nonneg, true_and, Nat.mul_one, frOf_0, frOf_1, frOf_2, frOf_3, frOf_4, List.map_cons, List.map_nil, decide_true, decide_false, Bool.not_true, Bool.not_false, yieldO_eq, yO, yV_bool, yV_undef, none_some, some_true, some_false, List.getElem?_cons_zero, List.getElem?_cons_succ, beq_self_eq_true, Bool.false_eq_true, dec00, dec0n, b_ft, b_tf, ↓bindO_some, ↓bindF_some, ↓bindX_normal, ↓bindX_exit, ↓bindX_ret, ↓condX_true, ↓condX_false, ↓iteB_true, ↓iteB_false, reflV_load, reflV_move, reflV_assign, reflV_pick, reflV_bin, reflV_un, reflV_addr, reflV_call, reflV_build, reflV_make, reflV_slice, reflV_extract, reflV_store, vEq_vi, vEq_bool, fin_n, fin_r, res_nil, res_tmp, pack_1, pack_2, pack_3, scal_vi, scal_bool, scal_nil, scal_sl, h39]
  rw [decide_eq_true hq] at h39
  have rr1 := rr.old old1
  have ru1 := ru.old old1
  have bO := bOg rr.sc ru.sc
  have fam : ∀ {H : Heap}, WF H → FamOK H := fun hw b f o cs h => by have := hw b f o cs h; have := lt_of_blk h; omega
  rcases lab_cases hr hu with ⟨hn1, hsp⟩ | ⟨R, U, F, hlb, hlf, hkf, gR, gU⟩
  · have s3 := label_split rr1 ru1 hsp n
    rw [List.append_nil] at s3
    have sA := cl_store (fam wf1) (x := .slice none 0 0) (y := .slice none 0 0) (u := .slice none 0 0) (v := .slice none 0 0)
    have d16 : decide ((16 : Int) = 0) = false := rfl
    have old2 := Old.app H1 [.cells H1.length true [.slice none 0 0, .slice none 0 0]]
    have key : ∃ a', evT Tryz.prog (evB Tryz.prog bC n) k nt rd DrC cmI a H = some (.normal, a', H1 ++ [.cells H1.length true [.slice none 0 0, .slice none 0 0]]) := by
      rw [cmI_eq] at e1 ⊢
      simp only [Tryz.f14, Option.getD_some, atC, rfBody] at e1 ⊢
      rw [es_block, es_seq, es_seq, e1]
      simp (disch := omega) only [es_seq, es_region, es_draw, d0, es_cond, es_block, es_loop, es_skip, es_exit, es_ret, ops_nil, ops_cons, ops_consG, opsV_nil, opsV_cons, opsV_consG, st_move, st_assign, sy_max, sy_min, maxS_vi, minS_vi, sy_pick, pickS_true, pickS_false, st_fun, sy_len uL, sy_addr eL, sy_load aI, sy_store zI, sy_bin, sy_neg, st_not, sy_append eL pI, sy_build1 eL oI, sy_build0 eL nI, sy_slice eL, sy_ext, ext_20, ext_21, sy_make eL yI (by decide), binS_lss, binS_gtr, binS_leq, binS_geq, binS_eql, binS_neq, binS_add, binS_sub, binS_mul, binS_quo, binS_rem, bindO_some, bindF_some, bindX_normal, bindX_exit, bindX_ret, blkX_normal, blkX_exit, blkX_ret, condX_true, condX_false, iteB_true, iteB_false, ev_tmp, ev_const, ev_func, putA, upd_at, Option.map_some, ↓reduceIte, Nat.reduceEqDiff, Nat.zero_add, Int.toNat_natCast, Int.natCast_nonneg, true_and, Nat.mul_one, frOf_0, frOf_1, frOf_2, frOf_3, frOf_4, List.map_cons, List.map_nil, decide_true, decide_false, Bool.not_true, Bool.not_false, yieldO_eq, yO, yV_bool, yV_undef, none_some, some_true, some_false, List.getElem?_cons_zero, List.getElem?_cons_succ, beq_self_eq_true, Bool.false_eq_true, dec00, dec0n, b_ft, b_tf, ↓bindO_some, ↓bindF_some, ↓bindX_normal, ↓bindX_exit, ↓bindX_ret, ↓condX_true, ↓condX_false, ↓iteB_true, ↓iteB_false, reflV_load, reflV_move, reflV_assign, reflV_pick, reflV_bin, reflV_un, reflV_addr, reflV_call, reflV_build, reflV_make, reflV_slice, reflV_extract, reflV_store, vEq_vi, vEq_bool, fin_n, fin_r, res_nil, res_tmp, pack_1, pack_2, pack_3, scal_vi, scal_bool, scal_nil, scal_sl, sy_load aL, sy_load aB, sy_store zL, sy_store zB, sy_faddr fW0, sy_faddr fW1, sy_loadN aW zW, sy_storeN zW, sy_alloc iW scal_agg, sy_box, sy_build, bW0, sy_eq qB, sy_ne nB, eqB_bool, reflV_loadN, reflV_buildS, reflV_box, reflV_alloc, reflV_faddr, reflV_field, res_cell aW zW, scal_agg, Bool.false_xor, Bool.true_xor, ext_30, ext_31, ext_32, h39, g6, g7, m1, bO, s3, sy_alloc iO scal_agg2, sy_storeN zO, scal_agg2, sA, d16]
      exact ⟨_, rfl⟩
    obtain ⟨a', e⟩ := key
    exact ⟨a', _, e, wf1.app (Nat.le_refl _), .inl ⟨.inr hn1, old1.trans (old2.mono old1.1)⟩⟩
  · have s3 := label_run rr1 ru1 hlf n
    have old2 : Old H1.length H1 (H1 ++ blks3 H1.length R U F) := Old.app H1 _
    have hl2 : (H1 ++ blks3 H1.length R U F).length = H1.length + 3 := by simp [blks3]
    have wf2 : WF (H1 ++ blks3 H1.length R U F) := by
      have e : H1 ++ blks3 H1.length R U F = ((H1 ++ [.cells H1.length true (ints R)]) ++ [.cells (H1.length + 1) true (ints U)]) ++ [.cells (H1.length + 2) true (ints F)] := by simp [blks3]
      rw [e]
      exact ((wf1.app (Nat.le_refl _)).app (by simp)).app (by simp)
    have b1 : (H1 ++ blks3 H1.length R U F)[H1.length]? = some (.cells H1.length true (ints R)) := by rw [List.getElem?_append_right (Nat.le_refl _), Nat.sub_self]; rfl
    have b2 : (H1 ++ blks3 H1.length R U F)[H1.length + 1]? = some (.cells (H1.length + 1) true (ints U)) := by rw [List.getElem?_append_right (by omega), show H1.length + 1 - H1.length = 1 from by omega]; rfl
    generalize hH2 : H1 ++ blks3 H1.length R U F = H2 at *
    have sA := cl_store (fam wf2) (x := sliceA H1.length 0 R.length 1) (y := sliceA (H1.length + 1) 0 U.length 1) (u := .slice none 0 0) (v := .slice none 0 0)
    have sL := cl_load (H := H2) (x := sliceA H1.length 0 R.length 1) (y := sliceA (H1.length + 1) 0 U.length 1)
    have wf3 := wf2.app (f := H2.length) (o := true) (cs := [sliceA H1.length 0 R.length 1, sliceA (H1.length + 1) 0 U.length 1]) (Nat.le_refl _)
    have old3 := Old.app H2 [.cells H2.length true [sliceA H1.length 0 R.length 1, sliceA (H1.length + 1) 0 U.length 1]]
    have b3 : (H2 ++ [Blk.cells H2.length true [sliceA H1.length 0 R.length 1, sliceA (H1.length + 1) 0 U.length 1]])[H2.length]? = some (.cells H2.length true [sliceA H1.length 0 R.length 1, sliceA (H1.length + 1) 0 U.length 1]) := app_at
    have hl3 : (H2 ++ [Blk.cells H2.length true [sliceA H1.length 0 R.length 1, sliceA (H1.length + 1) 0 U.length 1]]).length = H2.length + 1 := app_len
    have d0' : decide ((0 : Int) = 0) = true := rfl
    have key : ∃ a', evT Tryz.prog (evB Tryz.prog bC n) k nt rd DrC (atC [0, 1, 0] cmI) a1 H1 = some (.normal, a', H2 ++ [.cells H2.length true [sliceA H1.length 0 R.length 1, sliceA (H1.length + 1) 0 U.length 1]]) ∧ a' 10 = vi 0 ∧ a' 8 = ptrA H2.length 0 ∧ a' 5 = ptrA pb 0 := by
      rw [cmI_eq]
      simp only [Tryz.f14, Option.getD_some, atC, rfBody]
      simp (disch := omega) only [es_seq, es_region, es_draw, d0, es_cond, es_block, es_loop, es_skip, es_exit, es_ret, ops_nil, ops_cons, ops_consG, opsV_nil, opsV_cons, opsV_consG, st_move, st_assign, sy_max, sy_min, maxS_vi, minS_vi, sy_pick, pickS_true, pickS_false, st_fun, sy_len uL, sy_addr eL, sy_load aI, sy_store zI, sy_bin, sy_neg, st_not, sy_append eL pI, sy_build1 eL oI, sy_build0 eL nI, sy_slice eL, sy_ext, ext_20, ext_21, sy_make eL yI (by decide), binS_lss, binS_gtr, binS_leq, binS_geq, binS_eql, binS_neq, binS_add, binS_sub, binS_mul, binS_quo, binS_rem, bindO_some, bindF_some, bindX_normal, bindX_exit, bindX_ret, blkX_normal, blkX_exit, blkX_ret, condX_true, condX_false, iteB_true, iteB_false, ev_tmp, ev_const, ev_func, putA, upd_at, Option.map_some, ↓reduceIte, Nat.reduceEqDiff, Nat.zero_add, Int.toNat_natCast, Int.natCast_nonneg, true_and, Nat.mul_one, frOf_0, frOf_1, frOf_2, frOf_3, frOf_4, List.map_cons, List.map_nil, decide_true, decide_false, Bool.not_true, Bool.not_false, yieldO_eq, yO, yV_bool, yV_undef, none_some, some_true, some_false, List.getElem?_cons_zero, List.getElem?_cons_succ, beq_self_eq_true, Bool.false_eq_true, dec00, dec0n, b_ft, b_tf, ↓bindO_some, ↓bindF_some, ↓bindX_normal, ↓bindX_exit, ↓bindX_ret, ↓condX_true, ↓condX_false, ↓iteB_true, ↓iteB_false, reflV_load, reflV_move, reflV_assign, reflV_pick, reflV_bin, reflV_un, reflV_addr, reflV_call, reflV_build, reflV_make, reflV_slice, reflV_extract, reflV_store, vEq_vi, vEq_bool, fin_n, fin_r, res_nil, res_tmp, pack_1, pack_2, pack_3, scal_vi, scal_bool, scal_nil, scal_sl, sy_load aL, sy_load aB, sy_store zL, sy_store zB, sy_faddr fW0, sy_faddr fW1, sy_loadN aW zW, sy_storeN zW, sy_alloc iW scal_agg, sy_box, sy_build, bW0, sy_eq qB, sy_ne nB, eqB_bool, reflV_loadN, reflV_buildS, reflV_box, reflV_alloc, reflV_faddr, reflV_field, res_cell aW zW, scal_agg, Bool.false_xor, Bool.true_xor, ext_30, ext_31, ext_32, g6, g7, m1, bO, s3, sy_alloc iO scal_agg2, sy_storeN zO, scal_agg2, sA]
      exact ⟨_, rfl, rfl, rfl, g5⟩
    obtain ⟨a2, e2, k10, k8, k5⟩ := key
    generalize hH3 : H2 ++ [Blk.cells H2.length true [sliceA H1.length 0 R.length 1, sliceA (H1.length + 1) 0 U.length 1]] = H3 at *
    have up : ∀ {b : Nat} {x : Blk}, H[b]? = some x → H3[b]? = some x := fun h => by
      have h1 := k2 h
      have h2 := lt_of_blk h1
      rw [old3.2 _ (by have := old2.1; omega), old2.2 _ h2]; exact h1
    have m5 := load_box (up hpb)
    have bx : QX (fun _ => True) H3 (sliceA H1.length 0 R.length 1) R := ⟨_, _, rfl, trivial, trivial, by rw [old3.2 _ (by omega)]; exact b1⟩
    have by' : QX (fun _ => True) H3 (sliceA (H1.length + 1) 0 U.length 1) U := ⟨_, _, rfl, trivial, trivial, by rw [old3.2 _ (by omega)]; exact b2⟩
    have s5 := key_run bx by' hkf n
    rw [List.append_nil] at s5
    have f1 : ∀ (b k : Nat), faddrS k (ptrA b 0) = some (ptrA b (0 + k)) := fun b k => rfl
    have q0 : loadS (ptrA H2.length (0 + 0)) H3 = some (sliceA H1.length 0 R.length 1) := by simp [loadS, ptrA, Heap.cell, b3]
    have q1 : loadS (ptrA H2.length (0 + 1)) H3 = some (sliceA (H1.length + 1) 0 U.length 1) := by simp [loadS, ptrA, Heap.cell, b3]
    have mu := mapup_O (up hmb) hks R U (x := sliceA H1.length 0 R.length 1) (y := sliceA (H1.length + 1) 0 U.length 1)
    have mbl := lt_of_blk hmb
    have vM : vEq (.map (some mb)) (.map (some mb)) = true := by simp [vEq, sEq]
    have vA : vEq (.agg #[sliceA H1.length 0 R.length 1, sliceA (H1.length + 1) 0 U.length 1]) (.agg #[sliceA H1.length 0 R.length 1, sliceA (H1.length + 1) 0 U.length 1]) = true := by simp [vEq, listEq, sEq, sliceA]
    have key : ∃ a' H', evT Tryz.prog (evB Tryz.prog bC n) k nt rd DrC (atC [0, 1, 1, 1, 0] cmI) (upd (upd a2 48 (vi 0)) 49 (.bool true)) H3 = some (.normal, a', H') ∧ H' = H3.set mb (.map (setA (keyS R U) (.agg #[sliceA H1.length 0 R.length 1, sliceA (H1.length + 1) 0 U.length 1]) es)) := by
      rw [cmI_eq]
      simp only [Tryz.f14, Option.getD_some, atC, rfBody]
      refine et_at (by rfl) #[0, 0, 2, 0, 8, 30, 0, 127] (by kernel_rfl) (fun a' H' => H' = H3.set mb (.map (setA (keyS R U) (.agg #[sliceA H1.length 0 R.length 1, sliceA (H1.length + 1) 0 U.length 1]) es))) ?_
      simp (disch := omega) only [es_seq, es_region, es_cond, es_block, es_loop, es_skip, es_exit, es_ret, ops_nil, ops_cons, ops_consG, opsV_nil, opsV_cons, opsV_consG, st_move, st_assign, sy_max, sy_min, maxS_vi, minS_vi, sy_pick, pickS_true, pickS_false, st_fun, sy_len uL, sy_addr eL, sy_load aI, sy_store zI, sy_bin, sy_neg, st_not, sy_append eL pI, sy_build1 eL oI, sy_build0 eL nI, sy_slice eL, sy_ext, ext_20, ext_21, sy_make eL yI (by decide), binS_lss, binS_gtr, binS_leq, binS_geq, binS_eql, binS_neq, binS_add, binS_sub, binS_mul, binS_quo, binS_rem, bindO_some, bindF_some, bindX_normal, bindX_exit, bindX_ret, blkX_normal, blkX_exit, blkX_ret, condX_true, condX_false, iteB_true, iteB_false, ev_tmp, ev_const, ev_func, putA, upd_at, Option.map_some, ↓reduceIte, Nat.reduceEqDiff, Nat.zero_add, Int.toNat_natCast, Int.natCast_nonneg, true_and, Nat.mul_one, frOf_0, frOf_1, frOf_2, frOf_3, frOf_4, List.map_cons, List.map_nil, decide_true, decide_false, Bool.not_true, Bool.not_false, yieldO_eq, yO, yV_bool, yV_undef, none_some, some_true, some_false, List.getElem?_cons_zero, List.getElem?_cons_succ, beq_self_eq_true, Bool.false_eq_true, dec00, dec0n, b_ft, b_tf, ↓bindO_some, ↓bindF_some, ↓bindX_normal, ↓bindX_exit, ↓bindX_ret, ↓condX_true, ↓condX_false, ↓iteB_true, ↓iteB_false, reflV_load, reflV_move, reflV_assign, reflV_pick, reflV_bin, reflV_un, reflV_addr, reflV_call, reflV_build, reflV_make, reflV_slice, reflV_extract, reflV_store, vEq_vi, vEq_bool, fin_n, fin_r, res_nil, res_tmp, pack_1, pack_2, pack_3, scal_vi, scal_bool, scal_nil, scal_sl, sy_load aL, sy_load aB, sy_store zL, sy_store zB, sy_faddr fW0, sy_faddr fW1, sy_loadN aW zW, sy_storeN zW, sy_alloc iW scal_agg, sy_box, sy_build, bW0, sy_eq qB, sy_ne nB, eqB_bool, reflV_loadN, reflV_buildS, reflV_box, reflV_alloc, reflV_faddr, reflV_field, res_cell aW zW, scal_agg, Bool.false_xor, Bool.true_xor, opsI_nil, opsI_cons, Nat.reduceAdd, clsW_eff, clsW_all, clsW_read, clsW_pure, ↓clsW_eff, ↓clsW_all, ↓clsW_read, ↓clsW_pure, cls_move, cls_assign, cls_pick, cls_bin, cls_un, cls_addr, cls_load, cls_len, cls_callF, cls_append, cls_store, cls_faddr, cls_field, cls_build, cls_buildS, cls_box, cls_extract, cls_slice, cls_alloc, cls_make, ext_30, ext_31, ext_32, sy_load aMO, sy_faddr fO0, sy_faddr fO1, sy_loadN aO zO, sy_mapupO, k5, k8, f1, m5, q0, q1, sL, s5, mu]
      refine ⟨_, rfl, ?_, rfl⟩
      intro G hG q hq
      simp only [List.mem_cons, List.not_mem_nil, or_false] at hG hq
      rcases hq with rfl | rfl | rfl | rfl <;> rcases hG with rfl | rfl | rfl <;> first
        | (intro h; dsimp only at h; exact absurd h (by decide))
        | (intro _; simp only [still_ld aB, still_ld aL, still_ld aI, still_ldN aW zW, ev_tmp, ev_const, upd_at, ↓reduceIte, Nat.reduceEqDiff, vEq_bool, vEq_vi, still_ld aMO, still_ldN aO zO, k5, k8, m5, q0, q1, sL, vA, vEq_sl, vM])
    obtain ⟨a3, H4, e3, rfl⟩ := key
    have key : ∃ a', evT Tryz.prog (evB Tryz.prog bC n) k nt rd DrC cmI a H = some (.normal, a', H3.set mb (.map (setA (keyS R U) (.agg #[sliceA H1.length 0 R.length 1, sliceA (H1.length + 1) 0 U.length 1]) es))) := by
      rw [cmI_eq] at e1 e2 e3 ⊢
      simp only [Tryz.f14, Option.getD_some, atC, rfBody] at e1 e2 e3 ⊢
      rw [es_block, es_seq, es_seq, e1]
      simp (disch := omega) only [bindX_normal, es_cond, condX_false, es_skip, ev_tmp, h39, Bool.not_true]
      rw [es_seq, e2]
      simp (disch := omega) only [es_seq, es_region, es_draw, d0, es_cond, es_block, es_loop, es_skip, es_exit, es_ret, ops_nil, ops_cons, ops_consG, opsV_nil, opsV_cons, opsV_consG, st_move, st_assign, sy_max, sy_min, maxS_vi, minS_vi, sy_pick, pickS_true, pickS_false, st_fun, sy_len uL, sy_addr eL, sy_load aI, sy_store zI, sy_bin, sy_neg, st_not, sy_append eL pI, sy_build1 eL oI, sy_build0 eL nI, sy_slice eL, sy_ext, ext_20, ext_21, sy_make eL yI (by decide), binS_lss, binS_gtr, binS_leq, binS_geq, binS_eql, binS_neq, binS_add, binS_sub, binS_mul, binS_quo, binS_rem, bindO_some, bindF_some, bindX_normal, bindX_exit, bindX_ret, blkX_normal, blkX_exit, blkX_ret, condX_true, condX_false, iteB_true, iteB_false, ev_tmp, ev_const, ev_func, putA, upd_at, Option.map_some, ↓reduceIte, Nat.reduceEqDiff, Nat.zero_add, Int.toNat_natCast, Int.natCast_nonneg, true_and, Nat.mul_one, frOf_0, frOf_1, frOf_2, frOf_3, frOf_4, List.map_cons, List.map_nil, decide_true, decide_false, Bool.not_true, Bool.not_false, yieldO_eq, yO, yV_bool, yV_undef, none_some, some_true, some_false, List.getElem?_cons_zero, List.getElem?_cons_succ, beq_self_eq_true, Bool.false_eq_true, dec00, dec0n, b_ft, b_tf, ↓bindO_some, ↓bindF_some, ↓bindX_normal, ↓bindX_exit, ↓bindX_ret, ↓condX_true, ↓condX_false, ↓iteB_true, ↓iteB_false, reflV_load, reflV_move, reflV_assign, reflV_pick, reflV_bin, reflV_un, reflV_addr, reflV_call, reflV_build, reflV_make, reflV_slice, reflV_extract, reflV_store, vEq_vi, vEq_bool, fin_n, fin_r, res_nil, res_tmp, pack_1, pack_2, pack_3, scal_vi, scal_bool, scal_nil, scal_sl, sy_load aL, sy_load aB, sy_store zL, sy_store zB, sy_faddr fW0, sy_faddr fW1, sy_loadN aW zW, sy_storeN zW, sy_alloc iW scal_agg, sy_box, sy_build, bW0, sy_eq qB, sy_ne nB, eqB_bool, reflV_loadN, reflV_buildS, reflV_box, reflV_alloc, reflV_faddr, reflV_field, res_cell aW zW, scal_agg, Bool.false_xor, Bool.true_xor, k10, d0', e3]
      exact ⟨_, rfl⟩
    obtain ⟨a', e⟩ := key
    have hne : mb ≠ H1.length ∧ mb ≠ H1.length + 1 := by have := old1.1; omega
    have ho := old1.1
    refine ⟨a', _, e, wf3.set (fun _ _ _ h => by cases h), .inr ⟨hq, R, U, H1.length, hlb, old1.1, ?_, ?_, ?_, fun b hb hb2 => ?_, ?_⟩⟩
    · rw [set_ne (Ne.symm hne.1), old3.2 _ (by omega)]; exact b1
    · rw [set_ne (Ne.symm hne.2), old3.2 _ (by omega)]; exact b2
    · rw [set_len, hl3]; omega
    · rw [set_ne hb2, old3.2 _ (by omega), old2.2 _ (by omega), old1.2 _ hb]
    · exact set_eq (up hmb)
end Go.Proofs.YtkedcelpadiakaaGreat
namespace Go.Proofs.YtkedcelpadiakaaGreat
open Go Go.Abs Go.Num
theorem u8_inj {x y : Int} (hx : 0 ≤ x ∧ x < 5) (hy : 0 ≤ y ∧ y < 5) (h : UInt8.ofNat x.toNat = UInt8.ofNat y.toNat) : x = y := by
  have h2 := congrArg UInt8.toNat h
  rw [UInt8.toNat_ofNat', UInt8.toNat_ofNat'] at h2
  omega
theorem map_inj5 : ∀ {l m : List Int}, (∀ x ∈ l, 0 ≤ x ∧ x < 5) → (∀ x ∈ m, 0 ≤ x ∧ x < 5) → (l.map fun z => UInt8.ofNat z.toNat) = (m.map fun z => UInt8.ofNat z.toNat) → l = m := by
  intro l
  induction l with
  | nil => intro m _ _ h; cases m with | nil => rfl | cons => cases h
  | cons x l ih =>
    intro m hl hm h
    cases m with
    | nil => cases h
    | cons y m =>
      rw [List.map_cons, List.map_cons] at h
      injection h with h1 h2
      rw [u8_inj (hl x (by simp)) (hm y (by simp)) h1, ih (fun z hz => hl z (by simp [hz])) (fun z hz => hm z (by simp [hz])) h2]
theorem rng5_mem {l : List Int} (h : rng5 l = true) : l.length = 5 ∧ ∀ x ∈ l, 0 ≤ x ∧ x < 5 := by
  unfold rng5 at h
  rw [Bool.and_eq_true] at h
  refine ⟨Nat.eq_of_beq_eq_true h.1, fun x hx => ?_⟩
  have := List.all_eq_true.1 h.2 x hx
  simpa using this
theorem keyS_inj {R U R' U' : List Int} (h1 : rng5 R = true) (h2 : rng5 U = true) (h3 : rng5 R' = true) (h4 : rng5 U' = true) (h : sameKey (keyS R U) (keyS R' U') = true) : R = R' ∧ U = U' := by
  obtain ⟨l1, m1⟩ := rng5_mem h1
  obtain ⟨l2, m2⟩ := rng5_mem h2
  obtain ⟨l3, m3⟩ := rng5_mem h3
  obtain ⟨l4, m4⟩ := rng5_mem h4
  have e : (⟨⟨(R ++ 0 :: U).map fun z => UInt8.ofNat z.toNat⟩⟩ : ByteArray) = ⟨⟨(R' ++ 0 :: U').map fun z => UInt8.ofNat z.toNat⟩⟩ := by
    unfold sameKey keyS at h
    exact ba_beq.1 h
  injection e with e
  injection e with e
  have mem : ∀ {a b : List Int}, (∀ x ∈ a, 0 ≤ x ∧ x < 5) → (∀ x ∈ b, 0 ≤ x ∧ x < 5) → ∀ x ∈ a ++ 0 :: b, 0 ≤ x ∧ x < 5 := by
    intro a b ha hb x hx
    rcases List.mem_append.1 hx with h | h
    · exact ha x h
    · rcases List.mem_cons.1 h with rfl | h
      · omega
      · exact hb x h
  have e2 := map_inj5 (mem m1 m2) (mem m3 m4) e
  have e3 := List.append_inj e2 (by omega)
  exact ⟨e3.1, by injection e3.2⟩
theorem keyS_same (R U : List Int) : sameKey (keyS R U) (keyS R U) = true := by
  unfold sameKey keyS
  exact ba_beq.2 rfl
def entV (b : Nat) (R U : List Int) : Value := .agg #[sliceA b 0 R.length 1, sliceA (b + 1) 0 U.length 1]
def Ents (H : Heap) (G : Nat → Prop) : List (Value × Value) → List Key2 → List Nat → Prop
  | [], [], [] => True
  | e :: es, (R, U) :: E, b :: bs => e = (keyS R U, entV b R U) ∧ H[b]? = some (.cells b true (ints R)) ∧ H[b + 1]? = some (.cells (b + 1) true (ints U)) ∧ G b ∧ G (b + 1) ∧ rng5 R = true ∧ rng5 U = true ∧ Ents H G es E bs
  | _, _, _ => False
def apart (a b : Nat) : Prop := a + 1 < b ∨ b + 1 < a
theorem Ents.mono {H H' : Heap} {G G' : Nat → Prop} (hH : ∀ (b : Nat) (cs : List Value), G b → H[b]? = some (.cells b true cs) → H'[b]? = some (.cells b true cs)) (hG : ∀ b, G b → G' b) : ∀ {es : List (Value × Value)} {E : List Key2} {bs : List Nat}, Ents H G es E bs → Ents H' G' es E bs := by
  intro es
  induction es with
  | nil => intro E bs h; cases E <;> cases bs <;> first | trivial | exact h.elim
  | cons e es ih =>
    intro E bs h
    cases E with
    | nil => exact h.elim
    | cons k E => cases bs with
      | nil => exact h.elim
      | cons b bs =>
        obtain ⟨R, U⟩ := k
        obtain ⟨h1, h2, h3, h4, h5, h6, h7, h8⟩ := h
        exact ⟨h1, hH _ _ h4 h2, hH _ _ h5 h3, hG _ h4, hG _ h5, h6, h7, ih h8⟩
def insE (E : List Key2) (k : Key2) : List Key2 := if k ∈ E then E else E ++ [k]
theorem Ents.kinds {H : Heap} {G : Nat → Prop} : ∀ {es : List (Value × Value)} {E : List Key2} {bs : List Nat}, Ents H G es E bs → es.all (fun e => keyKind .string e.1) = true := by
  intro es
  induction es with
  | nil => intro _ _ _; rfl
  | cons e es ih =>
    intro E bs h
    cases E with
    | nil => exact h.elim
    | cons k E => cases bs with
      | nil => exact h.elim
      | cons b bs =>
        obtain ⟨R, U⟩ := k
        obtain ⟨rfl, _, _, _, _, _, _, h8⟩ := h
        rw [List.all_cons, ih h8]
        rfl
theorem Ents.ins {H : Heap} {G : Nat → Prop} {R U : List Int} {b : Nat} (hR : rng5 R = true) (hU : rng5 U = true) (h1 : H[b]? = some (.cells b true (ints R))) (h2 : H[b + 1]? = some (.cells (b + 1) true (ints U))) (g1 : G b) (g2 : G (b + 1)) :
    ∀ {es : List (Value × Value)} {E : List Key2} {bs : List Nat}, Ents H G es E bs → bs.Pairwise apart → (∀ x ∈ bs, x + 1 < b) → ∃ bs', Ents H G (setA (keyS R U) (entV b R U) es) (insE E (R, U)) bs' ∧ bs'.Pairwise apart ∧ ∀ x ∈ bs', x = b ∨ x ∈ bs := by
  intro es
  induction es with
  | nil =>
    intro E bs h _ _
    cases E <;> cases bs <;> first | exact h.elim | skip
    exact ⟨[b], ⟨rfl, h1, h2, g1, g2, hR, hU, trivial⟩, List.pairwise_singleton _ _, fun x hx => .inl (by simpa using hx)⟩
  | cons e es ih =>
    intro E bs h hp hb
    cases E with
    | nil => exact h.elim
    | cons k E => cases bs with
      | nil => exact h.elim
      | cons b0 bs =>
        obtain ⟨R', U'⟩ := k
        obtain ⟨rfl, k2, k3, k4, k5, k6, k7, k8⟩ := h
        rw [List.pairwise_cons] at hp
        by_cases hs : sameKey (keyS R U) (keyS R' U') = true
        · obtain ⟨rfl, rfl⟩ := keyS_inj hR hU k6 k7 hs
          refine ⟨b :: bs, ?_, List.pairwise_cons.2 ⟨fun x hx => ?_, hp.2⟩, fun x hx => ?_⟩
          · rw [setA, if_pos hs]
            unfold insE
            rw [if_pos (List.mem_cons_self ..)]
            exact ⟨rfl, h1, h2, g1, g2, hR, hU, k8⟩
          · have := hb x (List.mem_cons_of_mem _ hx)
            exact .inr this
          · rcases List.mem_cons.1 hx with h | h
            · exact .inl h
            · exact .inr (List.mem_cons_of_mem _ h)
        · obtain ⟨bs', i1, i2, i3⟩ := ih k8 hp.2 fun x hx => hb x (List.mem_cons_of_mem _ hx)
          have hne : ¬ (R, U) = (R', U') := fun e => hs (by injection e with e1 e2; rw [e1, e2]; exact keyS_same _ _)
          refine ⟨b0 :: bs', ?_, List.pairwise_cons.2 ⟨fun x hx => ?_, i2⟩, fun x hx => ?_⟩
          · rw [setA, if_neg hs]
            have e : insE ((R', U') :: E) (R, U) = (R', U') :: insE E (R, U) := by
              unfold insE
              by_cases hm : (R, U) ∈ E
              · rw [if_pos (List.mem_cons_of_mem _ hm), if_pos hm]
              · rw [if_neg hm, if_neg (fun h => (List.mem_cons.1 h).elim hne hm)]; rfl
            rw [e]
            exact ⟨rfl, k2, k3, k4, k5, k6, k7, i1⟩
          · rcases i3 x hx with rfl | h
            · exact .inl (hb b0 (List.mem_cons_self ..))
            · exact hp.1 x h
          · rcases List.mem_cons.1 hx with h | h
            · exact .inr (by rw [h]; exact List.mem_cons_self ..)
            · exact (i3 x h).imp id (List.mem_cons_of_mem _)
noncomputable def stepE (c r : List Int) (E : List Key2) (u : List Int) : List Key2 := if kindP r u = c then match lb r u with
  | some k => insE E k
  | none => E
  else E
noncomputable def rowE (c r : List Int) (E : List Key2) (us : List (List Int)) : List Key2 := us.foldl (stepE c r) E
end Go.Proofs.YtkedcelpadiakaaGreat
namespace Go.Proofs.YtkedcelpadiakaaGreat
open Go Go.Abs Go.Num
theorem evB_yield {n L : Nat} {args : List Value} {H : Heap} : evB Tryz.prog bC (n + 1) (.func (.yield L) #[] #[]) args H = evBody Tryz.prog (evB Tryz.prog bC n) n (.func (.yield L) #[] #[]) args H := by
  have e : bC (.func (.yield L) #[] #[]) args H = none := rfl
  show Abs.orC bC (evBody Tryz.prog (evB Tryz.prog bC n) n) _ args H = _
  unfold Abs.orC
  rw [e]
end Go.Proofs.YtkedcelpadiakaaGreat
namespace Go.Proofs.YtkedcelpadiakaaGreat
open Go Go.Abs Go.Num
set_option maxRecDepth 10000
attribute [local congr] bindO_congr bindF_congr bindX_congr condX_congr iteB_congr binS_congr pickS_congr eqB_congr nilS_congr clsW_congr maxS_congr minS_congr
theorem Ents.lt {H : Heap} {G : Nat → Prop} : ∀ {es : List (Value × Value)} {E : List Key2} {bs : List Nat}, Ents H G es E bs → ∀ x ∈ bs, x + 1 < H.length := by
  intro es
  induction es with
  | nil =>
    intro E bs h x hx
    cases E <;> cases bs <;> first | exact h.elim | cases hx
  | cons e es ih =>
    intro E bs h x hx
    cases E with
    | nil => exact h.elim
    | cons k E => cases bs with
      | nil => exact h.elim
      | cons b bs =>
        obtain ⟨R, U⟩ := k
        obtain ⟨_, _, h3, _, _, _, _, h8⟩ := h
        rcases List.mem_cons.1 hx with rfl | hx
        · exact lt_of_blk h3
        · exact ih h8 x hx
structure CmS (Hst : Heap) (B mb : Nat) (Q : Nat → Prop) (E : List Key2) (G : Nat → Prop) (Hc : Heap) : Prop where
  low : ∀ b, b < B → b ≠ mb → Hc[b]? = Hst[b]?
  map : ∃ es bs, Hc[mb]? = some (.map es) ∧ Ents Hc (fun b => G b ∧ Q b) es E bs ∧ bs.Pairwise apart
theorem CmS.keep {Hst : Heap} {B mb : Nat} {Q : Nat → Prop} {E : List Key2} {G : Nat → Prop} {Ha Hb : Heap} (hm : mb < B) (wa : WF Ha) (hga : GOk B G Ha) (hk : KeepG G Ha Hb) (h : CmS Hst B mb Q E G Ha) : CmS Hst B mb Q E G Hb := by
  obtain ⟨es, bs, h1, h2, h3⟩ := h.map
  refine ⟨fun b hb hne => by rw [hk.below wa hga.all hga.len hb]; exact h.low b hb hne, es, bs, by rw [hk.below wa hga.all hga.len hm]; exact h1, h2.mono (fun b cs hg hx => hk.2 b _ hg.1 hx hg.1) (fun _ h => h), h3⟩
theorem CmS.step {Hst Hs Hb H' Hf : Heap} {B L mb : Nat} {Q : Nat → Prop} {E : List Key2} {G : Nat → Prop} {c r u : List Int} {es : List (Value × Value)} {bs : List Nat} (hL : L < B) (hmL : mb ≠ L) (hmB : mb < B) (hlen : B ≤ Hs.length) (low : ∀ b, b < B → b ≠ mb → Hs[b]? = Hst[b]?) (hm : Hs[mb]? = some (.map es)) (he : Ents Hs (fun b => G b ∧ Q b) es E bs) (hQ : ∀ b, Hs.length ≤ b → Q b) (hp : bs.Pairwise apart)
    (hbl : Hb.length = Hs.length) (hb : ∀ b, b ≠ L → Hb[b]? = Hs[b]?) (hfl : Hf.length = H'.length) (hf : ∀ b, b ≠ L → Hf[b]? = H'[b]?) (hfL : Hf[L]? = Hs[L]?) (nc : ∀ f o cs, Hs[L]? ≠ some (.cells f o cs)) (hg : ∀ R U, lb r u = some (R, U) → rng5 R = true ∧ rng5 U = true) (h : CmLeaf Hb mb es c r u H') : CmS Hst B mb Q (stepE c r E u) (extG G Hs Hf) Hf ∧ Hs.length ≤ Hf.length ∧ ∀ b, b < Hs.length → b ≠ mb → Hf[b]? = Hs[b]? := by
  have old : Hs.length ≤ H'.length ∧ ∀ b, b < Hs.length → b ≠ mb → H'[b]? = Hb[b]? := by
    rcases h with ⟨_, o⟩ | ⟨_, R, U, bx, _, _, _, _, h1, h2, _⟩
    · exact ⟨by have := o.1; omega, fun b hb _ => o.2 b (by omega)⟩
    · exact ⟨by omega, fun b hb hne => h2 b (by omega) hne⟩
  have st : ∀ b, b < Hs.length → b ≠ mb → Hf[b]? = Hs[b]? := by
    intro b hb1 hne
    by_cases e : b = L
    · rw [e]; exact hfL
    · rw [hf b e, old.2 b hb1 hne, hb b e]
  refine ⟨?_, by rw [hfl]; exact old.1, st⟩
  have he2 : Ents Hf (fun b => extG G Hs Hf b ∧ Q b) es E bs := he.mono (fun b cs _ hx => by
    have hne : b ≠ mb := fun e => by rw [e, hm] at hx; cases hx
    rw [st b (lt_of_blk hx) hne]; exact hx) (fun _ h => ⟨.inl h.1, h.2⟩)
  refine ⟨fun b hb1 hne => by rw [st b (by omega) hne]; exact low b hb1 hne, ?_⟩
  rcases h with ⟨hno, o⟩ | ⟨hq, R, U, bx, hlb, k1, k2, k3, k4, _, k6⟩
  · have e : stepE c r E u = E := by
      unfold stepE
      rcases hno with h | h
      · rw [if_neg h]
      · split
        · rw [h]
        · rfl
    rw [e]
    exact ⟨es, bs, by rw [hf mb hmL, o.2 mb (by omega), hb mb hmL]; exact hm, he2, hp⟩
  · have e : stepE c r E u = insE E (R, U) := by
      unfold stepE
      rw [if_pos hq, hlb]
    rw [e]
    have hx1 : Hf[bx]? = some (.cells bx true (ints R)) := by rw [hf bx (by omega)]; exact k2
    have hx2 : Hf[bx + 1]? = some (.cells (bx + 1) true (ints U)) := by rw [hf (bx + 1) (by omega)]; exact k3
    have hgR := hg R U hlb
    obtain ⟨bs', i1, i2, _⟩ := Ents.ins hgR.1 hgR.2 hx1 hx2 ⟨.inr ⟨by omega, lt_of_blk hx1⟩, hQ _ (by omega)⟩ ⟨.inr ⟨by omega, lt_of_blk hx2⟩, hQ _ (by omega)⟩ he2 hp (fun x hx => by have := he.lt x hx; omega)
    exact ⟨_, bs', by rw [hf mb hmL]; exact k6, i1, i2⟩
theorem lb_rng {r u : List Int} (hr : r ∈ L5) (hu : u ∈ permsP 5) (R U : List Int) (h : lb r u = some (R, U)) : rng5 R = true ∧ rng5 U = true := by
  rcases lab_cases hr hu with ⟨h1, _⟩ | ⟨R', U', F, h1, _, _, h2, h3⟩
  · rw [h1] at h; cases h
  · rw [h1] at h
    injection h with h
    injection h with e1 e2
    subst e1; subst e2
    exact ⟨h2, h3⟩
theorem stepE_row (c r : List Int) (E : List Key2) (us : List (List Int)) (u : List Int) : rowE c r E (us ++ [u]) = stepE c r (rowE c r E us) u := by
  unfold rowE
  rw [List.foldl_append]; rfl
theorem R.lowC {H H' : Heap} {v : Value} {l : List Value} (h : Abs.R H v l) (hk : ∀ (b f : Nat) (o : Bool) (cs : List Value), H[b]? = some (.cells f o cs) → H'[b]? = some (.cells f o cs)) : Abs.R H' v l := by
  rcases h with h | h | ⟨b, o, f, w, cs, h1, hb, h2⟩
  · exact .inl h
  · exact .inr (.inl h)
  · exact .inr (.inr ⟨b, o, f, w, cs, h1, hk _ _ _ _ hb, h2⟩)
theorem QX.lowC {P : Nat → Prop} {H H' : Heap} {v : Value} {x : List Int} (h : QX P H v x) (hk : ∀ (b f : Nat) (o : Bool) (cs : List Value), H[b]? = some (.cells f o cs) → H'[b]? = some (.cells f o cs)) : QX P H' v x := by
  obtain ⟨b, f, h0, h1, h2, h3⟩ := h
  exact ⟨b, f, h0, h1, h2, hk _ _ _ _ h3⟩
theorem in_eatsC {Hst : Heap} {L mb pb bc br fp fc fr nt : Nat} {o1 o2 o3 : Bool} {vc vr : Value} {c r : List Int} {aF : Fr} {es0 : List (Value × Value)} {E0 : List Key2} {Q : Nat → Prop} (hQ : ∀ b, Hst.length ≤ b → Q b) (hL : Hst[L]? = some (.loop .ready none nt aF [33] cmIa cmI)) (hlen : Hst.length = L + 1) (hr : r ∈ L5) (hcl : c.length ≤ 1000)
    (hmb : Hst[mb]? = some (.map es0)) (hpb : Hst[pb]? = some (.cells fp o1 [.map (some mb)])) (hbc : Hst[bc]? = some (.cells fc o2 [vc])) (hbr : Hst[br]? = some (.cells fr o3 [vr])) (rc : Abs.R Hst vc (ints c)) (rr : QX (fun _ => True) Hst vr r) (k1 : aF 1 = ptrA bc 0) (k5 : aF 5 = ptrA pb 0) (k6 : aF 6 = ptrA br 0) :
    Eats (fun n => evB Tryz.prog bC n) 1300 (.func (.yield L) #[] #[]) (L + 1) (fun b => b = mb) (permsP 5) QL (fun G done Hc => CmS Hst (L + 1) mb Q (rowE c r E0 done) G Hc) := by
  have hmlt := lt_of_blk hmb
  have hmL : mb ≠ L := fun e => by rw [e, hL] at hmb; cases hmb
  refine ⟨?_, vEq_yield, scal_yield, fun G done Ha Hb wa wb hga hk h => h.keep (by omega) wa hga hk⟩
  intro n hn G done u rest vs Hs hit hws hgs hi ⟨vu, hvs, _, ru⟩
  subst hvs
  obtain ⟨m, rfl⟩ : ∃ m, n = m + 1 := ⟨n - 1, by omega⟩
  have hum : u ∈ permsP 5 := by rw [hit]; simp
  have hL1 : Hs[L]? = some (.loop .ready none nt aF [33] cmIa cmI) := by rw [hi.low L (by omega) (Ne.symm hmL)]; exact hL
  have hlenS := hgs.len
  obtain ⟨es, bs, hm, hen, hap⟩ := hi.map
  have h1 : ∃ a, evT Tryz.prog (evB Tryz.prog bC m) m nt (some L) DrC cmIa (putAll aF [33] [vu]) Hs = some (.normal, a, Hs) ∧ a 1 = ptrA bc 0 ∧ a 5 = ptrA pb 0 ∧ a 6 = ptrA br 0 ∧ a 7 = vu := by
    rw [show cmIa = rfAsg (atC [0, 1, 1, 0] (rfBody (atC [1, 1, 1, 1, 0, 1, 0] ((Tryz.f14.body).getD .skip)))) from rfl]
    simp (disch := omega) only [Tryz.f14, Option.getD_some, atC, rfBody, rfAsg, putAll, es_seq, es_region, es_draw, d0, es_cond, es_block, es_loop, es_skip, es_exit, es_ret, ops_nil, ops_cons, ops_consG, opsV_nil, opsV_cons, opsV_consG, st_move, st_assign, sy_max, sy_min, maxS_vi, minS_vi, sy_pick, pickS_true, pickS_false, st_fun, sy_len uL, sy_addr eL, sy_load aI, sy_store zI, sy_bin, sy_neg, st_not, sy_append eL pI, sy_build1 eL oI, sy_build0 eL nI, sy_slice eL, sy_ext, ext_20, ext_21, sy_make eL yI (by decide), binS_lss, binS_gtr, binS_leq, binS_geq, binS_eql, binS_neq, binS_add, binS_sub, binS_mul, binS_quo, binS_rem, bindO_some, bindF_some, bindX_normal, bindX_exit, bindX_ret, blkX_normal, blkX_exit, blkX_ret, condX_true, condX_false, iteB_true, iteB_false, ev_tmp, ev_const, ev_func, putA, upd_at, Option.map_some, ↓reduceIte, Nat.reduceEqDiff, Nat.zero_add, Int.toNat_natCast, Int.natCast_nonneg, true_and, Nat.mul_one, frOf_0, frOf_1, frOf_2, frOf_3, frOf_4, List.map_cons, List.map_nil, decide_true, decide_false, Bool.not_true, Bool.not_false, yieldO_eq, yO, yV_bool, yV_undef, none_some, some_true, some_false, List.getElem?_cons_zero, List.getElem?_cons_succ, beq_self_eq_true, Bool.false_eq_true, dec00, dec0n, b_ft, b_tf, ↓bindO_some, ↓bindF_some, ↓bindX_normal, ↓bindX_exit, ↓bindX_ret, ↓condX_true, ↓condX_false, ↓iteB_true, ↓iteB_false, reflV_load, reflV_move, reflV_assign, reflV_pick, reflV_bin, reflV_un, reflV_addr, reflV_call, reflV_build, reflV_make, reflV_slice, reflV_extract, reflV_store, vEq_vi, vEq_bool, fin_n, fin_r, res_nil, res_tmp, pack_1, pack_2, pack_3, scal_vi, scal_bool, scal_nil, scal_sl]
    exact ⟨_, rfl, k1, k5, k6, rfl⟩
  obtain ⟨a, ea, a1, a5, a6, a7⟩ := h1
  generalize hHb : Hs.set L (.loop .busy none nt aF [33] cmIa cmI) = Hb
  have hbl : Hb.length = Hs.length := by rw [← hHb]; exact set_len
  have hbn : ∀ b, b ≠ L → Hb[b]? = Hs[b]? := fun b hb => by rw [← hHb]; exact set_ne hb
  have up : ∀ (b f : Nat) (o : Bool) (cs : List Value), Hst[b]? = some (.cells f o cs) → Hb[b]? = some (.cells f o cs) := by
    intro b f o cs h
    have h1 := lt_of_blk h
    have h2 : b ≠ L := fun e => by rw [e, hL] at h; cases h
    have h3 : b ≠ mb := fun e => by rw [e, hmb] at h; cases h
    rw [hbn b h2, hi.low b (by omega) h3]; exact h
  have ru2 : QX (fun _ => True) Hb vu u := by
    obtain ⟨b, f, h0, _, _, h3⟩ := ru
    refine ⟨b, f, h0, trivial, trivial, ?_⟩
    rw [hbn b fun e => by rw [e, hL1] at h3; cases h3]; exact h3
  have wfb : WF Hb := by rw [← hHb]; exact hws.set loop_nc
  obtain ⟨a', H', e2, wf', hleaf⟩ := cm_leaf (mb := mb) (es := es) wfb hr hum hcl (rr.lowC up) ru2 (R.lowC rc up) (up _ _ _ _ hbr) (up _ _ _ _ hbc) (up _ _ _ _ hpb) (by rw [hbn mb hmL]; exact hm) hen.kinds m nt m (some L) (by omega) a1 a5 a6 a7
  have hLb : Hb[L]? = some (.loop .busy none nt aF [33] cmIa cmI) := by rw [← hHb]; exact set_eq hL1
  have hLlt : L < Hb.length := lt_of_blk hLb
  have hL2 : H'[L]? = some (.loop .busy none nt aF [33] cmIa cmI) := by
    rcases hleaf with ⟨_, o⟩ | ⟨_, R, U, bx, _, _, _, _, _, h2, _⟩
    · rw [o.2 L hLlt]; exact hLb
    · rw [h2 L hLlt (Ne.symm hmL)]; exact hLb
  have hrun := yield_run (P := Tryz.prog) (call := evB Tryz.prog bC m) (n := m) (D := DrC) (args := [vu]) hL1 rfl (by kernel_rfl) (by kernel_rfl) ea hL1 (by rw [hHb]; exact e2) hL2
  obtain ⟨s1, s2, s3⟩ := CmS.step (Hst := Hst) (Hf := H'.set L (.loop .ready none nt aF [33] cmIa cmI)) (B := L + 1) (L := L) (by omega) hmL (by omega) hlenS hi.low hm hen (fun b hb => hQ b (by omega)) hap hbl hbn set_len (fun b hb => set_ne hb) (by rw [set_eq hL2, hL1]) (fun f o cs h => by rw [hL1] at h; cases h) (lb_rng hr hum) hleaf
  refine ⟨H'.set L (.loop .ready none nt aF [33] cmIa cmI), evB_yield.trans hrun, wf'.set loop_nc, ⟨s2, fun b x hb hx _ => ?_⟩, fun b hb hne => s3 b (by omega) hne, ?_⟩
  · rw [s3 b (lt_of_blk hx) fun e => hb (e ▸ hgs.all mb (by omega))]; exact hx
  · rw [stepE_row]; exact s1
end Go.Proofs.YtkedcelpadiakaaGreat
namespace Go.Proofs.YtkedcelpadiakaaGreat
open Go Go.Abs Go.Num
set_option maxRecDepth 10000
attribute [local congr] bindO_congr bindF_congr bindX_congr condX_congr iteB_congr binS_congr pickS_congr eqB_congr nilS_congr clsW_congr maxS_congr minS_congr
theorem iLz : zeroT Tryz.prog 22 = some (.slice none 0 0) := by kernel_rfl
noncomputable def stepA5 (c : List Int) (E : List Key2) (r : List Int) : List Key2 := if L5.contains r then rowE c r E (permsP 5) else E
noncomputable def allE (c : List Int) (E : List Key2) (rs : List (List Int)) : List Key2 := rs.foldl (stepA5 c) E
theorem allE_snoc (c : List Int) (E : List Key2) (rs : List (List Int)) (r : List Int) : allE c E (rs ++ [r]) = stepA5 c (allE c E rs) r := by
  unfold allE
  rw [List.foldl_append]; rfl
theorem out_eatsC {Hst : Heap} {L mb pb bc fp fc nt : Nat} {o1 o2 : Bool} {vc : Value} {c : List Int} {aO : Fr} {es0 : List (Value × Value)} (hL : Hst[L]? = some (.loop .ready none nt aO [26] cmOa cmO)) (hlen : Hst.length = L + 1) (hsm : Sm c) (hcs : c.sum = 5) (hcl : c.length ≤ 1000)
    (hmb : Hst[mb]? = some (.map es0)) (hpb : Hst[pb]? = some (.cells fp o1 [.map (some mb)])) (hbc : Hst[bc]? = some (.cells fc o2 [vc])) (rc : Abs.R Hst vc (ints c)) (k1 : aO 1 = ptrA bc 0) (k5 : aO 5 = ptrA pb 0) :
    Eats (fun n => evB Tryz.prog bC n) 3000 (.func (.yield L) #[] #[]) (L + 1) (fun b => b = mb) (permsP 5) QL (fun G done Hc => CmS Hst (L + 1) mb (fun _ => True) (allE c [] done) G Hc) := by
  have hmlt := lt_of_blk hmb
  have hmL : mb ≠ L := fun e => by rw [e, hL] at hmb; cases hmb
  refine ⟨?_, vEq_yield, scal_yield, fun G done Ha Hb wa wb hga hk h => h.keep (by omega) wa hga hk⟩
  intro n hn G done r rest vs Hs hit hws hgs hi ⟨vr, hvs, _, rr⟩
  subst hvs
  obtain ⟨m, rfl⟩ : ∃ m, n = m + 1 := ⟨n - 1, by omega⟩
  have hrm : r ∈ permsP 5 := by rw [hit]; simp
  have hL1 : Hs[L]? = some (.loop .ready none nt aO [26] cmOa cmO) := by rw [hi.low L (by omega) (Ne.symm hmL)]; exact hL
  have hlenS := hgs.len
  have hLs := lt_of_blk hL1
  obtain ⟨es, bs, hm, hen, hap⟩ := hi.map
  -- the parameter's box
  have h1 : ∃ a, evT Tryz.prog (evB Tryz.prog bC m) m nt (some L) DrC cmOa (putAll aO [26] [vr]) Hs = some (.normal, a, Hs ++ [.cells Hs.length true [vr]]) ∧ a 1 = ptrA bc 0 ∧ a 5 = ptrA pb 0 ∧ a 6 = ptrA Hs.length 0 := by
    rw [show cmOa = rfAsg (atC [1, 1, 1, 1, 0, 1, 0] ((Tryz.f14.body).getD .skip)) from rfl]
    have sf := fresh_box (x := .slice none 0 0) hws rr.sc
    simp (disch := omega) only [Tryz.f14, Option.getD_some, atC, rfBody, rfAsg, putAll, es_seq, es_region, es_draw, d0, es_cond, es_block, es_loop, es_skip, es_exit, es_ret, ops_nil, ops_cons, ops_consG, opsV_nil, opsV_cons, opsV_consG, st_move, st_assign, sy_max, sy_min, maxS_vi, minS_vi, sy_pick, pickS_true, pickS_false, st_fun, sy_len uL, sy_addr eL, sy_load aI, sy_store zI, sy_bin, sy_neg, st_not, sy_append eL pI, sy_build1 eL oI, sy_build0 eL nI, sy_slice eL, sy_ext, ext_20, ext_21, sy_make eL yI (by decide), binS_lss, binS_gtr, binS_leq, binS_geq, binS_eql, binS_neq, binS_add, binS_sub, binS_mul, binS_quo, binS_rem, bindO_some, bindF_some, bindX_normal, bindX_exit, bindX_ret, blkX_normal, blkX_exit, blkX_ret, condX_true, condX_false, iteB_true, iteB_false, ev_tmp, ev_const, ev_func, putA, upd_at, Option.map_some, ↓reduceIte, Nat.reduceEqDiff, Nat.zero_add, Int.toNat_natCast, Int.natCast_nonneg, true_and, Nat.mul_one, frOf_0, frOf_1, frOf_2, frOf_3, frOf_4, List.map_cons, List.map_nil, decide_true, decide_false, Bool.not_true, Bool.not_false, yieldO_eq, yO, yV_bool, yV_undef, none_some, some_true, some_false, List.getElem?_cons_zero, List.getElem?_cons_succ, beq_self_eq_true, Bool.false_eq_true, dec00, dec0n, b_ft, b_tf, ↓bindO_some, ↓bindF_some, ↓bindX_normal, ↓bindX_exit, ↓bindX_ret, ↓condX_true, ↓condX_false, ↓iteB_true, ↓iteB_false, reflV_load, reflV_move, reflV_assign, reflV_pick, reflV_bin, reflV_un, reflV_addr, reflV_call, reflV_build, reflV_make, reflV_slice, reflV_extract, reflV_store, vEq_vi, vEq_bool, fin_n, fin_r, res_nil, res_tmp, pack_1, pack_2, pack_3, scal_vi, scal_bool, scal_nil, scal_sl, sy_load aL, sy_load aB, sy_store zL, sy_store zB, sy_faddr fW0, sy_faddr fW1, sy_loadN aW zW, sy_storeN zW, sy_alloc iW scal_agg, sy_box, sy_build, bW0, sy_eq qB, sy_ne nB, eqB_bool, reflV_loadN, reflV_buildS, reflV_box, reflV_alloc, reflV_faddr, reflV_field, res_cell aW zW, scal_agg, Bool.false_xor, Bool.true_xor, sy_alloc iLz scal_nil, sf]
    exact ⟨_, rfl, k1, k5, rfl⟩
  obtain ⟨a, ea, a1, a5, a6⟩ := h1
  have wfa := hws.app (Nat.le_refl Hs.length) (o := true) (cs := [vr])
  have hla : (Hs ++ [Blk.cells Hs.length true [vr]]).length = Hs.length + 1 := by simp
  have hbra : (Hs ++ [Blk.cells Hs.length true [vr]])[Hs.length]? = some (.cells Hs.length true [vr]) := app_at
  have olda := Old.app Hs [.cells Hs.length true [vr]]
  have hl2a : (Hs ++ [Blk.cells Hs.length true [vr]])[L]? = some (.loop .ready none nt aO [26] cmOa cmO) := by rw [app_lt hLs]; exact hL1
  generalize hHa : Hs ++ [Blk.cells Hs.length true [vr]] = Ha at *
  -- busy
  have wfb : WF (Ha.set L (.loop .busy none nt aO [26] cmOa cmO)) := wfa.set loop_nc
  have hlb : (Ha.set L (.loop .busy none nt aO [26] cmOa cmO)).length = Hs.length + 1 := by rw [set_len, hla]
  have hl2b : (Ha.set L (.loop .busy none nt aO [26] cmOa cmO))[L]? = some (.loop .busy none nt aO [26] cmOa cmO) := set_eq hl2a
  have hb : ∀ {b : Nat}, b < Hs.length → b ≠ L → (Ha.set L (.loop .busy none nt aO [26] cmOa cmO))[b]? = Hs[b]? := fun h h2 => by rw [set_ne h2, olda.2 _ h]
  have hbrb : (Ha.set L (.loop .busy none nt aO [26] cmOa cmO))[Hs.length]? = some (.cells Hs.length true [vr]) := by rw [set_ne (by omega)]; exact hbra
  generalize hHb : Ha.set L (.loop .busy none nt aO [26] cmOa cmO) = Hb at *
  have up : ∀ (b f : Nat) (o : Bool) (cs : List Value), Hst[b]? = some (.cells f o cs) → Hb[b]? = some (.cells f o cs) := by
    intro b f o cs h
    have h1 := lt_of_blk h
    have h2 : b ≠ L := fun e => by rw [e, hL] at h; cases h
    have h3 : b ≠ mb := fun e => by rw [e, hmb] at h; cases h
    rw [hb (by omega) h2, hi.low b (by omega) h3]; exact h
  have rrb : QX (fun _ => True) Hb vr r := by
    obtain ⟨b, f, h0, _, _, h3⟩ := rr
    refine ⟨b, f, h0, trivial, trivial, ?_⟩
    rw [hb (lt_of_blk h3) fun e => by rw [e, hL1] at h3; cases h3]; exact h3
  have l6 := load_box hbrb
  have l1 := load_box (up _ _ _ _ hbc)
  have s0 := least_run rrb hrm m
  rw [List.append_nil] at s0
  have s1 := csize_run (R.lowC rc up) hsm m (by omega)
  rw [hcs] at s1
  have cmO_eq : cmO = rfBody (atC [1, 1, 1, 1, 0, 1, 0] ((Tryz.f14.body).getD .skip)) := rfl
  have hmHb : Hb[mb]? = some (.map es) := by rw [hb (by omega) hmL]; exact hm
  cases hlr : L5.contains r with
  | false =>
    rw [hlr] at s0
    have h2 : ∃ a', evT Tryz.prog (evB Tryz.prog bC m) m nt (some L) DrC cmO a Hb = some (.normal, a', Hb) := by
      rw [cmO_eq]
      simp only [Tryz.f14, Option.getD_some, atC, rfBody]
      simp (disch := omega) only [es_seq, es_region, es_draw, d0, es_cond, es_block, es_loop, es_skip, es_exit, es_ret, ops_nil, ops_cons, ops_consG, opsV_nil, opsV_cons, opsV_consG, st_move, st_assign, sy_max, sy_min, maxS_vi, minS_vi, sy_pick, pickS_true, pickS_false, st_fun, sy_len uL, sy_addr eL, sy_load aI, sy_store zI, sy_bin, sy_neg, st_not, sy_append eL pI, sy_build1 eL oI, sy_build0 eL nI, sy_slice eL, sy_ext, ext_20, ext_21, sy_make eL yI (by decide), binS_lss, binS_gtr, binS_leq, binS_geq, binS_eql, binS_neq, binS_add, binS_sub, binS_mul, binS_quo, binS_rem, bindO_some, bindF_some, bindX_normal, bindX_exit, bindX_ret, blkX_normal, blkX_exit, blkX_ret, condX_true, condX_false, iteB_true, iteB_false, ev_tmp, ev_const, ev_func, putA, upd_at, Option.map_some, ↓reduceIte, Nat.reduceEqDiff, Nat.zero_add, Int.toNat_natCast, Int.natCast_nonneg, true_and, Nat.mul_one, frOf_0, frOf_1, frOf_2, frOf_3, frOf_4, List.map_cons, List.map_nil, decide_true, decide_false, Bool.not_true, Bool.not_false, yieldO_eq, yO, yV_bool, yV_undef, none_some, some_true, some_false, List.getElem?_cons_zero, List.getElem?_cons_succ, beq_self_eq_true, Bool.false_eq_true, dec00, dec0n, b_ft, b_tf, ↓bindO_some, ↓bindF_some, ↓bindX_normal, ↓bindX_exit, ↓bindX_ret, ↓condX_true, ↓condX_false, ↓iteB_true, ↓iteB_false, reflV_load, reflV_move, reflV_assign, reflV_pick, reflV_bin, reflV_un, reflV_addr, reflV_call, reflV_build, reflV_make, reflV_slice, reflV_extract, reflV_store, vEq_vi, vEq_bool, fin_n, fin_r, res_nil, res_tmp, pack_1, pack_2, pack_3, scal_vi, scal_bool, scal_nil, scal_sl, sy_load aL, sy_load aB, sy_store zL, sy_store zB, sy_faddr fW0, sy_faddr fW1, sy_loadN aW zW, sy_storeN zW, sy_alloc iW scal_agg, sy_box, sy_build, bW0, sy_eq qB, sy_ne nB, eqB_bool, reflV_loadN, reflV_buildS, reflV_box, reflV_alloc, reflV_faddr, reflV_field, res_cell aW zW, scal_agg, Bool.false_xor, Bool.true_xor, a6, l6, s0]
      exact ⟨_, rfl⟩
    obtain ⟨a', e2⟩ := h2
    have hrun := yield_run (P := Tryz.prog) (call := evB Tryz.prog bC m) (n := m) (D := DrC) (args := [vr]) hL1 rfl (by kernel_rfl) (by kernel_rfl) ea hl2a (by rw [hHb]; exact e2) hl2b
    have st : ∀ b, b < Hs.length → (Hb.set L (.loop .ready none nt aO [26] cmOa cmO))[b]? = Hs[b]? := by
      intro b hb1
      by_cases e : b = L
      · rw [e, set_eq hl2b, hL1]
      · rw [set_ne e, hb hb1 e]
    refine ⟨Hb.set L (.loop .ready none nt aO [26] cmOa cmO), evB_yield.trans hrun, wfb.set loop_nc, ⟨by rw [set_len, hlb]; omega, fun b x _ hx _ => by rw [st b (lt_of_blk hx)]; exact hx⟩, fun b hb1 _ => st b (by omega), ?_⟩
    rw [allE_snoc]
    have e : stepA5 c (allE c [] done) r = allE c [] done := by unfold stepA5; rw [hlr]; rfl
    rw [e]
    exact ⟨fun b hb1 hne => by rw [st b (by omega)]; exact hi.low b hb1 hne, es, bs, by rw [st mb (by omega)]; exact hm, hen.mono (fun b cs _ hx => by rw [st b (lt_of_blk hx)]; exact hx) (fun _ h => ⟨.inl h.1, h.2⟩), hap⟩
  | true =>
    rw [hlr] at s0
    have hr5 : r ∈ L5 := by simpa using hlr
    have s2 := perms_run (H := Hb) (N := 5) m (by omega)
    have wfc := wfb.app (Nat.le_refl Hb.length) (o := true) (cs := [vi 5])
    have hlc : (Hb ++ [Blk.cells Hb.length true [vi 5]]).length = Hs.length + 2 := by simp; omega
    have oldc := Old.app Hb [.cells Hb.length true [vi 5]]
    have hb3 : (Hb ++ [Blk.cells Hb.length true [vi 5]])[Hb.length]? = some (.cells Hb.length true [vi 5]) := app_at
    have s2' : evB Tryz.prog bC m (.func (.func 45) #[] #[]) [vi 5] Hb = _ := s2
    generalize hHc : Hb ++ [Blk.cells Hb.length true [vi 5]] = Hc at *
    have cb : ∀ {b : Nat} {x : Blk}, Hb[b]? = some x → Hc[b]? = some x := fun h => by rw [oldc.2 _ (lt_of_blk h)]; exact h
    have key : ∀ aR : Fr, aR 1 = ptrA bc 0 → aR 5 = ptrA pb 0 → aR 6 = ptrA Hs.length 0 → aR 32 = .func (.func 97) #[] #[ptrA Hb.length 0] →
        ∃ G3 H3, evT Tryz.prog (evB Tryz.prog bC m) m nt (some L) DrC (.rangeFunc (.tmp 32) #[33] cmIa cmI) aR Hc = some (.normal, aR, H3.set Hc.length .dead) ∧ WF H3 ∧ GOk (Hc.length + 1) G3 H3 ∧ (∀ b, b < Hc.length → b ≠ mb → H3[b]? = Hc[b]?) ∧
          CmS (Hc ++ [.loop .ready none nt aR [33] cmIa cmI]) (Hc.length + 1) mb (fun b => G b ∨ Hs.length ≤ b) (rowE c r (allE c [] done) (permsP 5)) G3 H3 := by
      intro aR q1 q5 q6 q32
      have al : ∀ {b : Nat} {x : Blk}, Hb[b]? = some x → (Hc ++ [Blk.loop .ready none nt aR [33] cmIa cmI])[b]? = some x := fun h => by rw [app_lt (lt_of_blk (cb h))]; exact cb h
      have hfeed := perms_feeds (H := Hc ++ [.loop .ready none nt aR [33] cmIa cmI]) (bn := Hb.length) (fn := Hb.length) (N := 5) (o := true) wfc.loop (by omega) (by rw [app_lt (by omega)]; exact hb3)
      rw [← q32] at hfeed
      have hin := in_eatsC (Hst := Hc ++ [.loop .ready none nt aR [33] cmIa cmI]) (L := Hc.length) (nt := nt) (c := c) (r := r) (E0 := allE c [] done) (Q := fun b => G b ∨ Hs.length ≤ b) (fun b hb => .inr (by rw [app_len] at hb; omega)) app_at app_len hr5 hcl (al hmHb) (al (up _ _ _ _ hpb)) (al (up _ _ _ _ hbc)) (al hbrb) (R.lowC (R.lowC rc up) fun _ _ _ _ h => al h) (rrb.lowC fun _ _ _ _ h => al h) q1 q5 q6
      have hr := feeds_range (k := m) (nt := nt) (rd := some L) (Dr := DrC) (P := Tryz.prog) (f := .tmp 32) (params := #[33]) (assign := cmIa) (body := cmI) (a := aR) (H := Hc) (n := m) (D := 100) (F := 1300) hfeed (fun b h => h.elim) (by omega) hin ?_ (by omega) ?_
      · obtain ⟨G3, H3, e, wf3, gk3, lw, hG⟩ := hr
        exact ⟨G3, H3, e, wf3, gk3, lw, hG⟩
      · refine ⟨fun _ _ _ => rfl, es, bs, al hmHb, hen.mono (fun b cs hg hx => al ?_) (fun b hg => ⟨?_, .inl hg.1⟩), hap⟩
        · rw [hb (lt_of_blk hx) fun e => by rw [e, hL1] at hx; cases hx]; exact hx
        · have := hgs.lt b hg.1
          show b < Hc.length + 1; omega
      · show rdOk Hc (some L) = true
        unfold rdOk
        simp only [cb hl2b]
    have h2 : ∃ a' G3 H3 aR, evT Tryz.prog (evB Tryz.prog bC m) m nt (some L) DrC cmO a Hb = some (.normal, a', H3.set Hc.length .dead) ∧ WF H3 ∧ GOk (Hc.length + 1) G3 H3 ∧ (∀ b, b < Hc.length → b ≠ mb → H3[b]? = Hc[b]?) ∧
          CmS (Hc ++ [.loop .ready none nt aR [33] cmIa cmI]) (Hc.length + 1) mb (fun b => G b ∨ Hs.length ≤ b) (rowE c r (allE c [] done) (permsP 5)) G3 H3 := by
      rw [show cmI = rfBody (atC [0, 1, 1, 0] (rfBody (atC [1, 1, 1, 1, 0, 1, 0] ((Tryz.f14.body).getD .skip)))) from rfl, show cmIa = rfAsg (atC [0, 1, 1, 0] (rfBody (atC [1, 1, 1, 1, 0, 1, 0] ((Tryz.f14.body).getD .skip)))) from rfl] at key ⊢
      rw [cmO_eq]
      simp only [Tryz.f14, Option.getD_some, atC, rfBody, rfAsg] at key ⊢
      simp (disch := omega) only [es_seq, es_region, es_draw, d0, es_cond, es_block, es_loop, es_skip, es_exit, es_ret, ops_nil, ops_cons, ops_consG, opsV_nil, opsV_cons, opsV_consG, st_move, st_assign, sy_max, sy_min, maxS_vi, minS_vi, sy_pick, pickS_true, pickS_false, st_fun, sy_len uL, sy_addr eL, sy_load aI, sy_store zI, sy_bin, sy_neg, st_not, sy_append eL pI, sy_build1 eL oI, sy_build0 eL nI, sy_slice eL, sy_ext, ext_20, ext_21, sy_make eL yI (by decide), binS_lss, binS_gtr, binS_leq, binS_geq, binS_eql, binS_neq, binS_add, binS_sub, binS_mul, binS_quo, binS_rem, bindO_some, bindF_some, bindX_normal, bindX_exit, bindX_ret, blkX_normal, blkX_exit, blkX_ret, condX_true, condX_false, iteB_true, iteB_false, ev_tmp, ev_const, ev_func, putA, upd_at, Option.map_some, ↓reduceIte, Nat.reduceEqDiff, Nat.zero_add, Int.toNat_natCast, Int.natCast_nonneg, true_and, Nat.mul_one, frOf_0, frOf_1, frOf_2, frOf_3, frOf_4, List.map_cons, List.map_nil, decide_true, decide_false, Bool.not_true, Bool.not_false, yieldO_eq, yO, yV_bool, yV_undef, none_some, some_true, some_false, List.getElem?_cons_zero, List.getElem?_cons_succ, beq_self_eq_true, Bool.false_eq_true, dec00, dec0n, b_ft, b_tf, ↓bindO_some, ↓bindF_some, ↓bindX_normal, ↓bindX_exit, ↓bindX_ret, ↓condX_true, ↓condX_false, ↓iteB_true, ↓iteB_false, reflV_load, reflV_move, reflV_assign, reflV_pick, reflV_bin, reflV_un, reflV_addr, reflV_call, reflV_build, reflV_make, reflV_slice, reflV_extract, reflV_store, vEq_vi, vEq_bool, fin_n, fin_r, res_nil, res_tmp, pack_1, pack_2, pack_3, scal_vi, scal_bool, scal_nil, scal_sl, sy_load aL, sy_load aB, sy_store zL, sy_store zB, sy_faddr fW0, sy_faddr fW1, sy_loadN aW zW, sy_storeN zW, sy_alloc iW scal_agg, sy_box, sy_build, bW0, sy_eq qB, sy_ne nB, eqB_bool, reflV_loadN, reflV_buildS, reflV_box, reflV_alloc, reflV_faddr, reflV_field, res_cell aW zW, scal_agg, Bool.false_xor, Bool.true_xor, a1, a6, l1, l6, s0, s1, s2', hHc]
      generalize hR : upd _ 32 _ = aR
      obtain ⟨G3, H3, e, wf3, gk3, lw, hin⟩ := key aR (by subst hR; exact a1) (by subst hR; exact a5) (by subst hR; exact a6) (by subst hR; rfl)
      rw [e]
      simp (disch := omega) only [es_seq, es_region, es_draw, d0, es_cond, es_block, es_loop, es_skip, es_exit, es_ret, ops_nil, ops_cons, ops_consG, opsV_nil, opsV_cons, opsV_consG, st_move, st_assign, sy_max, sy_min, maxS_vi, minS_vi, sy_pick, pickS_true, pickS_false, st_fun, sy_len uL, sy_addr eL, sy_load aI, sy_store zI, sy_bin, sy_neg, st_not, sy_append eL pI, sy_build1 eL oI, sy_build0 eL nI, sy_slice eL, sy_ext, ext_20, ext_21, sy_make eL yI (by decide), binS_lss, binS_gtr, binS_leq, binS_geq, binS_eql, binS_neq, binS_add, binS_sub, binS_mul, binS_quo, binS_rem, bindO_some, bindF_some, bindX_normal, bindX_exit, bindX_ret, blkX_normal, blkX_exit, blkX_ret, condX_true, condX_false, iteB_true, iteB_false, ev_tmp, ev_const, ev_func, putA, upd_at, Option.map_some, ↓reduceIte, Nat.reduceEqDiff, Nat.zero_add, Int.toNat_natCast, Int.natCast_nonneg, true_and, Nat.mul_one, frOf_0, frOf_1, frOf_2, frOf_3, frOf_4, List.map_cons, List.map_nil, decide_true, decide_false, Bool.not_true, Bool.not_false, yieldO_eq, yO, yV_bool, yV_undef, none_some, some_true, some_false, List.getElem?_cons_zero, List.getElem?_cons_succ, beq_self_eq_true, Bool.false_eq_true, dec00, dec0n, b_ft, b_tf, ↓bindO_some, ↓bindF_some, ↓bindX_normal, ↓bindX_exit, ↓bindX_ret, ↓condX_true, ↓condX_false, ↓iteB_true, ↓iteB_false, reflV_load, reflV_move, reflV_assign, reflV_pick, reflV_bin, reflV_un, reflV_addr, reflV_call, reflV_build, reflV_make, reflV_slice, reflV_extract, reflV_store, vEq_vi, vEq_bool, fin_n, fin_r, res_nil, res_tmp, pack_1, pack_2, pack_3, scal_vi, scal_bool, scal_nil, scal_sl]
      exact ⟨_, G3, H3, aR, rfl, wf3, gk3, lw, hin⟩
    obtain ⟨a', G3, H3, aR, e2, wf3, gk3, lw, hin⟩ := h2
    obtain ⟨es', bs', hm', hen', hap'⟩ := hin.map
    have hc3 := gk3.len
    have wfd : WF (H3.set Hc.length .dead) := wf3.set (fun _ _ _ h => by cases h)
    have hLd : (H3.set Hc.length .dead)[L]? = some (.loop .busy none nt aO [26] cmOa cmO) := by rw [set_ne (by omega), lw L (by omega) (Ne.symm hmL)]; exact cb hl2b
    have hrun := yield_run (P := Tryz.prog) (call := evB Tryz.prog bC m) (n := m) (D := DrC) (args := [vr]) hL1 rfl (by kernel_rfl) (by kernel_rfl) ea hl2a (by rw [hHb]; exact e2) hLd
    have st : ∀ b, b < Hs.length → b ≠ mb → ((H3.set Hc.length .dead).set L (.loop .ready none nt aO [26] cmOa cmO))[b]? = Hs[b]? := by
      intro b hb1 hne
      by_cases e : b = L
      · rw [e, set_eq hLd, hL1]
      · rw [set_ne e, set_ne (by omega), lw b (by omega) hne, oldc.2 b (by omega), hb hb1 e]
    refine ⟨(H3.set Hc.length .dead).set L (.loop .ready none nt aO [26] cmOa cmO), evB_yield.trans hrun, wfd.set loop_nc, ⟨by rw [set_len, set_len]; omega, fun b x hg hx _ => ?_⟩, fun b hb1 hne => st b (by omega) hne, ?_⟩
    · rw [st b (lt_of_blk hx) fun e => hg (e ▸ hgs.all mb (by omega))]; exact hx
    · rw [allE_snoc]
      have e : stepA5 c (allE c [] done) r = rowE c r (allE c [] done) (permsP 5) := by unfold stepA5; rw [hlr]; rfl
      rw [e]
      refine ⟨fun b hb1 hne => by rw [st b (by omega) hne]; exact hi.low b hb1 hne, es', bs', by rw [set_ne hmL, set_ne (by omega)]; exact hm', hen'.mono (fun b cs _ hx => ?_) (fun b h => ⟨?_, trivial⟩), hap'⟩
      · have n1 : b ≠ L := fun e => by
          rw [e, lw L (by omega) (Ne.symm hmL), cb hl2b] at hx; cases hx
        have n2 : b ≠ Hc.length := fun e => by
          rw [e, hin.low Hc.length (by omega) (by omega), app_at] at hx; cases hx
        rw [set_ne n1, set_ne n2]; exact hx
      · rcases h.2 with hg | hg
        · exact .inl hg
        · have := gk3.lt b h.1
          exact .inr ⟨hg, by rw [set_len, set_len]; exact this⟩
end Go.Proofs.YtkedcelpadiakaaGreat
namespace Go.Proofs.YtkedcelpadiakaaGreat
open Go Go.Abs Go.Num
set_option maxRecDepth 10000
attribute [local congr] bindO_congr bindF_congr bindX_congr condX_congr iteB_congr binS_congr pickS_congr eqB_congr nilS_congr clsW_congr maxS_congr minS_congr
def two (b : Nat) : List Nat := [b, b + 1]
theorem ents_pre {H : Heap} {G : Nat → Prop} {acc : List Nat} : ∀ {es : List (Value × Value)} {E : List Key2} {bs : List Nat} {j : Nat}, Ents H G es E bs → acc.drop j = bs.flatMap two →
    ∃ fl, flatE es = some fl ∧ All2 (MS acc) fl (canS j E) ∧ (canB E).length = (bs.flatMap two).length ∧ ∀ (i b : Nat), (bs.flatMap two)[i]? = some b → ∃ l : List Int, H[b]? = some (.cells b true (ints l)) ∧ (canB E)[i]? = some (ints l) := by
  intro es
  induction es with
  | nil =>
    intro E bs j h hd
    cases E <;> cases bs <;> first | exact h.elim | skip
    exact ⟨[], rfl, .nil, rfl, fun i b h => by simp at h⟩
  | cons e es ih =>
    intro E bs j h hd
    cases E with
    | nil => exact h.elim
    | cons k E => cases bs with
      | nil => exact h.elim
      | cons b0 bs =>
        obtain ⟨R, U⟩ := k
        obtain ⟨rfl, h2, h3, _, _, _, _, h8⟩ := h
        have hd0 : acc.drop j = b0 :: (b0 + 1) :: bs.flatMap two := by rw [hd, List.flatMap_cons]; rfl
        have hd2 : acc.drop (j + 2) = bs.flatMap two := by
          have : (acc.drop j).drop 2 = bs.flatMap two := by rw [hd0]; rfl
          rw [List.drop_drop] at this
          exact this
        have g1 : acc[j]? = some b0 := by have := congrArg (fun l : List Nat => l[0]?) hd0; simpa using this
        have g2 : acc[j + 1]? = some (b0 + 1) := by have := congrArg (fun l : List Nat => l[1]?) hd0; simpa using this
        obtain ⟨fl, i1, i2, i3, i4⟩ := ih h8 hd2
        refine ⟨sliceA b0 0 R.length 1 :: sliceA (b0 + 1) 0 U.length 1 :: fl, ?_, .cons (.inr ⟨b0, j, 0, _, 1, rfl, rfl, g1⟩) (.cons (.inr ⟨b0 + 1, j + 1, 0, _, 1, rfl, rfl, g2⟩) i2), ?_, fun i b hb => ?_⟩
        · show (flatE es).map (fun l => sliceA b0 0 R.length 1 :: sliceA (b0 + 1) 0 U.length 1 :: l) = _
          rw [i1]; rfl
        · rw [List.flatMap_cons, canB, List.length_cons, List.length_cons, i3]
          simp [two]
        · rw [List.flatMap_cons] at hb
          match i, hb with
          | 0, hb =>
            have e : b0 = b := by simpa [two] using hb
            subst e
            exact ⟨R, h2, rfl⟩
          | 1, hb =>
            have e : b0 + 1 = b := by simpa [two] using hb
            subst e
            exact ⟨U, h3, rfl⟩
          | i + 2, hb =>
            have hb : (bs.flatMap two)[i]? = some b := by simpa [two] using hb
            obtain ⟨l, k1, k2⟩ := i4 i b hb
            exact ⟨l, k1, by simpa [canB] using k2⟩
theorem two_nodup : ∀ {bs : List Nat}, bs.Pairwise apart → (bs.flatMap two).Nodup := by
  intro bs
  induction bs with
  | nil => intro _; exact .nil
  | cons b bs ih =>
    intro h
    rw [List.pairwise_cons] at h
    have hn : ∀ x ∈ bs.flatMap two, x ≠ b ∧ x ≠ b + 1 := by
      intro x hx
      obtain ⟨y, hy, hxy⟩ := List.mem_flatMap.1 hx
      have := h.1 y hy
      unfold apart at this
      simp only [two, List.mem_cons, List.not_mem_nil, or_false] at hxy
      omega
    rw [List.flatMap_cons]
    show (b :: (b + 1) :: bs.flatMap two).Nodup
    refine List.nodup_cons.2 ⟨fun hm => ?_, List.nodup_cons.2 ⟨fun hm => (hn _ hm).2 rfl, ih h.2⟩⟩
    rcases List.mem_cons.1 hm with h | h
    · omega
    · exact (hn _ h).1 rfl
theorem all_intsC (acc : List Nat) (l : List Int) : All2 (MS acc) (ints l) (ints l) := by
  induction l with
  | nil => exact .nil
  | cons z l ih => exact .cons (.inl ⟨rfl, rfl⟩) ih
theorem WF.mapC {H : Heap} (hw : WF H) {es : List (Value × Value)} : WF (H ++ [.map es]) := by
  intro b f o cs h
  by_cases hlt : b < H.length
  · rw [app_lt hlt] at h; exact hw _ _ _ _ h
  · rw [List.getElem?_append_right (by omega)] at h
    have := (List.getElem?_eq_some_iff.1 h).1
    simp at this
    have e : b - H.length = 0 := by omega
    rw [e] at h
    cases h
theorem iMz : zeroT Tryz.prog 75 = some (.map none) := by kernel_rfl
theorem zMz : sizeT Tryz.prog 75 = some 1 := by kernel_rfl
theorem scal_mp {o : Option Nat} : scal (.map o) = some [.map o] := (rfl)
theorem sy_mkmapO {call : CallF} {a : Fr} {H : Heap} {d : Option Nat} {ty : TypeId} {pos : String} {aft : Array Edge} {g : Option (Nat × Bool)} : stepA Tryz.prog call a ⟨d, .makeMap 75 none, ty, pos, aft, g⟩ H = some (.map (some H.length), H ++ [.map []]) := (rfl)
theorem pre_run {H0 : Heap} {v : Value} {c : List Int} (hw : WF H0) (hv : Abs.R H0 v (ints c)) (hc : chk c = 0) (hs : c.sum = 5) : ∃ a' H' es bs G mb, evT Tryz.prog (evB Tryz.prog bC 5000) 5000 Tryz.f14.ntmps none DrC clsPre (frOf [v]) H0 = some (.normal, a', H') ∧ a' 5 = ptrA (mb + 1) 0 ∧ H'[mb + 1]? = some (.cells (mb + 1) true [.map (some mb)]) ∧ H'[mb]? = some (.map es) ∧ Ents H' G es (allE c [] (permsP 5)) bs ∧ bs.Pairwise apart ∧ WF H' := by
  have hp := chk_part hc
  have hpl := hp.len
  have hsm : Sm c := ⟨by omega, fun x hx => by have := hp.mem x hx; omega⟩
  obtain ⟨n, hn⟩ : ∃ n, n = 5000 := ⟨_, rfl⟩
  rw [← hn]
  have z0 : decide ((0 : Int) = 0) = true := rfl
  have c5 : decide ((6 : Int) < 5) = false := rfl
  -- c's box
  have wf1 := hw.app (Nat.le_refl H0.length) (o := true) (cs := [v])
  have old1 := Old.app H0 [.cells H0.length true [v]]
  have hb1 : (H0 ++ [Blk.cells H0.length true [v]])[H0.length]? = some (.cells H0.length true [v]) := app_at
  have hl1 : (H0 ++ [Blk.cells H0.length true [v]]).length = H0.length + 1 := app_len
  have rc1 := hv.mono old1
  generalize hH1 : H0 ++ [Blk.cells H0.length true [v]] = H1 at *
  have l1 := load_box hb1
  have s0 := ccheck_run rc1 (by omega) n (by omega)
  rw [hc] at s0
  have s1 := csize_run rc1 hsm n (by omega)
  rw [hs] at s1
  -- the map
  have wf2 := WF.mapC wf1 (es := [])
  have old2 := Old.app H1 [.map []]
  have hl2 : (H1 ++ [Blk.map []]).length = H1.length + 1 := app_len
  have hb2 : (H1 ++ [Blk.map []])[H1.length]? = some (.map []) := app_at
  have lm2 : loadS (ptrA H0.length 0) (H1 ++ [Blk.map []]) = some v := load_box (by rw [app_lt (lt_of_blk hb1)]; exact hb1)
  generalize hH2 : H1 ++ [Blk.map []] = H2 at *
  have sf := fresh_box (x := .map none) (c := .map (some H1.length)) wf2 rfl
  have wf3 := wf2.app (Nat.le_refl H2.length) (o := true) (cs := [.map (some H1.length)])
  have old3 := Old.app H2 [.cells H2.length true [.map (some H1.length)]]
  have hl3 : (H2 ++ [Blk.cells H2.length true [.map (some H1.length)]]).length = H2.length + 1 := app_len
  have hb3 : (H2 ++ [Blk.cells H2.length true [.map (some H1.length)]])[H2.length]? = some (.cells H2.length true [.map (some H1.length)]) := app_at
  generalize hH3 : H2 ++ [Blk.cells H2.length true [.map (some H1.length)]] = H3 at *
  have t1 : ∀ {b : Nat} {x : Blk}, H1[b]? = some x → H3[b]? = some x := fun h => by rw [old3.2 _ (by have := lt_of_blk h; omega), old2.2 _ (lt_of_blk h)]; exact h
  have l3 := load_box (t1 hb1)
  have rc3 : Abs.R H3 v (ints c) := R.lowC rc1 fun _ _ _ _ h => t1 h
  have s3 := csize_run rc3 hsm n (by omega)
  rw [hs] at s3
  have s4 := perms_run (H := H3) (N := 5) n (by omega)
  have s4' : evB Tryz.prog bC n (.func (.func 45) #[] #[]) [vi 5] H3 = _ := s4
  have wf4 := wf3.app (Nat.le_refl H3.length) (o := true) (cs := [vi 5])
  have old4 := Old.app H3 [.cells H3.length true [vi 5]]
  have hl4 : (H3 ++ [Blk.cells H3.length true [vi 5]]).length = H3.length + 1 := app_len
  have hb4 : (H3 ++ [Blk.cells H3.length true [vi 5]])[H3.length]? = some (.cells H3.length true [vi 5]) := app_at
  generalize hH4 : H3 ++ [Blk.cells H3.length true [vi 5]] = H4 at *
  have key : ∀ aO : Fr, aO 1 = ptrA H0.length 0 → aO 5 = ptrA H2.length 0 → aO 25 = .func (.func 97) #[] #[ptrA H3.length 0] →
      ∃ G' H', evT Tryz.prog (evB Tryz.prog bC n) n Tryz.f14.ntmps none DrC (.rangeFunc (.tmp 25) #[26] cmOa cmO) aO H4 = some (.normal, aO, H'.set H4.length .dead) ∧ WF H' ∧ (∀ b, b < H4.length → b ≠ H1.length → H'[b]? = H4[b]?) ∧
        CmS (H4 ++ [.loop .ready none Tryz.f14.ntmps aO [26] cmOa cmO]) (H4.length + 1) H1.length (fun _ => True) (allE c [] (permsP 5)) G' H' := by
    intro aO q1 q5 q25
    have al : ∀ {b : Nat} {x : Blk}, H3[b]? = some x → (H4 ++ [Blk.loop .ready none Tryz.f14.ntmps aO [26] cmOa cmO])[b]? = some x := fun h => by rw [app_lt (by have := lt_of_blk h; omega), old4.2 _ (lt_of_blk h)]; exact h
    have hfeed := perms_feeds (H := H4 ++ [.loop .ready none Tryz.f14.ntmps aO [26] cmOa cmO]) (bn := H3.length) (fn := H3.length) (N := 5) (o := true) wf4.loop (by omega) (by rw [app_lt (by omega)]; exact hb4)
    rw [← q25] at hfeed
    have hm3 : H3[H1.length]? = some (.map []) := by rw [old3.2 _ (by omega)]; exact hb2
    have hout := out_eatsC (Hst := H4 ++ [.loop .ready none Tryz.f14.ntmps aO [26] cmOa cmO]) (L := H4.length) (nt := Tryz.f14.ntmps) (c := c) app_at app_len hsm hs (by omega) (al hm3) (al hb3) (al (t1 hb1)) (R.lowC rc3 fun _ _ _ _ h => al h) q1 q5
    have hr := feeds_range (k := n) (nt := Tryz.f14.ntmps) (rd := none) (Dr := DrC) (P := Tryz.prog) (f := .tmp 25) (params := #[26]) (assign := cmOa) (body := cmO) (a := aO) (H := H4) (n := n) (D := 100) (F := 3000) hfeed (fun b h => h.elim) (by omega) hout ?_ (by omega) rfl
    · obtain ⟨G', H', e, wf', gk, lw, hI⟩ := hr
      exact ⟨G', H', e, wf', lw, hI⟩
    · exact ⟨fun _ _ _ => rfl, [], [], al hm3, trivial, .nil⟩
  have h2 : ∃ a' G' H' aO, evT Tryz.prog (evB Tryz.prog bC n) n Tryz.f14.ntmps none DrC clsPre (frOf [v]) H0 = some (.normal, a', H'.set H4.length .dead) ∧ a' 5 = ptrA H2.length 0 ∧ WF H' ∧ (∀ b, b < H4.length → b ≠ H1.length → H'[b]? = H4[b]?) ∧
        CmS (H4 ++ [.loop .ready none Tryz.f14.ntmps aO [26] cmOa cmO]) (H4.length + 1) H1.length (fun _ => True) (allE c [] (permsP 5)) G' H' := by
    rw [show cmO = rfBody (atC [1, 1, 1, 1, 0, 1, 0] ((Tryz.f14.body).getD .skip)) from rfl, show cmOa = rfAsg (atC [1, 1, 1, 1, 0, 1, 0] ((Tryz.f14.body).getD .skip)) from rfl] at key ⊢
    rw [show clsPre = .seq (atC [0] clsB) (.seq (atC [1,0] clsB) (.seq (atC [1,1,0] clsB) (.seq (atC [1,1,1,0] clsB) (.seq (atC [1,1,1,1,0] clsB) (atC [1,1,1,1,1,0] clsB))))) from rfl, show clsB = (Tryz.f14.body).getD .skip from rfl]
    simp only [Tryz.f14, Option.getD_some, atC, rfBody, rfAsg] at key ⊢
    simp (disch := omega) only [es_seq, es_region, es_draw, d0, es_cond, es_block, es_loop, es_skip, es_exit, es_ret, ops_nil, ops_cons, ops_consG, opsV_nil, opsV_cons, opsV_consG, st_move, st_assign, sy_max, sy_min, maxS_vi, minS_vi, sy_pick, pickS_true, pickS_false, st_fun, sy_len uL, sy_addr eL, sy_load aI, sy_store zI, sy_bin, sy_neg, st_not, sy_append eL pI, sy_build1 eL oI, sy_build0 eL nI, sy_slice eL, sy_ext, ext_20, ext_21, sy_make eL yI (by decide), binS_lss, binS_gtr, binS_leq, binS_geq, binS_eql, binS_neq, binS_add, binS_sub, binS_mul, binS_quo, binS_rem, bindO_some, bindF_some, bindX_normal, bindX_exit, bindX_ret, blkX_normal, blkX_exit, blkX_ret, condX_true, condX_false, iteB_true, iteB_false, ev_tmp, ev_const, ev_func, putA, upd_at, Option.map_some, ↓reduceIte, Nat.reduceEqDiff, Nat.zero_add, Int.toNat_natCast, Int.natCast_nonneg, true_and, Nat.mul_one, frOf_0, frOf_1, frOf_2, frOf_3, frOf_4, List.map_cons, List.map_nil, decide_true, decide_false, Bool.not_true, Bool.not_false, yieldO_eq, yO, yV_bool, yV_undef, none_some, some_true, some_false, List.getElem?_cons_zero, List.getElem?_cons_succ, beq_self_eq_true, Bool.false_eq_true, dec00, dec0n, b_ft, b_tf, ↓bindO_some, ↓bindF_some, ↓bindX_normal, ↓bindX_exit, ↓bindX_ret, ↓condX_true, ↓condX_false, ↓iteB_true, ↓iteB_false, reflV_load, reflV_move, reflV_assign, reflV_pick, reflV_bin, reflV_un, reflV_addr, reflV_call, reflV_build, reflV_make, reflV_slice, reflV_extract, reflV_store, vEq_vi, vEq_bool, fin_n, fin_r, res_nil, res_tmp, pack_1, pack_2, pack_3, scal_vi, scal_bool, scal_nil, scal_sl, sy_load aL, sy_load aB, sy_store zL, sy_store zB, sy_faddr fW0, sy_faddr fW1, sy_loadN aW zW, sy_storeN zW, sy_alloc iW scal_agg, sy_box, sy_build, bW0, sy_eq qB, sy_ne nB, eqB_bool, reflV_loadN, reflV_buildS, reflV_box, reflV_alloc, reflV_faddr, reflV_field, res_cell aW zW, scal_agg, Bool.false_xor, Bool.true_xor, sy_alloc iMz scal_mp, sy_mkmapO, sy_store zMz, hv.scal, hH1, l1, s0, z0, s1, c5, hH2, sf, hH3, l3, s3, s4', hH4]
    generalize hA : upd _ 25 _ = aO
    obtain ⟨G', H', e, wf', lw, hI⟩ := key aO (by subst hA; rfl) (by subst hA; rfl) (by subst hA; rfl)
    rw [e]
    simp (disch := omega) only [es_seq, es_region, es_draw, d0, es_cond, es_block, es_loop, es_skip, es_exit, es_ret, ops_nil, ops_cons, ops_consG, opsV_nil, opsV_cons, opsV_consG, st_move, st_assign, sy_max, sy_min, maxS_vi, minS_vi, sy_pick, pickS_true, pickS_false, st_fun, sy_len uL, sy_addr eL, sy_load aI, sy_store zI, sy_bin, sy_neg, st_not, sy_append eL pI, sy_build1 eL oI, sy_build0 eL nI, sy_slice eL, sy_ext, ext_20, ext_21, sy_make eL yI (by decide), binS_lss, binS_gtr, binS_leq, binS_geq, binS_eql, binS_neq, binS_add, binS_sub, binS_mul, binS_quo, binS_rem, bindO_some, bindF_some, bindX_normal, bindX_exit, bindX_ret, blkX_normal, blkX_exit, blkX_ret, condX_true, condX_false, iteB_true, iteB_false, ev_tmp, ev_const, ev_func, putA, upd_at, Option.map_some, ↓reduceIte, Nat.reduceEqDiff, Nat.zero_add, Int.toNat_natCast, Int.natCast_nonneg, true_and, Nat.mul_one, frOf_0, frOf_1, frOf_2, frOf_3, frOf_4, List.map_cons, List.map_nil, decide_true, decide_false, Bool.not_true, Bool.not_false, yieldO_eq, yO, yV_bool, yV_undef, none_some, some_true, some_false, List.getElem?_cons_zero, List.getElem?_cons_succ, beq_self_eq_true, Bool.false_eq_true, dec00, dec0n, b_ft, b_tf, ↓bindO_some, ↓bindF_some, ↓bindX_normal, ↓bindX_exit, ↓bindX_ret, ↓condX_true, ↓condX_false, ↓iteB_true, ↓iteB_false, reflV_load, reflV_move, reflV_assign, reflV_pick, reflV_bin, reflV_un, reflV_addr, reflV_call, reflV_build, reflV_make, reflV_slice, reflV_extract, reflV_store, vEq_vi, vEq_bool, fin_n, fin_r, res_nil, res_tmp, pack_1, pack_2, pack_3, scal_vi, scal_bool, scal_nil, scal_sl, sy_load aL, sy_load aB, sy_store zL, sy_store zB, sy_faddr fW0, sy_faddr fW1, sy_loadN aW zW, sy_storeN zW, sy_alloc iW scal_agg, sy_box, sy_build, bW0, sy_eq qB, sy_ne nB, eqB_bool, reflV_loadN, reflV_buildS, reflV_box, reflV_alloc, reflV_faddr, reflV_field, res_cell aW zW, scal_agg, Bool.false_xor, Bool.true_xor]
    refine ⟨_, G', H', aO, rfl, ?_, wf', lw, hI⟩
    subst hA; rfl
  obtain ⟨a', G', H', aO, e, h5, wf', lw, hI⟩ := h2
  obtain ⟨es, bs, hm, hen, hap⟩ := hI.map
  refine ⟨a', _, es, bs, _, H1.length, e, by rw [h5, ← hl2], ?_, ?_, hen.mono (fun b cs _ hx => ?_) (fun _ h => h), hap, wf'.set (fun _ _ _ h => by cases h)⟩
  · rw [← hl2, set_ne (by omega), lw H2.length (by omega) (by omega), old4.2 _ (by omega)]; exact hb3
  · rw [set_ne (by omega)]; exact hm
  · rw [set_ne fun e => by rw [e, hI.low H4.length (by omega) (by omega), app_at] at hx; cases hx]; exact hx
end Go.Proofs.YtkedcelpadiakaaGreat
namespace Go.Proofs.YtkedcelpadiakaaGreat
open Go Go.Abs Go.Num
theorem ms_int {acc : List Nat} {v : Value} {z : Int} (h : MS acc v (.int .i64 z)) : v = .int .i64 z := by
  rcases h with ⟨_, h⟩ | ⟨b, j, o, n, e, _, h, _⟩
  · exact h.symm
  · cases h
theorem ms_ints {acc : List Nat} : ∀ {cs : List Value} {l : List Int}, All2 (MS acc) cs (l.map (.int .i64)) → cs = l.map (.int .i64) := by
  intro cs l
  induction l generalizing cs with
  | nil => intro h; cases h; rfl
  | cons z l ih =>
    intro h
    cases h with
    | cons h1 h2 => rw [List.map_cons, ← ih h2, ms_int h1]
theorem ms_slice {acc : List Nat} {v : Value} {j n : Nat} (h : MS acc v (.slice (some ⟨j, 0, none⟩) n 1)) : ∃ b, v = .slice (some ⟨b, 0, none⟩) n 1 ∧ acc[j]? = some b := by
  rcases h with ⟨hi, h⟩ | ⟨b, j', o, m, e, h1, h2, h3⟩
  · rw [← h] at hi; simp [immOk] at hi
  · injection h2 with h2 h4 h5
    injection h2 with h2
    injection h2 with h6 h7 _
    subst h6; subst h7; subst h4; subst h5
    exact ⟨b, h1, h3⟩
theorem canB_get : ∀ {E : List Key2} {i : Nat} {r u : List Int}, E[i]? = some (r, u) → (canB E)[2 * i]? = some (r.map (.int .i64)) ∧ (canB E)[2 * i + 1]? = some (u.map (.int .i64)) := by
  intro E
  induction E with
  | nil => intro i r u h; simp at h
  | cons k E ih =>
    intro i r u h
    obtain ⟨r0, u0⟩ := k
    cases i with
    | zero => simp at h; obtain ⟨rfl, rfl⟩ := h; exact ⟨rfl, rfl⟩
    | succ i =>
      have := ih (i := i) (by simpa using h)
      rw [show 2 * (i + 1) = 2 * i + 2 from by omega]
      exact ⟨by simpa [canB] using this.1, by simpa [canB] using this.2⟩
theorem canB_len (E : List Key2) : (canB E).length = 2 * E.length := by
  induction E with
  | nil => rfl
  | cons k E ih => obtain ⟨r, u⟩ := k; simp [canB, ih]; omega
def EntAt (acc : List Nat) (j : Nat) (e : Value × Value) (k : Key2) : Prop :=
  ∃ s bx by', e = (.string s, .agg #[.slice (some ⟨bx, 0, none⟩) k.1.length 1, .slice (some ⟨by', 0, none⟩) k.2.length 1]) ∧ acc[j]? = some bx ∧ acc[j + 1]? = some by'
theorem ents_at {acc : List Nat} : ∀ {es : List (Value × Value)} {fl : List Value} {E : List Key2} {j : Nat}, flatE es = some fl → All2 (MS acc) fl (canS j E) → es.length = E.length ∧ ∀ i e, es[i]? = some e → ∃ k, E[i]? = some k ∧ EntAt acc (j + 2 * i) e k := by
  intro es
  induction es with
  | nil =>
    intro fl E j h hA
    simp [flatE] at h
    subst h
    cases E with
    | nil => exact ⟨rfl, fun i e h => by simp at h⟩
    | cons k E => obtain ⟨r, u⟩ := k; cases hA
  | cons e es ih =>
    intro fl E j h hA
    unfold flatE at h
    split at h
    · rename_i h'; cases h'
    · rename_i s cs r' h'
      injection h' with h1 h2
      subst h1; subst h2
      split at h
      · rename_i a b hab
        cases hr : flatE es with
        | none => rw [hr] at h; cases h
        | some l =>
          rw [hr] at h
          simp only [Option.map_some] at h
          injection h with h
          subst h
          cases E with
          | nil => cases hA
          | cons k E =>
            obtain ⟨r, u⟩ := k
            simp only [canS] at hA
            cases hA with
            | cons m1 hA => cases hA with
              | cons m2 hA =>
                obtain ⟨bx, rfl, q1⟩ := ms_slice m1
                obtain ⟨by', rfl, q2⟩ := ms_slice m2
                obtain ⟨i1, i2⟩ := ih hr hA
                refine ⟨by simp [i1], fun i e he => ?_⟩
                cases i with
                | zero =>
                  simp at he
                  subst he
                  refine ⟨(r, u), rfl, s, bx, by', ?_, q1, q2⟩
                  have : cs = #[.slice (some ⟨bx, 0, none⟩) r.length 1, .slice (some ⟨by', 0, none⟩) u.length 1] := by cases cs; simp at hab; rw [hab]
                  rw [this]
                | succ i =>
                  obtain ⟨k, k1, s', bx', by'', k2, k3, k4⟩ := i2 i e (by simpa using he)
                  exact ⟨k, by simpa using k1, s', bx', by'', k2, by rw [show j + 2 * (i + 1) = j + 2 + 2 * i from by omega]; exact k3, by rw [show j + 2 * (i + 1) = j + 2 + 2 * i from by omega]; exact k4⟩
      · cases h
    · cases h
def blkOf (v : Value) : Nat := match v with
  | .slice (some ⟨b, _, _⟩) _ _ => b
  | _ => 0
def pairE (e : Value × Value) : Value × Value := match e.2 with
  | .agg cs => (cs.toList.getD 0 undef, cs.toList.getD 1 undef)
  | _ => (undef, undef)
def leZ (x y : Key × (Value × Value)) : Bool := !decide (cmpO y.1 x.1 < 0)
def leE (x y : Key) : Bool := !decide (cmpO y x < 0)
def sortE (E : List Key) : List Key := E.mergeSort leE
theorem leE_trans (a b c : Key) (h1 : leE a b = true) (h2 : leE b c = true) : leE a c = true := by
  simp only [leE, Bool.not_eq_true', decide_eq_false_iff_not] at *
  exact cmpO_ord.ntrans _ _ _ h2 h1
theorem leE_total (a b : Key) : (leE a b || leE b a) = true := by
  simp only [leE, Bool.or_eq_true, Bool.not_eq_true', decide_eq_false_iff_not]
  have := cmpO_anti a b
  omega
theorem leE_anti {a b : Key} (h1 : leE a b = true) (h2 : leE b a = true) : a = b := by
  simp only [leE, Bool.not_eq_true', decide_eq_false_iff_not] at *
  exact cmpO_ord.total _ _ h2 h1
theorem sort_perm {l l' : List (Key × (Value × Value))} (hp : l'.Perm l) (hn : (l.map (·.1)).Nodup) : l'.mergeSort leZ = l.mergeSort leZ := by
  have tr : ∀ a b c : Key × (Value × Value), leZ a b = true → leZ b c = true → leZ a c = true := fun a b c => leE_trans a.1 b.1 c.1
  have to : ∀ a b : Key × (Value × Value), (leZ a b || leZ b a) = true := fun a b => leE_total a.1 b.1
  have h1 := List.pairwise_mergeSort (le := leZ) tr to l'
  have h2 := List.pairwise_mergeSort (le := leZ) tr to l
  have hp2 : (l'.mergeSort leZ).Perm (l.mergeSort leZ) := (List.mergeSort_perm l' leZ).trans (hp.trans (List.mergeSort_perm l leZ).symm)
  refine hp2.eq_of_pairwise (fun a b ha hb k1 k2 => ?_) h1 h2
  have hk : a.1 = b.1 := leE_anti k1 k2
  have ha' : a ∈ l := hp.mem_iff.1 ((List.mergeSort_perm l' leZ).mem_iff.1 ha)
  have hb' : b ∈ l := (List.mergeSort_perm l leZ).mem_iff.1 hb
  have inj : ∀ (l : List (Key × (Value × Value))), (l.map (·.1)).Nodup → ∀ x ∈ l, ∀ y ∈ l, x.1 = y.1 → x = y := by
    intro l
    induction l with
    | nil => intro _ x hx; cases hx
    | cons z l ih =>
      intro hn x hx y hy hxy
      rw [List.map_cons, List.nodup_cons] at hn
      rcases List.mem_cons.1 hx with rfl | hx
      · rcases List.mem_cons.1 hy with rfl | hy
        · rfl
        · exact absurd (List.mem_map.2 ⟨y, hy, hxy.symm⟩) hn.1
      · rcases List.mem_cons.1 hy with hz | hy'
        · exact absurd (show z.1 ∈ l.map (·.1) from List.mem_map.2 ⟨x, hx, by rw [hxy, hz]⟩) hn.1
        · exact ih hn.2 x hx y hy' hxy
  exact inj l hn a ha' b hb' hk
theorem pairsOf_flat2 : ∀ ps : List (Value × Value), pairsOf (flat2 ps) = some ps := by
  intro ps
  induction ps with
  | nil => rfl
  | cons p ps ih =>
    show pairsOf (p.1 :: p.2 :: flat2 ps) = _
    simp only [pairsOf, ih, Option.map_some]
theorem mapO_map {α β γ : Type} (f : β → Option γ) (g : α → β) (h : α → γ) : ∀ l : List α, (∀ x ∈ l, f (g x) = some (h x)) → mapO f (l.map g) = some (l.map h) := by
  intro l
  induction l with
  | nil => intro _; rfl
  | cons x l ih =>
    intro hl
    rw [List.map_cons, mapO, hl x (List.mem_cons_self ..), ih fun y hy => hl y (List.mem_cons_of_mem _ hy)]
    rfl
end Go.Proofs.YtkedcelpadiakaaGreat
namespace Go.Proofs.YtkedcelpadiakaaGreat
open Go Go.Abs Go.Num
def ZOK (H : Heap) (z : Key × (Value × Value)) : Prop :=
  ∃ bx by', z.2 = (.slice (some ⟨bx, 0, none⟩) z.1.1.length 1, .slice (some ⟨by', 0, none⟩) z.1.2.length 1) ∧ (∃ f, H[bx]? = some (.cells f true (z.1.1.map (.int .i64)))) ∧ ∃ f, H[by']? = some (.cells f true (z.1.2.map (.int .i64)))
def blk2 (z : Key × (Value × Value)) : List Nat := [blkOf z.2.1, blkOf z.2.2]
def RB (H : Heap) (b c : Nat) : Prop := ∀ (f : Nat) (cs ds : List Value), H[b]? = some (.cells f true cs) → H[c]? = some (.cells f true ds) → False
theorem RB.symm {H : Heap} {b c : Nat} (h : RB H b c) : RB H c b := fun f cs ds h1 h2 => h f ds cs h2 h1
def zsOf (E : List Key2) (es : List (Value × Value)) : List (Key × (Value × Value)) := E.zip (es.map pairE)
theorem zs_blk {acc : List Nat} : ∀ {es : List (Value × Value)} {fl : List Value} {E : List Key2} {j : Nat}, flatE es = some fl → All2 (MS acc) fl (canS j E) → (zsOf E es).flatMap blk2 = (acc.drop j).take (2 * E.length) ∧ (zsOf E es).map (·.1) = E ∧ (zsOf E es).map (·.2) = es.map pairE := by
  intro es fl E
  induction E generalizing es fl with
  | nil =>
    intro j h hA
    obtain ⟨h1, _⟩ := ents_at h hA
    cases es with
    | nil => exact ⟨by simp [zsOf], rfl, rfl⟩
    | cons e es => simp at h1
  | cons k E ih =>
    intro j h hA
    obtain ⟨h1, h2⟩ := ents_at h hA
    cases es with
    | nil => simp at h1
    | cons e es =>
      obtain ⟨k', hk, s, bx, by', he, q1, q2⟩ := h2 0 e rfl
      simp at hk
      subst hk
      subst he
      obtain ⟨r, u⟩ := k
      have h3 : ∃ l, flatE es = some l ∧ fl = .slice (some ⟨bx, 0, none⟩) r.length 1 :: .slice (some ⟨by', 0, none⟩) u.length 1 :: l := by
        simp only [flatE] at h
        cases hf : flatE es with
        | none => rw [hf] at h; cases h
        | some l => rw [hf] at h; injection h with h; exact ⟨l, rfl, h.symm⟩
      obtain ⟨l, h4, rfl⟩ := h3
      simp only [canS] at hA
      cases hA with
      | cons _ hA => cases hA with
        | cons _ hA =>
          obtain ⟨i1, i2, i3⟩ := ih h4 hA
          have e0 : zsOf ((r, u) :: E) ((.string s, .agg #[.slice (some ⟨bx, 0, none⟩) r.length 1, .slice (some ⟨by', 0, none⟩) u.length 1]) :: es) = ((r, u), (.slice (some ⟨bx, 0, none⟩) r.length 1, .slice (some ⟨by', 0, none⟩) u.length 1)) :: zsOf E es := rfl
          simp only at e0 ⊢
          rw [e0]
          refine ⟨?_, by simp only [List.map_cons, i2], by simp only [List.map_cons, i3]; rfl⟩
          rw [List.flatMap_cons, i1]
          simp only [Nat.mul_zero, Nat.add_zero] at q1 q2
          have hj1 : j + 1 < acc.length := (List.getElem?_eq_some_iff.1 q2).1
          have d1 : acc.drop j = bx :: by' :: acc.drop (j + 2) := by
            rw [List.drop_eq_getElem_cons (by omega), List.drop_eq_getElem_cons (i := j + 1) (by omega)]
            rw [(List.getElem?_eq_some_iff.1 q1).2, (List.getElem?_eq_some_iff.1 q2).2]
          rw [d1, List.length_cons, show 2 * (E.length + 1) = 2 * E.length + 1 + 1 from by omega, List.take_succ_cons, List.take_succ_cons]
          rfl
theorem zs_ok {acc : List Nat} {es : List (Value × Value)} {fl : List Value} {E : List Key2} {H : Heap} (h : flatE es = some fl) (hA : All2 (MS acc) fl (canS 0 E))
    (hB : ∀ (j b : Nat), acc[j]? = some b → ∃ f cs c, H[b]? = some (.cells f true cs) ∧ (canB E)[j]? = some c ∧ All2 (MS acc) cs c) : ∀ z ∈ zsOf E es, ZOK H z := by
  intro z hz
  obtain ⟨h1, h2⟩ := ents_at h hA
  obtain ⟨i, hi, rfl⟩ := List.getElem_of_mem hz
  have hl : i < E.length ∧ i < es.length := by simp only [zsOf, List.length_zip, List.length_map] at hi; omega
  have hes : es[i]? = some es[i] := List.getElem?_eq_getElem hl.2
  obtain ⟨k, hk, s, bx, by', he, q1, q2⟩ := h2 i _ hes
  have ez : (zsOf E es)[i] = (k, (.slice (some ⟨bx, 0, none⟩) k.1.length 1, .slice (some ⟨by', 0, none⟩) k.2.length 1)) := by
    simp only [zsOf, List.getElem_zip, List.getElem_map, he]
    rw [(List.getElem?_eq_some_iff.1 hk).2]
    rfl
  rw [ez]
  rw [Nat.zero_add] at q1
  rw [show 0 + 2 * i + 1 = 2 * i + 1 from by omega] at q2
  obtain ⟨f1, cs1, c1, a1, a2, a3⟩ := hB _ _ q1
  obtain ⟨f2, cs2, c2, b1, b2, b3⟩ := hB _ _ q2
  obtain ⟨g1, g2⟩ := canB_get (r := k.1) (u := k.2) hk
  rw [g1] at a2; injection a2 with a2; subst a2
  rw [g2] at b2; injection b2 with b2; subst b2
  rw [ms_ints a3] at a1
  rw [ms_ints b3] at b1
  exact ⟨bx, by', rfl, ⟨f1, a1⟩, f2, b1⟩
theorem flatV_pair : ∀ {es : List (Value × Value)}, (∀ e ∈ es, PeC e) → flatV es = flat2 (es.map pairE) := by
  intro es
  induction es with
  | nil => intro _; rfl
  | cons e es ih =>
    intro h
    obtain ⟨x, y, hx, _⟩ := h e (List.mem_cons_self ..)
    have i := ih fun e he => h e (List.mem_cons_of_mem _ he)
    unfold flatV flat2 at *
    rw [List.flatMap_cons, List.map_cons, List.flatMap_cons, i, hx]
    simp [pairE, hx]
theorem es_pe {acc : List Nat} {es : List (Value × Value)} {fl : List Value} {E : List Key2} (h : flatE es = some fl) (hA : All2 (MS acc) fl (canS 0 E)) : ∀ e ∈ es, PeC e ∧ ∃ s, e.1 = .string s := by
  intro e he
  obtain ⟨i, hi, rfl⟩ := List.getElem_of_mem he
  obtain ⟨k, hk, s, bx, by', q, _, _⟩ := (ents_at h hA).2 i _ (List.getElem?_eq_getElem hi)
  rw [q]
  exact ⟨⟨_, _, rfl, rfl, rfl⟩, s, rfl⟩
theorem good_at {H : Heap} {acc : List Nat} : ∀ {S : List (Key × (Value × Value))} {j : Nat}, (∀ z ∈ S, ZOK H z) → acc.drop j = S.flatMap blk2 →
    All2 (MS acc) (flat2 (S.map (·.2))) (canS j (S.map (·.1))) ∧ (∀ (i b : Nat), (S.flatMap blk2)[i]? = some b → ∃ f c, H[b]? = some (.cells f true c) ∧ (canB (S.map (·.1)))[i]? = some c ∧ ∃ l : List Int, c = l.map (.int .i64)) ∧ (canB (S.map (·.1))).length = (S.flatMap blk2).length := by
  intro S
  induction S with
  | nil => intro j _ _; exact ⟨.nil, fun i b h => by simp at h, rfl⟩
  | cons z S ih =>
    intro j hz hd
    obtain ⟨bx, by', e, ⟨f1, h1⟩, f2, h2⟩ := hz z (List.mem_cons_self ..)
    obtain ⟨⟨r, u⟩, p⟩ := z
    simp only at e h1 h2
    subst e
    have hd0 : acc.drop j = bx :: by' :: S.flatMap blk2 := by rw [hd, List.flatMap_cons]; rfl
    have hd2 : acc.drop (j + 2) = S.flatMap blk2 := by
      have : (acc.drop j).drop 2 = S.flatMap blk2 := by rw [hd0]; rfl
      rw [List.drop_drop] at this
      exact this
    have g1 : acc[j]? = some bx := by have := congrArg (fun l : List Nat => l[0]?) hd0; simpa using this
    have g2 : acc[j + 1]? = some by' := by have := congrArg (fun l : List Nat => l[1]?) hd0; simpa using this
    obtain ⟨i1, i2, i3⟩ := ih (fun z hz' => hz z (List.mem_cons_of_mem _ hz')) hd2
    refine ⟨.cons (.inr ⟨bx, j, 0, _, 1, rfl, rfl, g1⟩) (.cons (.inr ⟨by', j + 1, 0, _, 1, rfl, rfl, g2⟩) i1), fun i b hb => ?_, ?_⟩
    · rw [List.flatMap_cons] at hb
      match i, hb with
      | 0, hb =>
        have e : bx = b := by simpa [blk2, blkOf] using hb
        subst e
        exact ⟨f1, _, h1, rfl, r, rfl⟩
      | 1, hb =>
        have e : by' = b := by simpa [blk2, blkOf] using hb
        subst e
        exact ⟨f2, _, h2, rfl, u, rfl⟩
      | i + 2, hb =>
        have hb : (S.flatMap blk2)[i]? = some b := by simpa [blk2] using hb
        obtain ⟨f, c, k1, k2, k3⟩ := i2 i b hb
        exact ⟨f, c, k1, by simpa [canB] using k2, k3⟩
    · rw [List.flatMap_cons, List.map_cons, canB, List.length_cons, List.length_cons, i3]
      simp [blk2]
theorem all_ints (acc : List Nat) (l : List Int) : All2 (MS acc) (l.map (.int .i64)) (l.map (.int .i64)) := by
  induction l with
  | nil => exact .nil
  | cons z l ih => exact .cons (.inl ⟨rfl, rfl⟩) ih
def clsR (SE : List Key2) : Res := (.tuple #[sliceA 0 0 SE.length 2, vi 0], canS 1 SE :: canB SE)
theorem good_sorted {H : Heap} {b f : Nat} {S : List (Key × (Value × Value))} (hz : ∀ z ∈ S, ZOK H z) (hb : H[b]? = some (.cells f true (flat2 (S.map (·.2))))) (hp : (S.flatMap blk2).Pairwise (RB H)) (hf : ∀ c ∈ S.flatMap blk2, RB H b c) :
    GoodRes (b :: S.flatMap blk2) H (.tuple #[sliceA b 0 S.length 2, vi 0]) (clsR (S.map (·.1))) := by
  obtain ⟨g1, g2, g3⟩ := good_at (acc := b :: S.flatMap blk2) (j := 1) hz rfl
  have hp2 : (b :: S.flatMap blk2).Pairwise (RB H) := List.pairwise_cons.2 ⟨hf, hp⟩
  refine ⟨.inl ⟨_, _, rfl, rfl, .cons (.inr (.inr ⟨b, 0, 0, S.length, 2, rfl, by simp [sliceA], rfl⟩)) (.cons (.inr (.inl ⟨rfl, rfl⟩)) .nil)⟩, by simp only [clsR, List.length_cons, g3], fun j c hj => ?_, fun i j b1 c1 f1 cs ds hij h1 h2 h3 h4 => ?_⟩
  · cases j with
    | zero =>
      simp at hj
      subst hj
      exact ⟨f, _, _, hb, rfl, g1⟩
    | succ j =>
      obtain ⟨f1, c1, k1, k2, l, rfl⟩ := g2 j c (by simpa using hj)
      exact ⟨f1, _, _, k1, by simpa [clsR] using k2, all_ints _ l⟩
  · have key : ∀ (i j b1 c1 : Nat), i < j → (b :: S.flatMap blk2)[i]? = some b1 → (b :: S.flatMap blk2)[j]? = some c1 → RB H b1 c1 := by
      intro i j b1 c1 hlt h1 h2
      obtain ⟨i1, i2⟩ := List.getElem?_eq_some_iff.1 h1
      obtain ⟨j1, j2⟩ := List.getElem?_eq_some_iff.1 h2
      have := List.pairwise_iff_getElem.1 hp2 i j i1 j1 hlt
      rwa [i2, j2] at this
    rcases Nat.lt_or_gt_of_ne hij with h | h
    · exact key i j b1 c1 h h1 h2 f1 cs ds h3 h4
    · exact key j i c1 b1 h h2 h1 f1 ds cs h4 h3
end Go.Proofs.YtkedcelpadiakaaGreat
namespace Go.Proofs.YtkedcelpadiakaaGreat
open Go Go.Abs Go.Num
set_option maxRecDepth 10000
attribute [local congr] bindO_congr bindF_congr bindX_congr condX_congr iteB_congr binS_congr pickS_congr eqB_congr nilS_congr clsW_congr maxS_congr minS_congr
noncomputable def srtKC : CallF := orC (sortKC 50 51 cmpO) (sortN 50)
theorem srtKC_ok : CallOK Tryz.prog srtKC := orC_ok srtK_ok (sortN_ok srtK_ent srtKNone)
theorem srtKC_grow : CallGrow srtKC := orC_grow sortKC_grow sortN_grow
theorem aM : isAggT Tryz.prog 75 = some false := by kernel_rfl
noncomputable abbrev cAt (i : Nat) : Code := atC (List.replicate i 1 ++ [0]) clB
theorem clB_eq : clB = .seq (cAt 0) (.seq (cAt 1) (.seq (cAt 2) (.seq (cAt 3) (.seq (cAt 4) (.seq (cAt 5) (.seq (cAt 6) (.seq (cAt 7) (.seq (cAt 8) .ret)))))))) := by kernel_rfl
theorem ok0 : codeOk Tryz.f14.ntmps (cAt 0) = true := by kernel_rfl
theorem ok1 : codeOk Tryz.f14.ntmps (cAt 1) = true := by kernel_rfl
theorem ok2 : codeOk Tryz.f14.ntmps (cAt 2) = true := by kernel_rfl
theorem ok3 : codeOk Tryz.f14.ntmps (cAt 3) = true := by kernel_rfl
theorem ok4 : codeOk Tryz.f14.ntmps (cAt 4) = true := by kernel_rfl
theorem ok5 : codeOk Tryz.f14.ntmps (cAt 5) = true := by kernel_rfl
theorem ok6 : codeOk Tryz.f14.ntmps (cAt 6) = true := by kernel_rfl
theorem ok7 : codeOk Tryz.f14.ntmps (cAt 7) = true := by kernel_rfl
theorem ok8 : codeOk Tryz.f14.ntmps (cAt 8) = true := by kernel_rfl
theorem cls_ent0 : ∀ args w, (callFunc 14 args).run Tryz.prog w = .ok (.enter 14 args) w := enters_of Tryz.func14 (by kernel_rfl) rfl
theorem c5_run {call : CallF} {n : Nat} {a a' : Fr} {H H' : Heap} (h : evCode Tryz.prog call n Tryz.f14.ntmps none (cAt 5) a H = some (.normal, a', H')) : a' 11 = .slice none 0 0 := by
  have e : evCode Tryz.prog call n Tryz.f14.ntmps none (cAt 5) a H = some (.normal, upd a 11 (.slice none 0 0), H) := by
    rw [evS_eq (D := D0) (cAt 5) (by rfl), show cAt 5 = atC [1,1,1,1,1,0] ((Tryz.f14.body).getD .skip) from rfl]
    simp only [Tryz.f14, Option.getD_some, atC, es_seq, es_region, es_draw, d0, es_cond, es_block, es_loop, es_skip, es_exit, es_ret, ops_nil, ops_cons, ops_consG, opsV_nil, opsV_cons, opsV_consG, st_move, st_assign, sy_max, sy_min, maxS_vi, minS_vi, sy_pick, pickS_true, pickS_false, st_fun, sy_len uL, sy_addr eL, sy_load aI, sy_store zI, sy_bin, sy_neg, st_not, sy_append eL pI, sy_build1 eL oI, sy_build0 eL nI, sy_slice eL, sy_ext, ext_20, ext_21, sy_make eL yI (by decide), binS_lss, binS_gtr, binS_leq, binS_geq, binS_eql, binS_neq, binS_add, binS_sub, binS_mul, binS_quo, binS_rem, bindO_some, bindF_some, bindX_normal, bindX_exit, bindX_ret, blkX_normal, blkX_exit, blkX_ret, condX_true, condX_false, iteB_true, iteB_false, ev_tmp, ev_const, ev_func, putA, upd_at, Option.map_some, ↓reduceIte, Nat.reduceEqDiff, Nat.zero_add, Int.toNat_natCast, Int.natCast_nonneg, true_and, Nat.mul_one, frOf_0, frOf_1, frOf_2, frOf_3, frOf_4, List.map_cons, List.map_nil, decide_true, decide_false, Bool.not_true, Bool.not_false, yieldO_eq, yO, yV_bool, yV_undef, none_some, some_true, some_false, List.getElem?_cons_zero, List.getElem?_cons_succ, beq_self_eq_true, Bool.false_eq_true, dec00, dec0n, b_ft, b_tf, ↓bindO_some, ↓bindF_some, ↓bindX_normal, ↓bindX_exit, ↓bindX_ret, ↓condX_true, ↓condX_false, ↓iteB_true, ↓iteB_false, reflV_load, reflV_move, reflV_assign, reflV_pick, reflV_bin, reflV_un, reflV_addr, reflV_call, reflV_build, reflV_make, reflV_slice, reflV_extract, reflV_store, vEq_vi, vEq_bool, fin_n, fin_r, res_nil, res_tmp, pack_1, pack_2, pack_3, scal_vi, scal_bool, scal_nil, scal_sl]
  rw [e] at h
  injection h with h
  injection h with _ h
  injection h with h _
  rw [← h]; rfl
theorem c7_run {call : CallF} {n : Nat} {a : Fr} {H H' : Heap} {v : Value} (h : call (.func (.func 50) #[] #[]) [a 11, .func (.func 51) #[] #[]] H = some (v, H')) :
    ∃ a', evCode Tryz.prog call n Tryz.f14.ntmps none (cAt 7) a H = some (.normal, a', H') ∧ a' 11 = a 11 := by
  rw [evS_eq (D := D0) (cAt 7) (by rfl), show cAt 7 = atC [1,1,1,1,1,1,1,0] ((Tryz.f14.body).getD .skip) from rfl]
  simp only [Tryz.f14, Option.getD_some, atC, es_seq, es_region, es_draw, d0, es_cond, es_block, es_loop, es_skip, es_exit, es_ret, ops_nil, ops_cons, ops_consG, opsV_nil, opsV_cons, opsV_consG, st_move, st_assign, sy_max, sy_min, maxS_vi, minS_vi, sy_pick, pickS_true, pickS_false, st_fun, sy_len uL, sy_addr eL, sy_load aI, sy_store zI, sy_bin, sy_neg, st_not, sy_append eL pI, sy_build1 eL oI, sy_build0 eL nI, sy_slice eL, sy_ext, ext_20, ext_21, sy_make eL yI (by decide), binS_lss, binS_gtr, binS_leq, binS_geq, binS_eql, binS_neq, binS_add, binS_sub, binS_mul, binS_quo, binS_rem, bindO_some, bindF_some, bindX_normal, bindX_exit, bindX_ret, blkX_normal, blkX_exit, blkX_ret, condX_true, condX_false, iteB_true, iteB_false, ev_tmp, ev_const, ev_func, putA, upd_at, Option.map_some, ↓reduceIte, Nat.reduceEqDiff, Nat.zero_add, Int.toNat_natCast, Int.natCast_nonneg, true_and, Nat.mul_one, frOf_0, frOf_1, frOf_2, frOf_3, frOf_4, List.map_cons, List.map_nil, decide_true, decide_false, Bool.not_true, Bool.not_false, yieldO_eq, yO, yV_bool, yV_undef, none_some, some_true, some_false, List.getElem?_cons_zero, List.getElem?_cons_succ, beq_self_eq_true, Bool.false_eq_true, dec00, dec0n, b_ft, b_tf, ↓bindO_some, ↓bindF_some, ↓bindX_normal, ↓bindX_exit, ↓bindX_ret, ↓condX_true, ↓condX_false, ↓iteB_true, ↓iteB_false, reflV_load, reflV_move, reflV_assign, reflV_pick, reflV_bin, reflV_un, reflV_addr, reflV_call, reflV_build, reflV_make, reflV_slice, reflV_extract, reflV_store, vEq_vi, vEq_bool, fin_n, fin_r, res_nil, res_tmp, pack_1, pack_2, pack_3, scal_vi, scal_bool, scal_nil, scal_sl, h]
  exact ⟨_, rfl, rfl⟩
theorem c8_run {call : CallF} {n : Nat} {a : Fr} {H : Heap} : ∃ a', evCode Tryz.prog call n Tryz.f14.ntmps none (cAt 8) a H = some (.normal, a', H) ∧ a' 2 = a 11 ∧ a' 3 = vi 0 := by
  rw [evS_eq (D := D0) (cAt 8) (by rfl), show cAt 8 = atC [1,1,1,1,1,1,1,1,0] ((Tryz.f14.body).getD .skip) from rfl]
  simp only [Tryz.f14, Option.getD_some, atC, es_seq, es_region, es_draw, d0, es_cond, es_block, es_loop, es_skip, es_exit, es_ret, ops_nil, ops_cons, ops_consG, opsV_nil, opsV_cons, opsV_consG, st_move, st_assign, sy_max, sy_min, maxS_vi, minS_vi, sy_pick, pickS_true, pickS_false, st_fun, sy_len uL, sy_addr eL, sy_load aI, sy_store zI, sy_bin, sy_neg, st_not, sy_append eL pI, sy_build1 eL oI, sy_build0 eL nI, sy_slice eL, sy_ext, ext_20, ext_21, sy_make eL yI (by decide), binS_lss, binS_gtr, binS_leq, binS_geq, binS_eql, binS_neq, binS_add, binS_sub, binS_mul, binS_quo, binS_rem, bindO_some, bindF_some, bindX_normal, bindX_exit, bindX_ret, blkX_normal, blkX_exit, blkX_ret, condX_true, condX_false, iteB_true, iteB_false, ev_tmp, ev_const, ev_func, putA, upd_at, Option.map_some, ↓reduceIte, Nat.reduceEqDiff, Nat.zero_add, Int.toNat_natCast, Int.natCast_nonneg, true_and, Nat.mul_one, frOf_0, frOf_1, frOf_2, frOf_3, frOf_4, List.map_cons, List.map_nil, decide_true, decide_false, Bool.not_true, Bool.not_false, yieldO_eq, yO, yV_bool, yV_undef, none_some, some_true, some_false, List.getElem?_cons_zero, List.getElem?_cons_succ, beq_self_eq_true, Bool.false_eq_true, dec00, dec0n, b_ft, b_tf, ↓bindO_some, ↓bindF_some, ↓bindX_normal, ↓bindX_exit, ↓bindX_ret, ↓condX_true, ↓condX_false, ↓iteB_true, ↓iteB_false, reflV_load, reflV_move, reflV_assign, reflV_pick, reflV_bin, reflV_un, reflV_addr, reflV_call, reflV_build, reflV_make, reflV_slice, reflV_extract, reflV_store, vEq_vi, vEq_bool, fin_n, fin_r, res_nil, res_tmp, pack_1, pack_2, pack_3, scal_vi, scal_bool, scal_nil, scal_sl]
  exact ⟨_, rfl, rfl, rfl⟩
def clsRes (E : List Key2) : Res := match E with
  | [] => (.tuple #[.slice none 0 0, vi 0], [])
  | k :: E => clsR (sortE (k :: E))
end Go.Proofs.YtkedcelpadiakaaGreat
namespace Go.Proofs.YtkedcelpadiakaaGreat
open Go Go.Abs Go.Num
theorem unInts_map (l : List Int) : unInts (l.map (.int .i64)) = some l := by
  induction l with
  | nil => rfl
  | cons z l ih => simp only [List.map_cons, unInts, ih, Option.map_some]
theorem setList_all {cs vs : List Value} (h : vs.length = cs.length) : setList cs 0 vs = vs := by
  apply List.ext_getElem?
  intro i
  rw [setList_get _ _ _ _ (by omega)]
  by_cases hi : i < vs.length
  · rw [if_pos ⟨by omega, by omega⟩, Nat.sub_zero]
  · rw [if_neg (by omega), List.getElem?_eq_none (by omega), List.getElem?_eq_none (by omega)]
theorem zip_self {α β : Type} (κ : α → β) : ∀ l : List α, (l.map κ).zip l = l.map fun p => (κ p, p) := by
  intro l
  induction l with
  | nil => rfl
  | cons x l ih => simp only [List.map_cons, List.zip_cons_cons, ih]
theorem flat2_map_len (S : List (Key × (Value × Value))) : (flat2 (S.map (·.2))).length = S.length * 2 := by rw [flat2_len, List.length_map]
theorem sort_run {H1 H2 : Heap} {mb b f : Nat} {done es : List (Value × Value)} {E : List Key2} {acc : List Nat} {fl : List Value} (hfl : flatE es = some fl) (hA : All2 (MS acc) fl (canS 0 E)) (hlen : (canB E).length = acc.length)
    (hB : ∀ (j b : Nat), acc[j]? = some b → ∃ f cs c, H1[b]? = some (.cells f true cs) ∧ (canB E)[j]? = some c ∧ All2 (MS acc) cs c)
    (hD : ∀ (i j b c f : Nat) cs ds, i ≠ j → acc[i]? = some b → acc[j]? = some c → H1[b]? = some (.cells f true cs) → H1[c]? = some (.cells f true ds) → False)
    (hF : ∀ (b f : Nat) (o : Bool) (cs : List Value), H1[b]? = some (.cells f o cs) → f < H1.length) (hmb : H1[mb]? = some (.map es)) (hold : Old (H1.length + 1) (H1.set mb .dead ++ [.dead]) H2)
    (hp : es.Perm done) (hf0 : H1.length + 1 ≤ f) (hb0 : H1.length + 1 ≤ b) (hb : H2[b]? = some (.cells f true (flatV done))) (hl : (flatV done).length = done.length * 2) (hpos : 0 < done.length) (hE : E.Nodup) (hr : ∀ k ∈ E, k.1.length ≤ 100 ∧ k.2.length ≤ 100) (hsz : E.length < 1000000) :
    ∃ H3, srtKC (.func (.func 50) #[] #[]) [sliceA b 0 done.length 2, .func (.func 51) #[] #[]] H2 = some (.tuple #[], H3) ∧ ∃ acc', GoodRes acc' H3 (.tuple #[sliceA b 0 done.length 2, vi 0]) (clsR (sortE E)) := by
  obtain ⟨z1, z2, z3⟩ := zs_blk hfl hA
  have zok := zs_ok hfl hA hB
  have hEl : es.length = E.length := (ents_at hfl hA).1
  have hdl : done.length = E.length := by rw [← hp.length_eq, hEl]
  have hpe := es_pe hfl hA
  generalize hZ : zsOf E es = Zs at *
  have up : ∀ (c g : Nat) (cs : List Value), H1[c]? = some (.cells g true cs) → g ≠ f ∧ c ≠ b ∧ H2[c]? = some (.cells g true cs) := by
    intro c g cs h
    have h1 := (List.getElem?_eq_some_iff.1 h).1
    have h2 := hF _ _ _ _ h
    refine ⟨by omega, by omega, ?_⟩
    have hne : mb ≠ c := fun e => by rw [← e, hmb] at h; cases h
    rw [hold.2 c (by omega), List.getElem?_append_left (by simpa using h1), List.getElem?_set, if_neg hne]
    exact h
  have row : ∀ (c g : Nat) (l : List Int), l.length ≤ 100 → H1[c]? = some (.cells g true (l.map (.int .i64))) → rowOf H2 f (.slice (some ⟨c, 0, none⟩) l.length 1) = some l := by
    intro c g l hl h
    obtain ⟨u1, u2, u3⟩ := up _ _ _ h
    unfold rowOf
    simp only [u3]
    rw [if_pos ⟨u1, by simp, hl⟩, List.drop_zero, List.take_of_length_le (by simp)]
    exact unInts_map l
  have hk : ∀ z ∈ Zs, Abs.keyOf H2 f z.2 = some z.1 := by
    intro z hz
    obtain ⟨bx, by', e, ⟨f1, h1⟩, f2, h2⟩ := zok z hz
    have hkE : z.1 ∈ E := by rw [← z2]; exact List.mem_map.2 ⟨z, hz, rfl⟩
    obtain ⟨l1, l2⟩ := hr _ hkE
    rw [e]
    unfold Abs.keyOf
    simp only [row _ _ _ l1 h1, row _ _ _ l2 h2]
  let κ : Value × Value → Key := fun p => (Abs.keyOf H2 f p).getD ([], [])
  have hκ : ∀ z ∈ Zs, κ z.2 = z.1 := fun z hz => by show (Abs.keyOf H2 f z.2).getD _ = _; rw [hk z hz]; rfl
  have hZs : Zs = (es.map pairE).map fun p => (κ p, p) := by
    rw [← z3, List.map_map]
    conv => lhs; rw [← List.map_id Zs]
    apply List.map_congr_left
    intro z hz
    show z = (κ z.2, z.2)
    rw [hκ z hz]
  have hpm : ((done.map pairE).map fun p => (κ p, p)).Perm Zs := by
    rw [hZs]; exact (hp.symm.map pairE).map _
  have hks : mapO (Abs.keyOf H2 f) (done.map pairE) = some (done.map fun e => κ (pairE e)) := by
    apply mapO_map
    intro e he
    have : pairE e ∈ Zs.map (·.2) := by rw [z3]; exact List.mem_map.2 ⟨e, hp.mem_iff.2 he, rfl⟩
    obtain ⟨z, hz, ez⟩ := List.mem_map.1 this
    rw [← ez, hk z hz, hκ z hz]
  have hzip : (done.map fun e => κ (pairE e)).zip (done.map pairE) = (done.map pairE).map fun p => (κ p, p) := by
    rw [← zip_self, List.map_map]; rfl
  have hnd : (Zs.map (·.1)).Nodup := by rw [z2]; exact hE
  have hknd : (done.map fun e => κ (pairE e)).Nodup := by
    have e : (done.map fun e => κ (pairE e)) = ((done.map pairE).map fun p => (κ p, p)).map (·.1) := by rw [List.map_map, List.map_map]; rfl
    rw [e]
    exact ((hpm.map (·.1)).nodup_iff).2 hnd
  have hps : pairsOf (((flatV done).drop 0).take (done.length * 2)) = some (done.map pairE) := by
    rw [List.drop_zero, List.take_of_length_le (by omega), flatV_pair fun e he => (hpe e (hp.mem_iff.2 he)).1, pairsOf_flat2]
  let S := Zs.mergeSort leZ
  have hS : sortZ cmpO (done.map fun e => κ (pairE e)) (done.map pairE) = S.map (·.2) := by
    unfold sortZ
    rw [hzip]
    show (((done.map pairE).map fun p => (κ p, p)).mergeSort leZ).map (·.2) = _
    rw [sort_perm hpm hnd]
  have hSp : S.Perm Zs := List.mergeSort_perm Zs leZ
  have hSl : S.length = done.length := by
    rw [hSp.length_eq, hdl, ← z2, List.length_map]
  have hS1 : S.map (·.1) = sortE E := by
    have := List.map_mergeSort (r := leZ) (s := leE) (f := fun z : Key × (Value × Value) => z.1) (l := Zs) (fun a _ b _ => rfl)
    show (Zs.mergeSort leZ).map (·.1) = _
    rw [this, z2]; rfl
  have hvl : (flat2 (S.map (·.2))).length = (flatV done).length := by rw [flat2_map_len, hSl, hl]
  have hw : H2.write b 0 (flat2 (S.map (·.2))) = some ((H2.map (truncFam f 0)).set b (.cells f true (flat2 (S.map (·.2))))) := by
    unfold Heap.write
    simp only [hb]
    rw [if_pos (by omega), setList_all hvl]
  generalize hH3 : (H2.map (truncFam f 0)).set b (.cells f true (flat2 (S.map (·.2)))) = H3 at hw
  have hb3 : H3[b]? = some (.cells f true (flat2 (S.map (·.2)))) := by
    rw [← hH3, List.getElem?_set, if_pos rfl, if_pos (by simpa using (List.getElem?_eq_some_iff.1 hb).1)]
  have up3 : ∀ (c g : Nat) (cs : List Value), H1[c]? = some (.cells g true cs) → H3[c]? = some (.cells g true cs) := by
    intro c g cs h
    obtain ⟨u1, u2, u3⟩ := up _ _ _ h
    rw [← hH3, List.getElem?_set, if_neg (Ne.symm u2), List.getElem?_map, u3, Option.map_some, truncFam_other]
    intro g' o cs' e
    injection e with e1 _ _
    rw [← e1]; exact u1
  refine ⟨H3, ?_, b :: S.flatMap blk2, ?_⟩
  · unfold srtKC orC
    have : sortKC 50 51 cmpO (.func (.func 50) #[] #[]) [sliceA b 0 done.length 2, .func (.func 51) #[] #[]] H2 = some (.tuple #[], H3) := by
      unfold sortKC sliceA
      simp only [hb]
      rw [if_pos ⟨trivial, trivial, trivial, hpos, by omega, by rfl⟩, if_pos (by omega)]
      simp only [hps, hks]
      rw [if_pos hknd, hS, hw]
      rfl
    rw [this]
  · have h := good_sorted (H := H3) (b := b) (f := f) (S := S) (fun z hz => ?_) hb3 ?_ ?_
    · rw [hS1, hSl] at h; exact h
    · obtain ⟨bx, by', e, ⟨f1, h1⟩, f2, h2⟩ := zok z (hSp.mem_iff.1 hz)
      exact ⟨bx, by', e, ⟨f1, up3 _ _ _ h1⟩, f2, up3 _ _ _ h2⟩
    · have hacc : acc.Pairwise (RB H1) := by
        rw [List.pairwise_iff_getElem]
        intro i j hi hj hij g cs ds h1 h2
        exact hD i j _ _ g cs ds (by omega) (List.getElem?_eq_getElem hi) (List.getElem?_eq_getElem hj) h1 h2
      have hzb : Zs.flatMap blk2 = acc := by
        rw [z1, List.drop_zero, List.take_of_length_le]
        rw [← hlen, canB_len]; exact Nat.le_refl _
      have hpp : (S.flatMap blk2).Perm acc := by rw [← hzb]; exact hSp.flatMap_right blk2
      have h1 : (S.flatMap blk2).Pairwise (RB H1) := (List.Perm.pairwise_iff (fun h => RB.symm h) hpp).2 hacc
      refine h1.imp_of_mem fun {x y} hx hy hxy g cs ds k1 k2 => ?_
      obtain ⟨i, hi, ex⟩ := List.getElem_of_mem (hpp.mem_iff.1 hx)
      obtain ⟨j, hj, ey⟩ := List.getElem_of_mem (hpp.mem_iff.1 hy)
      obtain ⟨g1, c1, _, m1, _⟩ := hB i x (by rw [List.getElem?_eq_getElem hi, ex])
      obtain ⟨g2, c2, _, m2, _⟩ := hB j y (by rw [List.getElem?_eq_getElem hj, ey])
      have n1 := up3 _ _ _ m1
      have n2 := up3 _ _ _ m2
      rw [n1] at k1
      rw [n2] at k2
      injection k1 with k1
      injection k1 with k1 _ _
      injection k2 with k2
      injection k2 with k2 _ _
      subst k1; subst k2
      exact hxy _ _ _ m1 m2
    · intro c hc g cs ds k1 k2
      have hc' : ∃ z ∈ Zs, c ∈ blk2 z := by
        obtain ⟨z, hz, hcz⟩ := List.mem_flatMap.1 hc
        exact ⟨z, hSp.mem_iff.1 hz, hcz⟩
      obtain ⟨z, hz, hcz⟩ := hc'
      obtain ⟨bx, by', e, ⟨f1, h1⟩, f2, h2⟩ := zok z hz
      rw [hb3] at k1
      injection k1 with k1
      injection k1 with k1 _ _
      subst k1
      unfold blk2 at hcz
      rw [e] at hcz
      simp only [blkOf, List.mem_cons, List.not_mem_nil, or_false] at hcz
      rcases hcz with rfl | rfl
      · have n1 := up3 _ _ _ h1
        rw [n1] at k2
        injection k2 with k2
        injection k2 with k2 _ _
        exact (up _ _ _ h1).1 k2
      · have n1 := up3 _ _ _ h2
        rw [n1] at k2
        injection k2 with k2
        injection k2 with k2 _ _
        exact (up _ _ _ h2).1 k2
end Go.Proofs.YtkedcelpadiakaaGreat
namespace Go.Proofs.YtkedcelpadiakaaGreat
open Go Go.Abs Go.Num
set_option maxRecDepth 10000
attribute [local congr] bindO_congr bindF_congr bindX_congr condX_congr iteB_congr binS_congr pickS_congr eqB_congr nilS_congr clsW_congr maxS_congr minS_congr
noncomputable abbrev nC : Nat := Tryz.f14.ntmps
noncomputable def clO (ops : Array Oper) (i : Nat) : Oper := ops.toList.getD i ⟨none, .range 0 (.const (.bool false)), 0, "", #[], none⟩
theorem c6_eq : cAt 6 = .seq (.region 17 clOps0 false) (.block 4 (.loop (roundC 60 4 5 18 19 clOps1 clOps2 clBody))) := by kernel_rfl
theorem clL_run {call : CallF} {a : Fr} {H : Heap} {pb mb fam : Nat} {own : Bool} (h5 : a 5 = .pointer (some ⟨pb, 0, none⟩)) (hpb : H[pb]? = some (.cells fam own [.map (some mb)])) : stepA Tryz.prog call a (clO clOps0 0) H = some (.map (some mb), H) := by
  have e : clO clOps0 0 = (clO (opsOf (atC [1,1,1,1,1,1,0,0] ((Tryz.f14.body).getD .skip))) 0) := rfl
  rw [e]
  simp only [clO, Tryz.f14, Option.getD_some, atC, opsOf, List.getD_cons_zero, sy_load aM, ev_tmp, h5]
  simp [loadS, Heap.cell, hpb]
theorem clE_run {call : CallF} (a : Fr) (H : Heap) (vs : Array Value) (bv : Bool) (h : vs[0]? = some (.bool bv)) : evOps Tryz.prog call clOps1 (clOps1.toList.drop 1) (upd a 59 (.tuple vs)) H = some (upd (upd a 59 (.tuple vs)) 60 (.bool bv), H) := by
  rw [show clOps1 = opsOf (atC [1,1,1,1,1,1,0,1,0,0,0] ((Tryz.f14.body).getD .skip)) from rfl]
  have ext : extS (.tuple vs) 0 = some (.bool bv) := by simp [extS, h]
  simp only [Tryz.f14, Option.getD_some, atC, opsOf, List.drop, es_seq, es_region, es_draw, d0, es_cond, es_block, es_loop, es_skip, es_exit, es_ret, ops_nil, ops_cons, ops_consG, opsV_nil, opsV_cons, opsV_consG, st_move, st_assign, sy_max, sy_min, maxS_vi, minS_vi, sy_pick, pickS_true, pickS_false, st_fun, sy_len uL, sy_addr eL, sy_load aI, sy_store zI, sy_bin, sy_neg, st_not, sy_append eL pI, sy_build1 eL oI, sy_build0 eL nI, sy_slice eL, sy_ext, ext_20, ext_21, sy_make eL yI (by decide), binS_lss, binS_gtr, binS_leq, binS_geq, binS_eql, binS_neq, binS_add, binS_sub, binS_mul, binS_quo, binS_rem, bindO_some, bindF_some, bindX_normal, bindX_exit, bindX_ret, blkX_normal, blkX_exit, blkX_ret, condX_true, condX_false, iteB_true, iteB_false, ev_tmp, ev_const, ev_func, putA, upd_at, Option.map_some, ↓reduceIte, Nat.reduceEqDiff, Nat.zero_add, Int.toNat_natCast, Int.natCast_nonneg, true_and, Nat.mul_one, frOf_0, frOf_1, frOf_2, frOf_3, frOf_4, List.map_cons, List.map_nil, decide_true, decide_false, Bool.not_true, Bool.not_false, yieldO_eq, yO, yV_bool, yV_undef, none_some, some_true, some_false, List.getElem?_cons_zero, List.getElem?_cons_succ, beq_self_eq_true, Bool.false_eq_true, dec00, dec0n, b_ft, b_tf, ↓bindO_some, ↓bindF_some, ↓bindX_normal, ↓bindX_exit, ↓bindX_ret, ↓condX_true, ↓condX_false, ↓iteB_true, ↓iteB_false, reflV_load, reflV_move, reflV_assign, reflV_pick, reflV_bin, reflV_un, reflV_addr, reflV_call, reflV_build, reflV_make, reflV_slice, reflV_extract, reflV_store, vEq_vi, vEq_bool, fin_n, fin_r, res_nil, res_tmp, pack_1, pack_2, pack_3, scal_vi, scal_bool, scal_nil, scal_sl, sy_load aL, sy_load aB, sy_store zL, sy_store zB, sy_faddr fW0, sy_faddr fW1, sy_loadN aW zW, sy_storeN zW, sy_alloc iW scal_agg, sy_box, sy_build, bW0, sy_eq qB, sy_ne nB, eqB_bool, reflV_loadN, reflV_buildS, reflV_box, reflV_alloc, reflV_faddr, reflV_field, res_cell aW zW, scal_agg, Bool.false_xor, Bool.true_xor, ext]
theorem good_nil (H : Heap) : GoodRes [] H (.tuple #[.slice none 0 0, vi 0]) (clsRes []) :=
  ⟨.inl ⟨_, _, rfl, rfl, .cons (.inr (.inl ⟨rfl, rfl⟩)) (.cons (.inr (.inl ⟨rfl, rfl⟩)) .nil)⟩, rfl, fun j b h => by simp at h, fun i j b c f cs ds _ h => by simp at h⟩
theorem srt_nil (H : Heap) : srtKC (.func (.func 50) #[] #[]) [.slice none 0 0, .func (.func 51) #[] #[]] H = some (.tuple #[], H) := by
  unfold srtKC orC sortKC sortN
  simp
theorem cls_pre {arg : Arg} {E : List Key2} (hP : PreOK Tryz.prog nC clsPre 5 [arg] E) (hn : E.Nodup) (hr : ∀ k ∈ E, k.1.length ≤ 100 ∧ k.2.length ≤ 100) (hsz : E.length < 100000) : LineOK Tryz.prog 14 [arg] (clsRes E) := by
  obtain ⟨call, n, a1, H1, pb, mb, fam, own, es, fl, acc, hcall, hgrow, hev, h5, hpb, hmb, hfl, hA, hlen, hB, hD, hFam⟩ := hP
  have hdl : es.length = E.length := (ents_at hfl hA).1
  have hpe := es_pe hfl hA
  refine line_rel Tryz.func14 (c := clB) rfl (by kernel_rfl) cls_ent0 (by cases arg <;> exact Nat.le_of_ble_eq_true rfl) (Q := fun a H => a 3 = vi 0 ∧ ∃ acc, GoodRes acc H (.tuple #[a 2, vi 0]) (clsRes E) ∧ ∃ x, scal (a 2) = some x) ?_ ?_
  · intro m w hR b hb tmps s0 cs
    rw [clB_eq]
    have hev : evCode Tryz.prog call n nC none (.seq (cAt 0) (.seq (cAt 1) (.seq (cAt 2) (.seq (cAt 3) (.seq (cAt 4) (cAt 5)))))) (frOf (mkVals 0 [arg])) (mkHeap 0 [arg]) = some (.normal, a1, H1) := hev
    obtain ⟨x0, G0, e0, hev⟩ := seq_split hev
    obtain ⟨x1, G1, e1, hev⟩ := seq_split hev
    obtain ⟨x2, G2, e2, hev⟩ := seq_split hev
    obtain ⟨x3, G3, e3, hev⟩ := seq_split hev
    obtain ⟨x4, G4, e4, e5⟩ := seq_split hev
    have hd := drawOK hmix hcall hgrow nC
    obtain ⟨m1, w1, t1, d1, q1, s1, p1⟩ := s0.head hcall hd hb ok0 e0 [] cs
    obtain ⟨m2, w2, t2, d2, q2, s2, p2⟩ := s1.head hcall hd hb ok1 e1 [] cs
    obtain ⟨m3, w3, t3, d3, q3, s3, p3⟩ := s2.head hcall hd hb ok2 e2 [] cs
    obtain ⟨m4, w4, t4, d4, q4, s4, p4⟩ := s3.head hcall hd hb ok3 e3 [] cs
    obtain ⟨m5, w5, t5, d5, q5, s5, p5⟩ := s4.head hcall hd hb ok4 e4 [] cs
    obtain ⟨m6, w6, t6, d6, q6, s6, p6⟩ := s5.head hcall hd hb ok5 e5 [] cs
    have h11 := c5_run e5
    have hG : ∀ (b f : Nat) (o : Bool) (cs : List Value), (H1.set mb .dead ++ [Blk.dead])[b]? = some (.cells f o cs) → f < H1.length + 1 := by
      intro b f o cs h
      by_cases hlt : b < H1.length
      · rw [List.getElem?_append_left (by simpa using hlt), List.getElem?_set] at h
        split at h
        · split at h
          · cases h
          · cases h
        · have := hFam _ _ _ _ h; omega
      · rw [List.getElem?_append_right (by simpa using hlt)] at h
        have := (List.getElem?_eq_some_iff.1 h).1
        simp at this
        have e : b - (H1.set mb Blk.dead).length = 0 := by simp; omega
        rw [e] at h
        simp at h
    have hlen0 : (H1.set mb Blk.dead ++ [Blk.dead]).length = H1.length + 1 := by simp
    have hI : ClI (H1.length + 1) H1.length (H1.set mb .dead ++ [.dead]) [] (upd (upd a1 57 (.map (some mb))) 58 (.pointer (some ⟨H1.length, 0, none⟩))) (H1.set mb .dead ++ [.dead]) :=
      ⟨rfl, ⟨by rw [hlen0]; exact Nat.le_refl _, fun _ _ => rfl⟩, fun b f o cs h => by rw [hlen0]; exact hG b f o cs h, .inl ⟨h11, rfl⟩⟩
    obtain ⟨m7, H2, w7, a2, t7, d7, done, s7, q7, hperm, hI2, p7⟩ := map_range (lo := w.heap.size) hcall hd hb (kk := n) (id0 := 17) (ops0 := clOps0) (oL := clO clOps0 0) (oR := clO clOps0 1) (tm := 57) (it := 58) (tn := 59) (tok := 60) (te := 61) (ex := 4) (bl := 5) (id1 := 18) (id2 := 19) (ops1 := clOps1) (ops2 := clOps2) (o1 := clO clOps1 0) (o2 := clO clOps2 0) (l1 := clOps1.toList.drop 1) (l2 := clOps2.toList.drop 1) (body := clBody)
      (tt := 75) (kt := 9) (et := 34) (mb := mb) (ents := es) (I := ClI (H1.length + 1) H1.length (H1.set mb .dead ++ [.dead])) (Pe := PeC) (N := E.length) (by rw [← c6_eq]; exact ok6)
      (by kernel_rfl) (by kernel_rfl) (by kernel_rfl) (by kernel_rfl) (by kernel_rfl) (by kernel_rfl) (by kernel_rfl) (clL_run h5 hpb) hmb (fun e he => (hpe e he).2) (by kernel_rfl) (by kernel_rfl) (by kernel_rfl) (by kernel_rfl) (by kernel_rfl) (by kernel_rfl) (by kernel_rfl) (by kernel_rfl)
      clE_run (fun _ _ _ h => h.1) (fun _ _ _ _ _ h => h) (fun done e a H he hl hI => cl_round hG (by rw [hlen0]; exact Nat.le_refl _) he (by omega) hI) (fun e he => (hpe e he).1) hdl hI s6 [.code (.seq (cAt 7) (.seq (cAt 8) .ret))] cs
    rw [← c6_eq] at p7
    obtain ⟨_, hold, _, hout⟩ := hI2
    obtain ⟨H3, hc3, hgood⟩ : ∃ H3, srtKC (.func (.func 50) #[] #[]) [a2 11, .func (.func 51) #[] #[]] H2 = some (.tuple #[], H3) ∧ ∃ acc', GoodRes acc' H3 (.tuple #[a2 11, vi 0]) (clsRes E) ∧ ∃ x, scal (a2 11) = some x := by
      rcases hout with ⟨h2, rfl⟩ | ⟨b', f, h2, hb0, hf0, hbk, hl, hpos⟩
      · have hes : es.length = 0 := by rw [hperm.length_eq]; rfl
        have hE0 : E = [] := List.eq_nil_of_length_eq_zero (by omega)
        subst hE0
        exact ⟨H2, by rw [h2]; exact srt_nil H2, [], by rw [h2]; exact good_nil H2, [.slice none 0 0], by rw [h2]; rfl⟩
      · obtain ⟨H3, k1, acc', k2⟩ := sort_run hfl hA hlen hB hD hFam hmb hold hperm hf0 hb0 hbk hl hpos hn hr (by omega)
        refine ⟨H3, by rw [h2]; exact k1, acc', ?_, _, by rw [h2]; rfl⟩
        rw [h2]
        cases E with
        | nil => have := hperm.length_eq; simp at hdl; subst hdl; simp at this; omega
        | cons k E => exact k2
    obtain ⟨a3, e7, h7⟩ := c7_run (n := 0) hc3
    have hd2 := drawOK hmix srtKC_ok srtKC_grow nC
    obtain ⟨m8, w8, t8, d8, q8, s8, p8⟩ := s7.head srtKC_ok hd2 hb ok7 e7 [] cs
    obtain ⟨a4, e8, h8, h8'⟩ := c8_run (call := srtKC) (n := 0) (a := a3) (H := H3)
    obtain ⟨m9, w9, t9, d9, q9, s9, p9⟩ := s8.head srtKC_ok hd2 hb ok8 e8 [] cs
    refine ⟨m9, H3, w9, a4, t9, d9, [], s9, ((((((((q1.trans q2).trans q3).trans q4).trans q5).trans q6).trans q7).trans q8).trans q9), ⟨h8', ?_⟩, ?_⟩
    · rw [h8, h7]; exact hgood
    · exact p1.trans (p2.trans (p3.trans (p4.trans (p5.trans (p6.trans (.head st_seq (p7.trans (p8.trans p9))))))))
  · rintro a' H' ⟨h3, acc', hgd, x, hx⟩
    refine ⟨[a' 2, a' 3], ?_, acc', by rw [h3]; exact hgd⟩
    have er : Tryz.f14.results.toList = [.tmp 2, .tmp 3] := by kernel_rfl
    rw [er]
    have h3' : scal (a' 3) = some [vi 0] := by rw [h3]; rfl
    show (match scal (a' 2) with
      | some _ => (match scal (a' 3) with
        | some _ => (some [] : Option (List Value)).map (a' 3 :: ·)
        | none => none).map (a' 2 :: ·)
      | none => none) = _
    rw [hx, h3']
    rfl
end Go.Proofs.YtkedcelpadiakaaGreat
namespace Go.Proofs.YtkedcelpadiakaaGreat
open Go Go.Abs Go.Num
def sortedB : List Key2 → Bool
  | [] => true
  | [_] => true
  | a :: b :: l => leE a b && sortedB (b :: l)
theorem sorted_of : ∀ {l : List Key2}, sortedB l = true → l.Pairwise fun a b => leE a b = true := by
  intro l
  induction l with
  | nil => intro _; exact .nil
  | cons a l ih =>
    intro h
    cases l with
    | nil => exact List.pairwise_singleton _ _
    | cons b l =>
      simp only [sortedB, Bool.and_eq_true] at h
      have hl := ih h.2
      refine List.pairwise_cons.2 ⟨fun c hc => ?_, hl⟩
      rcases List.mem_cons.1 hc with rfl | hc
      · exact h.1
      · exact leE_trans a b c h.1 (List.rel_of_pairwise_cons hl hc)
theorem sortE_eq {E SE : List Key2} (hp : SE.isPerm E = true) (hs : sortedB SE = true) : sortE E = SE := by
  have h1 := List.pairwise_mergeSort (le := leE) leE_trans leE_total E
  exact List.Perm.eq_of_pairwise (le := fun a b => leE a b = true) (fun a b _ _ h1 h2 => leE_anti h1 h2) h1 (sorted_of hs) ((List.mergeSort_perm E leE).trans (List.isPerm_iff.1 hp).symm)
def smallB (E : List Key2) : Bool := E.all fun k => decide (k.1.length ≤ 100) && decide (k.2.length ≤ 100)
def nodupB : List Key2 → Bool
  | [] => true
  | k :: l => !l.contains k && nodupB l
theorem nodup_of : ∀ {l : List Key2}, nodupB l = true → l.Nodup := by
  intro l
  induction l with
  | nil => intro _; exact .nil
  | cons k l ih =>
    intro h
    simp only [nodupB, Bool.and_eq_true, Bool.not_eq_true', List.contains_eq_mem, decide_eq_false_iff_not] at h
    exact List.nodup_cons.2 ⟨h.1, ih h.2⟩
def clsS (SE : List Key2) : Res := match SE with
  | [] => (.tuple #[.slice none 0 0, vi 0], [])
  | _ => clsR SE
theorem cls_of_pre {arg : Arg} {E SE : List Key2} (hP : PreOK Tryz.prog nC clsPre 5 [arg] E) (h1 : SE.isPerm E = true) (h2 : sortedB SE = true) (h3 : nodupB E = true) (h4 : smallB E = true) (h5 : decide (E.length < 100000) = true) : LineOK Tryz.prog 14 [arg] (clsS SE) := by
  have h := cls_pre hP (nodup_of h3) (fun k hk => by have := List.all_eq_true.1 h4 k hk; simpa using this) (of_decide_eq_true h5)
  have e : clsRes E = clsS SE := by
    cases E with
    | nil =>
      have : SE = [] := by have := (List.isPerm_iff.1 h1).length_eq; exact List.eq_nil_of_length_eq_zero this
      subst this; rfl
    | cons k E =>
      have : clsS SE = clsR SE := by
        cases SE with
        | nil => have := (List.isPerm_iff.1 h1).length_eq; simp at this
        | cons => rfl
      rw [this, ← sortE_eq h1 h2]; rfl
  rw [← e]; exact h
theorem cls_of {sp : Abs.Spec} (hsp : Ok sp) {arg : Arg} {E SE : List Key2} (hP : PreC sp arg E) (h1 : SE.isPerm E = true) (h2 : sortedB SE = true) (h3 : nodupB E = true) (h4 : smallB E = true) (h5 : decide (E.length < 100000) = true) : LineOK Tryz.prog 14 [arg] (clsS SE) := by
  obtain ⟨hc, hok, hg⟩ := hsp.calls hF hmix 200
  exact cls_of_pre (preK_sound hc hok hg (by simp) hP) h1 h2 h3 h4 h5
end Go.Proofs.YtkedcelpadiakaaGreat
namespace Go.Proofs.YtkedcelpadiakaaGreat
open Go Go.Abs Go.Num
theorem pre5 {c : List Int} (hc : chk c = 0) (hs : c.sum = 5) : PreOK Tryz.prog nC clsPre 5 [.li (ints c)] (allE c [] (permsP 5)) := by
  have hw : WF (mkHeap 0 [.li (ints c)]) := by
    intro b f o cs h
    match b, h with
    | 0, h =>
      injection h with h
      injection h with h1 _ _
      omega
  have hv : Abs.R (mkHeap 0 [.li (ints c)]) (sliceA 0 0 (ints c).length 1) (ints c) := .inr (.inr ⟨0, 0, 0, false, ints c, rfl, rfl, by simp, by simp⟩)
  obtain ⟨a', H', es, bs, G, mb, e, h5, h1, h2, hen, hap, wf⟩ := pre_run hw hv hc hs
  obtain ⟨fl, i1, i2, i3, i4⟩ := ents_pre (acc := bs.flatMap two) (j := 0) hen rfl
  have hcall : CallOK Tryz.prog (evB Tryz.prog bC 5000) := evB_ok hmix bC_ok bC_grow 5000
  refine ⟨evB Tryz.prog bC 5000, 5000, a', H', mb + 1, mb, mb + 1, true, es, fl, bs.flatMap two, hcall, evB_grow bC_grow 5000, ?_, h5, h1, h2, i1, i2, i3, fun j b hj => ?_, fun i j b d f cs ds hij hi hj hb hd => ?_, fun b f o cs hb => ?_⟩
  · rw [evS_eq (D := DrC) clsPre (by kernel_rfl)]; exact e
  · obtain ⟨l, k1, k2⟩ := i4 j b hj
    exact ⟨b, ints l, ints l, k1, k2, all_intsC _ l⟩
  · obtain ⟨l, k1, _⟩ := i4 i b hi
    obtain ⟨l', k2, _⟩ := i4 j d hj
    rw [k1] at hb
    rw [k2] at hd
    injection hb with hb
    injection hb with e1 _ _
    injection hd with hd
    injection hd with e2 _ _
    subst e1
    subst e2
    have hn := two_nodup hap
    obtain ⟨x1, x2⟩ := List.getElem?_eq_some_iff.1 hi
    obtain ⟨y1, y2⟩ := List.getElem?_eq_some_iff.1 hj
    exact hij ((List.getElem_inj hn).1 (x2.trans y2.symm))
  · have := wf b f o cs hb
    have := lt_of_blk hb
    omega
theorem cls5_of {c : List Int} {E SE : List Key2} (hc : chk c = 0) (hs : c.sum = 5) (hE : (allE c [] (permsP 5) == E) = true) (h1 : SE.isPerm E = true) (h2 : sortedB SE = true) (h3 : nodupB E = true) (h4 : smallB E = true) (h5 : decide (E.length < 100000) = true) : LineOK Tryz.prog 14 [.li (ints c)] (clsS SE) := by
  have hP := pre5 hc hs
  rw [eq_of_beq hE] at hP
  exact cls_of_pre hP h1 h2 h3 h4 h5
end Go.Proofs.YtkedcelpadiakaaGreat
