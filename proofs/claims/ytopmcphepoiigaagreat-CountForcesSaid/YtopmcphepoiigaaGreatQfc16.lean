/- Of the law: texts of its proof, joined (part 16). -/
import Derived.Test.YtopmcphepoiigaaGreatQfc15
set_option linter.all false
namespace Go.Proofs.YtopmcphepoiigaaGreat
open Go Go.Abs
theorem uL : Tryz.prog.underlying 22 = some (.slice 3) := by kernel_rfl
theorem eL : sliceElem Tryz.prog 22 = some (3, 1) := by kernel_rfl
theorem aI : isAggT Tryz.prog 3 = some false := by kernel_rfl
theorem zI : sizeT Tryz.prog 3 = some 1 := by kernel_rfl
theorem pI : ((bytesT Tryz.prog 3).isSome && decide ((bytesT Tryz.prog 3).getD 0 ≤ maxA) && (zeros Tryz.prog 3 1 1).isSome) = true := by kernel_rfl
theorem yI : bytesT Tryz.prog 3 = some 8 := by kernel_rfl
theorem oI : zeros Tryz.prog 3 1 1 = some [vi 0] := by kernel_rfl
theorem nI : zeros Tryz.prog 3 1 0 = some [] := by kernel_rfl
theorem ok_fn {f : Nat} {fn : Func} {c : Code} (ho : okN f = true) (hf : Tryz.prog.funcs[f]? = some fn) (hb : fn.body = some c) : funcOk fn c = true := hF f fn c ho hf hb
theorem aL : isAggT Tryz.prog 22 = some false := by kernel_rfl
theorem aB : isAggT Tryz.prog 4 = some false := by kernel_rfl
theorem zL : sizeT Tryz.prog 22 = some 1 := by kernel_rfl
theorem zB : sizeT Tryz.prog 4 = some 1 := by kernel_rfl
theorem aW : isAggT Tryz.prog 86 = some true := by kernel_rfl
theorem zW : sizeT Tryz.prog 86 = some 2 := by kernel_rfl
theorem fW0 : fieldOff Tryz.prog 86 0 = some 0 := by kernel_rfl
theorem fW1 : fieldOff Tryz.prog 86 1 = some 1 := by kernel_rfl
theorem iW : zeroT Tryz.prog 86 = some (.agg #[.bool false, .slice none 0 0]) := by kernel_rfl
noncomputable def sfs (t : TypeId) : Array Field := match Tryz.prog.underlying t with
  | some (.struct fs) => fs
  | _ => #[]
theorem uW : Tryz.prog.underlying 86 = some (.struct (sfs 86)) := by kernel_rfl
theorem oW : sizesOf Tryz.prog (sfs 86).toList = some [(0, 1), (1, 1)] := by kernel_rfl
theorem bW2 (p : Bool) (v : Value) (h : scal v = some [v]) : buildA Tryz.prog 86 [(0, .bool p), (1, v)] = some (.agg #[.bool p, v]) := by
  have hb : ∀ q : Bool, scal (.bool q) = some [.bool q] := fun _ => rfl
  simp only [buildA, iW, uW, oW, fillL, hb, h]
  rfl
theorem bW1 (v : Value) (h : scal v = some [v]) : buildA Tryz.prog 86 [(1, v)] = some (.agg #[.bool false, v]) := by
  have hb : ∀ q : Bool, scal (.bool q) = some [.bool q] := fun _ => rfl
  simp only [buildA, iW, uW, oW, fillL, hb, h]
  rfl
theorem run_ofB {F : Nat} {fv : Value} {args : List Value} {H : Heap} {Q : Option (Value × Heap) → Prop} (h : ∀ n, F ≤ n → Q (evBody Tryz.prog (evB Tryz.prog bC n) n fv args H)) (n : Nat) (hn : F + 1 ≤ n) (hb : bC fv args H = none := by rfl) : Q (evB Tryz.prog bC n fv args H) := by
  obtain ⟨m, rfl⟩ : ∃ m, n = m + 1 := ⟨n - 1, by omega⟩
  have e : evB Tryz.prog bC (m + 1) fv args H = evBody Tryz.prog (evB Tryz.prog bC m) m fv args H := by
    show (match bC fv args H with | some r => some r | none => evBody Tryz.prog (evB Tryz.prog bC m) m fv args H) = _
    rw [hb]
  rw [e]
  exact h m (by omega)
end Go.Proofs.YtopmcphepoiigaaGreat
namespace Go.Proofs.YtopmcphepoiigaaGreat
open Go Go.Abs Go.Num
set_option maxRecDepth 10000
attribute [local congr] bindO_congr bindF_congr bindX_congr condX_congr iteB_congr binS_congr pickS_congr
theorem tdiv_pos {z : Int} (h : 0 ≤ z) (b : Int) : z.tdiv b = z / b := Int.tdiv_eq_ediv_of_nonneg h
theorem tmod_pos {z : Int} (h : 0 ≤ z) (b : Int) : z.tmod b = z % b := Int.tmod_eq_emod_of_nonneg h
theorem tdiv_neg' {z : Int} (b : Int) : z.tdiv b = -((-z).tdiv b) := by rw [Int.neg_tdiv]; omega
theorem tmod_neg' {z : Int} (b : Int) : z.tmod b = -((-z).tmod b) := by rw [Int.neg_tmod]; omega
theorem take_snoc' {l : List Int} {c : Nat} (h : c < l.length) : l.take (c + 1) = l.take c ++ [l.getD c 0] := by
  rw [List.take_succ_eq_append_getElem h]
  simp [List.getD_eq_getElem?_getD, List.getElem?_eq_getElem h]
def OneL (H : Heap) (r : Option (Value × Heap)) (l : List Int) : Prop := ∃ v' H', r = some (v', H') ∧ O H.length H' v' (ints l) ∧ Old H.length H H' ∧ WF H'
theorem getD_mem {l : List Int} {i : Nat} (h : i < l.length) : l.getD i 0 ∈ l := by
  rw [List.getD_eq_getElem?_getD, List.getElem?_eq_getElem h]; exact List.getElem_mem h
def negI (l : List Int) (i : Nat) : List Int := (l.take i).map (- ·) ++ l.drop i
theorem negI_len (l : List Int) (i : Nat) : (negI l i).length = l.length := by unfold negI; simp; omega
theorem negI_get {l : List Int} {i : Nat} (h : i < l.length) : (negI l i).getD i 0 = l.getD i 0 := by
  unfold negI
  have e : ((l.take i).map (- ·)).length = i := by simp; omega
  rw [List.getD_eq_getElem?_getD, List.getD_eq_getElem?_getD, List.getElem?_append_right (by omega), e, Nat.sub_self, List.getElem?_drop, Nat.add_zero]
theorem negI_set {l : List Int} {i : Nat} (h : i < l.length) : (negI l i).set i (- l.getD i 0) = negI l (i + 1) := by
  unfold negI
  have e : ((l.take i).map (- ·)).length = i := by simp; omega
  rw [List.set_append_right _ _ (by omega), e, Nat.sub_self, take_snoc' h, List.map_append, List.drop_eq_getElem_cons h, List.set_cons_zero]
  simp
theorem negI_all (l : List Int) : negI l l.length = l.map (- ·) := by unfold negI; simp
theorem negI_0 (l : List Int) : negI l 0 = l := by unfold negI; simp
end Go.Proofs.YtopmcphepoiigaaGreat
namespace Go.Proofs.YtopmcphepoiigaaGreat
open Go Go.Abs Go.Num
set_option maxRecDepth 10000
attribute [local congr] bindO_congr bindF_congr bindX_congr condX_congr iteB_congr binS_congr pickS_congr
def MM (n : Nat) (c : Int) : Prop := (n = 0 ∧ (c = 0 ∨ c = -1)) ∨ (n = 1 ∧ -10000000 ≤ c ∧ c ≤ 10000000) ∨ (n = 2 ∧ -100000000000 ≤ c ∧ c ≤ 100000000000)
theorem OneL.trans {H H1 : Heap} {r : Option (Value × Heap)} {l : List Int} (ho : Old H.length H H1) (h : OneL H1 r l) : OneL H r l := by
  obtain ⟨v', H', e, o, old, wf⟩ := h
  exact ⟨v', H', e, o.below ho.1, ho.trans (old.mono ho.1), wf⟩
end Go.Proofs.YtopmcphepoiigaaGreat
namespace Go.Proofs.YtopmcphepoiigaaGreat
open Go Go.Abs Go.Num
set_option maxRecDepth 10000
attribute [local congr] bindO_congr bindF_congr bindX_congr condX_congr iteB_congr binS_congr pickS_congr
def NumV (H : Heap) (v : Value) (z : Int) : Prop := ∃ l, R H v (ints l) ∧ val l = z ∧ l.length ≤ 900 ∧ ∀ x ∈ l, -4000000000000000000 ≤ x ∧ x ≤ 4000000000000000000
theorem NumV.mono {H H' : Heap} {v : Value} {z : Int} (h : NumV H v z) (ho : Old H.length H H') : NumV H' v z := by
  obtain ⟨l, hr, h⟩ := h
  exact ⟨l, hr.mono ho, h⟩
theorem NumV.of {H : Heap} {v : Value} {z : Int} (h : R H v (ints (nf z))) (hl : (nf z).length ≤ 900) : NumV H v z :=
  ⟨nf z, h, nf_val z, hl, fun x hx => by have := nf_bound z x hx; unfold B at this; omega⟩
theorem NumV.one {H : Heap} {v : Value} {z : Int} (h : R H v (ints [z])) (h1 : -4000000000000000000 ≤ z) (h2 : z ≤ 4000000000000000000) : NumV H v z :=
  ⟨[z], h, by simp [val], by simp, fun x hx => by simp at hx; subst hx; exact ⟨h1, h2⟩⟩
theorem nfb (z : Int) : ∀ x ∈ nf z, -4000000000000000000 ≤ x ∧ x ≤ 4000000000000000000 := fun x hx => by have := nf_bound z x hx; unfold B at this; omega
end Go.Proofs.YtopmcphepoiigaaGreat
namespace Go.Proofs.YtopmcphepoiigaaGreat
open Go Go.Abs Go.Num
set_option maxRecDepth 10000
attribute [local congr] bindO_congr bindF_congr bindX_congr condX_congr iteB_congr binS_congr pickS_congr
theorem zeros_I : ∀ n : Nat, zeros Tryz.prog 3 1 n = some (ints (List.replicate n 0)) := by
  have h : ∀ n : Nat, repl n [vi 0] = ints (List.replicate n 0) := by
    intro n
    induction n with
    | zero => rfl
    | succ n ih => rw [repl, ih, List.replicate_succ]; rfl
  intro n
  have e : zeros Tryz.prog 3 1 n = some (repl n [vi 0]) := by
    have h0 : zeroT Tryz.prog 3 = some (vi 0) := by kernel_rfl
    unfold zeros
    rw [h0]
    rfl
  rw [e, h]
end Go.Proofs.YtopmcphepoiigaaGreat
namespace Go.Proofs.YtopmcphepoiigaaGreat
open Go Go.Abs Go.Num
set_option maxRecDepth 10000
attribute [local congr] bindO_congr bindF_congr bindX_congr condX_congr iteB_congr binS_congr pickS_congr
theorem natAbs_pos {x : Int} (h : 0 ≤ x) : (x.natAbs : Int) = x := by omega
end Go.Proofs.YtopmcphepoiigaaGreat
namespace Go.Proofs.YtopmcphepoiigaaGreat
open Go Go.Abs Go.Num
set_option maxRecDepth 10000
attribute [local congr] bindO_congr bindF_congr bindX_congr condX_congr iteB_congr binS_congr pickS_congr eqB_congr
theorem floored_run {z : Int} (h1 : -4000000000000000000 ≤ z) (h2 : z ≤ 4000000000000000000) (n : Nat) (H : Heap) (hn : 10 ≤ n) : evB Tryz.prog bC n (.func (.func 115) #[] #[]) [vi z] H = some (.tuple #[vi (z / 100000000), vi (z % 100000000)], H) := by
  refine run_ofB (F := 9) (Q := fun x => x = some (.tuple #[vi (z / 100000000), vi (z % 100000000)], H)) (fun n _ => ?_) n hn
  rw [body_runS Tryz.func115 rfl (ok_fn (by rfl) Tryz.func115 rfl) (Nat.le_of_ble_eq_true rfl) (D := D0) (by kernel_rfl)]
  by_cases hz : 0 ≤ z
  · have e1 : z.tdiv 100000000 = z / 100000000 := tdiv_pos hz _
    have e2 : z.tmod 100000000 = z % 100000000 := tmod_pos hz _
    have h3 : ¬ z % 100000000 < 0 := by omega
    simp (disch := omega) only [Tryz.f115, es_seq, es_region, es_cond, es_skip, es_ret, ops_nil, ops_cons, st_move, st_assign, sy_bin, binS_lss, binS_quo, binS_rem, bindO_some, bindF_some, bindX_normal, condX_false, ev_tmp, ev_const, putA, upd_at, Option.map_some, ↓reduceIte, Nat.reduceEqDiff, frOf_0, decide_false, ↓bindO_some, ↓bindF_some, ↓bindX_normal, ↓condX_false, fin_r, res_nil, res_tmp, pack_2, scal_vi, e1, e2, wr64, h3]
  · have e1 : z.tdiv 100000000 = -((-z) / 100000000) := by rw [tdiv_neg', tdiv_pos (by omega)]
    have e2 : z.tmod 100000000 = -((-z) % 100000000) := by rw [tmod_neg', tmod_pos (by omega)]
    by_cases h3 : -((-z) % 100000000) < 0
    · simp (disch := omega) only [Tryz.f115, es_seq, es_region, es_cond, es_ret, ops_nil, ops_cons, st_move, st_assign, sy_bin, binS_lss, binS_add, binS_sub, binS_quo, binS_rem, bindO_some, bindF_some, bindX_normal, bindX_ret, condX_true, ev_tmp, ev_const, putA, upd_at, Option.map_some, ↓reduceIte, Nat.reduceEqDiff, frOf_0, decide_true, ↓bindO_some, ↓bindF_some, ↓bindX_normal, ↓bindX_ret, ↓condX_true, fin_r, res_nil, res_tmp, pack_2, scal_vi, e1, e2, wr64, h3]
      rw [show -(-z / 100000000) - 1 = z / 100000000 from by omega, show -(-z % 100000000) + 100000000 = z % 100000000 from by omega]
    · simp (disch := omega) only [Tryz.f115, es_seq, es_region, es_cond, es_skip, es_ret, ops_nil, ops_cons, st_move, st_assign, sy_bin, binS_lss, binS_quo, binS_rem, bindO_some, bindF_some, bindX_normal, condX_false, ev_tmp, ev_const, putA, upd_at, Option.map_some, ↓reduceIte, Nat.reduceEqDiff, frOf_0, decide_false, ↓bindO_some, ↓bindF_some, ↓bindX_normal, ↓condX_false, fin_r, res_nil, res_tmp, pack_2, scal_vi, e1, e2, wr64, h3]
      rw [show -(-z / 100000000) = z / 100000000 from by omega, show -(-z % 100000000) = z % 100000000 from by omega]
noncomputable def trmA : Code := atC [1, 0, 0, 0] ((Tryz.f116.body).getD .skip)
theorem trimmed_run {C : Nat} {H : Heap} {v : Value} {l : List Int} (hv : RO C H v (ints l)) (hl : l.length ≤ 1000) (n : Nat) (hn : 2000 ≤ n) : ∃ v', evB Tryz.prog bC n (.func (.func 116) #[] #[]) [v] H = some (v', H) ∧ RO C H v' (ints (trimL l)) := by
  refine run_ofB (F := 1999) (Q := fun x => ∃ v', x = some (v', H) ∧ RO C H v' (ints (trimL l))) (fun n hn => ?_) n hn
  rw [body_runS Tryz.func116 rfl (ok_fn (by rfl) Tryz.func116 rfl) (Nat.le_of_ble_eq_true rfl) (D := D0) (by kernel_rfl)]
  have key : ∀ A : Fr, A 0 = v → ∃ x a' H', loopN (evS Tryz.prog (evB Tryz.prog bC n) n Tryz.f116.ntmps none trmA) n A H = some (x, a', H') ∧ x = .exit 0 ∧ H' = H ∧ ∃ v', a' 0 = v' ∧ RO C H v' (ints (trimL l)) := by
    intro A h0
    refine loop_wf (fun n a H' => H' = H ∧ ∃ v', a 0 = v' ∧ RO C H v' (ints (l.take n)) ∧ n ≤ l.length ∧ trimL (l.take n) = trimL l) _ ?_ n l.length A H (by omega) ⟨rfl, v, h0, by rw [List.take_length]; exact hv, Nat.le_refl _, by rw [List.take_length]⟩
    intro c a H' ⟨hH, v', h0, hr, hc, ht⟩
    subst hH
    have hlc : (l.take c).length = c := by rw [List.length_take]; omega
    have hlen := hr.R.lenI
    rw [hlc] at hlen
    rw [show trmA = atC [1, 0, 0, 0] ((Tryz.f116.body).getD .skip) from rfl]
    by_cases hz : c = 0
    · subst hz
      right
      have c1 : decide ((0 : Int) < ((0 : Nat) : Int)) = false := rfl
      simp (disch := omega) only [Tryz.f116, Option.getD_some, atC, es_seq, es_region, es_cond, es_exit, ops_nil, ops_cons, ops_consG, st_move, sy_pick, pickS_false, sy_len uL, sy_bin, binS_gtr, bindO_some, bindF_some, bindX_normal, bindX_exit, condX_false, iteB_false, ev_tmp, ev_const, putA, upd_at, Option.map_some, ↓reduceIte, Nat.reduceEqDiff, yieldO_eq, yO, yV_bool, some_true, List.getElem?_cons_zero, List.getElem?_cons_succ, ↓bindO_some, ↓bindF_some, ↓bindX_normal, ↓bindX_exit, ↓condX_false, ↓iteB_false, h0, hlen, c1]
      exact ⟨_, _, _, rfl, by simp, rfl, rfl, v', by simp only [upd_get, ↓reduceIte, Nat.reduceEqDiff, h0], by rw [← ht]; exact hr⟩
    · obtain ⟨d, rfl⟩ : ∃ d, c = d + 1 := ⟨c - 1, by omega⟩
      have c1 : (0 : Int) < ((d + 1 : Nat) : Int) := by omega
      have e1 : IntKind.i64.wrap (((d + 1 : Nat) : Int) - 1) = (d : Int) := by rw [wr64 (by omega) (by omega)]; omega
      have hx := take_snoc' (l := l) (c := d) (by omega)
      have a1 : addrS 1 v' (vi d) = some (pt v' d) := by have := hr.R.addrI (i := (d : Int)) (by omega) (by omega); simpa using this
      have l1 : loadS (pt v' d) H' = some (vi (l.getD d 0)) := by
        have := hr.R.loadI (i := d) (by omega)
        rw [this, hx, List.getD_eq_getElem?_getD, List.getElem?_append_right (by rw [List.length_take]; omega), List.length_take, Nat.min_eq_left (by omega), Nat.sub_self]
        rfl
      rw [hx, trimL_snoc] at ht
      by_cases hy : l.getD d 0 = 0
      · left
        rw [if_pos hy] at ht
        obtain ⟨v2, s2, r2⟩ := hr.upto (c := d) (by omega)
        rw [List.take_take, Nat.min_eq_left (by omega)] at r2
        simp (disch := omega) only [Tryz.f116, Option.getD_some, atC, es_seq, es_region, es_cond, es_block, es_skip, ops_nil, ops_cons, ops_consG, st_move, st_assign, sy_pick, pickS_true, sy_len uL, sy_addr eL, sy_load aI, sy_bin, sy_slice eL, binS_gtr, binS_eql, binS_sub, bindO_some, bindF_some, bindX_normal, blkX_normal, condX_true, iteB_true, ev_tmp, ev_const, putA, upd_at, Option.map_some, ↓reduceIte, Nat.reduceEqDiff, decide_true, yieldO_eq, yO, yV_bool, List.getElem?_cons_zero, List.getElem?_cons_succ, beq_self_eq_true, ↓bindO_some, ↓bindF_some, ↓bindX_normal, ↓condX_true, ↓iteB_true, h0, hlen, c1, e1, a1, l1, hy, Option.map_none, s2]
        exact ⟨_, _, rfl, d, by omega, rfl, v2, by simp only [upd_get, ↓reduceIte], r2, by omega, ht⟩
      · right
        rw [if_neg hy] at ht
        simp (disch := omega) only [Tryz.f116, Option.getD_some, atC, es_seq, es_region, es_cond, es_exit, ops_nil, ops_cons, ops_consG, st_move, sy_pick, pickS_true, sy_len uL, sy_addr eL, sy_load aI, sy_bin, binS_gtr, binS_eql, binS_sub, bindO_some, bindF_some, bindX_normal, bindX_exit, condX_false, iteB_true, ev_tmp, ev_const, putA, upd_at, Option.map_some, ↓reduceIte, Nat.reduceEqDiff, decide_true, decide_false, yieldO_eq, yO, yV_bool, List.getElem?_cons_zero, List.getElem?_cons_succ, beq_self_eq_true, ↓bindO_some, ↓bindF_some, ↓bindX_normal, ↓bindX_exit, ↓condX_false, ↓iteB_true, h0, hlen, c1, e1, a1, l1, hy]
        exact ⟨_, _, _, rfl, by simp, rfl, rfl, v', by simp only [upd_get, ↓reduceIte, Nat.reduceEqDiff, h0], by rw [← ht, ← hx]; exact hr⟩
  rw [show trmA = atC [1, 0, 0, 0] ((Tryz.f116.body).getD .skip) from rfl] at key
  simp only [Tryz.f116, Option.getD_some, atC] at key
  simp (disch := omega) only [Tryz.f116, es_seq, es_region, es_block, es_loop, es_ret, ops_nil, ops_cons, st_move, st_assign, bindO_some, bindF_some, bindX_normal, ev_tmp, ev_const, putA, upd_at, ↓reduceIte, ↓bindO_some, ↓bindF_some, ↓bindX_normal]
  generalize hA : upd _ 2 _ = A
  obtain ⟨x, a', H', e, hx, hH, v', h0, r⟩ := key A (by subst hA; rfl)
  subst hx
  subst hH
  rw [e]
  simp (disch := omega) only [bindX_normal, blkX_exit, upd_at, Option.map_some, ↓reduceIte, ↓bindX_normal, fin_r, res_nil, res_tmp, pack_1, h0, r.R.scal]
  exact ⟨_, rfl, r⟩
def Wh (C : Nat) (H : Heap) (w : Value) (z : Int) : Prop := ∃ v, w = .agg #[.bool (decide (z < 0)), v] ∧ RO C H v (ints (nf z.natAbs))
def OneW (H : Heap) (r : Option (Value × Heap)) (z : Int) : Prop := ∃ w H', r = some (w, H') ∧ Wh H.length H' w z ∧ Old H.length H H' ∧ WF H'
theorem Wh.mono {C : Nat} {H H' : Heap} {w : Value} {z : Int} (h : Wh C H w z) (ho : Old H.length H H') : Wh C H' w z := by
  obtain ⟨v, h1, h2⟩ := h
  exact ⟨v, h1, h2.mono ho⟩
theorem Wh.below {C C' : Nat} {H : Heap} {w : Value} {z : Int} (h : Wh C H w z) (hc : C' ≤ C) : Wh C' H w z := by
  obtain ⟨v, h1, h2⟩ := h
  exact ⟨v, h1, h2.below hc⟩
theorem Wh.kept {C : Nat} {H H' : Heap} {w : Value} {z : Int} (h : Wh C H w z) (k : Kept C H H') : Wh C H' w z := by
  obtain ⟨v, h1, h2⟩ := h
  exact ⟨v, h1, h2.kept k⟩
noncomputable def readA_ : Code := atC [1, 1, 1, 0, 1, 0, 0] ((Tryz.f74.body).getD .skip)
noncomputable def readB : Code := atC [1, 1, 1, 1, 1, 1, 0, 1, 0, 0] ((Tryz.f74.body).getD .skip)
theorem read_loop1 {H0 H : Heap} {v p : Value} {l : List Int} (hv : R H0 v (ints l)) (old0 : Old H0.length H0 H) (hw : WF H) (hl : l.length ≤ 900) (hb : ∀ x ∈ l, -4000000000000000000 ≤ x ∧ x ≤ 4000000000000000000) (n m nt : Nat) (hn : 10 ≤ n) {a : Fr} {k : Nat} (hk : l.length + 2 < k)
    (h0 : a 0 = v) (h2 : a 2 = p) (h3 : a 3 = .slice none 0 0) (h4 : a 4 = vi 0) (h5 : a 5 = vi (0 : Nat)) :
    ∃ x a' H', loopN (evS Tryz.prog (evB Tryz.prog bC n) m nt none readA_) k a H = some (x, a', H') ∧ x = .exit 0 ∧ a' 2 = p ∧ ∃ vo out c, a' 3 = vo ∧ a' 4 = vi c ∧ O H.length H' vo (ints out) ∧ Old H.length H H' ∧ WF H' ∧ out.length ≤ l.length + 2 ∧ Dg out ∧ val out + B ^ out.length * c = val l ∧ (c = 0 ∨ c = -1) := by
  refine loop_wf (fun q a H' => a 0 = v ∧ a 2 = p ∧ ∃ vo out c, a 3 = vo ∧ a 4 = vi c ∧ a 5 = vi (out.length : Nat) ∧ O H.length H' vo (ints out) ∧ Old H.length H H' ∧ WF H' ∧ out.length + q ≤ l.length + 2 ∧ Dg out ∧ val out + B ^ out.length * c = val (l.take out.length) ∧ ((out.length < l.length ∧ q = l.length - out.length + 2 ∧ -100000000000 ≤ c ∧ c ≤ 100000000000) ∨ (l.length ≤ out.length ∧ MM q c))) _ ?_ k (l.length + 2) a H hk ?_
  · intro q a H' ⟨h0, h2, vo, out, c, h3, h4, h5, ho, old, hw, hq, hd, hval, hM⟩
    rw [show readA_ = atC [1, 1, 1, 0, 1, 0, 0] ((Tryz.f74.body).getD .skip) from rfl]
    have hr := hv.keep (Nat.le_refl _) (old0.trans (old.mono old0.1))
    have e3 : IntKind.i64.wrap ((out.length : Int) + 1) = ((out.length + 1 : Nat) : Int) := by rw [wr64 (by omega) (by omega)]; omega
    rcases hM with ⟨hlt, hqe, hc1, hc2⟩ | ⟨hge, hM⟩
    · left
      have hx := hb _ (getD_mem hlt)
      have c1 : ((out.length : Int) < l.length) := by omega
      have s1 := floored_run hx.1 hx.2 n H' hn
      have e1 : IntKind.i64.wrap (l.getD out.length 0 % 100000000 + c) = l.getD out.length 0 % 100000000 + c := wr64 (by omega) (by omega)
      have s2 := floored_run (z := l.getD out.length 0 % 100000000 + c) (by omega) (by omega) n H' hn
      have e2 : IntKind.i64.wrap (l.getD out.length 0 / 100000000 + (l.getD out.length 0 % 100000000 + c) / 100000000) = l.getD out.length 0 / 100000000 + (l.getD out.length 0 % 100000000 + c) / 100000000 := wr64 (by omega) (by omega)
      obtain ⟨v2, H2, ep, o2, old2, wf2⟩ := ho.pushI hw old.1 (by unfold maxA; omega) ((l.getD out.length 0 % 100000000 + c) % 100000000)
      simp (disch := omega) only [Tryz.f74, Option.getD_some, atC, es_seq, es_region, es_cond, es_block, es_skip, ops_nil, ops_cons, ops_consG, st_move, st_assign, sy_pick, pickS_true, st_fun, sy_len uL, sy_addr eL, sy_load aI, sy_bin, sy_append eL pI, sy_build1 eL oI, sy_ext, ext_20, ext_21, binS_lss, binS_add, bindO_some, bindF_some, bindX_normal, blkX_normal, condX_true, iteB_false, ev_tmp, ev_const, ev_func, putA, upd_at, Option.map_some, ↓reduceIte, Nat.reduceEqDiff, Int.toNat_natCast, List.map_cons, List.map_nil, decide_true, Bool.not_true, yieldO_eq, yO, yV_bool, yV_undef, none_some, some_false, List.getElem?_cons_zero, List.getElem?_cons_succ, ↓bindO_some, ↓bindF_some, ↓bindX_normal, ↓condX_true, ↓iteB_false, scal_vi, h0, h3, h4, h5, hr.lenI, c1, hr.addrI, hr.loadI, s1, s2, e1, e2, e3, ep]
      have hvl := norm_step (x := l.getD out.length 0) rfl hval (by rw [List.length_take]; omega)
      rw [← take_snoc' hlt] at hvl
      refine ⟨_, _, rfl, q - 1, by omega, by simp only [upd_get, ↓reduceIte, Nat.reduceEqDiff, h0], by simp only [upd_get, ↓reduceIte, Nat.reduceEqDiff, h2], v2, out ++ [(l.getD out.length 0 % 100000000 + c) % 100000000], l.getD out.length 0 / 100000000 + (l.getD out.length 0 % 100000000 + c) / 100000000, by simp only [upd_get, ↓reduceIte, Nat.reduceEqDiff], by simp only [upd_get, ↓reduceIte, Nat.reduceEqDiff], by simp only [upd_get, ↓reduceIte, List.length_append, List.length_singleton], o2, old.trans old2, wf2, by rw [List.length_append, List.length_singleton]; omega, hd.app (Dg.one (by omega) (by unfold B; omega)), by rw [List.length_append, List.length_singleton]; exact hvl, ?_⟩
      rw [List.length_append, List.length_singleton]
      by_cases hl2 : out.length + 1 < l.length
      · exact .inl ⟨hl2, by omega, by omega, by omega⟩
      · exact .inr ⟨by omega, .inr (.inr ⟨by omega, by omega, by omega⟩)⟩
    · have c1 : ¬ ((out.length : Int) < l.length) := by omega
      have ht : l.take out.length = l := List.take_of_length_le hge
      rw [ht] at hval
      by_cases hz : c = 0
      · right
        simp (disch := omega) only [Tryz.f74, Option.getD_some, atC, es_seq, es_region, es_cond, es_exit, ops_nil, ops_cons, ops_consG, st_move, sy_pick, pickS_false, sy_len uL, sy_bin, binS_lss, binS_neq, bindO_some, bindF_some, bindX_normal, bindX_exit, condX_false, iteB_true, iteB_false, ev_tmp, ev_const, putA, upd_at, Option.map_some, ↓reduceIte, Nat.reduceEqDiff, decide_true, decide_false, Bool.not_true, yieldO_eq, yO, yV_bool, some_true, List.getElem?_cons_zero, List.getElem?_cons_succ, beq_self_eq_true, ↓bindO_some, ↓bindF_some, ↓bindX_normal, ↓bindX_exit, ↓condX_false, ↓iteB_true, ↓iteB_false, h0, h4, h5, hr.lenI, c1, hz]
        exact ⟨_, _, _, rfl, by simp, rfl, by simp only [upd_get, ↓reduceIte, Nat.reduceEqDiff, h2], vo, out, 0, by simp only [upd_get, ↓reduceIte, Nat.reduceEqDiff, h3], by simp only [upd_get, ↓reduceIte, Nat.reduceEqDiff, h4, hz], ho, old, hw, by omega, hd, by rw [← hz]; exact hval, .inl rfl⟩
      · by_cases hy : c = -1
        · right
          have d1 : decide (c = 0) = false := by simp [hz]
          have d2 : decide (c = -1) = true := by simp [hy]
          simp (disch := omega) only [Tryz.f74, Option.getD_some, atC, es_seq, es_region, es_cond, es_exit, ops_nil, ops_cons, ops_consG, st_move, sy_pick, pickS_true, pickS_false, sy_len uL, sy_bin, binS_lss, binS_neq, bindO_some, bindF_some, bindX_normal, bindX_exit, condX_false, iteB_true, ev_tmp, ev_const, putA, upd_at, Option.map_some, ↓reduceIte, Nat.reduceEqDiff, decide_false, Bool.not_true, Bool.not_false, yieldO_eq, yO, yV_bool, List.getElem?_cons_zero, List.getElem?_cons_succ, beq_self_eq_true, ↓bindO_some, ↓bindF_some, ↓bindX_normal, ↓bindX_exit, ↓condX_false, ↓iteB_true, h0, h4, h5, hr.lenI, c1, d1, d2]
          exact ⟨_, _, _, rfl, by simp, rfl, by simp only [upd_get, ↓reduceIte, Nat.reduceEqDiff, h2], vo, out, -1, by simp only [upd_get, ↓reduceIte, Nat.reduceEqDiff, h3], by simp only [upd_get, ↓reduceIte, Nat.reduceEqDiff, h4, hy], ho, old, hw, by omega, hd, by rw [← hy]; exact hval, .inr rfl⟩
        · left
          have s1 := floored_run (z := c) (by rcases hM with h | h | h <;> omega) (by rcases hM with h | h | h <;> omega) n H' hn
          have e0 : IntKind.i64.wrap (0 + c) = c := by rw [wr64 (by rcases hM with h | h | h <;> omega) (by rcases hM with h | h | h <;> omega)]; omega
          have e4 : IntKind.i64.wrap (0 + c / 100000000) = c / 100000000 := by rw [wr64 (by rcases hM with h | h | h <;> omega) (by rcases hM with h | h | h <;> omega)]; omega
          obtain ⟨v2, H2, ep, o2, old2, wf2⟩ := ho.pushI hw old.1 (by unfold maxA; omega) (c % 100000000)
          simp (disch := omega) only [Tryz.f74, Option.getD_some, atC, es_seq, es_region, es_cond, es_block, es_skip, ops_nil, ops_cons, ops_consG, st_move, st_assign, sy_pick, pickS_true, pickS_false, st_fun, sy_len uL, sy_bin, sy_append eL pI, sy_build1 eL oI, sy_ext, ext_20, ext_21, binS_lss, binS_neq, binS_add, bindO_some, bindF_some, bindX_normal, blkX_normal, condX_true, condX_false, iteB_true, ev_tmp, ev_const, ev_func, putA, upd_at, Option.map_some, ↓reduceIte, Nat.reduceEqDiff, List.map_cons, List.map_nil, decide_false, Bool.not_false, yieldO_eq, yO, yV_bool, List.getElem?_cons_zero, List.getElem?_cons_succ, beq_self_eq_true, ↓bindO_some, ↓bindF_some, ↓bindX_normal, ↓condX_true, ↓condX_false, ↓iteB_true, scal_vi, h0, h3, h4, h5, hr.lenI, c1, hz, hy, e0, s1, e4, e3, ep]
          refine ⟨_, _, rfl, q - 1, by rcases hM with h | h | h <;> omega, by simp only [upd_get, ↓reduceIte, Nat.reduceEqDiff, h0], by simp only [upd_get, ↓reduceIte, Nat.reduceEqDiff, h2], v2, out ++ [c % 100000000], c / 100000000, by simp only [upd_get, ↓reduceIte, Nat.reduceEqDiff], by simp only [upd_get, ↓reduceIte, Nat.reduceEqDiff], by simp only [upd_get, ↓reduceIte, List.length_append, List.length_singleton], o2, old.trans old2, wf2, by rw [List.length_append, List.length_singleton]; rcases hM with h | h | h <;> omega, hd.app (Dg.one (by omega) (by unfold B; omega)), by rw [List.take_of_length_le (by rw [List.length_append]; omega)]; exact carry_step _ hval, .inr ⟨by rw [List.length_append]; omega, ?_⟩⟩
          rcases hM with h | h | h
          · omega
          · exact .inl ⟨by omega, by omega⟩
          · exact .inr (.inl ⟨by omega, by omega, by omega⟩)
  · refine ⟨h0, h2, _, [], 0, h3, h4, h5, O.nil _ _, Old.refl _ _, hw, by simp, Dg.nil, by simp [val], ?_⟩
    by_cases hl0 : 0 < l.length
    · exact .inl ⟨by simpa using hl0, by simp, by omega, by omega⟩
    · have hl1 : l.length = 0 := by omega
      exact .inr ⟨by rw [hl1]; exact Nat.zero_le _, .inr (.inr ⟨by omega, by omega, by omega⟩)⟩
def cpl (l : List Int) (z : List Int) (i : Nat) : List Int := z ++ l.drop i
theorem cpl_get {l z : List Int} {i : Nat} (hz : z.length = i) (h : i < l.length) : (cpl l z i).getD i 0 = l.getD i 0 := by
  unfold cpl
  rw [List.getD_eq_getElem?_getD, List.getD_eq_getElem?_getD, List.getElem?_append_right (by omega), hz, Nat.sub_self, List.getElem?_drop, Nat.add_zero]
theorem cpl_set {l z : List Int} {i : Nat} (hz : z.length = i) (h : i < l.length) (x : Int) : (cpl l z i).set i x = cpl l (z ++ [x]) (i + 1) := by
  unfold cpl
  rw [List.set_append_right _ _ (by omega), hz, Nat.sub_self, drop_getD h, List.set_cons_zero]
  simp
theorem cpl_len {l z : List Int} {i : Nat} (hz : z.length = i) (h : i ≤ l.length) : (cpl l z i).length = l.length := by
  unfold cpl
  rw [List.length_append, List.length_drop]; omega
theorem read_loop2 {B0 : Nat} {H0 H : Heap} {vo p : Value} {out : List Int} (hB : B0 ≤ H.length) (ho : O B0 H vo (ints out)) (hd : Dg out) (old0 : Old B0 H0 H) (hw : WF H) (hol : out.length ≤ 1000) (call : CallF) (m nt : Nat) {a : Fr} {k : Nat} (hk : out.length < k)
    (h2 : a 2 = p) (h3 : a 3 = vo) (h10 : a 10 = vi 0) (h58 : a 58 = vo) (h59 : a 59 = vi (out.length : Nat)) (h60 : a 60 = vi (0 : Nat)) :
    ∃ x a' H', loopN (evS Tryz.prog call m nt none readB) k a H = some (x, a', H') ∧ x = .exit 2 ∧ a' 2 = p ∧ a' 3 = vo ∧ ∃ sz b, a' 10 = vi b ∧ O B0 H' vo (ints sz) ∧ Old B0 H0 H' ∧ WF H' ∧ sz.length = out.length ∧ Dg sz ∧ val sz = b * B ^ out.length - val out ∧ (b = 0 ∨ b = 1) ∧ H.length ≤ H'.length := by
  refine loop_up out.length (fun i a H' => a 2 = p ∧ a 3 = vo ∧ a 58 = vo ∧ a 59 = vi (out.length : Nat) ∧ a 60 = vi i ∧ H.length ≤ H'.length ∧ ∃ sz b, a 10 = vi b ∧ O B0 H' vo (ints (cpl out sz i)) ∧ Old B0 H0 H' ∧ WF H' ∧ sz.length = i ∧ Dg sz ∧ val sz = b * B ^ i - val (out.take i) ∧ (b = 0 ∨ b = 1)) _ ?_ ?_ hk
    ⟨h2, h3, h58, h59, h60, Nat.le_refl _, [], 0, h10, by simpa [cpl] using ho, old0, hw, rfl, Dg.nil, by simp [val], .inl rfl⟩
  · intro i a H' hi ⟨h2, h3, h58, h59, h60, hlen, sz, b, h10, ho, old, hw, hsl, hds, hval, hb⟩
    left
    rw [show readB = atC [1, 1, 1, 1, 1, 1, 0, 1, 0, 0] ((Tryz.f74.body).getD .skip) from rfl]
    have hx := hd.getD i
    have hr := ho.R
    have hcl := cpl_len hsl (by omega : i ≤ out.length)
    have hcg := cpl_get hsl hi
    have hlt : (i : Int) < out.length := by omega
    have e1 : IntKind.i64.wrap (0 - out.getD i 0) = - out.getD i 0 := by rw [wr64 (by omega) (by omega)]; omega
    have e2 : IntKind.i64.wrap (- out.getD i 0 - b) = - out.getD i 0 - b := wr64 (by omega) (by omega)
    have e3 : IntKind.i64.wrap ((i : Int) + 1) = ((i + 1 : Nat) : Int) := by rw [wr64 (by omega) (by omega)]; omega
    have a1 : addrS 1 vo (vi i) = some (pt vo i) := by have := hr.addrI (i := (i : Int)) (by omega) (by omega); simpa using this
    have l1 : loadS (pt vo i) H' = some (vi (out.getD i 0)) := by rw [hr.loadI (by omega), hcg]
    have hst := fun (b2 : Int) => compl_step (o := out.getD i 0) (b2 := b2) hsl (by rw [List.length_take]; omega) hval
    obtain ⟨H2, s2, o2, old2, wf2⟩ := ho.setI hw (i := i) (by omega) (- out.getD i 0 - b)
    rw [cpl_set hsl hi] at o2
    have l2 : loadS (pt vo i) H2 = some (vi (- out.getD i 0 - b)) := by
      rw [o2.R.loadI (by rw [cpl_len (by simp [hsl]) (by omega)]; omega)]
      unfold cpl
      rw [List.getD_eq_getElem?_getD, List.append_assoc, List.getElem?_append_right (by omega), hsl, Nat.sub_self]
      rfl
    by_cases hneg : - out.getD i 0 - b < 0
    · have e4 : IntKind.i64.wrap (- out.getD i 0 - b + 100000000) = - out.getD i 0 - b + 100000000 := wr64 (by omega) (by omega)
      obtain ⟨H3, s3, o3, old3, wf3⟩ := o2.setI wf2 (i := i) (by rw [cpl_len (by simp [hsl]) (by omega)]; omega) (- out.getD i 0 - b + 100000000)
      have e5 : (cpl out (sz ++ [- out.getD i 0 - b]) (i + 1)).set i (- out.getD i 0 - b + 100000000) = cpl out (sz ++ [- out.getD i 0 - b + 100000000]) (i + 1) := by
        unfold cpl
        rw [List.append_assoc, List.append_assoc, List.set_append_right _ _ (by omega), hsl, Nat.sub_self]; rfl
      rw [e5] at o3
      simp (disch := omega) only [Tryz.f74, Option.getD_some, atC, es_seq, es_region, es_cond, es_block, es_skip, ops_nil, ops_cons, st_move, st_assign, sy_addr eL, sy_load aI, sy_store zI, sy_bin, sy_neg, binS_lss, binS_add, binS_sub, bindO_some, bindF_some, bindX_normal, blkX_normal, condX_true, ev_tmp, ev_const, putA, upd_at, Option.map_some, ↓reduceIte, Nat.reduceEqDiff, decide_true, ↓bindO_some, ↓bindF_some, ↓bindX_normal, ↓condX_true, h3, h10, h58, h59, h60, hlt, a1, l1, e1, e2, s2, l2, hneg, e4, s3, e3]
      exact ⟨_, _, rfl, by simp only [upd_get, ↓reduceIte, Nat.reduceEqDiff, h2], by simp only [upd_get, ↓reduceIte, Nat.reduceEqDiff, h3], by simp only [upd_get, ↓reduceIte, Nat.reduceEqDiff, h58], by simp only [upd_get, ↓reduceIte, Nat.reduceEqDiff, h59], by simp only [upd_get, ↓reduceIte], Nat.le_trans hlen (Nat.le_trans old2.1 old3.1), _, 1, by simp only [upd_get, ↓reduceIte, Nat.reduceEqDiff], o3, (old.trans old2).trans old3, wf3, by simp [hsl], hds.app (Dg.one (by omega) (by unfold B; omega)), by rw [take_snoc' hi]; exact hst 1, .inr rfl⟩
    · simp (disch := omega) only [Tryz.f74, Option.getD_some, atC, es_seq, es_region, es_cond, es_block, es_skip, ops_nil, ops_cons, st_move, st_assign, sy_addr eL, sy_load aI, sy_store zI, sy_bin, sy_neg, binS_lss, binS_add, binS_sub, bindO_some, bindF_some, bindX_normal, blkX_normal, condX_true, condX_false, ev_tmp, ev_const, putA, upd_at, Option.map_some, ↓reduceIte, Nat.reduceEqDiff, decide_true, decide_false, ↓bindO_some, ↓bindF_some, ↓bindX_normal, ↓condX_true, ↓condX_false, h3, h10, h58, h59, h60, hlt, a1, l1, e1, e2, s2, l2, hneg, e3]
      exact ⟨_, _, rfl, by simp only [upd_get, ↓reduceIte, Nat.reduceEqDiff, h2], by simp only [upd_get, ↓reduceIte, Nat.reduceEqDiff, h3], by simp only [upd_get, ↓reduceIte, Nat.reduceEqDiff, h58], by simp only [upd_get, ↓reduceIte, Nat.reduceEqDiff, h59], by simp only [upd_get, ↓reduceIte], Nat.le_trans hlen old2.1, _, 0, by simp only [upd_get, ↓reduceIte, Nat.reduceEqDiff], o2, old.trans old2, wf2, by simp [hsl], hds.app (Dg.one (by omega) (by unfold B; omega)), by rw [take_snoc' hi]; have := hst 0; simpa using this, .inl rfl⟩
  · intro a H' ⟨h2, h3, h58, h59, h60, hlen, sz, b, h10, ho, old, hw, hsl, hds, hval, hb⟩
    rw [show readB = atC [1, 1, 1, 1, 1, 1, 0, 1, 0, 0] ((Tryz.f74.body).getD .skip) from rfl]
    simp (disch := omega) only [Tryz.f74, Option.getD_some, atC, es_seq, es_region, es_cond, es_exit, ops_nil, ops_cons, sy_bin, binS_lss, bindO_some, bindF_some, bindX_normal, bindX_exit, condX_false, ev_tmp, putA, upd_at, ↓reduceIte, decide_false, ↓bindO_some, ↓bindF_some, ↓bindX_normal, ↓bindX_exit, ↓condX_false, h59, h60, Int.lt_irrefl]
    have e0 : cpl out sz out.length = sz := by unfold cpl; rw [List.drop_length, List.append_nil]
    rw [e0] at ho
    exact ⟨_, _, _, rfl, by simp, rfl, by simp only [upd_get, ↓reduceIte, Nat.reduceEqDiff, h2], by simp only [upd_get, ↓reduceIte, Nat.reduceEqDiff, h3], sz, b, by simp only [upd_get, ↓reduceIte, Nat.reduceEqDiff, h10], ho, old, hw, hsl, hds, by rw [hval, List.take_length], hb, hlen⟩
theorem nf_natAbs_pos {z : Int} (h : 0 ≤ z) : nf z.natAbs = nf z := by rw [natAbs_pos h]
theorem read_run {H : Heap} {v : Value} {z : Int} (hw : WF H) (hv : NumV H v z) (n : Nat) (hn : 2001 ≤ n) :
    OneW H (evB Tryz.prog bC n (.func (.func 74) #[] #[]) [v] H) z := by
  obtain ⟨l, hr, hz, hl, hb⟩ := hv
  refine run_ofB (F := 2000) (Q := fun r => OneW H r z) (fun n hn => ?_) n hn
  rw [body_runS Tryz.func74 rfl (ok_fn (by rfl) Tryz.func74 rfl) (Nat.le_of_ble_eq_true rfl) (D := D0) (by kernel_rfl)]
  have oldb := Old.app H [.cells H.length true [.bool false, .slice none 0 0]]
  have wfb := hw.app (Nat.le_refl H.length) (o := true) (cs := [.bool false, .slice none 0 0])
  have bx := BxM.made (B := H.length) (H := H) (Nat.le_refl _) [.bool false, .slice none 0 0]
  have key1 := fun (A : Fr) => read_loop1 (p := ptrA H.length 0) hr oldb wfb hl hb n n Tryz.f74.ntmps (by omega) (a := A) (k := n) (by omega)
  have key2 := fun (A : Fr) {B0 : Nat} {H0 H1 : Heap} {vo : Value} {out : List Int} (hol : out.length ≤ 902) (hB : B0 ≤ H1.length) (ho : O B0 H1 vo (ints out)) (hd : Dg out) (old0 : Old B0 H0 H1) (hw : WF H1) => read_loop2 (p := ptrA H.length 0) hB ho hd old0 hw (by omega) (evB Tryz.prog bC n) n Tryz.f74.ntmps (a := A) (k := n) (by omega)
  rw [show readA_ = atC [1, 1, 1, 0, 1, 0, 0] ((Tryz.f74.body).getD .skip) from rfl] at key1
  rw [show readB = atC [1, 1, 1, 1, 1, 1, 0, 1, 0, 0] ((Tryz.f74.body).getD .skip) from rfl] at key2
  simp only [Tryz.f74, Option.getD_some, atC] at key1 key2
  simp (disch := omega) only [Tryz.f74, es_seq, es_region, es_cond, es_block, es_loop, es_skip, es_ret, ops_nil, ops_cons, st_move, st_assign, st_fun, sy_len uL, sy_bin, sy_append eL pI, sy_build1 eL oI, bindO_some, bindF_some, bindX_normal, ev_tmp, ev_const, ev_func, putA, upd_at, ↓reduceIte, Nat.reduceEqDiff, List.map_cons, List.map_nil, ↓bindO_some, ↓bindF_some, ↓bindX_normal, scal_vi, sy_storeN zW, sy_alloc iW scal_agg, sy_build]
  generalize hA : upd _ 5 _ = A
  obtain ⟨x, a1, H1, e1, hx, g2, vo, out, c, h3, h4, o1, old1, wf1, hol, hd, hval, hc⟩ := key1 A (by subst hA; rfl) (by subst hA; rfl) (by subst hA; rfl) (by subst hA; rfl) (by subst hA; rfl)
  subst hx
  rw [e1]
  clear key1 e1
  have bx1 := bx.mono old1
  rcases hc with rfl | rfl
  · rw [Int.mul_zero, Int.add_zero] at hval
    obtain ⟨v3, s3, r3⟩ := trimmed_run o1.RO (by omega) n (by omega)
    obtain ⟨H4, s4, bx4, old4, wf4, keep4⟩ := bx1.store wf1 (vs := [.bool false, v3]) rfl
    have s5 : loadN 2 (ptrA H.length 0) H4 = some (.agg #[.bool false, v3]) := bx4.loadAll
    have s4 : storeN 2 (ptrA H.length 0) (.agg #[.bool false, v3]) H1 = some H4 := s4
    have hz0 : 0 ≤ z := by have := hd.val; omega
    simp (disch := omega) only [binS_eql, bindO_some, bindF_some, bindX_normal, bindX_ret, blkX_exit, condX_true, upd_at, Option.map_some, ↓reduceIte, Nat.reduceEqDiff, decide_true, ↓bindO_some, ↓bindF_some, ↓bindX_normal, ↓bindX_ret, ↓condX_true, fin_r, res_nil, pack_1, res_cell aW zW, g2, h3, h4, s3, bW1 v3 r3.R.scal, s4, s5]
    have hzp : decide (z < 0) = false := by simp; omega
    refine ⟨_, _, rfl, ⟨v3, by rw [hzp], ?_⟩, (oldb.trans (old1.mono oldb.1)).trans old4, wf4⟩
    rw [nf_natAbs_pos hz0, ← nf_of_digs hd (hval.trans hz)]
    exact (r3.kept keep4).below oldb.1
  · have hneg := hd.val
    have hz1 : ¬ (-1 : Int) = 0 := by omega
    have hrl := o1.R.lenI
    simp (disch := omega) only [binS_eql, bindO_some, bindF_some, bindX_normal, blkX_exit, condX_false, upd_at, Option.map_some, ↓reduceIte, Nat.reduceEqDiff, decide_false, ↓bindO_some, ↓bindF_some, ↓bindX_normal, ↓condX_false, h3, h4, hz1, hrl]
    generalize hA : upd _ 60 _ = A
    obtain ⟨x, a2, H2, e2, hx, g2', g3, sz, b, h10, o2, old2, wf2, hsl, hds, hvs, hb', hlen2⟩ := key2 A (H0 := H ++ [.cells H.length true [.bool false, .slice none 0 0]]) (by omega) old1.1 o1 hd old1 wf1 (by subst hA; exact g2) (by subst hA; exact h3) (by subst hA; rfl) (by subst hA; rfl) (by subst hA; rfl) (by subst hA; rfl)
    subst hx
    rw [e2]
    clear key2 e2
    have bx2 := bx.mono old2
    have fin : ∀ (H3 : Heap) (v3 : Value) (l3 : List Int), RO (H ++ [Blk.cells H.length true [.bool false, .slice none 0 0]]).length H3 v3 (ints l3) → WF H3 → Old (H ++ [Blk.cells H.length true [.bool false, .slice none 0 0]]).length H2 H3 → Dg l3 → l3.length ≤ 1000 → val l3 = -z → ∃ v4 H4, evB Tryz.prog bC n (.func (.func 116) #[] #[]) [v3] H3 = some (v4, H3) ∧ Abs.scal v4 = some [v4] ∧ storeN 2 (ptrA H.length 0) (.agg #[.bool true, v4]) H3 = some H4 ∧ loadN 2 (ptrA H.length 0) H4 = some (.agg #[.bool true, v4]) ∧ RO H.length H4 v4 (ints (nf z.natAbs)) ∧ Old H.length H H4 ∧ WF H4 := by
      intro H3 v3 l3 r3 wf3 old3 hd3 hl3 hv3
      obtain ⟨v4, s4, r4⟩ := trimmed_run r3 hl3 n (by omega)
      obtain ⟨H4, s5, bx5, old5, wf5, keep5⟩ := (bx2.mono old3).store wf3 (vs := [.bool true, v4]) rfl
      have s6 := bx5.loadAll
      refine ⟨v4, H4, s4, r4.R.scal, s5, s6, ?_, ((oldb.trans (old2.mono oldb.1)).trans (old3.mono oldb.1)).trans old5, wf5⟩
      have hv := hd3.val
      rw [show ((z.natAbs : Nat) : Int) = -z from by omega, ← nf_of_digs hd3 hv3]
      exact (r4.kept keep5).below oldb.1
    have hzneg : decide (z < 0) = true := by simp; omega
    rcases hb' with rfl | rfl
    · obtain ⟨v5, H5, s5, o5, old5, wf5⟩ := o2.pushI wf2 (Nat.le_trans old1.1 hlen2) (by unfold maxA; omega) 1
      obtain ⟨v4, H4, s4, sc4, s6, s7, r4, old4, wf4⟩ := fin H5 v5 _ o5.RO wf5 old5 (hds.app (Dg.one (by omega) (by unfold B; omega))) (by rw [List.length_append, List.length_singleton]; omega) (by rw [val_snoc, hvs, hsl]; omega)
      simp (disch := omega) only [binS_eql, bindO_some, bindF_some, bindX_normal, blkX_exit, condX_true, upd_at, Option.map_some, ↓reduceIte, Nat.reduceEqDiff, decide_true, ↓bindO_some, ↓bindF_some, ↓bindX_normal, ↓condX_true, fin_r, res_nil, pack_1, res_cell aW zW, g2', g3, h10, s5, s4, bW2 true v4 sc4, s6, s7]
      exact ⟨_, _, rfl, ⟨v4, by rw [hzneg], r4⟩, old4, wf4⟩
    · obtain ⟨v4, H4, s4, sc4, s6, s7, r4, old4, wf4⟩ := fin H2 vo _ o2.RO wf2 (Old.refl _ _) hds (by omega) (by rw [hvs]; omega)
      have hone : ¬ (1 : Int) = 0 := by omega
      simp (disch := omega) only [binS_eql, bindO_some, bindF_some, bindX_normal, blkX_exit, condX_false, upd_at, Option.map_some, ↓reduceIte, Nat.reduceEqDiff, decide_false, ↓bindO_some, ↓bindF_some, ↓bindX_normal, ↓condX_false, fin_r, res_nil, pack_1, res_cell aW zW, g2', g3, h10, hone, s4, bW2 true v4 sc4, s6, s7]
      exact ⟨_, _, rfl, ⟨v4, by rw [hzneg], r4⟩, old4, wf4⟩
end Go.Proofs.YtopmcphepoiigaaGreat
namespace Go.Proofs.YtopmcphepoiigaaGreat
open Go Go.Abs Go.Num
set_option maxRecDepth 10000
attribute [local congr] bindO_congr bindF_congr bindX_congr condX_congr iteB_congr binS_congr pickS_congr eqB_congr nilS_congr
theorem clone_run {H : Heap} {v : Value} {l : List Int} (hw : WF H) (hv : R H v (ints l)) (hl : l.length ≤ 10000) (n : Nat) (hn : 10 ≤ n) : OneL H (evB Tryz.prog bC n (.func (.func 71) #[] #[]) [v] H) l := by
  refine run_ofB (F := 9) (Q := fun x => OneL H x l) (fun n hn => ?_) n hn
  rw [body_runS Tryz.func71 rfl (ok_fn (by rfl) Tryz.func71 rfl) (Nat.le_of_ble_eq_true rfl) (D := D0) (by kernel_rfl)]
  have old1 := Old.app H [.cells H.length true []]
  obtain ⟨v2, H2, s2, o2, old2, wf2⟩ := (O.empty (H := H) (Nat.le_refl H.length)).app (hw.app (Nat.le_refl _)) (by simp) (hv.mono old1) (by rw [ints_len]; simp [maxA]; omega)
  have fin : nilS v H (rest none) = some (.bool false, H) → OneL H (some (v2, H2)) l := fun _ => ⟨_, _, rfl, o2, old1.trans old2, wf2⟩
  rcases hv with ⟨rfl, hl0⟩ | ⟨rfl, hl0⟩ | ⟨b, o, f, w, cs, rfl, h⟩
  · have : l = [] := by simpa [ints] using hl0
    subst this
    have hn : ∀ r, nilS (.slice none 0 0) H r = some (.bool true, H) := fun _ => rfl
    simp only [Tryz.f71, es_seq, es_region, es_cond, es_ret, ops_nil, ops_cons, st_move, st_assign, ↓sy_nil uL, hn, bindO_some, bindF_some, bindX_normal, bindX_ret, condX_true, ev_tmp, ev_const, putA, upd_at, frOf_0, ↓reduceIte, Nat.reduceEqDiff, fin_r, res_nil, res_tmp, pack_1, scal_nil, Option.map_some]
    exact ⟨_, _, rfl, O.nil _ _, Old.refl _ _, hw⟩
  · have hn : ∀ r, nilS lostSlice H r = some (.bool false, H) := fun _ => rfl
    simp only [Tryz.f71, es_seq, es_region, es_cond, es_ret, es_skip, ops_nil, ops_cons, st_move, st_assign, ↓sy_nil uL, hn, bindO_some, bindF_some, bindX_normal, condX_false, ev_tmp, ev_const, putA, upd_at, frOf_0, ↓reduceIte, Nat.reduceEqDiff, sy_build0 eL nI, sy_append eL pI, s2, o2.R.scal, fin_r, res_nil, res_tmp, pack_1, Option.map_some]
    exact ⟨_, _, rfl, o2, old1.trans old2, wf2⟩
  · have hn : ∀ r, nilS (sliceA b o (ints l).length 1) H r = some (.bool false, H) := fun _ => rfl
    simp only [Tryz.f71, es_seq, es_region, es_cond, es_ret, es_skip, ops_nil, ops_cons, st_move, st_assign, ↓sy_nil uL, hn, bindO_some, bindF_some, bindX_normal, condX_false, ev_tmp, ev_const, putA, upd_at, frOf_0, ↓reduceIte, Nat.reduceEqDiff, sy_build0 eL nI, sy_append eL pI, s2, o2.R.scal, fin_r, res_nil, res_tmp, pack_1, Option.map_some]
    exact ⟨_, _, rfl, o2, old1.trans old2, wf2⟩
noncomputable def listA : Code := atC [1, 1, 0, 1, 0, 1, 0, 0] ((Tryz.f76.body).getD .skip)
theorem list_loop {B0 : Nat} {H0 : Heap} {v : Value} {l : List Int} (call : CallF) (m nt : Nat) {a : Fr} {H : Heap} {k : Nat} (hk : l.length < k) (hl : l.length ≤ 1000) (hb : ∀ x ∈ l, -4000000000000000000 ≤ x ∧ x ≤ 4000000000000000000)
    (ho : O B0 H v (ints l)) (old : Old B0 H0 H) (hw : WF H) (h3 : a 3 = v) (h11 : a 11 = vi l.length) (h12 : a 12 = vi (0 : Nat)) :
    ∃ x a' H', loopN (evS Tryz.prog call m nt none listA) k a H = some (x, a', H') ∧ x = .exit 0 ∧ O B0 H' v (ints (l.map (- ·))) ∧ Old B0 H0 H' ∧ WF H' ∧ a' 3 = v := by
  refine loop_up l.length (fun i a H' => a 3 = v ∧ a 11 = vi l.length ∧ a 12 = vi i ∧ O B0 H' v (ints (negI l i)) ∧ Old B0 H0 H' ∧ WF H') _ ?_ ?_ hk ⟨h3, h11, h12, by rw [negI_0]; exact ho, old, hw⟩
  · intro i a H' hi ⟨h3, h11, h12, ho, old, hw⟩
    left
    rw [show listA = atC [1, 1, 0, 1, 0, 1, 0, 0] ((Tryz.f76.body).getD .skip) from rfl]
    have hlen := negI_len l i
    have hx := hb _ (getD_mem hi)
    have e1 := negI_get hi
    have e2 : IntKind.i64.wrap (0 - l.getD i 0) = - l.getD i 0 := by rw [wr64 (by omega) (by omega)]; omega
    obtain ⟨H2, es, o2, old2, wf2⟩ := ho.setI hw (i := i) (by omega) (- l.getD i 0)
    have e3 : IntKind.i64.wrap ((i : Int) + 1) = ((i + 1 : Nat) : Int) := by rw [wr64 (by omega) (by omega)]; omega
    have hr := ho.R
    have hlt : (i : Int) < l.length := by omega
    simp (disch := omega) only [Tryz.f76, Option.getD_some, atC, es_seq, es_region, es_cond, es_block, es_skip, ops_nil, ops_cons, st_move, st_assign, sy_addr eL, sy_load aI, sy_store zI, sy_bin, sy_neg, binS_lss, binS_add, bindO_some, bindF_some, bindX_normal, blkX_normal, condX_true, ev_tmp, ev_const, putA, upd_at, Option.map_some, ↓reduceIte, Nat.reduceEqDiff, Int.toNat_natCast, decide_true, ↓bindO_some, ↓bindF_some, ↓bindX_normal, ↓condX_true, h3, h11, h12, hlt, hr.addrI, hr.loadI, e1, e2, es, e3]
    exact ⟨_, _, rfl, by simp only [upd_get, ↓reduceIte, Nat.reduceEqDiff, h3], by simp only [upd_get, ↓reduceIte, Nat.reduceEqDiff, h11], by simp only [upd_get, ↓reduceIte], by rw [← negI_set hi]; exact o2, old.trans old2, wf2⟩
  · intro a H' ⟨h3, h11, h12, ho, old, hw⟩
    rw [show listA = atC [1, 1, 0, 1, 0, 1, 0, 0] ((Tryz.f76.body).getD .skip) from rfl]
    simp (disch := omega) only [Tryz.f76, Option.getD_some, atC, es_seq, es_region, es_cond, es_exit, ops_nil, ops_cons, sy_bin, binS_lss, bindO_some, bindF_some, bindX_normal, bindX_exit, condX_false, ev_tmp, putA, upd_at, ↓reduceIte, decide_false, ↓bindO_some, ↓bindF_some, ↓bindX_normal, ↓bindX_exit, ↓condX_false, h11, h12, Int.lt_irrefl]
    exact ⟨_, _, _, rfl, by simp, rfl, by rw [← negI_all]; exact ho, old, hw, by simp only [upd_get, ↓reduceIte, Nat.reduceEqDiff, h3]⟩
theorem list_run {H : Heap} {w : Value} {z : Int} (hw : WF H) {C : Nat} (hv : Wh C H w z) (hl : (nf z.natAbs).length ≤ 900) (n : Nat) (hn : 1010 ≤ n) :
    OneL H (evB Tryz.prog bC n (.func (.func 76) #[] #[]) [w] H) (nf z) := by
  obtain ⟨v, rfl, hr⟩ := hv
  have hr := hr.R
  generalize hnb : decide (z < 0) = nb
  refine run_ofB (F := 1009) (Q := fun r => OneL H r (nf z)) (fun n hn => ?_) n hn
  rw [body_runS Tryz.func76 rfl (ok_fn (by rfl) Tryz.func76 rfl) (Nat.le_of_ble_eq_true rfl) (D := D0) (by kernel_rfl)]
  have oldb := Old.app H [.cells H.length true [.bool nb, v]]
  have wfb := hw.app (Nat.le_refl H.length) (o := true) (cs := [.bool nb, v])
  have bb := BxM.made (B := H.length) (H := H) (Nat.le_refl _) [.bool nb, v]
  obtain ⟨v1, H1, s1, o1, old1, wf1⟩ := clone_run wfb (hr.mono oldb) (by omega) n (by omega)
  have f0 := bb.faddr 0
  have f1 := bb.faddr 1
  have l1 : loadS (bx (ptrA H.length 0) 1) (H ++ [.cells H.length true [.bool nb, v]]) = some v := bb.load 1
  have l0 : loadS (bx (ptrA H.length 0) 0) H1 = some (.bool nb) := (bb.mono old1).load 0
  have old01 := oldb.trans (old1.mono oldb.1)
  cases nb with
  | true =>
    have hz : z < 0 := by simpa using hnb
    have hlen := o1.R.lenI
    have key := fun (A : Fr) => list_loop (evB Tryz.prog bC n) n Tryz.f76.ntmps (a := A) (k := n) (by omega) (by omega) (nfb _) o1 old1 wf1
    rw [show listA = atC [1, 1, 0, 1, 0, 1, 0, 0] ((Tryz.f76.body).getD .skip) from rfl] at key
    simp only [Tryz.f76, Option.getD_some, atC] at key
    simp (disch := omega) only [Tryz.f76, es_seq, es_region, es_cond, es_block, es_loop, es_skip, es_ret, ops_nil, ops_cons, st_move, st_assign, st_fun, sy_len uL, sy_bin, bindO_some, bindF_some, bindX_normal, condX_true, ev_tmp, ev_const, ev_func, putA, upd_at, Option.map_some, ↓reduceIte, Nat.reduceEqDiff, frOf_0, List.map_cons, List.map_nil, ↓bindO_some, ↓bindF_some, ↓bindX_normal, ↓condX_true, sy_load aL, sy_load aB, sy_faddr fW0, sy_faddr fW1, sy_box, scal_agg, f0, f1, l1, s1, l0, hlen]
    generalize hA : upd _ 12 _ = A
    obtain ⟨r, a', H', e, hr', o2, old2, wf2, h3⟩ := key A (by subst hA; rfl) (by subst hA; rfl) (by subst hA; rfl)
    subst hr'
    rw [e]
    have hlen2 := o2.R.lenI
    rw [List.length_map] at hlen2
    have hne : (nf z.natAbs).length ≠ 0 := fun h => by have := nf_nil.1 (List.eq_nil_of_length_eq_zero h); omega
    have c1 : ¬ ((nf z.natAbs).length : Int) = 0 := by omega
    simp (disch := omega) only [binS_eql, bindO_some, bindF_some, bindX_normal, blkX_exit, condX_false, upd_at, Option.map_some, ↓reduceIte, Nat.reduceEqDiff, decide_false, ↓bindO_some, ↓bindF_some, ↓bindX_normal, ↓condX_false, fin_r, res_nil, res_tmp, pack_1, h3, hlen2, c1, o2.R.scal]
    refine ⟨_, _, rfl, ?_, oldb.trans (old2.mono oldb.1), wf2⟩
    rw [show nf z = (nf z.natAbs).map (- ·) from by rw [nf_neg']; congr 1; omega]
    exact o2.below oldb.1
  | false =>
    have hz : ¬ z < 0 := by simpa using hnb
    have hlen := o1.R.lenI
    rw [nf_natAbs_pos (by omega)] at o1 hlen hl
    by_cases hne : (nf z).length = 0
    · have c1 : (((nf z).length : Nat) : Int) = 0 := by omega
      have hnil := List.eq_nil_of_length_eq_zero hne
      simp (disch := omega) only [Tryz.f76, es_seq, es_region, es_cond, es_skip, es_ret, ops_nil, ops_cons, st_move, st_assign, st_fun, sy_len uL, sy_bin, binS_eql, bindO_some, bindF_some, bindX_normal, bindX_ret, condX_true, condX_false, ev_tmp, ev_const, ev_func, putA, upd_at, Option.map_some, ↓reduceIte, Nat.reduceEqDiff, frOf_0, List.map_cons, List.map_nil, decide_true, ↓bindO_some, ↓bindF_some, ↓bindX_normal, ↓bindX_ret, ↓condX_true, ↓condX_false, fin_r, res_nil, res_tmp, pack_1, scal_nil, sy_load aL, sy_load aB, sy_faddr fW0, sy_faddr fW1, sy_box, scal_agg, f0, f1, l1, s1, l0, hlen, c1]
      rw [hnil]
      exact ⟨_, _, rfl, O.nil _ _, old01, wf1⟩
    · have c1 : ¬ (((nf z).length : Nat) : Int) = 0 := by omega
      simp (disch := omega) only [Tryz.f76, es_seq, es_region, es_cond, es_skip, es_ret, ops_nil, ops_cons, st_move, st_assign, st_fun, sy_len uL, sy_bin, binS_eql, bindO_some, bindF_some, bindX_normal, condX_false, ev_tmp, ev_const, ev_func, putA, upd_at, Option.map_some, ↓reduceIte, Nat.reduceEqDiff, frOf_0, List.map_cons, List.map_nil, decide_false, ↓bindO_some, ↓bindF_some, ↓bindX_normal, ↓condX_false, fin_r, res_nil, res_tmp, pack_1, sy_load aL, sy_load aB, sy_faddr fW0, sy_faddr fW1, sy_box, scal_agg, f0, f1, l1, s1, l0, hlen, c1, o1.R.scal]
      exact ⟨_, _, rfl, o1.below oldb.1, old01, wf1⟩
theorem small_run {H : Heap} {z : Int} (hw : WF H) (h1 : -4000000000000000000 ≤ z) (h2 : z ≤ 4000000000000000000) (n : Nat) (hn : 2002 ≤ n) :
    OneW H (evB Tryz.prog bC n (.func (.func 80) #[] #[]) [vi z] H) z := by
  refine run_ofB (F := 2001) (Q := fun r => OneW H r z) (fun n hn => ?_) n hn
  rw [body_runS Tryz.func80 rfl (ok_fn (by rfl) Tryz.func80 rfl) (Nat.le_of_ble_eq_true rfl) (D := D0) (by kernel_rfl)]
  have oldb := Old.app H [.cells H.length true [.bool false, .slice none 0 0]]
  have wfb := hw.app (Nat.le_refl H.length) (o := true) (cs := [.bool false, .slice none 0 0])
  have bb := BxM.made (B := H.length) (H := H) (Nat.le_refl _) [.bool false, .slice none 0 0]
  have oldc := Old.app (H ++ [.cells H.length true [.bool false, .slice none 0 0]]) [.cells (H ++ [Blk.cells H.length true [.bool false, .slice none 0 0]]).length true [vi z]]
  obtain ⟨w, H2, s2, ⟨v, rfl, hv⟩, old2, wf2⟩ := read_run (wfb.app (Nat.le_refl _)) (.one (R.push (f := (H ++ [Blk.cells H.length true [.bool false, .slice none 0 0]]).length) (c := vi z)) h1 h2) n (by omega)
  have old12 := oldc.trans (old2.mono oldc.1)
  obtain ⟨H3, s3, bb3, old3, wf3, keep3⟩ := (bb.mono old12).store wf2 (vs := [.bool (decide (z < 0)), v]) rfl
  have s3 : storeN 2 (ptrA H.length 0) (.agg #[.bool (decide (z < 0)), v]) H2 = some H3 := s3
  have s4 : loadN 2 (ptrA H.length 0) H3 = some (.agg #[.bool (decide (z < 0)), v]) := bb3.loadAll
  simp (disch := omega) only [Tryz.f80, es_seq, es_region, es_ret, ops_nil, ops_cons, st_move, st_fun, sy_build1 eL oI, bindO_some, bindF_some, bindX_normal, ev_tmp, ev_func, putA, upd_at, Option.map_some, ↓reduceIte, Nat.reduceEqDiff, frOf_0, List.map_cons, List.map_nil, ↓bindO_some, ↓bindF_some, ↓bindX_normal, fin_r, res_nil, pack_1, scal_vi, sy_storeN zW, sy_alloc iW scal_agg, res_cell aW zW, s2, s3, s4]
  exact ⟨_, _, rfl, ⟨v, rfl, ((hv.below oldc.1).kept keep3).below oldb.1⟩, (oldb.trans (old12.mono oldb.1)).trans old3, wf3⟩
end Go.Proofs.YtopmcphepoiigaaGreat
namespace Go.Abs
theorem O.readArg {B : Nat} {H : Heap} {v : Value} {l : List Int} (h : O B H v (ints l)) : (v = .slice none 0 0 ∧ l = [] ∧ readArg H v = some (.imm (.slice none 0 0))) ∨ readArg H v = some (.li (ints l)) := by
  rcases h with ⟨rfl, h⟩ | ⟨b, f, rfl, _, _, hb⟩
  · refine .inl ⟨rfl, ?_, rfl⟩
    cases l with
    | nil => rfl
    | cons x l => cases h
  · refine .inr ?_
    unfold Abs.readArg
    simp only [sliceA, hb]
    have hall : (ints l).all plain = true := by
      rw [List.all_eq_true]
      intro v hv
      obtain ⟨z, _, rfl⟩ := List.mem_map.1 hv
      rfl
    rw [if_pos ⟨by omega, by rw [List.drop_zero]; exact hall⟩, List.drop_zero, List.take_length]
end Go.Abs
namespace Go.Proofs.YtopmcphepoiigaaGreat
open Go Go.Abs Go.Num
set_option maxRecDepth 10000
attribute [local congr] bindO_congr bindF_congr bindX_congr condX_congr iteB_congr binS_congr pickS_congr eqB_congr nilS_congr clsW_congr maxS_congr minS_congr
theorem cyc_run {B : Nat} {H : Heap} {v : Value} {f : List Int} {n : Nat} (hw : WF H) (hv : O B H v (ints f)) (hn : n ≤ 5) (hf : f ∈ permsP n) (m : Nat) : OneL H (evB Tryz.prog bC m (.func (.func 87) #[] #[]) [v] H) (cycP f) := by
  have key : OneL H (bC (.func (.func 87) #[] #[]) [v] H) (cycP f) := by
    show OneL H (tabC cycS (.func (.func 87) #[] #[]) [v] H) (cycP f)
    rcases hv.readArg with ⟨rfl, rfl, hr⟩ | hr
    · have e : tabC cycS (.func (.func 87) #[] #[]) [.slice none 0 0] H = some (.slice none 0 0, H ++ []) := by
        unfold tabC
        simp only [mapO, hr]
        simp only [cycS_nil]
        rfl
      rw [e, List.append_nil]
      exact ⟨_, _, rfl, .inl ⟨rfl, rfl⟩, Old.refl _ _, hw⟩
    · have hs := cycS_li hn hf
      cases hc : cycP f with
      | nil =>
        have e : tabC cycS (.func (.func 87) #[] #[]) [v] H = some (.slice none 0 0, H ++ []) := by
          unfold tabC
          simp only [mapO, hr, hs, cycR, hc]
          rfl
        rw [e, List.append_nil]
        exact ⟨_, _, rfl, .inl ⟨rfl, rfl⟩, Old.refl _ _, hw⟩
      | cons x l =>
        have ren : ∀ l : List Int, mapO (renS fun b => some (b + H.length)) (ints l) = some (ints l) := by
          intro l
          induction l with
          | nil => rfl
          | cons z l ih => unfold ints at ih ⊢; rw [List.map_cons, mapO, ih]; rfl
        have e : tabC cycS (.func (.func 87) #[] #[]) [v] H = some (sliceA H.length 0 (x :: l).length 1, H ++ [.cells H.length true (ints (x :: l))]) := by
          unfold tabC
          simp only [mapO, hr, hs, cycR, hc, mkBlks, ren]
          show some (sliceA (0 + H.length) 0 (x :: l).length 1, _) = _
          rw [Nat.zero_add]
        rw [e]
        have o := O.made (B := H.length) (H := H) (Nat.le_refl _) (ints (x :: l))
        rw [ints_len] at o
        exact ⟨_, _, rfl, o, Old.app _ _, hw.app (Nat.le_refl _)⟩
  cases m with
  | zero => exact key
  | succ m =>
    obtain ⟨w, H', e, h⟩ := key
    refine ⟨w, H', ?_, h⟩
    show (match bC (.func (.func 87) #[] #[]) [v] H with | some r => some r | none => _) = _
    rw [e]
noncomputable def kdA : Code := atC [1, 1, 1, 0, 1, 0, 0] ((Tryz.f45.body).getD .skip)
noncomputable def kdB : Code := atC [1, 1, 1, 1, 0, 1, 0, 0] ((Tryz.f45.body).getD .skip)
theorem set_mid (l : List Int) (k : Nat) (x : Int) : (l ++ List.replicate (k + 1) 0).set l.length x = (l ++ [x]) ++ List.replicate k 0 := by
  rw [List.set_append_right _ _ (Nat.le_refl _), Nat.sub_self, List.replicate_succ, List.set_cons_zero, List.append_assoc]; rfl
theorem kd_back {B C : Nat} {H0 H : Heap} {vr vu vf vb : Value} {r u f : List Int} {N : Nat} (hN : N ≤ 20) (hr : Rng N r) (hu : Rng N u) (rr : R H0 vr (ints r)) (ru : R H0 vu (ints u)) (hB : B = H0.length) (hC : B ≤ C) (oldC : Old B H0 H) (hw : WF H) (of : OM B C H vf (ints f)) (ob : O C H vb (ints (List.replicate r.length 0))) (call : CallF) (m nt : Nat) {a : Fr} {k : Nat} (hk : N < k)
    (h0 : a 0 = vr) (h1 : a 1 = vu) (h5 : a 5 = vf) (h6 : a 6 = vb) (h16 : a 16 = vi N) (h17 : a 17 = vi (0 : Nat)) :
    ∃ x a' H', loopN (evS Tryz.prog call m nt none kdA) k a H = some (x, a', H') ∧ x = .exit 0 ∧ a' 0 = vr ∧ a' 1 = vu ∧ a' 5 = vf ∧ a' 6 = vb ∧ OM B C H' vf (ints f) ∧ O C H' vb (ints (backP r u)) ∧ Old B H0 H' ∧ WF H' := by
  have hrl := hr.len
  have hul := hu.len
  refine loop_up N (fun i a H' => a 0 = vr ∧ a 1 = vu ∧ a 5 = vf ∧ a 6 = vb ∧ a 16 = vi N ∧ a 17 = vi i ∧ OM B C H' vf (ints f) ∧ O C H' vb (ints ((List.range i).foldl (backS r u) (List.replicate r.length 0))) ∧ Old B H0 H' ∧ WF H') _ ?_ ?_ hk ⟨h0, h1, h5, h6, h16, h17, of, ob, oldC, hw⟩
  · intro i a H' hi ⟨h0, h1, h5, h6, h16, h17, of, ob, old, hw⟩
    left
    rw [show kdA = atC [1, 1, 1, 0, 1, 0, 0] ((Tryz.f45.body).getD .skip) from rfl]
    have hlt : (i : Int) < (N : Int) := by omega
    have e1 : IntKind.i64.wrap ((i : Int) + 1) = ((i + 1 : Nat) : Int) := by rw [wr64 (by omega) (by omega)]; omega
    have r1 := rr.mono (old.mono (by omega))
    have u1 := ru.mono (old.mono (by omega))
    have bu := hu.getD hi
    have br := hr.getD (i := (u.getD i 0).toNat) (by omega)
    have hb := (back_rng (u := u) hr (Nat.le_of_lt hi)).len
    have a1 : addrS 1 vr (vi (u.getD i 0)) = some (pt vr (u.getD i 0).toNat) := r1.addrI (by omega) (by omega)
    have l1 := r1.loadI (i := (u.getD i 0).toNat) (by omega)
    have a2 : addrS 1 vb (vi (r.getD (u.getD i 0).toNat 0)) = some (pt vb (r.getD (u.getD i 0).toNat 0).toNat) := ob.R.addrI (by omega) (by omega)
    obtain ⟨H2, es, ob2, old2, wf2⟩ := ob.setI hw (i := (r.getD (u.getD i 0).toNat 0).toNat) (by omega) (i : Int)
    simp (disch := omega) only [Tryz.f45, Option.getD_some, atC, es_seq, es_region, es_cond, es_block, es_skip, ops_nil, ops_cons, st_move, st_assign, sy_addr eL, sy_load aI, sy_store zI, sy_bin, binS_lss, binS_add, bindO_some, bindF_some, bindX_normal, blkX_normal, condX_true, ev_tmp, ev_const, putA, upd_at, Option.map_some, ↓reduceIte, Nat.reduceEqDiff, Int.toNat_natCast, decide_true, ↓bindO_some, ↓bindF_some, ↓bindX_normal, ↓condX_true, h0, h1, h6, h16, h17, hlt, u1.addrI, u1.loadI, a1, l1, a2, es, e1]
    refine ⟨_, _, rfl, ?_, ?_, ?_, ?_, ?_, rfl, of.mono old2, ?_, old.trans (old2.mono hC), wf2⟩
    · exact h0
    · exact h1
    · exact h5
    · exact h6
    · exact h16
    · rw [foldl_range_succ]; exact ob2
  · intro a H' ⟨h0, h1, h5, h6, h16, h17, of, ob, old, hw⟩
    rw [show kdA = atC [1, 1, 1, 0, 1, 0, 0] ((Tryz.f45.body).getD .skip) from rfl]
    simp (disch := omega) only [Tryz.f45, Option.getD_some, atC, es_seq, es_region, es_cond, es_exit, ops_nil, ops_cons, sy_bin, binS_lss, bindO_some, bindF_some, bindX_normal, bindX_exit, condX_false, ev_tmp, putA, upd_at, ↓reduceIte, decide_false, ↓bindO_some, ↓bindF_some, ↓bindX_normal, ↓bindX_exit, ↓condX_false, h16, h17, Int.lt_irrefl]
    refine ⟨_, _, _, rfl, by simp, rfl, h0, h1, h5, h6, of, ?_, old, hw⟩
    unfold backP
    rw [hrl]
    rw [hrl] at ob
    exact ob
theorem kd_comm {B C : Nat} {H0 H : Heap} {vr vu vf vb : Value} {r u b : List Int} {N : Nat} (hN : N ≤ 20) (hr : Rng N r) (hu : Rng N u) (hb : Rng N b) (rr : R H0 vr (ints r)) (ru : R H0 vu (ints u)) (hB : B = H0.length) (hC : B ≤ C) (oldC : Old B H0 H) (hw : WF H) (of : OM B C H vf (ints (List.replicate N 0))) (ob : O C H vb (ints b)) (call : CallF) (m nt : Nat) {a : Fr} {k : Nat} (hk : N < k)
    (h0 : a 0 = vr) (h1 : a 1 = vu) (h5 : a 5 = vf) (h6 : a 6 = vb) (h32 : a 32 = vi N) (h33 : a 33 = vi (0 : Nat)) :
    ∃ x a' H', loopN (evS Tryz.prog call m nt none kdB) k a H = some (x, a', H') ∧ x = .exit 2 ∧ a' 5 = vf ∧ OM B C H' vf (ints ((List.range N).map (commV r u b))) ∧ Old B H0 H' ∧ WF H' := by
  have hrl := hr.len
  have hul := hu.len
  have hbl := hb.len
  refine loop_up N (fun i a H' => a 0 = vr ∧ a 1 = vu ∧ a 5 = vf ∧ a 6 = vb ∧ a 32 = vi N ∧ a 33 = vi i ∧ OM B C H' vf (ints ((List.range i).map (commV r u b) ++ List.replicate (N - i) 0)) ∧ O C H' vb (ints b) ∧ Old B H0 H' ∧ WF H') _ ?_ ?_ hk ⟨h0, h1, h5, h6, h32, h33, of, ob, oldC, hw⟩
  · intro i a H' hi ⟨h0, h1, h5, h6, h32, h33, of, ob, old, hw⟩
    left
    rw [show kdB = atC [1, 1, 1, 1, 0, 1, 0, 0] ((Tryz.f45.body).getD .skip) from rfl]
    have hlt : (i : Int) < (N : Int) := by omega
    have e1 : IntKind.i64.wrap ((i : Int) + 1) = ((i + 1 : Nat) : Int) := by rw [wr64 (by omega) (by omega)]; omega
    have r1 := rr.mono (old.mono (by omega))
    have u1 := ru.mono (old.mono (by omega))
    have br := hr.getD hi
    have bu := hu.getD (i := (r.getD i 0).toNat) (by omega)
    have bb := hb.getD (i := (u.getD (r.getD i 0).toNat 0).toNat) (by omega)
    have a1 : addrS 1 vu (vi (r.getD i 0)) = some (pt vu (r.getD i 0).toNat) := u1.addrI (by omega) (by omega)
    have l1 := u1.loadI (i := (r.getD i 0).toNat) (by omega)
    have a2 : addrS 1 vb (vi (u.getD (r.getD i 0).toNat 0)) = some (pt vb (u.getD (r.getD i 0).toNat 0).toNat) := ob.R.addrI (by omega) (by omega)
    have l2 := ob.R.loadI (i := (u.getD (r.getD i 0).toNat 0).toNat) (by omega)
    have hfl : ((List.range i).map (commV r u b) ++ List.replicate (N - i) 0).length = N := by simp; omega
    have a3 : addrS 1 vf (vi (i : Int)) = some (pt vf i) := of.O.R.addrI (by omega) (by omega)
    obtain ⟨H2, es, of2, old2, wf2, kp⟩ := of.setI hw (i := i) (by omega) (b.getD (u.getD (r.getD i 0).toNat 0).toNat 0)
    have es2 : ((List.range i).map (commV r u b) ++ List.replicate (N - i) 0).set i (b.getD (u.getD (r.getD i 0).toNat 0).toNat 0) = (List.range (i + 1)).map (commV r u b) ++ List.replicate (N - (i + 1)) 0 := by
      have h := set_mid ((List.range i).map (commV r u b)) (N - i - 1) (b.getD (u.getD (r.getD i 0).toNat 0).toNat 0)
      rw [List.length_map, List.length_range, show N - i - 1 + 1 = N - i from by omega] at h
      rw [h, List.range_succ, List.map_append]
      rfl
    rw [es2] at of2
    simp (disch := omega) only [Tryz.f45, Option.getD_some, atC, es_seq, es_region, es_cond, es_block, es_skip, ops_nil, ops_cons, st_move, st_assign, sy_addr eL, sy_load aI, sy_store zI, sy_bin, binS_lss, binS_add, bindO_some, bindF_some, bindX_normal, blkX_normal, condX_true, ev_tmp, ev_const, putA, upd_at, Option.map_some, ↓reduceIte, Nat.reduceEqDiff, Int.toNat_natCast, decide_true, ↓bindO_some, ↓bindF_some, ↓bindX_normal, ↓condX_true, h0, h1, h5, h6, h32, h33, hlt, r1.addrI, r1.loadI, a1, l1, a2, l2, a3, es, e1]
    refine ⟨_, _, rfl, ?_, ?_, ?_, ?_, ?_, rfl, of2, kp _ _ ob, old.trans old2, wf2⟩
    · exact h0
    · exact h1
    · exact h5
    · exact h6
    · exact h32
  · intro a H' ⟨h0, h1, h5, h6, h32, h33, of, ob, old, hw⟩
    rw [show kdB = atC [1, 1, 1, 1, 0, 1, 0, 0] ((Tryz.f45.body).getD .skip) from rfl]
    simp (disch := omega) only [Tryz.f45, Option.getD_some, atC, es_seq, es_region, es_cond, es_exit, ops_nil, ops_cons, sy_bin, binS_lss, bindO_some, bindF_some, bindX_normal, bindX_exit, condX_false, ev_tmp, putA, upd_at, ↓reduceIte, decide_false, ↓bindO_some, ↓bindF_some, ↓bindX_normal, ↓bindX_exit, ↓condX_false, h32, h33, Int.lt_irrefl]
    refine ⟨_, _, _, rfl, by simp, rfl, h5, ?_, old, hw⟩
    rw [Nat.sub_self, List.replicate_zero, List.append_nil] at of
    exact of
theorem kind_run {H : Heap} {vr vu : Value} {r u : List Int} {N : Nat} (hw : WF H) (hN : N ≤ 5) (hr : r ∈ permsP N) (hu : u ∈ permsP N) (hc : commP r u ∈ permsP N) (rr : R H vr (ints r)) (ru : R H vu (ints u)) (n : Nat) (hn : 30 ≤ n) : OneL H (evB Tryz.prog bC n (.func (.func 45) #[] #[]) [vr, vu] H) (kindP r u) := by
  have gr := perms_rng r hr
  have gu := perms_rng u hu
  have hrl := gr.len
  refine run_ofB (F := 29) (Q := fun x => OneL H x (kindP r u)) (fun n hn => ?_) n hn
  rw [body_runS Tryz.func45 rfl (ok_fn (by rfl) Tryz.func45 rfl) (Nat.le_of_ble_eq_true rfl) (D := D0) (by kernel_rfl)]
  have hz := zeros_I N
  have lr := rr.lenI
  rw [hrl] at lr
  have c2 : (0 : Int) ≤ (N : Int) := by omega
  have c3 : (N : Int) ≤ 1048576 := by omega
  have hlz : (ints (List.replicate N (0 : Int))).length = N := by rw [ints_len, List.length_replicate]
  have of := O.made (B := H.length) (Nat.le_refl H.length) (ints (List.replicate N (0 : Int)))
  rw [hlz] at of
  have old1 := Old.app H [.cells H.length true (ints (List.replicate N (0 : Int)))]
  have wf1 := hw.app (Nat.le_refl H.length) (o := true) (cs := ints (List.replicate N (0 : Int)))
  generalize hH1 : H ++ [Blk.cells H.length true (ints (List.replicate N (0 : Int)))] = H1 at *
  have lr1 := (rr.mono old1).lenI
  rw [hrl] at lr1
  have om := OM.of of wf1
  have ob := O.made (B := H1.length) (Nat.le_refl H1.length) (ints (List.replicate N (0 : Int)))
  rw [hlz] at ob
  have old2 := Old.app H1 [.cells H1.length true (ints (List.replicate N (0 : Int)))]
  have wf2 := wf1.app (Nat.le_refl H1.length) (o := true) (cs := ints (List.replicate N (0 : Int)))
  generalize hH2 : H1 ++ [Blk.cells H1.length true (ints (List.replicate N (0 : Int)))] = H2 at *
  have t2 := old1.trans (old2.mono old1.1)
  have lr2 := (rr.mono t2).lenI
  rw [hrl] at lr2
  have key := fun (A : Fr) => kd_back (a := A) (u := u) (by omega) gr gu rr ru rfl old1.1 t2 wf2 (om.mono old2) (by rw [hrl]; exact ob) (evB Tryz.prog bC n) n Tryz.f45.ntmps (k := n) (by omega)
  rw [show kdA = atC [1, 1, 1, 0, 1, 0, 0] ((Tryz.f45.body).getD .skip) from rfl] at key
  simp only [Tryz.f45, Option.getD_some, atC] at key
  simp (disch := omega) only [Tryz.f45, es_seq, es_region, es_block, es_loop, es_ret, ops_nil, ops_cons, st_move, st_assign, st_fun, sy_len uL, sy_make eL yI (by decide), bindO_some, bindF_some, bindX_normal, ev_tmp, ev_const, ev_func, putA, upd_at, Option.map_some, ↓reduceIte, Nat.reduceEqDiff, Int.toNat_natCast, frOf_0, List.map_cons, List.map_nil, ↓bindO_some, ↓bindF_some, ↓bindX_normal, lr, c2, c3, Int.le_refl, and_self, hz, hH1, hH2]
  generalize hA : upd _ 17 _ = A
  obtain ⟨x, a', H3, e, rfl, g0, g1, g5, g6, om3, ob3, old3, wf3⟩ := key A (by subst hA; rfl) (by subst hA; rfl) (by subst hA; rfl) (by subst hA; rfl) (by subst hA; rfl) (by subst hA; rfl)
  have lr3 := (rr.mono old3).lenI
  rw [hrl] at lr3
  have gb := back_rng (u := u) gr (Nat.le_refl N)
  rw [show (List.range N).foldl (backS r u) (List.replicate r.length 0) = backP r u from by unfold backP; rw [hrl]] at gb
  have key2 := fun (A : Fr) => kd_comm (a := A) (by omega) gr gu gb rr ru rfl old1.1 old3 wf3 om3 ob3 (evB Tryz.prog bC n) n Tryz.f45.ntmps (k := n) (by omega)
  rw [show kdB = atC [1, 1, 1, 1, 0, 1, 0, 0] ((Tryz.f45.body).getD .skip) from rfl] at key2
  simp only [Tryz.f45, Option.getD_some, atC] at key2
  rw [e]
  clear e key
  simp (disch := omega) only [bindO_some, bindF_some, bindX_normal, blkX_exit, Option.map_some, ↓reduceIte, ↓bindO_some, ↓bindF_some, ↓bindX_normal, g0, lr3]
  generalize hA2 : upd _ 33 _ = A2
  obtain ⟨x, a2, H4, e, rfl, k5, om4, old4, wf4⟩ := key2 A2 (by subst hA2; exact g0) (by subst hA2; exact g1) (by subst hA2; exact g5) (by subst hA2; exact g6) (by subst hA2; rfl) (by subst hA2; rfl)
  rw [e]
  clear e key2
  rw [show (List.range N).map (commV r u (backP r u)) = commP r u from by unfold commP; rw [hrl]] at om4
  obtain ⟨w, H5, s5, o5, old5, wf5⟩ := cyc_run wf4 om4.O hN hc n
  simp (disch := omega) only [bindO_some, bindF_some, bindX_normal, blkX_exit, upd_at, Option.map_some, ↓reduceIte, ↓bindO_some, ↓bindF_some, ↓bindX_normal, fin_r, res_nil, res_tmp, pack_1, k5, s5, o5.R.scal]
  exact ⟨_, _, rfl, o5.below old4.1, old4.trans (old5.mono old4.1), wf5⟩
end Go.Proofs.YtopmcphepoiigaaGreat
namespace Go.Proofs.YtopmcphepoiigaaGreat
open Go Go.Abs Go.Num
set_option maxRecDepth 10000
attribute [local congr] bindO_congr bindF_congr bindX_congr condX_congr iteB_congr binS_congr pickS_congr eqB_congr nilS_congr clsW_congr maxS_congr minS_congr
theorem uBl : Tryz.prog.underlying 98 = some (.slice 4) := by kernel_rfl
theorem eBl : sliceElem Tryz.prog 98 = some (4, 1) := by kernel_rfl
theorem yB : bytesT Tryz.prog 4 = some 1 := by kernel_rfl
def bools (l : List Bool) : List Value := l.map .bool
theorem bools_len (l : List Bool) : (bools l).length = l.length := by unfold bools; simp
theorem bools_set (l : List Bool) (i : Nat) (x : Bool) : (bools l).set i (.bool x) = bools (l.set i x) := by unfold bools; rw [List.map_set]
theorem bools_get {l : List Bool} {i : Nat} (h : i < l.length) : (bools l)[i]? = some (.bool (l.getD i true)) := by
  unfold bools
  rw [List.getElem?_map, List.getD_eq_getElem?_getD, List.getElem?_eq_getElem h]; rfl
theorem zeros_B (n : Nat) : zeros Tryz.prog 4 1 n = some (bools (List.replicate n false)) := by
  have h : ∀ n : Nat, repl n [.bool false] = bools (List.replicate n false) := by
    intro n
    induction n with
    | zero => rfl
    | succ n ih => rw [repl, ih, List.replicate_succ]; rfl
  have e : zeros Tryz.prog 4 1 n = some (repl n [.bool false]) := by
    have h0 : zeroT Tryz.prog 4 = some (.bool false) := by kernel_rfl
    unfold zeros
    rw [h0]
    rfl
  rw [e, h]
theorem own_R {H : Heap} {b f : Nat} {cs : List Value} (hb : H[b]? = some (.cells f true cs)) : R H (sliceA b 0 cs.length 1) cs := .inr (.inr ⟨b, 0, f, true, cs, rfl, hb, by simp, by simp⟩)
def QL (G : Nat → Prop) (H : Heap) (vs : List Value) (x : List Int) : Prop := ∃ v, vs = [v] ∧ RI (fun b => ¬G b) H v (ints x)
structure ArS (B : Nat) (S : Nat → Prop) (H0 : Heap) (bu fl : Nat) (us : List Bool) (G : Nat → Prop) (H : Heap) : Prop where
  wf : WF H
  gok : GOk B G H
  low : ∀ b, b < B → ¬S b → H[b]? = H0[b]?
  used : H[bu]? = some (.cells bu true (bools us))
  gu : ¬G bu
  gl : ¬G fl
  ne : fl ≠ bu
  hu : B ≤ bu
  hl : B ≤ fl
theorem split_at {α : Type} (N i : Nat) (h : i < N) (f : Nat → List α) : (List.range N).flatMap f = (List.range i).flatMap f ++ f i ++ ((List.range N).drop (i + 1)).flatMap f := by
  have e : List.range N = List.range i ++ i :: (List.range N).drop (i + 1) := by
    have h1 := List.take_append_drop i (List.range N)
    rw [range_drop h] at h1
    rw [List.take_range, Nat.min_eq_left (by omega)] at h1
    exact h1.symm
  conv => lhs; rw [e]
  rw [List.flatMap_append, List.flatMap_cons, List.append_assoc]
noncomputable def arA : Code := atC [1, 1, 0, 1, 0, 0] ((Tryz.f86.body).getD .skip)
theorem ars_low {B : Nat} {S : Nat → Prop} {H0 H H' : Heap} {bu fl : Nat} {us : List Bool} {G : Nat → Prop} (h : ArS B S H0 bu fl us G H) {f : Nat} (hf : B ≤ f) {k : Nat} (hk : ∀ (d : Nat) (x : Blk), H[d]? = some x → d ≠ f → famLe f k x → H'[d]? = some x) : ∀ b, b < B → ¬S b → H'[b]? = H0[b]? := by
  intro b hb hs
  rw [← h.low b hb hs]
  have hlt : b < H.length := Nat.lt_of_lt_of_le hb h.gok.len
  have hx : H[b]? = some H[b] := List.getElem?_eq_getElem hlt
  rw [hx]
  refine hk b _ hx (by omega) (famLe_ne fun g o cs e => ?_)
  rw [e] at hx
  have := h.wf b g o cs hx
  omega
theorem ars_keep {G : Nat → Prop} {H H' : Heap} {f : Nat} (hf : ¬G f) (hl : H.length ≤ H'.length) {k : Nat} (hk : ∀ (d : Nat) (x : Blk), H[d]? = some x → d ≠ f → famLe f k x → H'[d]? = some x) : KeepG G H H' := by
  refine ⟨hl, fun b x hb hx hi => hk b x hx (fun e => hf (e ▸ hb)) (famLe_ne fun g o cs e => ?_)⟩
  subst e
  exact fun e => hf (e ▸ hi)
section
variable {N F B : Nat} {Y : Value} {S : Nat → Prop} {I : (Nat → Prop) → List (List Int) → Heap → Prop} {items : List (List Int)} {H0 : Heap} {bu fl : Nat}
def ArrOk (N F B : Nat) (Y : Value) (S : Nat → Prop) (I : (Nat → Prop) → List (List Int) → Heap → Prop) (items : List (List Int)) (H0 : Heap) (bu fl k : Nat) : Prop :=
  ∀ (us : List Bool) (l : List Int) (bl : Nat) (G : Nat → Prop) (H1 : Heap) (done rest : List (List Int)), us.length = N → l.length + k = N → items = done ++ arrP k us l ++ rest → ArS B S H0 bu fl us G H1 → H1[bl]? = some (.cells fl true (ints l)) → ¬G bl → bl ≠ bu → I G done H1 →
    ∀ n, F + k + 60 ≤ n → ∃ G' H2, evB Tryz.prog bC n (.func (.func 86) #[] #[]) [sliceA bl 0 l.length 1, sliceA bu 0 N 1, Y] H1 = some (.bool true, H2) ∧ ArS B S H0 bu fl us G' H2 ∧ I G' (done ++ arrP k us l) H2 ∧ (∀ b, G' b → G b ∨ H1.length ≤ b) ∧ H1.length ≤ H2.length ∧
      ∀ (d : Nat) (o : Bool) (cs : List Value), H1[d]? = some (.cells fl o cs) → ¬G d → d ≠ bu → cs.length ≤ l.length → H2[d]? = some (.cells fl o cs)
theorem arr_leaf (hN : N ≤ 20) (he : Eats (fun n => evB Tryz.prog bC n) F Y B S items QL I) : ArrOk N F B Y S I items H0 bu fl 0 := by
  intro us l bl G H1 done rest hus hl hitems hs hbl hgl hbu hI n hn
  refine run_ofB (F := F + 59) (Q := fun r => ∃ G' H2, r = some (.bool true, H2) ∧ ArS B S H0 bu fl us G' H2 ∧ I G' (done ++ arrP 0 us l) H2 ∧ (∀ b, G' b → G b ∨ H1.length ≤ b) ∧ H1.length ≤ H2.length ∧ ∀ (d : Nat) (o : Bool) (cs : List Value), H1[d]? = some (.cells fl o cs) → ¬G d → d ≠ bu → cs.length ≤ l.length → H2[d]? = some (.cells fl o cs)) (fun n hn => ?_) n (by omega)
  rw [body_runS Tryz.func86 rfl (ok_fn (by rfl) Tryz.func86 rfl) (Nat.le_of_ble_eq_true rfl) (D := D0) (by kernel_rfl)]
  have rl := own_R hbl
  have ru := own_R hs.used
  rw [ints_len] at rl
  rw [bools_len, hus] at ru
  have ll := rl.lenI
  have lu := ru.len
  rw [bools_len, hus] at lu
  have c1 : decide ((l.length : Int) = (N : Int)) = true := decide_eq_true (by omega)
  obtain ⟨H2, s1, wf2, k2, low2, i2⟩ := he.step n (by omega) G done l rest [sliceA bl 0 l.length 1] H1 (by rw [hitems]; simp [arrP]) hs.wf hs.gok hI ⟨_, rfl, .inr (.inr ⟨bl, 0, fl, true, ints l, by rw [ints_len], hgl, hs.gl, hbl, by simp, by simp⟩)⟩
  simp (disch := omega) only [Tryz.f86, es_seq, es_region, es_cond, es_ret, ops_nil, ops_cons, st_move, st_assign, st_fun, sy_len uL, sy_bin, binS_eql, bindO_some, bindF_some, bindX_normal, bindX_ret, condX_true, ev_tmp, ev_const, putA, upd_at, Option.map_some, ↓reduceIte, Nat.reduceEqDiff, frOf_0, frOf_1, frOf_2, List.map_cons, List.map_nil, ↓bindO_some, ↓bindF_some, ↓bindX_normal, ↓bindX_ret, ↓condX_true, fin_r, res_nil, res_tmp, pack_1, scal_bool, sy_len uBl, ll, lu, c1, s1]
  refine ⟨extG G H1 H2, H2, rfl, ⟨wf2, hs.gok.ext k2.1, fun b hb hns => by rw [low2 b hb hns]; exact hs.low b hb hns, k2.2 bu _ hs.gu hs.used hs.gu, ?_, ?_, hs.ne, hs.hu, hs.hl⟩, i2, fun b hb => hb.imp id fun h => h.1, k2.1, fun d o cs hd hg _ _ => k2.2 d _ hg hd hs.gl⟩
  · rintro (h | h)
    · exact hs.gu h
    · have := lt_of_blk hs.used; omega
  · rintro (h | h)
    · exact hs.gl h
    · have := lt_of_blk hbl
      have := hs.wf bl fl true _ hbl
      omega
theorem arr_node (hN : N ≤ 20) (he : Eats (fun n => evB Tryz.prog bC n) F Y B S items QL I) {k : Nat} (ih : ArrOk N F B Y S I items H0 bu fl k) : ArrOk N F B Y S I items H0 bu fl (k + 1) := by
  intro us l bl G H1 done rest hus hl hitems hs hbl hgl hbu hI n hn
  refine run_ofB (F := F + k + 60) (Q := fun r => ∃ G' H2, r = some (.bool true, H2) ∧ ArS B S H0 bu fl us G' H2 ∧ I G' (done ++ arrP (k + 1) us l) H2 ∧ (∀ b, G' b → G b ∨ H1.length ≤ b) ∧ H1.length ≤ H2.length ∧ ∀ (d : Nat) (o : Bool) (cs : List Value), H1[d]? = some (.cells fl o cs) → ¬G d → d ≠ bu → cs.length ≤ l.length → H2[d]? = some (.cells fl o cs)) (fun n hn => ?_) n (by omega)
  rw [body_runS Tryz.func86 rfl (ok_fn (by rfl) Tryz.func86 rfl) (Nat.le_of_ble_eq_true rfl) (D := D0) (by kernel_rfl)]
  have rl := own_R hbl
  have ru := own_R hs.used
  rw [ints_len] at rl
  rw [bools_len, hus] at ru
  have ll := rl.lenI
  have lu := ru.len
  rw [bools_len, hus] at lu
  have c1 : decide ((l.length : Int) = (N : Int)) = false := decide_eq_false (by omega)
  have key : ∀ A : Fr, A 0 = sliceA bl 0 l.length 1 → A 1 = sliceA bu 0 N 1 → A 2 = Y → A 17 = vi N → A 18 = vi (0 : Nat) → ∃ r a' H2, loopN (evS Tryz.prog (evB Tryz.prog bC n) n Tryz.f86.ntmps none arA) n A H1 = some (r, a', H2) ∧ r = .exit 0 ∧ ∃ G', ArS B S H0 bu fl us G' H2 ∧ I G' (done ++ arrP (k + 1) us l) H2 ∧ (∀ b, G' b → G b ∨ H1.length ≤ b) ∧ H1.length ≤ H2.length ∧ ∀ (d : Nat) (o : Bool) (cs : List Value), H1[d]? = some (.cells fl o cs) → ¬G d → d ≠ bu → cs.length ≤ l.length → H2[d]? = some (.cells fl o cs) := by
    intro A h0 h1 h2 h17 h18
    refine loop_up N (fun i a H' => a 0 = sliceA bl 0 l.length 1 ∧ a 1 = sliceA bu 0 N 1 ∧ a 2 = Y ∧ a 17 = vi N ∧ a 18 = vi i ∧ ∃ G', ArS B S H0 bu fl us G' H' ∧ I G' (done ++ (List.range i).flatMap fun i => if us.getD i true then [] else arrP k (us.set i true) (l ++ [(i : Int)])) H' ∧ (∀ b, G' b → G b ∨ H1.length ≤ b) ∧ H1.length ≤ H'.length ∧ ∀ (d : Nat) (o : Bool) (cs : List Value), H1[d]? = some (.cells fl o cs) → ¬G d → d ≠ bu → cs.length ≤ l.length → H'[d]? = some (.cells fl o cs)) _ ?_ ?_ (by omega) ⟨h0, h1, h2, h17, h18, G, hs, by simpa using hI, fun b hb => .inl hb, Nat.le_refl _, fun d o cs h _ _ _ => h⟩
    · intro i a H' hi ⟨h0, h1, h2, h17, h18, G', hs', hI', hg', hl', hfl⟩
      left
      rw [show arA = atC [1, 1, 0, 1, 0, 0] ((Tryz.f86.body).getD .skip) from rfl]
      have hlt : (i : Int) < (N : Int) := by omega
      have e1 : IntKind.i64.wrap ((i : Int) + 1) = ((i + 1 : Nat) : Int) := by rw [wr64 (by omega) (by omega)]; omega
      have ru := own_R hs'.used
      rw [bools_len, hus] at ru
      have au : addrS 1 (sliceA bu 0 N 1) (vi (i : Int)) = some (pt (sliceA bu 0 N 1) i) := ru.addr (by omega) (by rw [bools_len, hus]; omega)
      have lu : loadS (pt (sliceA bu 0 N 1) i) H' = some (.bool (us.getD i true)) := by rw [ru.load (by rw [bools_len, hus]; omega), bools_get (by omega)]
      have hbl' : H'[bl]? = some (.cells fl true (ints l)) := hfl bl true _ hbl hgl hbu (by rw [ints_len]; exact Nat.le_refl _)
      have hgl' : ¬G' bl := fun h => (hg' bl h).elim hgl fun h2 => by have := lt_of_blk hbl; omega
      cases hu : us.getD i true with
      | true =>
        rw [hu] at lu
        simp (disch := omega) only [Tryz.f86, Option.getD_some, atC, es_seq, es_region, es_cond, es_block, es_skip, es_exit, ops_nil, ops_cons, st_move, st_assign, sy_bin, binS_lss, binS_add, bindO_some, bindF_some, bindX_normal, bindX_exit, blkX_exit, condX_true, ev_tmp, ev_const, putA, upd_at, Option.map_some, ↓reduceIte, Nat.reduceEqDiff, decide_true, ↓bindO_some, ↓bindF_some, ↓bindX_normal, ↓bindX_exit, ↓condX_true, sy_addr eBl, sy_load aB, h1, h17, h18, hlt, au, lu, e1]
        refine ⟨_, _, rfl, ?_, ?_, ?_, ?_, rfl, G', hs', ?_, hg', hl', hfl⟩
        · exact h0
        · exact h1
        · exact h2
        · exact h17
        · rw [List.range_succ, List.flatMap_append, List.flatMap_cons, List.flatMap_nil, hu, if_pos rfl, List.append_nil, List.append_nil]; exact hI'
      | false =>
        rw [hu] at lu
        -- used[i] = true
        obtain ⟨H2, es, hl2, hb2, wf2, k2⟩ := own_set hs'.wf hs'.used (i := i) (by rw [bools_len, hus]; exact hi) (c := .bool true) rfl
        rw [bools_len, hus] at es
        rw [bools_set] at hb2
        have low2 := ars_low hs' hs'.hu k2
        have kp2 := ars_keep hs'.gu (Nat.le_of_eq hl2.symm) k2
        have hbl2 : H2[bl]? = some (.cells fl true (ints l)) := k2 bl _ hbl' hbu (famLe_ne fun g o cs e => by injection e with e _ _; rw [← e]; exact hs'.ne)
        -- the longer list
        obtain ⟨H3, ep, hl3, hb3, wf3, k3⟩ := own_push wf2 hbl2 (by rw [ints_len]; unfold maxA; omega) (vi i)
        rw [ints_len] at ep k3
        have low3 : ∀ b, b < B → ¬S b → H3[b]? = H0[b]? := by
          have hs2 : ArS B S H0 bu fl (us.set i true) G' H2 := ⟨wf2, hs'.gok.grow (Nat.le_of_eq hl2.symm), low2, hb2, hs'.gu, hs'.gl, hs'.ne, hs'.hu, hs'.hl⟩
          exact ars_low hs2 hs'.hl fun d x hd _ hle => k3 d x hd hle
        have kp3 : KeepG G' H2 H3 := ars_keep hs'.gl (by omega) fun d x hd _ hle => k3 d x hd hle
        have hu3 : H3[bu]? = some (.cells bu true (bools (us.set i true))) := k3 bu _ hb2 (famLe_ne fun g o cs e => by injection e with e _ _; rw [← e]; exact fun h => hs'.ne h.symm)
        have hs3 : ArS B S H0 bu fl (us.set i true) G' H3 := ⟨wf3, hs'.gok.grow (by omega), low3, hu3, hs'.gu, hs'.gl, hs'.ne, hs'.hu, hs'.hl⟩
        have hI3 := he.keep G' _ H' H3 hs'.wf wf3 hs'.gok (kp2.trans kp3) hI'
        have hg3 : ¬G' (H2.length + 1) := fun h => by have := hs'.gok.lt _ h; omega
        have hbl3 : H3[H2.length + 1]? = some (.cells fl true (ints (l ++ [(i : Int)]))) := by rw [ints_app]; exact hb3
        have hsp := split_at N i hi fun i => if us.getD i true then [] else arrP k (us.set i true) (l ++ [(i : Int)])
        simp only [hu, Bool.false_eq_true, if_false] at hsp
        have hit : items = (done ++ (List.range i).flatMap fun i => if us.getD i true then [] else arrP k (us.set i true) (l ++ [(i : Int)])) ++ arrP k (us.set i true) (l ++ [(i : Int)]) ++ ((((List.range N).drop (i + 1)).flatMap fun i => if us.getD i true then [] else arrP k (us.set i true) (l ++ [(i : Int)])) ++ rest) := by
          rw [hitems]
          show done ++ (List.range us.length).flatMap _ ++ rest = _
          rw [hus, hsp]
          simp only [List.append_assoc]
        have hbu3 : H2.length + 1 ≠ bu := by have := lt_of_blk hb2; omega
        obtain ⟨G4, H4, s4, hs4, hI4, hg4, hl4, hfl4⟩ := ih (us.set i true) (l ++ [(i : Int)]) (H2.length + 1) G' H3 _ _ (by rw [List.length_set]; exact hus) (by simp; omega) hit hs3 hbl3 hg3 hbu3 hI3 n (by omega)
        rw [show (l ++ [(i : Int)]).length = l.length + 1 from by simp] at s4 hfl4
        -- used[i] = false
        obtain ⟨H5, es5, hl5, hb5, wf5, k5⟩ := own_set hs4.wf hs4.used (i := i) (by rw [bools_len, List.length_set, hus]; exact hi) (c := .bool false) rfl
        rw [bools_len, List.length_set, hus] at es5
        rw [bools_set, List.set_set] at hb5
        have hsame : us.set i false = us := by
          refine List.ext_getElem (by simp) fun j h1 h2 => ?_
          rw [List.getElem_set]
          split
          · rename_i e
            subst e
            rw [List.getD_eq_getElem?_getD, List.getElem?_eq_getElem h2] at hu
            exact hu.symm
          · rfl
        rw [hsame] at hb5
        have low5 := ars_low hs4 hs4.hu k5
        have kp5 := ars_keep hs4.gu (Nat.le_of_eq hl5.symm) k5
        have hI5 := he.keep G4 _ H4 H5 hs4.wf wf5 hs4.gok kp5 hI4
        have au4 : addrS 1 (sliceA bu 0 N 1) (vi (i : Int)) = some (pt (sliceA bu 0 N 1) i) := au
        simp (disch := omega) only [Tryz.f86, Option.getD_some, atC, es_seq, es_region, es_cond, es_block, es_skip, ops_nil, ops_cons, st_move, st_assign, st_fun, sy_bin, st_not, sy_append eL pI, sy_build1 eL oI, binS_lss, binS_add, bindO_some, bindF_some, bindX_normal, blkX_normal, condX_true, condX_false, ev_tmp, ev_const, ev_func, putA, upd_at, Option.map_some, ↓reduceIte, Nat.reduceEqDiff, List.map_cons, List.map_nil, decide_true, Bool.not_true, ↓bindO_some, ↓bindF_some, ↓bindX_normal, ↓condX_true, ↓condX_false, scal_vi, sy_addr eBl, sy_load aB, sy_store zB, h0, h1, h2, h17, h18, hlt, au, lu, es, ep, s4, es5, e1]
        refine ⟨_, _, rfl, ?_, ?_, ?_, ?_, rfl, G4, ⟨wf5, hs4.gok.grow (Nat.le_of_eq hl5.symm), low5, hb5, hs4.gu, hs4.gl, hs4.ne, hs4.hu, hs4.hl⟩, ?_, ?_, by omega, ?_⟩
        · exact h0
        · exact h1
        · exact h2
        · exact h17
        · rw [List.range_succ, List.flatMap_append, List.flatMap_cons, List.flatMap_nil, hu, if_neg (by simp), List.append_nil, ← List.append_assoc]; exact hI5
        · intro b hb
          rcases hg4 b hb with hb | hb
          · exact hg' b hb
          · right; omega
        · intro d o cs hd hg hdb hle
          have h1 := hfl d o cs hd hg hdb hle
          have hgd : ¬G' d := fun h => (hg' d h).elim hg fun h2 => by have := lt_of_blk hd; omega
          have h2 := k2 d _ h1 hdb (famLe_ne fun g o cs e => by injection e with e _ _; rw [← e]; exact hs'.ne)
          have h3 := k3 d _ h2 (fun _ => hle)
          have h4 := hfl4 d o cs h3 hgd hdb (by omega)
          exact k5 d _ h4 hdb (famLe_ne fun g o cs e => by injection e with e _ _; rw [← e]; exact hs'.ne)
    · intro a H' ⟨h0, h1, h2, h17, h18, G', hs', hI', hg', hl', hfl⟩
      rw [show arA = atC [1, 1, 0, 1, 0, 0] ((Tryz.f86.body).getD .skip) from rfl]
      simp (disch := omega) only [Tryz.f86, Option.getD_some, atC, es_seq, es_region, es_cond, es_exit, ops_nil, ops_cons, sy_bin, binS_lss, bindO_some, bindF_some, bindX_normal, bindX_exit, condX_false, ev_tmp, putA, upd_at, ↓reduceIte, decide_false, ↓bindO_some, ↓bindF_some, ↓bindX_normal, ↓bindX_exit, ↓condX_false, h17, h18, Int.lt_irrefl]
      refine ⟨_, _, _, rfl, by simp, rfl, G', hs', ?_, hg', hl', hfl⟩
      show I G' (done ++ (List.range us.length).flatMap _) H'
      rw [hus]
      exact hI'
  rw [show arA = atC [1, 1, 0, 1, 0, 0] ((Tryz.f86.body).getD .skip) from rfl] at key
  simp only [Tryz.f86, Option.getD_some, atC] at key
  simp (disch := omega) only [Tryz.f86, es_seq, es_region, es_cond, es_block, es_loop, es_skip, es_ret, ops_nil, ops_cons, st_move, st_assign, sy_len uL, sy_bin, binS_eql, bindO_some, bindF_some, bindX_normal, condX_false, ev_tmp, ev_const, putA, upd_at, Option.map_some, ↓reduceIte, Nat.reduceEqDiff, frOf_0, frOf_1, ↓bindO_some, ↓bindF_some, ↓bindX_normal, ↓condX_false, sy_len uBl, ll, lu, c1]
  generalize hA : upd _ 18 _ = A
  obtain ⟨r, a', H2, e, rfl, G', h⟩ := key A (by subst hA; rfl) (by subst hA; rfl) (by subst hA; rfl) (by subst hA; rfl) (by subst hA; rfl)
  rw [e]
  clear e key
  simp (disch := omega) only [bindX_normal, blkX_exit, upd_at, Option.map_some, ↓reduceIte, ↓bindX_normal, fin_r, res_nil, res_tmp, pack_1, scal_bool]
  exact ⟨G', H2, rfl, h⟩
theorem arr_all (hN : N ≤ 20) (he : Eats (fun n => evB Tryz.prog bC n) F Y B S items QL I) : ∀ k, ArrOk N F B Y S I items H0 bu fl k := by
  intro k
  induction k with
  | zero => exact arr_leaf hN he
  | succ k ih => exact arr_node hN he ih
end
theorem perms_feeds {H : Heap} {bn fn N : Nat} {o : Bool} (hw : WF H) (hN : N ≤ 20) (hb : H[bn]? = some (.cells fn o [vi N])) : Feeds (fun n => evB Tryz.prog bC n) 100 (.func (.func 85) #[] #[ptrA bn 0]) (fun _ => False) H (permsP N) QL := by
  intro F Y S I _ he hI n hn
  refine run_ofB (F := F + 99) (Q := fun r => ∃ G' H', r = some (.tuple #[], H') ∧ WF H' ∧ GOk H.length G' H' ∧ (∀ b, b < H.length → ¬S b → H'[b]? = H[b]?) ∧ I G' (permsP N) H') (fun n hn => ?_) n (by omega)
  rw [body_runC Tryz.func85 rfl (ok_fn (by rfl) Tryz.func85 rfl) (Nat.le_of_ble_eq_true rfl) (D := D0) (by kernel_rfl)]
  have l0 : loadS (ptrA bn 0) H = some (vi N) := by simp [loadS, ptrA, Heap.cell, hb]
  have hz := zeros_B N
  have c2 : (0 : Int) ≤ (N : Int) := by omega
  have c3 : (N : Int) ≤ 1048576 := by omega
  have hblt := lt_of_blk hb
  -- used
  have old1 := Old.app H [.cells H.length true (bools (List.replicate N false))]
  have wf1 := hw.app (Nat.le_refl H.length) (o := true) (cs := bools (List.replicate N false))
  have hu1 : (H ++ [Blk.cells H.length true (bools (List.replicate N false))])[H.length]? = some (.cells H.length true (bools (List.replicate N false))) := by rw [List.getElem?_append_right (Nat.le_refl _), Nat.sub_self]; rfl
  have hl1 : (H ++ [Blk.cells H.length true (bools (List.replicate N false))]).length = H.length + 1 := by simp
  have l1 : loadS (ptrA bn 0) (H ++ [.cells H.length true (bools (List.replicate N false))]) = some (vi N) := by simp [loadS, ptrA, Heap.cell, List.getElem?_append_left hblt, hb]
  have hz0 : zeros Tryz.prog 3 1 0 = some [] := nI
  generalize hH1 : H ++ [Blk.cells H.length true (bools (List.replicate N false))] = H1 at *
  have old2 := Old.app H1 [.cells H1.length true []]
  have wf2 := wf1.app (Nat.le_refl H1.length) (o := true) (cs := [])
  have hb2 : (H1 ++ [Blk.cells H1.length true []])[H1.length]? = some (.cells H1.length true (ints [])) := by rw [List.getElem?_append_right (Nat.le_refl _), Nat.sub_self]; rfl
  have t2 := old1.trans (old2.mono old1.1)
  have hu2 : (H1 ++ [Blk.cells H1.length true []])[H.length]? = some (.cells H.length true (bools (List.replicate N false))) := by rw [List.getElem?_append_left (by omega)]; exact hu1
  have gok : GOk H.length (fun b => b < H.length) (H1 ++ [Blk.cells H1.length true []]) := ⟨fun b hb => hb, fun b hb => by simp; omega, by simp; omega⟩
  have gok0 : GOk H.length (fun b => b < H.length) H := ⟨fun b hb => hb, fun b hb => hb, Nat.le_refl _⟩
  have hI2 := he.keep _ _ H _ hw wf2 gok0 (t2.keepG _) hI
  obtain ⟨G', H', s1, hs, hI', _, hlen, _⟩ := arr_all hN he N (H0 := H) (bu := H.length) (fl := H1.length) (List.replicate N false) [] H1.length (fun b => b < H.length) _ [] [] (by simp) (by simp) (by simp [permsP]) ⟨wf2, gok, fun b hb _ => t2.2 b hb, hu2, by omega, by omega, by omega, by omega, by omega⟩ hb2 (by omega) (by omega) hI2 n (by omega)
  rw [show ([] : List Int).length = 0 from rfl] at s1
  simp (disch := omega) only [Tryz.f85, es_seq, es_region, ops_nil, ops_cons, st_move, st_assign, st_fun, sy_load aI, sy_make eL yI (by decide), bindO_some, bindF_some, bindX_normal, ev_tmp, ev_const, ev_func, putA, upd_at, Option.map_some, ↓reduceIte, Nat.reduceEqDiff, Int.toNat_natCast, frOf_0, frOf_1, List.map_cons, List.map_nil, ↓bindO_some, ↓bindF_some, ↓bindX_normal, fin_n, res_nil, List.cons_append, List.nil_append, sy_make eBl yB (by decide), l0, c2, c3, Int.le_refl, and_self, hz, hH1, l1, hz0, Int.toNat_zero, s1]
  exact ⟨G', H', rfl, hs.wf, hs.gok, hs.low, by rw [List.nil_append] at hI'; exact hI'⟩
theorem perms_run {H : Heap} {N : Nat} (n : Nat) (hn : 1 ≤ n) : evB Tryz.prog bC n (.func (.func 42) #[] #[]) [vi N] H = some (.func (.func 85) #[] #[ptrA H.length 0], H ++ [.cells H.length true [vi N]]) := by
  refine run_ofB (F := 0) (Q := fun r => r = some (Value.func (.func 85) #[] #[ptrA H.length 0], H ++ [Blk.cells H.length true [vi N]])) (fun n hn => ?_) n hn
  rw [body_runS Tryz.func42 rfl (ok_fn (by rfl) Tryz.func42 rfl) (Nat.le_of_ble_eq_true rfl) (D := D0) (by kernel_rfl)]
  simp (disch := omega) only [Tryz.f42, es_seq, es_region, es_ret, ops_nil, ops_cons, st_assign, bindO_some, bindF_some, bindX_normal, ev_tmp, ev_const, putA, upd_at, Option.map_some, ↓reduceIte, Nat.reduceEqDiff, frOf_0, ↓bindO_some, ↓bindF_some, ↓bindX_normal, fin_r, res_nil, res_tmp, pack_1, scal_vi, sy_box, sy_makeF1, mkF1_ptr, scal_fn]
end Go.Proofs.YtopmcphepoiigaaGreat
namespace Go.Proofs.YtopmcphepoiigaaGreat
open Go Go.Abs Go.Num
set_option maxRecDepth 10000
attribute [local congr] bindO_congr bindF_congr bindX_congr condX_congr iteB_congr binS_congr pickS_congr eqB_congr nilS_congr clsW_congr maxS_congr minS_congr
def OneT (H : Heap) (r : Option (Value × Heap)) (f : Value → Value) (l : List Int) : Prop := ∃ v H', r = some (f v, H') ∧ O H.length H' v (ints l) ∧ Old H.length H H' ∧ WF H'
theorem within_runS (x lo hi : Int) (H : Heap) (n : Nat) (hn : 1 ≤ n) : evB Tryz.prog bC n (.func (.func 9) #[] #[]) [vi x, vi lo, vi hi] H = some (.bool (decide (lo ≤ x) && decide (x ≤ hi)), H) := by
  refine run_ofB (F := 0) (Q := fun r => r = some (.bool (decide (lo ≤ x) && decide (x ≤ hi)), H)) (fun n hn => ?_) n hn
  rw [body_runS Tryz.func9 rfl (ok_fn (by rfl) Tryz.func9 rfl) (Nat.le_of_ble_eq_true rfl) (D := D0) (by kernel_rfl)]
  by_cases h1 : lo ≤ x
  all_goals by_cases h2 : x ≤ hi
  all_goals simp (disch := omega) only [Tryz.f9, es_seq, es_region, es_ret, ops_nil, ops_cons, ops_consG, st_move, st_assign, sy_pick, pickS_true, pickS_false, sy_bin, binS_leq, binS_geq, bindO_some, bindF_some, bindX_normal, iteB_true, iteB_false, ev_tmp, ev_const, putA, upd_at, Option.map_some, ↓reduceIte, Nat.reduceEqDiff, frOf_0, frOf_1, frOf_2, decide_true, decide_false, yieldO_eq, yO, yV_bool, some_true, List.getElem?_cons_zero, List.getElem?_cons_succ, beq_self_eq_true, ↓bindO_some, ↓bindF_some, ↓bindX_normal, ↓iteB_true, ↓iteB_false, fin_r, res_nil, res_tmp, pack_1, scal_bool, h1, h2, Bool.and_self, Bool.and_false, Bool.and_true]
noncomputable def intA : Code := atC [1, 1, 0, 1, 0, 0] ((Tryz.f13.body).getD .skip)
theorem take_eq_succ {l m : List Int} {i : Nat} (h1 : i < l.length) (h2 : i < m.length) : l.take (i + 1) = m.take (i + 1) ↔ l.take i = m.take i ∧ l.getD i 0 = m.getD i 0 := by
  rw [take_snoc' h1, take_snoc' h2]
  constructor
  · intro h
    have := List.append_inj h (by rw [List.length_take, List.length_take]; omega)
    exact ⟨this.1, by simpa using this.2⟩
  · intro ⟨h3, h4⟩; rw [h3, h4]
theorem ints_run {H : Heap} {va vb : Value} {l m : List Int} (ha : R H va (ints l)) (hb : R H vb (ints m)) (ll : l.length ≤ 10000) (lm : m.length ≤ 10000) (n : Nat) (hn : 10002 ≤ n) :
    evB Tryz.prog bC n (.func (.func 13) #[] #[]) [va, vb] H = some (.bool (decide (l = m)), H) := by
  refine run_ofB (F := 10001) (Q := fun r => r = some (.bool (decide (l = m)), H)) (fun n hn => ?_) n hn
  rw [body_runS Tryz.func13 rfl (ok_fn (by rfl) Tryz.func13 rfl) (Nat.le_of_ble_eq_true rfl) (D := D0) (by kernel_rfl)]
  by_cases hl : l.length = m.length
  · have c1 : (l.length : Int) = (m.length : Int) := by omega
    have key : ∀ A : Fr, A 0 = va → A 1 = vb → A 5 = vi (0 : Nat) → ∃ r a' H', loopN (evS Tryz.prog (evB Tryz.prog bC n) n Tryz.f13.ntmps none intA) n A H = some (r, a', H') ∧ H' = H ∧ ((r = .exit 0 ∧ l = m) ∨ (r = .ret ∧ a' 4 = .bool false ∧ l ≠ m)) := by
      intro A h0 h1 h5
      refine loop_up l.length (fun i a H' => H' = H ∧ a 0 = va ∧ a 1 = vb ∧ a 5 = vi i ∧ l.take i = m.take i) _ ?_ ?_ (by omega) ⟨rfl, h0, h1, h5, rfl⟩
      · intro i a H' hi ⟨hH, h0, h1, h5, ht⟩
        subst hH
        rw [show intA = atC [1, 1, 0, 1, 0, 0] ((Tryz.f13.body).getD .skip) from rfl]
        have hlt : (i : Int) < l.length := by omega
        have e1 : IntKind.i64.wrap ((i : Int) + 1) = ((i + 1 : Nat) : Int) := by rw [wr64 (by omega) (by omega)]; omega
        by_cases he : l.getD i 0 = m.getD i 0
        · left
          simp (disch := omega) only [Tryz.f13, Option.getD_some, atC, es_seq, es_region, es_draw, d0, es_cond, es_block, es_skip, ops_nil, ops_cons, opsV_nil, opsV_cons, st_move, st_assign, sy_len uL, sy_addr eL, sy_load aI, sy_bin, binS_lss, binS_neq, binS_add, bindO_some, bindF_some, bindX_normal, blkX_normal, condX_true, condX_false, iteB_true, iteB_false, ev_tmp, ev_const, putA, upd_at, Option.map_some, ↓reduceIte, Nat.reduceEqDiff, Int.toNat_natCast, decide_true, Bool.not_true, ↓bindO_some, ↓bindF_some, ↓bindX_normal, ↓condX_true, ↓condX_false, ↓iteB_true, ↓iteB_false, reflV_load, reflV_move, reflV_bin, reflV_addr, vEq_vi, h0, h1, h5, ha.lenI, hlt, ha.addrI, ha.loadI, hb.addrI, hb.loadI, he, e1]
          exact ⟨_, _, rfl, rfl, h0, h1, rfl, (take_eq_succ hi (by omega)).2 ⟨ht, he⟩⟩
        · right
          simp (disch := omega) only [Tryz.f13, Option.getD_some, atC, es_seq, es_region, es_draw, d0, es_cond, es_block, es_skip, es_ret, ops_nil, ops_cons, opsV_nil, opsV_cons, st_move, st_assign, sy_len uL, sy_addr eL, sy_load aI, sy_bin, binS_lss, binS_neq, bindO_some, bindF_some, bindX_normal, bindX_ret, blkX_ret, condX_true, iteB_true, iteB_false, ev_tmp, ev_const, putA, upd_at, Option.map_some, ↓reduceIte, Nat.reduceEqDiff, Int.toNat_natCast, decide_true, decide_false, Bool.not_false, ↓bindO_some, ↓bindF_some, ↓bindX_normal, ↓bindX_ret, ↓condX_true, ↓iteB_true, ↓iteB_false, reflV_load, reflV_move, reflV_bin, reflV_addr, vEq_vi, h0, h1, h5, ha.lenI, hlt, ha.addrI, ha.loadI, hb.addrI, hb.loadI, he]
          refine ⟨_, _, _, rfl, by simp, rfl, .inr ⟨rfl, rfl, fun h => he (by rw [h])⟩⟩
      · intro a H' ⟨hH, h0, h1, h5, ht⟩
        subst hH
        rw [show intA = atC [1, 1, 0, 1, 0, 0] ((Tryz.f13.body).getD .skip) from rfl]
        simp (disch := omega) only [Tryz.f13, Option.getD_some, atC, es_seq, es_region, es_cond, es_exit, ops_nil, ops_cons, st_move, sy_len uL, sy_bin, binS_lss, bindO_some, bindF_some, bindX_normal, bindX_exit, condX_false, ev_tmp, putA, upd_at, Option.map_some, ↓reduceIte, Nat.reduceEqDiff, decide_false, ↓bindO_some, ↓bindF_some, ↓bindX_normal, ↓bindX_exit, ↓condX_false, h0, h5, ha.lenI, Int.lt_irrefl]
        rw [List.take_length, hl, List.take_length] at ht
        exact ⟨_, _, _, rfl, by simp, rfl, .inl ⟨rfl, ht⟩⟩
    rw [show intA = atC [1, 1, 0, 1, 0, 0] ((Tryz.f13.body).getD .skip) from rfl] at key
    simp only [Tryz.f13, Option.getD_some, atC] at key
    simp (disch := omega) only [Tryz.f13, es_seq, es_region, es_cond, es_block, es_loop, es_skip, es_ret, ops_nil, ops_cons, st_move, st_assign, sy_len uL, sy_bin, binS_neq, bindO_some, bindF_some, bindX_normal, condX_false, ev_tmp, ev_const, putA, upd_at, Option.map_some, ↓reduceIte, Nat.reduceEqDiff, frOf_0, frOf_1, decide_true, Bool.not_true, ↓bindO_some, ↓bindF_some, ↓bindX_normal, ↓condX_false, ha.lenI, hb.lenI, c1]
    generalize hA : upd _ 5 _ = A
    obtain ⟨r, a', H', e, hH, h⟩ := key A (by subst hA; rfl) (by subst hA; rfl) (by subst hA; rfl)
    subst hH
    rw [e]
    rcases h with ⟨rfl, rfl⟩ | ⟨rfl, h4, hne⟩
    · simp (disch := omega) only [bindX_normal, blkX_exit, upd_at, Option.map_some, ↓reduceIte, decide_true, ↓bindX_normal, fin_r, res_nil, res_tmp, pack_1, scal_bool]
    · rw [decide_eq_false hne]
      simp (disch := omega) only [bindX_ret, blkX_ret, Option.map_some, ↓bindX_ret, fin_r, res_nil, res_tmp, pack_1, scal_bool, h4]
  · have c1 : ¬ (l.length : Int) = (m.length : Int) := by omega
    rw [decide_eq_false (fun h => hl (by rw [h]))]
    simp (disch := omega) only [Tryz.f13, es_seq, es_region, es_cond, es_ret, ops_nil, ops_cons, st_move, st_assign, sy_len uL, sy_bin, binS_neq, bindO_some, bindF_some, bindX_normal, bindX_ret, condX_true, ev_tmp, ev_const, putA, upd_at, Option.map_some, ↓reduceIte, Nat.reduceEqDiff, frOf_0, frOf_1, decide_false, Bool.not_false, ↓bindO_some, ↓bindF_some, ↓bindX_normal, ↓bindX_ret, ↓condX_true, fin_r, res_nil, res_tmp, pack_1, scal_bool, ha.lenI, hb.lenI, c1]
end Go.Proofs.YtopmcphepoiigaaGreat
namespace Go.Proofs.YtopmcphepoiigaaGreat
open Go Go.Abs Go.Num
set_option maxRecDepth 10000
attribute [local congr] bindO_congr bindF_congr bindX_congr condX_congr iteB_congr binS_congr pickS_congr eqB_congr nilS_congr clsW_congr maxS_congr minS_congr
noncomputable def eqlA : Code := atC [1, 1, 0, 1, 0, 0] ((Tryz.f44.body).getD .skip)
theorem equal_run {H : Heap} {va vb : Value} {l m : List Int} (ha : R H va (ints l)) (hb : R H vb (ints m)) (ll : l.length ≤ 1000) (lm : m.length ≤ 1000) (n : Nat) (hn : 1002 ≤ n) :
    evB Tryz.prog bC n (.func (.func 44) #[] #[]) [va, vb] H = some (.bool (decide (l = m)), H) := by
  refine run_ofB (F := 1001) (Q := fun r => r = some (.bool (decide (l = m)), H)) (fun n hn => ?_) n hn
  rw [body_runS Tryz.func44 rfl (ok_fn (by rfl) Tryz.func44 rfl) (Nat.le_of_ble_eq_true rfl) (D := D0) (by kernel_rfl)]
  by_cases hl : l.length = m.length
  · have c1 : (l.length : Int) = (m.length : Int) := by omega
    have key : ∀ A : Fr, A 0 = va → A 1 = vb → A 12 = vi l.length → A 13 = vi (0 : Nat) → ∃ r a' H', loopN (evS Tryz.prog (evB Tryz.prog bC n) n Tryz.f44.ntmps none eqlA) n A H = some (r, a', H') ∧ H' = H ∧ ((r = .exit 0 ∧ l = m) ∨ (r = .ret ∧ a' 4 = .bool false ∧ l ≠ m)) := by
      intro A h0 h1 h12 h13
      refine loop_up l.length (fun i a H' => H' = H ∧ a 0 = va ∧ a 1 = vb ∧ a 12 = vi l.length ∧ a 13 = vi i ∧ l.take i = m.take i) _ ?_ ?_ (by omega) ⟨rfl, h0, h1, h12, h13, rfl⟩
      · intro i a H' hi ⟨hH, h0, h1, h12, h13, ht⟩
        subst hH
        rw [show eqlA = atC [1, 1, 0, 1, 0, 0] ((Tryz.f44.body).getD .skip) from rfl]
        have hlt : (i : Int) < l.length := by omega
        have e1 : IntKind.i64.wrap ((i : Int) + 1) = ((i + 1 : Nat) : Int) := by rw [wr64 (by omega) (by omega)]; omega
        by_cases he : l.getD i 0 = m.getD i 0
        · left
          simp (disch := omega) only [Tryz.f44, Option.getD_some, atC, es_seq, es_region, es_draw, d0, es_cond, es_block, es_skip, ops_nil, ops_cons, opsV_nil, opsV_cons, st_move, st_assign, sy_addr eL, sy_load aI, sy_bin, binS_lss, binS_neq, binS_add, bindO_some, bindF_some, bindX_normal, blkX_normal, condX_true, condX_false, iteB_true, iteB_false, ev_tmp, ev_const, putA, upd_at, Option.map_some, ↓reduceIte, Nat.reduceEqDiff, Int.toNat_natCast, decide_true, Bool.not_true, ↓bindO_some, ↓bindF_some, ↓bindX_normal, ↓condX_true, ↓condX_false, ↓iteB_true, ↓iteB_false, reflV_load, reflV_move, reflV_bin, reflV_addr, vEq_vi, h0, h1, h12, h13, hlt, ha.addrI, ha.loadI, hb.addrI, hb.loadI, he, e1]
          exact ⟨_, _, rfl, rfl, h0, h1, h12, rfl, (take_eq_succ hi (by omega)).2 ⟨ht, he⟩⟩
        · right
          simp (disch := omega) only [Tryz.f44, Option.getD_some, atC, es_seq, es_region, es_draw, d0, es_cond, es_block, es_skip, es_ret, ops_nil, ops_cons, opsV_nil, opsV_cons, st_move, st_assign, sy_addr eL, sy_load aI, sy_bin, binS_lss, binS_neq, bindO_some, bindF_some, bindX_normal, bindX_ret, blkX_ret, condX_true, iteB_true, iteB_false, ev_tmp, ev_const, putA, upd_at, Option.map_some, ↓reduceIte, Nat.reduceEqDiff, Int.toNat_natCast, decide_true, decide_false, Bool.not_false, ↓bindO_some, ↓bindF_some, ↓bindX_normal, ↓bindX_ret, ↓condX_true, ↓iteB_true, ↓iteB_false, reflV_load, reflV_move, reflV_bin, reflV_addr, vEq_vi, h0, h1, h12, h13, hlt, ha.addrI, ha.loadI, hb.addrI, hb.loadI, he]
          refine ⟨_, _, _, rfl, by simp, rfl, .inr ⟨rfl, rfl, fun h => he (by rw [h])⟩⟩
      · intro a H' ⟨hH, h0, h1, h12, h13, ht⟩
        subst hH
        rw [show eqlA = atC [1, 1, 0, 1, 0, 0] ((Tryz.f44.body).getD .skip) from rfl]
        simp (disch := omega) only [Tryz.f44, Option.getD_some, atC, es_seq, es_region, es_cond, es_exit, ops_nil, ops_cons, sy_bin, binS_lss, bindO_some, bindF_some, bindX_normal, bindX_exit, condX_false, ev_tmp, putA, upd_at, ↓reduceIte, decide_false, ↓bindO_some, ↓bindF_some, ↓bindX_normal, ↓bindX_exit, ↓condX_false, h12, h13, Int.lt_irrefl]
        rw [List.take_length, hl, List.take_length] at ht
        exact ⟨_, _, _, rfl, by simp, rfl, .inl ⟨rfl, ht⟩⟩
    rw [show eqlA = atC [1, 1, 0, 1, 0, 0] ((Tryz.f44.body).getD .skip) from rfl] at key
    simp only [Tryz.f44, Option.getD_some, atC] at key
    simp (disch := omega) only [Tryz.f44, es_seq, es_region, es_cond, es_block, es_loop, es_skip, es_ret, ops_nil, ops_cons, st_move, st_assign, sy_len uL, sy_bin, binS_neq, bindO_some, bindF_some, bindX_normal, condX_false, ev_tmp, ev_const, putA, upd_at, Option.map_some, ↓reduceIte, Nat.reduceEqDiff, frOf_0, frOf_1, decide_true, Bool.not_true, ↓bindO_some, ↓bindF_some, ↓bindX_normal, ↓condX_false, ha.lenI, hb.lenI, c1]
    generalize hA : upd _ 13 _ = A
    obtain ⟨r, a', H', e, hH, h⟩ := key A (by subst hA; rfl) (by subst hA; rfl) (by subst hA; exact congrArg (fun z : Int => vi z) c1.symm) (by subst hA; rfl)
    subst hH
    rw [e]
    rcases h with ⟨rfl, rfl⟩ | ⟨rfl, h4, hne⟩
    · simp (disch := omega) only [bindX_normal, blkX_exit, upd_at, Option.map_some, ↓reduceIte, decide_true, ↓bindX_normal, fin_r, res_nil, res_tmp, pack_1, scal_bool]
    · rw [decide_eq_false hne]
      simp (disch := omega) only [bindX_ret, blkX_ret, Option.map_some, ↓bindX_ret, fin_r, res_nil, res_tmp, pack_1, scal_bool, h4]
  · have c1 : ¬ (l.length : Int) = (m.length : Int) := by omega
    rw [decide_eq_false (fun h => hl (by rw [h]))]
    simp (disch := omega) only [Tryz.f44, es_seq, es_region, es_cond, es_ret, ops_nil, ops_cons, st_move, st_assign, sy_len uL, sy_bin, binS_neq, bindO_some, bindF_some, bindX_normal, bindX_ret, condX_true, ev_tmp, ev_const, putA, upd_at, Option.map_some, ↓reduceIte, Nat.reduceEqDiff, frOf_0, frOf_1, decide_false, Bool.not_false, ↓bindO_some, ↓bindF_some, ↓bindX_normal, ↓bindX_ret, ↓condX_true, fin_r, res_nil, res_tmp, pack_1, scal_bool, ha.lenI, hb.lenI, c1]
def QP (G : Nat → Prop) (H : Heap) (vs : List Value) (x : List Int × List Int) : Prop := ∃ v w, vs = [v, w] ∧ RI (fun b => ¬G b) H v (ints x.1) ∧ RI (fun b => ¬G b) H w (ints x.2)
noncomputable def pvO : Code := rfBody (atC [1, 1, 0] ((Tryz.f79.body).getD .skip))
noncomputable def pvI : Code := rfBody (atC [0, 1, 0] pvO)
noncomputable def pvOa : Code := rfAsg (atC [1, 1, 0] ((Tryz.f79.body).getD .skip))
noncomputable def pvIa : Code := rfAsg (atC [0, 1, 0] pvO)
theorem aFn : isAggT Tryz.prog 30 = some false := by kernel_rfl
theorem in_round {H : Heap} {vr vu vc Y : Value} {r u c : List Int} {N br fr bc fc by_ fy : Nat} {o1 o2 o3 : Bool} (hw : WF H) (hN : N ≤ 5) (hr : r ∈ permsP N) (hu : u ∈ permsP N) (hc : commP r u ∈ permsP N) (hk : (kindP r u).length ≤ 1000) (hcl : c.length ≤ 1000) (rr : R H vr (ints r)) (ru : R H vu (ints u)) (rc : R H vc (ints c))
    (hbr : H[br]? = some (.cells fr o1 [vr])) (hbc : H[bc]? = some (.cells fc o2 [vc])) (hby : H[by_]? = some (.cells fy o3 [Y])) (hY : vEq Y Y = true) (n nt k : Nat) (rd : Option Nat) (hn : 1100 ≤ n) {a : Fr} (h2 : a 2 = ptrA bc 0) (h3 : a 3 = ptrA by_ 0) (h4 : a 4 = ptrA br 0) (h5 : a 5 = vu) :
    ∃ Hk, Old H.length H Hk ∧ WF Hk ∧ ((kindP r u ≠ c ∧ ∃ a', evT Tryz.prog (evB Tryz.prog bC n) k nt rd D1 pvI a H = some (.normal, a', Hk)) ∨
      (kindP r u = c ∧ ∀ H3, evB Tryz.prog bC n Y [vr, vu] Hk = some (.bool true, H3) → ∃ a', evT Tryz.prog (evB Tryz.prog bC n) k nt rd D1 pvI a H = some (.normal, a', H3))) := by
  obtain ⟨w, Hk, s1, o1, old1, wf1⟩ := kind_run hw hN hr hu hc rr ru n (by omega)
  refine ⟨Hk, old1, wf1, ?_⟩
  have k2 : ∀ {b : Nat} {x : Blk}, H[b]? = some x → Hk[b]? = some x := fun h => by rw [old1.2 _ (lt_of_blk h)]; exact h
  have l1 := load_box hbr
  have l2 := load_box hbc
  have l3 := load_box hby
  have m1 := load_box (k2 hbr)
  have m2 := load_box (k2 hbc)
  have m3 := load_box (k2 hby)
  have rrv := rr.refl
  have rcv := rc.refl
  have s2 := equal_run o1.R (rc.mono old1) hk hcl n (by omega)
  by_cases hq : kindP r u = c
  · right
    refine ⟨hq, fun H3 s3 => ?_⟩
    rw [decide_eq_true hq] at s2
    have key : ∃ a' H', evT Tryz.prog (evB Tryz.prog bC n) k nt rd D1 (atC [0, 0] pvI) a H = some (.normal, a', H') ∧ H' = H3 ∧ a' 23 = .bool false := by
      rw [show pvI = rfBody (atC [0, 1, 0] (rfBody (atC [1, 1, 0] ((Tryz.f79.body).getD .skip)))) from rfl]
      simp only [Tryz.f79, Option.getD_some, atC, rfBody]
      refine et_idx #[0, 0, 3, 0, 15, 31, 63, 63, 63, 511, 1023, 2047] (by kernel_rfl) (fun a' H' => H' = H3 ∧ a' 23 = .bool false) ?_
      simp (disch := omega) only [st_move, sy_pick, pickS_true, st_fun, st_not, bindO_some, iteB_true, ev_tmp, ev_func, putA, upd_at, Option.map_some, ↓reduceIte, Nat.reduceEqDiff, Nat.zero_add, List.map_cons, List.map_nil, Bool.not_true, yieldO_eq, yO, yV_bool, List.getElem?_cons_zero, List.getElem?_cons_succ, beq_self_eq_true, ↓bindO_some, ↓iteB_true, sy_load aL, opsI_nil, opsI_cons, Nat.reduceAdd, clsW_eff, clsW_read, clsW_pure, ↓clsW_eff, ↓clsW_read, ↓clsW_pure, cls_move, cls_pick, cls_un, cls_load, cls_callF, opsI_consG, sy_load aFn, h2, h3, h4, h5, l1, m1, m2, m3, s1, s2, s3]
      refine ⟨_, rfl, ?_, rfl, ?_⟩
      · intro G hG q hq
        simp only [List.mem_cons, List.not_mem_nil, or_false] at hG hq
        rcases hq with rfl | rfl | rfl | rfl <;> rcases hG with rfl | rfl | rfl | rfl <;> first
          | (intro h; dsimp only at h; exact absurd h (by decide))
          | (intro _; simp only [still_ldG aL, still_ldG aFn, ev_tmp, upd_at, ↓reduceIte, Nat.reduceEqDiff, h2, h3, h4, l1, l2, l3, m1, m2, m3, rrv, rcv, hY])
      · simp only [upd_at, ↓reduceIte]
    obtain ⟨a', H', e, hH, h23⟩ := key
    subst hH
    rw [show pvI = rfBody (atC [0, 1, 0] (rfBody (atC [1, 1, 0] ((Tryz.f79.body).getD .skip)))) from rfl] at e ⊢
    simp only [Tryz.f79, Option.getD_some, atC, rfBody] at e ⊢
    rw [es_block, es_seq, e]
    simp (disch := omega) only [es_cond, es_skip, bindX_normal, blkX_normal, condX_false, ev_tmp, ↓bindX_normal, ↓condX_false, h23]
    exact ⟨_, rfl⟩
  · left
    refine ⟨hq, ?_⟩
    rw [decide_eq_false hq] at s2
    have key : ∃ a' H', evT Tryz.prog (evB Tryz.prog bC n) k nt rd D1 (atC [0, 0] pvI) a H = some (.normal, a', H') ∧ H' = Hk ∧ a' 23 = .bool false := by
      rw [show pvI = rfBody (atC [0, 1, 0] (rfBody (atC [1, 1, 0] ((Tryz.f79.body).getD .skip)))) from rfl]
      simp only [Tryz.f79, Option.getD_some, atC, rfBody]
      refine et_idx #[0, 0, 3, 0, 15, 31, 63, 63, 63, 511, 1023, 2047] (by kernel_rfl) (fun a' H' => H' = Hk ∧ a' 23 = .bool false) ?_
      simp (disch := omega) only [st_move, sy_pick, pickS_false, st_fun, bindO_some, iteB_false, ev_tmp, ev_const, ev_func, putA, upd_at, Option.map_some, ↓reduceIte, Nat.reduceEqDiff, Nat.zero_add, List.map_cons, List.map_nil, yieldO_eq, yO, yV_bool, some_true, List.getElem?_cons_zero, List.getElem?_cons_succ, ↓bindO_some, ↓iteB_false, sy_load aL, opsI_nil, opsI_cons, Nat.reduceAdd, clsW_eff, clsW_read, clsW_pure, ↓clsW_eff, ↓clsW_read, ↓clsW_pure, cls_move, cls_pick, cls_load, cls_callF, opsI_consG, h2, h4, h5, l1, m2, s1, s2]
      refine ⟨_, rfl, ?_, rfl, ?_⟩
      · intro G hG q hq
        simp only [List.mem_cons, List.not_mem_nil, or_false] at hG hq
        rcases hq with rfl | rfl <;> rcases hG with rfl | rfl | rfl <;> first
          | (intro h; dsimp only at h; exact absurd h (by decide))
          | (intro _; simp only [still_ldG aL, ev_tmp, upd_at, ↓reduceIte, Nat.reduceEqDiff, h2, h4, l1, l2, m2, rrv, rcv])
      · simp only [upd_at, ↓reduceIte]
    obtain ⟨a', H', e, hH, h23⟩ := key
    subst hH
    rw [show pvI = rfBody (atC [0, 1, 0] (rfBody (atC [1, 1, 0] ((Tryz.f79.body).getD .skip)))) from rfl] at e ⊢
    simp only [Tryz.f79, Option.getD_some, atC, rfBody] at e ⊢
    rw [es_block, es_seq, e]
    simp (disch := omega) only [es_cond, es_skip, bindX_normal, blkX_normal, condX_false, ev_tmp, ↓bindX_normal, ↓condX_false, h23]
    exact ⟨_, rfl⟩
end Go.Proofs.YtopmcphepoiigaaGreat
namespace Go.Abs
theorem get_set_ne {H : Heap} {b L f : Nat} {o : Bool} {cs : List Value} {x y : Blk} (hb : H[b]? = some (.cells f o cs)) (hL : H[L]? = some x) (hx : ∀ f o cs, x ≠ .cells f o cs) : (H.set L y)[b]? = some (.cells f o cs) := by
  rw [List.getElem?_set, if_neg]
  · exact hb
  · intro e
    subst e
    rw [hL] at hb
    injection hb with hb
    exact hx _ _ _ hb
theorem R.setL {H : Heap} {v : Value} {l : List Value} {L : Nat} {x y : Blk} (h : R H v l) (hL : H[L]? = some x) (hx : ∀ f o cs, x ≠ .cells f o cs) : R (H.set L y) v l := by
  rcases h with h | h | ⟨b, o, f, w, cs, h1, hb, h2⟩
  · exact .inl h
  · exact .inr (.inl h)
  · exact .inr (.inr ⟨b, o, f, w, cs, h1, get_set_ne hb hL hx, h2⟩)
theorem RI.setL {G : Nat → Prop} {H : Heap} {v : Value} {l : List Value} {L : Nat} {x y : Blk} (h : RI G H v l) (hL : H[L]? = some x) (hx : ∀ f o cs, x ≠ .cells f o cs) : RI G (H.set L y) v l := by
  rcases h with h | h | ⟨b, o, f, w, cs, h1, hg, hf, hb, h2⟩
  · exact .inl h
  · exact .inr (.inl h)
  · exact .inr (.inr ⟨b, o, f, w, cs, h1, hg, hf, get_set_ne hb hL hx, h2⟩)
theorem set_ne {H : Heap} {b L : Nat} {y : Blk} (h : b ≠ L) : (H.set L y)[b]? = H[b]? := by rw [List.getElem?_set, if_neg (by omega)]
theorem set_eq {H : Heap} {L : Nat} {y x : Blk} (h : H[L]? = some x) : (H.set L y)[L]? = some y := by rw [List.getElem?_set, if_pos rfl, if_pos (lt_of_blk h)]
theorem set_len {H : Heap} {L : Nat} {y : Blk} : (H.set L y).length = H.length := by simp
theorem KeepG.below {B : Nat} {G : Nat → Prop} {H H' : Heap} (h : KeepG G H H') (hw : WF H) (hG : ∀ b, b < B → G b) (hB : B ≤ H.length) {b : Nat} (hb : b < B) : H'[b]? = H[b]? := by
  have hx : H[b]? = some H[b] := List.getElem?_eq_getElem (by omega)
  rw [hx]
  refine h.2 b _ (hG b hb) hx ?_
  cases hc : H[b] with
  | cells f o cs =>
    rw [hc] at hx
    have := hw b f o cs hx
    exact hG f (by omega)
  | _ => trivial
theorem loop_nc {st : LoopState} {p : Option Code} {nt : Nat} {a : Fr} {pr : List Nat} {c d : Code} : ∀ f o cs, Blk.loop st p nt a pr c d ≠ .cells f o cs := fun _ _ _ h => by cases h
end Go.Abs
namespace Go.Proofs.YtopmcphepoiigaaGreat
open Go Go.Abs Go.Num
set_option maxRecDepth 10000
attribute [local congr] bindO_congr bindF_congr bindX_congr condX_congr iteB_congr binS_congr pickS_congr eqB_congr nilS_congr clsW_congr maxS_congr minS_congr
theorem evB_yield {n L : Nat} {args : List Value} {H : Heap} : evB Tryz.prog bC (n + 1) (.func (.yield L) #[] #[]) args H = evBody Tryz.prog (evB Tryz.prog bC n) n (.func (.yield L) #[] #[]) args H := by
  have e : bC (.func (.yield L) #[] #[]) args H = none := rfl
  show Abs.orC bC (evBody Tryz.prog (evB Tryz.prog bC n) n) _ args H = _
  unfold Abs.orC
  rw [e]
structure PwS (H : Heap) (S : Nat → Prop) (Y : Value) (yb : Nat) (G : Nat → Prop) (Hc : Heap) : Prop where
  wf : WF Hc
  gok : GOk H.length G Hc
  low : ∀ b, b < H.length → ¬S b → Hc[b]? = H[b]?
  box : Hc[yb]? = some (.cells yb true [Y])
  gy : ¬G yb
structure PvG (H H0 : Heap) (S : Nat → Prop) (N : Nat) (c : List Int) (vc : Value) (bn bc : Nat) : Prop where
  hN : N ≤ 5
  ok : ∀ r ∈ permsP N, ∀ u ∈ permsP N, commP r u ∈ permsP N ∧ (kindP r u).length ≤ 1000
  cl : c.length ≤ 1000
  rc : R H0 vc (ints c)
  old : Old H0.length H0 H
  nb : ∃ f o, H[bn]? = some (.cells f o [vi N])
  cb : ∃ f o, H[bc]? = some (.cells f o [vc])
  s0 : ∀ b, b < H0.length → ¬S b
  s1 : ¬S bn
  s2 : ¬S bc
theorem PvG.rcNow {H H0 : Heap} {S : Nat → Prop} {N : Nat} {c : List Int} {vc : Value} {bn bc : Nat} (g : PvG H H0 S N c vc bn bc) {Hc : Heap} (hl : H.length ≤ Hc.length) (low : ∀ b, b < H.length → ¬S b → Hc[b]? = H[b]?) : R Hc vc (ints c) := by
  have h1 := g.old.1
  exact g.rc.mono ⟨by omega, fun b hb => by rw [low b (by omega) (g.s0 b hb), g.old.2 b hb]⟩
def rowQ (c r : List Int) (l : List (List Int)) : List (List Int × List Int) := (l.filter fun u => decide (kindP r u = c)).map fun u => (r, u)
theorem rowQ_no {c r u : List Int} (l : List (List Int)) (h : kindP r u ≠ c) : rowQ c r (l ++ [u]) = rowQ c r l := by
  unfold rowQ
  rw [List.filter_append]
  simp [h]
theorem rowQ_yes {c r u : List Int} (l : List (List Int)) (h : kindP r u = c) : rowQ c r (l ++ [u]) = rowQ c r l ++ [(r, u)] := by
  unfold rowQ
  rw [List.filter_append, List.map_append]
  simp [h]
section
variable {H H0 : Heap} {S : Nat → Prop} {N : Nat} {c : List Int} {vc Y : Value} {bn bc yb : Nat} {F : Nat} {I : (Nat → Prop) → List (List Int × List Int) → Heap → Prop}
variable {H1 : Heap} {G2 Go : Nat → Prop} {done2 rest2 : List (List Int)} {r : List Int} {vr : Value} {br L2 L3 nt : Nat} {X2 : Blk} {aR : Fr}
structure InS (H : Heap) (S : Nat → Prop) (c : List Int) (Y : Value) (yb : Nat) (I : (Nat → Prop) → List (List Int × List Int) → Heap → Prop) (H1 : Heap) (G2 Go : Nat → Prop) (done2 : List (List Int)) (r : List Int) (vr : Value) (br L2 L3 nt N : Nat) (X2 : Blk) (aR : Fr) (G3 : Nat → Prop) (done3 : List (List Int)) (Hc : Heap) (G : Nat → Prop) : Prop where
  pw : PwS H S Y yb G Hc
  sub : ∀ b, G b → G3 b
  new : ∀ b, G b → Go b ∨ L3 + 1 ≤ b
  inv : I G (done2.flatMap (rowP N c) ++ rowQ c r done3) Hc
  rb : Hc[br]? = some (.cells br true [vr])
  l2 : Hc[L2]? = some X2
  l3 : Hc[L3]? = some (.loop .ready none nt aR [11] pvIa pvI)
  rr : RI (fun b => ¬G b ∧ b < L3 + 1) Hc vr (ints r)
  kp : KeepG (fun b => ¬G2 b ∧ b < H1.length) H1 Hc
theorem in_eats (g : PvG H H0 S N c vc bn bc) (he : Eats (fun n => evB Tryz.prog bC n) F Y H.length S (pairsP N c) QP I)
    (hit : permsP N = done2 ++ r :: rest2) (hGo : ∀ b, Go b → b < H1.length) (hG2 : ∀ b, Go b → G2 b) (hH1 : H.length ≤ H1.length) (hbr : H1.length ≤ br) (hbr3 : br < L3) (hL2 : ¬Go L2) (hL2b : L2 < L3) (hL3 : H1.length ≤ L3) (hyb : yb < L3) (hX2 : ∀ f o cs, X2 ≠ .cells f o cs)
    (k2 : aR 2 = ptrA bc 0) (k3 : aR 3 = ptrA yb 0) (k4 : aR 4 = ptrA br 0) :
    Eats (fun n => evB Tryz.prog bC n) (F + 1200) (.func (.yield L3) #[] #[]) (L3 + 1) (fun b => b ≠ L3) (permsP N) QL (fun G3 done3 Hc => ∃ G, InS H S c Y yb I H1 G2 Go done2 r vr br L2 L3 nt N X2 aR G3 done3 Hc G) := by
  refine ⟨?_, vEq_yield, scal_yield, ?_⟩
  · intro n hn G3 done3 u rest3 vs Hs hit3 hws hgs ⟨G, hi⟩ ⟨vu, hvs, ru⟩
    subst hvs
    obtain ⟨m, rfl⟩ : ∃ m, n = m + 1 := ⟨n - 1, by omega⟩
    have hrm : r ∈ permsP N := by rw [hit]; simp
    have hum : u ∈ permsP N := by rw [hit3]; simp
    obtain ⟨hcm, hkl⟩ := g.ok r hrm u hum
    have hg3 : ¬G L3 := fun h => (hi.new L3 h).elim (fun h => by have := hGo _ h; omega) (by omega)
    have hg2 : ¬G L2 := fun h => (hi.new L2 h).elim hL2 (by omega)
    have hgb : ¬G br := fun h => (hi.new br h).elim (fun h => by have := hGo _ h; omega) (by omega)
    have hG3 : G3 L3 := hgs.all L3 (by omega)
    -- the round's parameter
    have h1 : ∃ a, evT Tryz.prog (evB Tryz.prog bC m) m nt (some L3) D1 pvIa (putAll aR [11] [vu]) Hs = some (.normal, a, Hs) ∧ a 2 = ptrA bc 0 ∧ a 3 = ptrA yb 0 ∧ a 4 = ptrA br 0 ∧ a 5 = vu := by
      rw [show pvIa = rfAsg (atC [0, 1, 0] (rfBody (atC [1, 1, 0] ((Tryz.f79.body).getD .skip)))) from rfl]
      simp (disch := omega) only [Tryz.f79, Option.getD_some, atC, rfBody, rfAsg, putAll, es_region, ops_nil, ops_cons, st_assign, bindO_some, bindF_some, ev_tmp, putA, upd_at, ↓reduceIte, ↓bindO_some, ↓bindF_some]
      refine ⟨_, rfl, ?_, ?_, ?_, ?_⟩
      · exact k2
      · exact k3
      · exact k4
      · rfl
    obtain ⟨a, ea, a2, a3, a4, a5⟩ := h1
    -- the body
    have hb : ∀ {b f : Nat} {o : Bool} {cs : List Value} {y : Blk}, Hs[b]? = some (.cells f o cs) → (Hs.set L3 y)[b]? = some (.cells f o cs) := fun h => get_set_ne h hi.l3 loop_nc
    have wfb : WF (Hs.set L3 (.loop .busy none nt aR [11] pvIa pvI)) := hws.set loop_nc
    have hlen := hi.pw.gok.len
    obtain ⟨fc, oc, hcb⟩ := g.cb
    have hbcl := lt_of_blk hcb
    have hcb1 : Hs[bc]? = some (.cells fc oc [vc]) := by rw [hi.pw.low bc hbcl g.s2]; exact hcb
    have rc := g.rcNow hlen hi.pw.low
    obtain ⟨Hk, oldk, wfk, hcase⟩ := in_round wfb g.hN hrm hum hcm hkl g.cl (hi.rr.R.setL hi.l3 loop_nc) (ru.R.setL hi.l3 loop_nc) (rc.setL hi.l3 loop_nc) (hb hi.rb) (hb hcb1) (hb hi.pw.box) he.eqv m nt m (some L3) (by omega) a2 a3 a4 a5
    have hl3b : (Hs.set L3 (.loop .busy none nt aR [11] pvIa pvI))[L3]? = some (.loop .busy none nt aR [11] pvIa pvI) := set_eq hi.l3
    have hl3k : Hk[L3]? = some (.loop .busy none nt aR [11] pvIa pvI) := by rw [oldk.2 L3 (lt_of_blk hl3b)]; exact hl3b
    have hlb : (Hs.set L3 (.loop .busy none nt aR [11] pvIa pvI)).length = Hs.length := set_len
    have hkb : Hs.length ≤ Hk.length := by have := oldk.1; omega
    have hL3lt := lt_of_blk hi.l3
    -- blocks other than the loop's
    have hk : ∀ {b : Nat}, b < Hs.length → b ≠ L3 → Hk[b]? = Hs[b]? := fun h h2 => by rw [oldk.2 _ (by omega), set_ne h2]
    have kG : ∀ {P : Nat → Prop}, ¬P L3 → KeepG P Hs Hk := fun {P} hP => (KeepG.set hP _).trans (oldk.keepG P)
    rcases hcase with ⟨hne, a', e2⟩ | ⟨heq, hcall⟩
    · have hrun := yield_run (P := Tryz.prog) (call := evB Tryz.prog bC m) (n := m) (D := D1) (args := [vu]) hi.l3 rfl (by kernel_rfl) (by kernel_rfl) ea hi.l3 e2 hl3k
      refine ⟨Hk.set L3 (.loop .ready none nt aR [11] pvIa pvI), ?_, wfk.set loop_nc, ?_, ?_, G, ?_⟩
      · exact evB_yield.trans hrun
      · exact ((KeepG.set (fun h => h hG3) _).trans (oldk.keepG _)).trans (KeepG.set (fun h => h hG3) _)
      · intro b hb3 hns
        obtain rfl := Decidable.not_not.1 hns
        rw [set_eq hl3k, hi.l3]
      · have kf : ∀ {P : Nat → Prop}, ¬P L3 → KeepG P Hs (Hk.set L3 (.loop .ready none nt aR [11] pvIa pvI)) := fun {P} hP => (kG hP).trans (KeepG.set hP _)
        refine ⟨⟨wfk.set loop_nc, hi.pw.gok.grow (by rw [set_len]; exact hkb), fun b hb hns => ?_, ?_, hi.pw.gy⟩, fun b hb => .inl (hi.sub b hb), hi.new, ?_, ?_, ?_, set_eq hl3k, ?_, ?_⟩
        · rw [set_ne (by omega), hk (by omega) (by omega)]; exact hi.pw.low b hb hns
        · rw [set_ne (by omega), hk (lt_of_blk hi.pw.box) (by omega)]; exact hi.pw.box
        · rw [rowQ_no _ hne]
          exact he.keep G _ Hs _ hws (wfk.set loop_nc) hi.pw.gok (kf hg3) hi.inv
        · rw [set_ne (by omega), hk (lt_of_blk hi.rb) (by omega)]; exact hi.rb
        · rw [set_ne (by omega), hk (lt_of_blk hi.l2) (by omega)]; exact hi.l2
        · exact ((hi.rr.setL hi.l3 loop_nc).keep (oldk.keepG _)).setL hl3k loop_nc
        · exact hi.kp.trans (kf (by omega))
    · -- the pair is handed out
      have hik := he.keep G _ Hs Hk hws wfk hi.pw.gok (kG hg3) hi.inv
      have rrk := ((hi.rr.setL hi.l3 loop_nc (y := .loop .busy none nt aR [11] pvIa pvI)).keep (oldk.keepG _)).sub (G' := fun b => ¬G b) fun b h => h.1
      have ruk := ((ru.setL hi.l3 loop_nc (y := .loop .busy none nt aR [11] pvIa pvI)).keep (oldk.keepG _)).sub (G' := fun b => ¬G b) fun b h => fun hg => h (hi.sub b hg)
      have hsplit : pairsP N c = (done2.flatMap (rowP N c) ++ rowQ c r done3) ++ (r, u) :: (rowQ c r rest3 ++ rest2.flatMap (rowP N c)) := by
        have e1 : pairsP N c = done2.flatMap (rowP N c) ++ (rowP N c r ++ rest2.flatMap (rowP N c)) := by
          unfold pairsP
          conv => lhs; rw [hit]
          rw [List.flatMap_append, List.flatMap_cons]
        have e2 : rowP N c r = rowQ c r done3 ++ (r, u) :: rowQ c r rest3 := by
          show rowQ c r (permsP N) = _
          rw [hit3, show done3 ++ u :: rest3 = (done3 ++ [u]) ++ rest3 from by simp]
          have : rowQ c r ((done3 ++ [u]) ++ rest3) = rowQ c r (done3 ++ [u]) ++ rowQ c r rest3 := by unfold rowQ; rw [List.filter_append, List.map_append]
          rw [this, rowQ_yes _ heq]
          simp
        rw [e1, e2]
        simp only [List.append_assoc, List.cons_append]
      obtain ⟨H3, s3, wf3, kp3, low3, inv3⟩ := he.step m (by omega) G _ (r, u) _ [vr, vu] Hk hsplit wfk (hi.pw.gok.grow hkb) hik ⟨vr, vu, rfl, rrk, ruk⟩
      obtain ⟨a', e2⟩ := hcall H3 s3
      have hl3h : H3[L3]? = some (.loop .busy none nt aR [11] pvIa pvI) := kp3.2 L3 _ hg3 hl3k trivial
      have hrun := yield_run (P := Tryz.prog) (call := evB Tryz.prog bC m) (n := m) (D := D1) (args := [vu]) hi.l3 rfl (by kernel_rfl) (by kernel_rfl) ea hi.l3 e2 hl3h
      have hk3 := kp3.1
      have keep3 : ∀ {b : Nat} {x : Blk}, ¬G b → famIn (fun b => ¬G b) x → Hs[b]? = some x → b ≠ L3 → H3[b]? = some x := fun hb hf hx hne => kp3.2 _ _ hb (by rw [hk (lt_of_blk hx) hne]; exact hx) hf
      refine ⟨H3.set L3 (.loop .ready none nt aR [11] pvIa pvI), ?_, wf3.set loop_nc, ?_, ?_, extG G Hk H3, ?_⟩
      · exact evB_yield.trans hrun
      · exact (((KeepG.set (fun h => h hG3) _).trans (oldk.keepG _)).trans (kp3.sub fun b h => fun hg => h (hi.sub b hg))).trans (KeepG.set (fun h => h hG3) _)
      · intro b hb3 hns
        obtain rfl := Decidable.not_not.1 hns
        rw [set_eq hl3h, hi.l3]
      · have hg3' : ¬extG G Hk H3 L3 := fun h => h.elim hg3 (by omega)
        have hP : ∀ {P : Nat → Prop}, (∀ b, P b → ¬G b) → ¬P L3 → KeepG P Hs (H3.set L3 (.loop .ready none nt aR [11] pvIa pvI)) := fun {P} hp hn => ((kG hn).trans (kp3.sub hp)).trans (KeepG.set hn _)
        refine ⟨⟨wf3.set loop_nc, ?_, fun b hb hns => ?_, ?_, ?_⟩, ?_, ?_, ?_, ?_, ?_, set_eq hl3h, ?_, ?_⟩
        · have := (hi.pw.gok.grow hkb).ext hk3
          exact ⟨this.all, fun b hb => by rw [set_len]; exact this.lt b hb, by rw [set_len]; exact this.len⟩
        · rw [set_ne (by omega), low3 b hb hns, hk (by omega) (by omega)]; exact hi.pw.low b hb hns
        · rw [set_ne (by omega)]; exact keep3 hi.pw.gy hi.pw.gy hi.pw.box (by omega)
        · exact fun h => h.elim hi.pw.gy fun h2 => by have := lt_of_blk hi.pw.box; omega
        · rintro b (hb | hb)
          · exact .inl (hi.sub b hb)
          · exact .inr ⟨by omega, by rw [set_len]; exact hb.2⟩
        · rintro b (hb | hb)
          · exact hi.new b hb
          · exact .inr (by omega)
        · rw [rowQ_yes _ heq, ← List.append_assoc]
          exact he.keep _ _ H3 _ wf3 (wf3.set loop_nc) ((hi.pw.gok.grow hkb).ext hk3) (KeepG.set hg3' _) inv3
        · rw [set_ne (by omega)]; exact keep3 hgb hgb hi.rb (by omega)
        · rw [set_ne (by omega)]
          refine keep3 hg2 ?_ hi.l2 (by omega)
          cases hx : X2 with
          | cells f o cs => exact absurd hx (hX2 f o cs)
          | _ => trivial
        · have h1 := (hi.rr.setL hi.l3 loop_nc (y := .loop .busy none nt aR [11] pvIa pvI)).keep (oldk.keepG _)
          have h2 := h1.keep (kp3.sub fun b h => h.1)
          have h3 := h2.setL hl3h loop_nc (y := .loop .ready none nt aR [11] pvIa pvI)
          exact h3.sub fun b h => ⟨fun hh => hh.elim h.1 (by omega), h.2⟩
        · refine hi.kp.trans (hP (fun b h hg => ?_) (by omega))
          exact (hi.new b hg).elim (fun h2 => h.1 (hG2 b h2)) (by omega)
  · intro G3 done3 Ha Hb wa wb hga hk ⟨G, hi⟩
    have hlen := hk.1
    have hBa := hi.pw.gok.len
    have hL3a := lt_of_blk hi.l3
    have st : ∀ {b : Nat} {x : Blk}, Ha[b]? = some x → b < L3 + 1 → Hb[b]? = some x := fun {b x} hx hb => by
      rw [hk.below wa hga.all hga.len hb]; exact hx
    refine ⟨G, ⟨wb, hi.pw.gok.grow hlen, fun b hb hns => ?_, st hi.pw.box (by omega), hi.pw.gy⟩, hi.sub, hi.new, ?_, st hi.rb (by omega), st hi.l2 (by omega), st hi.l3 (by omega), ?_, ?_⟩
    · rw [hk.below wa hga.all hga.len (by omega)]; exact hi.pw.low b hb hns
    · exact he.keep G _ Ha Hb wa wb hi.pw.gok (hk.sub hi.sub) hi.inv
    · exact hi.rr.keep (hk.sub fun b h => hga.all b h.2)
    · exact hi.kp.trans (hk.sub fun b h => hga.all b (by omega))
end
end Go.Proofs.YtopmcphepoiigaaGreat
namespace Go.Abs
theorem RI.lt {P : Nat → Prop} {H : Heap} {v : Value} {l : List Value} (h : RI P H v l) (hw : WF H) : RI (fun b => P b ∧ b < H.length) H v l := by
  rcases h with h | h | ⟨b, o, f, w, cs, h1, h2, h3, hb, h4⟩
  · exact .inl h
  · exact .inr (.inl h)
  · have := lt_of_blk hb
    have := hw b f w cs hb
    exact .inr (.inr ⟨b, o, f, w, cs, h1, ⟨h2, by omega⟩, ⟨h3, by omega⟩, hb, h4⟩)
end Go.Abs
namespace Go.Proofs.YtopmcphepoiigaaGreat
open Go Go.Abs Go.Num
set_option maxRecDepth 10000
attribute [local congr] bindO_congr bindF_congr bindX_congr condX_congr iteB_congr binS_congr pickS_congr eqB_congr nilS_congr clsW_congr maxS_congr minS_congr
theorem iL0 : zeroT Tryz.prog 22 = some (.slice none 0 0) := by kernel_rfl
section
variable {H H0 : Heap} {S : Nat → Prop} {N : Nat} {c : List Int} {vc Y : Value} {bn bc yb : Nat} {F : Nat} {I : (Nat → Prop) → List (List Int × List Int) → Heap → Prop}
variable {L2 : Nat} {aO : Fr}
noncomputable def ntP : Nat := Tryz.f79.ntmps
structure OutS (H : Heap) (S : Nat → Prop) (c : List Int) (Y : Value) (yb : Nat) (I : (Nat → Prop) → List (List Int × List Int) → Heap → Prop) (L2 N : Nat) (aO : Fr) (G2 : Nat → Prop) (done2 : List (List Int)) (Hc : Heap) (G : Nat → Prop) : Prop where
  pw : PwS H S Y yb G Hc
  sub : ∀ b, G b → G2 b
  not : ∀ b, H.length ≤ b → b < L2 + 1 → ¬G b
  inv : I G (done2.flatMap (rowP N c)) Hc
  l2 : Hc[L2]? = some (.loop .ready none ntP aO [8] pvOa pvO)
theorem out_eats (g : PvG H H0 S N c vc bn bc) (he : Eats (fun n => evB Tryz.prog bC n) F Y H.length S (pairsP N c) QP I)
    (hL2 : H.length ≤ L2) (hyb : yb < L2) (k1 : aO 1 = ptrA bn 0) (k2 : aO 2 = ptrA bc 0) (k3 : aO 3 = ptrA yb 0) :
    Eats (fun n => evB Tryz.prog bC n) (F + 1400) (.func (.yield L2) #[] #[]) (L2 + 1) (fun b => b ≠ L2) (permsP N) QL (fun G2 done2 Hc => ∃ G, OutS H S c Y yb I L2 N aO G2 done2 Hc G) := by
  refine ⟨?_, vEq_yield, scal_yield, ?_⟩
  · intro n hn G2 done2 r rest2 vs Hs hit hws hgs ⟨G, hi⟩ ⟨vr, hvs, rr⟩
    subst hvs
    obtain ⟨m, rfl⟩ : ∃ m, n = m + 1 := ⟨n - 1, by omega⟩
    have hg2 : ¬G L2 := hi.not L2 hL2 (by omega)
    have hG2 : G2 L2 := hgs.all L2 (by omega)
    have hlen := hi.pw.gok.len
    have hL2lt := lt_of_blk hi.l2
    have hN := g.hN
    -- the parameter's box
    have h1 : ∃ a, evT Tryz.prog (evB Tryz.prog bC m) m ntP (some L2) D1 pvOa (putAll aO [8] [vr]) Hs = some (.normal, a, Hs ++ [.cells Hs.length true [vr]]) ∧ a 1 = ptrA bn 0 ∧ a 2 = ptrA bc 0 ∧ a 3 = ptrA yb 0 ∧ a 4 = ptrA Hs.length 0 := by
      rw [show pvOa = rfAsg (atC [1, 1, 0] ((Tryz.f79.body).getD .skip)) from rfl]
      have sf := fresh_box (x := .slice none 0 0) hws rr.R.scal
      simp (disch := omega) only [Tryz.f79, Option.getD_some, atC, rfAsg, putAll, es_region, ops_nil, ops_cons, bindO_some, bindF_some, ev_tmp, putA, upd_at, Option.map_some, ↓reduceIte, Nat.reduceEqDiff, ↓bindO_some, ↓bindF_some, sy_store zL, sy_alloc iL0 scal_nil, sf]
      refine ⟨_, rfl, ?_, ?_, ?_, ?_⟩
      · exact k1
      · exact k2
      · exact k3
      · rfl
    obtain ⟨a, ea, a1, a2, a3, a4⟩ := h1
    have wfa := hws.app (Nat.le_refl Hs.length) (o := true) (cs := [vr])
    have hla : (Hs ++ [Blk.cells Hs.length true [vr]]).length = Hs.length + 1 := by simp
    have hbra : (Hs ++ [Blk.cells Hs.length true [vr]])[Hs.length]? = some (.cells Hs.length true [vr]) := app_at
    have olda := Old.app Hs [.cells Hs.length true [vr]]
    have hl2a : (Hs ++ [Blk.cells Hs.length true [vr]])[L2]? = some (.loop .ready none ntP aO [8] pvOa pvO) := by rw [app_lt hL2lt]; exact hi.l2
    generalize hHa : Hs ++ [Blk.cells Hs.length true [vr]] = Ha at *
    -- busy
    have wfb : WF (Ha.set L2 (.loop .busy none ntP aO [8] pvOa pvO)) := wfa.set loop_nc
    have hlb : (Ha.set L2 (.loop .busy none ntP aO [8] pvOa pvO)).length = Hs.length + 1 := by rw [set_len, hla]
    have hl2b : (Ha.set L2 (.loop .busy none ntP aO [8] pvOa pvO))[L2]? = some (.loop .busy none ntP aO [8] pvOa pvO) := set_eq hl2a
    have hb : ∀ {b : Nat}, b < Hs.length → b ≠ L2 → (Ha.set L2 (.loop .busy none ntP aO [8] pvOa pvO))[b]? = Hs[b]? := fun h h2 => by rw [set_ne h2, olda.2 _ h]
    have hbrb : (Ha.set L2 (.loop .busy none ntP aO [8] pvOa pvO))[Hs.length]? = some (.cells Hs.length true [vr]) := by rw [set_ne (by omega)]; exact hbra
    have kb : ∀ {P : Nat → Prop}, ¬P L2 → KeepG P Hs (Ha.set L2 (.loop .busy none ntP aO [8] pvOa pvO)) := fun {P} hP => (olda.keepG P).trans (KeepG.set hP _)
    have rrb : RI (fun b => ¬G2 b ∧ b < Hs.length) (Ha.set L2 (.loop .busy none ntP aO [8] pvOa pvO)) vr (ints r) := ((rr.lt hws).keep (olda.keepG _)).setL hl2a loop_nc
    generalize hHb : Ha.set L2 (.loop .busy none ntP aO [8] pvOa pvO) = Hb at *
    -- the permutations' box
    obtain ⟨fn, on, hnb⟩ := g.nb
    have hbnl := lt_of_blk hnb
    have hnb1 : Hb[bn]? = some (.cells fn on [vi N]) := by rw [hb (by omega) (by omega), hi.pw.low bn hbnl g.s1]; exact hnb
    have l1 := load_box hnb1
    have s1 := perms_run (H := Hb) (N := N) m (by omega)
    have wfc := wfb.app (Nat.le_refl Hb.length) (o := true) (cs := [vi N])
    have hlc : (Hb ++ [Blk.cells Hb.length true [vi N]]).length = Hs.length + 2 := by simp; omega
    have oldc := Old.app Hb [.cells Hb.length true [vi N]]
    have hb3 : (Hb ++ [Blk.cells Hb.length true [vi N]])[Hb.length]? = some (.cells Hb.length true [vi N]) := app_at
    generalize hHc : Hb ++ [Blk.cells Hb.length true [vi N]] = Hc at *
    have cb : ∀ {b : Nat} {x : Blk}, Hb[b]? = some x → Hc[b]? = some x := fun h => by rw [oldc.2 _ (lt_of_blk h)]; exact h
    -- the inner range
    have key : ∀ aR : Fr, aR 2 = ptrA bc 0 → aR 3 = ptrA yb 0 → aR 4 = ptrA Hs.length 0 → aR 10 = .func (.func 85) #[] #[ptrA Hb.length 0] →
        ∃ G3 H3, evT Tryz.prog (evB Tryz.prog bC m) m ntP (some L2) D1 (.rangeFunc (.tmp 10) #[11] pvIa pvI) aR Hc = some (.normal, aR, H3.set Hc.length .dead) ∧ WF H3 ∧ GOk (Hc.length + 1) G3 H3 ∧
          ∃ G', InS H S c Y yb I Hs G2 G done2 r vr Hs.length L2 Hc.length ntP N (.loop .busy none ntP aO [8] pvOa pvO) aR G3 (permsP N) H3 G' := by
      intro aR q2 q3 q4 q10
      have hfeed := perms_feeds (H := Hc ++ [.loop .ready none ntP aR [11] pvIa pvI]) (bn := Hb.length) (fn := Hb.length) (N := N) (o := true) wfc.loop (by omega) (by rw [app_lt (by omega)]; exact hb3)
      rw [← q10] at hfeed
      have hin := in_eats (L3 := Hc.length) (nt := ntP) (G2 := G2) (Go := G) (H1 := Hs) (done2 := done2) (r := r) (rest2 := rest2) (vr := vr) (br := Hs.length) (L2 := L2) (X2 := .loop .busy none ntP aO [8] pvOa pvO) (aR := aR) (yb := yb) g he hit (fun b hb => hi.pw.gok.lt b hb) hi.sub hlen (Nat.le_refl _) (by omega) hg2 (by omega) (by omega) (by omega) loop_nc q2 q3 q4
      have hr := feeds_range (k := m) (nt := ntP) (rd := some L2) (Dr := D1) (P := Tryz.prog) (f := .tmp 10) (params := #[11]) (assign := pvIa) (body := pvI) (a := aR) (H := Hc) (n := m) (D := 100) (F := F + 1200) hfeed (fun b h => h.elim) (fun h => h rfl) hin ?_ (by omega) ?_
      · obtain ⟨G3, H3, e, wf3, gk3, _, hG⟩ := hr
        exact ⟨G3, H3, e, wf3, gk3, hG⟩
      · have kl : ∀ {P : Nat → Prop}, ¬P L2 → KeepG P Hs (Hc ++ [.loop .ready none ntP aR [11] pvIa pvI]) := fun {P} hP => ((kb hP).trans (oldc.keepG P)).trans ((Old.app Hc _).keepG P)
        have al : ∀ {b : Nat} {x : Blk}, Hb[b]? = some x → (Hc ++ [Blk.loop .ready none ntP aR [11] pvIa pvI])[b]? = some x := fun h => by rw [app_lt (lt_of_blk (cb h))]; exact cb h
        refine ⟨G, ⟨wfc.loop, hi.pw.gok.grow (by rw [app_len]; omega), fun b hb2 hns => ?_, ?_, hi.pw.gy⟩, fun b hb => by have := hi.pw.gok.lt b hb; show b < Hc.length + 1; omega, fun b hb => .inl hb, ?_, al hbrb, al hl2b, app_at, ?_, kl (fun h => h.1 hG2)⟩
        · rw [app_lt (by omega), oldc.2 b (by omega), hb (by omega) (by omega)]; exact hi.pw.low b hb2 hns
        · have := lt_of_blk hi.pw.box
          rw [app_lt (by omega), oldc.2 yb (by omega), hb this (by omega)]; exact hi.pw.box
        · rw [show rowQ c r [] = [] from rfl, List.append_nil]
          exact he.keep G _ Hs _ hws wfc.loop hi.pw.gok (kl hg2) hi.inv
        · exact (rrb.keep ((oldc.keepG _).trans ((Old.app Hc _).keepG _))).sub fun b h => ⟨fun hg => h.1 (hi.sub b hg), by omega⟩
      · show rdOk Hc (some L2) = true
        unfold rdOk
        simp only [cb hl2b]
    have h2 : ∃ a' G3 H3, evT Tryz.prog (evB Tryz.prog bC m) m ntP (some L2) D1 pvO a Hb = some (.normal, a', H3.set Hc.length .dead) ∧ WF H3 ∧ GOk (Hc.length + 1) G3 H3 ∧
          ∃ aR G', InS H S c Y yb I Hs G2 G done2 r vr Hs.length L2 Hc.length ntP N (.loop .busy none ntP aO [8] pvOa pvO) aR G3 (permsP N) H3 G' := by
      rw [show pvI = rfBody (atC [0, 1, 0] (rfBody (atC [1, 1, 0] ((Tryz.f79.body).getD .skip)))) from rfl, show pvIa = rfAsg (atC [0, 1, 0] (rfBody (atC [1, 1, 0] ((Tryz.f79.body).getD .skip)))) from rfl] at key
      rw [show pvO = rfBody (atC [1, 1, 0] ((Tryz.f79.body).getD .skip)) from rfl] at key ⊢
      simp only [Tryz.f79, Option.getD_some, atC, rfBody, rfAsg] at key ⊢
      simp (disch := omega) only [es_seq, es_region, es_block, ops_nil, ops_cons, st_fun, sy_load aI, bindO_some, bindF_some, bindX_normal, ev_tmp, ev_func, putA, upd_at, Option.map_some, ↓reduceIte, List.map_cons, List.map_nil, ↓bindO_some, ↓bindF_some, ↓bindX_normal, a1, l1, s1]
      generalize hR : upd _ 10 _ = aR
      obtain ⟨G3, H3, e, wf3, gk3, G', hin⟩ := key aR (by subst hR; exact a2) (by subst hR; exact a3) (by subst hR; exact a4) (by subst hR; rfl)
      rw [e]
      simp (disch := omega) only [blkX_normal]
      exact ⟨_, G3, H3, rfl, wf3, gk3, aR, G', hin⟩
    obtain ⟨a', G3, H3, e2, wf3, gk3, aR, G', hin⟩ := h2
    have hl2d : (H3.set Hc.length .dead)[L2]? = some (.loop .busy none ntP aO [8] pvOa pvO) := by rw [set_ne (by omega)]; exact hin.l2
    have hL3 := lt_of_blk hin.l3
    have ea' : evT Tryz.prog (evB Tryz.prog bC m) m ntP (some L2) D1 pvOa (putAll aO [8] [vr]) Hs = some (.normal, a, Ha) := ea
    have e2' : evT Tryz.prog (evB Tryz.prog bC m) m ntP (some L2) D1 pvO a (Ha.set L2 (.loop .busy none ntP aO [8] pvOa pvO)) = some (.normal, a', H3.set Hc.length .dead) := by rw [hHb]; exact e2
    have hrun := yield_run (P := Tryz.prog) (call := evB Tryz.prog bC m) (n := m) (D := D1) (args := [vr]) hi.l2 rfl (by kernel_rfl) (by kernel_rfl) ea' hl2a e2' hl2d
    have nG' : ∀ b, b < Hc.length + 1 → G' b → G b := fun b hb h => (hin.new b h).elim id (by omega)
    have hg2' : ¬G' L2 := fun h => hg2 (nG' L2 (by omega) h)
    have hg3' : ¬G' Hc.length := fun h => by have := hi.pw.gok.lt _ (nG' _ (by omega) h); omega
    refine ⟨(H3.set Hc.length .dead).set L2 (.loop .ready none ntP aO [8] pvOa pvO), evB_yield.trans hrun, (wf3.set (fun _ _ _ h => by cases h)).set loop_nc, ?_, ?_, G', ?_⟩
    · refine ⟨by rw [set_len, set_len]; have := gk3.len; omega, fun b x hb2 hx hf => ?_⟩
      have hbl := lt_of_blk hx
      have hne : b ≠ L2 := fun h => hb2 (by rw [h]; exact hG2)
      rw [set_ne hne, set_ne (by omega)]
      refine hin.kp.2 b x ⟨hb2, hbl⟩ hx ?_
      cases x with
      | cells f o cs => exact ⟨hf, by have := hws b f o cs hx; omega⟩
      | _ => trivial
    · intro b hb2 hns
      obtain rfl := Decidable.not_not.1 hns
      rw [set_eq hl2d, hi.l2]
    · refine ⟨⟨(wf3.set (fun _ _ _ h => by cases h)).set loop_nc, hin.pw.gok.grow (by rw [set_len, set_len]; exact Nat.le_refl _), fun b hb2 hns => ?_, ?_, hin.pw.gy⟩, ?_, ?_, ?_, set_eq hl2d⟩
      · rw [set_ne (by omega), set_ne (by omega)]; exact hin.pw.low b hb2 hns
      · rw [set_ne (by omega), set_ne (by omega)]; exact hin.pw.box
      · intro b hb2
        rcases hin.new b hb2 with h | h
        · exact .inl (hi.sub b h)
        · exact .inr ⟨by omega, by rw [set_len, set_len]; exact hin.pw.gok.lt b hb2⟩
      · exact fun b h1 h2 h => hi.not b h1 h2 (nG' b (by omega) h)
      · rw [List.flatMap_append, List.flatMap_cons, List.flatMap_nil, List.append_nil]
        exact he.keep G' _ H3 _ wf3 ((wf3.set (fun _ _ _ h => by cases h)).set loop_nc) hin.pw.gok ((KeepG.set hg3' _).trans (KeepG.set hg2' _)) hin.inv
  · intro G2 done2 Ha Hb wa wb hga hk ⟨G, hi⟩
    have hlen := hk.1
    have hL2a := lt_of_blk hi.l2
    have st : ∀ {b : Nat} {x : Blk}, Ha[b]? = some x → b < L2 + 1 → Hb[b]? = some x := fun {b x} hx hb => by
      rw [hk.below wa hga.all hga.len hb]; exact hx
    refine ⟨G, ⟨wb, hi.pw.gok.grow hlen, fun b hb hns => ?_, st hi.pw.box (by omega), hi.pw.gy⟩, hi.sub, hi.not, ?_, st hi.l2 (by omega)⟩
    · rw [hk.below wa hga.all hga.len (by omega)]; exact hi.pw.low b hb hns
    · exact he.keep G _ Ha Hb wa wb hi.pw.gok (hk.sub hi.sub) hi.inv
theorem pairs_feeds (hw : WF H) (hN : N ≤ 5) (ok : ∀ r ∈ permsP N, ∀ u ∈ permsP N, commP r u ∈ permsP N ∧ (kindP r u).length ≤ 1000) (cl : c.length ≤ 1000) (rc : R H0 vc (ints c)) (old : Old H0.length H0 H) (nb : ∃ f o, H[bn]? = some (.cells f o [vi N])) (cb : ∃ f o, H[bc]? = some (.cells f o [vc])) :
    Feeds (fun n => evB Tryz.prog bC n) 1600 (.func (.func 79) #[] #[ptrA bn 0, ptrA bc 0]) (fun b => b = bn ∨ b = bc ∨ b < H0.length) H (pairsP N c) QP := by
  intro F Y S I hK he hI n hn
  have g : PvG H H0 S N c vc bn bc := ⟨hN, ok, cl, rc, old, nb, cb, fun b hb => hK b (.inr (.inr hb)), hK bn (.inl rfl), hK bc (.inr (.inl rfl))⟩
  refine run_ofB (F := F + 1599) (Q := fun r => ∃ G' H', r = some (Value.tuple #[], H') ∧ WF H' ∧ GOk H.length G' H' ∧ (∀ b, b < H.length → ¬S b → H'[b]? = H[b]?) ∧ I G' (pairsP N c) H') (fun n hn => ?_) n (by omega)
  rw [body_runC Tryz.func79 rfl (ok_fn (by rfl) Tryz.func79 rfl) (Nat.le_of_ble_eq_true rfl) (D := D1) (by kernel_rfl)]
  obtain ⟨fn, on, hnb⟩ := nb
  have hbnl := lt_of_blk hnb
  -- the taker's box
  have wf1 := hw.app (Nat.le_refl H.length) (o := true) (cs := [Y])
  have old1 := Old.app H [.cells H.length true [Y]]
  have hl1 : (H ++ [Blk.cells H.length true [Y]]).length = H.length + 1 := by simp
  have hy1 : (H ++ [Blk.cells H.length true [Y]])[H.length]? = some (.cells H.length true [Y]) := app_at
  generalize hH1 : H ++ [Blk.cells H.length true [Y]] = H1 at *
  have hnb1 : H1[bn]? = some (.cells fn on [vi N]) := by rw [old1.2 bn hbnl]; exact hnb
  have l1 := load_box hnb1
  have s1 := perms_run (H := H1) (N := N) n (by omega)
  have wf2 := wf1.app (Nat.le_refl H1.length) (o := true) (cs := [vi N])
  have old2 := Old.app H1 [.cells H1.length true [vi N]]
  have hl2 : (H1 ++ [Blk.cells H1.length true [vi N]]).length = H.length + 2 := by simp; omega
  have hb2 : (H1 ++ [Blk.cells H1.length true [vi N]])[H1.length]? = some (.cells H1.length true [vi N]) := app_at
  generalize hH2 : H1 ++ [Blk.cells H1.length true [vi N]] = H2 at *
  have key : ∀ aO : Fr, aO 1 = ptrA bn 0 → aO 2 = ptrA bc 0 → aO 3 = ptrA H.length 0 → aO 7 = .func (.func 85) #[] #[ptrA H1.length 0] →
      ∃ G2 H3, evT Tryz.prog (evB Tryz.prog bC n) n ntP none D1 (.rangeFunc (.tmp 7) #[8] pvOa pvO) aO H2 = some (.normal, aO, H3.set H2.length .dead) ∧ WF H3 ∧ GOk (H2.length + 1) G2 H3 ∧ ∃ G', OutS H S c Y H.length I H2.length N aO G2 (permsP N) H3 G' := by
    intro aO k1 k2 k3 k7
    have hfeed := perms_feeds (H := H2 ++ [.loop .ready none ntP aO [8] pvOa pvO]) (bn := H1.length) (fn := H1.length) (N := N) (o := true) wf2.loop (by omega) (by rw [app_lt (by omega)]; exact hb2)
    rw [← k7] at hfeed
    have hout := out_eats (L2 := H2.length) (aO := aO) (yb := H.length) g he (by omega) (by omega) k1 k2 k3
    have hr := feeds_range (k := n) (nt := ntP) (rd := none) (Dr := D1) (P := Tryz.prog) (f := .tmp 7) (params := #[8]) (assign := pvOa) (body := pvO) (a := aO) (H := H2) (n := n) (D := 100) (F := F + 1400) hfeed (fun b h => h.elim) (fun h => h rfl) hout ?_ (by omega) rfl
    · obtain ⟨G2, H3, e, wf3, gk3, _, hG⟩ := hr
      exact ⟨G2, H3, e, wf3, gk3, hG⟩
    · have hk : ∀ b, b < H.length → (H2 ++ [Blk.loop .ready none ntP aO [8] pvOa pvO])[b]? = H[b]? := fun b hb => by rw [app_lt (by omega), old2.2 b (by omega), old1.2 b hb]
      refine ⟨fun b => b < H.length, ⟨wf2.loop, ⟨fun b hb => hb, fun b hb => by rw [app_len]; omega, by rw [app_len]; omega⟩, fun b hb _ => hk b hb, ?_, by omega⟩, fun b hb => by show b < H2.length + 1; omega, fun b h1 _ h => by omega, ?_, app_at⟩
      · rw [app_lt (by omega), old2.2 _ (by omega)]; exact hy1
      · rw [List.flatMap_nil]
        exact he.keep _ _ H _ hw wf2.loop ⟨fun b hb => hb, fun b hb => hb, Nat.le_refl _⟩ ⟨by rw [app_len]; omega, fun b x hb hx _ => by rw [hk b hb]; exact hx⟩ hI
  have fin : ∀ aO : Fr, aO 1 = ptrA bn 0 → aO 2 = ptrA bc 0 → aO 3 = ptrA H.length 0 → aO 7 = .func (.func 85) #[] #[ptrA H1.length 0] →
      ∃ a' H', evT Tryz.prog (evB Tryz.prog bC n) n ntP none D1 (.rangeFunc (.tmp 7) #[8] pvOa pvO) aO H2 = some (.normal, a', H') ∧ ∃ G', WF H' ∧ GOk H.length G' H' ∧ (∀ b, b < H.length → ¬S b → H'[b]? = H[b]?) ∧ I G' (pairsP N c) H' := by
    intro aO k1 k2 k3 k7
    obtain ⟨G2, H3, e, wf3, gk3, G', ho⟩ := key aO k1 k2 k3 k7
    have hng : ¬G' H2.length := ho.not _ (by omega) (by omega)
    refine ⟨_, _, e, G', wf3.set (fun _ _ _ h => by cases h), ho.pw.gok.grow (by rw [set_len]; exact Nat.le_refl _), fun b hb hns => by rw [set_ne (by omega)]; exact ho.pw.low b hb hns, ?_⟩
    exact he.keep G' _ H3 _ wf3 (wf3.set (fun _ _ _ h => by cases h)) ho.pw.gok (KeepG.set hng _) ho.inv
  rw [show pvOa = rfAsg (atC [1, 1, 0] ((Tryz.f79.body).getD .skip)) from rfl, show pvO = rfBody (atC [1, 1, 0] ((Tryz.f79.body).getD .skip)) from rfl, show ntP = Tryz.f79.ntmps from rfl] at fin
  simp only [Tryz.f79, Option.getD_some, atC, rfBody, rfAsg] at fin
  simp (disch := omega) only [Tryz.f79, es_seq, es_region, es_block, ops_nil, ops_cons, st_fun, sy_load aI, bindO_some, bindF_some, bindX_normal, ev_tmp, ev_func, putA, upd_at, Option.map_some, ↓reduceIte, Nat.reduceEqDiff, frOf_0, frOf_1, List.map_cons, List.map_nil, ↓bindO_some, ↓bindF_some, ↓bindX_normal, sy_box, List.cons_append, List.nil_append, he.sc, hH1, l1, s1]
  generalize hR : upd _ 7 _ = aO
  obtain ⟨a', H', e, G', h⟩ := fin aO (by subst hR; rfl) (by subst hR; rfl) (by subst hR; rfl) (by subst hR; rfl)
  rw [e]
  simp (disch := omega) only [blkX_normal, Option.map_some, fin_n, res_nil]
  exact ⟨G', H', rfl, h⟩
end
end Go.Proofs.YtopmcphepoiigaaGreat
namespace Go.Proofs.YtopmcphepoiigaaGreat
open Go Go.Abs Go.Num
set_option maxRecDepth 10000
attribute [local congr] bindO_congr bindF_congr bindX_congr condX_congr iteB_congr binS_congr pickS_congr eqB_congr nilS_congr clsW_congr maxS_congr minS_congr
def Sm (l : List Int) : Prop := l.length ≤ 1000 ∧ ∀ x ∈ l, -1000000 ≤ x ∧ x ≤ 1000000
theorem Sm.getD {l : List Int} (h : Sm l) (i : Nat) : -1000000 ≤ l.getD i 0 ∧ l.getD i 0 ≤ 1000000 := by
  by_cases hi : i < l.length
  · exact h.2 _ (getD_mem hi)
  · rw [List.getD_eq_getElem?_getD, List.getElem?_eq_none (by omega)]; simp
theorem Sm.sum {l : List Int} (h : Sm l) (i : Nat) : -1000000000 ≤ (l.take i).sum ∧ (l.take i).sum ≤ 1000000000 := by
  have := sum_bd (b := 1000000) (by omega) fun x (hx : x ∈ l.take i) => h.2 x (List.mem_of_mem_take hx)
  have h2 : (l.take i).length ≤ 1000 := Nat.le_trans (List.length_take_le' ..) h.1
  omega
noncomputable def cszA : Code := atC [1, 1, 0, 1, 0, 0] ((Tryz.f36.body).getD .skip)
theorem csize_run {H : Heap} {v : Value} {l : List Int} (hv : R H v (ints l)) (hs : Sm l) (n : Nat) (hn : 1010 ≤ n) : evB Tryz.prog bC n (.func (.func 36) #[] #[]) [v] H = some (vi l.sum, H) := by
  refine run_ofB (F := 1009) (Q := fun r => r = some (vi l.sum, H)) (fun n hn => ?_) n hn
  rw [body_runS Tryz.func36 rfl (ok_fn (by rfl) Tryz.func36 rfl) (Nat.le_of_ble_eq_true rfl) (D := D0) (by kernel_rfl)]
  have hl := hs.1
  have key : ∀ A : Fr, A 3 = vi 0 → A 6 = v → A 7 = vi l.length → A 8 = vi (0 : Nat) → ∃ r a' H', loopN (evS Tryz.prog (evB Tryz.prog bC n) n Tryz.f36.ntmps none cszA) n A H = some (r, a', H') ∧ H' = H ∧ r = .exit 0 ∧ a' 3 = vi l.sum := by
    intro A h3 h6 h7 h8
    refine loop_up l.length (fun i a H' => H' = H ∧ a 3 = vi (l.take i).sum ∧ a 6 = v ∧ a 7 = vi l.length ∧ a 8 = vi i) _ ?_ ?_ (by omega) ⟨rfl, by rw [h3]; rfl, h6, h7, h8⟩
    · intro i a H' hi ⟨hH, h3, h6, h7, h8⟩
      subst hH
      left
      rw [show cszA = atC [1, 1, 0, 1, 0, 0] ((Tryz.f36.body).getD .skip) from rfl]
      have hlt : (i : Int) < l.length := by omega
      have e1 : IntKind.i64.wrap ((i : Int) + 1) = ((i + 1 : Nat) : Int) := by rw [wr64 (by omega) (by omega)]; omega
      have b1 := hs.sum i
      have b2 := hs.getD i
      have e2 : IntKind.i64.wrap ((l.take i).sum + l.getD i 0) = (l.take (i + 1)).sum := by rw [sum_take_succ hi]; exact wr64 (by omega) (by omega)
      simp (disch := omega) only [Tryz.f36, Option.getD_some, atC, es_seq, es_region, es_cond, es_block, es_skip, ops_nil, ops_cons, st_move, st_assign, sy_addr eL, sy_load aI, sy_bin, binS_lss, binS_add, bindO_some, bindF_some, bindX_normal, blkX_normal, condX_true, ev_tmp, ev_const, putA, upd_at, Option.map_some, ↓reduceIte, Nat.reduceEqDiff, Int.toNat_natCast, decide_true, ↓bindO_some, ↓bindF_some, ↓bindX_normal, ↓condX_true, h3, h6, h7, h8, hlt, hv.addrI, hv.loadI, e1, e2]
      exact ⟨_, _, rfl, rfl, rfl, h6, h7, rfl⟩
    · intro a H' ⟨hH, h3, h6, h7, h8⟩
      subst hH
      rw [show cszA = atC [1, 1, 0, 1, 0, 0] ((Tryz.f36.body).getD .skip) from rfl]
      simp (disch := omega) only [Tryz.f36, Option.getD_some, atC, es_seq, es_region, es_cond, es_exit, ops_nil, ops_cons, sy_bin, binS_lss, bindO_some, bindF_some, bindX_normal, bindX_exit, condX_false, ev_tmp, putA, upd_at, ↓reduceIte, decide_false, ↓bindO_some, ↓bindF_some, ↓bindX_normal, ↓bindX_exit, ↓condX_false, h7, h8, Int.lt_irrefl]
      rw [List.take_length] at h3
      exact ⟨_, _, _, rfl, by simp, rfl, rfl, h3⟩
  rw [show cszA = atC [1, 1, 0, 1, 0, 0] ((Tryz.f36.body).getD .skip) from rfl] at key
  simp only [Tryz.f36, Option.getD_some, atC] at key
  simp (disch := omega) only [Tryz.f36, es_seq, es_region, es_block, es_loop, es_ret, ops_nil, ops_cons, st_move, st_assign, sy_len uL, bindO_some, bindF_some, bindX_normal, ev_tmp, ev_const, putA, upd_at, Option.map_some, ↓reduceIte, Nat.reduceEqDiff, frOf_0, ↓bindO_some, ↓bindF_some, ↓bindX_normal, hv.lenI]
  generalize hA : upd _ 8 _ = A
  obtain ⟨r, a', H', e, hH, hr, h3⟩ := key A (by subst hA; rfl) (by subst hA; rfl) (by subst hA; rfl) (by subst hA; rfl)
  subst hr
  rw [e]
  subst hH
  simp (disch := omega) only [bindX_normal, blkX_exit, upd_at, Option.map_some, ↓reduceIte, ↓bindX_normal, fin_r, res_nil, res_tmp, pack_1, scal_vi, h3]
noncomputable def rszA : Code := atC [1, 1, 0, 1, 0, 0] ((Tryz.f10.body).getD .skip)
theorem rsize_run {H : Heap} {v : Value} {l : List Int} (hv : R H v (ints l)) (hs : Sm l) (n : Nat) (hn : 1010 ≤ n) : evB Tryz.prog bC n (.func (.func 10) #[] #[]) [v] H = some (vi l.sum, H) := by
  refine run_ofB (F := 1009) (Q := fun r => r = some (vi l.sum, H)) (fun n hn => ?_) n hn
  rw [body_runS Tryz.func10 rfl (ok_fn (by rfl) Tryz.func10 rfl) (Nat.le_of_ble_eq_true rfl) (D := D0) (by kernel_rfl)]
  have hl := hs.1
  have key : ∀ A : Fr, A 0 = v → A 3 = vi 0 → A 4 = vi (0 : Nat) → ∃ r a' H', loopN (evS Tryz.prog (evB Tryz.prog bC n) n Tryz.f10.ntmps none rszA) n A H = some (r, a', H') ∧ H' = H ∧ r = .exit 0 ∧ a' 3 = vi l.sum := by
    intro A h0 h3 h4
    refine loop_up l.length (fun i a H' => H' = H ∧ a 0 = v ∧ a 3 = vi (l.take i).sum ∧ a 4 = vi i) _ ?_ ?_ (by omega) ⟨rfl, h0, by rw [h3]; rfl, h4⟩
    · intro i a H' hi ⟨hH, h0, h3, h4⟩
      subst hH
      left
      rw [show rszA = atC [1, 1, 0, 1, 0, 0] ((Tryz.f10.body).getD .skip) from rfl]
      have hlt : (i : Int) < l.length := by omega
      have e1 : IntKind.i64.wrap ((i : Int) + 1) = ((i + 1 : Nat) : Int) := by rw [wr64 (by omega) (by omega)]; omega
      have b1 := hs.sum i
      have b2 := hs.getD i
      have e2 : IntKind.i64.wrap ((l.take i).sum + l.getD i 0) = (l.take (i + 1)).sum := by rw [sum_take_succ hi]; exact wr64 (by omega) (by omega)
      simp (disch := omega) only [Tryz.f10, Option.getD_some, atC, es_seq, es_region, es_cond, es_block, es_skip, ops_nil, ops_cons, st_move, st_assign, sy_len uL, sy_addr eL, sy_load aI, sy_bin, binS_lss, binS_add, bindO_some, bindF_some, bindX_normal, blkX_normal, condX_true, ev_tmp, ev_const, putA, upd_at, Option.map_some, ↓reduceIte, Nat.reduceEqDiff, Int.toNat_natCast, decide_true, ↓bindO_some, ↓bindF_some, ↓bindX_normal, ↓condX_true, h0, h3, h4, hlt, hv.lenI, hv.addrI, hv.loadI, e1, e2]
      exact ⟨_, _, rfl, rfl, h0, rfl, rfl⟩
    · intro a H' ⟨hH, h0, h3, h4⟩
      subst hH
      rw [show rszA = atC [1, 1, 0, 1, 0, 0] ((Tryz.f10.body).getD .skip) from rfl]
      simp (disch := omega) only [Tryz.f10, Option.getD_some, atC, es_seq, es_region, es_cond, es_exit, ops_nil, ops_cons, st_move, sy_len uL, sy_bin, binS_lss, bindO_some, bindF_some, bindX_normal, bindX_exit, condX_false, ev_tmp, putA, upd_at, Option.map_some, ↓reduceIte, Nat.reduceEqDiff, decide_false, ↓bindO_some, ↓bindF_some, ↓bindX_normal, ↓bindX_exit, ↓condX_false, h0, h4, hv.lenI, Int.lt_irrefl]
      rw [List.take_length] at h3
      exact ⟨_, _, _, rfl, by simp, rfl, rfl, h3⟩
  rw [show rszA = atC [1, 1, 0, 1, 0, 0] ((Tryz.f10.body).getD .skip) from rfl] at key
  simp only [Tryz.f10, Option.getD_some, atC] at key
  simp (disch := omega) only [Tryz.f10, es_seq, es_region, es_block, es_loop, es_ret, ops_nil, ops_cons, st_move, st_assign, bindO_some, bindF_some, bindX_normal, ev_tmp, ev_const, putA, upd_at, ↓reduceIte, ↓bindO_some, ↓bindF_some, ↓bindX_normal]
  generalize hA : upd _ 4 _ = A
  obtain ⟨r, a', H', e, hH, hr, h3⟩ := key A (by subst hA; rfl) (by subst hA; rfl) (by subst hA; rfl)
  subst hr
  rw [e]
  subst hH
  simp (disch := omega) only [bindX_normal, blkX_exit, upd_at, Option.map_some, ↓reduceIte, ↓bindX_normal, fin_r, res_nil, res_tmp, pack_1, scal_vi, h3]
theorem part_sm {l : List Int} (h1 : l.length ≤ 1000) (h : chkGo none l = none) : Sm l := ⟨h1, fun x hx => by have := chkGo_none h x hx; omega⟩
noncomputable def cckA : Code := atC [1, 1, 0, 1, 0, 0] ((Tryz.f35.body).getD .skip)
theorem ccheck_run {H : Heap} {v : Value} {l : List Int} (hv : R H v (ints l)) (hl : l.length ≤ 1000) (n : Nat) (hn : 1011 ≤ n) : evB Tryz.prog bC n (.func (.func 35) #[] #[]) [v] H = some (vi (chk l), H) := by
  refine run_ofB (F := 1010) (Q := fun r => r = some (vi (chk l), H)) (fun n hn => ?_) n hn
  rw [body_runS Tryz.func35 rfl (ok_fn (by rfl) Tryz.func35 rfl) (Nat.le_of_ble_eq_true rfl) (D := D0) (by kernel_rfl)]
  by_cases hbig : 20 < l.length
  · have c1 : (20 : Int) < (l.length : Int) := by omega
    rw [show chk l = 8 from if_pos hbig]
    simp (disch := omega) only [Tryz.f35, es_seq, es_region, es_cond, es_ret, ops_nil, ops_cons, st_move, st_assign, sy_len uL, sy_bin, binS_gtr, bindO_some, bindF_some, bindX_normal, bindX_ret, condX_true, ev_tmp, ev_const, putA, upd_at, Option.map_some, ↓reduceIte, Nat.reduceEqDiff, frOf_0, decide_true, ↓bindO_some, ↓bindF_some, ↓bindX_normal, ↓bindX_ret, ↓condX_true, fin_r, res_nil, res_tmp, pack_1, scal_vi, hv.lenI, c1]
  · have c1 : ¬ (20 : Int) < (l.length : Int) := by omega
    rw [show chk l = _ from if_neg hbig]
    have key : ∀ A : Fr, A 0 = v → A 8 = v → A 9 = vi l.length → A 10 = vi (0 : Nat) → ∃ r a' H', loopN (evS Tryz.prog (evB Tryz.prog bC n) n Tryz.f35.ntmps none cckA) n A H = some (r, a', H') ∧ H' = H ∧ ((r = .exit 0 ∧ a' 0 = v ∧ chkGo none l = none) ∨ ∃ e, r = .ret ∧ a' 2 = vi e ∧ chkGo none l = some e) := by
      intro A h0 h8 h9 h10
      refine loop_up l.length (fun i a H' => H' = H ∧ a 0 = v ∧ a 8 = v ∧ a 9 = vi l.length ∧ a 10 = vi i ∧ chkGo none l = chkGo (prv l i) (l.drop i)) _ ?_ ?_ (by omega) ⟨rfl, h0, h8, h9, h10, rfl⟩
      · intro i a H' hi ⟨hH, h0, h8, h9, h10, hg⟩
        subst hH
        rw [show cckA = atC [1, 1, 0, 1, 0, 0] ((Tryz.f35.body).getD .skip) from rfl]
        have hlt : (i : Int) < l.length := by omega
        have e1 : IntKind.i64.wrap ((i : Int) + 1) = ((i + 1 : Nat) : Int) := by rw [wr64 (by omega) (by omega)]; omega
        rw [chkGo_at hi] at hg
        by_cases hx1 : l.getD i 0 < 1
        · right
          rw [show bad (prv l i) (l.getD i 0) = some 2 from if_pos hx1] at hg
          simp (disch := omega) only [Tryz.f35, Option.getD_some, atC, es_seq, es_region, es_cond, es_block, es_skip, es_ret, ops_nil, ops_cons, ops_consG, st_move, st_assign, sy_pick, pickS_true, sy_addr eL, sy_load aI, sy_bin, binS_lss, bindO_some, bindF_some, bindX_normal, bindX_ret, blkX_ret, condX_true, iteB_false, ev_tmp, ev_const, putA, upd_at, Option.map_some, ↓reduceIte, Nat.reduceEqDiff, Int.toNat_natCast, decide_true, Bool.not_true, yieldO_eq, yO, yV_bool, some_false, List.getElem?_cons_zero, List.getElem?_cons_succ, ↓bindO_some, ↓bindF_some, ↓bindX_normal, ↓bindX_ret, ↓condX_true, ↓iteB_false, h8, h9, h10, hlt, hv.addrI, hv.loadI, hx1]
          exact ⟨_, _, _, rfl, by simp, rfl, .inr ⟨2, rfl, rfl, hg⟩⟩
        · by_cases hx2 : 20 < l.getD i 0
          · right
            rw [show bad (prv l i) (l.getD i 0) = some 2 from by unfold bad; rw [if_neg hx1, if_pos hx2]] at hg
            simp (disch := omega) only [Tryz.f35, Option.getD_some, atC, es_seq, es_region, es_cond, es_block, es_skip, es_ret, ops_nil, ops_cons, ops_consG, st_move, st_assign, sy_pick, pickS_false, sy_addr eL, sy_load aI, sy_bin, binS_lss, binS_gtr, bindO_some, bindF_some, bindX_normal, bindX_ret, blkX_ret, condX_true, iteB_true, ev_tmp, ev_const, putA, upd_at, Option.map_some, ↓reduceIte, Nat.reduceEqDiff, Int.toNat_natCast, decide_true, decide_false, yieldO_eq, yO, yV_bool, List.getElem?_cons_zero, List.getElem?_cons_succ, beq_self_eq_true, ↓bindO_some, ↓bindF_some, ↓bindX_normal, ↓bindX_ret, ↓condX_true, ↓iteB_true, h8, h9, h10, hlt, hv.addrI, hv.loadI, hx1, hx2]
            exact ⟨_, _, _, rfl, by simp, rfl, .inr ⟨2, rfl, rfl, hg⟩⟩
          · cases i with
            | zero =>
              left
              rw [show bad (prv l 0) (l.getD 0 0) = none from by unfold bad; rw [if_neg hx1, if_neg hx2]; rfl] at hg
              have c0 : decide ((0 : Int) < ((0 : Nat) : Int)) = false := rfl
              simp (disch := omega) only [Tryz.f35, Option.getD_some, atC, es_seq, es_region, es_cond, es_block, es_skip, ops_nil, ops_cons, ops_consG, st_move, st_assign, sy_pick, pickS_false, sy_addr eL, sy_load aI, sy_bin, binS_lss, binS_gtr, binS_add, bindO_some, bindF_some, bindX_normal, blkX_normal, condX_true, condX_false, iteB_true, iteB_false, ev_tmp, ev_const, putA, upd_at, Option.map_some, ↓reduceIte, Nat.reduceEqDiff, Nat.zero_add, Int.toNat_natCast, decide_true, decide_false, yieldO_eq, yO, yV_bool, some_true, List.getElem?_cons_zero, List.getElem?_cons_succ, beq_self_eq_true, ↓bindO_some, ↓bindF_some, ↓bindX_normal, ↓condX_true, ↓condX_false, ↓iteB_true, ↓iteB_false, h8, h9, h10, hlt, hv.addrI, hv.loadI, hx1, hx2, c0, e1]
              exact ⟨_, _, rfl, rfl, h0, h8, h9, rfl, hg⟩
            | succ j =>
              have c0 : (0 : Int) < ((j + 1 : Nat) : Int) := by omega
              have e2 : IntKind.i64.wrap (((j + 1 : Nat) : Int) - 1) = (j : Int) := by rw [wr64 (by omega) (by omega)]; omega
              by_cases hq : l.getD j 0 < l.getD (j + 1) 0
              · right
                rw [show bad (prv l (j + 1)) (l.getD (j + 1) 0) = some 9 from by unfold bad; rw [if_neg hx1, if_neg hx2]; exact if_pos hq] at hg
                simp (disch := omega) only [Tryz.f35, Option.getD_some, atC, es_seq, es_region, es_cond, es_block, es_skip, es_ret, ops_nil, ops_cons, ops_consG, st_move, st_assign, sy_pick, pickS_true, pickS_false, sy_addr eL, sy_load aI, sy_bin, binS_lss, binS_gtr, binS_sub, bindO_some, bindF_some, bindX_normal, bindX_ret, blkX_ret, condX_true, condX_false, iteB_true, ev_tmp, ev_const, putA, upd_at, Option.map_some, ↓reduceIte, Nat.reduceEqDiff, Int.toNat_natCast, decide_true, decide_false, yieldO_eq, yO, yV_bool, List.getElem?_cons_zero, List.getElem?_cons_succ, beq_self_eq_true, ↓bindO_some, ↓bindF_some, ↓bindX_normal, ↓bindX_ret, ↓condX_true, ↓condX_false, ↓iteB_true, h0, h8, h9, h10, hlt, hv.addrI, hv.loadI, hx1, hx2, c0, e2, hq]
                exact ⟨_, _, _, rfl, by simp, rfl, .inr ⟨9, rfl, rfl, hg⟩⟩
              · left
                rw [show bad (prv l (j + 1)) (l.getD (j + 1) 0) = none from by unfold bad; rw [if_neg hx1, if_neg hx2]; exact if_neg hq] at hg
                simp (disch := omega) only [Tryz.f35, Option.getD_some, atC, es_seq, es_region, es_cond, es_block, es_skip, ops_nil, ops_cons, ops_consG, st_move, st_assign, sy_pick, pickS_true, pickS_false, sy_addr eL, sy_load aI, sy_bin, binS_lss, binS_gtr, binS_add, binS_sub, bindO_some, bindF_some, bindX_normal, blkX_normal, condX_true, condX_false, iteB_true, ev_tmp, ev_const, putA, upd_at, Option.map_some, ↓reduceIte, Nat.reduceEqDiff, Int.toNat_natCast, decide_true, decide_false, yieldO_eq, yO, yV_bool, List.getElem?_cons_zero, List.getElem?_cons_succ, beq_self_eq_true, ↓bindO_some, ↓bindF_some, ↓bindX_normal, ↓condX_true, ↓condX_false, ↓iteB_true, h0, h8, h9, h10, hlt, hv.addrI, hv.loadI, hx1, hx2, c0, e2, hq, e1]
                exact ⟨_, _, rfl, rfl, h0, h8, h9, rfl, hg⟩
      · intro a H' ⟨hH, h0, h8, h9, h10, hg⟩
        subst hH
        rw [show cckA = atC [1, 1, 0, 1, 0, 0] ((Tryz.f35.body).getD .skip) from rfl]
        simp (disch := omega) only [Tryz.f35, Option.getD_some, atC, es_seq, es_region, es_cond, es_exit, ops_nil, ops_cons, sy_bin, binS_lss, bindO_some, bindF_some, bindX_normal, bindX_exit, condX_false, ev_tmp, putA, upd_at, ↓reduceIte, decide_false, ↓bindO_some, ↓bindF_some, ↓bindX_normal, ↓bindX_exit, ↓condX_false, h9, h10, Int.lt_irrefl]
        rw [List.drop_length] at hg
        exact ⟨_, _, _, rfl, by simp, rfl, .inl ⟨rfl, h0, hg⟩⟩
    rw [show cckA = atC [1, 1, 0, 1, 0, 0] ((Tryz.f35.body).getD .skip) from rfl] at key
    simp only [Tryz.f35, Option.getD_some, atC] at key
    simp (disch := omega) only [Tryz.f35, es_seq, es_region, es_cond, es_block, es_loop, es_skip, es_ret, ops_nil, ops_cons, st_move, st_assign, st_fun, sy_len uL, sy_bin, binS_gtr, bindO_some, bindF_some, bindX_normal, condX_false, ev_tmp, ev_const, ev_func, putA, upd_at, Option.map_some, ↓reduceIte, Nat.reduceEqDiff, frOf_0, List.map_cons, List.map_nil, decide_false, ↓bindO_some, ↓bindF_some, ↓bindX_normal, ↓condX_false, hv.lenI, c1]
    generalize hA : upd _ 10 _ = A
    obtain ⟨r, a', H', e, hH, h⟩ := key A (by subst hA; rfl) (by subst hA; rfl) (by subst hA; rfl) (by subst hA; rfl)
    rw [e]
    subst hH
    rcases h with ⟨rfl, h0, hg⟩ | ⟨e2, rfl, h2, hg⟩
    · rw [hg]
      have s1 := csize_run hv (part_sm hl hg) n (by omega)
      by_cases hb : 20 < l.sum
      · simp (disch := omega) only [binS_gtr, bindO_some, bindF_some, bindX_normal, bindX_ret, blkX_exit, condX_true, upd_at, Option.map_some, ↓reduceIte, decide_true, ↓bindO_some, ↓bindF_some, ↓bindX_normal, ↓bindX_ret, ↓condX_true, fin_r, res_nil, res_tmp, pack_1, scal_vi, h0, s1, hb]
      · simp (disch := omega) only [binS_gtr, bindO_some, bindF_some, bindX_normal, blkX_exit, condX_false, upd_at, Option.map_some, ↓reduceIte, decide_false, ↓bindO_some, ↓bindF_some, ↓bindX_normal, ↓condX_false, fin_r, res_nil, res_tmp, pack_1, scal_vi, h0, s1, hb]
    · rw [hg]
      simp (disch := omega) only [bindX_ret, blkX_ret, Option.map_some, ↓bindX_ret, fin_r, res_nil, res_tmp, pack_1, scal_vi, h2]
noncomputable def rckA : Code := atC [1, 1, 0, 1, 0, 0] ((Tryz.f8.body).getD .skip)
theorem rcheck_run {H : Heap} {v : Value} {l : List Int} (hv : R H v (ints l)) (hl : l.length ≤ 1000) (n : Nat) (hn : 1011 ≤ n) : evB Tryz.prog bC n (.func (.func 8) #[] #[]) [v] H = some (vi (chk l), H) := by
  refine run_ofB (F := 1010) (Q := fun r => r = some (vi (chk l), H)) (fun n hn => ?_) n hn
  rw [body_runS Tryz.func8 rfl (ok_fn (by rfl) Tryz.func8 rfl) (Nat.le_of_ble_eq_true rfl) (D := D0) (by kernel_rfl)]
  by_cases hbig : 20 < l.length
  · have c1 : (20 : Int) < (l.length : Int) := by omega
    rw [show chk l = 8 from if_pos hbig]
    simp (disch := omega) only [Tryz.f8, es_seq, es_region, es_cond, es_ret, ops_nil, ops_cons, st_move, st_assign, sy_len uL, sy_bin, binS_gtr, bindO_some, bindF_some, bindX_normal, bindX_ret, condX_true, ev_tmp, ev_const, putA, upd_at, Option.map_some, ↓reduceIte, Nat.reduceEqDiff, frOf_0, decide_true, ↓bindO_some, ↓bindF_some, ↓bindX_normal, ↓bindX_ret, ↓condX_true, fin_r, res_nil, res_tmp, pack_1, scal_vi, hv.lenI, c1]
  · have c1 : ¬ (20 : Int) < (l.length : Int) := by omega
    rw [show chk l = _ from if_neg hbig]
    have key : ∀ A : Fr, A 0 = v → A 3 = vi (0 : Nat) → ∃ r a' H', loopN (evS Tryz.prog (evB Tryz.prog bC n) n Tryz.f8.ntmps none rckA) n A H = some (r, a', H') ∧ H' = H ∧ ((r = .exit 0 ∧ a' 0 = v ∧ chkGo none l = none) ∨ ∃ e, r = .ret ∧ a' 2 = vi e ∧ chkGo none l = some e) := by
      intro A h0 h3
      refine loop_up l.length (fun i a H' => H' = H ∧ a 0 = v ∧ a 3 = vi i ∧ chkGo none l = chkGo (prv l i) (l.drop i)) _ ?_ ?_ (by omega) ⟨rfl, h0, h3, rfl⟩
      · intro i a H' hi ⟨hH, h0, h3, hg⟩
        subst hH
        rw [show rckA = atC [1, 1, 0, 1, 0, 0] ((Tryz.f8.body).getD .skip) from rfl]
        have hlt : (i : Int) < l.length := by omega
        have e1 : IntKind.i64.wrap ((i : Int) + 1) = ((i + 1 : Nat) : Int) := by rw [wr64 (by omega) (by omega)]; omega
        rw [chkGo_at hi] at hg
        have s0 := within_runS (l.getD i 0) 1 20 H' n (by omega)
        by_cases hx : l.getD i 0 < 1 ∨ 20 < l.getD i 0
        · right
          rw [show bad (prv l i) (l.getD i 0) = some 2 from by unfold bad; split; · rfl
                                                               · rw [if_pos (by omega)]] at hg
          rw [show (decide (1 ≤ l.getD i 0) && decide (l.getD i 0 ≤ 20)) = false from by rw [Bool.and_eq_false_iff]; exact hx.imp (fun h => decide_eq_false (by omega)) (fun h => decide_eq_false (by omega))] at s0
          simp (disch := omega) only [Tryz.f8, Option.getD_some, atC, es_seq, es_region, es_cond, es_block, es_skip, es_ret, ops_nil, ops_cons, st_move, st_assign, st_fun, sy_len uL, sy_addr eL, sy_load aI, sy_bin, st_not, binS_lss, bindO_some, bindF_some, bindX_normal, bindX_ret, blkX_ret, condX_true, ev_tmp, ev_const, ev_func, putA, upd_at, Option.map_some, ↓reduceIte, Nat.reduceEqDiff, Int.toNat_natCast, List.map_cons, List.map_nil, decide_true, Bool.not_false, ↓bindO_some, ↓bindF_some, ↓bindX_normal, ↓bindX_ret, ↓condX_true, h0, h3, hv.lenI, hlt, hv.addrI, hv.loadI, s0]
          exact ⟨_, _, _, rfl, by simp, rfl, .inr ⟨2, rfl, rfl, hg⟩⟩
        · have hx1 : ¬ l.getD i 0 < 1 := fun h => hx (.inl h)
          have hx2 : ¬ 20 < l.getD i 0 := fun h => hx (.inr h)
          rw [show (decide (1 ≤ l.getD i 0) && decide (l.getD i 0 ≤ 20)) = true from by rw [Bool.and_eq_true, decide_eq_true_eq, decide_eq_true_eq]; omega] at s0
          cases i with
          | zero =>
            left
            rw [show bad (prv l 0) (l.getD 0 0) = none from by unfold bad; rw [if_neg hx1, if_neg hx2]; rfl] at hg
            have c0 : decide ((0 : Int) < ((0 : Nat) : Int)) = false := rfl
            simp (disch := omega) only [Tryz.f8, Option.getD_some, atC, es_seq, es_region, es_draw, d0, es_cond, es_block, es_skip, ops_nil, ops_cons, opsV_nil, opsV_cons, opsV_consG, st_move, st_assign, sy_pick, pickS_false, st_fun, sy_len uL, sy_addr eL, sy_load aI, sy_bin, st_not, binS_lss, binS_gtr, binS_add, bindO_some, bindF_some, bindX_normal, blkX_normal, condX_true, condX_false, iteB_true, iteB_false, ev_tmp, ev_const, ev_func, putA, upd_at, Option.map_some, ↓reduceIte, Nat.reduceEqDiff, Nat.zero_add, Int.toNat_natCast, List.map_cons, List.map_nil, decide_true, Bool.not_true, yieldO_eq, yO, yV_bool, some_true, List.getElem?_cons_zero, List.getElem?_cons_succ, ↓bindO_some, ↓bindF_some, ↓bindX_normal, ↓condX_true, ↓condX_false, ↓iteB_true, ↓iteB_false, reflV_move, reflV_pick, reflV_bin, h0, h3, hv.lenI, hlt, hv.addrI, hv.loadI, s0, c0, e1]
            exact ⟨_, _, rfl, rfl, h0, rfl, hg⟩
          | succ j =>
            have c0 : (0 : Int) < ((j + 1 : Nat) : Int) := by omega
            have e2 : IntKind.i64.wrap (((j + 1 : Nat) : Int) - 1) = (j : Int) := by rw [wr64 (by omega) (by omega)]; omega
            by_cases hq : l.getD j 0 < l.getD (j + 1) 0
            · right
              rw [show bad (prv l (j + 1)) (l.getD (j + 1) 0) = some 9 from by unfold bad; rw [if_neg hx1, if_neg hx2]; exact if_pos hq] at hg
              simp (disch := omega) only [Tryz.f8, Option.getD_some, atC, es_seq, es_region, es_draw, d0, es_cond, es_block, es_skip, es_ret, ops_nil, ops_cons, opsV_nil, opsV_cons, opsV_consG, st_move, st_assign, sy_pick, pickS_true, st_fun, sy_len uL, sy_addr eL, sy_load aI, sy_bin, st_not, binS_lss, binS_gtr, binS_sub, bindO_some, bindF_some, bindX_normal, bindX_ret, blkX_ret, condX_true, condX_false, iteB_true, iteB_false, ev_tmp, ev_const, ev_func, putA, upd_at, Option.map_some, ↓reduceIte, Nat.reduceEqDiff, Int.toNat_natCast, List.map_cons, List.map_nil, decide_true, Bool.not_true, yieldO_eq, yO, yV_bool, List.getElem?_cons_zero, List.getElem?_cons_succ, beq_self_eq_true, ↓bindO_some, ↓bindF_some, ↓bindX_normal, ↓bindX_ret, ↓condX_true, ↓condX_false, ↓iteB_true, ↓iteB_false, reflV_load, reflV_move, reflV_pick, reflV_bin, reflV_addr, vEq_vi, h0, h3, hv.lenI, hlt, hv.addrI, hv.loadI, s0, c0, e2, hq]
              exact ⟨_, _, _, rfl, by simp, rfl, .inr ⟨9, rfl, rfl, hg⟩⟩
            · left
              rw [show bad (prv l (j + 1)) (l.getD (j + 1) 0) = none from by unfold bad; rw [if_neg hx1, if_neg hx2]; exact if_neg hq] at hg
              simp (disch := omega) only [Tryz.f8, Option.getD_some, atC, es_seq, es_region, es_draw, d0, es_cond, es_block, es_skip, ops_nil, ops_cons, opsV_nil, opsV_cons, opsV_consG, st_move, st_assign, sy_pick, pickS_true, st_fun, sy_len uL, sy_addr eL, sy_load aI, sy_bin, st_not, binS_lss, binS_gtr, binS_add, binS_sub, bindO_some, bindF_some, bindX_normal, blkX_normal, condX_true, condX_false, iteB_true, iteB_false, ev_tmp, ev_const, ev_func, putA, upd_at, Option.map_some, ↓reduceIte, Nat.reduceEqDiff, Int.toNat_natCast, List.map_cons, List.map_nil, decide_true, decide_false, Bool.not_true, yieldO_eq, yO, yV_bool, List.getElem?_cons_zero, List.getElem?_cons_succ, beq_self_eq_true, ↓bindO_some, ↓bindF_some, ↓bindX_normal, ↓condX_true, ↓condX_false, ↓iteB_true, ↓iteB_false, reflV_load, reflV_move, reflV_pick, reflV_bin, reflV_addr, vEq_vi, h0, h3, hv.lenI, hlt, hv.addrI, hv.loadI, s0, c0, e2, hq, e1]
              exact ⟨_, _, rfl, rfl, h0, rfl, hg⟩
      · intro a H' ⟨hH, h0, h3, hg⟩
        subst hH
        rw [show rckA = atC [1, 1, 0, 1, 0, 0] ((Tryz.f8.body).getD .skip) from rfl]
        simp (disch := omega) only [Tryz.f8, Option.getD_some, atC, es_seq, es_region, es_cond, es_exit, ops_nil, ops_cons, st_move, sy_len uL, sy_bin, binS_lss, bindO_some, bindF_some, bindX_normal, bindX_exit, condX_false, ev_tmp, putA, upd_at, Option.map_some, ↓reduceIte, Nat.reduceEqDiff, decide_false, ↓bindO_some, ↓bindF_some, ↓bindX_normal, ↓bindX_exit, ↓condX_false, h0, h3, hv.lenI, Int.lt_irrefl]
        rw [List.drop_length] at hg
        exact ⟨_, _, _, rfl, by simp, rfl, .inl ⟨rfl, h0, hg⟩⟩
    rw [show rckA = atC [1, 1, 0, 1, 0, 0] ((Tryz.f8.body).getD .skip) from rfl] at key
    simp only [Tryz.f8, Option.getD_some, atC] at key
    simp (disch := omega) only [Tryz.f8, es_seq, es_region, es_cond, es_block, es_loop, es_skip, es_ret, ops_nil, ops_cons, st_move, st_assign, st_fun, sy_len uL, sy_bin, binS_gtr, bindO_some, bindF_some, bindX_normal, condX_false, ev_tmp, ev_const, ev_func, putA, upd_at, Option.map_some, ↓reduceIte, Nat.reduceEqDiff, frOf_0, List.map_cons, List.map_nil, decide_false, ↓bindO_some, ↓bindF_some, ↓bindX_normal, ↓condX_false, hv.lenI, c1]
    generalize hA : upd _ 3 _ = A
    obtain ⟨r, a', H', e, hH, h⟩ := key A (by subst hA; rfl) (by subst hA; rfl)
    rw [e]
    subst hH
    rcases h with ⟨rfl, h0, hg⟩ | ⟨e2, rfl, h2, hg⟩
    · rw [hg]
      have s1 := rsize_run hv (part_sm hl hg) n (by omega)
      by_cases hb : 20 < l.sum
      · simp (disch := omega) only [binS_gtr, bindO_some, bindF_some, bindX_normal, bindX_ret, blkX_exit, condX_true, upd_at, Option.map_some, ↓reduceIte, decide_true, ↓bindO_some, ↓bindF_some, ↓bindX_normal, ↓bindX_ret, ↓condX_true, fin_r, res_nil, res_tmp, pack_1, scal_vi, h0, s1, hb]
      · simp (disch := omega) only [binS_gtr, bindO_some, bindF_some, bindX_normal, blkX_exit, condX_false, upd_at, Option.map_some, ↓reduceIte, decide_false, ↓bindO_some, ↓bindF_some, ↓bindX_normal, ↓condX_false, fin_r, res_nil, res_tmp, pack_1, scal_vi, h0, s1, hb]
    · rw [hg]
      simp (disch := omega) only [bindX_ret, blkX_ret, Option.map_some, ↓bindX_ret, fin_r, res_nil, res_tmp, pack_1, scal_vi, h2]
theorem long_run {H : Heap} {v : Value} {l : List Int} (hv : R H v (ints l)) (n : Nat) (hn : 1 ≤ n) : evB Tryz.prog bC n (.func (.func 7) #[] #[]) [v] H = some (.bool (decide (40 < (l.length : Int))), H) := by
  refine run_ofB (F := 0) (Q := fun r => r = some (.bool (decide (40 < (l.length : Int))), H)) (fun n hn => ?_) n hn
  rw [body_runS Tryz.func7 rfl (ok_fn (by rfl) Tryz.func7 rfl) (Nat.le_of_ble_eq_true rfl) (D := D0) (by kernel_rfl)]
  simp (disch := omega) only [Tryz.f7, es_seq, es_region, es_ret, ops_nil, ops_cons, st_move, st_assign, sy_len uL, sy_bin, binS_gtr, bindO_some, bindF_some, bindX_normal, ev_tmp, ev_const, putA, upd_at, Option.map_some, ↓reduceIte, Nat.reduceEqDiff, frOf_0, ↓bindO_some, ↓bindF_some, ↓bindX_normal, fin_r, res_nil, res_tmp, pack_1, scal_bool, hv.lenI]
end Go.Proofs.YtopmcphepoiigaaGreat
namespace Go.Proofs.YtopmcphepoiigaaGreat
open Go Go.Abs Go.Num
set_option maxRecDepth 10000
attribute [local congr] bindO_congr bindF_congr bindX_congr condX_congr iteB_congr binS_congr pickS_congr eqB_congr nilS_congr clsW_congr
theorem abs_len (z : Int) : (nf z.natAbs).length = (nf z).length := by
  rw [← nf_abs]
  split
  · rw [List.length_map]
  · rfl
theorem of_run {H : Heap} {z : Int} (hw : WF H) (h1 : -4000000000000000000 ≤ z) (h2 : z ≤ 4000000000000000000) (n : Nat) (hn : 2004 ≤ n) :
    OneL H (evB Tryz.prog bC n (.func (.func 38) #[] #[]) [vi z] H) (nf z) := by
  refine run_ofB (F := 2003) (Q := fun r => OneL H r (nf z)) (fun n hn => ?_) n hn
  rw [body_runS Tryz.func38 rfl (ok_fn (by rfl) Tryz.func38 rfl) (Nat.le_of_ble_eq_true rfl) (D := D0) (by kernel_rfl)]
  obtain ⟨w, H1, s1, w1, old1, wf1⟩ := small_run hw h1 h2 n (by omega)
  have hl : (nf z).length ≤ 3 := nf_len (by rw [show B ^ 3 = 1000000000000000000000000 from rfl]; omega) (by rw [show B ^ 3 = 1000000000000000000000000 from rfl]; omega)
  obtain ⟨v, H2, s2, o2, old2, wf2⟩ := list_run wf1 w1 (by rw [abs_len]; omega) n (by omega)
  simp (disch := omega) only [Tryz.f38, es_seq, es_region, es_ret, ops_nil, ops_cons, st_move, st_assign, st_fun, bindO_some, bindF_some, bindX_normal, ev_tmp, ev_const, ev_func, putA, upd_at, Option.map_some, ↓reduceIte, Nat.reduceEqDiff, frOf_0, List.map_cons, List.map_nil, ↓bindO_some, ↓bindF_some, ↓bindX_normal, fin_r, res_nil, res_tmp, pack_1, s1, s2, o2.R.scal]
  exact ⟨_, _, rfl, o2.below old1.1, old1.trans (old2.mono old1.1), wf2⟩
end Go.Proofs.YtopmcphepoiigaaGreat
namespace Go.Proofs.YtopmcphepoiigaaGreat
open Go Go.Abs Go.Num
set_option maxRecDepth 10000
attribute [local congr] bindO_congr bindF_congr bindX_congr condX_congr iteB_congr binS_congr pickS_congr eqB_congr nilS_congr clsW_congr maxS_congr minS_congr
theorem iI0 : zeroT Tryz.prog 3 = some (vi 0) := by kernel_rfl
theorem pairsC_run {H : Heap} {v : Value} {c : List Int} {N : Nat} (hw : WF H) (hv : R H v (ints c)) (hs : Sm c) (hN : c.sum = N) (n : Nat) (hn : 1020 ≤ n) : evB Tryz.prog bC n (.func (.func 37) #[] #[]) [v] H = some (.func (.func 79) #[] #[ptrA (H.length + 1) 0, ptrA H.length 0], (H ++ [.cells H.length true [v]]) ++ [.cells (H.length + 1) true [vi N]]) := by
  refine run_ofB (F := 1019) (Q := fun r => r = some (Value.func (.func 79) #[] #[ptrA (H.length + 1) 0, ptrA H.length 0], (H ++ [Blk.cells H.length true [v]]) ++ [Blk.cells (H.length + 1) true [vi N]])) (fun n hn => ?_) n hn
  rw [body_runS Tryz.func37 rfl (ok_fn (by rfl) Tryz.func37 rfl) (Nat.le_of_ble_eq_true rfl) (D := D0) (by kernel_rfl)]
  have old1 := Old.app H [.cells H.length true [v]]
  have wf1 := hw.app (Nat.le_refl H.length) (o := true) (cs := [v])
  have hl1 : (H ++ [Blk.cells H.length true [v]]).length = H.length + 1 := by simp
  have l1 := load_box (app_at (H := H) (x := .cells H.length true [v]))
  have s1 := csize_run (hv.mono old1) hs n (by omega)
  rw [hN] at s1
  have sf := fresh_box (x := vi 0) (c := vi N) wf1 rfl
  rw [hl1] at sf
  simp (disch := omega) only [Tryz.f37, es_seq, es_region, es_ret, ops_nil, ops_cons, st_assign, st_fun, sy_store zI, bindO_some, bindF_some, bindX_normal, ev_tmp, ev_const, ev_func, putA, upd_at, Option.map_some, ↓reduceIte, Nat.reduceEqDiff, frOf_0, List.map_cons, List.map_nil, ↓bindO_some, ↓bindF_some, ↓bindX_normal, fin_r, res_nil, res_tmp, pack_1, sy_box, sy_load aL, sy_alloc iI0 scal_vi, sy_makeF2, mkF2_ptr, scal_fn, hv.scal, l1, s1, sf, hl1]
noncomputable def fcB : Code := rfBody (atC [1, 1, 1, 1, 0, 1, 0] ((Tryz.f12.body).getD .skip))
noncomputable def ntF : Nat := Tryz.f12.ntmps
structure CntS (Hst : Heap) (b0 L : Nat) (done : List (List Int × List Int)) (Hc : Heap) : Prop where
  box : Hc[b0]? = some (.cells b0 true [vi done.length])
  low : ∀ b, b < L + 1 → b ≠ b0 → Hc[b]? = Hst[b]?
theorem cnt_eats {Hst : Heap} {b0 L F : Nat} {aO : Fr} {items : List (List Int × List Int)} (hi : items.length ≤ 100000) (hb : b0 < L) (hL : Hst[L]? = some (.loop .ready none ntF aO [16, 17] .skip fcB)) (hfam : ∀ b f o cs, b < L + 1 → b ≠ b0 → Hst[b]? = some (.cells f o cs) → f ≠ b0) (k5 : aO 5 = ptrA b0 0) :
    Eats (fun n => evB Tryz.prog bC n) (F + 10) (.func (.yield L) #[] #[]) (L + 1) (fun b => b = b0) items QP (fun _ done Hc => CntS Hst b0 L done Hc) := by
  refine ⟨?_, vEq_yield, scal_yield, ?_⟩
  · intro n hn G done x rest vs Hs hit hws hgs h ⟨v, w, hvs, _, _⟩
    subst hvs
    obtain ⟨m, rfl⟩ : ∃ m, n = m + 1 := ⟨n - 1, by omega⟩
    have hL1 : Hs[L]? = some (.loop .ready none ntF aO [16, 17] .skip fcB) := by rw [h.low L (by omega) (by omega)]; exact hL
    have hLlt := lt_of_blk hL1
    have hle : done.length < 100000 := by
      have := congrArg List.length hit
      simp at this
      omega
    have wfb : WF (Hs.set L (.loop .busy none ntF aO [16, 17] .skip fcB)) := hws.set loop_nc
    have hbb : (Hs.set L (.loop .busy none ntF aO [16, 17] .skip fcB))[b0]? = some (.cells b0 true [vi done.length]) := get_set_ne h.box hL1 loop_nc
    have l1 := load_box hbb
    obtain ⟨H2, es, hl2, hb2, wf2, k2⟩ := own_set wfb hbb (i := 0) (by simp) (c := vi (done.length + 1 : Nat)) rfl
    have es : storeS (ptrA b0 0) (vi (done.length + 1 : Nat)) (Hs.set L (.loop .busy none ntF aO [16, 17] .skip fcB)) = some H2 := es
    have e1 : IntKind.i64.wrap ((done.length : Int) + 1) = ((done.length + 1 : Nat) : Int) := by rw [wr64 (by omega) (by omega)]; omega
    have ha : evT Tryz.prog (evB Tryz.prog bC m) m ntF (some L) D0 .skip (putAll aO [16, 17] [v, w]) Hs = some (.normal, putAll aO [16, 17] [v, w], Hs) := rfl
    have hbd : ∃ a', evT Tryz.prog (evB Tryz.prog bC m) m ntF (some L) D0 fcB (putAll aO [16, 17] [v, w]) (Hs.set L (.loop .busy none ntF aO [16, 17] .skip fcB)) = some (.normal, a', H2) := by
      rw [show fcB = rfBody (atC [1, 1, 1, 1, 0, 1, 0] ((Tryz.f12.body).getD .skip)) from rfl] at l1 es ⊢
      simp only [Tryz.f12, Option.getD_some, atC, rfBody] at l1 es ⊢
      have k5' : putAll aO [16, 17] [v, w] 5 = ptrA b0 0 := k5
      simp (disch := omega) only [es_region, es_block, ops_nil, ops_cons, sy_load aI, sy_store zI, sy_bin, binS_add, bindO_some, bindF_some, blkX_normal, ev_tmp, ev_const, putA, upd_at, Option.map_some, ↓reduceIte, Nat.reduceEqDiff, ↓bindO_some, ↓bindF_some, k5', l1, e1, es]
      exact ⟨_, rfl⟩
    obtain ⟨a', hbd⟩ := hbd
    have hlb : (Hs.set L (.loop .busy none ntF aO [16, 17] .skip fcB)).length = Hs.length := set_len
    have hl2b : (Hs.set L (.loop .busy none ntF aO [16, 17] .skip fcB))[L]? = some (.loop .busy none ntF aO [16, 17] .skip fcB) := set_eq hL1
    have hL2 : H2[L]? = some (.loop .busy none ntF aO [16, 17] .skip fcB) := k2 L _ hl2b (by omega) trivial
    have hrun := yield_run (P := Tryz.prog) (call := evB Tryz.prog bC m) (n := m) (D := D0) (args := [v, w]) hL1 rfl rfl (by kernel_rfl) ha hL1 hbd hL2
    have hG0 : G b0 := hgs.all b0 (by omega)
    have hGL : G L := hgs.all L (by omega)
    refine ⟨H2.set L (.loop .ready none ntF aO [16, 17] .skip fcB), evB_yield.trans hrun, wf2.set loop_nc, ?_, ?_, ?_, ?_⟩
    · refine ⟨by rw [set_len, hl2, set_len]; exact Nat.le_refl _, fun b y hb3 hy hf => ?_⟩
      have hne : b ≠ L := fun e => hb3 (by rw [e]; exact hGL)
      have hne0 : b ≠ b0 := fun e => hb3 (by rw [e]; exact hG0)
      rw [set_ne hne]
      refine k2 b y (by rw [set_ne hne]; exact hy) hne0 ?_
      cases y with
      | cells f o cs => exact fun e => absurd hG0 (e ▸ hf)
      | _ => trivial
    · intro b hb3 hns
      by_cases e : b = L
      · subst e; rw [set_eq hL2, hL1]
      · rw [set_ne e]
        have hx : Hs[b]? = some Hs[b] := List.getElem?_eq_getElem (by omega)
        rw [hx]
        refine k2 b _ (by rw [set_ne e]; exact hx) hns (famLe_ne fun f o cs e2 => ?_)
        refine hfam b f o cs hb3 hns ?_
        rw [← h.low b hb3 hns, hx, e2]
    · rw [set_ne (by omega), List.length_append]; exact hb2
    · intro b hb3 hns
      by_cases e : b = L
      · subst e; rw [set_eq hL2, hL]
      · rw [set_ne e, ← h.low b hb3 hns]
        have hx : Hs[b]? = some Hs[b] := List.getElem?_eq_getElem (by omega)
        rw [hx]
        refine k2 b _ (by rw [set_ne e]; exact hx) hns (famLe_ne fun f o cs e2 => ?_)
        refine hfam b f o cs hb3 hns ?_
        rw [← h.low b hb3 hns, hx, e2]
  · intro G done Ha Hb wa wb hga hk h
    have hlen := hga.len
    exact ⟨by rw [hk.below wa hga.all hga.len (by omega)]; exact h.box, fun b hb3 hns => by rw [hk.below wa hga.all hga.len hb3]; exact h.low b hb3 hns⟩
theorem force_run {H : Heap} {v : Value} {c : List Int} {N : Nat} (hw : WF H) (hv : R H v (ints c)) (hc : chk c = 0) (hs : c.sum = N) (hN : N ≤ 5) (ok : ∀ r ∈ permsP N, ∀ u ∈ permsP N, commP r u ∈ permsP N ∧ (kindP r u).length ≤ 1000) (hlen : (pairsP N c).length ≤ 100000) (n : Nat) (hn : 4000 ≤ n) :
    OneT H (evB Tryz.prog bC n (.func (.func 12) #[] #[]) [v] H) (fun u => .tuple #[u, vi 0]) (nf (pairsP N c).length) := by
  have hp := chk_part hc
  have hpl := hp.len
  have hsm : Sm c := ⟨by omega, fun x hx => by have := hp.mem x hx; omega⟩
  refine run_ofB (F := 3999) (Q := fun r => OneT H r (fun u => .tuple #[u, vi 0]) (nf (pairsP N c).length)) (fun n hn => ?_) n hn
  rw [body_runS Tryz.func12 rfl (ok_fn (by rfl) Tryz.func12 rfl) (Nat.le_of_ble_eq_true rfl) (D := D0) (by kernel_rfl)]
  have s0 := ccheck_run hv (by omega) n (by omega)
  rw [hc] at s0
  have s1 := csize_run hv hsm n (by omega)
  rw [hs] at s1
  have z0 : decide ((0 : Int) = 0) = true := rfl
  have c5 : decide ((5 : Int) < (N : Int)) = false := decide_eq_false (by omega)
  -- the number's box
  have sf := fresh_box (x := vi 0) (c := vi 0) hw rfl
  have wf1 := hw.app (Nat.le_refl H.length) (o := true) (cs := [vi 0])
  have old1 := Old.app H [.cells H.length true [vi 0]]
  have hl1 : (H ++ [Blk.cells H.length true [vi 0]]).length = H.length + 1 := by simp
  have hb1 : (H ++ [Blk.cells H.length true [vi 0]])[H.length]? = some (.cells H.length true [vi 0]) := app_at
  generalize hH1 : H ++ [Blk.cells H.length true [vi 0]] = H1 at *
  have s2 := pairsC_run wf1 (hv.mono old1) hsm hs n (by omega)
  -- the boxes of 'pairs'
  have wf2 := wf1.app (Nat.le_refl H1.length) (o := true) (cs := [v])
  have hl2 : (H1 ++ [Blk.cells H1.length true [v]]).length = H.length + 2 := by simp; omega
  have hb2 : (H1 ++ [Blk.cells H1.length true [v]])[H1.length]? = some (.cells H1.length true [v]) := app_at
  have old2 := Old.app H1 [.cells H1.length true [v]]
  generalize hH2 : H1 ++ [Blk.cells H1.length true [v]] = H2 at *
  have wf3 := wf2.app (f := H1.length + 1) (by omega) (o := true) (cs := [vi N])
  have hl3 : (H2 ++ [Blk.cells (H1.length + 1) true [vi N]]).length = H.length + 3 := by simp; omega
  have hb3 : (H2 ++ [Blk.cells (H1.length + 1) true [vi N]])[H1.length + 1]? = some (.cells (H1.length + 1) true [vi N]) := by
    rw [show H1.length + 1 = H2.length from by omega]; exact app_at
  have old3 := Old.app H2 [.cells (H1.length + 1) true [vi N]]
  generalize hH3 : H2 ++ [Blk.cells (H1.length + 1) true [vi N]] = H3 at *
  have t2 : ∀ {b : Nat} {x : Blk}, H1[b]? = some x → H3[b]? = some x := fun h => by rw [old3.2 _ (by have := lt_of_blk h; omega), old2.2 _ (lt_of_blk h)]; exact h
  have key : ∀ aO : Fr, aO 5 = ptrA H.length 0 → aO 15 = .func (.func 79) #[] #[ptrA (H1.length + 1) 0, ptrA H1.length 0] →
      ∃ a' H', evT Tryz.prog (evB Tryz.prog bC n) n ntF none D0 (.rangeFunc (.tmp 15) #[16, 17] .skip fcB) aO H3 = some (.normal, a', H') ∧ a' = aO ∧ WF H' ∧ H'[H.length]? = some (.cells H.length true [vi (pairsP N c).length]) ∧ Old H.length H H' := by
    intro aO k5 k15
    have hcp : H3[H1.length]? = some (.cells H1.length true [v]) := by rw [old3.2 _ (by omega)]; exact hb2
    have oldH : Old H.length H (H3 ++ [.loop .ready none ntF aO [16, 17] .skip fcB]) := ⟨by rw [app_len]; omega, fun b hb => by rw [app_lt (by omega), old3.2 b (by omega), old2.2 b (by omega), old1.2 b hb]⟩
    have hfeed := pairs_feeds (H := H3 ++ [.loop .ready none ntF aO [16, 17] .skip fcB]) (H0 := H) (N := N) (c := c) (vc := v) (bn := H1.length + 1) (bc := H1.length) wf3.loop hN ok (by omega) hv oldH ⟨_, _, by rw [app_lt (by omega)]; exact hb3⟩ ⟨_, _, by rw [app_lt (by omega)]; exact hcp⟩
    rw [← k15] at hfeed
    have hfam : ∀ b f o cs, b < H3.length + 1 → b ≠ H.length → (H3 ++ [Blk.loop .ready none ntF aO [16, 17] .skip fcB])[b]? = some (.cells f o cs) → f ≠ H.length := by
      intro b f o cs hb hne hx
      by_cases h1 : b < H.length
      · have := wf3.loop b f o cs hx
        omega
      · by_cases h2 : b = H1.length
        · subst h2
          rw [app_lt (by omega), hcp] at hx
          injection hx with hx; injection hx with hx; omega
        · by_cases h3 : b = H1.length + 1
          · subst h3
            rw [app_lt (by omega), hb3] at hx
            injection hx with hx; injection hx with hx; omega
          · obtain rfl : b = H3.length := by omega
            rw [app_at] at hx
            cases hx
    have hcnt := cnt_eats (F := 0) (b0 := H.length) (L := H3.length) (aO := aO) (items := pairsP N c) hlen (by omega) (app_at (H := H3) (x := .loop .ready none ntF aO [16, 17] .skip fcB)) hfam k5
    have hr := feeds_range (k := n) (nt := ntF) (rd := none) (Dr := D0) (P := Tryz.prog) (f := .tmp 15) (params := #[16, 17]) (assign := .skip) (body := fcB) (a := aO) (H := H3) (n := n) (D := 1600) (F := 0 + 10) hfeed (fun b h e => by rcases h with h | h | h <;> omega) (by omega) hcnt ?_ (by omega) rfl
    · obtain ⟨G', H', e, wf', _, _, hI⟩ := hr
      refine ⟨_, _, e, rfl, wf'.set (fun _ _ _ h => by cases h), by rw [set_ne (by omega)]; exact hI.box, ⟨?_, fun b hb => ?_⟩⟩
      · have := lt_of_blk hI.box
        rw [set_len]; omega
      · rw [set_ne (by omega), hI.low b (by omega) (by omega)]; exact oldH.2 b hb
    · exact ⟨by rw [app_lt (by omega)]; exact t2 hb1, fun b _ _ => rfl⟩
  rw [show fcB = rfBody (atC [1, 1, 1, 1, 0, 1, 0] ((Tryz.f12.body).getD .skip)) from rfl, show ntF = Tryz.f12.ntmps from rfl] at key
  simp only [Tryz.f12, Option.getD_some, atC, rfBody] at key
  simp (disch := omega) only [Tryz.f12, es_seq, es_region, es_cond, es_block, es_skip, es_ret, ops_nil, ops_cons, st_move, st_assign, st_fun, sy_load aI, sy_store zI, sy_bin, binS_gtr, binS_neq, bindO_some, bindF_some, bindX_normal, condX_false, ev_tmp, ev_const, ev_func, putA, upd_at, Option.map_some, ↓reduceIte, Nat.reduceEqDiff, frOf_0, List.map_cons, List.map_nil, decide_true, Bool.not_true, ↓bindO_some, ↓bindF_some, ↓bindX_normal, ↓condX_false, sy_alloc iI0 scal_vi, s0, s1, c5, sf, hH1, s2]
  generalize hA : upd _ 15 _ = aO
  have k5 : aO 5 = ptrA H.length 0 := by subst hA; rfl
  obtain ⟨a', H', e, rfl, wf', hb, oldH⟩ := key aO k5 (by subst hA; rfl)
  have l1 := load_box hb
  obtain ⟨w, H5, s5, o5, old5, wf5⟩ := of_run (z := ((pairsP N c).length : Nat)) wf' (by omega) (by omega) n (by omega)
  rw [e]
  simp (disch := omega) only [bindO_some, bindF_some, bindX_normal, blkX_normal, upd_at, Option.map_some, ↓reduceIte, Nat.reduceEqDiff, ↓bindO_some, ↓bindF_some, ↓bindX_normal, fin_r, res_nil, res_tmp, pack_2, scal_vi, k5, l1, s5, o5.R.scal]
  exact ⟨_, _, rfl, o5.below oldH.1, oldH.trans (old5.mono oldH.1), wf5⟩
end Go.Proofs.YtopmcphepoiigaaGreat
namespace Go.Proofs.YtopmcphepoiigaaGreat
open Go Go.Abs
def Row (k : IntKind) (w : World) (a : Option Addr) (len cap : Nat) (zs : List Int) : Prop :=
  (a = none ∧ len = 0 ∧ cap = 0 ∧ zs = []) ∨
  ∃ x, a = some x ∧ len ≤ cap ∧ cap ≤ maxLen ∧ zs.length = cap ∧ (∀ i, i < zs.length → w.cell? (x.add i) = some (.int k (zs.getD i 0))) ∧ ∀ n ∈ zs, (Lit.int k n).wf = true
theorem row_at {w : World} {a : Option Addr} {len cap : Nat} {zs : List Int} (h : Row .i64 w a len cap zs) :
    ArgAt w (.imm (.slice none 0 0)) (.slice a len cap) ∨ ArgAt w (.imm lostSlice) (.slice a len cap) ∨ ∃ l : List Int, 0 < l.length ∧ ArgAt w (.li (ints l)) (.slice a len cap) := by
  rcases h with ⟨rfl, rfl, rfl, _⟩ | ⟨x, rfl, h1, h2, h3, h4, _⟩
  · exact .inl (.imm fun m => .a (.s .sliceNil))
  · by_cases h0 : len = 0
    · subst h0
      exact .inr (.inl (.imm fun m => .a (.s (.lost _ _ _ _))))
    · refine .inr (.inr ⟨zs.take len, by rw [List.length_take]; omega, ?_⟩)
      obtain ⟨g, o, s⟩ := x
      have hc0 := h4 0 (by omega)
      unfold World.cell? Addr.add at hc0
      simp only at hc0
      split at hc0
      case h_2 => cases hc0
      rename_i C el fr hh
      have hs : s = none := by
        cases s with
        | none => rfl
        | some p => simp at hc0
      subst hs
      have hG : w.heap[g]? = some (.cells C el fr) := hh
      have hcell : ∀ i, i < zs.length → C[o + i]? = some (.int .i64 (zs.getD i 0)) := fun i hi => by
        have := h4 i hi
        unfold World.cell? Addr.add at this
        by_cases hi0 : i = 0
        · subst hi0
          rw [if_pos rfl] at this
          simp only at this
          rw [hG] at this
          exact this
        · rw [if_neg hi0] at this
          simp only at this
          rw [hG] at this
          exact this
      have hlen : len = (zs.take len).length := by rw [List.length_take]; omega
      have hsz : o + cap ≤ C.size := by
        have := hcell (cap - 1) (by omega)
        have := Array.getElem?_eq_some_iff.1 this
        obtain ⟨h, _⟩ := this
        omega
      have key := ArgAt.li (w := w) (l := ints (zs.take len)) (g := g) (o := o) (cap := cap) hG (by rw [ints_len, ← hlen]; exact h1) hsz (fun i v hv => by
        unfold ints at hv
        rw [List.getElem?_map, List.getElem?_take] at hv
        split at hv
        · rename_i hi
          have h5 : i < zs.length := by omega
          rw [List.getElem?_eq_getElem h5] at hv
          cases hv
          rw [hcell i h5, List.getD_eq_getElem?_getD, List.getElem?_eq_getElem h5]
          rfl
        · cases hv) (fun v hv => by
        unfold ints at hv
        obtain ⟨z, _, rfl⟩ := List.mem_map.1 hv
        rfl)
      rw [ints_len, ← hlen] at key
      exact key
end Go.Proofs.YtopmcphepoiigaaGreat
namespace Go.Proofs.YtopmcphepoiigaaGreat
open Go Go.Abs Go.Num
def RdA (H : Heap) (v : Value) (l : List Int) : Prop := (v = .slice none 0 0 ∧ l = []) ∨ (v = lostSlice ∧ l = []) ∨ ∃ b f o, v = sliceA b 0 l.length 1 ∧ H[b]? = some (.cells f o (ints l))
theorem RdA.R {H : Heap} {v : Value} {l : List Int} (h : RdA H v l) : R H v (ints l) := by
  rcases h with ⟨h, rfl⟩ | ⟨h, rfl⟩ | ⟨b, f, o, h1, h2⟩
  · exact .inl ⟨h, rfl⟩
  · exact .inr (.inl ⟨h, rfl⟩)
  · exact .inr (.inr ⟨b, 0, f, o, ints l, by rw [ints_len]; exact h1, h2, by simp, by simp⟩)
theorem RdA.mono {H H' : Heap} {v : Value} {l : List Int} (h : RdA H v l) (ho : Old H.length H H') : RdA H' v l := by
  rcases h with h | h | ⟨b, f, o, h1, h2⟩
  · exact .inl h
  · exact .inr (.inl h)
  · exact .inr (.inr ⟨b, f, o, h1, by rw [ho.2 b (lt_of_blk h2)]; exact h2⟩)
theorem row_arg {w : World} {a : Option Addr} {len cap : Nat} {zs : List Int} (h : Row .i64 w a len cap zs) : ∃ (x : Arg) (l : List Int) (v : Value), ArgAt w x (.slice a len cap) ∧ mkVals 0 [x] = [v] ∧ RdA (mkHeap 0 [x]) v l ∧ WF (mkHeap 0 [x]) := by
  have w1 : ∀ m : List Value, WF [.cells 0 false m] := fun m b f o cs hb => by
    cases b with
    | zero => simp at hb; omega
    | succ b => simp at hb
  have w0 : WF [] := fun b f o cs hb => by simp at hb
  rcases row_at h with h | h | ⟨l, hl, h⟩
  · exact ⟨_, [], _, h, rfl, .inl ⟨rfl, rfl⟩, w0⟩
  · exact ⟨_, [], _, h, rfl, .inr (.inl ⟨rfl, rfl⟩), w0⟩
  · exact ⟨_, l, _, h, rfl, .inr (.inr ⟨0, 0, false, by rw [← ints_len], rfl⟩), w1 _⟩
theorem RdA.readArg {H : Heap} {v : Value} {c : List Int} (h : RdA H v c) : (v = .slice none 0 0 ∧ c = [] ∧ Abs.readArg H v = some (.imm (.slice none 0 0))) ∨ (v = lostSlice ∧ c = [] ∧ Abs.readArg H v = some (.imm lostSlice)) ∨ Abs.readArg H v = some (.li (ints c)) := by
  rcases h with ⟨rfl, rfl⟩ | ⟨rfl, rfl⟩ | ⟨b, f, o, rfl, hb⟩
  · exact .inl ⟨rfl, rfl, rfl⟩
  · exact .inr (.inl ⟨rfl, rfl, rfl⟩)
  · refine .inr (.inr ?_)
    unfold Abs.readArg
    simp only [sliceA, hb]
    have hall : (ints c).all plain = true := by
      rw [List.all_eq_true]
      intro v hv
      obtain ⟨z, _, rfl⟩ := List.mem_map.1 hv
      rfl
    rw [if_pos ⟨by rw [ints_len]; omega, by rw [List.drop_zero]; exact hall⟩, List.drop_zero, List.take_of_length_le (by rw [ints_len]; exact Nat.le_refl _)]
theorem ints_inj : ∀ {l m : List Int}, ints l = ints m → l = m := by
  intro l
  induction l with
  | nil => intro m h; cases m with | nil => rfl | cons => cases h
  | cons x l ih => intro m h; cases m with | nil => cases h | cons y m => unfold ints at h ih; rw [List.map_cons, List.map_cons] at h; injection h with h1 h2; injection h1 with _ h1; rw [h1, ih h2]
theorem tab_no {sp : Nat → List Arg → Option Res} {f : Nat} (h : ∀ xs, sp f xs = none) (args : List Value) (H : Heap) : tabC sp (.func (.func f) #[] #[]) args H = none := by
  unfold tabC
  simp only
  split
  · split
    · rename_i xs _
      rw [h xs]
    · rfl
  · rfl
theorem tab_at {sp : Nat → List Arg → Option Res} {f : Nat} {x : Arg} {v : Value} {r : Res} {H : Heap} (hr : Abs.readArg H v = some x) (hs : sp f [x] = some r) {v' : Value} {l : List Blk} (h1 : renV (fun b => some (b + H.length)) r.1 = some v') (h2 : mkBlks H.length H.length r.2 = some l) : tabC sp (.func (.func f) #[] #[]) [v] H = some (v', H ++ l) := by
  obtain ⟨r1, r2⟩ := r
  unfold tabC
  simp only [mapO, hr, hs, h1, h2]
  rfl
end Go.Proofs.YtopmcphepoiigaaGreat
namespace Go.Proofs.YtopmcphepoiigaaGreat
open Go Go.Abs Go.Num
set_option maxRecDepth 10000
attribute [local congr] bindO_congr bindF_congr bindX_congr condX_congr iteB_congr binS_congr pickS_congr eqB_congr nilS_congr clsW_congr maxS_congr minS_congr
open Classical in
noncomputable def lawG : Nat → List Arg → Option Res := fun f xs => match xs with
  | [] => if f = 11 then some trueR else none
  | [.imm v] => if f = 14 ∧ (v = nilV ∨ v = lostSlice) then some (refS 1) else none
  | [.li vs] => if h : f = 14 ∧ ∃ x, x ∈ frcT.take 12 ∧ vs = ints x.1 then some (refS h.2.choose.2) else none
  | _ => none
theorem lawG_ok : ∀ f xs r, lawG f xs = some r → LineOK Tryz.prog f xs r := by
  intro f xs r h
  unfold lawG at h
  split at h
  · split at h
    · rename_i hf; subst hf; cases h; exact awake_line
    · cases h
  · split at h
    · rename_i hf
      obtain ⟨rfl, hv⟩ := hf
      cases h
      rcases hv with rfl | rfl
      · exact rfN
      · exact rfLo
    · cases h
  · split at h
    · rename_i vs hf
      cases h
      have hx := hf.2.choose_spec
      obtain ⟨h1, h2⟩ := hf
      subst h1
      have := rf_all hx.1
      rwa [← hx.2] at this
    · cases h
  · cases h
noncomputable def callG (n : Nat) : CallF := Abs.orC (tabC lawG) (evB Tryz.prog bC n)
theorem callG_ok (n : Nat) : CallOK Tryz.prog (callG n) := Abs.orC_ok (tabC_ok lawG_ok) (evB_ok hmix bC_ok bC_grow n)
theorem callG_grow (n : Nat) : CallGrow (callG n) := Abs.orC_grow (tabC_grow _) (evB_grow bC_grow n)
theorem cg_other {n f : Nat} {args : List Value} {H : Heap} (h : f ≠ 11) (h2 : f ≠ 14) : callG n (.func (.func f) #[] #[]) args H = evB Tryz.prog bC n (.func (.func f) #[] #[]) args H := by
  unfold callG Abs.orC
  rw [tab_no (sp := lawG) (fun xs => by
    unfold lawG
    split
    · rw [if_neg h]
    · rw [if_neg (fun hh => h2 hh.1)]
    · rw [dif_neg (fun hh => h2 hh.1)]
    · rfl)]
theorem cg_awake {n : Nat} {H : Heap} : callG n (.func (.func 11) #[] #[]) [] H = some (.bool true, H) := by
  have hs : lawG 11 [] = some trueR := by unfold lawG; exact if_pos rfl
  unfold callG Abs.orC
  have e : tabC lawG (.func (.func 11) #[] #[]) [] H = some (.bool true, H ++ []) := by
    unfold tabC
    simp only [mapO, hs]
    rfl
  rw [e, List.append_nil]
theorem refForce_run {H : Heap} {v : Value} {c : List Int} {z : Int} (hw : WF H) (hv : RdA H v c) (hc : (c, z) ∈ frcT.take 12) (n : Nat) : ∃ w H', callG n (.func (.func 14) #[] #[]) [v] H = some (w, H') ∧ R H' w (ints (nf z)) ∧ Old H.length H H' ∧ WF H' := by
  have uniq : ∀ x ∈ frcT.take 12, ∀ y ∈ frcT.take 12, x.1 = y.1 → x.2 = y.2 := by decide
  have sm : ∀ x ∈ frcT.take 12, 0 ≤ x.2 ∧ x.2 ≤ 5040 := by decide
  have key : ∀ (x : Arg) (z' : Int), Abs.readArg H v = some x → lawG 14 [x] = some (refS z') → z' = z → ∃ w H', callG n (.func (.func 14) #[] #[]) [v] H = some (w, H') ∧ R H' w (ints (nf z)) ∧ Old H.length H H' ∧ WF H' := by
    intro x z' hr hs e
    subst e
    have hz := sm _ hc
    by_cases h0 : z' = 0
    · have hr0 : refS z' = (sliceA 0 0 0 1, [[]]) := by unfold refS; rw [decide_eq_true h0]; rfl
      rw [hr0] at hs
      have e := tab_at (H := H) hr hs (v' := sliceA H.length 0 0 1) (l := [.cells H.length true []]) (by show some (sliceA (0 + H.length) 0 0 1) = _; rw [Nat.zero_add]) rfl
      refine ⟨sliceA H.length 0 0 1, H ++ [.cells H.length true []], ?_, ?_, Old.app _ _, hw.app (Nat.le_refl _)⟩
      · unfold callG Abs.orC
        rw [e]
      · rw [h0, nf_zero]
        exact (O.made (B := H.length) (H := H) (Nat.le_refl _) []).R
    · have hr0 : refS z' = (sliceA 0 0 1 1, [[vi z']]) := by unfold refS; rw [decide_eq_false h0]; rfl
      rw [hr0] at hs
      have e := tab_at (H := H) hr hs (v' := sliceA H.length 0 1 1) (l := [.cells H.length true [vi z']]) (by show some (sliceA (0 + H.length) 0 1 1) = _; rw [Nat.zero_add]) rfl
      refine ⟨sliceA H.length 0 1 1, H ++ [.cells H.length true [vi z']], ?_, ?_, Old.app _ _, hw.app (Nat.le_refl _)⟩
      · unfold callG Abs.orC
        rw [e]
      · have h1 : 0 ≤ z' := hz.1
        have h2 : z' ≤ 5040 := hz.2
        rw [nf_small (by omega) (by omega)]
        exact (O.made (B := H.length) (H := H) (Nat.le_refl _) [vi z']).R
  rcases hv.readArg with ⟨_, rfl, hr⟩ | ⟨_, rfl, hr⟩ | hr
  · refine key _ 1 hr ?_ (uniq ([], 1) (by decide) _ hc rfl)
    unfold lawG
    exact if_pos ⟨rfl, .inl rfl⟩
  · refine key _ 1 hr ?_ (uniq ([], 1) (by decide) _ hc rfl)
    unfold lawG
    exact if_pos ⟨rfl, .inr rfl⟩
  · have hex : 14 = 14 ∧ ∃ x, x ∈ frcT.take 12 ∧ ints c = ints x.1 := ⟨rfl, (c, z), hc, rfl⟩
    refine key (.li (ints c)) hex.2.choose.2 hr ?_ ?_
    · unfold lawG
      exact dif_pos hex
    · have hx := hex.2.choose_spec
      exact uniq _ hx.1 _ hc (ints_inj hx.2).symm
theorem forceBad_run {H : Heap} {v : Value} {c : List Int} {e : Int} (hv : R H v (ints c)) (hl : c.length ≤ 1000) (he : (chk c ≠ 0 ∧ e = chk c) ∨ (chk c = 0 ∧ 5 < c.sum ∧ e = 8)) (n : Nat) (hn : 2000 ≤ n) : evB Tryz.prog bC n (.func (.func 12) #[] #[]) [v] H = some (.tuple #[.slice none 0 0, vi e], H) := by
  refine run_ofB (F := 1999) (Q := fun r => r = some (Value.tuple #[.slice none 0 0, vi e], H)) (fun n hn => ?_) n hn
  rw [body_runS Tryz.func12 rfl (ok_fn (by rfl) Tryz.func12 rfl) (Nat.le_of_ble_eq_true rfl) (D := D0) (by kernel_rfl)]
  have s0 := ccheck_run hv hl n (by omega)
  rcases he with ⟨h1, rfl⟩ | ⟨h1, h2, rfl⟩
  · have c1 : decide (chk c = 0) = false := decide_eq_false h1
    simp (disch := omega) only [Tryz.f12, es_seq, es_region, es_cond, es_ret, ops_nil, ops_cons, st_move, st_assign, st_fun, sy_bin, binS_neq, bindO_some, bindF_some, bindX_normal, bindX_ret, condX_true, ev_tmp, ev_const, ev_func, putA, upd_at, Option.map_some, ↓reduceIte, Nat.reduceEqDiff, frOf_0, List.map_cons, List.map_nil, Bool.not_false, ↓bindO_some, ↓bindF_some, ↓bindX_normal, ↓bindX_ret, ↓condX_true, fin_r, res_nil, res_tmp, pack_2, scal_vi, scal_nil, s0, c1]
  · have hp := chk_part h1
    have s1 := csize_run hv ⟨hl, fun x hx => by have := hp.mem x hx; omega⟩ n (by omega)
    rw [h1] at s0
    have c1 : decide ((0 : Int) = 0) = true := rfl
    have c2 : decide (5 < c.sum) = true := decide_eq_true h2
    simp (disch := omega) only [Tryz.f12, es_seq, es_region, es_cond, es_skip, es_ret, ops_nil, ops_cons, st_move, st_assign, st_fun, sy_bin, binS_gtr, binS_neq, bindO_some, bindF_some, bindX_normal, bindX_ret, condX_true, condX_false, ev_tmp, ev_const, ev_func, putA, upd_at, Option.map_some, ↓reduceIte, Nat.reduceEqDiff, frOf_0, List.map_cons, List.map_nil, decide_true, Bool.not_true, ↓bindO_some, ↓bindF_some, ↓bindX_normal, ↓bindX_ret, ↓condX_true, ↓condX_false, fin_r, res_nil, res_tmp, pack_2, scal_vi, scal_nil, s0, s1, c2]
theorem frc_take {N : Nat} {c : List Int} (h : (c, ((pairsP N c).length : Int)) ∈ frcT) (hs : c.sum ≤ 4) : (c, ((pairsP N c).length : Int)) ∈ frcT.take 12 := by
  have : ∀ x ∈ frcT, x.1.sum ≤ 4 → x ∈ frcT.take 12 := by decide
  exact this _ h hs
set_option maxHeartbeats 2000000 in
theorem forcesLaw_run {H : Heap} {v : Value} {c : List Int} (hw : WF H) (hv : RdA H v c) : ∃ H', evBody Tryz.prog (callG 200000000) 200000000 (.func (.func 3) #[] #[]) [v] H = some (.bool true, H') := by
  obtain ⟨n, hn⟩ : ∃ n, n = 200000000 := ⟨_, rfl⟩
  rw [← hn]
  rw [body_runS (c := (Tryz.f3.body).getD .skip) Tryz.func3 rfl (ok_fn (by rfl) Tryz.func3 rfl) (Nat.le_of_ble_eq_true rfl) (D := D0) (by kernel_rfl)]
  have s0 := long_run hv.R n (by omega)
  by_cases hlong : (40 : Int) < (c.length : Int)
  · rw [decide_eq_true hlong] at s0
    simp (disch := omega) only [Tryz.f3, Option.getD_some, es_seq, es_region, es_cond, es_ret, ops_nil, ops_cons, ops_consG, st_move, st_assign, sy_pick, pickS_true, st_fun, bindO_some, bindF_some, bindX_normal, bindX_ret, condX_true, iteB_false, ev_tmp, ev_const, ev_func, putA, upd_at, Option.map_some, ↓reduceIte, Nat.reduceEqDiff, frOf_0, List.map_cons, List.map_nil, Bool.not_true, yieldO_eq, yO, yV_bool, yV_undef, none_some, some_false, List.getElem?_cons_zero, List.getElem?_cons_succ, ↓bindO_some, ↓bindF_some, ↓bindX_normal, ↓bindX_ret, ↓condX_true, ↓iteB_false, fin_r, res_nil, res_tmp, pack_1, scal_bool, cg_other, cg_awake, s0]
    exact ⟨_, rfl⟩
  rw [decide_eq_false hlong] at s0
  have s1 := rcheck_run hv.R (by omega) n (by omega)
  have z0 : decide ((0 : Int) = 0) = true := rfl
  have ln : lenS (.slice none 0 0) = some 0 := rfl
  by_cases hc : chk c = 0
  case neg =>
    have c1 : decide (chk c = 0) = false := decide_eq_false hc
    have c2 : decide (chk c = chk c) = true := decide_eq_true rfl
    have s2 := forceBad_run hv.R (by omega) (.inl ⟨hc, rfl⟩) n (by omega)
    simp (maxSteps := 1000000) (disch := omega) only [Tryz.f3, Option.getD_some, es_seq, es_region, es_cond, es_skip, es_ret, ops_nil, ops_cons, ops_consG, st_move, st_assign, sy_pick, pickS_true, pickS_false, st_fun, sy_len uL, sy_bin, sy_ext, ext_20, ext_21, binS_eql, binS_neq, bindO_some, bindF_some, bindX_normal, condX_true, condX_false, iteB_true, iteB_false, ev_tmp, ev_const, ev_func, putA, upd_at, Option.map_some, ↓reduceIte, Nat.reduceEqDiff, frOf_0, List.map_cons, List.map_nil, decide_true, Bool.not_false, yieldO_eq, yO, yV_bool, some_true, List.getElem?_cons_zero, List.getElem?_cons_succ, beq_self_eq_true, ↓bindO_some, ↓bindF_some, ↓bindX_normal, ↓condX_true, ↓condX_false, ↓iteB_true, ↓iteB_false, cg_other, cg_awake, s0, s1, c1, s2, ln]
    exact ⟨_, rfl⟩
  rw [hc] at s1
  have hp := chk_part hc
  have s2 := rsize_run hv.R ⟨by have := hp.len; omega, fun x hx => by have := hp.mem x hx; omega⟩ n (by omega)
  have s3 := within_runS c.sum 5 5 H n (by omega)
  by_cases h5 : c.sum = 5
  · rw [show (decide (5 ≤ c.sum) && decide (c.sum ≤ 5)) = true from by rw [Bool.and_eq_true]; exact ⟨decide_eq_true (by omega), decide_eq_true (by omega)⟩] at s3
    simp (maxSteps := 1000000) (disch := omega) only [Tryz.f3, Option.getD_some, es_seq, es_region, es_cond, es_ret, ops_nil, ops_cons, ops_consG, st_move, st_assign, sy_pick, pickS_true, pickS_false, st_fun, sy_bin, binS_eql, bindO_some, bindF_some, bindX_normal, bindX_ret, condX_true, iteB_true, ev_tmp, ev_const, ev_func, putA, upd_at, Option.map_some, ↓reduceIte, Nat.reduceEqDiff, frOf_0, List.map_cons, List.map_nil, decide_true, yieldO_eq, yO, yV_bool, List.getElem?_cons_zero, List.getElem?_cons_succ, beq_self_eq_true, ↓bindO_some, ↓bindF_some, ↓bindX_normal, ↓bindX_ret, ↓condX_true, ↓iteB_true, fin_r, res_nil, res_tmp, pack_1, scal_bool, cg_other, cg_awake, s0, s1, s2, s3]
    exact ⟨_, rfl⟩
  rw [show (decide (5 ≤ c.sum) && decide (c.sum ≤ 5)) = false from by rw [Bool.and_eq_false_iff]; by_cases h : 5 ≤ c.sum; exact .inr (decide_eq_false (by omega)); exact .inl (decide_eq_false h)] at s3
  by_cases h6 : 5 < c.sum
  · have s4 := forceBad_run hv.R (by omega) (.inr ⟨hc, h6, rfl⟩) n (by omega)
    have c1 : decide (5 < c.sum) = true := decide_eq_true h6
    have c8 : decide ((8 : Int) = 0) = false := rfl
    have c88 : decide ((8 : Int) = 8) = true := rfl
    simp (maxSteps := 1000000) (disch := omega) only [Tryz.f3, Option.getD_some, es_seq, es_region, es_cond, es_skip, es_ret, ops_nil, ops_cons, ops_consG, st_move, st_assign, sy_pick, pickS_true, pickS_false, st_fun, sy_len uL, sy_bin, sy_ext, ext_20, ext_21, binS_gtr, binS_eql, binS_neq, bindO_some, bindF_some, bindX_normal, condX_true, condX_false, iteB_true, ev_tmp, ev_const, ev_func, putA, upd_at, Option.map_some, ↓reduceIte, Nat.reduceEqDiff, frOf_0, List.map_cons, List.map_nil, decide_true, Bool.not_false, yieldO_eq, yO, yV_bool, some_true, List.getElem?_cons_zero, List.getElem?_cons_succ, beq_self_eq_true, ↓bindO_some, ↓bindF_some, ↓bindX_normal, ↓condX_true, ↓condX_false, ↓iteB_true, cg_other, cg_awake, s0, s1, s2, s3, s4, c1, c8, ln]
    exact ⟨_, rfl⟩
  · have c1 : decide (5 < c.sum) = false := decide_eq_false h6
    obtain ⟨N, hN, _, hm⟩ := part_ptn hp
    have hN5 : N ≤ 5 := by omega
    have hf := frc_fact hN5 hm
    have hz := frcT_sm _ hf
    obtain ⟨w, H1, s4, o1, old1, wf1⟩ := force_run hw hv.R hc hN hN5 (perm_ok hN5) (by have := hz.2; simp at this; omega) n (by omega)
    have s5 := rcheck_run (hv.R.mono old1) (by omega) n (by omega)
    rw [hc] at s5
    have s6 := rsize_run (hv.R.mono old1) ⟨by have := hp.len; omega, fun x hx => by have := hp.mem x hx; omega⟩ n (by omega)
    obtain ⟨y, H2, s7, r2, old2, wf2⟩ := refForce_run wf1 (hv.mono old1) (frc_take hf (by omega)) n
    have hl : (nf ((pairsP N c).length : Int)).length ≤ 2 := by
      have h4 : (5040 : Int) < B ^ 2 := by decide
      exact nf_len (by have := hz.1; simp at this; omega) (by have := hz.2; simp at this; omega)
    have s8 := ints_run (o1.R.mono old2) r2 (by omega) (by omega) n (by omega)
    rw [decide_eq_true rfl] at s8
    simp (maxSteps := 1000000) (disch := omega) only [Tryz.f3, Option.getD_some, es_seq, es_region, es_cond, es_skip, es_ret, ops_nil, ops_cons, ops_consG, st_move, st_assign, sy_pick, pickS_true, pickS_false, st_fun, sy_bin, sy_ext, ext_20, ext_21, binS_gtr, binS_eql, binS_neq, bindO_some, bindF_some, bindX_normal, condX_false, iteB_true, ev_tmp, ev_const, ev_func, putA, upd_at, Option.map_some, ↓reduceIte, Nat.reduceEqDiff, frOf_0, List.map_cons, List.map_nil, decide_true, Bool.not_true, yieldO_eq, yO, yV_bool, List.getElem?_cons_zero, List.getElem?_cons_succ, beq_self_eq_true, ↓bindO_some, ↓bindF_some, ↓bindX_normal, ↓condX_false, ↓iteB_true, fin_r, res_nil, res_tmp, pack_1, scal_bool, cg_other, cg_awake, s0, s1, s2, s3, s4, s5, s6, s7, s8, c1]
    exact ⟨_, rfl⟩
open Go.RowKit in
theorem CountForces_walk (a0 : Option Addr) (len0 cap0 : Nat) (z0 : List Int) (w : World) (w0 : Row .i64 w a0 len0 cap0 z0) :
    Calls Tryz.prog 3 #[.slice a0 len0 cap0] w fun e w' => e = .returned (.bool true) ∧ Below w.heap.size w w' := by
  obtain ⟨x, l, v, ha, h1, h2, h3⟩ := row_arg w0
  obtain ⟨H', h⟩ := forcesLaw_run h3 h2
  rw [← h1] at h
  exact law_args hmix (callG_ok _) (callG_grow _) h (.cons ha .nil)
end Go.Proofs.YtopmcphepoiigaaGreat
