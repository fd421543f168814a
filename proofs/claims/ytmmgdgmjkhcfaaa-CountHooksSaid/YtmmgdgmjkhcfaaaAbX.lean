/- Equations to run the evaluator by 'simp' over values that are not known. -/
import Derived.Test.YtmmgdgmjkhcfaaaAb3
import Derived.Test.YtmmgdgmjkhcfaaaFa1
set_option linter.all false
/- Equations to run the evaluator by 'simp' over values that are not known. -/
namespace Go.Abs
abbrev vi (z : Int) : Value := .int .i64 z
/-- The operations' answers that the equations leave. -/
def rest (x : Option (Value × Heap)) : Option (Value × Heap) := x
def bindO {α : Type} (x : Option (Value × Heap)) (k : Value → Heap → Option α) : Option α := match x with
 | some (v, H) => k v H
 | none => none
def bindF {α : Type} (x : Option (Fr × Heap)) (k : Fr → Heap → Option α) : Option α := match x with
 | some (a, H) => k a H
 | none => none
def bindX (x : Option (X × Fr × Heap)) (k : Fr → Heap → Option (X × Fr × Heap)) : Option (X × Fr × Heap) := match x with
 | some (.normal, a, H) => k a H
 | r => r
def blkX (id : Nat) (x : Option (X × Fr × Heap)) : Option (X × Fr × Heap) := match x with
 | some (.exit i, a, H) => if i = id then some (.normal, a, H) else some (.exit i, a, H)
 | r => r
def condX {α : Type} (v : Value) (x y : Option α) : Option α := match v with
 | .bool true => x
 | .bool false => y
 | _ => none
def iteB {α : Type} (b : Bool) (x y : α) : α := match b with
 | true => x
 | false => y
theorem bindO_congr {α : Type} {x x' : Option (Value × Heap)} {k : Value → Heap → Option α} (h : x = x') : bindO x k = bindO x' k := by rw [h]
theorem bindF_congr {α : Type} {x x' : Option (Fr × Heap)} {k : Fr → Heap → Option α} (h : x = x') : bindF x k = bindF x' k := by rw [h]
theorem bindX_congr {x x' : Option (X × Fr × Heap)} {k : Fr → Heap → Option (X × Fr × Heap)} (h : x = x') : bindX x k = bindX x' k := by rw [h]
theorem condX_congr {α : Type} {v v' : Value} {x y : Option α} (h : v = v') : condX v x y = condX v' x y := by rw [h]
theorem iteB_congr {α : Type} {b b' : Bool} {x y : α} (h : b = b') : iteB b x y = iteB b' x y := by rw [h]
theorem bindO_some {α : Type} {v : Value} {H : Heap} {k : Value → Heap → Option α} : bindO (some (v, H)) k = k v H := (rfl)
theorem bindF_some {α : Type} {a : Fr} {H : Heap} {k : Fr → Heap → Option α} : bindF (some (a, H)) k = k a H := (rfl)
theorem bindX_normal {a : Fr} {H : Heap} {k : Fr → Heap → Option (X × Fr × Heap)} : bindX (some (.normal, a, H)) k = k a H := (rfl)
theorem bindX_exit {i : Nat} {a : Fr} {H : Heap} {k : Fr → Heap → Option (X × Fr × Heap)} : bindX (some (.exit i, a, H)) k = some (.exit i, a, H) := (rfl)
theorem bindX_ret {a : Fr} {H : Heap} {k : Fr → Heap → Option (X × Fr × Heap)} : bindX (some (.ret, a, H)) k = some (.ret, a, H) := (rfl)
theorem blkX_normal {i : Nat} {a : Fr} {H : Heap} : blkX i (some (.normal, a, H)) = some (.normal, a, H) := (rfl)
theorem blkX_ret {i : Nat} {a : Fr} {H : Heap} : blkX i (some (.ret, a, H)) = some (.ret, a, H) := (rfl)
theorem blkX_exit {i j : Nat} {a : Fr} {H : Heap} : blkX i (some (.exit j, a, H)) = if j = i then some (.normal, a, H) else some (.exit j, a, H) := (rfl)
theorem condX_true {α : Type} {x y : Option α} : condX (.bool true) x y = x := (rfl)
theorem condX_false {α : Type} {x y : Option α} : condX (.bool false) x y = y := (rfl)
theorem iteB_true {α : Type} {x y : α} : iteB true x y = x := (rfl)
theorem iteB_false {α : Type} {x y : α} : iteB false x y = y := (rfl)
section
variable {P : Program} {call : CallF} {k nt : Nat} {rd : Option Nat} {a : Fr} {H : Heap} {ops : Array Oper}
theorem ops_nil : evOps P call ops [] a H = some (a, H) := (rfl)
theorem ops_cons {d : Option Nat} {op : Op} {ty : TypeId} {pos : String} {aft : Array Edge} {os : List Oper} :
  evOps P call ops (⟨d, op, ty, pos, aft, none⟩ :: os) a H = bindO (stepA P call a ⟨d, op, ty, pos, aft, none⟩ H) fun v H' => evOps P call ops os (putA a d v) H' := by
 simp only [evOps, Region.wanted]
 unfold bindO
 rfl
theorem ops_consG {d : Option Nat} {op : Op} {ty : TypeId} {pos : String} {aft : Array Edge} {j : Nat} {w : Bool} {os : List Oper} :
  evOps P call ops (⟨d, op, ty, pos, aft, some (j, w)⟩ :: os) a H = iteB (yieldedA ops a j == some w) (bindO (stepA P call a ⟨d, op, ty, pos, aft, some (j, w)⟩ H) fun v H' => evOps P call ops os (putA a d v) H') (evOps P call ops os (putA a d undef) H) := by
 have hw : Region.wanted ⟨d, op, ty, pos, aft, some (j, w)⟩ (yieldedA ops a) = (yieldedA ops a j == some w) := rfl
 rw [evOps]
 by_cases hb : (yieldedA ops a j == some w) = true
 ·rw [if_pos (hw.trans hb), hb]; rfl
 ·rw [if_neg (by rw [hw]; exact hb)]
  rw [Bool.not_eq_true] at hb
  rw [hb]; rfl
theorem code_region {id : Nat} : evCode P call k nt rd (.region id ops false) a H = bindF (evOps P call ops ops.toList a H) fun a' H' => some (.normal, a', H') := (rfl)
theorem code_draw {id : Nat} : evCode P call k nt rd (.region id ops true) a H = bindF (evDraw P call ops (Region.before ops) (List.range ops.size) a H [(none, H)] []) fun a' H' => some (.normal, a', H') := (rfl)
theorem code_seq {x y : Code} : evCode P call k nt rd (.seq x y) a H = bindX (evCode P call k nt rd x a H) fun a' H' => evCode P call k nt rd y a' H' := (rfl)
theorem code_cond {c : Operand} {x y : Code} : evCode P call k nt rd (.cond c x y) a H = condX (ev a c) (evCode P call k nt rd x a H) (evCode P call k nt rd y a H) := (rfl)
theorem code_block {id : Nat} {c : Code} : evCode P call k nt rd (.block id c) a H = blkX id (evCode P call k nt rd c a H) := (rfl)
theorem code_skip : evCode P call k nt rd .skip a H = some (.normal, a, H) := (rfl)
theorem code_exit {i : Nat} : evCode P call k nt rd (.exit i) a H = some (.exit i, a, H) := (rfl)
theorem code_ret : evCode P call k nt rd .ret a H = some (.ret, a, H) := (rfl)
theorem code_loop {c : Code} : evCode P call k nt rd (.loop c) a H = loopN (evCode P call k nt rd c) k a H := (rfl)
/- Operations. -/
variable {d : Option Nat} {ty : TypeId} {pos : String} {aft : Array Edge} {g : Option (Nat × Bool)}
theorem st_move {x : Operand} : stepA P call a ⟨d, .move x, ty, pos, aft, g⟩ H = some (ev a x, H) := (rfl)
theorem st_assign {x : Operand} : stepA P call a ⟨d, .assign x, ty, pos, aft, g⟩ H = some (ev a x, H) := (rfl)
theorem st_pick {c x y : Operand} : stepA P call a ⟨d, .pick c x y, ty, pos, aft, g⟩ H = (match ev a c with | .bool t => some (if t then ev a x else ev a y, H) | _ => none) := (rfl)
theorem st_fun {f : Operand} {as : Array Operand} {ts : Array TypeId} : stepA P call a ⟨d, .call { callee := .value f, args := as, argTypes := ts }, ty, pos, aft, g⟩ H = call (ev a f) (as.toList.map (ev a)) H := (rfl)
theorem st_len {x : Operand} {t : TypeId} {e : TypeId} (ht : P.underlying t = some (.slice e)) : stepA P call a ⟨d, .call { callee := .builtin .len, args := #[x], argTypes := #[t] }, ty, pos, aft, g⟩ H = (match ev a x with | .slice _ n _ => some (vi n, H) | v => rest ((lenA P t v).map (·, H))) := by
 show (lenA P t (ev a x)).map (·, H) = _
 cases h : ev a x <;> first | rfl | (simp only [lenA, ht]; rfl)
theorem st_addr {t : TypeId} {x i : Operand} {e s : Nat} (ht : sliceElem P t = some (e, s)) : stepA P call a ⟨d, .indexAddr t x i, ty, pos, aft, g⟩ H = (match ev a x, ev a i with | .slice (some ⟨b, o, none⟩) n _, .int _ k => if 0 ≤ k ∧ k < n then some (ptrA b (o + k.toNat * s), H) else none | v, u => rest ((indexAddrA P t v u).map (·, H))) := by
 show (indexAddrA P t (ev a x) (ev a i)).map (·, H) = _
 split
 ·rename_i h1 h2
  rw [h1, h2]
  unfold indexAddrA
  rw [ht]
  simp only
  split <;> rfl
 ·rfl
theorem st_load {t : TypeId} {x : Operand} (ht : isAggT P t = some false) : stepA P call a ⟨d, .load t x, ty, pos, aft, g⟩ H = (match ev a x with | .pointer (some ⟨b, o, none⟩) => (H.cell b o).map (·, H) | v => rest ((loadA P t v H).map (·, H))) := by
 show (loadA P t (ev a x) H).map (·, H) = _
 split
 ·rename_i h1
  rw [h1]
  unfold loadA
  rw [ht]
 ·rfl
def bin2 (op : BinOp) (u v : Value) (H : Heap) (r : Option (Value × Heap)) : Option (Value × Heap) := match op, u, v with
 | .lss, .int .i64 p, .int .i64 q => some (.bool (decide (p < q)), H)
 | .gtr, .int .i64 p, .int .i64 q => some (.bool (decide (q < p)), H)
 | .leq, .int .i64 p, .int .i64 q => some (.bool (decide (p ≤ q)), H)
 | .geq, .int .i64 p, .int .i64 q => some (.bool (decide (q ≤ p)), H)
 | .add, .int .i64 p, .int .i64 q => some (vi (IntKind.i64.wrap (p + q)), H)
 | .sub, .int .i64 p, .int .i64 q => some (vi (IntKind.i64.wrap (p - q)), H)
 | _, _, _ => rest r
theorem st_bin {op : BinOp} {t t' : TypeId} {x y : Operand} : stepA P call a ⟨d, .binOp op t x y t', ty, pos, aft, g⟩ H = bin2 op (ev a x) (ev a y) H (aexec P a ⟨d, .binOp op t x y t', ty, pos, aft, g⟩ H) := by
 show aexec P a ⟨d, .binOp op t x y t', ty, pos, aft, g⟩ H = _
 unfold bin2
 have ho : (⟨d, .binOp op t x y t', ty, pos, aft, g⟩ : Oper).op = .binOp op t x y t' := rfl
 have ex : execOp (ev a) (⟨d, .binOp op t x y t', ty, pos, aft, g⟩ : Oper) = (do let v ← (do eqGuard op t x y (ev a x) (ev a y); binOp op t (ev a x) (ev a y)); pure (.value v)) := rfl
 split
 ·rename_i hx hy; rw [hx, hy] at ex; exact aexec_bin ho hx hy (by rw [ex]; simp [eqGuard, binOp, Op.intCmp, pv, valOf]) rfl
 ·rename_i hx hy; rw [hx, hy] at ex; exact aexec_bin ho hx hy (by rw [ex]; simp [eqGuard, binOp, Op.intCmp, pv, valOf]) rfl
 ·rename_i hx hy; rw [hx, hy] at ex; exact aexec_bin ho hx hy (by rw [ex]; simp [eqGuard, binOp, Op.intCmp, pv, valOf]) rfl
 ·rename_i hx hy; rw [hx, hy] at ex; exact aexec_bin ho hx hy (by rw [ex]; simp [eqGuard, binOp, Op.intCmp, pv, valOf]) rfl
 ·rename_i hx hy; rw [hx, hy] at ex; exact aexec_bin ho hx hy (by rw [ex]; simp [eqGuard, binOp, Op.intArith, pv, valOf]) rfl
 ·rename_i hx hy; rw [hx, hy] at ex; exact aexec_bin ho hx hy (by rw [ex]; simp [eqGuard, binOp, Op.intArith, pv, valOf]) rfl
 ·rfl
theorem st_not {t : TypeId} {x : Operand} : stepA P call a ⟨d, .unOp .not t x, ty, pos, aft, g⟩ H = (match ev a x with | .bool b => some (.bool !b, H) | _ => rest (aexec P a ⟨d, .unOp .not t x, ty, pos, aft, g⟩ H)) := by
 show aexec P a ⟨d, .unOp .not t x, ty, pos, aft, g⟩ H = _
 split
 ·rename_i b hx
  have e : plainA P a (⟨d, .unOp .not t x, ty, pos, aft, g⟩ : Oper) = some (.bool !b) := by
   unfold plainA
   have hall : ((⟨d, .unOp .not t x, ty, pos, aft, g⟩ : Oper).op.operands.toList.all fun z => plain (ev a z)) = true := by simp [Op.operands, hx, plain]
   rw [if_pos hall]
   simp [execOp, hx, Op.unary, pv, valOf, plain]
  simp only [aexec, e, Option.map_some]
 ·rfl
end
theorem upd_get {a : Fr} {t i : Nat} {v : Value} : upd a t v i = if i = t then v else a i := (rfl)
theorem frOf_0 {v : Value} {vs : List Value} : frOf (v :: vs) 0 = v := (rfl)
theorem frOf_1 {u v : Value} {vs : List Value} : frOf (u :: v :: vs) 1 = v := (rfl)
theorem frOf_2 {t u v : Value} {vs : List Value} : frOf (t :: u :: v :: vs) 2 = v := (rfl)
def yieldO (x : Option Oper) (a : Fr) : Option Bool := match x with
 | some ⟨some t, _, _, _, _, _⟩ => match a t with
   | .bool b => some b
   | _ => none
 | _ => none
theorem yieldO_eq {ops : Array Oper} {a : Fr} {j : Nat} : yieldedA ops a j = yieldO ops.toList[j]? a := by
 unfold yieldedA yieldO
 rw [Array.getElem?_toList]
 cases ops[j]? with
 | none => rfl
 | some o => obtain ⟨d, _⟩ := o; cases d <;> rfl
section
variable {P : Program} {call : CallF} {a : Fr} {H : Heap} {ops : Array Oper} {bef : Array Nat} {st : List (Option Nat × Heap)} {pd : Pend}
def drawOp {α : Type} (x : Option Oper) (f : Oper → Option α) : Option α := match x with
 | some o => f o
 | none => none
theorem drawOp_congr {α : Type} {x x' : Option Oper} {f : Oper → Option α} (h : x = x') : drawOp x f = drawOp x' f := by rw [h]
theorem drawOp_some {α : Type} {o : Oper} {f : Oper → Option α} : drawOp (some o) f = f o := (rfl)
def drawC {α : Type} (c : Cls) (eff all_ read pure_ : α) : α := match c with
 | .eff => eff
 | .all_ => all_
 | .read => read
 | .pure_ => pure_
theorem drawC_congr {α : Type} {c c' : Cls} {x y z u : α} (h : c = c') : drawC c x y z u = drawC c' x y z u := by rw [h]
theorem drawC_read {α : Type} {x y z u : α} : drawC .read x y z u = z := (rfl)
theorem drawC_pure {α : Type} {x y z u : α} : drawC .pure_ x y z u = u := (rfl)
theorem draw_nil : evDraw P call ops bef [] a H st pd = some (a, H) := (rfl)
/-- The same, not looked into again. -/
def drawE (P : Program) (call : CallF) (ops : Array Oper) (bef : Array Nat) (l : List Nat) (a : Fr) (H : Heap) (st : List (Option Nat × Heap)) (pd : Pend) : Option (Fr × Heap) := evDraw P call ops bef l a H st pd
theorem cls_move {x : Operand} : cls (.move x) = .pure_ := (rfl)
theorem cls_assign {x : Operand} : cls (.assign x) = .pure_ := (rfl)
theorem cls_pick {c x y : Operand} : cls (.pick c x y) = .pure_ := (rfl)
theorem cls_bin {op : BinOp} {t t' : TypeId} {x y : Operand} : cls (.binOp op t x y t') = .pure_ := (rfl)
theorem cls_un {op : UnOp} {t : TypeId} {x : Operand} : cls (.unOp op t x) = .pure_ := (rfl)
theorem cls_addr {t : TypeId} {x y : Operand} : cls (.indexAddr t x y) = .pure_ := (rfl)
theorem cls_load {t : TypeId} {x : Operand} : cls (.load t x) = .read := (rfl)
theorem cls_len {x : Array Operand} {ts : Array TypeId} : cls (.call { callee := .builtin .len, args := x, argTypes := ts }) = .pure_ := (rfl)
theorem draw_cons {j : Nat} {l : List Nat} : evDraw P call ops bef (j :: l) a H st pd = drawOp ops.toList[j]? fun o => iteB (Region.wanted o (yieldedA ops a))
  (drawC (cls o.op) (drawE P call ops bef (j :: l) a H st pd) (drawE P call ops bef (j :: l) a H st pd)
   (bindO (stepA P noC a o H) fun v _ => iteB ((window (bef.getD j 0) st).all fun G => stillReads P G a o v) (evDraw P call ops bef l (putA a o.dst v) H st ((j, a, o, v) :: pd)) none)
   (bindO (stepA P noC a o H) fun v _ => evDraw P call ops bef l (putA a o.dst v) H st pd))
  (evDraw P call ops bef l (putA a o.dst undef) H st pd) := by
 rw [Array.getElem?_toList]
 cases ho : ops[j]? with
 | none => show evDraw P call ops bef (j :: l) a H st pd = none; rw [evDraw, ho]
 | some o =>
   show _ = iteB _ _ _
   cases hw : Region.wanted o (yieldedA ops a) with
   | false => show _ = evDraw P call ops bef l (putA a o.dst undef) H st pd; rw [evDraw, ho]; simp only [hw]; rfl
   | true =>
     show _ = drawC _ _ _ _ _
     cases hc : cls o.op with
     | eff => rfl
     | all_ => rfl
     | read =>
       have hs : stepA P noC a o H = aexec P a o H := by
        unfold stepA
        split
        ·rename_i h; rw [h] at hc; cases hc
        ·rfl
       show _ = bindO (stepA P noC a o H) _
       rw [hs]
       conv => lhs; rw [evDraw, ho]
       simp only [hw, hc, if_true]
       cases aexec P a o H with
       | none => rfl
       | some x =>
         obtain ⟨v, G⟩ := x
         show _ = iteB _ _ _
         simp only
         cases (window (bef.getD j 0) st).all fun G => stillReads P G a o v <;> rfl
     | pure_ =>
       have hs : stepA P noC a o H = aexec P a o H := by
        unfold stepA
        split
        ·rename_i h; rw [h] at hc; cases hc
        ·rfl
       show _ = bindO (stepA P noC a o H) _
       rw [hs]
       conv => lhs; rw [evDraw, ho]
       simp only [hw, hc, if_true]
       cases aexec P a o H with
       | none => rfl
       | some x => rfl
theorem still_load {t : TypeId} {x : Operand} {d : Option Nat} {ty : TypeId} {pos : String} {aft : Array Edge} {g : Option (Nat × Bool)} {v : Value} : stillReads P H a ⟨d, .load t x, ty, pos, aft, g⟩ v = (match stepA P noC a ⟨d, .load t x, ty, pos, aft, g⟩ H with | some (v', _) => vEq v v' | none => false) := (rfl)
theorem window_one {m : Nat} : window m [(none, H)] = [H] := (rfl)
theorem vEq_vi {z : Int} : vEq (vi z) (vi z) = true := by simp [vEq, sEq]
theorem cell_0 {cs : List Value} {f : Nat} {own : Bool} {o : Nat} {r : Heap} : Heap.cell (.cells f own cs :: r) 0 o = cs[o]? := (rfl)
end
theorem yv {ops : Array Oper} {a : Fr} {j t : Nat} {op : Op} {ty : TypeId} {pos : String} {aft : Array Edge} {g : Option (Nat × Bool)} {b : Bool} (h : ops.toList[j]? = some ⟨some t, op, ty, pos, aft, g⟩) (hb : a t = .bool b) : yieldedA ops a j = some b := by
 rw [yieldO_eq, h]
 unfold yieldO
 simp only [hb]
section
variable {P : Program} {call : CallF} {a : Fr} {H : Heap} {ops : Array Oper} {bef : Array Nat} {st : List (Option Nat × Heap)} {pd : Pend} {j : Nat} {l : List Nat} {d : Nat} {op : Op} {ty : TypeId} {pos : String} {aft : Array Edge} {v : Value}
theorem dr_pure (h : ops.toList[j]? = some ⟨some d, op, ty, pos, aft, none⟩) (hc : cls op = .pure_) (hs : stepA P noC a ⟨some d, op, ty, pos, aft, none⟩ H = some (v, H)) : evDraw P call ops bef (j :: l) a H st pd = evDraw P call ops bef l (upd a d v) H st pd := by
 rw [draw_cons, h, drawOp_some]
 show drawC (cls op) _ _ _ _ = _
 rw [hc]
 show bindO (stepA P noC a ⟨some d, op, ty, pos, aft, none⟩ H) _ = _
 rw [hs]; rfl
theorem dr_pureG {q : Nat} {w : Bool} (h : ops.toList[j]? = some ⟨some d, op, ty, pos, aft, some (q, w)⟩) (hy : yieldedA ops a q = some w) (hc : cls op = .pure_) (hs : stepA P noC a ⟨some d, op, ty, pos, aft, some (q, w)⟩ H = some (v, H)) : evDraw P call ops bef (j :: l) a H st pd = evDraw P call ops bef l (upd a d v) H st pd := by
 rw [draw_cons, h, drawOp_some]
 show iteB (yieldedA ops a q == some w) _ _ = _
 rw [hy, show ((some w == some w) = true) from by simp, iteB_true]
 show drawC (cls op) _ _ _ _ = _
 rw [hc]
 show bindO (stepA P noC a ⟨some d, op, ty, pos, aft, some (q, w)⟩ H) _ = _
 rw [hs]; rfl
theorem dr_readG {q : Nat} {w : Bool} (h : ops.toList[j]? = some ⟨some d, op, ty, pos, aft, some (q, w)⟩) (hy : yieldedA ops a q = some w) (hc : cls op = .read) (hs : stepA P noC a ⟨some d, op, ty, pos, aft, some (q, w)⟩ H = some (v, H)) (hv : vEq v v = true) :
  evDraw P call ops bef (j :: l) a H [(none, H)] pd = evDraw P call ops bef l (upd a d v) H [(none, H)] ((j, a, ⟨some d, op, ty, pos, aft, some (q, w)⟩, v) :: pd) := by
 rw [draw_cons, h, drawOp_some]
 show iteB (yieldedA ops a q == some w) _ _ = _
 rw [hy, show ((some w == some w) = true) from by simp, iteB_true]
 show drawC (cls op) _ _ _ _ = _
 rw [hc]
 show bindO (stepA P noC a ⟨some d, op, ty, pos, aft, some (q, w)⟩ H) _ = _
 have hax : aexec P a ⟨some d, op, ty, pos, aft, some (q, w)⟩ H = some (v, H) := by
  have e : stepA P noC a ⟨some d, op, ty, pos, aft, some (q, w)⟩ H = aexec P a ⟨some d, op, ty, pos, aft, some (q, w)⟩ H := by
   unfold stepA
   split
   ·rename_i h; have h : op = _ := h; rw [h] at hc; cases hc
   ·rfl
  rw [← e]; exact hs
 rw [hs, bindO_some]
 have hst : ((window (bef.getD j 0) [(none, H)]).all fun G => stillReads P G a ⟨some d, op, ty, pos, aft, some (q, w)⟩ v) = true := by
  rw [window_one]
  simp only [List.all_cons, List.all_nil, Bool.and_true]
  unfold stillReads
  rw [hax]
  exact hv
 rw [hst, iteB_true]; rfl
theorem dr_skip {q : Nat} {w u : Bool} (h : ops.toList[j]? = some ⟨some d, op, ty, pos, aft, some (q, w)⟩) (hy : yieldedA ops a q = some u) (hn : u ≠ w) : evDraw P call ops bef (j :: l) a H st pd = evDraw P call ops bef l (upd a d undef) H st pd := by
 rw [draw_cons, h, drawOp_some]
 show iteB (yieldedA ops a q == some w) _ _ = _
 rw [hy, show ((some u == some w) = false) from by simp [hn], iteB_false]
 rfl
end
section
variable {P : Program}
/-- What a body's end makes of its results. -/
def finB (P : Program) (rs : List ResultVar) (x : Option (X × Fr × Heap)) : Option (Value × Heap) := match x with
 | some (.normal, a, H') => (resList P a H' rs).map fun vs => (pack vs, H')
 | some (.ret, a, H') => (resList P a H' rs).map fun vs => (pack vs, H')
 | _ => none
theorem evB_noC (n : Nat) (fv : Value) (args : List Value) (H : Heap) : evB P noC (n + 1) fv args H = evBody P (evB P noC n) n fv args H := (rfl)
theorem body_run {call : CallF} {n f : Nat} {fn : Func} {c : Code} {args : List Value} {H : Heap} (hf : P.funcs[f]? = some fn) (hb : fn.body = some c) (hok : funcOk fn c = true) (hl : args.length ≤ fn.ntmps) :
  evBody P call n (.func (.func f) #[] #[]) args H = finB P fn.results.toList (evCode P call n fn.ntmps none c (frOf args) H) := by
 unfold evBody finB
 simp only [hf, hb, List.append_nil]
 rw [if_pos ⟨hok, rfl, hl⟩]
 cases evCode P call n fn.ntmps none c (frOf args) H with
 | none => rfl
 | some r => obtain ⟨x, a, H1⟩ := r; cases x <;> rfl
theorem fin_ret {t : Nat} {a : Fr} {H : Heap} {z : Int} (h : a t = vi z) : finB P [.tmp t] (some (.ret, a, H)) = some (vi z, H) := by
 simp [finB, resList, h, scal, pack]
theorem fin_retB {t : Nat} {a : Fr} {H : Heap} {z : Bool} (h : a t = .bool z) : finB P [.tmp t] (some (.ret, a, H)) = some (.bool z, H) := by
 simp [finB, resList, h, scal, pack]
end
end Go.Abs
