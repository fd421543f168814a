/- Runs over values that are not known: equations of the operations, a region that draws its order as one that does not. -/
import Derived.Test.YtmmgdgmjkhcfaaaAbX
set_option linter.all false
namespace Go.Abs
def lenS : Value → Option Nat
 | .slice _ n _ => some n
 | _ => none
def addrS (size : Nat) : Value → Value → Option Value
 | .slice (some ⟨b, o, none⟩) n _, .int _ k => if 0 ≤ k ∧ k < n then some (ptrA b (o + k.toNat * size)) else none
 | _, _ => none
def loadS : Value → Heap → Option Value
 | .pointer (some ⟨b, o, none⟩), H => H.cell b o
 | _, _ => none
def storeS : Value → Value → Heap → Option Heap
 | .pointer (some ⟨b, o, none⟩), v, H => match scal v with
   | some [c] => H.write b o [c]
   | _ => none
 | _, _, _ => none
def intOp (op : BinOp) (p q : Int) : Option Value := match op with
 | .lss => some (.bool (decide (p < q)))
 | .gtr => some (.bool (decide (q < p)))
 | .leq => some (.bool (decide (p ≤ q)))
 | .geq => some (.bool (decide (q ≤ p)))
 | .eql => some (.bool (decide (p = q)))
 | .neq => some (.bool (decide (p ≠ q)))
 | .add => some (vi (IntKind.i64.wrap (p + q)))
 | .sub => some (vi (IntKind.i64.wrap (p - q)))
 | .mul => some (vi (IntKind.i64.wrap (p * q)))
 | .quo => if q = 0 then none else some (vi (IntKind.i64.wrap (p.tdiv q)))
 | .rem => if q = 0 then none else some (vi (p.tmod q))
 | _ => none
def binS (op : BinOp) (u v : Value) (H : Heap) (r : Option (Value × Heap)) : Option (Value × Heap) := match u, v with
 | .int .i64 p, .int .i64 q => match intOp op p q with
   | some z => some (z, H)
   | none => r
 | _, _ => r
theorem binS_congr {op : BinOp} {u u' v v' : Value} {H : Heap} {r : Option (Value × Heap)} (hu : u = u') (hv : v = v') : binS op u v H r = binS op u' v' H r := by rw [hu, hv]
theorem binS_lss {p q : Int} {H : Heap} {r : Option (Value × Heap)} : binS .lss (vi p) (vi q) H r = some (.bool (decide (p < q)), H) := (rfl)
theorem binS_gtr {p q : Int} {H : Heap} {r : Option (Value × Heap)} : binS .gtr (vi p) (vi q) H r = some (.bool (decide (q < p)), H) := (rfl)
theorem binS_leq {p q : Int} {H : Heap} {r : Option (Value × Heap)} : binS .leq (vi p) (vi q) H r = some (.bool (decide (p ≤ q)), H) := (rfl)
theorem binS_geq {p q : Int} {H : Heap} {r : Option (Value × Heap)} : binS .geq (vi p) (vi q) H r = some (.bool (decide (q ≤ p)), H) := (rfl)
theorem binS_eql {p q : Int} {H : Heap} {r : Option (Value × Heap)} : binS .eql (vi p) (vi q) H r = some (.bool (decide (p = q)), H) := (rfl)
theorem binS_neq {p q : Int} {H : Heap} {r : Option (Value × Heap)} : binS .neq (vi p) (vi q) H r = some (.bool (!decide (p = q)), H) := by
 show some (Value.bool (decide (p ≠ q)), H) = _
 rw [decide_not]
theorem binS_add {p q : Int} {H : Heap} {r : Option (Value × Heap)} : binS .add (vi p) (vi q) H r = some (vi (IntKind.i64.wrap (p + q)), H) := (rfl)
theorem binS_sub {p q : Int} {H : Heap} {r : Option (Value × Heap)} : binS .sub (vi p) (vi q) H r = some (vi (IntKind.i64.wrap (p - q)), H) := (rfl)
theorem binS_mul {p q : Int} {H : Heap} {r : Option (Value × Heap)} : binS .mul (vi p) (vi q) H r = some (vi (IntKind.i64.wrap (p * q)), H) := (rfl)
theorem binS_quo {p q : Int} {H : Heap} {r : Option (Value × Heap)} (h : q ≠ 0) : binS .quo (vi p) (vi q) H r = some (vi (IntKind.i64.wrap (p.tdiv q)), H) := by simp [binS, intOp, h]
theorem binS_rem {p q : Int} {H : Heap} {r : Option (Value × Heap)} (h : q ≠ 0) : binS .rem (vi p) (vi q) H r = some (vi (p.tmod q), H) := by simp [binS, intOp, h]
theorem condX_pos {α : Type} {p : Prop} [Decidable p] {x y : Option α} (h : p) : condX (.bool (decide p)) x y = x := by simp [condX, h]
theorem condX_neg {α : Type} {p : Prop} [Decidable p] {x y : Option α} (h : ¬ p) : condX (.bool (decide p)) x y = y := by simp [condX, h]
theorem iteB_pos {α : Type} {p : Prop} [Decidable p] {x y : α} (h : p) : iteB (decide p) x y = x := by simp [iteB, h]
theorem iteB_neg {α : Type} {p : Prop} [Decidable p] {x y : α} (h : ¬ p) : iteB (decide p) x y = y := by simp [iteB, h]
section
variable {P : Program} {call : CallF} {k nt : Nat} {rd : Option Nat} {a : Fr} {H : Heap} {ops : Array Oper}
variable {d : Option Nat} {ty : TypeId} {pos : String} {aft : Array Edge} {g : Option (Nat × Bool)}
theorem sy_bin {op : BinOp} {t t' : TypeId} {x y : Operand} : stepA P call a ⟨d, .binOp op t x y t', ty, pos, aft, g⟩ H = binS op (ev a x) (ev a y) H (rest (aexec P a ⟨d, .binOp op t x y t', ty, pos, aft, g⟩ H)) := by
 show aexec P a ⟨d, .binOp op t x y t', ty, pos, aft, g⟩ H = _
 unfold binS rest
 have ho : (⟨d, .binOp op t x y t', ty, pos, aft, g⟩ : Oper).op = .binOp op t x y t' := rfl
 have ex : execOp (ev a) (⟨d, .binOp op t x y t', ty, pos, aft, g⟩ : Oper) = (do let v ← (do eqGuard op t x y (ev a x) (ev a y); binOp op t (ev a x) (ev a y)); pure (.value v)) := rfl
 split
 ·rename_i p q hx hy
  rw [hx, hy] at ex
  split
  ·rename_i z hz
   refine aexec_bin ho hx hy ?_ ?_
   ·rw [ex]
    cases op <;> simp only [intOp, Option.some.injEq, reduceCtorEq] at hz <;> first
     | (subst hz; simp [eqGuard, binOp, Op.intCmp, pv, valOf]; done)
     | (subst hz; simp [eqGuard, binOp, Op.intArith, pv, valOf]; done)
     | (split at hz
        ·cases hz
        ·rename_i hq; cases hz; simp [eqGuard, binOp, Op.intDiv, hq, pv, valOf]; done)
     | (subst hz; simp [eqGuard, binOp, Op.intCmp, pv, valOf, bne]; rfl)
   ·cases op <;> simp only [intOp, Option.some.injEq, reduceCtorEq] at hz <;> first
     | (subst hz; rfl)
     | (split at hz
        ·cases hz
        ·cases hz; rfl)
  ·rfl
 ·rfl
theorem sy_neg {t : TypeId} {x : Operand} : stepA P call a ⟨d, .unOp .neg t x, ty, pos, aft, g⟩ H = (match ev a x with | .int .i64 z => some (vi (IntKind.i64.wrap (0 - z)), H) | _ => rest (aexec P a ⟨d, .unOp .neg t x, ty, pos, aft, g⟩ H)) := by
 show aexec P a ⟨d, .unOp .neg t x, ty, pos, aft, g⟩ H = _
 split
 ·rename_i b hx
  have e : plainA P a (⟨d, .unOp .neg t x, ty, pos, aft, g⟩ : Oper) = some (vi (IntKind.i64.wrap (0 - b))) := by
   unfold plainA
   have hall : ((⟨d, .unOp .neg t x, ty, pos, aft, g⟩ : Oper).op.operands.toList.all fun z => plain (ev a z)) = true := by simp [Op.operands, hx, plain]
   rw [if_pos hall]
   simp [execOp, hx, Op.unary, Op.intArith, pv, valOf, plain]
  simp only [aexec, e, Option.map_some]
 ·rfl
theorem sy_len {x : Operand} {t : TypeId} {e : TypeId} (ht : P.underlying t = some (.slice e)) : stepA P call a ⟨d, .call { callee := .builtin .len, args := #[x], argTypes := #[t] }, ty, pos, aft, g⟩ H = (lenS (ev a x)).map fun (n : Nat) => (vi (n : Int), H) := by
 show (lenA P t (ev a x)).map (·, H) = _
 unfold lenA lenS
 rw [ht]
 cases ev a x <;> rfl
theorem sy_addr {t : TypeId} {x i : Operand} {e s : Nat} (ht : sliceElem P t = some (e, s)) : stepA P call a ⟨d, .indexAddr t x i, ty, pos, aft, g⟩ H = (addrS s (ev a x) (ev a i)).map fun p => (p, H) := by
 show (indexAddrA P t (ev a x) (ev a i)).map (·, H) = _
 unfold indexAddrA addrS
 rw [ht]
 cases ev a x with
 | slice q n c =>
   cases q with
   | none => rfl
   | some q =>
     obtain ⟨b, o, s'⟩ := q
     cases s' with
     | some _ => rfl
     | none => cases ev a i <;> rfl
 | _ => rfl
theorem sy_load {t : TypeId} {x : Operand} (ht : isAggT P t = some false) : stepA P call a ⟨d, .load t x, ty, pos, aft, g⟩ H = (loadS (ev a x) H).map fun v => (v, H) := by
 show (loadA P t (ev a x) H).map (·, H) = _
 unfold loadA loadS
 rw [ht]
 cases ev a x with
 | pointer q =>
   cases q with
   | none => rfl
   | some q =>
     obtain ⟨b, o, s'⟩ := q
     cases s' <;> rfl
 | _ => rfl
theorem sy_store {t : TypeId} {x y : Operand} (ht : sizeT P t = some 1) : stepA P call a ⟨d, .store t x y, ty, pos, aft, g⟩ H = (storeS (ev a x) (ev a y) H).map fun H' => (undef, H') := by
 show (storeA P t (ev a x) (ev a y) H).map (undef, ·) = _
 unfold storeA storeS
 rw [ht]
 cases hx : ev a x with
 | pointer p =>
   cases p with
   | none => simp
   | some p =>
     obtain ⟨b, o, s⟩ := p
     cases s with
     | some _ => simp
     | none =>
       simp only
       cases hs : scal (ev a y) with
       | none => rfl
       | some cs =>
         simp only
         match cs with
         | [] => rfl
         | [c] => rfl
         | _ :: _ :: _ => rfl
 | _ => rfl
end
/- A region that draws its order, run as one that does not. -/
def reflV (op : Op) (v : Value) : Bool := match cls op with
 | .read => vEq v v
 | _ => true
def evOpsV (P : Program) (call : CallF) (ops : Array Oper) : List Oper → Fr → Heap → Option (Fr × Heap)
 | [], a, H => some (a, H)
 | o :: os, a, H =>
   if Region.wanted o (yieldedA ops a) then
    match stepA P call a o H with
    | some (v, H') => if reflV o.op v then evOpsV P call ops os (putA a o.dst v) H' else none
    | none => none
   else evOpsV P call ops os (putA a o.dst undef) H
def isEff (o : Oper) : Bool := match cls o.op with | .eff => true | _ => false
def isRead (o : Oper) : Bool := match cls o.op with | .read => true | _ => false
def isAll (o : Oper) : Bool := match cls o.op with | .all_ => true | _ => false
/-- Every read is ordered with every effect, and no allocation stands before a read. -/
def drawSeq (ops : Array Oper) (bef : Array Nat) : Bool :=
 (List.range ops.size).all fun j => !isRead (ops.getD j default) || (List.range ops.size).all fun e =>
  (!isEff (ops.getD e default) || (if e < j then (bef.getD j 0).testBit e else (bef.getD e 0).testBit j)) && (!isAll (ops.getD e default) || decide (j < e))
section
variable {P : Program} {call : CallF} {ops : Array Oper} {bef : Array Nat}
theorem seq_at (h : drawSeq ops bef = true) {j e : Nat} (hj : j < ops.size) (he : e < ops.size) (hr : isRead (ops.getD j default) = true) :
  (isEff (ops.getD e default) = true → (if e < j then (bef.getD j 0).testBit e else (bef.getD e 0).testBit j) = true) ∧ (isAll (ops.getD e default) = true → j < e) := by
 have h1 := List.all_eq_true.1 h j (List.mem_range.2 hj)
 rw [hr, Bool.not_true, Bool.false_or] at h1
 have h2 := List.all_eq_true.1 h1 e (List.mem_range.2 he)
 rw [Bool.and_eq_true, Bool.or_eq_true, Bool.or_eq_true] at h2
 refine ⟨fun hh => ?_, fun hh => ?_⟩
 ·rw [hh] at h2; simpa using h2.1
 ·rw [hh] at h2; simpa using h2.2
theorem step_read {a : Fr} {o : Oper} {H : Heap} (h : cls o.op = .read) : stepA P call a o H = aexec P a o H := by
 unfold stepA
 split
 ·rename_i h2; rw [h2] at h; cases h
 ·rfl
theorem step_all {a : Fr} {o : Oper} {H : Heap} (h : cls o.op = .all_) : stepA P call a o H = aexec P a o H := by
 unfold stepA
 split
 ·rename_i h2; rw [h2] at h; cases h
 ·rfl
theorem step_pure {a : Fr} {o : Oper} {H : Heap} (h : cls o.op = .pure_) : stepA P call a o H = aexec P a o H := by
 unfold stepA
 split
 ·rename_i h2; rw [h2] at h; cases h
 ·rfl
theorem opsV_tail {o : Oper} {os : List Oper} {a : Fr} {H : Heap} : evOpsV P call ops (o :: os) a H = if Region.wanted o (yieldedA ops a) then (match stepA P call a o H with
 | some (v, H') => if reflV o.op v then evOpsV P call ops os (putA a o.dst v) H' else none
 | none => none) else evOpsV P call ops os (putA a o.dst undef) H := rfl
/-- What stands of the draw's own state at place j. -/
def SeqSt (ops : Array Oper) (j : Nat) (H : Heap) (st : List (Option Nat × Heap)) (pd : Pend) : Prop :=
 (∃ x G r, st = (x, G) :: r ∧ (∀ e, x = some e → e < j ∧ isEff (ops.getD e default) = true) ∧ (x = none → r = []) ∧ (G = H ∨ ∃ i, i < j ∧ isAll (ops.getD i default) = true)) ∧
 ∀ p ∈ pd, p.1 < j ∧ isRead (ops.getD p.1 default) = true
theorem drop_at {l : List Oper} {j : Nat} {o : Oper} {os : List Oper} (h : l.drop j = o :: os) : l[j]? = some o ∧ l.drop (j + 1) = os ∧ j < l.length := by
 have h1 : j < l.length := by
  apply Nat.lt_of_not_le
  intro hge
  rw [List.drop_eq_nil_of_le hge] at h
  cases h
 rw [List.drop_eq_getElem_cons h1] at h
 injection h with e1 e2
 exact ⟨by rw [List.getElem?_eq_getElem h1, e1], e2, h1⟩
theorem range_drop {n j : Nat} (h : j < n) : (List.range n).drop j = j :: (List.range n).drop (j + 1) := by
 rw [List.drop_eq_getElem_cons (by simpa using h)]
 simp
theorem draw_go (hs : drawSeq ops bef = true) : ∀ (l : List Oper) (j : Nat) (a : Fr) (H : Heap) (st : List (Option Nat × Heap)) (pd : Pend), ops.toList.drop j = l → SeqSt ops j H st pd →
  evDraw P call ops bef ((List.range ops.size).drop j) a H st pd = evOpsV P call ops l a H := by
 intro l
 induction l with
 | nil =>
   intro j a H st pd hd _
   have : ops.size ≤ j := by
    apply Nat.le_of_not_lt
    intro h
    rw [List.drop_eq_getElem_cons (by simpa using h)] at hd
    cases hd
   rw [List.drop_eq_nil_of_le (by simpa using this)]
   rfl
 | cons o l ih =>
   intro j a H st pd hd hst
   obtain ⟨h1, h2, h3⟩ := drop_at hd
   have hj : j < ops.size := by simpa using h3
   have ho : ops[j]? = some o := by rw [← Array.getElem?_toList]; exact h1
   have hD : ops.getD j default = o := by rw [Array.getD_eq_getD_getElem?, ho]; rfl
   obtain ⟨⟨x, G, r, hst1, hst2, hst3, hst4⟩, hpd⟩ := hst
   rw [range_drop hj, evDraw, ho, opsV_tail]
   simp only
   have hpd' : ∀ p ∈ pd, p.1 < j + 1 ∧ isRead (ops.getD p.1 default) = true := fun p hp => ⟨by have := (hpd p hp).1; omega, (hpd p hp).2⟩
   have keep : ∀ H', H' = H → SeqSt ops (j + 1) H' st pd := fun H' e => by
    subst e
    exact ⟨⟨x, G, r, hst1, fun e he => ⟨by have := (hst2 e he).1; omega, (hst2 e he).2⟩, hst3, hst4.imp id fun ⟨i, hi, h⟩ => ⟨i, by omega, h⟩⟩, hpd'⟩
   by_cases hw : Region.wanted o (yieldedA ops a) = true
   ·rw [if_pos hw, if_pos hw]
    cases hc : cls o.op with
    | eff =>
      have hrf : ∀ v, reflV o.op v = true := fun v => by unfold reflV; rw [hc]
      simp only
      cases hstep : stepA P call a o H with
      | none => rfl
      | some q =>
        obtain ⟨v, H'⟩ := q
        simp only [hrf, if_true]
        have hE : isEff (ops.getD j default) = true := by rw [hD]; unfold isEff; rw [hc]
        have hnil : pd.filter (fun p => !(bef.getD j 0).testBit p.1) = [] := by
         rw [List.filter_eq_nil_iff]
         intro p hp
         obtain ⟨p1, p2⟩ := hpd p hp
         have h5 := (seq_at hs (j := p.1) (e := j) (by omega) hj p2).1 hE
         rw [if_neg (by omega)] at h5
         rw [h5]; simp
        rw [hnil]
        simp only [List.all_nil, if_true]
        exact ih (j + 1) _ H' _ _ h2 ⟨⟨some j, H', st, rfl, fun e he => by cases he; exact ⟨by omega, hE⟩, fun h => (by cases h), .inl rfl⟩, fun p hp => by cases hp⟩
    | all_ =>
      have hrf : ∀ v, reflV o.op v = true := fun v => by unfold reflV; rw [hc]
      simp only
      rw [step_all hc]
      cases hstep : aexec P a o H with
      | none => rfl
      | some q =>
        obtain ⟨v, H'⟩ := q
        simp only [hrf, if_true]
        have hA : isAll (ops.getD j default) = true := by rw [hD]; unfold isAll; rw [hc]
        exact ih (j + 1) _ H' _ _ h2 ⟨⟨x, G, r, hst1, fun e he => ⟨by have := (hst2 e he).1; omega, (hst2 e he).2⟩, hst3, .inr ⟨j, by omega, hA⟩⟩, hpd'⟩
    | read =>
      have hrf : ∀ v, reflV o.op v = vEq v v := fun v => by unfold reflV; rw [hc]
      have hR : isRead (ops.getD j default) = true := by rw [hD]; unfold isRead; rw [hc]
      have hGH : G = H := by
       rcases hst4 with h | ⟨i, hi, h⟩
       ·exact h
       ·have := (seq_at hs (j := j) (e := i) hj (by omega) hR).2 h
        omega
      subst hGH
      have hwin : window (bef.getD j 0) st = [G] := by
       rw [hst1]
       cases x with
       | none => rw [hst3 rfl]; rfl
       | some e =>
         obtain ⟨e1, e2⟩ := hst2 e rfl
         have h5 := (seq_at hs (j := j) (e := e) hj (by omega) hR).1 e2
         rw [if_pos e1] at h5
         unfold window
         rw [if_pos h5]
      simp only
      rw [step_read hc]
      cases hstep : aexec P a o G with
      | none => rfl
      | some q =>
        obtain ⟨v, H'⟩ := q
        have e := read_same hc hstep
        subst e
        simp only [hwin, hrf, List.all_cons, List.all_nil, Bool.and_true]
        have hsr : stillReads P H' a o v = vEq v v := by unfold stillReads; rw [hstep]
        rw [hsr]
        cases hv : vEq v v with
        | false => simp
        | true =>
          simp only [if_true]
          refine ih (j + 1) _ H' _ _ h2 ⟨(keep H' rfl).1, fun p hp => ?_⟩
          rcases List.mem_cons.1 hp with rfl | hp
          ·exact ⟨by simp, hR⟩
          ·exact hpd' p hp
    | pure_ =>
      have hrf : ∀ v, reflV o.op v = true := fun v => by unfold reflV; rw [hc]
      simp only
      rw [step_pure hc]
      cases hstep : aexec P a o H with
      | none => rfl
      | some q =>
        obtain ⟨v, H'⟩ := q
        have e := (aexec_pure hc hstep).1
        subst e
        simp only [hrf, if_true]
        exact ih (j + 1) _ H' _ _ h2 (keep H' rfl)
   ·rw [if_neg hw, if_neg hw]
    exact ih (j + 1) _ H _ _ h2 (keep H rfl)
theorem draw_eq (hs : drawSeq ops (Region.before ops) = true) {a : Fr} {H : Heap} : evDraw P call ops (Region.before ops) (List.range ops.size) a H [(none, H)] [] = evOpsV P call ops ops.toList a H := by
 have := draw_go (P := P) (call := call) hs ops.toList 0 a H [(none, H)] [] rfl ⟨⟨none, H, [], rfl, fun e he => (by cases he), fun _ => rfl, .inl rfl⟩, fun p hp => by cases hp⟩
 simpa using this
theorem sy_draw {k nt id : Nat} {rd : Option Nat} {a : Fr} {H : Heap} (hs : drawSeq ops (Region.before ops) = true) : evCode P call k nt rd (.region id ops true) a H = bindF (evOpsV P call ops ops.toList a H) fun a' H' => some (.normal, a', H') := by
 rw [← draw_eq hs]; rfl
end
section
variable {P : Program} {call : CallF} {ops : Array Oper} {a : Fr} {H : Heap} {d : Option Nat} {op : Op} {ty : TypeId} {pos : String} {aft : Array Edge} {os : List Oper}
theorem opsV_nil : evOpsV P call ops [] a H = some (a, H) := (rfl)
theorem opsV_cons : evOpsV P call ops (⟨d, op, ty, pos, aft, none⟩ :: os) a H = bindO (stepA P call a ⟨d, op, ty, pos, aft, none⟩ H) fun v H' => iteB (reflV op v) (evOpsV P call ops os (putA a d v) H') none := by
 rw [opsV_tail]
 have hw : Region.wanted ⟨d, op, ty, pos, aft, none⟩ (yieldedA ops a) = true := rfl
 rw [if_pos hw]
 unfold bindO
 cases stepA P call a ⟨d, op, ty, pos, aft, none⟩ H with
 | none => rfl
 | some q =>
   obtain ⟨v, H'⟩ := q
   simp only
   cases reflV op v <;> rfl
theorem opsV_consG {j : Nat} {w : Bool} : evOpsV P call ops (⟨d, op, ty, pos, aft, some (j, w)⟩ :: os) a H = iteB (yieldedA ops a j == some w) (bindO (stepA P call a ⟨d, op, ty, pos, aft, some (j, w)⟩ H) fun v H' => iteB (reflV op v) (evOpsV P call ops os (putA a d v) H') none) (evOpsV P call ops os (putA a d undef) H) := by
 rw [opsV_tail]
 have hw : Region.wanted ⟨d, op, ty, pos, aft, some (j, w)⟩ (yieldedA ops a) = (yieldedA ops a j == some w) := rfl
 rw [hw]
 cases (yieldedA ops a j == some w) with
 | false => rfl
 | true =>
   rw [if_pos rfl, iteB_true]
   unfold bindO
   cases stepA P call a ⟨d, op, ty, pos, aft, some (j, w)⟩ H with
   | none => rfl
   | some q =>
     obtain ⟨v, H'⟩ := q
     simp only
     cases reflV op v <;> rfl
end
end Go.Abs
