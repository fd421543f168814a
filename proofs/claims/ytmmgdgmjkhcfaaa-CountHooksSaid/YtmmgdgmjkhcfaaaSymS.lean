/- Runs over values that are not known: structs in boxes, comparisons of bools. -/
import Derived.Test.YtmmgdgmjkhcfaaaSymC
set_option linter.all false
namespace Go.Abs
def faddrS (off : Nat) : Value → Option Value
 | .pointer (some ⟨b, o, none⟩) => some (ptrA b (o + off))
 | _ => none
def fieldOff (P : Program) (t : TypeId) (i : Nat) : Option Nat := match P.underlying t with
 | some (.struct fields) => match fields[i]? with
   | some f => match sizeT P f.type with
     | some (_ + 1) => some f.offset
     | _ => none
   | none => none
 | _ => none
def storeN (n : Nat) (p v : Value) (H : Heap) : Option Heap := match p, scal v with
 | .pointer (some ⟨b, o, none⟩), some cs => if cs.length = n then H.write b o cs else none
 | _, _ => none
def loadN (n : Nat) (p : Value) (H : Heap) : Option Value := match p with
 | .pointer (some ⟨b, o, none⟩) => match H.cellsAt b o n with | some cs => some (.agg cs.toArray) | none => none
 | _ => none
def eqB (ne : Bool) (u v : Value) (H : Heap) (r : Option (Value × Heap)) : Option (Value × Heap) := match u, v with
 | .bool p, .bool q => some (.bool (ne ^^ (p == q)), H)
 | _, _ => r
theorem eqB_congr {ne : Bool} {u u' v v' : Value} {H : Heap} {r : Option (Value × Heap)} (hu : u = u') (hv : v = v') : eqB ne u v H r = eqB ne u' v' H r := by rw [hu, hv]
theorem eqB_bool {ne p q : Bool} {H : Heap} {r : Option (Value × Heap)} : eqB ne (.bool p) (.bool q) H r = some (.bool (ne ^^ (p == q)), H) := (rfl)
section
variable {P : Program} {call : CallF} {a : Fr} {H : Heap} {d : Option Nat} {ty : TypeId} {pos : String} {aft : Array Edge} {g : Option (Nat × Bool)}
theorem sy_faddr {t : TypeId} {x : Operand} {i off : Nat} (h : fieldOff P t i = some off) : stepA P call a ⟨d, .fieldAddr t x i, ty, pos, aft, g⟩ H = (faddrS off (ev a x)).map fun p => (p, H) := by
 show (fieldAddrA P t (ev a x) i).map (·, H) = _
 unfold fieldOff at h
 unfold fieldAddrA
 split at h
 ·rename_i fields hu
  rw [hu]
  split at h
  ·rename_i f hf
   cases ev a x with
   | pointer q =>
     cases q with
     | none => rfl
     | some q =>
       obtain ⟨b, o, s⟩ := q
       cases s with
       | some _ => rfl
       | none =>
         simp only [hf]
         split at h
         ·rename_i n hn
          injection h with h
          subst h
          rw [hn]; rfl
         ·cases h
   | _ => rfl
  ·cases h
 ·cases h
theorem sy_loadN {t : TypeId} {x : Operand} {n : Nat} (ht : isAggT P t = some true) (hn : sizeT P t = some n) : stepA P call a ⟨d, .load t x, ty, pos, aft, g⟩ H = (loadN n (ev a x) H).map fun v => (v, H) := by
 show (loadA P t (ev a x) H).map (·, H) = _
 unfold loadA loadN
 rw [ht, hn]
 cases ev a x with
 | pointer q =>
   cases q with
   | none => rfl
   | some q =>
     obtain ⟨b, o, s⟩ := q
     cases s with
     | some _ => rfl
     | none => rfl
 | _ => rfl
theorem sy_storeN {t : TypeId} {x y : Operand} {n : Nat} (hn : sizeT P t = some n) : stepA P call a ⟨d, .store t x y, ty, pos, aft, g⟩ H = (storeN n (ev a x) (ev a y) H).map fun H' => (undef, H') := by
 show (storeA P t (ev a x) (ev a y) H).map (undef, ·) = _
 unfold storeA storeN
 rw [hn]
 cases ev a x with
 | pointer q =>
   cases q with
   | none => simp
   | some q =>
     obtain ⟨b, o, s⟩ := q
     cases s with
     | some _ => simp
     | none => cases scal (ev a y) <;> rfl
 | _ => rfl
theorem sy_alloc {t : TypeId} {z : Value} {cs : List Value} (hz : zeroT P t = some z) (hc : scal z = some cs) : stepA P call a ⟨d, .alloc t, ty, pos, aft, g⟩ H = some (ptrA H.length 0, H ++ [.cells H.length true cs]) := by
 show aexec P a ⟨d, .alloc t, ty, pos, aft, g⟩ H = _
 simp only [aexec, hz, hc]
theorem sy_box {t : TypeId} {x : Operand} : stepA P call a ⟨d, .box t x, ty, pos, aft, g⟩ H = (scal (ev a x)).map fun cs => (ptrA H.length 0, H ++ [.cells H.length true cs]) := by
 show aexec P a ⟨d, .box t x, ty, pos, aft, g⟩ H = _
 simp only [aexec]
 cases scal (ev a x) <;> rfl
theorem sy_build {t : TypeId} {parts : Array (Nat × Operand)} : stepA P call a ⟨d, .build t parts, ty, pos, aft, g⟩ H = (buildA P t (parts.toList.map fun p => (p.1, ev a p.2))).map fun v => (v, H) := (rfl)
theorem pure_val (s : Sem Value) (v : Value) (h : pureVal P s = some v) : (pureVal P (do let v ← s; pure (Next.value v) : Sem Next)).bind valOf = some v := by
 induction s with
 | pure a => injection h with h; subst h; rfl
 | program k ih => exact ih _ h
 | _ => cases h
theorem nilCmp_bool {t : TypeId} {p q : Bool} : nilCmp P t (.bool p) (.bool q) = none := by
 unfold nilCmp
 split <;> first | rfl | (rename_i h1 h2; cases h1) | (rename_i h1 _; cases h1) | simp_all
theorem plain_bin {op : BinOp} {t t' : TypeId} {x y : Operand} {p q : Bool} {v : Value} (hx : ev a x = .bool p) (hy : ev a y = .bool q) (hv : plain v = true) (hb : pureVal P (do eqGuard op t x y (.bool p) (.bool q); binOp op t (.bool p) (.bool q)) = some v) :
  plainA P a (⟨d, .binOp op t x y t', ty, pos, aft, g⟩ : Oper) = some v := by
 unfold plainA
 have hall : ((⟨d, .binOp op t x y t', ty, pos, aft, g⟩ : Oper).op.operands.toList.all fun z => plain (ev a z)) = true := by simp [Op.operands, hx, hy, plain]
 rw [if_pos hall]
 have ex : execOp (ev a) (⟨d, .binOp op t x y t', ty, pos, aft, g⟩ : Oper) = (do let v ← (do eqGuard op t x y (ev a x) (ev a y); binOp op t (ev a x) (ev a y)); pure (.value v)) := rfl
 rw [ex, hx, hy, pure_val _ _ hb]
 simp only [hv, if_true]
theorem sy_eq {t t' : TypeId} {x y : Operand} (hb : ∀ (x y : Operand) (p q : Bool), pureVal P (do eqGuard .eql t x y (.bool p) (.bool q); binOp .eql t (.bool p) (.bool q)) = some (.bool (p == q))) :
  stepA P call a ⟨d, .binOp .eql t x y t', ty, pos, aft, g⟩ H = eqB false (ev a x) (ev a y) H (rest (aexec P a ⟨d, .binOp .eql t x y t', ty, pos, aft, g⟩ H)) := by
 show aexec P a ⟨d, .binOp .eql t x y t', ty, pos, aft, g⟩ H = _
 unfold eqB rest
 split
 ·rename_i p q hx hy
  have e := plain_bin (d := d) (t' := t') (ty := ty) (pos := pos) (aft := aft) (g := g) hx hy rfl (hb x y p q)
  simp only [aexec, hx, hy, nilCmp_bool, e, Option.map_some, Bool.false_xor]
 ·rfl
theorem sy_ne {t t' : TypeId} {x y : Operand} (hb : ∀ (x y : Operand) (p q : Bool), pureVal P (do eqGuard .neq t x y (.bool p) (.bool q); binOp .neq t (.bool p) (.bool q)) = some (.bool (!(p == q)))) :
  stepA P call a ⟨d, .binOp .neq t x y t', ty, pos, aft, g⟩ H = eqB true (ev a x) (ev a y) H (rest (aexec P a ⟨d, .binOp .neq t x y t', ty, pos, aft, g⟩ H)) := by
 show aexec P a ⟨d, .binOp .neq t x y t', ty, pos, aft, g⟩ H = _
 unfold eqB rest
 split
 ·rename_i p q hx hy
  have e := plain_bin (d := d) (t' := t') (ty := ty) (pos := pos) (aft := aft) (g := g) hx hy rfl (hb x y p q)
  simp only [aexec, hx, hy, nilCmp_bool, e, Option.map_some, Bool.true_xor]
 ·rfl
end
def nilS (v : Value) (H : Heap) (r : Option (Value × Heap)) : Option (Value × Heap) := match v with
 | .slice b _ _ => some (.bool b.isNone, H)
 | _ => r
theorem nilS_congr {v v' : Value} {H : Heap} {r : Option (Value × Heap)} (h : v = v') : nilS v H r = nilS v' H r := by rw [h]
theorem sy_nil {P : Program} {call : CallF} {a : Fr} {H : Heap} {d : Option Nat} {ty : TypeId} {pos : String} {aft : Array Edge} {g : Option (Nat × Bool)} {t t' e : TypeId} {x : Operand} (ht : P.underlying t = some (.slice e)) :
  stepA P call a ⟨d, .binOp .eql t x (.const (.slice none 0 0)) t', ty, pos, aft, g⟩ H = nilS (ev a x) H (rest (aexec P a ⟨d, .binOp .eql t x (.const (.slice none 0 0)) t', ty, pos, aft, g⟩ H)) := by
 show aexec P a ⟨d, .binOp .eql t x (.const (.slice none 0 0)) t', ty, pos, aft, g⟩ H = _
 unfold nilS rest
 split
 ·rename_i b n c hx
  have hc : nilCmp P t (ev a x) (ev a (.const (.slice none 0 0))) = some b.isNone := by
   rw [hx]
   show nilCmp P t (.slice b n c) (.slice none 0 0) = _
   unfold nilCmp
   rw [ht]
   cases b with
   | none => cases n <;> cases c <;> rfl
   | some q => rfl
  simp only [aexec, hc]
 ·rfl
/-- A box: a block that the call has made, of its own. -/
def BxM (B C : Nat) (H : Heap) (p : Value) (cs : List Value) : Prop := ∃ b f, p = ptrA b 0 ∧ B ≤ b ∧ B ≤ f ∧ b < C ∧ f < C ∧ H[b]? = some (.cells f true cs)
theorem BxM.mono {B C : Nat} {H H' : Heap} {p : Value} {cs : List Value} (h : BxM B C H p cs) (ho : Old C H H') : BxM B C H' p cs := by
 obtain ⟨b, f, h1, h2, h3, h4, h5, hb⟩ := h
 exact ⟨b, f, h1, h2, h3, h4, h5, by rw [ho.2 b h4]; exact hb⟩
theorem BxM.up {B C C' : Nat} {H : Heap} {p : Value} {cs : List Value} (h : BxM B C H p cs) (hc : C ≤ C') : BxM B C' H p cs := by
 obtain ⟨b, f, h1, h2, h3, h4, h5, hb⟩ := h
 exact ⟨b, f, h1, h2, h3, by omega, by omega, hb⟩
theorem BxM.made {B : Nat} {H : Heap} (hB : B ≤ H.length) (cs : List Value) : BxM B (H ++ [Blk.cells H.length true cs]).length (H ++ [.cells H.length true cs]) (ptrA H.length 0) cs :=
 ⟨H.length, H.length, rfl, hB, hB, by simp, by simp, by simp⟩
theorem BxM.kept {B C D : Nat} {H H' : Heap} {p : Value} {cs : List Value} (h : BxM B D H p cs) (k : Kept C H H') (hc : C ≤ B) : BxM B D H' p cs := by
 obtain ⟨b, f, h1, h2, h3, h4, h5, hb⟩ := h
 exact ⟨b, f, h1, h2, h3, h4, h5, k b f true cs (by omega) (by omega) hb⟩
def bx (p : Value) (i : Nat) : Value := ptrA (match p with | .pointer (some ⟨b, _, _⟩) => b | _ => 0) i
theorem BxM.load {B C : Nat} {H : Heap} {p : Value} {cs : List Value} (h : BxM B C H p cs) (i : Nat) : loadS (bx p i) H = cs[i]? := by
 obtain ⟨b, f, rfl, h2, h3, h4, h5, hb⟩ := h
 simp only [bx, ptrA, loadS, Heap.cell, hb]
theorem BxM.loadAll {B C : Nat} {H : Heap} {p : Value} {cs : List Value} (h : BxM B C H p cs) : loadN cs.length p H = some (.agg cs.toArray) := by
 obtain ⟨b, f, rfl, h2, h3, h4, h5, hb⟩ := h
 simp only [loadN, ptrA, Heap.cellsAt, hb, Nat.zero_add, Nat.le_refl, if_true, List.drop_zero, List.take_length, Option.map_some]
theorem write_own {B C : Nat} {H : Heap} {b f : Nat} {cs : List Value} (hw : WF H) (h2 : B ≤ b) (h3 : B ≤ f) (h4 : b < C) (h5 : f < C) (hb : H[b]? = some (.cells f true cs)) {i : Nat} {vs : List Value} (hi : i + vs.length ≤ cs.length) :
  ∃ H', H.write b i vs = some H' ∧ H'[b]? = some (.cells f true (setList cs i vs)) ∧ Old B H H' ∧ WF H' ∧ Kept C H H' ∧ H'.length = H.length := by
 refine ⟨(H.map (truncFam f i)).set b (.cells f true (setList cs i vs)), ?_, ?_, ?_, ?_, ?_, by simp⟩
 ·simp only [Heap.write, hb]
  rw [if_pos hi]
 ·rw [List.getElem?_set]; simp [lt_of_blk hb]
 ·have h3 := old_trunc hw h3 (k := i)
  refine ⟨by simp, fun x hx => ?_⟩
  rw [List.getElem?_set, if_neg (by omega), h3.2 x hx]
 ·intro b' f' o' cs' hb'
  rw [List.getElem?_set] at hb'
  split at hb'
  ·rename_i e
   subst e
   split at hb'
   ·injection hb' with hb'; injection hb' with e1 _ _; subst e1; exact hw b f true cs hb
   ·cases hb'
  ·exact wf_trunc hw b' f' o' cs' hb'
 ·intro b2 f2 o2 cs2 e1 e2 hb2
  rw [List.getElem?_set, if_neg (by omega), List.getElem?_map, hb2, Option.map_some]
  simp only [truncFam]
  rw [if_neg (by omega)]
theorem BxM.set {B C : Nat} {H : Heap} {p : Value} {cs : List Value} (h : BxM B C H p cs) (hw : WF H) {i : Nat} (hi : i < cs.length) {v : Value} (hv : Abs.scal v = some [v]) :
  ∃ H', storeS (bx p i) v H = some H' ∧ BxM B C H' p (cs.set i v) ∧ Old B H H' ∧ WF H' ∧ Kept C H H' := by
 obtain ⟨b, f, rfl, h2, h3, h4, h5, hb⟩ := h
 obtain ⟨H', e, e1, e2, e3, e4, _⟩ := write_own hw h2 h3 h4 h5 hb (i := i) (vs := [v]) (by simp; omega)
 exact ⟨H', by simp only [bx, ptrA, storeS, hv]; exact e, ⟨b, f, rfl, h2, h3, h4, h5, by rw [e1]; rfl⟩, e2, e3, e4⟩
theorem setList_all : ∀ (vs cs : List Value) , vs.length = cs.length → setList cs 0 vs = vs := by
 have key : ∀ (vs pre cs : List Value), vs.length = cs.length → setList (pre ++ cs) pre.length vs = pre ++ vs := by
  intro vs
  induction vs with
  | nil => intro pre cs h; cases cs with | nil => rfl | cons => simp at h
  | cons v vs ih =>
    intro pre cs h
    cases cs with
    | nil => simp at h
    | cons c cs =>
      rw [setList, List.set_append_right _ _ (Nat.le_refl _), Nat.sub_self, List.set_cons_zero]
      have := ih (pre ++ [v]) cs (by simpa using h)
      simpa using this
 intro vs cs h
 exact key vs [] cs h
theorem BxM.store {B C : Nat} {H : Heap} {p : Value} {cs : List Value} (h : BxM B C H p cs) (hw : WF H) {vs : List Value} (hl : vs.length = cs.length) :
  ∃ H', storeN cs.length p (.agg vs.toArray) H = some H' ∧ BxM B C H' p vs ∧ Old B H H' ∧ WF H' ∧ Kept C H H' := by
 obtain ⟨b, f, rfl, h2, h3, h4, h5, hb⟩ := h
 obtain ⟨H', e, e1, e2, e3, e4, _⟩ := write_own hw h2 h3 h4 h5 hb (i := 0) (vs := vs) (by omega)
 refine ⟨H', ?_, ⟨b, f, rfl, h2, h3, h4, h5, by rw [e1, setList_all _ _ hl]⟩, e2, e3, e4⟩
 show (if vs.toArray.toList.length = cs.length then H.write b 0 vs.toArray.toList else none) = some H'
 rw [if_pos (by simpa using hl)]
 simpa using e
theorem BxM.faddr {B C : Nat} {H : Heap} {p : Value} {cs : List Value} (h : BxM B C H p cs) (i : Nat) : faddrS i p = some (bx p i) := by
 obtain ⟨b, f, rfl, h2⟩ := h
 simp [faddrS, bx, ptrA]
section
variable {P : Program}
theorem res_cell {a : Fr} {H : Heap} {t : Nat} {ty : TypeId} {n : Nat} {rs : List ResultVar} (ht : isAggT P ty = some true) (hn : sizeT P ty = some n) : resList P a H (.cell t ty :: rs) = (match loadN n (a t) H, resList P a H rs with | some v, some r => some (v :: r) | _, _ => none) := by
 show (match loadA P ty (a t) H, resList P a H rs with | some v, some r => some (v :: r) | _, _ => none) = _
 have e : loadA P ty (a t) H = loadN n (a t) H := by
  unfold loadA loadN
  rw [ht, hn]
  cases a t with
  | pointer q =>
    cases q with
    | none => rfl
    | some q =>
      obtain ⟨b, o, s⟩ := q
      cases s with
      | some _ => rfl
      | none => rfl
  | _ => rfl
 rw [e]
end
theorem scal_agg {cs : Array Value} : scal (.agg cs) = some cs.toList := (rfl)
theorem reflV_loadN {t : TypeId} {x : Operand} {v : Value} : reflV (.load t x) v = vEq v v := (rfl)
theorem reflV_buildS {t : TypeId} {x : Array (Nat × Operand)} {v : Value} : reflV (.build t x) v = true := (rfl)
theorem reflV_box {t : TypeId} {x : Operand} {v : Value} : reflV (.box t x) v = true := (rfl)
theorem reflV_alloc {t : TypeId} {v : Value} : reflV (.alloc t) v = true := (rfl)
end Go.Abs
