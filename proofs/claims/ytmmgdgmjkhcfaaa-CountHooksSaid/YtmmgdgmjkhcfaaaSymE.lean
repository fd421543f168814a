/- Regions that draw their order: reads are checked only against effects that may come between. -/
import Derived.Test.YtmmgdgmjkhcfaaaSymD
set_option linter.all false
namespace Go.Abs
abbrev RdI := Nat × Fr × Oper × Value
abbrev HpI := Option Nat × Heap
def evOpsI (P : Program) (call : CallF) (ops : Array Oper) : Nat → List Oper → Fr → Heap → List HpI → List RdI → Option (Fr × Heap × List HpI × List RdI)
 | _, [], a, H, Gs, rs => some (a, H, Gs, rs)
 | j, o :: os, a, H, Gs, rs =>
   iteB (Region.wanted o (yieldedA ops a))
    (bindO (stepA P call a o H) fun v H' => match cls o.op with
     | .eff => evOpsI P call ops (j + 1) os (putA a o.dst v) H' ((some j, H') :: Gs) rs
     | .all_ => evOpsI P call ops (j + 1) os (putA a o.dst v) H' Gs rs
     | .read => evOpsI P call ops (j + 1) os (putA a o.dst v) H Gs ((j, a, o, v) :: rs)
     | .pure_ => evOpsI P call ops (j + 1) os (putA a o.dst v) H Gs rs)
    (evOpsI P call ops (j + 1) os (putA a o.dst undef) H Gs rs)
def ordB (bef : Array Nat) (e : Option Nat) (j : Nat) : Bool := match e with
 | none => false
 | some e => decide (j < e) && (bef.getD e 0).testBit j
section
variable {P : Program} {call : CallF} {ops : Array Oper} {bef : Array Nat}
theorem opsI_mono : ∀ (l : List Oper) (j : Nat) (a : Fr) (H : Heap) (Gs : List HpI) (rs : List RdI) (a' : Fr) (H' : Heap) (Gs' : List HpI) (rs' : List RdI), evOpsI P call ops j l a H Gs rs = some (a', H', Gs', rs') → (∀ G ∈ Gs, G ∈ Gs') ∧ ∀ r ∈ rs, r ∈ rs' := by
 intro l
 induction l with
 | nil => intro j a H Gs rs a' H' Gs' rs' h; cases h; exact ⟨fun _ h => h, fun _ h => h⟩
 | cons o l ih =>
   intro j a H Gs rs a' H' Gs' rs' h
   unfold evOpsI at h
   cases hw : Region.wanted o (yieldedA ops a) with
   | false => rw [hw] at h; exact ih _ _ _ _ _ _ _ _ _ h
   | true =>
     rw [hw] at h
     simp only [iteB] at h
     cases hs : stepA P call a o H with
     | none => rw [hs] at h; cases h
     | some q =>
       obtain ⟨v, H1⟩ := q
       rw [hs] at h
       simp only [bindO] at h
       cases hc : cls o.op with
       | eff =>
         rw [hc] at h
         have := ih _ _ _ _ _ _ _ _ _ h
         exact ⟨fun G hG => this.1 G (List.mem_cons_of_mem _ hG), this.2⟩
       | all_ => rw [hc] at h; exact ih _ _ _ _ _ _ _ _ _ h
       | read =>
         rw [hc] at h
         have := ih _ _ _ _ _ _ _ _ _ h
         exact ⟨this.1, fun r hr => this.2 r (List.mem_cons_of_mem _ hr)⟩
       | pure_ => rw [hc] at h; exact ih _ _ _ _ _ _ _ _ _ h
theorem window_mem : ∀ (m : Nat) (st : List HpI), ∀ G ∈ window m st, ∃ x ∈ st, x.2 = G := by
 intro m st
 induction st with
 | nil => intro G hG; cases hG
 | cons x st ihs =>
   intro G hG
   obtain ⟨x1, x2⟩ := x
   cases x1 with
   | none =>
     rcases List.mem_cons.1 hG with rfl | hG
     ·exact ⟨_, List.mem_cons_self .., rfl⟩
     ·obtain ⟨y, hy, e⟩ := ihs G hG
      exact ⟨y, List.mem_cons_of_mem _ hy, e⟩
   | some e =>
     unfold window at hG
     split at hG
     ·simp at hG; subst hG; exact ⟨_, List.mem_cons_self .., rfl⟩
     ·rcases List.mem_cons.1 hG with rfl | hG
      ·exact ⟨_, List.mem_cons_self .., rfl⟩
      ·obtain ⟨y, hy, e⟩ := ihs G hG
       exact ⟨y, List.mem_cons_of_mem _ hy, e⟩
theorem draw_idx {Gs : List HpI} {rs : List RdI} (hst : ∀ G ∈ Gs, ∀ r ∈ rs, ordB bef G.1 r.1 = false → stillReads P G.2 r.2.1 r.2.2.1 r.2.2.2 = true) : ∀ (l : List Oper) (j : Nat) (a : Fr) (H : Heap) (st : List HpI) (pd : Pend) (Gs0 : List HpI) (rs0 : List RdI) (a' : Fr) (H' : Heap), ops.toList.drop j = l →
  (∀ x ∈ st, x ∈ Gs ∧ ∀ e, x.1 = some e → e < j) → (∀ p ∈ pd, p ∈ rs ∧ p.1 < j) → evOpsI P call ops j l a H Gs0 rs0 = some (a', H', Gs, rs) → evDraw P call ops bef ((List.range ops.size).drop j) a H st pd = some (a', H') := by
 intro l
 induction l with
 | nil =>
   intro j a H st pd Gs0 rs0 a' H' hd _ _ h
   have : ops.size ≤ j := by
    apply Nat.le_of_not_lt
    intro h
    rw [List.drop_eq_getElem_cons (by simpa using h)] at hd
    cases hd
   rw [List.drop_eq_nil_of_le (by simpa using this)]
   cases h; rfl
 | cons o l ih =>
   intro j a H st pd Gs0 rs0 a' H' hd hs1 hp1 h
   obtain ⟨h1, h2, h3⟩ := drop_at hd
   have hj : j < ops.size := by simpa using h3
   have ho : ops[j]? = some o := by rw [← Array.getElem?_toList]; exact h1
   have hs2 : ∀ x ∈ st, x ∈ Gs ∧ ∀ e, x.1 = some e → e < j + 1 := fun x hx => ⟨(hs1 x hx).1, fun e he => Nat.lt_succ_of_lt ((hs1 x hx).2 e he)⟩
   have hp2 : ∀ p ∈ pd, p ∈ rs ∧ p.1 < j + 1 := fun p hp => ⟨(hp1 p hp).1, Nat.lt_succ_of_lt (hp1 p hp).2⟩
   rw [range_drop hj, evDraw, ho]
   simp only
   unfold evOpsI at h
   cases hw : Region.wanted o (yieldedA ops a) with
   | false =>
     rw [hw] at h
     simp only [Bool.false_eq_true, if_false]
     exact ih (j + 1) _ _ _ _ _ _ _ _ h2 hs2 hp2 h
   | true =>
     rw [hw] at h
     simp only [iteB] at h
     simp only [if_true]
     cases hs : stepA P call a o H with
     | none => rw [hs] at h; cases h
     | some q =>
       obtain ⟨v, H1⟩ := q
       rw [hs] at h
       simp only [bindO] at h
       cases hc : cls o.op with
       | eff =>
         rw [hc] at h
         simp only
         have hm := opsI_mono _ _ _ _ _ _ _ _ _ _ h
         have hG := hm.1 (some j, H1) (List.mem_cons_self ..)
         have hall : ((pd.filter fun p => !(bef.getD j 0).testBit p.1).all fun p => stillReads P H1 p.2.1 p.2.2.1 p.2.2.2) = true := by
          rw [List.all_eq_true]
          intro p hp
          have hp' := List.mem_filter.1 hp
          refine hst _ hG p (hp1 p hp'.1).1 ?_
          have hb : (bef.getD j 0).testBit p.1 = false := by simpa using hp'.2
          simp only [ordB, hb, Bool.and_false]
         rw [hall]
         simp only [if_true]
         refine ih (j + 1) _ _ _ _ _ _ _ _ h2 (fun x hx => ?_) (fun p hp => hp2 p (List.mem_filter.1 hp).1) h
         rcases List.mem_cons.1 hx with rfl | hx
         ·exact ⟨hG, fun e he => by injection he with he; omega⟩
         ·exact hs2 x hx
       | all_ =>
         rw [hc] at h
         rw [step_all hc] at hs
         simp only [hs]
         exact ih (j + 1) _ _ _ _ _ _ _ _ h2 hs2 hp2 h
       | read =>
         rw [hc] at h
         rw [step_read hc] at hs
         have hm := opsI_mono _ _ _ _ _ _ _ _ _ _ h
         have hr := hm.2 (j, a, o, v) (List.mem_cons_self ..)
         simp only [hs]
         have hall : ((window (bef.getD j 0) st).all fun G => stillReads P G a o v) = true := by
          rw [List.all_eq_true]
          intro G hG
          obtain ⟨x, hx, rfl⟩ := window_mem _ _ G hG
          refine hst x (hs1 x hx).1 _ hr ?_
          unfold ordB
          split
          ·rfl
          ·rename_i e he
           have := (hs1 x hx).2 e he
           rw [show decide (j < e) = false from by simp; omega, Bool.false_and]
         rw [hall]
         simp only [if_true]
         refine ih (j + 1) _ _ _ _ _ _ _ _ h2 hs2 (fun p hp => ?_) h
         rcases List.mem_cons.1 hp with rfl | hp
         ·exact ⟨hr, Nat.lt_succ_self _⟩
         ·exact hp2 p hp
       | pure_ =>
         rw [hc] at h
         rw [step_pure hc] at hs
         simp only [hs]
         exact ih (j + 1) _ _ _ _ _ _ _ _ h2 hs2 hp2 h
/-- As 'et_from', but a read is held only against the effects that need not come behind it: bs is what must come before. -/
theorem et_idx {k nt id : Nat} {rd : Option Nat} {a : Fr} {H : Heap} (bs : Array Nat) (hb : Region.before ops = bs) (Q : Fr → Heap → Prop) (h : ∃ r, evOpsI P call ops 0 ops.toList a H [(none, H)] [] = some r ∧ (∀ G ∈ r.2.2.1, ∀ q ∈ r.2.2.2, ordB bs G.1 q.1 = false → stillReads P G.2 q.2.1 q.2.2.1 q.2.2.2 = true) ∧ Q r.1 r.2.1) :
  ∃ a' H', evT P call k nt rd D1 (.region id ops true) a H = some (.normal, a', H') ∧ Q a' H' := by
 obtain ⟨⟨a', H', Gs, rs⟩, h1, h2, h3⟩ := h
 refine ⟨a', H', ?_, h3⟩
 subst hb
 have hH := (opsI_mono _ _ _ _ _ _ _ _ _ _ h1).1 (none, H) (List.mem_cons_self ..)
 have := draw_idx (bef := Region.before ops) h2 ops.toList 0 a H [(none, H)] [] [(none, H)] [] a' H' rfl (fun x hx => by simp at hx; subst hx; exact ⟨hH, fun e he => by cases he⟩) (fun p hp => by cases hp) h1
 rw [es_draw]
 show bindF _ _ = _
 rw [show (List.range ops.size).drop 0 = List.range ops.size from rfl] at this
 rw [this]; rfl
end
section
variable {P : Program} {call : CallF} {ops : Array Oper} {a : Fr} {H : Heap} {Gs : List HpI} {rs : List RdI} {d : Option Nat} {op : Op} {ty : TypeId} {pos : String} {aft : Array Edge} {os : List Oper} {j : Nat}
theorem cls_alloc {t : TypeId} : cls (.alloc t) = .all_ := (rfl)
theorem cls_make {t : TypeId} {x y : Operand} : cls (.makeSlice t x y) = .all_ := (rfl)
theorem opsI_nil : evOpsI P call ops j [] a H Gs rs = some (a, H, Gs, rs) := (rfl)
theorem opsI_cons : evOpsI P call ops j (⟨d, op, ty, pos, aft, none⟩ :: os) a H Gs rs = bindO (stepA P call a ⟨d, op, ty, pos, aft, none⟩ H) fun v H' => clsW (cls op)
  (evOpsI P call ops (j + 1) os (putA a d v) H' ((some j, H') :: Gs) rs) (evOpsI P call ops (j + 1) os (putA a d v) H' Gs rs) (evOpsI P call ops (j + 1) os (putA a d v) H Gs ((j, a, ⟨d, op, ty, pos, aft, none⟩, v) :: rs)) (evOpsI P call ops (j + 1) os (putA a d v) H Gs rs) := by
 rw [evOpsI]
 have hw : Region.wanted ⟨d, op, ty, pos, aft, none⟩ (yieldedA ops a) = true := rfl
 rw [hw, iteB_true]
 cases stepA P call a ⟨d, op, ty, pos, aft, none⟩ H with
 | none => rfl
 | some q => obtain ⟨v, H'⟩ := q; show (match cls op with | .eff => _ | .all_ => _ | .read => _ | .pure_ => _) = clsW (cls op) _ _ _ _; cases cls op <;> rfl
end
end Go.Abs
namespace Go.Abs
section
variable {P : Program} {call : CallF} {a : Fr} {H : Heap} {d : Option Nat} {ty : TypeId} {pos : String} {aft : Array Edge} {g : Option (Nat × Bool)}
def maxS (u v : Value) (H : Heap) (r : Option (Value × Heap)) : Option (Value × Heap) := match u, v with
 | .int .i64 p, .int .i64 q => some (vi (if p < q then q else p), H)
 | _, _ => r
def minS (u v : Value) (H : Heap) (r : Option (Value × Heap)) : Option (Value × Heap) := match u, v with
 | .int .i64 p, .int .i64 q => some (vi (if q < p then q else p), H)
 | _, _ => r
theorem maxS_congr {u u' v v' : Value} {H : Heap} {r : Option (Value × Heap)} (hu : u = u') (hv : v = v') : maxS u v H r = maxS u' v' H r := by rw [hu, hv]
theorem minS_congr {u u' v v' : Value} {H : Heap} {r : Option (Value × Heap)} (hu : u = u') (hv : v = v') : minS u v H r = minS u' v' H r := by rw [hu, hv]
theorem maxS_vi {p q : Int} {r : Option (Value × Heap)} : maxS (vi p) (vi q) H r = some (vi (if p < q then q else p), H) := (rfl)
theorem minS_vi {p q : Int} {r : Option (Value × Heap)} : minS (vi p) (vi q) H r = some (vi (if q < p then q else p), H) := (rfl)
theorem sy_max {x y : Operand} {t t' : TypeId} : stepA P call a ⟨d, .call { callee := .builtin .max, args := #[x, y], argTypes := #[t, t'] }, ty, pos, aft, g⟩ H = maxS (ev a x) (ev a y) H (rest (aexec P a ⟨d, .call { callee := .builtin .max, args := #[x, y], argTypes := #[t, t'] }, ty, pos, aft, g⟩ H)) := by
 show aexec P a ⟨d, .call { callee := .builtin .max, args := #[x, y], argTypes := #[t, t'] }, ty, pos, aft, g⟩ H = _
 unfold maxS rest
 split
 ·rename_i p q hx hy
  have e : plainA P a (⟨d, .call { callee := .builtin .max, args := #[x, y], argTypes := #[t, t'] }, ty, pos, aft, g⟩ : Oper) = some (vi (if p < q then q else p)) := by
   unfold plainA
   have hops : (⟨d, .call { callee := .builtin .max, args := #[x, y], argTypes := #[t, t'] }, ty, pos, aft, g⟩ : Oper).op.operands.toList = [x, y] := rfl
   rw [hops]
   simp only [List.all_cons, List.all_nil, hx, hy, plain, Bool.and_self, if_true]
   have ex : execOp (ev a) (⟨d, .call { callee := .builtin .max, args := #[x, y], argTypes := #[t, t'] }, ty, pos, aft, g⟩ : Oper) = (pure (.value (.int .i64 (if p < q then q else p))) : Sem Next) := by
    show (resolve (ev a) ⟨.builtin .max, ⟨[x, y]⟩, #[t, t']⟩ ty >>= fun d => invoke d.target d.args) = _
    simp [resolve, invoke, builtin, Builtin.max_, Builtin.max2, hx, hy]
   rw [ex]
   rfl
  show (plainA P a _).map (·, H) = _
  rw [e]; rfl
 ·rfl
theorem sy_min {x y : Operand} {t t' : TypeId} : stepA P call a ⟨d, .call { callee := .builtin .min, args := #[x, y], argTypes := #[t, t'] }, ty, pos, aft, g⟩ H = minS (ev a x) (ev a y) H (rest (aexec P a ⟨d, .call { callee := .builtin .min, args := #[x, y], argTypes := #[t, t'] }, ty, pos, aft, g⟩ H)) := by
 show aexec P a ⟨d, .call { callee := .builtin .min, args := #[x, y], argTypes := #[t, t'] }, ty, pos, aft, g⟩ H = _
 unfold minS rest
 split
 ·rename_i p q hx hy
  have e : plainA P a (⟨d, .call { callee := .builtin .min, args := #[x, y], argTypes := #[t, t'] }, ty, pos, aft, g⟩ : Oper) = some (vi (if q < p then q else p)) := by
   unfold plainA
   have hops : (⟨d, .call { callee := .builtin .min, args := #[x, y], argTypes := #[t, t'] }, ty, pos, aft, g⟩ : Oper).op.operands.toList = [x, y] := rfl
   rw [hops]
   simp only [List.all_cons, List.all_nil, hx, hy, plain, Bool.and_self, if_true]
   have ex : execOp (ev a) (⟨d, .call { callee := .builtin .min, args := #[x, y], argTypes := #[t, t'] }, ty, pos, aft, g⟩ : Oper) = (pure (.value (.int .i64 (if q < p then q else p))) : Sem Next) := by
    show (resolve (ev a) ⟨.builtin .min, ⟨[x, y]⟩, #[t, t']⟩ ty >>= fun d => invoke d.target d.args) = _
    simp [resolve, invoke, builtin, Builtin.min_, Builtin.min2, hx, hy]
   rw [ex]
   rfl
  show (plainA P a _).map (·, H) = _
  rw [e]; rfl
 ·rfl
def getS (cs : Value) (i : Nat) : Option Value := match cs with
 | .agg vs => vs[i]?
 | _ => none
/-- A field of one cell. -/
def oneField (P : Program) (t : TypeId) (i off : Nat) : Bool := match P.underlying t with
 | some (.struct fs) => match fs[i]? with
   | some f => f.offset == off && isAggT P f.type == some false
   | none => false
 | _ => false
theorem sy_field {t : TypeId} {x : Operand} {i off : Nat} (h : oneField P t i off = true) : stepA P call a ⟨d, .field t x i, ty, pos, aft, g⟩ H = (getS (ev a x) off).map fun p => (p, H) := by
 show (fieldA P t (ev a x) i).map (·, H) = _
 unfold oneField at h
 split at h
 ·rename_i fs hu
  split at h
  ·rename_i f hf
   simp only [Bool.and_eq_true, beq_iff_eq] at h
   unfold fieldA
   rw [hu]
   cases ev a x <;> try rfl
   rename_i cs
   simp only [hf, partA, h.2, h.1, getS, Array.getElem?_toList]
  ·cases h
 ·cases h
theorem get_0 {u v : Value} : getS (.agg #[u, v]) 0 = some u := (rfl)
theorem get_1 {u v : Value} : getS (.agg #[u, v]) 1 = some v := (rfl)
theorem sy_build2 {t el : TypeId} {x y : Operand} {z1 z2 : Value} (hs : sliceElem P t = some (el, 1)) (hz : zeros P el 1 2 = some [z1, z2]) {u v : Value} (hu : ev a x = u) (hv : ev a y = v) (su : scal u = some [u]) (sv : scal v = some [v]) :
  stepA P call a ⟨d, .buildSlice t 2 #[(0, x), (1, y)], ty, pos, aft, g⟩ H = some (sliceA H.length 0 2 1, H ++ [.cells H.length true [u, v]]) := by
 subst hu; subst hv
 show buildSliceA P t 2 [(0, ev a x), (1, ev a y)] H = _
 unfold buildSliceA
 simp only [hs]
 rw [if_pos ⟨by omega, by unfold maxA; omega⟩]
 simp [hz, fillL, su, sv, setList]
end
/-- A list of the call's own that may be the beginning of a longer one. -/
def OP (C : Nat) (H : Heap) (v : Value) (l : List Value) : Prop :=
 (v = .slice none 0 0 ∧ l = []) ∨ ∃ b f cs, v = sliceA b 0 l.length 1 ∧ C ≤ b ∧ C ≤ f ∧ H[b]? = some (.cells f true cs) ∧ l.length ≤ cs.length ∧ cs.take l.length = l
theorem O.OP {C : Nat} {H : Heap} {v : Value} {l : List Value} (h : O C H v l) : OP C H v l := by
 rcases h with h | ⟨b, f, h1, h2, h3, h4⟩
 ·exact .inl h
 ·exact .inr ⟨b, f, l, h1, h2, h3, h4, Nat.le_refl _, List.take_length⟩
theorem OP.RO {C : Nat} {H : Heap} {v : Value} {l : List Value} (h : OP C H v l) : RO C H v l := by
 rcases h with h | ⟨b, f, cs, h1, h2, h3, h4, h5, h6⟩
 ·exact .inl h
 ·exact .inr (.inr ⟨b, 0, f, true, cs, h1, h2, h3, h4, by omega, by simpa using h6⟩)
theorem OP.kept {C : Nat} {H H' : Heap} {v : Value} {l : List Value} (h : OP C H v l) (k : Kept C H H') : OP C H' v l := by
 rcases h with h | ⟨b, f, cs, h1, h2, h3, h4, h5⟩
 ·exact .inl h
 ·exact .inr ⟨b, f, cs, h1, h2, h3, k b f true cs h2 h3 h4, h5⟩
theorem OP.mono {C : Nat} {H H' : Heap} {v : Value} {l : List Value} (h : OP C H v l) (ho : Old H.length H H') : OP C H' v l := by
 rcases h with h | ⟨b, f, cs, h1, h2, h3, h4, h5⟩
 ·exact .inl h
 ·exact .inr ⟨b, f, cs, h1, h2, h3, by rw [ho.2 b (lt_of_blk h4)]; exact h4, h5⟩
theorem OP.below {C C' : Nat} {H : Heap} {v : Value} {l : List Value} (h : OP C H v l) (hc : C' ≤ C) : OP C' H v l := by
 rcases h with h | ⟨b, f, cs, h1, h2, h3, h4⟩
 ·exact .inl h
 ·exact .inr ⟨b, f, cs, h1, by omega, by omega, h4⟩
theorem OP.upto {C : Nat} {H : Heap} {v : Value} {l : List Int} (h : OP C H v (ints l)) {c : Nat} (hc : c ≤ l.length) : ∃ v', subS v none (some (vi c)) = some v' ∧ OP C H v' (ints (l.take c)) := by
 have bA : boundA (some (vi c)) l.length l.length = some c := by simp only [boundA]; rw [if_pos ⟨by omega, by omega⟩]; simp
 rcases h with ⟨rfl, hl⟩ | ⟨b, f, cs, rfl, h2, h3, hb, h4, h5⟩
 ·have : l = [] := by simpa [ints] using hl
  subst this
  obtain rfl : c = 0 := by simpa using hc
  exact ⟨_, rfl, .inl ⟨rfl, by simp [ints]⟩⟩
 ·have e : (ints (l.take c)).length = c := by rw [ints_len, List.length_take]; omega
  refine ⟨sliceA b 0 c 1, ?_, .inr ⟨b, f, cs, by rw [e], h2, h3, hb, by rw [e]; rw [ints_len] at h4; omega, ?_⟩⟩
  ·simp only [subS, sliceA, ints_len, bA]
   simp [boundA]
  ·rw [e]
   have : (ints l).take c = ints (l.take c) := by unfold ints; rw [List.map_take]
   rw [← this, ← h5, List.take_take, ints_len, Nat.min_eq_left hc]
theorem OP.app {B : Nat} {H : Heap} {s x : Value} {l m : List Value} (h : OP B H s l) (hw : WF H) (hB : B ≤ H.length) (hx : Abs.R H x m) (hm : m ≠ []) (hl : l.length + m.length ≤ maxA) :
  ∃ v' H', appS s x H = some (v', H') ∧ O B H' v' (l ++ m) ∧ Old B H H' ∧ WF H' := by
 obtain ⟨hr, p, c, hv⟩ := hx.read
 have h0 : m.length ≠ 0 := fun h => hm (List.eq_nil_of_length_eq_zero h)
 rcases h with ⟨rfl, rfl⟩ | ⟨b, f, cs, rfl, h1, h2, hb, h3, h4⟩
 ·exact (O.nil B H).app hw hB hx hl
 ·refine ⟨sliceA H.length 0 (l.length + m.length) 1, H.map (truncFam f l.length) ++ [.cells f true (cs.take l.length ++ m)], ?_, .inr ⟨H.length, f, by simp, hB, h2, by simp [h4]⟩, ?_, ?_⟩
  ·unfold appS
   rw [hr, hv]
   simp only [h0, if_false, sliceA, hb]
   rw [if_pos ⟨trivial, h3, hl⟩]
  ·refine (old_trunc hw h2 (k := l.length)).trans ?_
   have := (Old.app (H.map (truncFam f l.length)) [.cells f true (cs.take l.length ++ m)])
   exact this.mono (by simpa using hB)
  ·refine (wf_trunc hw).app ?_
   have := hw b f true cs hb
   have := lt_of_blk hb
   simp; omega
/-- A cell is written: blocks made later stand. -/
theorem OM.setK {B C : Nat} {H : Heap} {s : Value} {l : List Value} (h : OM B C H s l) (hw : WF H) {i : Nat} (hi : i < l.length) {c : Value} (hc : Abs.scal c = some [c]) :
  ∃ H', storeS (pt s i) c H = some H' ∧ OM B C H' s (l.set i c) ∧ Old B H H' ∧ WF H' ∧ Kept C H H' := by
 rcases h with ⟨rfl, rfl⟩ | ⟨b, f, rfl, h1, h2, h3, h4, hb⟩
 ·simp at hi
 ·obtain ⟨H', e, e1, e2, e3, e4, _⟩ := write_own hw h1 h2 h3 h4 hb (i := i) (vs := [c]) (by simp; omega)
  refine ⟨H', ?_, .inr ⟨b, f, by simp, h1, h2, h3, h4, by rw [e1]; rfl⟩, e2, e3, e4⟩
  simp only [pt, sliceA, storeS, ptrA, hc, Nat.zero_add]
  exact e
theorem OM.setKI {B C : Nat} {H : Heap} {s : Value} {l : List Int} (h : OM B C H s (ints l)) (hw : WF H) {i : Nat} (hi : i < l.length) (z : Int) :
  ∃ H', storeS (pt s i) (vi z) H = some H' ∧ OM B C H' s (ints (l.set i z)) ∧ Old B H H' ∧ WF H' ∧ Kept C H H' := by
 have := h.setK hw (i := i) (by rw [ints_len]; exact hi) (c := vi z) rfl
 rw [ints_set] at this; exact this
/-- A list that is read in blocks from C to D. -/
def RM (C D : Nat) (H : Heap) (v : Value) (l : List Value) : Prop :=
 (v = .slice none 0 0 ∧ l = []) ∨ (v = lostSlice ∧ l = []) ∨ ∃ b o f w cs, v = sliceA b o l.length 1 ∧ C ≤ b ∧ C ≤ f ∧ b < D ∧ H[b]? = some (.cells f w cs) ∧ o + l.length ≤ cs.length ∧ (cs.drop o).take l.length = l
theorem RM.R {C D : Nat} {H : Heap} {v : Value} {l : List Value} (h : RM C D H v l) : R H v l := by
 rcases h with h | h | ⟨b, o, f, w, cs, h1, _, _, _, h2⟩
 ·exact .inl h
 ·exact .inr (.inl h)
 ·exact .inr (.inr ⟨b, o, f, w, cs, h1, h2⟩)
theorem RO.RM {C : Nat} {H : Heap} {v : Value} {l : List Value} (h : RO C H v l) : RM C H.length H v l := by
 rcases h with h | h | ⟨b, o, f, w, cs, h1, h2, h3, hb, h4⟩
 ·exact .inl h
 ·exact .inr (.inl h)
 ·exact .inr (.inr ⟨b, o, f, w, cs, h1, h2, h3, lt_of_blk hb, hb, h4⟩)
theorem RM.kept {C D : Nat} {H H' : Heap} {v : Value} {l : List Value} (h : RM C D H v l) (k : Kept C H H') : RM C D H' v l := by
 rcases h with h | h | ⟨b, o, f, w, cs, h1, h2, h3, h4, hb, h5⟩
 ·exact .inl h
 ·exact .inr (.inl h)
 ·exact .inr (.inr ⟨b, o, f, w, cs, h1, h2, h3, h4, k b f w cs h2 h3 hb, h5⟩)
theorem RM.mono {C D : Nat} {H H' : Heap} {v : Value} {l : List Value} (h : RM C D H v l) (ho : Old D H H') : RM C D H' v l := by
 rcases h with h | h | ⟨b, o, f, w, cs, h1, h2, h3, h4, hb, h5⟩
 ·exact .inl h
 ·exact .inr (.inl h)
 ·exact .inr (.inr ⟨b, o, f, w, cs, h1, h2, h3, h4, by rw [ho.2 b h4]; exact hb, h5⟩)
end Go.Abs
