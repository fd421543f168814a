/- Regions that draw their order with calls between reads: what is read may be read at any time. -/
import Derived.Test.YtmmgdgmjkhcfaaaSymS
set_option linter.all false
namespace Go.Abs
abbrev Rd := Fr × Oper × Value
/-- The operations in the text's order; the heaps behind each effect and the reads are kept. -/
def evOpsW (P : Program) (call : CallF) (ops : Array Oper) : List Oper → Fr → Heap → List Heap → List Rd → Option (Fr × Heap × List Heap × List Rd)
 | [], a, H, Gs, rs => some (a, H, Gs, rs)
 | o :: os, a, H, Gs, rs =>
   iteB (Region.wanted o (yieldedA ops a))
    (bindO (stepA P call a o H) fun v H' => match cls o.op with
     | .eff => evOpsW P call ops os (putA a o.dst v) H' (H' :: Gs) rs
     | .all_ => evOpsW P call ops os (putA a o.dst v) H' Gs rs
     | .read => evOpsW P call ops os (putA a o.dst v) H Gs ((a, o, v) :: rs)
     | .pure_ => evOpsW P call ops os (putA a o.dst v) H Gs rs)
    (evOpsW P call ops os (putA a o.dst undef) H Gs rs)
section
variable {P : Program} {call : CallF} {ops : Array Oper} {bef : Array Nat}
theorem opsW_mono : ∀ (l : List Oper) (a : Fr) (H : Heap) (Gs : List Heap) (rs : List Rd) (a' : Fr) (H' : Heap) (Gs' : List Heap) (rs' : List Rd), evOpsW P call ops l a H Gs rs = some (a', H', Gs', rs') → (∀ G ∈ Gs, G ∈ Gs') ∧ ∀ r ∈ rs, r ∈ rs' := by
 intro l
 induction l with
 | nil => intro a H Gs rs a' H' Gs' rs' h; cases h; exact ⟨fun _ h => h, fun _ h => h⟩
 | cons o l ih =>
   intro a H Gs rs a' H' Gs' rs' h
   unfold evOpsW at h
   cases hw : Region.wanted o (yieldedA ops a) with
   | false => rw [hw] at h; exact ih _ _ _ _ _ _ _ _ h
   | true =>
     rw [hw] at h
     simp only [iteB] at h
     cases hs : stepA P call a o H with
     | none => rw [hs] at h; cases h
     | some q =>
       obtain ⟨v, H1⟩ := q
       rw [hs] at h
       simp only [bindO] at h
       cases hc : cls o.op with
       | eff =>
         rw [hc] at h
         have := ih _ _ _ _ _ _ _ _ h
         exact ⟨fun G hG => this.1 G (List.mem_cons_of_mem _ hG), this.2⟩
       | all_ => rw [hc] at h; exact ih _ _ _ _ _ _ _ _ h
       | read =>
         rw [hc] at h
         have := ih _ _ _ _ _ _ _ _ h
         exact ⟨this.1, fun r hr => this.2 r (List.mem_cons_of_mem _ hr)⟩
       | pure_ => rw [hc] at h; exact ih _ _ _ _ _ _ _ _ h
theorem draw_any {Gs : List Heap} {rs : List Rd} (hst : ∀ G ∈ Gs, ∀ r ∈ rs, stillReads P G r.1 r.2.1 r.2.2 = true) : ∀ (l : List Oper) (j : Nat) (a : Fr) (H : Heap) (st : List (Option Nat × Heap)) (pd : Pend) (Gs0 : List Heap) (rs0 : List Rd) (a' : Fr) (H' : Heap), ops.toList.drop j = l →
  (∀ x ∈ st, x.2 ∈ Gs) → (∀ p ∈ pd, (p.2.1, p.2.2.1, p.2.2.2) ∈ rs) → evOpsW P call ops l a H Gs0 rs0 = some (a', H', Gs, rs) → evDraw P call ops bef ((List.range ops.size).drop j) a H st pd = some (a', H') := by
 intro l
 induction l with
 | nil =>
   intro j a H st pd Gs0 rs0 a' H' hd _ _ h
   have : ops.size ≤ j := by
    apply Nat.le_of_not_lt
    intro h
    rw [List.drop_eq_getElem_cons (by simpa using h)] at hd
    cases hd
   rw [List.drop_eq_nil_of_le (by simpa using this)]
   cases h; rfl
 | cons o l ih =>
   intro j a H st pd Gs0 rs0 a' H' hd hs1 hp1 h
   obtain ⟨h1, h2, h3⟩ := drop_at hd
   have hj : j < ops.size := by simpa using h3
   have ho : ops[j]? = some o := by rw [← Array.getElem?_toList]; exact h1
   rw [range_drop hj, evDraw, ho]
   simp only
   unfold evOpsW at h
   cases hw : Region.wanted o (yieldedA ops a) with
   | false =>
     rw [hw] at h
     simp only [Bool.false_eq_true, if_false]
     exact ih (j + 1) _ _ _ _ _ _ _ _ h2 hs1 hp1 h
   | true =>
     rw [hw] at h
     simp only [iteB] at h
     simp only [if_true]
     cases hs : stepA P call a o H with
     | none => rw [hs] at h; cases h
     | some q =>
       obtain ⟨v, H1⟩ := q
       rw [hs] at h
       simp only [bindO] at h
       cases hc : cls o.op with
       | eff =>
         rw [hc] at h
         simp only
         have hm := opsW_mono _ _ _ _ _ _ _ _ _ h
         have hG := hm.1 H1 (List.mem_cons_self ..)
         have hall : ((pd.filter fun p => !(bef.getD j 0).testBit p.1).all fun p => stillReads P H1 p.2.1 p.2.2.1 p.2.2.2) = true := by
          rw [List.all_eq_true]
          intro p hp
          exact hst H1 hG _ (hp1 p (List.mem_filter.1 hp).1)
         rw [hall]
         simp only [if_true]
         refine ih (j + 1) _ _ _ _ _ _ _ _ h2 (fun x hx => ?_) (fun p hp => hp1 p (List.mem_filter.1 hp).1) h
         rcases List.mem_cons.1 hx with rfl | hx
         ·exact hG
         ·exact hs1 x hx
       | all_ =>
         rw [hc] at h
         rw [step_all hc] at hs
         simp only [hs]
         exact ih (j + 1) _ _ _ _ _ _ _ _ h2 hs1 hp1 h
       | read =>
         rw [hc] at h
         rw [step_read hc] at hs
         have hm := opsW_mono _ _ _ _ _ _ _ _ _ h
         have hr := hm.2 (a, o, v) (List.mem_cons_self ..)
         simp only [hs]
         have hwin : ∀ (m : Nat) (st : List (Option Nat × Heap)), (∀ x ∈ st, x.2 ∈ Gs) → ∀ G ∈ window m st, G ∈ Gs := by
          intro m st
          induction st with
          | nil => intro _ G hG; cases hG
          | cons x st ihs =>
            intro hx G hG
            obtain ⟨x1, x2⟩ := x
            cases x1 with
            | none =>
              rcases List.mem_cons.1 hG with rfl | hG
              ·exact hx (none, G) (List.mem_cons_self ..)
              ·exact ihs (fun y hy => hx y (List.mem_cons_of_mem _ hy)) G hG
            | some e =>
              unfold window at hG
              split at hG
              ·simp at hG; subst hG; exact hx (some e, G) (List.mem_cons_self ..)
              ·rcases List.mem_cons.1 hG with rfl | hG
               ·exact hx (some e, G) (List.mem_cons_self ..)
               ·exact ihs (fun y hy => hx y (List.mem_cons_of_mem _ hy)) G hG
         have hall : ((window (bef.getD j 0) st).all fun G => stillReads P G a o v) = true := by
          rw [List.all_eq_true]
          intro G hG
          exact hst G (hwin _ st hs1 G hG) _ hr
         rw [hall]
         simp only [if_true]
         refine ih (j + 1) _ _ _ _ _ _ _ _ h2 hs1 (fun p hp => ?_) h
         rcases List.mem_cons.1 hp with rfl | hp
         ·exact hr
         ·exact hp1 p hp
       | pure_ =>
         rw [hc] at h
         rw [step_pure hc] at hs
         simp only [hs]
         exact ih (j + 1) _ _ _ _ _ _ _ _ h2 hs1 hp1 h
def D1 : Nat → Bool := fun _ => true
theorem et_any {k nt id : Nat} {rd : Option Nat} {a a' : Fr} {H H' : Heap} {Gs : List Heap} {rs : List Rd} (h : evOpsW P call ops ops.toList a H [H] [] = some (a', H', Gs, rs)) (hst : ∀ G ∈ Gs, ∀ r ∈ rs, stillReads P G r.1 r.2.1 r.2.2 = true) :
  evT P call k nt rd D1 (.region id ops true) a H = some (.normal, a', H') := by
 have hH := (opsW_mono _ _ _ _ _ _ _ _ _ h).1 H (List.mem_cons_self ..)
 have := draw_any (bef := Region.before ops) hst ops.toList 0 a H [(none, H)] [] [H] [] a' H' rfl (fun x hx => by simp at hx; subst hx; exact hH) (fun p hp => by cases hp) h
 rw [es_draw]
 show bindF _ _ = _
 rw [show (List.range ops.size).drop 0 = List.range ops.size from rfl] at this
 rw [this]; rfl
theorem et_from {k nt id : Nat} {rd : Option Nat} {a : Fr} {H : Heap} (Q : Fr → Heap → Prop) (h : ∃ r, evOpsW P call ops ops.toList a H [H] [] = some r ∧ (∀ G ∈ r.2.2.1, ∀ q ∈ r.2.2.2, stillReads P G q.1 q.2.1 q.2.2 = true) ∧ Q r.1 r.2.1) :
  ∃ a' H', evT P call k nt rd D1 (.region id ops true) a H = some (.normal, a', H') ∧ Q a' H' := by
 obtain ⟨⟨a', H', Gs, rs⟩, h1, h2, h3⟩ := h
 exact ⟨a', H', et_any h1 h2, h3⟩
end
section
variable {P : Program} {call : CallF} {ops : Array Oper} {a : Fr} {H : Heap} {Gs : List Heap} {rs : List Rd} {d : Option Nat} {op : Op} {ty : TypeId} {pos : String} {aft : Array Edge} {os : List Oper}
theorem opsW_nil : evOpsW P call ops [] a H Gs rs = some (a, H, Gs, rs) := (rfl)
def clsW {α : Type} (c : Cls) (e al r p : α) : α := match c with | .eff => e | .all_ => al | .read => r | .pure_ => p
theorem clsW_congr {α : Type} {c c' : Cls} {e al r p : α} (h : c = c') : clsW c e al r p = clsW c' e al r p := by rw [h]
theorem clsW_eff {α : Type} {e al r p : α} : clsW .eff e al r p = e := (rfl)
theorem clsW_all {α : Type} {e al r p : α} : clsW .all_ e al r p = al := (rfl)
theorem clsW_read {α : Type} {e al r p : α} : clsW .read e al r p = r := (rfl)
theorem clsW_pure {α : Type} {e al r p : α} : clsW .pure_ e al r p = p := (rfl)
theorem opsW_cons : evOpsW P call ops (⟨d, op, ty, pos, aft, none⟩ :: os) a H Gs rs = bindO (stepA P call a ⟨d, op, ty, pos, aft, none⟩ H) fun v H' => clsW (cls op)
  (evOpsW P call ops os (putA a d v) H' (H' :: Gs) rs) (evOpsW P call ops os (putA a d v) H' Gs rs) (evOpsW P call ops os (putA a d v) H Gs ((a, ⟨d, op, ty, pos, aft, none⟩, v) :: rs)) (evOpsW P call ops os (putA a d v) H Gs rs) := by
 rw [evOpsW]
 have hw : Region.wanted ⟨d, op, ty, pos, aft, none⟩ (yieldedA ops a) = true := rfl
 rw [hw, iteB_true]
 cases stepA P call a ⟨d, op, ty, pos, aft, none⟩ H with
 | none => rfl
 | some q => obtain ⟨v, H'⟩ := q; show (match cls op with | .eff => _ | .all_ => _ | .read => _ | .pure_ => _) = clsW (cls op) _ _ _ _; cases cls op <;> rfl
theorem cls_callF {f : Operand} {x : Array Operand} {ts : Array TypeId} : cls (.call { callee := .value f, args := x, argTypes := ts }) = .eff := (rfl)
theorem cls_append {x : Array Operand} {ts : Array TypeId} : cls (.call { callee := .builtin .append, args := x, argTypes := ts }) = .eff := (rfl)
theorem cls_store {t : TypeId} {x y : Operand} : cls (.store t x y) = .eff := (rfl)
theorem cls_faddr {t : TypeId} {x : Operand} {i : Nat} : cls (.fieldAddr t x i) = .pure_ := (rfl)
theorem cls_field {t : TypeId} {x : Operand} {i : Nat} : cls (.field t x i) = .pure_ := (rfl)
theorem cls_build {t : TypeId} {x : Array (Nat × Operand)} : cls (.build t x) = .pure_ := (rfl)
theorem cls_buildS {t : TypeId} {n : Nat} {x : Array (Nat × Operand)} : cls (.buildSlice t n x) = .all_ := (rfl)
theorem cls_box {t : TypeId} {x : Operand} : cls (.box t x) = .all_ := (rfl)
theorem cls_extract {x : Operand} {i : Nat} : cls (.extract x i) = .pure_ := (rfl)
theorem cls_slice {t : TypeId} {x : Operand} {l h m : Option Operand} : cls (.slice t x l h m) = .pure_ := (rfl)
theorem still_ld {t x : _} {v : Value} {G : Heap} (ht : isAggT P t = some false) : stillReads P G a ⟨d, .load t x, ty, pos, aft, none⟩ v = (match loadS (ev a x) G with | some u => vEq v u | none => false) := by
 have e : aexec P a ⟨d, .load t x, ty, pos, aft, none⟩ G = (loadS (ev a x) G).map fun v => (v, G) := sy_load (call := noC) (a := a) (d := d) (ty := ty) (pos := pos) (aft := aft) (g := none) ht
 unfold stillReads
 rw [e]
 cases loadS (ev a x) G <;> rfl
theorem still_ldN {t x : _} {v : Value} {G : Heap} {n : Nat} (ht : isAggT P t = some true) (hn : sizeT P t = some n) : stillReads P G a ⟨d, .load t x, ty, pos, aft, none⟩ v = (match loadN n (ev a x) G with | some u => vEq v u | none => false) := by
 have e : aexec P a ⟨d, .load t x, ty, pos, aft, none⟩ G = (loadN n (ev a x) G).map fun v => (v, G) := sy_loadN (call := noC) (a := a) (d := d) (ty := ty) (pos := pos) (aft := aft) (g := none) ht hn
 unfold stillReads
 rw [e]
 cases loadN n (ev a x) G <;> rfl
end
end Go.Abs
