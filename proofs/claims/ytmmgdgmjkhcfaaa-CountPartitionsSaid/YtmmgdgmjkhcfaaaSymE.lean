/- Regions that draw their order: reads are checked only against effects that may come between. -/
import Derived.Test.YtmmgdgmjkhcfaaaSymD
set_option linter.all false
namespace Go.Abs
abbrev RdI := Nat × Fr × Oper × Value
abbrev HpI := Option Nat × Heap
def evOpsI (P : Program) (call : CallF) (ops : Array Oper) : Nat → List Oper → Fr → Heap → List HpI → List RdI → Option (Fr × Heap × List HpI × List RdI)
  | _, [], a, H, Gs, rs => some (a, H, Gs, rs)
  | j, o :: os, a, H, Gs, rs =>
    iteB (Region.wanted o (yieldedA ops a))
      (bindO (stepA P call a o H) fun v H' => match cls o.op with
        | .eff => evOpsI P call ops (j + 1) os (putA a o.dst v) H' ((some j, H') :: Gs) rs
        | .all_ => evOpsI P call ops (j + 1) os (putA a o.dst v) H' Gs rs
        | .read => evOpsI P call ops (j + 1) os (putA a o.dst v) H Gs ((j, a, o, v) :: rs)
        | .pure_ => evOpsI P call ops (j + 1) os (putA a o.dst v) H Gs rs)
      (evOpsI P call ops (j + 1) os (putA a o.dst undef) H Gs rs)
def ordB (bef : Array Nat) (e : Option Nat) (j : Nat) : Bool := match e with
  | none => false
  | some e => decide (j < e) && (bef.getD e 0).testBit j
section
variable {P : Program} {call : CallF} {ops : Array Oper} {bef : Array Nat}
theorem opsI_mono : ∀ (l : List Oper) (j : Nat) (a : Fr) (H : Heap) (Gs : List HpI) (rs : List RdI) (a' : Fr) (H' : Heap) (Gs' : List HpI) (rs' : List RdI), evOpsI P call ops j l a H Gs rs = some (a', H', Gs', rs') → (∀ G ∈ Gs, G ∈ Gs') ∧ ∀ r ∈ rs, r ∈ rs' := by
  intro l
  induction l with
  | nil => intro j a H Gs rs a' H' Gs' rs' h; cases h; exact ⟨fun _ h => h, fun _ h => h⟩
  | cons o l ih =>
    intro j a H Gs rs a' H' Gs' rs' h
    unfold evOpsI at h
    cases hw : Region.wanted o (yieldedA ops a) with
    | false => rw [hw] at h; exact ih _ _ _ _ _ _ _ _ _ h
    | true =>
      rw [hw] at h
      simp only [iteB] at h
      cases hs : stepA P call a o H with
      | none => rw [hs] at h; cases h
      | some q =>
        obtain ⟨v, H1⟩ := q
        rw [hs] at h
        simp only [bindO] at h
        cases hc : cls o.op with
        | eff =>
          rw [hc] at h
          have := ih _ _ _ _ _ _ _ _ _ h
          exact ⟨fun G hG => this.1 G (List.mem_cons_of_mem _ hG), this.2⟩
        | all_ => rw [hc] at h; exact ih _ _ _ _ _ _ _ _ _ h
        | read =>
          rw [hc] at h
          have := ih _ _ _ _ _ _ _ _ _ h
          exact ⟨this.1, fun r hr => this.2 r (List.mem_cons_of_mem _ hr)⟩
        | pure_ => rw [hc] at h; exact ih _ _ _ _ _ _ _ _ _ h
theorem window_mem : ∀ (m : Nat) (st : List HpI), ∀ G ∈ window m st, ∃ x ∈ st, x.2 = G := by
  intro m st
  induction st with
  | nil => intro G hG; cases hG
  | cons x st ihs =>
    intro G hG
    obtain ⟨x1, x2⟩ := x
    cases x1 with
    | none =>
      rcases List.mem_cons.1 hG with rfl | hG
      · exact ⟨_, List.mem_cons_self .., rfl⟩
      · obtain ⟨y, hy, e⟩ := ihs G hG
        exact ⟨y, List.mem_cons_of_mem _ hy, e⟩
    | some e =>
      unfold window at hG
      split at hG
      · simp at hG; subst hG; exact ⟨_, List.mem_cons_self .., rfl⟩
      · rcases List.mem_cons.1 hG with rfl | hG
        · exact ⟨_, List.mem_cons_self .., rfl⟩
        · obtain ⟨y, hy, e⟩ := ihs G hG
          exact ⟨y, List.mem_cons_of_mem _ hy, e⟩
theorem draw_idx {Gs : List HpI} {rs : List RdI} (hst : ∀ G ∈ Gs, ∀ r ∈ rs, ordB bef G.1 r.1 = false → stillReads P G.2 r.2.1 r.2.2.1 r.2.2.2 = true) : ∀ (l : List Oper) (j : Nat) (a : Fr) (H : Heap) (st : List HpI) (pd : Pend) (Gs0 : List HpI) (rs0 : List RdI) (a' : Fr) (H' : Heap), ops.toList.drop j = l →
    (∀ x ∈ st, x ∈ Gs ∧ ∀ e, x.1 = some e → e < j) → (∀ p ∈ pd, p ∈ rs ∧ p.1 < j) → evOpsI P call ops j l a H Gs0 rs0 = some (a', H', Gs, rs) → evDraw P call ops bef ((List.range ops.size).drop j) a H st pd = some (a', H') := by
  intro l
  induction l with
  | nil =>
    intro j a H st pd Gs0 rs0 a' H' hd _ _ h
    have : ops.size ≤ j := by
      apply Nat.le_of_not_lt
      intro h
      rw [List.drop_eq_getElem_cons (by simpa using h)] at hd
      cases hd
    rw [List.drop_eq_nil_of_le (by simpa using this)]
    cases h; rfl
  | cons o l ih =>
    intro j a H st pd Gs0 rs0 a' H' hd hs1 hp1 h
    obtain ⟨h1, h2, h3⟩ := drop_at hd
    have hj : j < ops.size := by simpa using h3
    have ho : ops[j]? = some o := by rw [← Array.getElem?_toList]; exact h1
    have hs2 : ∀ x ∈ st, x ∈ Gs ∧ ∀ e, x.1 = some e → e < j + 1 := fun x hx => ⟨(hs1 x hx).1, fun e he => Nat.lt_succ_of_lt ((hs1 x hx).2 e he)⟩
    have hp2 : ∀ p ∈ pd, p ∈ rs ∧ p.1 < j + 1 := fun p hp => ⟨(hp1 p hp).1, Nat.lt_succ_of_lt (hp1 p hp).2⟩
    rw [range_drop hj, evDraw, ho]
    simp only
    unfold evOpsI at h
    cases hw : Region.wanted o (yieldedA ops a) with
    | false =>
      rw [hw] at h
      simp only [Bool.false_eq_true, if_false]
      exact ih (j + 1) _ _ _ _ _ _ _ _ h2 hs2 hp2 h
    | true =>
      rw [hw] at h
      simp only [iteB] at h
      simp only [if_true]
      cases hs : stepA P call a o H with
      | none => rw [hs] at h; cases h
      | some q =>
        obtain ⟨v, H1⟩ := q
        rw [hs] at h
        simp only [bindO] at h
        cases hc : cls o.op with
        | eff =>
          rw [hc] at h
          simp only
          have hm := opsI_mono _ _ _ _ _ _ _ _ _ _ h
          have hG := hm.1 (some j, H1) (List.mem_cons_self ..)
          have hall : ((pd.filter fun p => !(bef.getD j 0).testBit p.1).all fun p => stillReads P H1 p.2.1 p.2.2.1 p.2.2.2) = true := by
            rw [List.all_eq_true]
            intro p hp
            have hp' := List.mem_filter.1 hp
            refine hst _ hG p (hp1 p hp'.1).1 ?_
            have hb : (bef.getD j 0).testBit p.1 = false := by simpa using hp'.2
            simp only [ordB, hb, Bool.and_false]
          rw [hall]
          simp only [if_true]
          refine ih (j + 1) _ _ _ _ _ _ _ _ h2 (fun x hx => ?_) (fun p hp => hp2 p (List.mem_filter.1 hp).1) h
          rcases List.mem_cons.1 hx with rfl | hx
          · exact ⟨hG, fun e he => by injection he with he; omega⟩
          · exact hs2 x hx
        | all_ =>
          rw [hc] at h
          rw [step_all hc] at hs
          simp only [hs]
          exact ih (j + 1) _ _ _ _ _ _ _ _ h2 hs2 hp2 h
        | read =>
          rw [hc] at h
          rw [step_read hc] at hs
          have hm := opsI_mono _ _ _ _ _ _ _ _ _ _ h
          have hr := hm.2 (j, a, o, v) (List.mem_cons_self ..)
          simp only [hs]
          have hall : ((window (bef.getD j 0) st).all fun G => stillReads P G a o v) = true := by
            rw [List.all_eq_true]
            intro G hG
            obtain ⟨x, hx, rfl⟩ := window_mem _ _ G hG
            refine hst x (hs1 x hx).1 _ hr ?_
            unfold ordB
            split
            · rfl
            · rename_i e he
              have := (hs1 x hx).2 e he
              rw [show decide (j < e) = false from by simp; omega, Bool.false_and]
          rw [hall]
          simp only [if_true]
          refine ih (j + 1) _ _ _ _ _ _ _ _ h2 hs2 (fun p hp => ?_) h
          rcases List.mem_cons.1 hp with rfl | hp
          · exact ⟨hr, Nat.lt_succ_self _⟩
          · exact hp2 p hp
        | pure_ =>
          rw [hc] at h
          rw [step_pure hc] at hs
          simp only [hs]
          exact ih (j + 1) _ _ _ _ _ _ _ _ h2 hs2 hp2 h
/-- As 'et_from', but a read is held only against the effects that need not come behind it: bs is what must come before. -/
theorem et_idx {k nt id : Nat} {rd : Option Nat} {a : Fr} {H : Heap} (bs : Array Nat) (hb : Region.before ops = bs) (Q : Fr → Heap → Prop) (h : ∃ r, evOpsI P call ops 0 ops.toList a H [(none, H)] [] = some r ∧ (∀ G ∈ r.2.2.1, ∀ q ∈ r.2.2.2, ordB bs G.1 q.1 = false → stillReads P G.2 q.2.1 q.2.2.1 q.2.2.2 = true) ∧ Q r.1 r.2.1) :
    ∃ a' H', evT P call k nt rd D1 (.region id ops true) a H = some (.normal, a', H') ∧ Q a' H' := by
  obtain ⟨⟨a', H', Gs, rs⟩, h1, h2, h3⟩ := h
  refine ⟨a', H', ?_, h3⟩
  subst hb
  have hH := (opsI_mono _ _ _ _ _ _ _ _ _ _ h1).1 (none, H) (List.mem_cons_self ..)
  have := draw_idx (bef := Region.before ops) h2 ops.toList 0 a H [(none, H)] [] [(none, H)] [] a' H' rfl (fun x hx => by simp at hx; subst hx; exact ⟨hH, fun e he => by cases he⟩) (fun p hp => by cases hp) h1
  rw [es_draw]
  show bindF _ _ = _
  rw [show (List.range ops.size).drop 0 = List.range ops.size from rfl] at this
  rw [this]; rfl
end
section
variable {P : Program} {call : CallF} {ops : Array Oper} {a : Fr} {H : Heap} {Gs : List HpI} {rs : List RdI} {d : Option Nat} {op : Op} {ty : TypeId} {pos : String} {aft : Array Edge} {os : List Oper} {j : Nat}
theorem cls_alloc {t : TypeId} : cls (.alloc t) = .all_ := (rfl)
theorem cls_make {t : TypeId} {x y : Operand} : cls (.makeSlice t x y) = .all_ := (rfl)
theorem opsI_nil : evOpsI P call ops j [] a H Gs rs = some (a, H, Gs, rs) := (rfl)
theorem opsI_cons : evOpsI P call ops j (⟨d, op, ty, pos, aft, none⟩ :: os) a H Gs rs = bindO (stepA P call a ⟨d, op, ty, pos, aft, none⟩ H) fun v H' => clsW (cls op)
    (evOpsI P call ops (j + 1) os (putA a d v) H' ((some j, H') :: Gs) rs) (evOpsI P call ops (j + 1) os (putA a d v) H' Gs rs) (evOpsI P call ops (j + 1) os (putA a d v) H Gs ((j, a, ⟨d, op, ty, pos, aft, none⟩, v) :: rs)) (evOpsI P call ops (j + 1) os (putA a d v) H Gs rs) := by
  rw [evOpsI]
  have hw : Region.wanted ⟨d, op, ty, pos, aft, none⟩ (yieldedA ops a) = true := rfl
  rw [hw, iteB_true]
  cases stepA P call a ⟨d, op, ty, pos, aft, none⟩ H with
  | none => rfl
  | some q => obtain ⟨v, H'⟩ := q; show (match cls op with | .eff => _ | .all_ => _ | .read => _ | .pure_ => _) = clsW (cls op) _ _ _ _; cases cls op <;> rfl
end
end Go.Abs
