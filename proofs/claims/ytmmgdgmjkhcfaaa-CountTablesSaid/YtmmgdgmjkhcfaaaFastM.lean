/- The fast evaluator: regions. -/
import Derived.Test.YtmmgdgmjkhcfaaaFastL
import Derived.Test.YtmmgdgmjkhcfaaaFastH
namespace Go.Abs
/-- A frame, but for the slots that live in regions alone. -/
def Fra (L : Nat) (a : Fr) (T : FT) : Prop := ∀ t, L.testBit t = false → a t = den T t
theorem FInv.start {L : Nat} {a : Fr} {T : FT} (h : Fra L a T) : FInv L [] 0 [] T a := ⟨rfl, fun t l h => (by cases h), h⟩
theorem lval_push {l : Lc} {E : Env} {T : FT} {v : Value} (h : lok l E.length) : lval l (v :: E) T = lval l E T := by
  cases l with
  | env i =>
    have h : i < E.length := h
    simp only [lval, List.length_cons]
    rw [show E.length + 1 - 1 - i = (E.length - 1 - i) + 1 by omega, List.getElem?_cons_succ]
  | _ => rfl
theorem lok_push {l : Lc} {n : Nat} (h : lok l n) : lok l (n + 1) := by cases l <;> first | exact h | exact Nat.lt_succ_of_lt h
theorem den_set {T : FT} {d t : Nat} {v : Value} (hd : d < 262144) : den (T2.set T d v) t = if t = d then v else den T t := by
  unfold den
  by_cases ht : t < 262144
  · rw [if_pos ht, T2.get_set _ _ hd ht, if_pos ht]
  · rw [if_neg ht, if_neg ht, if_neg (by omega)]
theorem lk_unslot (d t : Nat) : ∀ (mp : Mpl), lk (unslot d mp) t = (lk mp t).map fun l => match l with
    | .slot s => bif Nat.beq s d then .bad else .slot s
    | l => l := by
  intro mp
  induction mp with
  | nil => rfl
  | cons p ps ih =>
    obtain ⟨q, l⟩ := p
    have e : unslot d ((q, l) :: ps) = (match l with
      | .slot s => bif Nat.beq s d then (q, Lc.bad) else (q, .slot s)
      | l => (q, l)) :: unslot d ps := by cases l <;> rfl
    rw [e]
    cases l with
    | slot s =>
      cases hb : Nat.beq s d with
      | true =>
        simp only [lk]
        by_cases hq : q = t
        · simp [hq, hb]
        · simp [hq, hb, ih]
      | false =>
        simp only [lk]
        by_cases hq : q = t
        · simp [hq, hb]
        · simp [hq, hb, ih]
    | env i => simp only [lk]; by_cases hq : q = t <;> simp [hq, ih]
    | cst v => simp only [lk]; by_cases hq : q = t <;> simp [hq, ih]
    | bad => simp only [lk]; by_cases hq : q = t <;> simp [hq, ih]
section
variable {L : Nat} {mp : Mpl} {n : Nat} {E : Env} {T : FT} {a : Fr}
theorem FInv.pushL (hi : FInv L mp n E T a) {d : Nat} (hd : L.testBit d = true) (v : Value) : FInv L ((d, .env n) :: mp) (n + 1) (v :: E) T (upd a d v) := by
  refine ⟨by simp [hi.len], fun t l h => ?_, fun t h => ?_⟩
  · unfold lk at h
    split at h
    · rename_i e
      cases h
      subst e
      right
      refine ⟨Nat.lt_succ_self n, ?_⟩
      simp [upd, lval, hi.len]
    · rename_i e
      rcases hi.mp t l h with rfl | ⟨h1, h2⟩
      · exact .inl rfl
      · exact .inr ⟨lok_push h1, by rw [lval_push (by rw [hi.len]; exact h1), ← h2]; simp [upd, Ne.symm e]⟩
  · have : t ≠ d := by rintro rfl; rw [hd] at h; cases h
    simp [upd, this]
    exact hi.fr t h
theorem FInv.pushF (hi : FInv L mp n E T a) {d : Nat} (hd : d < 262144) (v : Value) : FInv L ((d, .env n) :: unslot d mp) (n + 1) (v :: E) (T2.set T d v) (upd a d v) := by
  refine ⟨by simp [hi.len], fun t l h => ?_, fun t h => ?_⟩
  · unfold lk at h
    split at h
    · rename_i e
      cases h
      subst e
      right
      refine ⟨Nat.lt_succ_self n, ?_⟩
      simp [upd, lval, hi.len]
    · rename_i e
      rw [lk_unslot] at h
      cases hl : lk mp t with
      | none => rw [hl] at h; cases h
      | some l0 =>
        rw [hl] at h
        simp only [Option.map_some] at h
        injection h with h
        rcases hi.mp t l0 hl with rfl | ⟨h1, h2⟩
        · exact .inl h.symm
        · cases l0 with
          | slot s =>
            simp only at h
            cases hb : Nat.beq s d with
            | true => rw [hb] at h; exact .inl h.symm
            | false =>
              rw [hb] at h
              simp only [cond_false] at h
              subst h
              right
              refine ⟨h1, ?_⟩
              have hne := Nat.ne_of_beq_eq_false hb
              simp only [lval] at h2 ⊢
              rw [den_set hd, if_neg hne, ← h2]
              simp [upd, Ne.symm e]
          | env i =>
            subst h
            exact .inr ⟨lok_push h1, by rw [show lval (.env i) (v :: E) (T2.set T d v) = lval (.env i) (v :: E) T from rfl, lval_push (by rw [hi.len]; exact h1), ← h2]; simp [upd, Ne.symm e]⟩
          | cst u => subst h; exact .inr ⟨trivial, by rw [show lval (.cst u) (v :: E) (T2.set T d v) = lval (.cst u) E T from rfl, ← h2]; simp [upd, Ne.symm e]⟩
          | bad => exact .inl h.symm
  · rw [den_set hd]
    unfold upd
    split
    · rfl
    · exact hi.fr t h
theorem FInv.alias (hi : FInv L mp n E T a) {d : Nat} (hd : L.testBit d = true) {l : Lc} {v : Value} (hl : l = .bad ∨ (lok l n ∧ v = lval l E T)) : FInv L ((d, l) :: mp) n E T (upd a d v) := by
  refine ⟨hi.len, fun t l' h => ?_, fun t h => ?_⟩
  · unfold lk at h
    split at h
    · rename_i e
      cases h
      subst e
      rcases hl with h | ⟨h1, h2⟩
      · exact .inl h
      · exact .inr ⟨h1, by simp [upd, h2]⟩
    · rename_i e
      rcases hi.mp t l' h with rfl | ⟨h1, h2⟩
      · exact .inl rfl
      · exact .inr ⟨h1, by rw [← h2]; simp [upd, Ne.symm e]⟩
  · have : t ≠ d := by rintro rfl; rw [hd] at h; cases h
    simp [upd, this]
    exact hi.fr t h
theorem srcOf_or (hi : FInv L mp n E T a) {x : Operand} {l : Lc} (h : srcOf L mp x = some l) : l = .bad ∨ (lok l n ∧ ev a x = lval l E T) := by
  unfold srcOf at h
  cases x with
  | tmp t =>
    simp only at h
    split at h
    · rename_i l0 hl
      cases h
      exact hi.mp t _ hl
    · cases hb : (L.testBit t || !Nat.ble (t + 1) 262144) with
      | true => rw [hb] at h; cases h
      | false =>
        rw [hb] at h
        rw [Bool.or_eq_false_iff, Bool.not_eq_false', ble_lt, decide_eq_true_iff] at hb
        cases h
        exact .inr ⟨hb.2, hi.fr t hb.1⟩
  | const v => cases h; exact .inr ⟨trivial, rfl⟩
  | func f => cases h; exact .inr ⟨trivial, rfl⟩
  | global g => cases h
theorem putB_or (d : Nat) (T : FT) (v : Value) (k : FT → RC) : (putB d).run T v k = RC.no ∨ (d < 262144 ∧ (putB d).run T v k = k (T2.set T d v)) := by
  unfold putB
  cases h : Nat.ble (d + 1) 262144 with
  | false => exact .inl rfl
  | true => exact .inr ⟨Nat.le_of_ble_eq_true h, s2B_eq _ _ _ _⟩
theorem truthK_eq (v : Value) (y z o : RC) : truthK v y z o = match v with
    | .bool true => y
    | .bool false => z
    | _ => o := by
  cases v with
  | bool b => cases b <;> rfl
  | _ => rfl
theorem guardB_or (hi : FInv L mp n E T a) (ops : Array Oper) (j : Nat) (want : Bool) (y z : RC) : (guardB L mp n ops j want).run E T y z = RC.no ∨ (guardB L mp n ops j want).run E T y z = if (yieldedA ops a j == some want) = true then y else z := by
  unfold guardB yieldedA
  cases hd : (ops[j]?).bind (·.dst) with
  | none => right; simp
  | some t =>
    cases want with
    | true =>
      simp only [cond_true]
      rcases opB_or hi (.tmp t) (fun v => truthK v y z z) with h | h
      · exact .inl h
      right
      rw [h, truthK_eq]
      have key : ∀ u : Value, (match u with | .bool true => y | .bool false => z | _ => z) = if ((match u with | .bool b => some b | _ => none) == some true) = true then y else z := by
        intro u
        cases u with
        | bool b => cases b <;> simp
        | _ => simp
      exact key (a t)
    | false =>
      simp only [cond_false]
      rcases opB_or hi (.tmp t) (fun v => truthK v z y z) with h | h
      · exact .inl h
      right
      rw [h, truthK_eq]
      have key : ∀ u : Value, (match u with | .bool true => z | .bool false => y | _ => z) = if ((match u with | .bool b => some b | _ => none) == some false) = true then y else z := by
        intro u
        cases u with
        | bool b => cases b <;> simp
        | _ => simp
      exact key (a t)
end
section
variable {P : Program} {L : Nat} {c : Ctx} {call : CallF}
theorem nextB_or {rest : Mpl → Nat → Box (Ctx → Env → FT → FH → RC)} {Q : Fr → FH → RC → Prop} (hno : ∀ a H, Q a H RC.no) (hrest : ∀ mp n E T H a, FInv L mp n E T a → H.OK → Q a H ((rest mp n).run c E T H))
    {mp : Mpl} {n : Nat} {E : Env} {T : FT} {H : FH} {a : Fr} (hi : FInv L mp n E T a) (hH : H.OK) (dst : Option Nat) (v : Value) : Q (putA a dst v) H ((nextB L mp n dst rest).run c E T H v) := by
  unfold nextB
  cases dst with
  | none => exact hrest _ _ _ _ _ _ hi hH
  | some d =>
    simp only
    cases hd : L.testBit d with
    | true => exact hrest _ _ _ _ _ _ (hi.pushL hd v) hH
    | false =>
      simp only [cond_false]
      rcases putB_or d T v (fun T' => (rest ((d, .env n) :: unslot d mp) (n + 1)).run c (v :: E) T' H) with h | ⟨h1, h2⟩
      · rw [h]; exact hno _ _
      · rw [h2]; exact hrest _ _ _ _ _ _ (hi.pushF h1 v) hH
def RegSim (P : Program) (L : Nat) (call : CallF) (ops : Array Oper) (l : List Oper) (a : Fr) (H : FH) (r : RC) : Prop := r = RC.no ∨ ∃ T' H' a', H'.OK ∧ evOps P call ops l a (absH H) = some (a', absH H') ∧ Fra L a' T' ∧ r = RC.nx T' H'
theorem moveOf_some {o : Oper} {d : Nat} {x : Operand} (h : moveOf o = some (d, x)) : o.op = .move x ∧ o.guard = none ∧ o.dst = some d := by
  unfold moveOf at h
  split at h
  · rename_i h1 h2 h3; cases h; exact ⟨h1, h2, h3⟩
  · cases h
theorem stepB_or (hcall : CallSound c.call call) (ops : Array Oper) (o : Oper) (os : List Oper) {rest : Mpl → Nat → Box (Ctx → Env → FT → FH → RC)} (hrest : ∀ mp n E T H a, FInv L mp n E T a → H.OK → RegSim P L call ops os a H ((rest mp n).run c E T H))
    {mp : Mpl} {n : Nat} {E : Env} {T : FT} {H : FH} {a : Fr} (hi : FInv L mp n E T a) (hH : H.OK) : RegSim P L call ops (o :: os) a H ((stepB P L ops mp n o rest).run c E T H) := by
  have next := fun (H : FH) (hH : H.OK) (v : Value) => nextB_or (Q := RegSim P L call ops os) (fun _ _ => .inl rfl) hrest hi hH o.dst v
  have run : Region.wanted o (yieldedA ops a) = true → RegSim P L call ops (o :: os) a H ((cOp P L mp n o.op).run c E T H fun v H' => (nextB L mp n o.dst rest).run c E T H' v) := by
    intro hw
    rcases cOp_or hcall hi hH o (fun v H' => (nextB L mp n o.dst rest).run c E T H' v) with h | ⟨v, H', h1, h2, h3⟩
    · exact .inl h
    rcases next H' h1 v with h | ⟨T', H2, a', g1, g2, g3, g4⟩
    · exact .inl (h3.trans h)
    · refine .inr ⟨T', H2, a', g1, ?_, g3, h3.trans g4⟩
      unfold evOps
      rw [if_pos hw, h2]
      exact g2
  unfold stepB
  cases hg : o.guard with
  | none => exact run (by unfold Region.wanted; rw [hg])
  | some q =>
    obtain ⟨j, want⟩ := q
    simp only
    rcases guardB_or hi ops j want ((cOp P L mp n o.op).run c E T H fun v H' => (nextB L mp n o.dst rest).run c E T H' v) ((nextB L mp n o.dst rest).run c E T H undef) with h | h
    · exact .inl h
    cases hw : (yieldedA ops a j == some want) with
    | true =>
      rw [hw] at h
      simp only [if_true] at h
      rw [h]
      exact run (by unfold Region.wanted; rw [hg]; exact hw)
    | false =>
      rw [hw] at h
      simp only [Bool.false_eq_true, if_false] at h
      rw [h]
      rcases next H hH undef with h | ⟨T', H2, a', g1, g2, g3, g4⟩
      · exact .inl h
      · refine .inr ⟨T', H2, a', g1, ?_, g3, g4⟩
        unfold evOps
        rw [if_neg (by unfold Region.wanted; rw [hg]; simp only; rw [hw]; simp)]
        exact g2
theorem regB_or (hcall : CallSound c.call call) (ops : Array Oper) : ∀ (l : List Oper) (mp : Mpl) (n : Nat) (E : Env) (T : FT) (H : FH) (a : Fr), FInv L mp n E T a → H.OK → RegSim P L call ops l a H ((regB P L ops l mp n).run c E T H) := by
  intro l
  induction l with
  | nil => intro mp n E T H a hi hH; exact .inr ⟨T, H, a, hH, rfl, hi.fr, rfl⟩
  | cons o os ih =>
    intro mp n E T H a hi hH
    have e : regB P L ops (o :: os) mp n = match moveOf o with
      | some (d, x) => match srcOf L mp x with
        | some l => bif mayAlias L d l os then regB P L ops os ((d, l) :: mp) n else stepB P L ops mp n o (regB P L ops os)
        | none => ⟨fun _ _ _ _ => RC.no⟩
      | none => stepB P L ops mp n o (regB P L ops os) := rfl
    rw [e]
    cases hm : moveOf o with
    | none => exact stepB_or hcall ops o os ih hi hH
    | some q =>
      obtain ⟨d, x⟩ := q
      simp only
      cases hs : srcOf L mp x with
      | none => exact .inl rfl
      | some l =>
        simp only
        cases ha : mayAlias L d l os with
        | false => exact stepB_or hcall ops o os ih hi hH
        | true =>
          obtain ⟨m1, m2, m3⟩ := moveOf_some hm
          have hd : L.testBit d = true := by
            unfold mayAlias at ha
            rw [Bool.and_eq_true] at ha
            exact ha.1
          rcases ih _ _ _ _ _ _ (hi.alias hd (srcOf_or hi hs)) hH with h | ⟨T', H2, a', g1, g2, g3, g4⟩
          · exact .inl h
          · refine .inr ⟨T', H2, a', g1, ?_, g3, g4⟩
            unfold evOps
            rw [if_pos (by unfold Region.wanted; rw [m2])]
            have : stepA P call a o (absH H) = some (ev a x, absH H) := by unfold stepA aexec; rw [m1]
            rw [this, m3]
            exact g2
/- regions that draw their order -/
def pdOK (P : Program) (f : FH → RC) (a : Fr) (o : Oper) (v : Value) : Prop := ∀ G, G.OK → ∀ k : RC, thenK (f G) k = RC.no ∨ (stillReads P (absH G) a o v = true ∧ thenK (f G) k = k)
inductive PdR (P : Program) : PdF → Pend → Prop
  | nil : PdR P [] []
  | cons {j : Nat} {f : FH → RC} {a : Fr} {o : Oper} {v : Value} {pd : PdF} {p : Pend} (h : pdOK P f a o v) (t : PdR P pd p) : PdR P ((j, f) :: pd) ((j, a, o, v) :: p)
theorem waitK_or {m : Nat} {H : FH} (hH : H.OK) : ∀ {pd : PdF} {p : Pend}, PdR P pd p → ∀ (k : PdF → RC), waitK m pd H k = RC.no ∨ ∃ pd', PdR P pd' (p.filter fun q => !m.testBit q.1) ∧ ((p.filter fun q => !m.testBit q.1).all fun q => stillReads P (absH H) q.2.1 q.2.2.1 q.2.2.2) = true ∧ waitK m pd H k = k pd' := by
  intro pd p h
  induction h with
  | nil => intro k; exact .inr ⟨[], .nil, rfl, rfl⟩
  | @cons j f a o v pd p h t ih =>
    intro k
    have e : waitK m ((j, f) :: pd) H k = bif Nat.testBit m j then waitK m pd H k else thenK (f H) (waitK m pd H fun l => k ((j, f) :: l)) := rfl
    rw [e]
    cases hb : Nat.testBit m j with
    | true =>
      simp only [cond_true]
      rcases ih k with h | ⟨pd', h1, h2, h3⟩
      · exact .inl h
      · exact .inr ⟨pd', by simpa [hb] using h1, by simpa [hb] using h2, h3⟩
    | false =>
      simp only [cond_false]
      rcases h H hH (waitK m pd H fun l => k ((j, f) :: l)) with h4 | ⟨h4, h5⟩
      · exact .inl h4
      rw [h5]
      rcases ih (fun l => k ((j, f) :: l)) with h | ⟨pd', h1, h2, h3⟩
      · exact .inl h
      · refine .inr ⟨(j, f) :: pd', ?_, ?_, h3⟩
        · simp only [List.filter_cons, hb, Bool.not_false, if_true]
          exact .cons h h1
        · simp only [List.filter_cons, hb, Bool.not_false, if_true, List.all_cons, h4, Bool.true_and]
          exact h2
theorem winK_or {m : Nat} {test : FH → RC} {a : Fr} {o : Oper} {v : Value} (ht : pdOK P test a o v) (k : RC) : ∀ (st : List (Option Nat × FH)), (∀ p ∈ st, p.2.OK) → winK m st test k = RC.no ∨ (((window m (st.map fun p => (p.1, absH p.2))).all fun G => stillReads P G a o v) = true ∧ winK m st test k = k) := by
  intro st
  induction st with
  | nil => intro _; exact .inr ⟨rfl, rfl⟩
  | cons p st ih =>
    intro hst
    obtain ⟨e, G⟩ := p
    have hG : G.OK := hst _ (List.mem_cons_self ..)
    have ih := ih fun p hp => hst p (List.mem_cons_of_mem _ hp)
    cases e with
    | none =>
      have e1 : winK m ((none, G) :: st) test k = thenK (test G) (winK m st test k) := rfl
      rw [e1]
      rcases ht G hG (winK m st test k) with h | ⟨h1, h2⟩
      · exact .inl h
      rcases ih with h | ⟨h3, h4⟩
      · exact .inl (h2.trans h)
      · exact .inr ⟨by simp only [List.map_cons, window, List.all_cons, h1, h3, Bool.and_self], h2.trans h4⟩
    | some e =>
      have e1 : winK m ((some e, G) :: st) test k = bif Nat.testBit m e then thenK (test G) k else thenK (test G) (winK m st test k) := rfl
      rw [e1]
      cases hb : Nat.testBit m e with
      | true =>
        simp only [cond_true]
        rcases ht G hG k with h | ⟨h1, h2⟩
        · exact .inl h
        · exact .inr ⟨by simp [window, hb, h1], h2⟩
      | false =>
        simp only [cond_false]
        rcases ht G hG (winK m st test k) with h | ⟨h1, h2⟩
        · exact .inl h
        rcases ih with h | ⟨h3, h4⟩
        · exact .inl (h2.trans h)
        · exact .inr ⟨by simp only [List.map_cons, window, hb, Bool.false_eq_true, if_false, List.all_cons, h1, h3, Bool.and_self], h2.trans h4⟩
theorem again_ok (hcall : CallSound c.call call) {mp : Mpl} {n : Nat} {E : Env} {T : FT} {a : Fr} (hi : FInv L mp n E T a) {o : Oper} (hn : ∀ G, stepA P call a o G = aexec P a o G) (v : Value) : pdOK P (againK (cOp P L mp n o.op).run c E T v) a o v := by
  intro G hG k
  unfold againK
  rcases cOp_or (P := P) hcall hi hG o (fun v' _ => bif vEq v v' then RC.ex 0 T G else RC.no) with h | ⟨v', G', h1, h2, h3⟩
  · rw [h]; exact .inl rfl
  · rw [h3]
    rw [hn] at h2
    cases hv : vEq v v' with
    | false => left; show thenK (bif vEq v v' then RC.ex 0 T G else RC.no) k = _; rw [hv]; rfl
    | true => exact .inr ⟨by simp only [stillReads, h2, hv], by show thenK (bif vEq v v' then RC.ex 0 T G else RC.no) k = _; rw [hv]; rfl⟩
def DrawSim (P : Program) (L : Nat) (call : CallF) (ops : Array Oper) (bef : Array Nat) (l : List Nat) (a : Fr) (H : FH) (st : List (Option Nat × Heap)) (p : Pend) (r : RC) : Prop :=
  r = RC.no ∨ ∃ T' H' a', H'.OK ∧ evDraw P call ops bef l a (absH H) st p = some (a', absH H') ∧ Fra L a' T' ∧ r = RC.nx T' H'
theorem nextD_or {rest : Mpl → Nat → Box DrawK} {Q : Fr → FH → List (Option Nat × FH) → PdF → RC → Prop} (hno : ∀ a H st pd, Q a H st pd RC.no) (hrest : ∀ mp n E T H a st pd, FInv L mp n E T a → H.OK → Q a H st pd ((rest mp n).run c E T H st pd))
    {mp : Mpl} {n : Nat} {E : Env} {T : FT} {H : FH} {a : Fr} (hi : FInv L mp n E T a) (hH : H.OK) (dst : Option Nat) (v : Value) (st : List (Option Nat × FH)) (pd : PdF) : Q (putA a dst v) H st pd ((nextD L mp n dst rest).run c E T H v st pd) := by
  unfold nextD
  cases dst with
  | none => exact hrest _ _ _ _ _ _ _ _ hi hH
  | some d =>
    simp only
    cases hd : L.testBit d with
    | true => exact hrest _ _ _ _ _ _ _ _ (hi.pushL hd v) hH
    | false =>
      simp only [cond_false]
      rcases putB_or d T v (fun T' => (rest ((d, .env n) :: unslot d mp) (n + 1)).run c (v :: E) T' H st pd) with h | ⟨h1, h2⟩
      · rw [h]; exact hno _ _ _ _
      · rw [h2]; exact hrest _ _ _ _ _ _ _ _ (hi.pushF h1 v) hH
theorem wantB_or {mp : Mpl} {n : Nat} {E : Env} {T : FT} {a : Fr} (hi : FInv L mp n E T a) (ops : Array Oper) (o : Oper) (y z : RC) : (wantB L mp n ops o.guard).run E T y z = RC.no ∨ (wantB L mp n ops o.guard).run E T y z = if Region.wanted o (yieldedA ops a) = true then y else z := by
  unfold wantB Region.wanted
  cases o.guard with
  | none => right; simp
  | some q => obtain ⟨j, want⟩ := q; exact guardB_or hi ops j want y z
theorem drawB_or (hcall : CallSound c.call call) (ops : Array Oper) (bef : Array Nat) : ∀ (l : List Nat) (mp : Mpl) (n : Nat) (E : Env) (T : FT) (H : FH) (a : Fr) (st : List (Option Nat × FH)) (pd : PdF), FInv L mp n E T a → H.OK → (∀ p ∈ st, p.2.OK) →
    ∀ p, PdR P pd p → DrawSim P L call ops bef l a H (st.map fun q => (q.1, absH q.2)) p ((drawB P L ops bef l mp n).run c E T H st pd) := by
  intro l
  induction l with
  | nil => intro mp n E T H a st pd hi hH _ p _; exact .inr ⟨T, H, a, hH, rfl, hi.fr, rfl⟩
  | cons j rest ih =>
    intro mp n E T H a st pd hi hH hst p hp
    have e : drawB P L ops bef (j :: rest) mp n = match ops[j]? with
      | none => ⟨fun _ _ _ _ _ _ => RC.no⟩
      | some o => fN (bef.getD j 0) fun m => match cls o.op with
        | .eff => ⟨fun c E T H st pd => (wantB L mp n ops o.guard).run E T
            ((cOp P L mp n o.op).run c E T H fun v H' => waitK m pd H' fun pd' => (nextD L mp n o.dst (drawB P L ops bef rest)).run c E T H' v ((some j, H') :: st) pd')
            ((nextD L mp n o.dst (drawB P L ops bef rest)).run c E T H undef st pd)⟩
        | .read => ⟨fun c E T H st pd => (wantB L mp n ops o.guard).run E T
            ((cOp P L mp n o.op).run c E T H fun v _ => winK m st (againK (cOp P L mp n o.op).run c E T v) ((nextD L mp n o.dst (drawB P L ops bef rest)).run c E T H v st ((j, againK (cOp P L mp n o.op).run c E T v) :: pd)))
            ((nextD L mp n o.dst (drawB P L ops bef rest)).run c E T H undef st pd)⟩
        | .pure_ => ⟨fun c E T H st pd => (wantB L mp n ops o.guard).run E T
            ((cOp P L mp n o.op).run c E T H fun v _ => (nextD L mp n o.dst (drawB P L ops bef rest)).run c E T H v st pd)
            ((nextD L mp n o.dst (drawB P L ops bef rest)).run c E T H undef st pd)⟩
        | .all_ => ⟨fun c E T H st pd => (wantB L mp n ops o.guard).run E T
            ((cOp P L mp n o.op).run c E T H fun v H' => (nextD L mp n o.dst (drawB P L ops bef rest)).run c E T H' v st pd)
            ((nextD L mp n o.dst (drawB P L ops bef rest)).run c E T H undef st pd)⟩ := rfl
    rw [e]
    clear e
    cases ho : ops[j]? with
    | none => exact .inl rfl
    | some o =>
    simp only [fN_eq]
    let m := bef.getD j 0
    have hm : bef.getD j 0 = m := rfl
    rw [hm]
    -- what follows
    let Q : Fr → FH → List (Option Nat × FH) → PdF → RC → Prop := fun a H st pd r => (∀ p ∈ st, p.2.OK) → ∀ p, PdR P pd p → DrawSim P L call ops bef rest a H (st.map fun q => (q.1, absH q.2)) p r
    have next : ∀ (H : FH), H.OK → ∀ (v : Value) (st : List (Option Nat × FH)) (pd : PdF), Q (putA a o.dst v) H st pd ((nextD L mp n o.dst (drawB P L ops bef rest)).run c E T H v st pd) :=
      fun H hH v st pd => nextD_or (Q := Q) (fun _ _ _ _ _ _ _ => .inl rfl) (fun mp n E T H a st pd hi hH hst p hp => ih mp n E T H a st pd hi hH hst p hp) hi hH o.dst v st pd
    have notCall : cls o.op ≠ .eff → ∀ G, stepA P call a o G = aexec P a o G := by
      intro h G
      unfold stepA
      split
      · rename_i ho; rw [ho] at h; simp [cls] at h
      · rfl
    have lift : ∀ (r y : RC), (r = RC.no ∨ r = if Region.wanted o (yieldedA ops a) = true then y else (nextD L mp n o.dst (drawB P L ops bef rest)).run c E T H undef st pd) →
        (Region.wanted o (yieldedA ops a) = true → DrawSim P L call ops bef (j :: rest) a H (st.map fun q => (q.1, absH q.2)) p y) → DrawSim P L call ops bef (j :: rest) a H (st.map fun q => (q.1, absH q.2)) p r := by
      intro r y hr hy
      rcases hr with h | h
      · exact .inl h
      cases hw : Region.wanted o (yieldedA ops a) with
      | true => rw [hw] at h; simp only [if_true] at h; rw [h]; exact hy hw
      | false =>
        rw [hw] at h
        simp only [Bool.false_eq_true, if_false] at h
        rw [h]
        rcases next H hH undef st pd hst p hp with h | ⟨T', H2, a', g1, g2, g3, g4⟩
        · exact .inl h
        · refine .inr ⟨T', H2, a', g1, ?_, g3, g4⟩
          unfold evDraw
          simp only [ho, hw, Bool.false_eq_true, if_false]
          exact g2
    cases hcl : cls o.op with
    | eff =>
      simp only
      refine lift _ _ (wantB_or hi ops o _ _) fun hw => ?_
      rcases cOp_or (P := P) hcall hi hH o (fun v H' => waitK m pd H' fun pd' => (nextD L mp n o.dst (drawB P L ops bef rest)).run c E T H' v ((some j, H') :: st) pd') with h | ⟨v, H', h1, h2, h3⟩
      · exact .inl h
      rcases waitK_or (m := m) h1 hp (fun pd' => (nextD L mp n o.dst (drawB P L ops bef rest)).run c E T H' v ((some j, H') :: st) pd') with h | ⟨pd', w1, w2, w3⟩
      · exact .inl (h3.trans h)
      rcases next H' h1 v ((some j, H') :: st) pd' (by intro q hq; rcases List.mem_cons.1 hq with rfl | hq; exact h1; exact hst q hq) _ w1 with h | ⟨T', H2, a', g1, g2, g3, g4⟩
      · exact .inl ((h3.trans w3).trans h)
      · refine .inr ⟨T', H2, a', g1, ?_, g3, (h3.trans w3).trans g4⟩
        unfold evDraw
        simp only [ho, hw, if_true, hcl, h2, hm, w2]
        exact g2
    | all_ =>
      simp only
      refine lift _ _ (wantB_or hi ops o _ _) fun hw => ?_
      rcases cOp_or (P := P) hcall hi hH o (fun v H' => (nextD L mp n o.dst (drawB P L ops bef rest)).run c E T H' v st pd) with h | ⟨v, H', h1, h2, h3⟩
      · exact .inl h
      rw [notCall (by rw [hcl]; intro h; cases h)] at h2
      rcases next H' h1 v st pd hst p hp with h | ⟨T', H2, a', g1, g2, g3, g4⟩
      · exact .inl (h3.trans h)
      · refine .inr ⟨T', H2, a', g1, ?_, g3, h3.trans g4⟩
        unfold evDraw
        simp only [ho, hw, if_true, hcl, h2]
        exact g2
    | pure_ =>
      simp only
      refine lift _ _ (wantB_or hi ops o _ _) fun hw => ?_
      rcases cOp_or (P := P) hcall hi hH o (fun v _ => (nextD L mp n o.dst (drawB P L ops bef rest)).run c E T H v st pd) with h | ⟨v, H', h1, h2, h3⟩
      · exact .inl h
      rw [notCall (by rw [hcl]; intro h; cases h)] at h2
      rcases next H hH v st pd hst p hp with h | ⟨T', H2, a', g1, g2, g3, g4⟩
      · exact .inl (h3.trans h)
      · refine .inr ⟨T', H2, a', g1, ?_, g3, h3.trans g4⟩
        unfold evDraw
        simp only [ho, hw, if_true, hcl, h2]
        exact g2
    | read =>
      simp only
      refine lift _ _ (wantB_or hi ops o _ _) fun hw => ?_
      have hnc := notCall (by rw [hcl]; intro h; cases h)
      rcases cOp_or (P := P) hcall hi hH o (fun v _ => winK m st (againK (cOp P L mp n o.op).run c E T v) ((nextD L mp n o.dst (drawB P L ops bef rest)).run c E T H v st ((j, againK (cOp P L mp n o.op).run c E T v) :: pd))) with h | ⟨v, H', h1, h2, h3⟩
      · exact .inl h
      rw [hnc] at h2
      have hag := again_ok (P := P) hcall hi hnc v
      rcases winK_or (m := m) hag ((nextD L mp n o.dst (drawB P L ops bef rest)).run c E T H v st ((j, againK (cOp P L mp n o.op).run c E T v) :: pd)) st hst with h | ⟨w1, w2⟩
      · exact .inl (h3.trans h)
      rcases next H hH v st ((j, againK (cOp P L mp n o.op).run c E T v) :: pd) hst _ (.cons hag hp) with h | ⟨T', H2, a', g1, g2, g3, g4⟩
      · exact .inl ((h3.trans w2).trans h)
      · refine .inr ⟨T', H2, a', g1, ?_, g3, (h3.trans w2).trans g4⟩
        unfold evDraw
        simp only [ho, hw, if_true, hcl, h2, hm, w1]
        exact g2
/-- Without a reader the order of the text is the draw's. -/
theorem draw_plain (ops : Array Oper) (bef : Array Nat) (hr : noRead ops = true) : ∀ (l : List Nat) (a : Fr) (H : Heap) (st : List (Option Nat × Heap)), (∀ j ∈ l, j < ops.size) → ∀ r, evOps P call ops (l.map fun j => ops.getD j default) a H = some r → evDraw P call ops bef l a H st [] = some r := by
  intro l
  induction l with
  | nil => intro a H st _ r h; exact h
  | cons j rest ih =>
    intro a H st hl r h
    have hj : j < ops.size := hl j (List.mem_cons_self ..)
    have ih := fun a H st r h => ih a H st (fun j hj => hl j (List.mem_cons_of_mem _ hj)) r h
    have hget : ops[j]? = some (ops.getD j default) := by simp [hj]
    have hnr : cls (ops.getD j default).op ≠ .read := by
      have := List.all_eq_true.1 hr (ops.getD j default) (by simp [hj])
      intro e
      rw [e] at this
      simp at this
    generalize ops.getD j default = o at hget hnr h
    simp only [List.map_cons] at h
    have h : evOps P call ops (o :: rest.map fun j => ops.getD j default) a H = some r := by
      have e : ops.getD j default = o := by
        have := hget
        simp [hj] at this
        simp [hj, this]
      rw [← e]
      simpa only [e] using h
    unfold evOps at h
    unfold evDraw
    rw [hget]
    simp only
    cases hw : Region.wanted o (yieldedA ops a) with
    | false =>
      rw [hw] at h
      simp only [Bool.false_eq_true, if_false] at h ⊢
      exact ih _ _ _ _ h
    | true =>
      rw [hw] at h
      simp only [if_true] at h ⊢
      cases hs : stepA P call a o H with
      | none => rw [hs] at h; cases h
      | some q =>
        obtain ⟨v, H'⟩ := q
        rw [hs] at h
        simp only at h
        have notCall : cls o.op ≠ .eff → stepA P call a o H = aexec P a o H := by
          intro h
          unfold stepA
          split
          · rename_i ho; rw [ho] at h; simp [cls] at h
          · rfl
        cases hcl : cls o.op with
        | eff => simp only [List.filter_nil, List.all_nil, if_true]; exact ih _ _ _ _ h
        | all_ =>
          rw [notCall (by rw [hcl]; intro h; cases h)] at hs
          simp only [hs]
          exact ih _ _ _ _ h
        | read => exact absurd hcl hnr
        | pure_ =>
          rw [notCall (by rw [hcl]; intro h; cases h)] at hs
          simp only [hs]
          have hsame : H' = H := (aexec_pure hcl hs).1
          rw [hsame] at h
          exact ih _ _ _ _ h
end
end Go.Abs
