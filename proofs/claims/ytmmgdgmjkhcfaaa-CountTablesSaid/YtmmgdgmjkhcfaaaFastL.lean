/- The fast evaluator: one operation, a region in the order of the text. -/
import Derived.Test.YtmmgdgmjkhcfaaaFastK
namespace Go.Abs
/-- The calls of the fast evaluator are answered as the abstract one's. -/
def CallSound (cf : CallFF) (call : CallF) : Prop := ∀ fv args H v H', H.OK → cf fv args H = .val v H' → H'.OK ∧ call fv args (absH H) = some (v, absH H')
theorem ptrsK_or : ∀ (l : List Value) (k : RC), ptrsK l k = RC.no ∨ (l.all isPtr = true ∧ ptrsK l k = k) := by
  intro l
  induction l with
  | nil => intro k; exact .inr ⟨rfl, rfl⟩
  | cons v vs ih =>
    intro k
    have e : ptrsK (v :: vs) k = ptrK v fun _ _ => ptrsK vs k := rfl
    rw [e]
    rcases ptrK_or v (fun _ _ => ptrsK vs k) with h | ⟨b, o, rfl, h⟩
    · exact .inl h
    rw [h]
    rcases ih k with h | ⟨h1, h2⟩
    · exact .inl h
    · exact .inr ⟨by simp [isPtr, h1], h2⟩
theorem two_list {vs : List Value} (f : Value → Value → RC) :
    (List.rec RC.no (fun x r _ => List.rec RC.no (fun y r _ => List.rec (f x y) (fun _ _ _ => RC.no) r) r) vs : RC) = RC.no ∨
      ∃ x y, vs = [x, y] ∧ (List.rec RC.no (fun x r _ => List.rec RC.no (fun y r _ => List.rec (f x y) (fun _ _ _ => RC.no) r) r) vs : RC) = f x y := by
  cases vs with
  | nil => exact .inl rfl
  | cons x r => cases r with
    | nil => exact .inl rfl
    | cons y r => cases r with
      | nil => exact .inr ⟨x, y, rfl, rfl⟩
      | cons => exact .inl rfl
section
variable {P : Program} {H : FH} {L : Nat} {mp : Mpl} {n : Nat} {E : Env} {T : FT} {a : Fr} {c : Ctx} {call : CallF}
theorem builtB_or (hH : H.OK) {o : Oper} {b : Builtin} {args : Array Operand} {ts : Array TypeId} (ho : o.op = .call ⟨.builtin b, args, ts⟩) (k : Value → FH → RC) :
    (builtB P b ts.toList).run (args.toList.map (ev a)) H k = RC.no ∨ ∃ v H', H'.OK ∧ builtinA P a o b (args.toList.map (ev a)) ts.toList (absH H) = some (v, absH H') ∧ (builtB P b ts.toList).run (args.toList.map (ev a)) H k = k v H' := by
  unfold builtB
  split
  · rename_i t hts
    rw [hts]
    generalize args.toList.map (ev a) = vs
    cases vs with
    | nil => exact .inl rfl
    | cons x r => cases r with
      | cons => exact .inl rfl
      | nil =>
        rcases lenB_or (P := P) t x (fun v => k v H) with h | ⟨v, h1, h2⟩
        · exact .inl h
        · exact .inr ⟨v, H, hH, by simp only [builtinA, h1, Option.map_some], h2⟩
  · rename_i t t' hts
    rw [hts]
    generalize args.toList.map (ev a) = vs
    cases htt : Nat.beq t t' with
    | true =>
      have htt := Nat.eq_of_beq_eq_true htt
      simp only [cond_true]
      rcases two_list (vs := vs) (fun x y => (appB P t).run x y H k) with h | ⟨x, y, rfl, h⟩
      · exact .inl h
      rcases appB_or (P := P) hH t x y k with e | ⟨v, H', e1, e2, e3⟩
      · exact .inl (h.trans e)
      · exact .inr ⟨v, H', e1, by simp only [builtinA, htt, if_true]; rw [← htt]; exact e2, h.trans e3⟩
    | false =>
      have htt := Nat.ne_of_beq_eq_false htt
      simp only [cond_false]
      rcases two_list (vs := vs) (fun x y => (appIntB P t t').run x y H k) with h | ⟨x, y, rfl, h⟩
      · exact .inl h
      rcases appIntB_or (P := P) hH t t' x y k with e | ⟨v, H', e1, e2, e3⟩
      · exact .inl (h.trans e)
      · exact .inr ⟨v, H', e1, by simp only [builtinA]; rw [if_neg htt]; exact e2, h.trans e3⟩
  · rename_i t t' hts
    rw [hts]
    generalize args.toList.map (ev a) = vs
    rcases two_list (vs := vs) (fun x y => (copyB P t).run x y H k) with h | ⟨x, y, rfl, h⟩
    · exact .inl h
    rcases copyB_or (P := P) hH t x y k with e | ⟨v, H', e1, e2, e3⟩
    · exact .inl (h.trans e)
    · exact .inr ⟨v, H', e1, by simp only [builtinA]; exact e2, h.trans e3⟩
  · rename_i t hts
    rw [hts]
    simp only
    split
    · rename_i hvs
      split
      · rename_i q hq
        exact .inr ⟨_, H, hH, by rw [hvs]; simp only [builtinA, hq, Option.map_some]; rfl, rfl⟩
      · exact .inl rfl
    · exact .inl rfl
  · rename_i t t' hts
    rw [hts]
    rcases two_list (vs := args.toList.map (ev a)) (fun x y => intK x fun p => intK y fun q => bif bltZ q p then k y H else k x H) with h | ⟨x, y, hvs, h⟩
    · exact .inl h
    rcases intK_or x (fun p => intK y fun q => bif bltZ q p then k y H else k x H) with e | ⟨p, rfl, e⟩
    · exact .inl (h.trans e)
    have h := h.trans e
    rcases intK_or y (fun q => bif bltZ q p then k y H else k (.int .i64 p) H) with e | ⟨q, rfl, e⟩
    · exact .inl (h.trans e)
    have h := h.trans e
    have hp := minmax_exec (P := P) (a := a) .min (.inl rfl) ho hvs
    simp only [if_true] at hp
    refine .inr ⟨.int .i64 (if q < p then q else p), H, hH, by rw [hvs]; simp only [builtinA, hp, Option.map_some], ?_⟩
    refine h.trans ?_
    rw [bltZ_eq]
    by_cases hlt : q < p <;> simp [hlt]
  · rename_i t t' hts
    rw [hts]
    rcases two_list (vs := args.toList.map (ev a)) (fun x y => intK x fun p => intK y fun q => bif bltZ p q then k y H else k x H) with h | ⟨x, y, hvs, h⟩
    · exact .inl h
    rcases intK_or x (fun p => intK y fun q => bif bltZ p q then k y H else k x H) with e | ⟨p, rfl, e⟩
    · exact .inl (h.trans e)
    have h := h.trans e
    rcases intK_or y (fun q => bif bltZ p q then k y H else k (.int .i64 p) H) with e | ⟨q, rfl, e⟩
    · exact .inl (h.trans e)
    have h := h.trans e
    have hp := minmax_exec (P := P) (a := a) .max (.inr rfl) ho hvs
    simp only [reduceCtorEq, if_false] at hp
    refine .inr ⟨.int .i64 (if p < q then q else p), H, hH, by rw [hvs]; simp only [builtinA, hp, Option.map_some], ?_⟩
    refine h.trans ?_
    rw [bltZ_eq]
    by_cases hlt : p < q <;> simp [hlt]
  · exact .inl rfl
/-- What an operation does: no answer, or the abstract one's. -/
def OpSim (P : Program) (call : CallF) (a : Fr) (o : Oper) (H : FH) (r : RC) (k : Value → FH → RC) : Prop := r = RC.no ∨ ∃ v H', H'.OK ∧ stepA P call a o (absH H) = some (v, absH H') ∧ r = k v H'
theorem OpSim.of_pure {o : Oper} {r r' : RC} {k : Value → FH → RC} (hH : H.OK) (he : r = r') (hn : ∀ G, stepA P call a o G = aexec P a o G) (h : r' = RC.no ∨ ∃ v, aexec P a o (absH H) = some (v, absH H) ∧ r' = k v H) : OpSim P call a o H r k := by
  subst he
  rcases h with h | ⟨v, h1, h2⟩
  · exact .inl h
  · exact .inr ⟨v, H, hH, by rw [hn]; exact h1, h2⟩
theorem OpSim.of_heap {o : Oper} {r r' : RC} {k : Value → FH → RC} (he : r = r') (hn : ∀ G, stepA P call a o G = aexec P a o G) (h : r' = RC.no ∨ ∃ v H', H'.OK ∧ aexec P a o (absH H) = some (v, absH H') ∧ r' = k v H') : OpSim P call a o H r k := by
  subst he
  rcases h with h | ⟨v, H', h0, h1, h2⟩
  · exact .inl h
  · exact .inr ⟨v, H', h0, by rw [hn]; exact h1, h2⟩
theorem cOp_or (hcall : CallSound c.call call) (hi : FInv L mp n E T a) (hH : H.OK) (o : Oper) (k : Value → FH → RC) : OpSim P call a o H ((cOp P L mp n o.op).run c E T H k) k := by
  unfold cOp
  have hn : (∀ f args ts, o.op ≠ .call ⟨.value f, args, ts⟩) → ∀ G, stepA P call a o G = aexec P a o G := by
    intro h G
    unfold stepA
    split
    · rename_i f args ts ho; exact absurd ho (h f args ts)
    · rfl
  split
  · -- a call of a function value
    rename_i f args ts ho
    simp only
    rcases opB_or hi f (fun fv => (opsB L mp n args.toList).run E T fun vs => RC.rec (fun _ _ => RC.no) (fun _ _ _ => RC.no) (fun _ _ => RC.no) (fun v H' => k v H') RC.no RC.no (c.call fv vs H)) with h | h
    · exact .inl h
    rcases opsB_or hi args.toList (fun vs => RC.rec (fun _ _ => RC.no) (fun _ _ _ => RC.no) (fun _ _ => RC.no) (fun v H' => k v H') RC.no RC.no (c.call (ev a f) vs H)) with h2 | h2
    · exact .inl (h.trans h2)
    have h := h.trans h2
    cases hr : c.call (ev a f) (args.toList.map (ev a)) H with
    | val v H' =>
      obtain ⟨e1, e2⟩ := hcall _ _ _ _ _ hH hr
      refine .inr ⟨v, H', e1, ?_, h.trans (by rw [hr])⟩
      unfold stepA
      rw [ho]
      exact e2
    | _ => exact .inl (h.trans (by rw [hr]))
  · rename_i x ho
    rcases opB_or hi x (fun v => k v H) with h | h
    · exact .inl h
    · exact .of_pure hH h (hn (by rw [ho]; intro _ _ _ e; cases e)) (.inr ⟨_, by unfold aexec; rw [ho], rfl⟩)
  · rename_i x ho
    rcases opB_or hi x (fun v => k v H) with h | h
    · exact .inl h
    · exact .of_pure hH h (hn (by rw [ho]; intro _ _ _ e; cases e)) (.inr ⟨_, by unfold aexec; rw [ho], rfl⟩)
  · rename_i q x y ho
    rcases opB_or hi q (fun v => boolK v fun b => Bool.rec ((opB L mp n y).run E T fun v => k v H) ((opB L mp n x).run E T fun v => k v H) b) with h | h
    · exact .inl h
    rcases boolK_or (ev a q) (fun b => Bool.rec ((opB L mp n y).run E T fun v => k v H) ((opB L mp n x).run E T fun v => k v H) b) with h2 | ⟨b, hb, h2⟩
    · exact .inl (h.trans h2)
    have h := h.trans h2
    cases b with
    | true =>
      rcases opB_or hi x (fun v => k v H) with h3 | h3
      · exact .inl (h.trans h3)
      · exact .of_pure hH (h.trans h3) (hn (by rw [ho]; intro _ _ _ e; cases e)) (.inr ⟨_, by unfold aexec; rw [ho]; simp only [hb, if_true], rfl⟩)
    | false =>
      rcases opB_or hi y (fun v => k v H) with h3 | h3
      · exact .inl (h.trans h3)
      · exact .of_pure hH (h.trans h3) (hn (by rw [ho]; intro _ _ _ e; cases e)) (.inr ⟨_, by unfold aexec; rw [ho]; simp only [hb, Bool.false_eq_true, if_false], rfl⟩)
  · rename_i op t x y t' ho
    rcases opB_or hi x (fun u => (opB L mp n y).run E T fun b => (binB P op t t').run u b H fun v => k v H) with h | h
    · exact .inl h
    rcases opB_or hi y (fun b => (binB P op t t').run (ev a x) b H fun v => k v H) with h2 | h2
    · exact .inl (h.trans h2)
    exact .of_pure hH (h.trans h2) (hn (by rw [ho]; intro _ _ _ e; cases e)) (binB_or (H := H) ho (fun v => k v H))
  · rename_i op t x ho
    rcases opB_or hi x (fun u => slowK P (.unOp op t (.const u)) H fun v => k v H) with h | h
    · exact .inl h
    exact .of_pure hH h (hn (by rw [ho]; intro _ _ _ e; cases e)) (slowK_or (fun v => k v H) (un_same ho) (un_heap ho))
  · rename_i t x i ho
    rcases opB_or hi x (fun u => (opB L mp n i).run E T fun b => slowK P (.index t (.const u) (.const b)) H fun v => k v H) with h | h
    · exact .inl h
    rcases opB_or hi i (fun b => slowK P (.index t (.const (ev a x)) (.const b)) H fun v => k v H) with h2 | h2
    · exact .inl (h.trans h2)
    exact .of_pure hH (h.trans h2) (hn (by rw [ho]; intro _ _ _ e; cases e)) (slowK_or (fun v => k v H) (idx_same ho) (idx_heap ho))
  · rename_i s d x ho
    rcases opB_or hi x (fun u => (convB P s d).run u H fun v => k v H) with h | h
    · exact .inl h
    exact .of_pure hH h (hn (by rw [ho]; intro _ _ _ e; cases e)) (convB_or (H := H) ho (fun v => k v H))
  · rename_i t x ho
    rcases opB_or hi x (fun p => (loadB P t).run p H fun v => k v H) with h | h
    · exact .inl h
    rcases loadB_or (P := P) (H := H) t (ev a x) (fun v => k v H) with h2 | ⟨v, h1, h2⟩
    · exact .inl (h.trans h2)
    · exact .of_pure hH (h.trans h2) (hn (by rw [ho]; intro _ _ _ e; cases e)) (.inr ⟨v, by unfold aexec; rw [ho]; simp only [h1, Option.map_some], rfl⟩)
  · rename_i t x y ho
    rcases opB_or hi x (fun p => (opB L mp n y).run E T fun v => (storeB P t).run p v H fun H' => k undef H') with h | h
    · exact .inl h
    rcases opB_or hi y (fun v => (storeB P t).run (ev a x) v H fun H' => k undef H') with h2 | h2
    · exact .inl (h.trans h2)
    rcases storeB_or (P := P) hH t (ev a x) (ev a y) (fun H' => k undef H') with h3 | ⟨H', h3, h4, h5⟩
    · exact .inl ((h.trans h2).trans h3)
    · exact .of_heap ((h.trans h2).trans h5) (hn (by rw [ho]; intro _ _ _ e; cases e)) (.inr ⟨undef, H', h3, by unfold aexec; rw [ho]; simp only [h4, Option.map_some], rfl⟩)
  · rename_i t x i ho
    rcases opB_or hi x (fun x => (opB L mp n i).run E T fun i => (indexB P t).run x i fun v => k v H) with h | h
    · exact .inl h
    rcases opB_or hi i (fun i => (indexB P t).run (ev a x) i fun v => k v H) with h2 | h2
    · exact .inl (h.trans h2)
    rcases indexB_or (P := P) t (ev a x) (ev a i) (fun v => k v H) with h3 | ⟨v, h3, h4⟩
    · exact .inl ((h.trans h2).trans h3)
    · exact .of_pure hH ((h.trans h2).trans h4) (hn (by rw [ho]; intro _ _ _ e; cases e)) (.inr ⟨v, by unfold aexec; rw [ho]; simp only [h3, Option.map_some], rfl⟩)
  · rename_i t x i ho
    rcases opB_or hi x (fun p => (fieldAddrB P t i).run p fun v => k v H) with h | h
    · exact .inl h
    rcases fieldAddrB_or (P := P) t i (ev a x) (fun v => k v H) with h3 | ⟨v, h3, h4⟩
    · exact .inl (h.trans h3)
    · exact .of_pure hH (h.trans h4) (hn (by rw [ho]; intro _ _ _ e; cases e)) (.inr ⟨v, by unfold aexec; rw [ho]; simp only [h3, Option.map_some], rfl⟩)
  · rename_i t x i ho
    rcases opB_or hi x (fun p => (fieldB P t i).run p fun v => k v H) with h | h
    · exact .inl h
    rcases fieldB_or (P := P) t i (ev a x) (fun v => k v H) with h3 | ⟨v, h3, h4⟩
    · exact .inl (h.trans h3)
    · exact .of_pure hH (h.trans h4) (hn (by rw [ho]; intro _ _ _ e; cases e)) (.inr ⟨v, by unfold aexec; rw [ho]; simp only [h3, Option.map_some], rfl⟩)
  · rename_i x i ho
    simp only [fN_eq]
    rcases opB_or hi x (fun v => tupK v fun l => (egB i).run l fun v => k v H) with h | h
    · exact .inl h
    rcases tupK_or (ev a x) (fun l => (egB i).run l fun v => k v H) with h2 | ⟨cs, hx, h2⟩
    · exact .inl (h.trans h2)
    rcases egB_or i cs.toList (fun v => k v H) with h3 | ⟨v, h3, h4⟩
    · exact .inl ((h.trans h2).trans h3)
    · exact .of_pure hH ((h.trans h2).trans h4) (hn (by rw [ho]; intro _ _ _ e; cases e)) (.inr ⟨v, by unfold aexec; rw [ho]; simp only [hx]; rw [← Array.getElem?_toList, h3]; rfl, rfl⟩)
  · rename_i x ho
    rcases opB_or hi x (fun v => ptrK v fun _ _ => k v H) with h | h
    · exact .inl h
    rcases ptrK_or (ev a x) (fun _ _ => k (ev a x) H) with h2 | ⟨b, q, hx, h2⟩
    · exact .inl (h.trans h2)
    · exact .of_pure hH (h.trans h2) (hn (by rw [ho]; intro _ _ _ e; cases e)) (.inr ⟨_, by unfold aexec; rw [ho]; simp only [hx, isPtr, if_true], rfl⟩)
  · rename_i t ho
    split
    case h_2 => exact .inl rfl
    rename_i z hz
    split
    case h_2 => exact .inl rfl
    rename_i cs hs
    simp only [fSs_eq, fN_eq]
    rcases newK_or hH cs cs.length rfl (fun i H' => k (.pointer (some ⟨i, 0, none⟩)) H') with h | ⟨H', _, h1, h2, h3⟩
    · exact .inl h
    · exact .of_heap h3 (hn (by rw [ho]; intro _ _ _ e; cases e)) (.inr ⟨_, H', h1, by unfold aexec; rw [ho]; simp only [hz, hs, h2]; rfl, rfl⟩)
  · rename_i t x ho
    rcases opB_or hi x (fun v => scalK v fun cs => fN cs.length fun m => newK H cs m fun i H' => k (.pointer (some ⟨i, 0, none⟩)) H') with h | h
    · exact .inl h
    rcases scalK_or (ev a x) (fun cs => fN cs.length fun m => newK H cs m fun i H' => k (.pointer (some ⟨i, 0, none⟩)) H') with h2 | ⟨cs, hs, h2⟩
    · exact .inl (h.trans h2)
    rw [fN_eq] at h2
    rcases newK_or hH cs cs.length rfl (fun i H' => k (.pointer (some ⟨i, 0, none⟩)) H') with h3 | ⟨H', _, h3, h4, h5⟩
    · exact .inl ((h.trans h2).trans h3)
    · exact .of_heap ((h.trans h2).trans h5) (hn (by rw [ho]; intro _ _ _ e; cases e)) (.inr ⟨_, H', h3, by unfold aexec; rw [ho]; simp only [hs, h4]; rfl, rfl⟩)
  · rename_i t parts ho
    rcases opsB_or hi (parts.toList.map (·.2)) (fun vs => (buildB P t (parts.toList.map (·.1))).run vs fun v => k v H) with h | h
    · exact .inl h
    rcases buildB_or (P := P) t (parts.toList.map (·.1)) ((parts.toList.map (·.2)).map (ev a)) (by simp) (fun v => k v H) with h2 | ⟨v, h2, h3⟩
    · exact .inl (h.trans h2)
    · rw [zip_parts] at h2
      exact .of_pure hH (h.trans h3) (hn (by rw [ho]; intro _ _ _ e; cases e)) (.inr ⟨v, by unfold aexec; rw [ho]; simp only [h2, Option.map_some], rfl⟩)
  · rename_i t len parts ho
    rcases opsB_or hi (parts.toList.map (·.2)) (fun vs => (buildSliceB P t len (parts.toList.map (·.1))).run vs H k) with h | h
    · exact .inl h
    rcases buildSliceB_or (P := P) hH t len (parts.toList.map (·.1)) ((parts.toList.map (·.2)).map (ev a)) (by simp) k with h2 | ⟨v, H', h1, h2, h3⟩
    · exact .inl (h.trans h2)
    · rw [zip_parts] at h2
      exact .of_heap (h.trans h3) (hn (by rw [ho]; intro _ _ _ e; cases e)) (.inr ⟨v, H', h1, by unfold aexec; rw [ho]; exact h2, rfl⟩)
  · rename_i f first captured ho
    cases hf : first.isEmpty with
    | false => exact .inl rfl
    | true =>
      simp only [cond_true]
      rcases opsB_or hi captured.toList (fun vs => ptrsK vs (k (.func (.func f) #[] ⟨vs⟩) H)) with h | h
      · exact .inl h
      rcases ptrsK_or (captured.toList.map (ev a)) (k (.func (.func f) #[] ⟨captured.toList.map (ev a)⟩) H) with h2 | ⟨h1, h2⟩
      · exact .inl (h.trans h2)
      · refine .of_pure hH (h.trans h2) (hn (by rw [ho]; intro _ _ _ e; cases e)) (.inr ⟨_, ?_, rfl⟩)
        unfold aexec
        rw [ho]
        simp only [hf, h1, Bool.and_self, if_true]
        congr 2
        congr 1
        apply Array.toList_inj.1
        simp
  · rename_i t r ho
    rcases makeMapB_or (P := P) hH t r k (a := a) ho with h | ⟨v, H', h1, h2, h3⟩
    · exact .inl h
    · exact .of_heap h3 (hn (by rw [ho]; intro _ _ _ e; cases e)) (.inr ⟨v, H', h1, h2, rfl⟩)
  · rename_i t l q ho
    rcases opB_or hi l (fun l => (opB L mp n q).run E T fun c => (makeSliceB P t).run l c H k) with h | h
    · exact .inl h
    rcases opB_or hi q (fun c => (makeSliceB P t).run (ev a l) c H k) with h2 | h2
    · exact .inl (h.trans h2)
    rcases makeSliceB_or (P := P) hH t (ev a l) (ev a q) k ho rfl rfl with h3 | ⟨v, H', h3, h4, h5⟩
    · exact .inl ((h.trans h2).trans h3)
    · exact .of_heap ((h.trans h2).trans h5) (hn (by rw [ho]; intro _ _ _ e; cases e)) (.inr ⟨v, H', h3, h4, rfl⟩)
  · rename_i t x lo hi' mx ho
    cases hm : mx.isSome with
    | true => exact .inl rfl
    | false =>
      simp only [cond_false]
      rcases opB_or hi x (fun x => (opB L mp n (lo.getD (.const undef))).run E T fun l => (opB L mp n (hi'.getD (.const undef))).run E T fun h => (sliceB P t lo.isSome hi'.isSome).run x l h fun v => k v H) with h | h
      · exact .inl h
      rcases opB_or hi (lo.getD (.const undef)) (fun l => (opB L mp n (hi'.getD (.const undef))).run E T fun h => (sliceB P t lo.isSome hi'.isSome).run (ev a x) l h fun v => k v H) with h2 | h2
      · exact .inl (h.trans h2)
      rcases opB_or hi (hi'.getD (.const undef)) (fun h => (sliceB P t lo.isSome hi'.isSome).run (ev a x) (ev a (lo.getD (.const undef))) h fun v => k v H) with h3 | h3
      · exact .inl ((h.trans h2).trans h3)
      have h := (h.trans h2).trans h3
      have e1 : (bif lo.isSome then some (ev a (lo.getD (.const undef))) else none) = lo.map (ev a) := by cases lo <;> rfl
      have e2 : (bif hi'.isSome then some (ev a (hi'.getD (.const undef))) else none) = hi'.map (ev a) := by cases hi' <;> rfl
      have e3 : (sliceB P t lo.isSome hi'.isSome).run (ev a x) (ev a (lo.getD (.const undef))) (ev a (hi'.getD (.const undef))) (fun v => k v H) = match sliceExprA P t (ev a x) (lo.map (ev a)) (hi'.map (ev a)) with
          | some v => fV v fun v => k v H
          | none => RC.no := by rw [← e1, ← e2]; rfl
      rw [e3] at h
      cases hs : sliceExprA P t (ev a x) (lo.map (ev a)) (hi'.map (ev a)) with
      | none => rw [hs] at h; exact .inl h
      | some v =>
        rw [hs] at h
        simp only [fV_eq] at h
        exact .of_pure hH h (hn (by rw [ho]; intro _ _ _ e; cases e)) (.inr ⟨v, by unfold aexec; rw [ho]; simp only [hm, hs, Bool.false_eq_true, if_false, Option.map_some], rfl⟩)
  · rename_i t x i ok ho
    rcases opB_or hi x (fun x => (opB L mp n i).run E T fun i => (lookupB P t ok).run x i H fun v => k v H) with h | h
    · exact .inl h
    rcases opB_or hi i (fun i => (lookupB P t ok).run (ev a x) i H fun v => k v H) with h2 | h2
    · exact .inl (h.trans h2)
    rcases lookupB_or (P := P) hH t ok (ev a x) (ev a i) (fun v => k v H) with h3 | ⟨v, h3, h4⟩
    · exact .inl ((h.trans h2).trans h3)
    · exact .of_pure hH ((h.trans h2).trans h4) (hn (by rw [ho]; intro _ _ _ e; cases e)) (.inr ⟨v, by unfold aexec; rw [ho]; simp only [h3, Option.map_some], rfl⟩)
  · rename_i t x i y ho
    rcases opB_or hi x (fun x => (opB L mp n i).run E T fun i => (opB L mp n y).run E T fun v => (updateB P t).run x i v H fun H' => k undef H') with h | h
    · exact .inl h
    rcases opB_or hi i (fun i => (opB L mp n y).run E T fun v => (updateB P t).run (ev a x) i v H fun H' => k undef H') with h2 | h2
    · exact .inl (h.trans h2)
    rcases opB_or hi y (fun v => (updateB P t).run (ev a x) (ev a i) v H fun H' => k undef H') with h3 | h3
    · exact .inl ((h.trans h2).trans h3)
    rcases updateB_or (P := P) hH t (ev a x) (ev a i) (ev a y) (fun H' => k undef H') with h4 | ⟨H', h4, h5, h6⟩
    · exact .inl (((h.trans h2).trans h3).trans h4)
    · exact .of_heap (((h.trans h2).trans h3).trans h6) (hn (by rw [ho]; intro _ _ _ e; cases e)) (.inr ⟨undef, H', h4, by unfold aexec; rw [ho]; simp only [h5, Option.map_some], rfl⟩)
  · rename_i b args ts ho
    rcases opsB_or hi args.toList (fun vs => (builtB P b ts.toList).run vs H k) with h | h
    · exact .inl h
    exact .of_heap h (hn (by rw [ho]; intro _ _ _ e; cases e)) (by
      rcases builtB_or (P := P) (a := a) hH ho k with h2 | ⟨v, H', h2, h3, h4⟩
      · exact .inl h2
      · exact .inr ⟨v, H', h2, by unfold aexec; rw [ho]; exact h3, h4⟩)
  · exact .inl rfl
end
end Go.Abs
