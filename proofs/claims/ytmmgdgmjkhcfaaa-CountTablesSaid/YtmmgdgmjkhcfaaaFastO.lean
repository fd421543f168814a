/- The fast evaluator: functions, rounds, the whole. -/
import Derived.Test.YtmmgdgmjkhcfaaaFastN
namespace Go.Abs
theorem blank_get (t : Nat) : T2.get blank t = undef := by
  unfold T2.get blank TR.get
  simp only [Dn.get_rep]
  split <;> rfl
theorem sets_get : ∀ (vs : List Value) (T : FT) (o t : Nat), o + vs.length ≤ 262144 → t < 262144 → T2.get (sets vs T o) t = if o ≤ t ∧ t < o + vs.length then vs.getD (t - o) undef else T2.get T t := by
  intro vs
  induction vs with
  | nil => intro T o t _ _; rw [if_neg (by simp only [List.length_nil]; omega)]; rfl
  | cons v vs ih =>
    intro T o t h ht
    simp only [List.length_cons] at h
    show T2.get (sets vs (T2.set T o v) (o + 1)) t = _
    rw [ih _ _ _ (by omega) ht]
    by_cases h1 : o + 1 ≤ t ∧ t < o + 1 + vs.length
    · rw [if_pos h1, if_pos (by simp only [List.length_cons]; omega)]
      obtain ⟨j, rfl⟩ : ∃ j, t = o + 1 + j := ⟨t - (o + 1), by omega⟩
      rw [show o + 1 + j - (o + 1) = j by omega, show o + 1 + j - o = j + 1 by omega]
      rfl
    · rw [if_neg h1, T2.get_set _ _ (by omega) ht]
      by_cases h2 : t = o
      · subst h2
        rw [if_pos rfl, if_pos (by simp only [List.length_cons]; omega), Nat.sub_self]
        rfl
      · rw [if_neg h2, if_neg (by simp only [List.length_cons]; omega)]
theorem argsK_eq (args : List Value) (k : FT → RC) : argsK args k = k (ofL args) := by
  have aux : ∀ (args : List Value) (i : Nat) (T : FT), (List.rec (motive := fun _ => Nat → FT → RC) (fun _ T => k T) (fun v _ ih i T => (s2B i).run T v fun T => fN (Nat.add i 1) fun i => ih i T) args i T : RC) = k (sets args T i) := by
    intro args
    induction args with
    | nil => intro i T; rfl
    | cons v vs ih =>
      intro i T
      refine (s2B_eq i T v _).trans ?_
      exact ih (i + 1) (T2.set T i v)
  exact aux args 0 blank
theorem den_ofL {args : List Value} (h : args.length ≤ 262144) : den (ofL args) = frOf args := by
  funext t
  rw [frOf_get]
  unfold den ofL
  by_cases ht : t < 262144
  · rw [if_pos ht, sets_get _ _ _ _ (by omega) ht]
    by_cases h2 : t < args.length
    · rw [if_pos (by omega)]; rfl
    · rw [if_neg (by omega), blank_get, List.getD_eq_getElem?_getD, List.getElem?_eq_none (by omega)]; rfl
  · rw [if_neg ht, List.getD_eq_getElem?_getD, List.getElem?_eq_none (by omega)]; rfl
theorem packK_eq (vs : List Value) (k : Value → RC) : packK vs k = k (pack vs) := by
  cases vs with
  | nil => rfl
  | cons x r => cases r <;> rfl
section
variable {P : Program} {L : Nat}
theorem loadsB_or {T : FT} {H : FH} {a : Fr} (hf : Fra L a T) : ∀ (l : List ResultVar) (k : List Value → RC), (loadsB P L l).run T H k = RC.no ∨ ∃ vs, resList P a (absH H) l = some vs ∧ (loadsB P L l).run T H k = k vs := by
  intro l
  induction l with
  | nil => intro k; exact .inr ⟨[], rfl, rfl⟩
  | cons r rs ih =>
    intro k
    cases r with
    | tmp t =>
      have e : (loadsB P L (.tmp t :: rs)).run T H k = (opB L [] 0 (.tmp t)).run [] T fun v => scalK v fun _ => (loadsB P L rs).run T H fun vs => k (v :: vs) := rfl
      rw [e]
      rcases opB_or (.start hf) (.tmp t) (fun v => scalK v fun _ => (loadsB P L rs).run T H fun vs => k (v :: vs)) with h | h
      · exact .inl h
      rw [h]
      rcases scalK_or (ev a (.tmp t)) (fun _ => (loadsB P L rs).run T H fun vs => k (ev a (.tmp t) :: vs)) with h | ⟨l, hl, h⟩
      · exact .inl h
      rw [h]
      rcases ih (fun vs => k (ev a (.tmp t) :: vs)) with h | ⟨vs, h1, h2⟩
      · exact .inl h
      · refine .inr ⟨_, ?_, h2⟩
        have hl : scal (a t) = some l := hl
        unfold resList
        rw [hl, h1]
        rfl
    | cell t ty =>
      have e : (loadsB P L (.cell t ty :: rs)).run T H k = (opB L [] 0 (.tmp t)).run [] T fun p => (loadB P ty).run p H fun v => (loadsB P L rs).run T H fun vs => k (v :: vs) := rfl
      rw [e]
      rcases opB_or (.start hf) (.tmp t) (fun p => (loadB P ty).run p H fun v => (loadsB P L rs).run T H fun vs => k (v :: vs)) with h | h
      · exact .inl h
      rw [h]
      rcases loadB_or (P := P) (H := H) ty (ev a (.tmp t)) (fun v => (loadsB P L rs).run T H fun vs => k (v :: vs)) with h | ⟨v, hv, h⟩
      · exact .inl h
      rw [h]
      rcases ih (fun vs => k (v :: vs)) with h | ⟨vs, h1, h2⟩
      · exact .inl h
      · refine .inr ⟨_, ?_, h2⟩
        have hv : loadA P ty (a t) (absH H) = some v := hv
        unfold resList
        rw [hv, h1]
theorem putsK_or : ∀ (ps : List Nat) (args : List Value) (T : FT) (k : FT → RC), putsK ps args T k = RC.no ∨ ∃ T', den T' = putAll (den T) ps args ∧ putsK ps args T k = k T' := by
  intro ps
  induction ps with
  | nil => intro args T k; exact .inr ⟨T, by unfold putAll; cases args <;> rfl, rfl⟩
  | cons p ps ih =>
    intro args T k
    cases args with
    | nil => exact .inr ⟨T, rfl, rfl⟩
    | cons v vs =>
      have e : putsK (p :: ps) (v :: vs) T k = (putB p).run T v fun T => putsK ps vs T k := rfl
      rw [e]
      rcases putB_or p T v (fun T => putsK ps vs T k) with h | ⟨h1, h2⟩
      · exact .inl h
      rw [h2]
      rcases ih vs (T2.set T p v) k with h | ⟨T', g1, g2⟩
      · exact .inl h
      · refine .inr ⟨T', ?_, g2⟩
        rw [g1]
        have : den (T2.set T p v) = upd (den T) p v := by funext t; rw [den_set h1]; rfl
        rw [this]
        rfl
theorem fra0 {a : Fr} {T : FT} : Fra 0 a T ↔ a = den T := ⟨fun h => funext fun t => h t (by simp), fun h t _ => by rw [h]⟩
theorem bodyK_sound {okF : Nat → Bool} (hF : ∀ f fn c, okF f = true → P.funcs[f]? = some fn → fn.body = some c → funcOk fn c = true) {cf : CallFF} {call : CallF} (hcall : CallSound cf call) (n : Nat) : CallSound (bodyK P okF cf n) (evBody P call n) := by
  intro fv args H v H' hH h
  unfold bodyK at h
  unfold evBody
  split at h
  · rename_i f first captured
    simp only
    cases hfi : first.isEmpty with
    | false => rw [hfi] at h; cases h
    | true =>
    rw [hfi] at h
    simp only [cond_true] at h
    unfold fnB at h
    split at h
    case h_2 => cases h
    rename_i fn hfn
    split at h
    case h_2 => cases h
    rename_i c hbody
    rw [hfn]
    simp only [hbody]
    cases hok : (okF f && Nat.ble fn.ntmps 262144) with
    | false => rw [hok] at h; cases h
    | true =>
    rw [hok] at h
    rw [Bool.and_eq_true] at hok
    have hnt : fn.ntmps ≤ 262144 := Nat.le_of_ble_eq_true hok.2
    simp only [cond_true, fN_eq] at h
    cases hlen : Nat.ble (args ++ captured.toList).length fn.ntmps with
    | false => rw [hlen] at h; cases h
    | true =>
    rw [hlen] at h
    have hlen := Nat.le_of_ble_eq_true hlen
    rw [if_pos ⟨hF f fn c hok.1 hfn hbody, by first | exact hfi | trivial, hlen⟩]
    simp only [cond_true, argsK_eq] at h
    generalize localsOf fn c = L at h
    have hf : Fra L (frOf (args ++ captured.toList)) (ofL (args ++ captured.toList)) := fun t _ => by rw [den_ofL (by omega)]
    rcases cc_or (P := P) (L := L) (nt := fn.ntmps) (c := ⟨cf, n, none⟩) hcall c _ H _ hf hH with e | ⟨x, T', H1, a', h1, h2, h3, h4⟩
    · rw [e] at h; cases h
    rw [h4] at h
    have h2 : evCode P call n fn.ntmps none c (frOf (args ++ captured.toList)) (absH H) = some (x, a', absH H1) := h2
    have fin : (resB P L fn.results.toList).run T' H1 = .val v H' → H'.OK ∧ (resList P a' (absH H1) fn.results.toList).map (fun vs => (pack vs, absH H1)) = some (v, absH H') := by
      intro h
      unfold resB at h
      simp only at h
      rcases loadsB_or (P := P) h3 fn.results.toList (fun vs => packK vs fun v => .val v H1) with e | ⟨vs, e1, e2⟩
      · rw [e] at h; cases h
      · rw [e2, packK_eq] at h
        cases h
        exact ⟨h1, by rw [e1]; rfl⟩
    cases x with
    | normal => rw [h2]; exact fin h
    | ret => rw [h2]; exact fin h
    | exit id => cases h
  · rename_i l fi ca
    simp only
    unfold roundK at h
    rcases loopK_or (H := H) l (fun st _ nt T ps as bd _ _ => LoopState.rec (motive := fun _ => RC) (bif Nat.beq args.length ps.length then putsK ps args T fun T =>
    RC.rec (fun T H1 => loopK H1 l fun st p1 nt1 T1 ps1 as1 bd1 mx1 ms1 => LoopState.rec (motive := fun _ => RC) (setNdK H1 l ⟨.loop .busy p1 nt1 T1 ps1 as1 bd1, mx1, ms1⟩ fun H2 =>
        RC.rec (fun _ H3 => loopK H3 l fun _ _ nt2 T2 ps2 as2 bd2 mx2 ms2 => setNdK H3 l ⟨.loop .ready none nt2 T2 ps2 as2 bd2, mx2, ms2⟩ fun H4 => .val (.bool true) H4)
          (fun id _ H3 => loopK H3 l fun _ _ nt2 T2 ps2 as2 bd2 mx2 ms2 => setNdK H3 l ⟨.loop .done (some (.exit id)) nt2 T2 ps2 as2 bd2, mx2, ms2⟩ fun H4 => .val (.bool false) H4)
          (fun _ H3 => loopK H3 l fun _ _ nt2 T2 ps2 as2 bd2 mx2 ms2 => setNdK H3 l ⟨.loop .done (some .ret) nt2 T2 ps2 as2 bd2, mx2, ms2⟩ fun H4 => .val (.bool false) H4)
          (fun _ _ => RC.no) RC.no RC.no ((cc P 0 nt bd).run ⟨cf, n, some l⟩ T H2)) RC.no RC.no RC.no st)
      (fun _ _ _ => RC.no) (fun _ _ => RC.no) (fun _ _ => RC.no) RC.no RC.no ((cc P 0 nt as).run ⟨cf, n, some l⟩ T H) else RC.no) RC.no RC.no RC.no st) with e | ⟨st, pend, nt, T, ps, as, bd, hl, hx, e⟩
    · rw [e] at h; cases h
    rw [e] at h; clear e
    cases st with
    | busy => cases h
    | done => cases h
    | exhausted => cases h
    | ready =>
    rw [loop_abs hl hx]
    simp only at h ⊢
    cases hlen : Nat.beq args.length ps.length with
    | false => rw [hlen] at h; cases h
    | true =>
    rw [hlen] at h
    rw [if_pos (Nat.eq_of_beq_eq_true hlen)]
    simp only [cond_true] at h
    rcases putsK_or ps args T (fun T =>
    RC.rec (fun T H1 => loopK H1 l fun st p1 nt1 T1 ps1 as1 bd1 mx1 ms1 => LoopState.rec (motive := fun _ => RC) (setNdK H1 l ⟨.loop .busy p1 nt1 T1 ps1 as1 bd1, mx1, ms1⟩ fun H2 =>
        RC.rec (fun _ H3 => loopK H3 l fun _ _ nt2 T2 ps2 as2 bd2 mx2 ms2 => setNdK H3 l ⟨.loop .ready none nt2 T2 ps2 as2 bd2, mx2, ms2⟩ fun H4 => .val (.bool true) H4)
          (fun id _ H3 => loopK H3 l fun _ _ nt2 T2 ps2 as2 bd2 mx2 ms2 => setNdK H3 l ⟨.loop .done (some (.exit id)) nt2 T2 ps2 as2 bd2, mx2, ms2⟩ fun H4 => .val (.bool false) H4)
          (fun _ H3 => loopK H3 l fun _ _ nt2 T2 ps2 as2 bd2 mx2 ms2 => setNdK H3 l ⟨.loop .done (some .ret) nt2 T2 ps2 as2 bd2, mx2, ms2⟩ fun H4 => .val (.bool false) H4)
          (fun _ _ => RC.no) RC.no RC.no ((cc P 0 nt bd).run ⟨cf, n, some l⟩ T H2)) RC.no RC.no RC.no st)
      (fun _ _ _ => RC.no) (fun _ _ => RC.no) (fun _ _ => RC.no) RC.no RC.no ((cc P 0 nt as).run ⟨cf, n, some l⟩ T H)) with e | ⟨T0, hT0, e⟩
    · rw [e] at h; cases h
    rw [e] at h; clear e
    rcases cc_or (P := P) (L := 0) (nt := nt) (c := ⟨cf, n, some l⟩) hcall as T0 H (den T0) (fra0.2 rfl) hH with e | ⟨x, T1, H1, a1, h1, h2, h3, h4⟩
    · rw [e] at h; cases h
    rw [h4] at h
    have h2 : evCode P call n nt (some l) as (den T0) (absH H) = some (x, a1, absH H1) := h2
    rw [← hT0, h2]
    cases x with
    | exit id => cases h
    | ret => cases h
    | normal =>
    simp only [mkRC] at h ⊢
    rcases loopK_or (H := H1) l (fun st p1 nt1 T1' ps1 as1 bd1 mx1 ms1 => LoopState.rec (motive := fun _ => RC) (setNdK H1 l ⟨.loop .busy p1 nt1 T1' ps1 as1 bd1, mx1, ms1⟩ fun H2 =>
        RC.rec (fun _ H3 => loopK H3 l fun _ _ nt2 T2 ps2 as2 bd2 mx2 ms2 => setNdK H3 l ⟨.loop .ready none nt2 T2 ps2 as2 bd2, mx2, ms2⟩ fun H4 => .val (.bool true) H4)
          (fun id _ H3 => loopK H3 l fun _ _ nt2 T2 ps2 as2 bd2 mx2 ms2 => setNdK H3 l ⟨.loop .done (some (.exit id)) nt2 T2 ps2 as2 bd2, mx2, ms2⟩ fun H4 => .val (.bool false) H4)
          (fun _ H3 => loopK H3 l fun _ _ nt2 T2 ps2 as2 bd2 mx2 ms2 => setNdK H3 l ⟨.loop .done (some .ret) nt2 T2 ps2 as2 bd2, mx2, ms2⟩ fun H4 => .val (.bool false) H4)
          (fun _ _ => RC.no) RC.no RC.no ((cc P 0 nt bd).run ⟨cf, n, some l⟩ T1 H2)) RC.no RC.no RC.no st) with e | ⟨st1, p1, nt1, T1', ps1, as1, bd1, hl1, hx1, e⟩
    · rw [e] at h; cases h
    rw [e] at h; clear e
    cases st1 with
    | busy => cases h
    | done => cases h
    | exhausted => cases h
    | ready =>
    rw [loop_abs hl1 hx1]
    simp only at h ⊢
    have hset := setLoop h1 hl1 (.loop .busy p1 nt1 T1' ps1 as1 bd1) trivial (fun _ _ _ h => by cases h)
    rw [(hset _).1] at h
    obtain ⟨_, ok2, abs2⟩ := hset (fun H2 => RC.nx T H2)
    have habs2 : (absH H1).set l (.loop .busy p1 nt1 (den T1') ps1 as1 bd1) = absH (H1.setX l (.loop .busy p1 nt1 T1' ps1 as1 bd1)) := abs2.symm
    rw [habs2]
    rcases cc_or (P := P) (L := 0) (nt := nt) (c := ⟨cf, n, some l⟩) hcall bd T1 (H1.setX l (.loop .busy p1 nt1 T1' ps1 as1 bd1)) (den T1) (fra0.2 rfl) ok2 with e | ⟨x, T3, H3, a3, g1, g2, g3, g4⟩
    · rw [e] at h; cases h
    rw [g4] at h
    have g2 : evCode P call n nt (some l) bd (den T1) (absH (H1.setX l (.loop .busy p1 nt1 T1' ps1 as1 bd1))) = some (x, a3, absH H3) := g2
    rw [fra0.1 h3, g2]
    simp only
    have fin : ∀ (st' : LoopState) (j : Option Code) (b : Bool), (loopK H3 l fun _ _ nt2 T2 ps2 as2 bd2 mx2 ms2 => setNdK H3 l ⟨.loop st' j nt2 T2 ps2 as2 bd2, mx2, ms2⟩ fun H4 => .val (.bool b) H4) = .val v H' →
        xBool x = b → xState x = st' → xJump x = j → H'.OK ∧ (match (absH H3)[l]? with
          | some (.loop _ _ nt2 tm2 pr2 as2 bd2) => some (Value.bool (xBool x), (absH H3).set l (.loop (xState x) (xJump x) nt2 tm2 pr2 as2 bd2))
          | _ => none) = some (v, absH H') := by
      intro st' j b hk hb hs hj
      rcases loopK_or (H := H3) l (fun _ _ nt2 T2 ps2 as2 bd2 mx2 ms2 => setNdK H3 l ⟨.loop st' j nt2 T2 ps2 as2 bd2, mx2, ms2⟩ fun H4 => .val (.bool b) H4) with e | ⟨st3, p3, nt3, T3', ps3, as3, bd3, hl3, hx3, e⟩
      · rw [e] at hk; cases hk
      rw [e] at hk
      have hset := setLoop g1 hl3 (.loop st' j nt3 T3' ps3 as3 bd3) trivial (fun _ _ _ h => by cases h)
      rw [(hset _).1] at hk
      obtain ⟨_, ok3, abs3⟩ := hset (fun H2 => RC.nx T H2)
      cases hk
      refine ⟨ok3, ?_⟩
      rw [loop_abs hl3 hx3]
      simp only
      rw [hb, hs, hj, abs3]
      rfl
    cases x with
    | normal => exact fin .ready none true h rfl rfl rfl
    | exit id => exact fin .done (some (.exit id)) false h rfl rfl rfl
    | ret => exact fin .done (some .ret) false h rfl rfl rfl
  · cases h
/-- Contracts of the fast evaluator: what they answer, and where they don't speak. -/
def BaseSound (base : CallFF) (baseA : CallF) : Prop := CallSound base baseA ∧ ∀ fv args H, H.OK → base fv args H = .skip → baseA fv args (absH H) = none
theorem evF_sound {okF : Nat → Bool} (hF : ∀ f fn c, okF f = true → P.funcs[f]? = some fn → fn.body = some c → funcOk fn c = true) {base : CallFF} {baseA : CallF} (hb : BaseSound base baseA) : ∀ n, CallSound (evF P okF base n) (evB P baseA n) := by
  intro n
  induction n with
  | zero =>
    intro fv args H v H' hH h
    have h' : (RC.rec (fun _ _ => RC.no) (fun _ _ _ => RC.no) (fun _ _ => RC.no) (fun v H' => .val v H') RC.no RC.no (base fv args H) : RC) = .val v H' := h
    cases hr : base fv args H with
    | val v2 H2 => rw [hr] at h'; cases h'; exact hb.1 _ _ _ _ _ hH hr
    | _ => rw [hr] at h'; cases h'
  | succ n ih =>
    intro fv args H v H' hH h
    have h' : (RC.rec (fun _ _ => RC.no) (fun _ _ _ => RC.no) (fun _ _ => RC.no) (fun v H' => .val v H') (bodyK P okF (evF P okF base n) n fv args H) RC.no (base fv args H) : RC) = .val v H' := h
    show H'.OK ∧ orC baseA (evBody P (evB P baseA n) n) fv args (absH H) = some (v, absH H')
    unfold orC
    cases hr : base fv args H with
    | val v2 H2 =>
      rw [hr] at h'; cases h'
      obtain ⟨e1, e2⟩ := hb.1 _ _ _ _ _ hH hr
      exact ⟨e1, by rw [e2]⟩
    | skip =>
      rw [hr] at h'
      rw [hb.2 _ _ _ hH hr]
      exact bodyK_sound hF ih n _ _ _ _ _ hH h'
    | _ => rw [hr] at h'; cases h'
end
end Go.Abs
