/- The fast evaluator: code, functions, rounds, calls. -/
import Derived.Test.YtmmgdgmjkhcfaaaFastM
namespace Go.Abs
def mkRC : X → FT → FH → RC
  | .normal, T, H => .nx T H
  | .exit id, T, H => .ex id T H
  | .ret, T, H => .rt T H
def CodeSim (P : Program) (L nt : Nat) (call : CallF) (n : Nat) (rd : Option Nat) (code : Code) (a : Fr) (H : FH) (r : RC) : Prop :=
  r = RC.no ∨ ∃ x T' H' a', H'.OK ∧ evCode P call n nt rd code a (absH H) = some (x, a', absH H') ∧ Fra L a' T' ∧ r = mkRC x T' H'
section
variable {H : FH}
theorem loopK_or (l : Nat) (k : LoopState → Option Code → Nat → FT → List Nat → Code → Code → Nat → List Nat → RC) : loopK H l k = RC.no ∨ ∃ st pend nt T ps as bd, l < H.n ∧ (H.nd l).x = .loop st pend nt T ps as bd ∧ loopK H l k = k st pend nt T ps as bd (H.nd l).mx (H.nd l).ms := by
  unfold loopK
  rw [ndK_eq]
  split
  · rename_i hb
    cases hd : H.nd l with
    | mk x mx ms =>
      cases x with
      | loop st pend nt T ps as bd => exact .inr ⟨st, pend, nt, T, ps, as, bd, hb, rfl, rfl⟩
      | dead => exact .inl rfl
      | cells => exact .inl rfl
      | map => exact .inl rfl
  · exact .inl rfl
theorem loop_abs {l : Nat} {st pend nt T ps as bd} (hl : l < H.n) (hx : (H.nd l).x = .loop st pend nt T ps as bd) : (absH H)[l]? = some (.loop st pend nt (den T) ps as bd) := by
  rw [absH_get, if_pos hl, hx]; rfl
theorem rdOkK_or (rd : Option Nat) (k : RC) : rdOkK H rd k = RC.no ∨ (rdOk (absH H) rd = true ∧ rdOkK H rd k = k) := by
  cases rd with
  | none => exact .inr ⟨rfl, rfl⟩
  | some l =>
    show (ndK H l fun d => Nd.rec (fun x _ _ => FB.rec RC.no (fun _ _ _ _ => RC.no) (fun _ _ _ => RC.no) (fun _ _ _ _ _ _ _ => k) x) d) = _ ∨ _ ∧ (ndK H l fun d => Nd.rec (fun x _ _ => FB.rec RC.no (fun _ _ _ _ => RC.no) (fun _ _ _ => RC.no) (fun _ _ _ _ _ _ _ => k) x) d) = _
    rw [ndK_eq]
    split
    · rename_i hb
      cases hd : H.nd l with
      | mk x mx ms =>
        have hx : (H.nd l).x = x := by rw [hd]
        cases x with
        | loop st pend nt T ps as bd => exact .inr ⟨by simp only [rdOk, loop_abs hb hx], rfl⟩
        | dead => exact .inl rfl
        | cells => exact .inl rfl
        | map => exact .inl rfl
    · exact .inl rfl
theorem setLoop (hH : H.OK) {l : Nat} (hl : l < H.n) (x : FB) (hx : noCells x) (hm : ∀ kk es mt, x ≠ .map kk es mt) (k : FH → RC) : setNdK H l ⟨x, (H.nd l).mx, (H.nd l).ms⟩ k = k (H.setX l x) ∧ (H.setX l x).OK ∧ absH (H.setX l x) = (absH H).set l (absB x) := by
  refine ⟨setNdK_eq _ _ _ _, OK_setX hH hl x ?_, absH_setNd hH hl _⟩
  cases x with
  | cells => exact hx.elim
  | map kk es mt => exact absurd rfl (hm kk es mt)
  | _ => trivial
end
section
variable {P : Program} {L nt : Nat} {c : Ctx} {call : CallF}
theorem cc_or (hcall : CallSound c.call call) : ∀ (code : Code) (T : FT) (H : FH) (a : Fr), Fra L a T → H.OK → CodeSim P L nt call c.n c.rd code a H ((cc P L nt code).run c T H) := by
  intro code
  induction code with
  | skip => intro T H a hf hH; exact .inr ⟨.normal, T, H, a, hH, rfl, hf, rfl⟩
  | label _ => intro T H a hf hH; exact .inr ⟨.normal, T, H, a, hH, rfl, hf, rfl⟩
  | ret => intro T H a hf hH; exact .inr ⟨.ret, T, H, a, hH, rfl, hf, rfl⟩
  | exit id => intro T H a hf hH; exact .inr ⟨.exit id, T, H, a, hH, rfl, hf, rfl⟩
  | goto _ => intro T H a hf hH; exact .inl rfl
  | refuse _ => intro T H a hf hH; exact .inl rfl
  | scope _ _ => intro T H a hf hH; exact .inl rfl
  | region id ops draw =>
    intro T H a hf hH
    have e : cc P L nt (.region id ops draw) = bif draw && !noRead ops then ⟨fun c T H => (drawB P L ops (Region.before ops) (List.range ops.size) [] 0).run c [] T H [(none, H)] []⟩
      else ⟨fun c T H => (regB P L ops ops.toList [] 0).run c [] T H⟩ := rfl
    rw [e]
    clear e
    have plain := regB_or (P := P) (L := L) hcall ops ops.toList [] 0 [] T H a (.start hf) hH
    cases draw with
    | false =>
      simp only [Bool.false_and, cond_false]
      rcases plain with h | ⟨T', H', a', h1, h2, h3, h4⟩
      · exact .inl h
      · refine .inr ⟨.normal, T', H', a', h1, ?_, h3, h4⟩
        unfold evCode
        rw [h2]
    | true =>
      cases hr : noRead ops with
      | true =>
        simp only [Bool.true_and, Bool.not_true, cond_false]
        rcases plain with h | ⟨T', H', a', h1, h2, h3, h4⟩
        · exact .inl h
        · refine .inr ⟨.normal, T', H', a', h1, ?_, h3, h4⟩
          have hl : (List.range ops.size).map (fun j => ops.getD j default) = ops.toList := by
            apply List.ext_getElem?
            intro i
            rw [List.getElem?_map]
            by_cases hi : i < ops.size
            · rw [List.getElem?_range hi]
              simp [hi]
            · rw [List.getElem?_eq_none (by simp; omega), List.getElem?_eq_none (by simp; omega)]
              rfl
          have := draw_plain (P := P) (call := call) ops (Region.before ops) hr (List.range ops.size) a (absH H) [(none, absH H)] (fun j hj => List.mem_range.1 hj) (a', absH H') (by rw [hl]; exact h2)
          unfold evCode
          rw [this]
      | false =>
        simp only [Bool.true_and, Bool.not_false, cond_true]
        rcases drawB_or (P := P) (L := L) hcall ops (Region.before ops) (List.range ops.size) [] 0 [] T H a [(none, H)] [] (.start hf) hH (by intro p hp; simp at hp; subst hp; exact hH) [] .nil with h | ⟨T', H', a', h1, h2, h3, h4⟩
        · exact .inl h
        · refine .inr ⟨.normal, T', H', a', h1, ?_, h3, h4⟩
          have h2 : evDraw P call ops (Region.before ops) (List.range ops.size) a (absH H) [(none, absH H)] [] = some (a', absH H') := h2
          unfold evCode
          rw [h2]
  | seq x y ihx ihy =>
    intro T H a hf hH
    have e : (cc P L nt (.seq x y)).run c T H = RC.rec (fun T H => (cc P L nt y).run c T H) RC.ex RC.rt (fun _ _ => RC.no) RC.no RC.no ((cc P L nt x).run c T H) := rfl
    rw [e]
    rcases ihx T H a hf hH with h | ⟨x1, T1, H1, a1, h1, h2, h3, h4⟩
    · rw [h]; exact .inl rfl
    rw [h4]
    cases x1 with
    | normal =>
      rcases ihy T1 H1 a1 h3 h1 with h | ⟨x2, T2, H2, a2, g1, g2, g3, g4⟩
      · exact .inl h
      · exact .inr ⟨x2, T2, H2, a2, g1, by unfold evCode; rw [h2]; exact g2, g3, g4⟩
    | exit id => exact .inr ⟨.exit id, T1, H1, a1, h1, by unfold evCode; rw [h2], h3, rfl⟩
    | ret => exact .inr ⟨.ret, T1, H1, a1, h1, by unfold evCode; rw [h2], h3, rfl⟩
  | cond o x y ihx ihy =>
    intro T H a hf hH
    have e : (cc P L nt (.cond o x y)).run c T H = (opB L [] 0 o).run [] T fun v => boolK v fun t => Bool.rec ((cc P L nt y).run c T H) ((cc P L nt x).run c T H) t := rfl
    rw [e]
    clear e
    rcases opB_or (.start hf) o (fun v => boolK v fun t => Bool.rec ((cc P L nt y).run c T H) ((cc P L nt x).run c T H) t) with h | h
    · exact .inl h
    rw [h]
    rcases boolK_or (ev a o) (fun t => Bool.rec ((cc P L nt y).run c T H) ((cc P L nt x).run c T H) t) with h | ⟨b, hb, h⟩
    · exact .inl h
    rw [h]
    cases b with
    | true =>
      rcases ihx T H a hf hH with h | ⟨x2, T2, H2, a2, g1, g2, g3, g4⟩
      · exact .inl h
      · exact .inr ⟨x2, T2, H2, a2, g1, by unfold evCode; rw [hb]; exact g2, g3, g4⟩
    | false =>
      rcases ihy T H a hf hH with h | ⟨x2, T2, H2, a2, g1, g2, g3, g4⟩
      · exact .inl h
      · exact .inr ⟨x2, T2, H2, a2, g1, by unfold evCode; rw [hb]; exact g2, g3, g4⟩
  | block id x ih =>
    intro T H a hf hH
    have e : (cc P L nt (.block id x)).run c T H = RC.rec RC.nx (fun i T H => bif Nat.beq i id then RC.nx T H else RC.ex i T H) RC.rt (fun _ _ => RC.no) RC.no RC.no ((cc P L nt x).run c T H) := rfl
    rw [e]
    rcases ih T H a hf hH with h | ⟨x1, T1, H1, a1, h1, h2, h3, h4⟩
    · rw [h]; exact .inl rfl
    rw [h4]
    cases x1 with
    | normal => exact .inr ⟨.normal, T1, H1, a1, h1, by unfold evCode; rw [h2], h3, rfl⟩
    | ret => exact .inr ⟨.ret, T1, H1, a1, h1, by unfold evCode; rw [h2], h3, rfl⟩
    | exit i =>
      show CodeSim P L nt call c.n c.rd (.block id x) a H (bif Nat.beq i id then RC.nx T1 H1 else RC.ex i T1 H1)
      cases hb : Nat.beq i id with
      | true => exact .inr ⟨.normal, T1, H1, a1, h1, by unfold evCode; rw [h2]; simp only; rw [if_pos (Nat.eq_of_beq_eq_true hb)], h3, rfl⟩
      | false => exact .inr ⟨.exit i, T1, H1, a1, h1, by unfold evCode; rw [h2]; simp only; rw [if_neg (Nat.ne_of_beq_eq_false hb)], h3, rfl⟩
  | loop x ih =>
    intro T H a hf hH
    have aux : ∀ (n : Nat) (T : FT) (H : FH) (a : Fr), Fra L a T → H.OK →
        (Nat.rec (motive := fun _ => FT → FH → RC) (fun _ _ => RC.no) (fun _ lo T H => RC.rec lo RC.ex RC.rt (fun _ _ => RC.no) RC.no RC.no ((cc P L nt x).run c T H)) n T H) = RC.no ∨
        ∃ x1 T' H' a', H'.OK ∧ loopN (evCode P call c.n nt c.rd x) n a (absH H) = some (x1, a', absH H') ∧ Fra L a' T' ∧ (Nat.rec (motive := fun _ => FT → FH → RC) (fun _ _ => RC.no) (fun _ lo T H => RC.rec lo RC.ex RC.rt (fun _ _ => RC.no) RC.no RC.no ((cc P L nt x).run c T H)) n T H) = mkRC x1 T' H' := by
      intro n
      induction n with
      | zero => intro T H a _ _; exact .inl rfl
      | succ n ihn =>
        intro T H a hf hH
        rcases ih T H a hf hH with h | ⟨x1, T1, H1, a1, h1, h2, h3, h4⟩
        · left; simp only [h]
        simp only [h4]
        cases x1 with
        | normal =>
          rcases ihn T1 H1 a1 h3 h1 with h | ⟨x2, T2, H2, a2, g1, g2, g3, g4⟩
          · exact .inl h
          · exact .inr ⟨x2, T2, H2, a2, g1, by unfold loopN; rw [h2]; exact g2, g3, g4⟩
        | exit id => exact .inr ⟨.exit id, T1, H1, a1, h1, by unfold loopN; rw [h2], h3, rfl⟩
        | ret => exact .inr ⟨.ret, T1, H1, a1, h1, by unfold loopN; rw [h2], h3, rfl⟩
    rcases aux c.n T H a hf hH with h | ⟨x2, T2, H2, a2, g1, g2, g3, g4⟩
    · exact .inl h
    · exact .inr ⟨x2, T2, H2, a2, g1, by unfold evCode; exact g2, g3, g4⟩
  | rangeFunc f params assign body _ _ =>
    intro T H a hf hH
    have e : cc P L nt (.rangeFunc f params assign body) = bif Nat.beq L 0 then ⟨fun c T H => rdOkK H c.rd ((opB L [] 0 f).run [] T fun fv => pushK H (fun _ => ⟨.loop .ready none nt T params.toList assign body, 0, []⟩) fun hl H1 =>
        RC.rec (fun _ _ => RC.no) (fun _ _ _ => RC.no) (fun _ _ => RC.no) (fun _ H' => loopK H' hl fun st pend _ _ _ _ _ mx ms => LoopState.rec (motive := fun _ => RC → RC) id (fun _ => RC.no) id id st
          (Option.rec (setNdK H' hl ⟨.dead, mx, ms⟩ fun H2 => RC.nx T H2) (fun j => match j with
            | .exit id => setNdK H' hl ⟨.dead, mx, ms⟩ fun H2 => RC.ex id T H2
            | .ret => setNdK H' hl ⟨.dead, mx, ms⟩ fun H2 => RC.rt T H2
            | _ => RC.no) pend)) RC.no RC.no (c.call fv [.func (.yield hl) #[] #[]] H1))⟩
      else ⟨fun _ _ _ => RC.no⟩ := rfl
    rw [e]
    clear e
    cases hL : Nat.beq L 0 with
    | false => exact .inl rfl
    | true =>
    have hL := Nat.eq_of_beq_eq_true hL
    have hden : a = den T := by funext t; exact hf t (by rw [hL]; simp)
    simp only [cond_true]
    let K : Value → RC := fun fv => pushK H (fun _ => ⟨.loop .ready none nt T params.toList assign body, 0, []⟩) fun hl H1 =>
        RC.rec (fun _ _ => RC.no) (fun _ _ _ => RC.no) (fun _ _ => RC.no) (fun _ H' => loopK H' hl fun st pend _ _ _ _ _ mx ms => LoopState.rec (motive := fun _ => RC → RC) id (fun _ => RC.no) id id st
          (Option.rec (setNdK H' hl ⟨.dead, mx, ms⟩ fun H2 => RC.nx T H2) (fun j => match j with
            | .exit id => setNdK H' hl ⟨.dead, mx, ms⟩ fun H2 => RC.ex id T H2
            | .ret => setNdK H' hl ⟨.dead, mx, ms⟩ fun H2 => RC.rt T H2
            | _ => RC.no) pend)) RC.no RC.no (c.call fv [.func (.yield hl) #[] #[]] H1)
    rcases rdOkK_or (H := H) c.rd ((opB L [] 0 f).run [] T K) with h | ⟨hrd, h⟩
    · exact .inl h
    show CodeSim P L nt call c.n c.rd (.rangeFunc f params assign body) a H (rdOkK H c.rd ((opB L [] 0 f).run [] T K))
    rw [h]; clear h
    rcases opB_or (.start hf) f K with h | h
    · exact .inl h
    rw [h]; clear h
    rcases pushK_or H (fun _ => (⟨.loop .ready none nt T params.toList assign body, 0, []⟩ : Nd)) (fun hl H1 =>
        RC.rec (fun _ _ => RC.no) (fun _ _ _ => RC.no) (fun _ _ => RC.no) (fun _ H' => loopK H' hl fun st pend _ _ _ _ _ mx ms => LoopState.rec (motive := fun _ => RC → RC) id (fun _ => RC.no) id id st
          (Option.rec (setNdK H' hl ⟨.dead, mx, ms⟩ fun H2 => RC.nx T H2) (fun j => match j with
            | .exit id => setNdK H' hl ⟨.dead, mx, ms⟩ fun H2 => RC.ex id T H2
            | .ret => setNdK H' hl ⟨.dead, mx, ms⟩ fun H2 => RC.rt T H2
            | _ => RC.no) pend)) RC.no RC.no (c.call (ev a f) [.func (.yield hl) #[] #[]] H1)) with h | ⟨hlt, h⟩
    · exact .inl h
    show CodeSim P L nt call c.n c.rd (.rangeFunc f params assign body) a H (K (ev a f))
    have hK : K (ev a f) = _ := h
    rw [hK]; clear hK h
    have hpush := OK_push hH hlt (⟨.loop .ready none nt T params.toList assign body, 0, []⟩ : Nd) trivial
    have habs := absH_push hlt (⟨.loop .ready none nt T params.toList assign body, 0, []⟩ : Nd)
    simp only [absB] at habs
    cases hr : c.call (ev a f) [.func (.yield H.n) #[] #[]] (H.push ⟨.loop .ready none nt T params.toList assign body, 0, []⟩) with
    | val v H' =>
      obtain ⟨o1, o2⟩ := hcall _ _ _ _ _ hpush hr
      rw [habs] at o2
      simp only
      rcases loopK_or (H := H') H.n (fun st pend _ _ _ _ _ mx ms => LoopState.rec (motive := fun _ => RC → RC) id (fun _ => RC.no) id id st
          (Option.rec (setNdK H' H.n ⟨.dead, mx, ms⟩ fun H2 => RC.nx T H2) (fun j => match j with
            | .exit id => setNdK H' H.n ⟨.dead, mx, ms⟩ fun H2 => RC.ex id T H2
            | .ret => setNdK H' H.n ⟨.dead, mx, ms⟩ fun H2 => RC.rt T H2
            | _ => RC.no) pend)) with h | ⟨st, pend, nt1, T1, ps1, as1, bd1, hl1, hx1, h⟩
      · exact .inl h
      rw [h]; clear h
      have hget := loop_abs hl1 hx1
      have fin : ∀ (x : X), jumpX pend = some x → st ≠ .busy → ∀ r, r = mkRC x T (H'.setX H.n .dead) → CodeSim P L nt call c.n c.rd (.rangeFunc f params assign body) a H r := by
        intro x hj hst r hr2
        obtain ⟨_, s2, s3⟩ := setLoop o1 hl1 .dead trivial (fun _ _ _ h => by cases h) (fun H2 => RC.nx T H2)
        refine .inr ⟨x, T, _, a, s2, ?_, hf, hr2⟩
        unfold evCode
        rw [if_pos hrd]
        simp only [absH_length]
        rw [hden] at o2 ⊢
        rw [o2]
        simp only [hget]
        rw [if_neg hst, hj, s3]
        rfl
      have hset := fun k => (setLoop o1 hl1 .dead trivial (fun _ _ _ h => by cases h) k).1
      have go : st ≠ .busy → CodeSim P L nt call c.n c.rd (.rangeFunc f params assign body) a H ((Option.rec (setNdK H' H.n ⟨.dead, (H'.nd H.n).mx, (H'.nd H.n).ms⟩ fun H2 => RC.nx T H2) (fun j => match j with
            | .exit id => setNdK H' H.n ⟨.dead, (H'.nd H.n).mx, (H'.nd H.n).ms⟩ fun H2 => RC.ex id T H2
            | .ret => setNdK H' H.n ⟨.dead, (H'.nd H.n).mx, (H'.nd H.n).ms⟩ fun H2 => RC.rt T H2
            | _ => RC.no) pend : RC)) := by
        intro hst
        cases pend with
        | none => exact fin .normal rfl hst _ (hset _)
        | some j =>
          cases j with
          | exit id => exact fin (.exit id) rfl hst _ (hset _)
          | ret => exact fin .ret rfl hst _ (hset _)
          | _ => exact .inl rfl
      cases st with
      | busy => exact .inl rfl
      | ready => exact go (by intro h; cases h)
      | done => exact go (by intro h; cases h)
      | exhausted => exact go (by intro h; cases h)
    | _ => exact .inl (by first | rfl | simp only [hr])
end
end Go.Abs
