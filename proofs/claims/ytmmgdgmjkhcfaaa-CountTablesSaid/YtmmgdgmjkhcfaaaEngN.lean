/- One function body, or one round of a loop, with any calls; calls with contracts; both are sound. -/
import Derived.Test.YtmmgdgmjkhcfaaaEngM
namespace Go.Abs
/-- A frame as far as it is a function's own. -/
def cutFr (nt : Nat) (a : Fr) : Fr := fun i => if i < nt then a i else undef
def evBody (P : Program) (call : CallF) (n : Nat) : CallF := fun fv args H =>
  match fv with
  | .func (.func f) first captured =>
    match P.funcs[f]? with
    | some fn => match fn.body with
      | some c =>
        if funcOk fn c ∧ first.isEmpty ∧ (args ++ captured.toList).length ≤ fn.ntmps then
          match evCode P (call) n fn.ntmps none c (frOf (args ++ captured.toList)) H with
          | some (.normal, a, H') => (resList P a H' fn.results.toList).map fun vs => (pack vs, H')
          | some (.ret, a, H') => (resList P a H' fn.results.toList).map fun vs => (pack vs, H')
          | _ => none
        else none
      | none => none
    | none => none
  | .func (.yield l) _ _ =>
    match H[l]? with
    | some (.loop .ready _ nt tmps params assign body) =>
      if args.length = params.length then
        match evCode P (call) n nt (some l) assign (putAll tmps params args) H with
        | some (.normal, a, H1) =>
          match H1[l]? with
          | some (.loop .ready p1 nt1 tm1 pr1 as1 bd1) =>
            match evCode P (call) n nt (some l) body a (H1.set l (.loop .busy p1 nt1 tm1 pr1 as1 bd1)) with
            | some (x, _, H2) =>
              match H2[l]? with
              | some (.loop _ _ nt2 tm2 pr2 as2 bd2) => some (.bool (xBool x), H2.set l (.loop (xState x) (xJump x) nt2 tm2 pr2 as2 bd2))
              | _ => none
            | none => none
          | _ => none
        | _ => none
      else none
    | _ => none
  | _ => none
section
variable {P : Program}
theorem FR.cut {m : Mp} {nt : Nat} {a : Fr} {tmps : Array Value} (h : FR m nt a tmps) : FR m nt (cutFr nt a) tmps :=
  ⟨h.1, fun t ht => by have := h.2 t ht; simpa [cutFr, ht] using this⟩
theorem body_grow {call : CallF} (hg : CallGrow call) (n : Nat) : CallGrow (evBody P call n) := by
  intro fv args H v H' h
  unfold evBody at h
  split at h
  · split at h
    case h_2 => cases h
    split at h
    case h_2 => cases h
    split at h
    case isFalse => cases h
    split at h
    · rename_i a1 H1 hev
      have h2 : H' = H1 := (fun {o : Option (List Value)} (h : o.map (fun vs => (pack vs, H1)) = some (v, H')) => by
        cases o with
        | none => cases h
        | some vs => simp only [Option.map_some] at h; injection h with h; injection h with h1 h2; exact h2.symm) h
      subst h2
      exact evCode_grow hg hev
    · rename_i a1 H1 hev
      have h2 : H' = H1 := (fun {o : Option (List Value)} (h : o.map (fun vs => (pack vs, H1)) = some (v, H')) => by
        cases o with
        | none => cases h
        | some vs => simp only [Option.map_some] at h; injection h with h; injection h with h1 h2; exact h2.symm) h
      subst h2
      exact evCode_grow hg hev
    · cases h
  · split at h
    case h_2 => cases h
    split at h
    case isFalse => cases h
    split at h
    case h_2 => cases h
    rename_i hev1
    split at h
    case h_2 => cases h
    split at h
    case h_2 => cases h
    rename_i hev2
    split at h
    case h_2 => cases h
    injection h with h; injection h with h1 h2; subst h2
    have e1 := evCode_grow hg hev1
    have e2 := evCode_grow hg hev2
    simp at e2 ⊢
    omega
  · cases h
theorem body_sim (hmix : P.follows .mixedOrders = true) {call : CallF} (hcall : CallOK P call) (hg : CallGrow call) (n : Nat) : CallOK P (evBody P call n) := by
  intro fv args H v H' h m w fv' args' hR hfv hargs
  have hd := fun nt => drawOK hmix hcall hg nt
  unfold evBody at h
  split at h
  · rename_i f first captured
    split at h
    case h_2 => cases h
    rename_i fn hfn
    split at h
    case h_2 => cases h
    rename_i c hbody
    split at h
    case isFalse => cases h
    rename_i hcond
    obtain ⟨hok, hfirst, hle⟩ := hcond
    have hfv' : ∃ cap', fv' = .func (.func f) #[] cap' ∧ All2 (PR m) captured.toList cap'.toList := by
      cases hfv with
      | a h => cases h with
        | s h => cases h with
          | func f cap cap' hc => exact ⟨cap', rfl, hc⟩
    obtain ⟨cap', rfl, hcap⟩ := hfv'
    have hvs : All2 (VR m) (args ++ captured.toList) (args'.toList ++ cap'.toList) := hargs.append (cap_rel hcap)
    have fin : ∀ (x : X) (a : Fr) (H1 : Heap) rs, (x = .normal ∨ x = .ret) → evCode P call n fn.ntmps none c (frOf (args ++ captured.toList)) H = some (x, a, H1) → resList P a H1 fn.results.toList = some rs → v = pack rs → H' = H1 →
        ∃ nx sf m' w' v', (do let d ← Deferred.ofValue (.func (.func f) #[] cap') args'; invoke d.target d.args).run P w = .ok nx w ∧ Starts P nx sf ∧ Sim m H w m' H' w' ∧ VR m' v v' ∧ ∀ fr cs, Steps P (lone sf (fr :: cs) w) (lone (fr.finish v') cs w') := by
      rintro x a H1 rs hx hev hres rfl rfl
      obtain ⟨m', w', v', s1, s2, s3⟩ := func_sim hcall hd hfn hbody hok hle hx hev hres hR hvs
      refine ⟨.enter f (args' ++ cap'), Frame.enter P f (args' ++ cap') .normal, m', w', v', ?_, .enter _ _, s1, s2, fun fr cs => ?_⟩
      · have hname : ¬ fn.name = "runtime.NumGoroutine" := by
          unfold funcOk at hok
          simp only [Bool.and_eq_true, bne_iff_ne, ne_eq] at hok
          exact hok.2
        simp [Deferred.ofValue, invoke, callFunc, program, Sem.run, hfn, hname, hbody]
      · obtain ⟨e, w2, fr2, ⟨rfl, rfl⟩, k1, _, k2⟩ := s3 (fr :: cs)
        have : (args'.toList ++ cap'.toList).toArray = args' ++ cap' := by simp
        rw [this] at k1
        exact Steps.trans k1 (.one (step_leave_returned k2))
    split at h
    · rename_i a H1 hev
      cases hr : resList P a H1 fn.results.toList with
      | none => rw [hr] at h; cases h
      | some rs =>
        rw [hr] at h
        simp only [Option.map_some] at h
        injection h with h; injection h with h1 h2
        exact fin _ a H1 rs (.inl rfl) hev hr h1.symm h2.symm
    · rename_i a H1 hev
      cases hr : resList P a H1 fn.results.toList with
      | none => rw [hr] at h; cases h
      | some rs =>
        rw [hr] at h
        simp only [Option.map_some] at h
        injection h with h; injection h with h1 h2
        exact fin _ a H1 rs (.inr rfl) hev hr h1.symm h2.symm
    · cases h
  · rename_i l fi ca
    split at h
    case h_2 => cases h
    rename_i pd0 nt tm0 pr0 as0 bd0 hl0
    split at h
    case isFalse => cases h
    rename_i hlen
    split at h
    case h_2 => cases h
    rename_i a1 H1 hev1
    split at h
    case h_2 => cases h
    rename_i pd1 nt1 tm1 pr1 as1 bd1 hl1
    split at h
    case h_2 => cases h
    rename_i x a2 H2 hev2
    split at h
    case h_2 => cases h
    rename_i st2 pd2 nt2 tm2 pr2 as2 bd2 hl2
    injection h with h; injection h with e1 e2
    subst e1; subst e2
    have hfv' : ∃ loc, m l = some loc ∧ fv' = .func (.yield loc.g) #[] #[] := by
      cases hfv with
      | a h => cases h with
        | s h => cases h with
          | yield b loc hl => exact ⟨loc, hl, rfl⟩
    obtain ⟨loc, hl, rfl⟩ := hfv'
    obtain ⟨f, ds, tmps', hobj, hf0, hoka, hokb, hokp⟩ := hR.blk l _ loc hl0 hl
    have hf := putAll_rel (ps := pr0) hargs hf0
    obtain ⟨m', w', s1, s2⟩ := round_sim hcall hd (l := l) (nt := nt) hoka hokb f hR hf hl hev1 hl1 hev2 hl2
    refine ⟨.round loc.g f ((pr0.zip args'.toList).foldl (fun tmps (p : Nat × Value) => tmps.setIfInBounds p.1 p.2) tmps') as0 bd0, _, m', w', .bool (xBool x), ?_, .round _ _ _ _ _, s1, .a (.s (.bool _)), s2⟩
    have hsz : args'.size = pr0.length := by have := hargs.length; simp at this; omega
    have hfold : (pr0.toArray.zip args').foldl (fun tmps (p : Nat × Value) => tmps.setIfInBounds p.1 p.2) tmps' = (pr0.zip args'.toList).foldl (fun tmps (p : Nat × Value) => tmps.setIfInBounds p.1 p.2) tmps' := by
      rw [← Array.foldl_toList, Array.toList_zip]
    simp only [Deferred.ofValue, invoke, Instr.yield, Instr.getLoop, getObj, Sem.run_bind, Sem.run_pure, Result.andThen_ok, Sem.run, hobj]
    have hz : (pr0.toArray.zip args').size = pr0.length := by simp [hsz]
    simp [hsz]
    rw [← hz]
    exact hfold
  · cases h
/-- The first one's answer, or the second one's. -/
def orC (f g : CallF) : CallF := fun fv args H => match f fv args H with
  | some r => some r
  | none => g fv args H
theorem orC_ok {f g : CallF} (hf : CallOK P f) (hg : CallOK P g) : CallOK P (orC f g) := by
  intro fv args H v H' h
  unfold orC at h
  split at h
  · rename_i r hr
    cases h
    exact hf fv args H v H' hr
  · exact hg fv args H v H' h
theorem orC_grow {f g : CallF} (hf : CallGrow f) (hg : CallGrow g) : CallGrow (orC f g) := by
  intro fv args H v H' h
  unfold orC at h
  split at h
  · rename_i r hr
    cases h
    exact hf fv args H v H' hr
  · exact hg fv args H v H' h
def noC : CallF := fun _ _ _ => none
theorem noC_ok : CallOK P noC := fun _ _ _ _ _ h => by cases h
theorem noC_grow : CallGrow noC := fun _ _ _ _ _ h => by cases h
/-- The evaluator with contracts. -/
def evB (P : Program) (base : CallF) : Nat → CallF
  | 0 => base
  | n + 1 => orC base (evBody P (evB P base n) n)
theorem evB_grow {base : CallF} (hb : CallGrow base) : ∀ n, CallGrow (evB P base n) := by
  intro n
  induction n with
  | zero => exact hb
  | succ n ih => exact orC_grow hb (body_grow ih n)
theorem evB_ok (hmix : P.follows .mixedOrders = true) {base : CallF} (hb : CallOK P base) (hg : CallGrow base) : ∀ n, CallOK P (evB P base n) := by
  intro n
  induction n with
  | zero => exact hb
  | succ n ih => exact orC_ok hb (body_sim hmix ih (evB_grow hg n) n)
end
end Go.Abs
