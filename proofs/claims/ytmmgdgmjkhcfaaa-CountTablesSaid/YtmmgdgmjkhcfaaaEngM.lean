/- Calls: functions, closures, rounds of a loop over a function. -/
import Derived.Test.YtmmgdgmjkhcfaaaEngL
namespace Go.Abs
section
variable {P : Program}
theorem st_takeMark {b : Frame} {tmps : Array Value} {r : Nat} {ds : List Deferred} {todo : List Item} {cs : List Frame} {w : World} (h : w.heap[r]? = some (.deferred (some []))) :
    step P (lone { onF b tmps (mark r :: ds) todo with mode := .returning } cs w) = .next (lone { onF b tmps ds todo with mode := .returning } cs { w with heap := w.heap.setIfInBounds r (.deferred none) }) := by
  refine step_lone_go ?_
  have hrun : (Instr.takeDeferred r).run P w = .ok [] { w with heap := w.heap.setIfInBounds r (.deferred none) } := by simp [Instr.takeDeferred, getObj, setObj, Sem.run, h]
  simp [stepG, unwind, onF, mark, hrun]
theorem BR.obj {m : Mp} {w : World} {l : Loc} {x : Blk} (h : BR m w l x) (hl : x.live = true) {ds : Option (List Deferred)} : w.heap[l.g]? ≠ some (.deferred ds) := by
  intro hd
  cases x with
  | dead => cases hl
  | cells f own cs => obtain ⟨C, el, fr, h, _⟩ := h; rw [hd] at h; injection h with h; cases h
  | map es => obtain ⟨es', ck, h, _⟩ := h; rw [hd] at h; injection h with h; cases h
  | loop st pend nt tmps params assign body => obtain ⟨fn, ds, tmps', h, _⟩ := h; rw [hd] at h; injection h with h; cases h
/-- The marks are taken one after the other. -/
theorem take_marks {lo : Nat} {m : Mp} {H : Heap} : ∀ (ds : List Deferred) {w : World}, Marks lo m H w ds → Rel m H w →
    ∃ w', (∀ (b : Frame) (tmps : Array Value) (todo : List Item) cs, Steps P (lone { onF b tmps ds todo with mode := .returning } cs w) (lone { onF b tmps [] todo with mode := .returning } cs w')) ∧ Rel m H w' ∧ w'.os = w.os ∧ w'.tape = w.tape ∧ w'.output = w.output ∧ w'.heap.size = w.heap.size ∧
      ∀ g, g < lo → w'.heap[g]? = w.heap[g]? := by
  intro ds
  induction ds with
  | nil => intro w _ hR; exact ⟨w, fun _ _ _ cs => .refl _ _, hR, rfl, rfl, rfl, rfl, fun _ _ => rfl⟩
  | cons d ds ih =>
    intro w hM hR
    cases hM with
    | cons r _ h0 h1 h2 h3 hM =>
      let w1 : World := { w with heap := w.heap.setIfInBounds r (.deferred none) }
      have hget : ∀ g, g ≠ r → w1.heap[g]? = w.heap[g]? := fun g hg => by simp only [w1]; rw [Array.getElem?_setIfInBounds, if_neg (fun e => hg e.symm)]
      have hR1 : Rel m H w1 := ⟨hR.len, hR.has, fun c l hc => by simpa [w1] using hR.bnd c l hc, fun c x l hx hl => (hR.blk c x l hx hl).keep (.refl m) fun hlv => hget _ fun e => (hR.blk c x l hx hl).obj hlv (by rw [e]; exact h1), hR.sep⟩
      have hM1 : Marks lo m H w1 ds := by
        have : ∀ ds', mark r ∉ ds' → Marks lo m H w ds' → Marks lo m H w1 ds' := by
          intro ds' hn hM'
          induction hM' with
          | nil h => exact .nil (by simpa [w1] using h)
          | cons q es g0 g1 g2 g3 _ ih' =>
            have hq : q ≠ r := fun e => hn (by rw [e]; exact List.mem_cons_self ..)
            exact .cons q es g0 ((hget q hq).trans g1) g2 g3 (ih' fun h => hn (List.mem_cons_of_mem _ h))
        exact this ds h3 hM
      obtain ⟨w', k1, k2, k3, k4, k5, k6, k7⟩ := ih hM1 hR1
      refine ⟨w', fun b t td cs => .head (st_takeMark h1) (k1 b t td cs), k2, k3, k4, k5, by rw [k6]; simp [w1], fun g hg => (k7 g hg).trans (hget g (by omega))⟩
theorem st_end {b : Frame} {tmps : Array Value} {ds : List Deferred} {cs : List Frame} {w : World} (hb : b.roundOf = none) : step P (lone (onF b tmps ds []) cs w) = .next (lone { onF b tmps ds [] with mode := .returning } cs w) :=
  step_lone_go (by simp [stepG, stepG.exec, onF, hb])
theorem st_ret {b : Frame} {tmps : Array Value} {ds : List Deferred} {k : List Item} {cs : List Frame} {w : World} (hb : b.roundOf = none) : step P (lone (onF b tmps ds (.code .ret :: k)) cs w) = .next (lone { onF b tmps ds (.code .ret :: k) with mode := .returning } cs w) :=
  step_lone_go (by simp [stepG, stepG.exec, onF, hb])
def resOne (tmps : Array Value) : ResultVar → Sem Value
  | .tmp t => pure (tmps.getD t undef)
  | .cell c t => do loadVar t (← asAddr (tmps.getD c undef))
theorem results_eq (fn : Func) (tmps : Array Value) : results fn tmps = (do let vs ← fn.results.mapM (resOne tmps); pure (if h : vs.size = 1 then vs[0] else .tuple vs)) := by
  unfold results
  congr 2
theorem resList_sound {m : Mp} {H : Heap} {w : World} {nt : Nat} {a : Fr} {tmps : Array Value} (hR : Rel m H w) (hf : FR m nt a tmps) : ∀ {rs : List ResultVar} {vs : List Value}, rs.all (resOk nt) = true → resList P a H rs = some vs →
    ∃ vs', (rs.mapM (resOne tmps)).run P w = .ok vs' w ∧ All2 (AR m) vs vs' := by
  intro rs
  induction rs with
  | nil => intro vs _ h; simp only [resList] at h; injection h with h; subst h; exact ⟨[], rfl, .nil⟩
  | cons r rs ih =>
    intro vs hok h
    simp only [List.all_cons, Bool.and_eq_true] at hok
    have one : ∀ {v' : Value} {vs' : List Value}, (resOne tmps r).run P w = .ok v' w → (rs.mapM (resOne tmps)).run P w = .ok vs' w → ((r :: rs).mapM (resOne tmps)).run P w = .ok (v' :: vs') w := by
      intro v' vs' h1 h2
      simp only [List.mapM_cons, Sem.run_bind, h1, Result.andThen_ok, h2, Sem.run_pure]
    cases r with
    | tmp t =>
      simp only [resList] at h
      split at h
      · rename_i cs hs
        cases hr : resList P a H rs with
        | none => rw [hr] at h; cases h
        | some us =>
          rw [hr] at h
          simp only [Option.map_some] at h
          injection h with h
          subst h
          obtain ⟨vs', h1, h2⟩ := ih hok.2 hr
          have ht : t < nt := by simpa [resOk] using hok.1
          exact ⟨tmps.getD t undef :: vs', one rfl h1, .cons (scal_rel hs (hf.tmp ht)).2 h2⟩
      · cases h
    | cell t ty =>
      simp only [resList] at h
      split at h
      · rename_i v us hv hr
        injection h with h
        subst h
        obtain ⟨vs', h1, h2⟩ := ih hok.2 hr
        have ht : t < nt := by simpa [resOk] using hok.1
        obtain ⟨r', h3, h4⟩ := loadA_sound (P := P) hR hv (hf.tmp ht)
        refine ⟨r' :: vs', one ?_ h1, .cons h4 h2⟩
        have hp : ∃ ad, tmps.getD t undef = .pointer (some ad) := by
          have hx := hf.tmp ht
          unfold loadA at hv
          split at hv
          · rename_i b o hat
            rw [hat] at hx
            obtain ⟨l, _, e⟩ := hx.ptr_
            exact ⟨_, e⟩
          · cases hv
        obtain ⟨ad, hp⟩ := hp
        rw [hp] at h3
        simp only [Instr.loadAt, Instr.sureAddr, Sem.run_bind, Sem.run_pure, Result.andThen_ok] at h3
        simp only [resOne, Sem.run_bind, hp, asAddr, Sem.run_pure, Result.andThen_ok, h3]
      · cases h
theorem pack_sound {m : Mp} {vs vs' : List Value} (h : All2 (AR m) vs vs') : VR m (pack vs) (if h : vs'.toArray.size = 1 then vs'.toArray[0] else .tuple vs'.toArray) := by
  cases h with
  | nil => exact .tuple .nil
  | cons h t =>
    cases t with
    | nil => exact .a h
    | cons h' t => simp [pack]; exact .tuple (.cons h (.cons h' t))
theorem results_sound {m : Mp} {H : Heap} {w : World} {nt : Nat} {a : Fr} {tmps : Array Value} {fn : Func} {vs : List Value} (hR : Rel m H w) (hf : FR m nt a tmps) (hok : fn.results.toList.all (resOk nt) = true) (h : resList P a H fn.results.toList = some vs) :
    ∃ v', (results fn tmps).run P w = .ok v' w ∧ VR m (pack vs) v' := by
  obtain ⟨vs', h1, h2⟩ := resList_sound hR hf hok h
  refine ⟨_, ?_, pack_sound h2⟩
  have : (fn.results.mapM (resOne tmps)).run P w = .ok vs'.toArray w := by
    rw [Array.mapM_eq_mapM_toList, ← bind_pure_comp, Sem.run_bind, h1]
    rfl
  rw [results_eq]
  simp only [Sem.run_bind, this, Result.andThen_ok, Sem.run_pure]
theorem frOf_get (vs : List Value) : ∀ (t : Nat), frOf vs t = vs.getD t undef := by
  induction vs with
  | nil => intro t; simp [frOf]
  | cons v vs ih => intro t; cases t with | zero => simp [frOf] | succ t => simp [frOf, ih]
theorem frOf_rel {m : Mp} {vs vs' : List Value} {nt : Nat} (h : All2 (VR m) vs vs') (hle : vs.length ≤ nt) : FR m nt (frOf vs) (vs'.toArray ++ Array.replicate (nt - vs'.length) undef) := by
  have hl := h.length
  refine ⟨by simp; omega, fun t ht => ?_⟩
  rw [frOf_get]
  by_cases h1 : t < vs.length
  · obtain ⟨y, h2, h3⟩ := h.get t _ (List.getElem?_eq_getElem h1)
    refine ⟨y, ?_, ?_⟩
    · rw [Array.getElem?_append_left (by simp; omega)]
      simpa using h2
    · rw [List.getD_eq_getElem?_getD, List.getElem?_eq_getElem h1]; exact h3
  · refine ⟨undef, ?_, ?_⟩
    · rw [Array.getElem?_append_right (by simp; omega), Array.getElem?_replicate, if_pos (by simp; omega)]
    · rw [List.getD_eq_getElem?_getD, List.getElem?_eq_none (by omega)]; exact .undef m
theorem cap_rel {m : Mp} {l l' : List Value} (h : All2 (PR m) l l') : All2 (VR m) l l' := h.mono fun _ _ h => by cases h with | ptr b o l hl => exact .a (.s (.ptr b o l hl))
/-- A function's body, from its entry to where it leaves. -/
theorem func_sim {call : CallF} {n : Nat} (hcall : CallOK P call) (hdraw : ∀ nt, DrawOK P call nt) {f : FuncId} {fn : Func} {c : Code} (hfn : P.funcs[f]? = some fn) (hbody : fn.body = some c) (hok : funcOk fn c = true) {vs vs' : List Value} (hle : vs.length ≤ fn.ntmps)
    {H H' : Heap} {a : Fr} {x : X} (hx : x = .normal ∨ x = .ret) {rs : List Value} (hev : evCode P call n fn.ntmps none c (frOf vs) H = some (x, a, H')) (hres : resList P a H' fn.results.toList = some rs) {m : Mp} {w : World} (hR : Rel m H w) (hvs : All2 (VR m) vs vs') :
    ∃ m' w' v', Sim m H w m' H' w' ∧ VR m' (pack rs) v' ∧ Calls P f vs'.toArray w fun e w2 => e = .returned v' ∧ w2 = w' := by
  unfold funcOk at hok
  simp only [Bool.and_eq_true] at hok
  let b : Frame := { (default : Frame) with fn := f, kind := .normal, roundOf := none }
  have hf := frOf_rel hvs hle
  obtain ⟨m1, w1, t1, d1, s1, s2, s3, _, s5⟩ := code_sim (lo := w.heap.size) hcall (hdraw fn.ntmps) b none n c hok.1.1 hev hR hf (.nil (Nat.le_refl _)) rfl (fun h => absurd rfl h)
  have enter : ∀ cs, lone (Frame.enter P f vs'.toArray .normal) cs w = lone (onF b (vs'.toArray ++ Array.replicate (fn.ntmps - vs'.length) undef) [] [.code c]) cs w := by
    intro cs
    simp [Frame.enter, hfn, hbody, onF, b]
  have leave : ∀ cs, ∃ todo, Steps P (lone (Frame.enter P f vs'.toArray .normal) cs w) (lone { onF b t1 d1 todo with mode := .returning } cs w1) := by
    intro cs
    rcases hx with rfl | rfl
    · exact ⟨[], by rw [enter]; exact Steps.trans (s5 [] cs) (.one (st_end rfl))⟩
    · obtain ⟨k', hk⟩ := s5 [] cs
      exact ⟨_, by rw [enter]; exact Steps.trans hk (.one (st_ret rfl))⟩
  obtain ⟨w2, k1, k2, k3, k4, k5, k6, k7⟩ := take_marks (P := P) d1 s3 s1.rel
  have hsim : Sim m H w m1 H' w2 := ⟨s1.ext, k2, ⟨k3.trans s1.keep.os, k4.trans s1.keep.tape, k5.trans s1.keep.output, by rw [k6]; exact s1.keep.size, fun g hg hn => (k7 g hg).trans (s1.keep.block g hg hn)⟩, s1.fresh, s1.grow, s1.img⟩
  obtain ⟨v', r1, r2⟩ := results_sound (P := P) k2 s2 hok.1.2 hres
  refine ⟨m1, w2, v', hsim, r2, fun cs => ?_⟩
  obtain ⟨todo, hs⟩ := leave cs
  exact ⟨.returned v', w2, _, ⟨rfl, rfl⟩, hs.trans (k1 b t1 todo cs), rfl, rfl, rfl, rfl, fn, hfn, r1⟩
theorem putAll_rel {m : Mp} {nt : Nat} : ∀ {ps : List Nat} {vs vs' : List Value} {a : Fr} {tmps : Array Value}, All2 (VR m) vs vs' → FR m nt a tmps → FR m nt (putAll a ps vs) ((ps.zip vs').foldl (fun tmps (p : Nat × Value) => tmps.setIfInBounds p.1 p.2) tmps) := by
  intro ps
  induction ps with
  | nil => intro vs vs' a tmps _ hf; cases vs <;> exact hf
  | cons p ps ih =>
    intro vs vs' a tmps hv hf
    cases hv with
    | nil => exact hf
    | cons h t => exact ih t (hf.put h p)
theorem st_begin {b : Frame} {tmps : Array Value} {ds : List Deferred} {k : List Item} {cs : List Frame} {w w' : World} {g : Nat} (hb : b.roundOf = some g) (hr : (Instr.beginRound g).run P w = .ok () w') :
    step P (lone (onF b tmps ds (.beginRound :: k)) cs w) = .next (lone (onF b tmps ds k) cs w') :=
  step_lone_go (by simp [stepG, stepG.exec, onF, hb, stepG.apply, hr, Frame.finish])
theorem st_roundEnd {b : Frame} {tmps : Array Value} {ds : List Deferred} {todo : List Item} {fr : Frame} {cs : List Frame} {w w' : World} {g : Nat} {v : Value} (jump : Option Code) (hb : b.roundOf = some g) (hk : b.kind = .normal)
    (htodo : (todo = [] ∧ jump = none) ∨ (∃ k, todo = .code .ret :: k ∧ jump = some .ret) ∨ (∃ id k, todo = .code (.exit id) :: k ∧ exitTo id k = none ∧ jump = some (.exit id)))
    (hr : (Instr.endRound g jump).run P w = .ok v w') : step P (lone (onF b tmps ds todo) (fr :: cs) w) = .next (lone (fr.finish v) cs w') := by
  refine step_lone_go ?_
  rcases htodo with ⟨rfl, rfl⟩ | ⟨k, rfl, rfl⟩ | ⟨id, k, rfl, he, rfl⟩
  · simp [stepG, stepG.exec, onF, hb, hr, doReturn, hk]
  · simp [stepG, stepG.exec, onF, hb, hr, doReturn, hk]
  · simp [stepG, stepG.exec, onF, hb, hr, doReturn, hk, he]
/-- A round: from its entry to yield's return. -/
theorem round_sim {call : CallF} {n : Nat} (hcall : CallOK P call) (hdraw : ∀ nt, DrawOK P call nt) {l nt : Nat} {assign body : Code} {H H1 H2 : Heap} {a1 a2 : Fr} {x : X} {loc : Loc} {m : Mp} {w : World} {a : Fr} {tmps : Array Value}
    (hoka : codeOk nt assign = true) (hokb : codeOk nt body = true) (f : FuncId)
    {st2 : LoopState} {pd1 pd2 : Option Code} {nt1 nt2 : Nat} {tm1 tm2 : Fr} {pr1 pr2 : List Nat} {as1 as2 bd1 bd2 : Code}
    (hR : Rel m H w) (hf : FR m nt a tmps) (hl : m l = some loc)
    (h1 : evCode P call n nt (some l) assign a H = some (.normal, a1, H1)) (hl1 : H1[l]? = some (.loop .ready pd1 nt1 tm1 pr1 as1 bd1))
    (h2 : evCode P call n nt (some l) body a1 (H1.set l (.loop .busy pd1 nt1 tm1 pr1 as1 bd1)) = some (x, a2, H2)) (hl2 : H2[l]? = some (.loop st2 pd2 nt2 tm2 pr2 as2 bd2)) :
    ∃ m' w', Sim m H w m' (H2.set l (.loop (xState x) (xJump x) nt2 tm2 pr2 as2 bd2)) w' ∧
      ∀ fr cs, Steps P (lone (Frame.round loc.g f tmps assign body .normal) (fr :: cs) w) (lone (fr.finish (.bool (xBool x))) cs w') := by
  have busySet : ∀ {mm : Mp} {HH : Heap} {ww : World} {st pd nn tm pr as bd}, Rel mm HH ww → mm l = some loc → HH[l]? = some (.loop st pd nn tm pr as bd) → ∀ st' pd', ∃ fn ds tm', ww.heap[loc.g]? = some (.loop { state := st, pending := pd, fn := fn, tmps := tm', params := pr.toArray, assign := as, body := bd, defers := ds }) ∧
      Sim mm HH ww mm (HH.set l (.loop st' pd' nn tm pr as bd)) { ww with heap := ww.heap.setIfInBounds loc.g (.loop { state := st', pending := pd', fn := fn, tmps := tm', params := pr.toArray, assign := as, body := bd, defers := ds }) } := by
    intro mm HH ww st pd nn tm pr as bd hRR hll hb st' pd'
    obtain ⟨fn, ds, tm', e1, e2⟩ := hRR.blk l _ loc hb hll
    refine ⟨fn, ds, tm', e1, Sim.setObj hRR hb hll rfl (.loop ..) (fun _ _ _ e => by cases e) ⟨fn, ds, tm', ?_, e2⟩⟩
    have hlt : loc.g < ww.heap.size := by
      rcases Nat.lt_or_ge loc.g ww.heap.size with hlt | hge
      · exact hlt
      · rw [Array.getElem?_eq_none hge] at e1; cases e1
    simp only
    rw [Array.getElem?_setIfInBounds, if_pos rfl, if_pos hlt]
  let b : Frame := { (default : Frame) with fn := f, kind := .normal, roundOf := some loc.g }
  -- the assignment to the loop's variables
  obtain ⟨m1, w1, t1, d1, s1, s2, s3, s4, s5⟩ := code_sim (lo := 0) hcall (hdraw nt) b (some l) n assign hoka h1 hR hf (.nil (Nat.zero_le _)) ⟨loc, hl, rfl⟩ (fun _ => rfl)
  obtain rfl : d1 = [] := s4 (by simp)
  obtain ⟨fn1, ds1, tm1', e1, q1⟩ := busySet s1.rel (s1.ext _ _ hl) hl1 .busy pd1
  obtain ⟨m2, w2, t2, d2, r1, r2, r3, r4, r5⟩ := code_sim (lo := 0) hcall (hdraw nt) b (some l) n body hokb h2 q1.rel s2 (.nil (Nat.zero_le _)) ⟨loc, s1.ext _ _ hl, rfl⟩ (fun _ => rfl)
  obtain rfl : d2 = [] := r4 (by simp)
  have hl2' := r1.ext _ _ (s1.ext _ _ hl)
  obtain ⟨fn2, ds2, tm2', e2, q2⟩ := busySet r1.rel hl2' hl2 (xState x) (xJump x)
  refine ⟨m2, _, ((s1.trans q1).trans r1).trans q2, fun fr cs => ?_⟩
  have start : Frame.round loc.g f tmps assign body .normal = onF b tmps [] (.code assign :: [.beginRound, .code body]) := rfl
  rw [start]
  have hbegin : (Instr.beginRound loc.g).run P w1 = .ok () { w1 with heap := w1.heap.setIfInBounds loc.g (.loop { state := .busy, pending := pd1, fn := fn1, tmps := tm1', params := pr1.toArray, assign := as1, body := bd1, defers := ds1 }) } := by
    simp [Instr.beginRound, Instr.getLoop, getObj, setObj, Sem.run, e1]
  have hend : ∀ jump : Option Code, (Instr.endRound loc.g jump).run P w2 = .ok (.bool jump.isNone) { w2 with heap := w2.heap.setIfInBounds loc.g (.loop { state := if jump.isNone then .ready else .done, pending := jump, fn := fn2, tmps := tm2', params := pr2.toArray, assign := as2, body := bd2, defers := ds2 }) } := by
    intro jump
    simp [Instr.endRound, Instr.getLoop, getObj, setObj, Sem.run, e2]
  refine Steps.trans (s5 [.beginRound, .code body] (fr :: cs)) (.head (st_begin rfl hbegin) ?_)
  have hlast := r5 [] (fr :: cs)
  cases x with
  | normal => exact Steps.trans hlast (.one (st_roundEnd none rfl rfl (.inl ⟨rfl, rfl⟩) (hend none)))
  | exit id =>
    obtain ⟨k', g1, g2⟩ := hlast
    exact Steps.trans g2 (.one (st_roundEnd (some (.exit id)) rfl rfl (.inr (.inr ⟨id, k', rfl, by rw [g1]; rfl, rfl⟩)) (hend (some (.exit id)))))
  | ret =>
    obtain ⟨k', g2⟩ := hlast
    exact Steps.trans g2 (.one (st_roundEnd (some .ret) rfl rfl (.inr (.inl ⟨k', rfl, rfl⟩)) (hend (some .ret))))
/-- The evaluator's calls are the world's, if its regions are. -/
theorem apply_sim (hmix : P.follows .mixedOrders = true) : ∀ n, CallOK P (evApply P n) := by
  intro n
  induction n with
  | zero => intro fv args H v H' h; simp [evApply] at h
  | succ n ih =>
    intro fv args H v H' h m w fv' args' hR hfv hargs
    have hd := fun nt => drawOK hmix ih (evApply_grow P n) nt
    unfold evApply at h
    split at h
    · rename_i f first captured
      split at h
      case h_2 => cases h
      rename_i fn hfn
      split at h
      case h_2 => cases h
      rename_i c hbody
      split at h
      case isFalse => cases h
      rename_i hcond
      obtain ⟨hok, hfirst, hle⟩ := hcond
      have hfv' : ∃ cap', fv' = .func (.func f) #[] cap' ∧ All2 (PR m) captured.toList cap'.toList := by
        cases hfv with
        | a h => cases h with
          | s h => cases h with
            | func f cap cap' hc => exact ⟨cap', rfl, hc⟩
      obtain ⟨cap', rfl, hcap⟩ := hfv'
      have hvs : All2 (VR m) (args ++ captured.toList) (args'.toList ++ cap'.toList) := hargs.append (cap_rel hcap)
      have fin : ∀ (x : X) (a : Fr) (H1 : Heap) rs, (x = .normal ∨ x = .ret) → evCode P (evApply P n) n fn.ntmps none c (frOf (args ++ captured.toList)) H = some (x, a, H1) → resList P a H1 fn.results.toList = some rs → v = pack rs → H' = H1 →
          ∃ nx sf m' w' v', (do let d ← Deferred.ofValue (.func (.func f) #[] cap') args'; invoke d.target d.args).run P w = .ok nx w ∧ Starts P nx sf ∧ Sim m H w m' H' w' ∧ VR m' v v' ∧ ∀ fr cs, Steps P (lone sf (fr :: cs) w) (lone (fr.finish v') cs w') := by
        rintro x a H1 rs hx hev hres rfl rfl
        obtain ⟨m', w', v', s1, s2, s3⟩ := func_sim ih hd hfn hbody hok hle hx hev hres hR hvs
        refine ⟨.enter f (args' ++ cap'), Frame.enter P f (args' ++ cap') .normal, m', w', v', ?_, .enter _ _, s1, s2, fun fr cs => ?_⟩
        · have hname : ¬ fn.name = "runtime.NumGoroutine" := by
            unfold funcOk at hok
            simp only [Bool.and_eq_true, bne_iff_ne, ne_eq] at hok
            exact hok.2
          simp [Deferred.ofValue, invoke, callFunc, program, Sem.run, hfn, hname, hbody]
        · obtain ⟨e, w2, fr2, ⟨rfl, rfl⟩, k1, _, k2⟩ := s3 (fr :: cs)
          have : (args'.toList ++ cap'.toList).toArray = args' ++ cap' := by simp
          rw [this] at k1
          exact Steps.trans k1 (.one (step_leave_returned k2))
      split at h
      · rename_i a H1 hev
        cases hr : resList P a H1 fn.results.toList with
        | none => rw [hr] at h; cases h
        | some rs =>
          rw [hr] at h
          simp only [Option.map_some] at h
          injection h with h; injection h with h1 h2
          exact fin _ a H1 rs (.inl rfl) hev hr h1.symm h2.symm
      · rename_i a H1 hev
        cases hr : resList P a H1 fn.results.toList with
        | none => rw [hr] at h; cases h
        | some rs =>
          rw [hr] at h
          simp only [Option.map_some] at h
          injection h with h; injection h with h1 h2
          exact fin _ a H1 rs (.inr rfl) hev hr h1.symm h2.symm
      · cases h
    · rename_i l fi ca
      split at h
      case h_2 => cases h
      rename_i pd0 nt tm0 pr0 as0 bd0 hl0
      split at h
      case isFalse => cases h
      rename_i hlen
      split at h
      case h_2 => cases h
      rename_i a1 H1 hev1
      split at h
      case h_2 => cases h
      rename_i pd1 nt1 tm1 pr1 as1 bd1 hl1
      split at h
      case h_2 => cases h
      rename_i x a2 H2 hev2
      split at h
      case h_2 => cases h
      rename_i st2 pd2 nt2 tm2 pr2 as2 bd2 hl2
      injection h with h; injection h with e1 e2
      subst e1; subst e2
      have hfv' : ∃ loc, m l = some loc ∧ fv' = .func (.yield loc.g) #[] #[] := by
        cases hfv with
        | a h => cases h with
          | s h => cases h with
            | yield b loc hl => exact ⟨loc, hl, rfl⟩
      obtain ⟨loc, hl, rfl⟩ := hfv'
      obtain ⟨f, ds, tmps', hobj, hf0, hoka, hokb, hokp⟩ := hR.blk l _ loc hl0 hl
      have hf := putAll_rel (ps := pr0) hargs hf0
      obtain ⟨m', w', s1, s2⟩ := round_sim ih hd (l := l) (nt := nt) hoka hokb f hR hf hl hev1 hl1 hev2 hl2
      refine ⟨.round loc.g f ((pr0.zip args'.toList).foldl (fun tmps (p : Nat × Value) => tmps.setIfInBounds p.1 p.2) tmps') as0 bd0, _, m', w', .bool (xBool x), ?_, .round _ _ _ _ _, s1, .a (.s (.bool _)), s2⟩
      have hsz : args'.size = pr0.length := by have := hargs.length; simp at this; omega
      have hfold : (pr0.toArray.zip args').foldl (fun tmps (p : Nat × Value) => tmps.setIfInBounds p.1 p.2) tmps' = (pr0.zip args'.toList).foldl (fun tmps (p : Nat × Value) => tmps.setIfInBounds p.1 p.2) tmps' := by
        rw [← Array.foldl_toList, Array.toList_zip]
      simp only [Deferred.ofValue, invoke, Instr.yield, Instr.getLoop, getObj, Sem.run_bind, Sem.run_pure, Result.andThen_ok, Sem.run, hobj]
      have hz : (pr0.toArray.zip args').size = pr0.length := by simp [hsz]
      simp [hsz]
      rw [← hz]
      exact hfold
    · cases h
end
end Go.Abs
