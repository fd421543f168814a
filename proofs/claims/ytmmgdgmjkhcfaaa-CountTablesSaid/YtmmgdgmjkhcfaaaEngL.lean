/- Code: sequences, tests, loops, ranges over functions. (A region that draws its order: EngK.) -/
import Derived.Test.YtmmgdgmjkhcfaaaEngK
namespace Go.Abs
def mark (r : Nat) : Deferred := { target := .collected r, args := #[] }
/-- The blocks for the deferred calls of the loops over functions: each there, empty, nobody's. -/
inductive Marks (lo : Nat) (m : Mp) (H : Heap) (w : World) : List Deferred → Prop
  | nil : lo ≤ w.heap.size → Marks lo m H w []
  | cons (r : Nat) (ds : List Deferred) : lo ≤ r → w.heap[r]? = some (.deferred (some [])) → ¬ Owned m H r → mark r ∉ ds → Marks lo m H w ds → Marks lo m H w (mark r :: ds)
theorem Marks.le {lo : Nat} {m : Mp} {H : Heap} {w : World} {ds : List Deferred} (h : Marks lo m H w ds) : lo ≤ w.heap.size := by
  induction h with
  | nil h => exact h
  | cons _ _ _ _ _ _ _ ih => exact ih
theorem Marks.sim {lo : Nat} {m m' : Mp} {H H' : Heap} {w w' : World} {ds : List Deferred} (h : Marks lo m H w ds) (hs : Sim m H w m' H' w') : Marks lo m' H' w' ds := by
  induction h with
  | nil h => exact .nil (Nat.le_trans h hs.keep.size)
  | cons r ds h0 h1 h2 h3 _ ih =>
    have hlt : r < w.heap.size := by
      rcases Nat.lt_or_ge r w.heap.size with hlt | hge
      · exact hlt
      · rw [Array.getElem?_eq_none hge] at h1; cases h1
    refine .cons r ds h0 ((hs.keep.block r hlt h2).trans h1) (fun ho => ?_) h3 ih
    rcases hs.fresh r ho with ho | ho
    · exact h2 ho
    · omega
def RdR (m : Mp) (b : Frame) : Option Nat → Prop
  | none => b.roundOf = none
  | some L => ∃ l, m L = some l ∧ b.roundOf = some l.g
theorem RdR.mono {m m' : Mp} (hm : Ext m m') {b : Frame} {rd : Option Nat} (h : RdR m b rd) : RdR m' b rd := by
  cases rd with
  | none => exact h
  | some L => obtain ⟨l, h1, h2⟩ := h; exact ⟨l, hm _ _ h1, h2⟩
def Arrive (P : Program) (b : Frame) (tmps : Array Value) (ds : List Deferred) (c : Code) (k : List Item) (cs : List Frame) (w : World) (x : X) (tmps' : Array Value) (ds' : List Deferred) (w' : World) : Prop :=
  match x with
  | .normal => Steps P (lone (onF b tmps ds (.code c :: k)) cs w) (lone (onF b tmps' ds' k) cs w')
  | .exit id => ∃ k', exitTo id k' = exitTo id k ∧ Steps P (lone (onF b tmps ds (.code c :: k)) cs w) (lone (onF b tmps' ds' (.code (.exit id) :: k')) cs w')
  | .ret => ∃ k', Steps P (lone (onF b tmps ds (.code c :: k)) cs w) (lone (onF b tmps' ds' (.code .ret :: k')) cs w')
section
variable {P : Program} {call : CallF} {nt lo : Nat}
theorem Owned.lt {m : Mp} {H : Heap} {w : World} (hR : Rel m H w) {g : Nat} (h : Owned m H g) : g < w.heap.size := by
  obtain ⟨b, x, l, h1, h2, h3, rfl⟩ := h
  exact (hR.blk b x l h1 h2).lt (by cases x <;> first | rfl | cases h3)
def OutC (P : Program) (nt lo : Nat) (b : Frame) (rd : Option Nat) (c : Code) (m : Mp) (H : Heap) (w : World) (tmps : Array Value) (ds : List Deferred) (x : X) (a' : Fr) (H' : Heap) : Prop :=
  ∃ m' w' tmps' ds', Sim m H w m' H' w' ∧ FR m' nt a' tmps' ∧ Marks lo m' H' w' ds' ∧ (rd ≠ none → ds' = []) ∧ ∀ k cs, Arrive P b tmps ds c k cs w x tmps' ds' w'
theorem range_sim (hcall : CallOK P call) (b : Frame) (rd : Option Nat) {f : Operand} {params : Array Tmp} {assign body : Code} (hok : codeOk nt (.rangeFunc f params assign body) = true) {kk : Nat} {a a' : Fr} {H H' : Heap} {x : X}
    (h : evCode P call kk nt rd (.rangeFunc f params assign body) a H = some (x, a', H')) {m : Mp} {w : World} {tmps : Array Value} {ds : List Deferred} (hR : Rel m H w) (hf : FR m nt a tmps) (hM : Marks lo m H w ds) (hrd : RdR m b rd) (hds : rd ≠ none → ds = []) :
    OutC P nt lo b rd (.rangeFunc f params assign body) m H w tmps ds x a' H' := by
  simp only [codeOk, Bool.and_eq_true] at hok
  obtain ⟨⟨⟨hokf, hokp⟩, hoka⟩, hokb⟩ := hok
  simp only [evCode] at h
  split at h
  case isFalse => cases h
  rename_i hrdok
  split at h
  case h_2 => cases h
  rename_i v H2 hc
  split at h
  case h_2 => cases h
  rename_i st pend nt2 t2 p2 a2 b2 hloop
  split at h
  · cases h
  rename_i hst
  split at h
  case h_2 => cases h
  rename_i xx hj
  injection h with h; injection h with h1 h2; injection h2 with h2 h3
  subst h1; subst h2; subst h3
  -- the loop's block is laid
  have lay : ∃ (w1 : World) (dr g : Nat) (mk : List Deferred), (Instr.enterLoop b.fn tmps params assign body b.roundOf).run P w = .ok (g, mk) w1 ∧ Sim m H w (psh m H.length ⟨g, 0, 0⟩) (H ++ [.loop .ready none nt a params.toList assign body]) w1 ∧
      Marks lo (psh m H.length ⟨g, 0, 0⟩) (H ++ [.loop .ready none nt a params.toList assign body]) w1 (mk ++ ds) ∧ (rd ≠ none → mk = []) := by
    cases rd with
    | none =>
      have hb : b.roundOf = none := hrd
      have s1 := Sim.junk hR (.deferred (some []))
      have hf1 := hf.mono s1.ext
      have s2 := Sim.push s1.rel (.loop { state := .ready, pending := none, fn := b.fn, tmps := tmps, params := params, assign := assign, body := body, defers := w.heap.size }) (.loop .ready none nt a params.toList assign body)
        ⟨(w.heap.push (.deferred (some []))).size, 0, 0⟩ rfl rfl ⟨b.fn, w.heap.size, tmps, by simp only; rw [Array.getElem?_push, if_pos rfl], hf.mono (.push _ hR.free), hoka, hokb, by simpa using hokp⟩
      refine ⟨_, w.heap.size, _, [mark w.heap.size], ?_, s1.trans s2, ?_, fun h => absurd rfl h⟩
      · rw [hb]; rfl
      · have hM2 := hM.sim (s1.trans s2)
        refine .cons _ _ hM.le ?_ ?_ ?_ hM2
        · simp only
          rw [Array.getElem?_push, if_neg (by simp), heap_push_eq]
        · rintro ⟨c, y, l, q1, q2, q3, q4⟩
          by_cases hcl : c = H.length
          · subst hcl
            rw [psh_new] at q2
            injection q2 with q2
            subst q2
            simp at q4
          · have hlt : c < H.length := by have := lt_of_get q1; simp at this; omega
            rw [List.getElem?_append_left hlt] at q1
            rw [psh_old _ hcl] at q2
            have := Owned.lt hR ⟨c, y, l, q1, q2, q3, q4⟩
            omega
        · intro hin
          have : ∀ ds, Marks lo m H w ds → mark w.heap.size ∉ ds := by
            intro ds hM
            induction hM with
            | nil _ => simp
            | cons r ds h0 h1 h2 h3 h4 ih =>
              intro hin
              rcases List.mem_cons.1 hin with e | e
              · have : w.heap.size = r := by unfold mark at e; injection e with e _; injection e
                rw [← this] at h1
                simp at h1
              · exact ih e
          exact this ds hM hin
    | some L =>
      obtain ⟨l, hl, hb⟩ := hrd
      unfold rdOk at hrdok
      simp only at hrdok
      split at hrdok
      · rename_i st0 pd0 nt0 tm0 pr0 as0 bd0 hL
        obtain ⟨fn0, dd, tt, q1, _⟩ := hR.blk L _ l hL hl
        have s2 := Sim.push hR (.loop { state := .ready, pending := none, fn := b.fn, tmps := tmps, params := params, assign := assign, body := body, defers := dd }) (.loop .ready none nt a params.toList assign body)
          ⟨w.heap.size, 0, 0⟩ rfl rfl ⟨b.fn, dd, tmps, by simp only; rw [Array.getElem?_push, if_pos rfl], hf.mono (.push _ hR.free), hoka, hokb, by simpa using hokp⟩
        refine ⟨_, 0, _, [], ?_, s2, hM.sim s2, fun _ => rfl⟩
        simp [Instr.enterLoop, hb, Instr.getLoop, getObj, newObj, Sem.run, q1]
      · cases hrdok
  obtain ⟨w1, _, g, mk, hrun, hs1, hM1, hmk⟩ := lay
  have hloc : psh m H.length ⟨g, 0, 0⟩ H.length = some (⟨g, 0, 0⟩ : Loc) := getLast_loc hR _
  have hfv := (hf.mono hs1.ext).opnd (x := f) hokf
  obtain ⟨nx, sf, m2, w2, v', c1, c2, c3, c4, c5⟩ := hcall _ _ _ _ _ hc (psh m H.length ⟨g, 0, 0⟩) w1 (evC tmps f) #[.func (.yield g) #[] #[]] hs1.rel hfv (.cons (.a (.s (.yield _ _ hloc))) .nil)
  have hloc2 := c3.ext _ _ hloc
  obtain ⟨fn2, dd2, tm2, e1, _⟩ := c3.rel.blk H.length _ _ hloop hloc2
  have hs3 := Sim.setObj (o := .loop { state := .exhausted, pending := pend, fn := fn2, tmps := tm2, params := p2.toArray, assign := a2, body := b2, defers := dd2 }) c3.rel hloop hloc2 rfl (.dead _) (fun _ _ _ e => by cases e) trivial
  have hsim := (hs1.trans c3).trans hs3
  refine ⟨m2, _, tmps, mk ++ ds, hsim, hf.mono hsim.ext, (hM1.sim c3).sim hs3, fun h => by rw [hmk h, hds h]; rfl, fun k cs => ?_⟩
  -- the steps
  have step1 : step P (lone (onF b tmps ds (.code (.rangeFunc f params assign body) :: k)) cs w) = .next (lone sf (onF b tmps (mk ++ ds) (.inRangeFunc g :: k) :: cs) w1) := by
    refine step_lone_go ?_
    have hev := onF_eval b tmps (mk ++ ds) (.inRangeFunc g :: k)
    simp only [onF] at hev
    have hinv : (do let d ← resolve (evC tmps) { callee := .value f, args := #[.const (.func (.yield g) #[] #[])], argTypes := #[] } 0; invoke d.target d.args : Sem Next).run P w1 = .ok nx w1 := by
      simpa [resolve, evC] using c1
    simp only [stepG, stepG.exec, onF, Sem.runT_eq, hrun, GStep.bare_after, hev]
    cases c2 with
    | enter f' args' => simp [stepG.apply, hinv]
    | round l' f' t' a' b' => simp [stepG.apply, hinv]
  have hfin : (onF b tmps (mk ++ ds) (.inRangeFunc g :: k)).finish v' = onF b tmps (mk ++ ds) (.endRangeFunc g :: k) := rfl
  have step2 : step P (lone (onF b tmps (mk ++ ds) (.endRangeFunc g :: k)) cs w2) = .next (lone (onF b tmps (mk ++ ds) ((pend.map Item.code).toList ++ k)) cs
      { w2 with heap := w2.heap.setIfInBounds g (.loop { state := .exhausted, pending := pend, fn := fn2, tmps := tm2, params := p2.toArray, assign := a2, body := b2, defers := dd2 }) }) := by
    refine step_lone_go ?_
    have hend : (Instr.endLoop g).run P w2 = .ok pend { w2 with heap := w2.heap.setIfInBounds g (.loop { state := .exhausted, pending := pend, fn := fn2, tmps := tm2, params := p2.toArray, assign := a2, body := b2, defers := dd2 }) } := by
      simp only at e1
      simp [Instr.endLoop, Instr.getLoop, getObj, setObj, Sem.run, e1]
      exact fun e => absurd e hst
    simp only [stepG, stepG.exec, onF, Sem.runT_eq, hend, GStep.bare_after]
    rfl
  have steps : Steps P (lone (onF b tmps ds (.code (.rangeFunc f params assign body) :: k)) cs w) (lone (onF b tmps (mk ++ ds) ((pend.map Item.code).toList ++ k)) cs _) :=
    .head step1 ((c5 _ _).trans (by rw [hfin]; exact .one step2))
  cases pend with
  | none => simp only [jumpX] at hj; injection hj with hj; subst hj; exact steps
  | some j =>
    cases j <;> first | (simp only [jumpX] at hj; cases hj; done) | skip
    · simp only [jumpX] at hj; injection hj with hj; subst hj; exact ⟨k, rfl, steps⟩
    · simp only [jumpX] at hj; injection hj with hj; subst hj; exact ⟨k, steps⟩
theorem exitTo_pass {id : Nat} {x : Item} {k : List Item} (hx : x.plain = true) : exitTo id (x :: k) = exitTo id k := by cases x <;> first | rfl | cases hx
theorem loop_sim (b : Frame) (rd : Option Nat) {c : Code} {f : Fr → Heap → Option (X × Fr × Heap)} (hc : ∀ {a a' : Fr} {H H' : Heap} {x : X} {m : Mp} {w : World} {tmps : Array Value} {ds : List Deferred}, f a H = some (x, a', H') → Rel m H w → FR m nt a tmps → Marks lo m H w ds → RdR m b rd →
      (rd ≠ none → ds = []) → OutC P nt lo b rd c m H w tmps ds x a' H') : ∀ (n : Nat) {a a' : Fr} {H H' : Heap} {x : X} {m : Mp} {w : World} {tmps : Array Value} {ds : List Deferred}, loopN f n a H = some (x, a', H') → Rel m H w → FR m nt a tmps → Marks lo m H w ds → RdR m b rd →
      (rd ≠ none → ds = []) → ∃ m' w' tmps' ds', Sim m H w m' H' w' ∧ FR m' nt a' tmps' ∧ Marks lo m' H' w' ds' ∧ (rd ≠ none → ds' = []) ∧ ∀ k cs, match x with
        | .normal => False
        | .exit id => ∃ k', exitTo id k' = exitTo id k ∧ Steps P (lone (onF b tmps ds (.code c :: .inLoop c :: k)) cs w) (lone (onF b tmps' ds' (.code (.exit id) :: k')) cs w')
        | .ret => ∃ k', Steps P (lone (onF b tmps ds (.code c :: .inLoop c :: k)) cs w) (lone (onF b tmps' ds' (.code .ret :: k')) cs w') := by
  intro n
  induction n with
  | zero => intro a a' H H' x m w tmps ds h; simp [loopN] at h
  | succ n ih =>
    intro a a' H H' x m w tmps ds h hR hf hM hrd hds
    rw [loopN] at h
    split at h
    · rename_i a1 H1 h1
      obtain ⟨m1, w1, t1, d1, s1, s2, s3, s4, s5⟩ := hc h1 hR hf hM hrd hds
      obtain ⟨m2, w2, t2, d2, q1, q2, q3, q4, q5⟩ := ih h s1.rel s2 s3 (hrd.mono s1.ext) s4
      refine ⟨m2, w2, t2, d2, s1.trans q1, q2, q3, q4, fun k cs => ?_⟩
      have hs := s5 (.inLoop c :: k) cs
      simp only [Arrive] at hs
      have hq := q5 k cs
      have hs' := hs.trans (.one st_inLoop)
      cases x with
      | normal => exact hq
      | exit id => obtain ⟨k', e1, e2⟩ := hq; exact ⟨k', e1, hs'.trans e2⟩
      | ret => obtain ⟨k', e2⟩ := hq; exact ⟨k', hs'.trans e2⟩
    · rename_i hne
      obtain ⟨m1, w1, t1, d1, s1, s2, s3, s4, s5⟩ := hc h hR hf hM hrd hds
      refine ⟨m1, w1, t1, d1, s1, s2, s3, s4, fun k cs => ?_⟩
      have hs := s5 (.inLoop c :: k) cs
      cases x with
      | normal => exact hne _ _ h
      | exit id => obtain ⟨k', e1, e2⟩ := hs; exact ⟨k', by rw [e1, exitTo_pass rfl], e2⟩
      | ret => obtain ⟨k', e2⟩ := hs; exact ⟨k', e2⟩
theorem code_sim (hcall : CallOK P call) (hdraw : DrawOK P call nt) (b : Frame) (rd : Option Nat) (kk : Nat) : ∀ (c : Code), codeOk nt c = true → ∀ {a a' : Fr} {H H' : Heap} {x : X} {m : Mp} {w : World} {tmps : Array Value} {ds : List Deferred},
    evCode P call kk nt rd c a H = some (x, a', H') → Rel m H w → FR m nt a tmps → Marks lo m H w ds → RdR m b rd → (rd ≠ none → ds = []) → OutC P nt lo b rd c m H w tmps ds x a' H' := by
  intro c
  induction c with
  | skip =>
    intro _ a a' H H' x m w tmps ds h hR hf hM hrd hds
    simp only [evCode] at h
    injection h with h; injection h with h1 h2; injection h2 with h2 h3; subst h1; subst h2; subst h3
    exact ⟨m, w, tmps, ds, .refl hR, hf, hM, hds, fun k cs => .one st_skip⟩
  | label l =>
    intro _ a a' H H' x m w tmps ds h hR hf hM hrd hds
    simp only [evCode] at h
    injection h with h; injection h with h1 h2; injection h2 with h2 h3; subst h1; subst h2; subst h3
    exact ⟨m, w, tmps, ds, .refl hR, hf, hM, hds, fun k cs => .one st_label⟩
  | region id ops draw =>
    intro hok a a' H H' x m w tmps ds h hR hf hM hrd hds
    simp only [codeOk, Bool.and_eq_true] at hok
    have hops : ∀ o ∈ ops.toList, operOk nt o = true := List.all_eq_true.1 hok.1
    cases draw with
    | false =>
      simp only [evCode] at h
      split at h
      · rename_i a1 H1 h1
        injection h with h; injection h with h1 h2; injection h2 with h2 h3; subst h1; subst h2; subst h3
        obtain ⟨m1, w1, t1, s1, s2, s3⟩ := ops_sim hcall hops ops.toList 0 rfl hR hf h1
        refine ⟨m1, w1, t1, ds, s1, s2, hM.sim s1, hds, fun k cs => ?_⟩
        refine .head st_region ?_
        have := s3 b ds k cs
        rw [List.range_eq_range']
        simpa using this
      · cases h
    | true =>
      simp only [evCode] at h
      split at h
      · rename_i a1 H1 h1
        injection h with h; injection h with h1 h2; injection h2 with h2 h3; subst h1; subst h2; subst h3
        have hj : Sim m H w m H { w with drawn := w.drawn + 1 } := ⟨.refl m, hR.world fun _ _ => rfl, ⟨rfl, rfl, rfl, Nat.le_refl _, fun _ _ _ => rfl⟩, fun _ h => .inl h, Nat.le_refl _, fun b l h => .inl ⟨b, l, h, rfl⟩⟩
        obtain ⟨m1, w1, t1, s1, s2, s3⟩ := hdraw ops hops (by simpa using hok.2) _ _ _ _ h1 m { w with drawn := w.drawn + 1 } tmps (w.tape w.drawn (.order b.fn id)) hj.rel hf
        exact ⟨m1, w1, t1, ds, hj.trans s1, s2, hM.sim (hj.trans s1), hds, fun k cs => .head st_draw (s3 b ds k cs)⟩
      · cases h
  | seq c d ihc ihd =>
    intro hok a a' H H' x m w tmps ds h hR hf hM hrd hds
    simp only [codeOk, Bool.and_eq_true] at hok
    simp only [evCode] at h
    split at h
    · rename_i a1 H1 h1
      obtain ⟨m1, w1, t1, d1, s1, s2, s3, s4, s5⟩ := ihc hok.1 h1 hR hf hM hrd hds
      obtain ⟨m2, w2, t2, d2, q1, q2, q3, q4, q5⟩ := ihd hok.2 h s1.rel s2 s3 (hrd.mono s1.ext) s4
      refine ⟨m2, w2, t2, d2, s1.trans q1, q2, q3, q4, fun k cs => ?_⟩
      have hs : Steps P _ _ := s5 (.code d :: k) cs
      have hs' := Steps.head (st_seq (P := P)) hs
      have hq := q5 k cs
      cases x with
      | normal => exact hs'.trans hq
      | exit id => obtain ⟨k', e1, e2⟩ := hq; exact ⟨k', e1, hs'.trans e2⟩
      | ret => obtain ⟨k', e2⟩ := hq; exact ⟨k', hs'.trans e2⟩
    · rename_i hne
      obtain ⟨m1, w1, t1, d1, s1, s2, s3, s4, s5⟩ := ihc hok.1 h hR hf hM hrd hds
      refine ⟨m1, w1, t1, d1, s1, s2, s3, s4, fun k cs => ?_⟩
      have hs := s5 (.code d :: k) cs
      cases x with
      | normal => exact absurd h (hne _ _)
      | exit id => obtain ⟨k', e1, e2⟩ := hs; exact ⟨k', by rw [e1, exitTo_pass rfl], .head st_seq e2⟩
      | ret => obtain ⟨k', e2⟩ := hs; exact ⟨k', .head st_seq e2⟩
  | cond c x y ihx ihy =>
    intro hok a a' H H' xx m w tmps ds h hR hf hM hrd hds
    simp only [codeOk, Bool.and_eq_true] at hok
    simp only [evCode] at h
    have hc := hf.opnd (x := c) hok.1.1
    split at h
    · rename_i hb
      rw [hb] at hc
      obtain ⟨m1, w1, t1, d1, s1, s2, s3, s4, s5⟩ := ihx hok.1.2 h hR hf hM hrd hds
      refine ⟨m1, w1, t1, d1, s1, s2, s3, s4, fun k cs => ?_⟩
      have hs := s5 k cs
      have hst := st_cond (P := P) (b := b) (ds := ds) (k := k) (cs := cs) (w := w) (x := x) (y := y) hc.bool_
      cases xx with
      | normal => exact .head hst hs
      | exit id => obtain ⟨k', e1, e2⟩ := hs; exact ⟨k', e1, .head hst e2⟩
      | ret => obtain ⟨k', e2⟩ := hs; exact ⟨k', .head hst e2⟩
    · rename_i hb
      rw [hb] at hc
      obtain ⟨m1, w1, t1, d1, s1, s2, s3, s4, s5⟩ := ihy hok.2 h hR hf hM hrd hds
      refine ⟨m1, w1, t1, d1, s1, s2, s3, s4, fun k cs => ?_⟩
      have hs := s5 k cs
      have hst := st_cond (P := P) (b := b) (ds := ds) (k := k) (cs := cs) (w := w) (x := x) (y := y) hc.bool_
      cases xx with
      | normal => exact .head hst hs
      | exit id => obtain ⟨k', e1, e2⟩ := hs; exact ⟨k', e1, .head hst e2⟩
      | ret => obtain ⟨k', e2⟩ := hs; exact ⟨k', .head hst e2⟩
    · cases h
  | block id c ih =>
    intro hok a a' H H' x m w tmps ds h hR hf hM hrd hds
    simp only [codeOk] at hok
    simp only [evCode] at h
    split at h
    · rename_i i a1 H1 h1
      obtain ⟨m1, w1, t1, d1, s1, s2, s3, s4, s5⟩ := ih hok h1 hR hf hM hrd hds
      split at h
      · rename_i hi
        subst hi
        injection h with h; injection h with h1 h2; injection h2 with h2 h3; subst h1; subst h2; subst h3
        refine ⟨m1, w1, t1, d1, s1, s2, s3, s4, fun k cs => ?_⟩
        obtain ⟨k', e1, e2⟩ := s5 (.inBlock i :: k) cs
        have e3 : exitTo i k' = some k := by rw [e1]; simp [exitTo]
        exact .head st_block (e2.trans (.one (st_exit e3)))
      · rename_i hi
        injection h with h; injection h with h1 h2; injection h2 with h2 h3; subst h1; subst h2; subst h3
        refine ⟨m1, w1, t1, d1, s1, s2, s3, s4, fun k cs => ?_⟩
        obtain ⟨k', e1, e2⟩ := s5 (.inBlock id :: k) cs
        refine ⟨k', ?_, .head st_block e2⟩
        rw [e1]
        have : (id == i) = false := by simp; exact fun e => hi e.symm
        simp [exitTo, this]
    · rename_i hne
      obtain ⟨m1, w1, t1, d1, s1, s2, s3, s4, s5⟩ := ih hok h hR hf hM hrd hds
      refine ⟨m1, w1, t1, d1, s1, s2, s3, s4, fun k cs => ?_⟩
      have hs := s5 (.inBlock id :: k) cs
      cases x with
      | normal => exact .head st_block (Steps.trans hs (.one st_inBlock))
      | exit id' => exact absurd h (hne _ _ _)
      | ret => obtain ⟨k', e2⟩ := hs; exact ⟨k', .head st_block e2⟩
  | loop c ih =>
    intro hok a a' H H' x m w tmps ds h hR hf hM hrd hds
    simp only [codeOk] at hok
    simp only [evCode] at h
    obtain ⟨m1, w1, t1, d1, s1, s2, s3, s4, s5⟩ := loop_sim (P := P) (nt := nt) b rd (c := c) (fun h hR hf hM hrd hds => ih hok h hR hf hM hrd hds) kk h hR hf hM hrd hds
    refine ⟨m1, w1, t1, d1, s1, s2, s3, s4, fun k cs => ?_⟩
    have hs := s5 k cs
    cases x with
    | normal => exact hs.elim
    | exit id => obtain ⟨k', e1, e2⟩ := hs; exact ⟨k', e1, .head st_loop e2⟩
    | ret => obtain ⟨k', e2⟩ := hs; exact ⟨k', .head st_loop e2⟩
  | rangeFunc f params assign body _ _ =>
    intro hok a a' H H' x m w tmps ds h hR hf hM hrd hds
    exact range_sim hcall b rd hok h hR hf hM hrd hds
  | exit id =>
    intro _ a a' H H' x m w tmps ds h hR hf hM hrd hds
    simp only [evCode] at h
    injection h with h; injection h with h1 h2; injection h2 with h2 h3; subst h1; subst h2; subst h3
    exact ⟨m, w, tmps, ds, .refl hR, hf, hM, hds, fun k cs => ⟨k, rfl, .refl _ _⟩⟩
  | ret =>
    intro _ a a' H H' x m w tmps ds h hR hf hM hrd hds
    simp only [evCode] at h
    injection h with h; injection h with h1 h2; injection h2 with h2 h3; subst h1; subst h2; subst h3
    exact ⟨m, w, tmps, ds, .refl hR, hf, hM, hds, fun k cs => ⟨k, .refl _ _⟩⟩
  | scope c _ => intro _ a a' H H' x m w tmps ds h; simp [evCode] at h
  | goto l => intro _ a a' H H' x m w tmps ds h; simp [evCode] at h
  | refuse s => intro _ a a' H H' x m w tmps ds h; simp [evCode] at h
end
end Go.Abs
