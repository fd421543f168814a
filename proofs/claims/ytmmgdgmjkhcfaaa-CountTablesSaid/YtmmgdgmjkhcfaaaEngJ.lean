/- The machine's steps, one goroutine: frames, operations, regions in the order of the text. -/
import Derived.Test.YtmmgdgmjkhcfaaaEngI
namespace Go.Abs
def onF (b : Frame) (tmps : Array Value) (ds : List Deferred) (todo : List Item) : Frame :=
  { fn := b.fn, tmps := tmps, todo := todo, defers := ds, mode := .run, kind := b.kind, roundOf := b.roundOf }
theorem onF_eval (b : Frame) (tmps : Array Value) (ds : List Deferred) (todo : List Item) : (onF b tmps ds todo).eval = evC tmps := by
  funext x; cases x <;> rfl
def putC (tmps : Array Value) (dst : Option Nat) (v : Value) : Array Value := match dst with | some d => tmps.setIfInBounds d v | none => tmps
section
variable {P : Program} {b : Frame} {tmps : Array Value} {ds : List Deferred} {k : List Item} {cs : List Frame} {w : World}
theorem st_skip : step P (lone (onF b tmps ds (.code .skip :: k)) cs w) = .next (lone (onF b tmps ds k) cs w) := step_lone_go (by simp [stepG, stepG.exec, onF])
theorem st_label {l : Nat} : step P (lone (onF b tmps ds (.code (.label l) :: k)) cs w) = .next (lone (onF b tmps ds k) cs w) := step_lone_go (by simp [stepG, stepG.exec, onF])
theorem st_inBlock {id : Nat} : step P (lone (onF b tmps ds (.inBlock id :: k)) cs w) = .next (lone (onF b tmps ds k) cs w) := step_lone_go (by simp [stepG, stepG.exec, onF])
theorem st_seq {x y : Code} : step P (lone (onF b tmps ds (.code (.seq x y) :: k)) cs w) = .next (lone (onF b tmps ds (.code x :: .code y :: k)) cs w) := step_lone_go (by simp [stepG, stepG.exec, onF])
theorem st_cond {c : Operand} {x y : Code} {t : Bool} (h : evC tmps c = .bool t) : step P (lone (onF b tmps ds (.code (.cond c x y) :: k)) cs w) = .next (lone (onF b tmps ds (.code (if t then x else y) :: k)) cs w) :=
  step_lone_go (by
    have h1 := congrFun (onF_eval b tmps ds (.code (.cond c x y) :: k)) c
    simp only [onF] at h1
    simp [stepG, stepG.exec, onF, h1, h])
theorem st_block {id : Nat} {c : Code} : step P (lone (onF b tmps ds (.code (.block id c) :: k)) cs w) = .next (lone (onF b tmps ds (.code c :: .inBlock id :: k)) cs w) := step_lone_go (by simp [stepG, stepG.exec, onF])
theorem st_loop {c : Code} : step P (lone (onF b tmps ds (.code (.loop c) :: k)) cs w) = .next (lone (onF b tmps ds (.code c :: .inLoop c :: k)) cs w) := step_lone_go (by simp [stepG, stepG.exec, onF])
theorem st_inLoop {c : Code} : step P (lone (onF b tmps ds (.inLoop c :: k)) cs w) = .next (lone (onF b tmps ds (.code c :: .inLoop c :: k)) cs w) := step_lone_go (by simp [stepG, stepG.exec, onF])
theorem st_exit {id : Nat} {k' : List Item} (h : exitTo id k = some k') : step P (lone (onF b tmps ds (.code (.exit id) :: k)) cs w) = .next (lone (onF b tmps ds k') cs w) := step_lone_go (by simp [stepG, stepG.exec, onF, h])
theorem st_region {id : Nat} {ops : Array Oper} : step P (lone (onF b tmps ds (.code (.region id ops false) :: k)) cs w) = .next (lone (onF b tmps ds (.inRegion ops (List.range ops.size) :: k)) cs w) := step_lone_go (by simp [stepG, stepG.exec, onF])
theorem st_draw {id : Nat} {ops : Array Oper} : step P (lone (onF b tmps ds (.code (.region id ops true) :: k)) cs w) =
    .next (lone (onF b tmps ds (.inRegion ops (Region.schedule (P.follows .mixedOrders) ops (w.tape w.drawn (.order b.fn id))) :: k)) cs { w with drawn := w.drawn + 1 }) :=
  step_lone_go (by simp [stepG, stepG.exec, onF, choose, Sem.run, Question.forced, Question.cut])
theorem st_regionEnd {ops : Array Oper} : step P (lone (onF b tmps ds (.inRegion ops [] :: k)) cs w) = .next (lone (onF b tmps ds k) cs w) := step_lone_go (by simp [stepG, stepG.exec, onF])
theorem finish_onF {ops : Array Oper} {i : Nat} {rest : List Nat} {o : Oper} (ho : ops[i]? = some o) (v : Value) : (onF b tmps ds (.inRegion ops (i :: rest) :: k)).finish v = onF b (putC tmps o.dst v) ds (.inRegion ops rest :: k) := by
  cases h : o.dst <;> simp [Frame.finish, onF, putC, ho, h]
theorem st_notWanted {ops : Array Oper} {i : Nat} {rest : List Nat} {o : Oper} (ho : ops[i]? = some o) (hw : Region.wanted o (yielded ops tmps) = false) :
    step P (lone (onF b tmps ds (.inRegion ops (i :: rest) :: k)) cs w) = .next (lone (onF b (putC tmps o.dst undef) ds (.inRegion ops rest :: k)) cs w) := by
  rw [← finish_onF ho]
  exact step_lone_go (by simp [stepG, stepG.exec, onF, ho, hw])
theorem stG_op {ops : Array Oper} {i : Nat} {rest : List Nat} {o : Oper} (ho : ops[i]? = some o) (hw : Region.wanted o (yielded ops tmps) = true) (hd : ∀ c, o.op ≠ .defer c) :
    stepG P true { frame := onF b tmps ds (.inRegion ops (i :: rest) :: k), callers := cs, status := .running, dying := none } w =
      stepG.apply P true (onF b tmps ds (.inRegion ops (i :: rest) :: k)) cs none (execOp (evC tmps) o) w := by
  have he := onF_eval b tmps ds (.inRegion ops (i :: rest) :: k)
  simp only [onF] at he
  simp only [onF]
  simp only [stepG, stepG.exec, ho, Option.map_some, hw, Option.getD_some, if_true, stepG.oper, Frame.oper?, he]
  split
  · rename_i h; exact absurd h (hd _)
  · rfl
/-- An operation that gives a value. -/
theorem st_value {ops : Array Oper} {i : Nat} {rest : List Nat} {o : Oper} {nx : Next} {v : Value} {w' : World} (ho : ops[i]? = some o) (hw : Region.wanted o (yielded ops tmps) = true) (hd : ∀ c, o.op ≠ .defer c)
    (hr : (execOp (evC tmps) o).run P w = .ok nx w') (hn : nextVal nx = some v) :
    step P (lone (onF b tmps ds (.inRegion ops (i :: rest) :: k)) cs w) = .next (lone (onF b (putC tmps o.dst v) ds (.inRegion ops rest :: k)) cs w') := by
  rw [← finish_onF ho]
  refine step_lone_go ?_
  rw [stG_op ho hw hd]
  cases nx <;> first | (simp [nextVal] at hn; done) | skip
  · simp only [nextVal] at hn
    injection hn with hn
    subst hn
    simp [stepG.apply, hr]
  · simp only [nextVal] at hn
    injection hn with hn
    subst hn
    simp [stepG.apply, hr]
/-- What a call begins with. -/
inductive Starts (P : Program) : Next → Frame → Prop
  | enter (f : FuncId) (args : Array Value) : Starts P (.enter f args) (Frame.enter P f args .normal)
  | round (l : Nat) (f : FuncId) (tmps : Array Value) (assign body : Code) : Starts P (.round l f tmps assign body) (Frame.round l f tmps assign body .normal)
theorem st_call {ops : Array Oper} {i : Nat} {rest : List Nat} {o : Oper} {nx : Next} {sf : Frame} {w' : World} (ho : ops[i]? = some o) (hw : Region.wanted o (yielded ops tmps) = true) (hd : ∀ c, o.op ≠ .defer c)
    (hr : (execOp (evC tmps) o).run P w = .ok nx w') (hn : Starts P nx sf) :
    step P (lone (onF b tmps ds (.inRegion ops (i :: rest) :: k)) cs w) = .next (lone sf (onF b tmps ds (.inRegion ops (i :: rest) :: k) :: cs) w') := by
  refine step_lone_go ?_
  rw [stG_op ho hw hd]
  cases hn with
  | enter f args => simp [stepG.apply, hr, onF]
  | round l f t a c => simp [stepG.apply, hr, onF]
end
/-- A call as the evaluator has it is a call of the world. -/
def CallOK (P : Program) (call : CallF) : Prop := ∀ fv args H v H', call fv args H = some (v, H') → ∀ m w fv' (args' : Array Value), Rel m H w → VR m fv fv' → All2 (VR m) args args'.toList →
  ∃ nx sf m' w' v', (do let d ← Deferred.ofValue fv' args'; invoke d.target d.args).run P w = .ok nx w ∧ Starts P nx sf ∧ Sim m H w m' H' w' ∧ VR m' v v' ∧ ∀ fr cs, Steps P (lone sf (fr :: cs) w) (lone (fr.finish v') cs w')
section
variable {P : Program} {call : CallF} {m : Mp} {H H' : Heap} {w w' : World} {nt : Nat} {a a' : Fr} {tmps : Array Value}
theorem VR.bool_right {v : Value} {b : Bool} (h : VR m v (.bool b)) : v = .bool b := by
  cases h with
  | a h => cases h with
    | s h => cases h; rfl
theorem yielded_eq (hf : FR m nt a tmps) {ops : Array Oper} (hok : ∀ o ∈ ops.toList, operOk nt o = true) (j : Nat) : yielded ops tmps j = yieldedA ops a j := by
  unfold yielded yieldedA
  cases ho : ops[j]? with
  | none => rfl
  | some o =>
    have hmem : o ∈ ops.toList := by
      have : ops.toList[j]? = some o := by simpa using ho
      exact List.mem_of_getElem? this
    have h1 := hok o hmem
    unfold operOk at h1
    simp only [Bool.and_eq_true] at h1
    cases hd : o.dst with
    | none => simp [hd]
    | some t =>
      rw [hd] at h1
      have ht : t < nt := by simpa using h1.2
      obtain ⟨v', h2, h3⟩ := hf.2 t ht
      simp only [Option.bind_some, hd, h2]
      generalize hat : a t = u at h3
      cases u with
      | bool c => rw [h3.bool_]
      | _ =>
        split
        · rename_i c hc
          injection hc with hc
          subst hc
          cases h3.bool_right
        · rfl
theorem wanted_eq (hf : FR m nt a tmps) {ops : Array Oper} (hok : ∀ o ∈ ops.toList, operOk nt o = true) (o : Oper) : Region.wanted o (yielded ops tmps) = Region.wanted o (yieldedA ops a) := by
  have : yielded ops tmps = yieldedA ops a := funext fun j => yielded_eq hf hok j
  rw [this]
theorem stepA_notDefer {o : Oper} {r : Value × Heap} (h : stepA P call a o H = some r) : ∀ c, o.op ≠ .defer c := by
  intro c hc
  unfold stepA at h
  rw [hc] at h
  simp only at h
  unfold aexec at h
  rw [hc] at h
  cases h
/-- One operation, call or not. -/
theorem op_run (hcall : CallOK P call) (hR : Rel m H w) {ops : Array Oper} {i : Nat} {o : Oper} (ho : ops[i]? = some o) (hv : ∀ z ∈ o.op.operands.toList, VR m (ev a z) (evC tmps z))
    (hw : Region.wanted o (yielded ops tmps) = true) {v : Value} (h : stepA P call a o H = some (v, H')) :
    ∃ m' w' v', Sim m H w m' H' w' ∧ VR m' v v' ∧ (∀ b ds rest k cs, Steps P (lone (onF b tmps ds (.inRegion ops (i :: rest) :: k)) cs w) (lone (onF b (putC tmps o.dst v') ds (.inRegion ops rest :: k)) cs w')) ∧
      (cls o.op = .pure_ ∨ cls o.op = .read → m' = m ∧ w' = w) := by
  have hd := stepA_notDefer h
  unfold stepA at h
  split at h
  · rename_i f args ts hop
    rw [hop] at hv
    have hfv := hv f (by simp [Op.operands, Call.operands])
    have hargs : All2 (VR m) (args.toList.map (ev a)) (args.map (evC tmps)).toList := by
      rw [Array.toList_map]
      exact All2.map_same _ fun x hx => hv x (by simp [Op.operands, Call.operands]; exact .inr (by simpa using hx))
    obtain ⟨nx, sf, m', w', v', h1, h2, h3, h4, h5⟩ := hcall _ _ _ _ _ h m w _ _ hR hfv hargs
    refine ⟨m', w', v', h3, h4, fun b ds rest k cs => ?_, fun hq => by rw [hop] at hq; simp [cls] at hq⟩
    have hr : (execOp (evC tmps) o).run P w = .ok nx w := by
      simp only [execOp, hop]
      simpa [resolve] using h1
    refine .head (st_call ho hw hd hr h2) ?_
    rw [← finish_onF ho]
    exact h5 _ _
  · obtain ⟨nx, w', m', v', h1, h2, h3, h4, h5⟩ := aexec_sound hR hv h
    exact ⟨m', w', v', h4, h3, fun b ds rest k cs => .one (st_value ho hw hd h1 h2), h5⟩
theorem op_sim (hcall : CallOK P call) (hR : Rel m H w) (hf : FR m nt a tmps) {ops : Array Oper} (hok : ∀ o ∈ ops.toList, operOk nt o = true) {i : Nat} {o : Oper} (ho : ops[i]? = some o)
    (hw : Region.wanted o (yielded ops tmps) = true) {v : Value} (h : stepA P call a o H = some (v, H')) :
    ∃ m' w' v', Sim m H w m' H' w' ∧ VR m' v v' ∧ ∀ b ds rest k cs, Steps P (lone (onF b tmps ds (.inRegion ops (i :: rest) :: k)) cs w) (lone (onF b (putC tmps o.dst v') ds (.inRegion ops rest :: k)) cs w') := by
  have hmem : o ∈ ops.toList := List.mem_of_getElem? (by simpa using ho : ops.toList[i]? = some o)
  obtain ⟨m', w', v', h1, h2, h3, _⟩ := op_run hcall hR ho (fun z hz => hf.opnd (mem_operands (hok o hmem) z hz)) hw h
  exact ⟨m', w', v', h1, h2, h3⟩
theorem FR.putC (hf : FR m nt a tmps) {v v' : Value} (hv : VR m v v') (d : Option Nat) : FR m nt (Abs.putA a d v) (Abs.putC tmps d v') := by
  cases d with
  | none => exact hf
  | some d => exact hf.put hv d
/-- A region in the order of the text. -/
theorem ops_sim (hcall : CallOK P call) {ops : Array Oper} (hok : ∀ o ∈ ops.toList, operOk nt o = true) : ∀ (l : List Oper) (i : Nat), ops.toList.drop i = l → ∀ {a : Fr} {H : Heap} {m : Mp} {w : World} {tmps : Array Value}, Rel m H w → FR m nt a tmps →
    evOps P call ops l a H = some (a', H') →
    ∃ m' w' tmps', Sim m H w m' H' w' ∧ FR m' nt a' tmps' ∧ ∀ b ds k cs, Steps P (lone (onF b tmps ds (.inRegion ops (List.range' i l.length) :: k)) cs w) (lone (onF b tmps' ds k) cs w') := by
  intro l
  induction l with
  | nil =>
    intro i _ a H m w tmps hR hf h
    simp only [evOps] at h
    injection h with h; injection h with h1 h2; subst h1; subst h2
    exact ⟨m, w, tmps, .refl hR, hf, fun b ds k cs => .one st_regionEnd⟩
  | cons o l ih =>
    intro i hl a H m w tmps hR hf h
    have ho : ops[i]? = some o := by
      have : (ops.toList.drop i)[0]? = some o := by rw [hl]; rfl
      simpa using this
    have hl' : ops.toList.drop (i + 1) = l := by
      have : (ops.toList.drop i).drop 1 = l := by rw [hl]; rfl
      rw [List.drop_drop] at this
      exact this
    simp only [evOps] at h
    rw [List.length_cons, List.range'_succ]
    cases hw : Region.wanted o (yieldedA ops a) with
    | true =>
      rw [hw] at h
      simp only [if_true] at h
      split at h
      · rename_i v H1 hs
        obtain ⟨m1, w1, v', s1, s2, s3⟩ := op_sim hcall hR hf hok ho (by rw [wanted_eq hf hok]; exact hw) hs
        obtain ⟨m2, w2, t2, q1, q2, q3⟩ := ih (i + 1) hl' s1.rel ((hf.mono s1.ext).putC s2 o.dst) h
        exact ⟨m2, w2, t2, s1.trans q1, q2, fun b ds k cs => (s3 b ds _ k cs).trans (q3 b ds k cs)⟩
      · cases h
    | false =>
      rw [hw] at h
      simp only [Bool.false_eq_true, if_false] at h
      obtain ⟨m2, w2, t2, q1, q2, q3⟩ := ih (i + 1) hl' hR (hf.putC (.undef m) o.dst) h
      exact ⟨m2, w2, t2, q1, q2, fun b ds k cs => .head (st_notWanted ho (by rw [wanted_eq hf hok]; exact hw)) (q3 b ds k cs)⟩
end
end Go.Abs
