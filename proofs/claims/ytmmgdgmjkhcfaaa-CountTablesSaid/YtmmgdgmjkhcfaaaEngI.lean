/- All operations that are no call of a function value, in one. -/
import Derived.Test.YtmmgdgmjkhcfaaaEngH
namespace Go.Abs
/-- What a run of an operation owes the evaluator. -/
def Good (P : Program) (m : Mp) (H : Heap) (w : World) (q : Prop) (s : Sem Next) (v : Value) (H' : Heap) : Prop :=
  ∃ nx w' m' v', s.run P w = .ok nx w' ∧ nextVal nx = some v' ∧ VR m' v v' ∧ Sim m H w m' H' w' ∧ (q → m' = m ∧ w' = w)
section
variable {P : Program} {m : Mp} {H H' : Heap} {w w' : World} {nt : Nat} {a : Fr} {tmps : Array Value}
theorem Good.same {q : Prop} (hR : Rel m H w) {s : Sem Value} {v v' : Value} (h : s.run P w = .ok v' w) (hv : VR m v v') : Good P m H w q (do pure (.value (← s))) v H :=
  ⟨.value v', w, m, v', by simp [h], rfl, hv, .refl hR, fun _ => ⟨rfl, rfl⟩⟩
theorem Good.value {q : Prop} {m' : Mp} {s : Sem Value} {v v' : Value} (h : s.run P w = .ok v' w') (hv : VR m' v v') (hs : Sim m H w m' H' w') (hq : ¬ q := by simp [cls]) : Good P m H w q (do pure (.value (← s))) v H' :=
  ⟨.value v', w', m', v', by simp [h], rfl, hv, hs, fun h => absurd h hq⟩
theorem Good.unit {q : Prop} {s : Sem Unit} (h : s.run P w = .ok () w') (hs : Sim m H w m H' w') (hq : ¬ q := by simp [cls]) : Good P m H w q (do s; pure .skip) undef H' :=
  ⟨.skip, w', m, undef, by simp [h], rfl, .undef m, hs, fun h => absurd h hq⟩
theorem isPtr_sound {v v' : Value} (h : isPtr v = true) (hv : VR m v v') : ∃ p, v' = .pointer (some p) ∧ PR m v v' := by
  unfold isPtr at h
  split at h
  · obtain ⟨l, hl, rfl⟩ := hv.ptr_
    exact ⟨_, rfl, .ptr _ _ l hl⟩
  · cases h
theorem mem_operands {o : Oper} (ho : operOk nt o = true) : ∀ x ∈ o.op.operands.toList, opndOk nt x = true := by
  unfold operOk at ho
  simp only [Bool.and_eq_true] at ho
  exact List.all_eq_true.1 ho.1
theorem partsOf {parts : Array (Nat × Operand)} (hv : ∀ p ∈ parts.toList, VR m (ev a p.2) (evC tmps p.2)) :
    All2 (fun (p q : Nat × Value) => q.1 = p.1 ∧ VR m p.2 q.2) (parts.toList.map fun p => (p.1, ev a p.2)) (parts.map fun (i, x) => (i, evC tmps x)).toList := by
  rw [Array.toList_map]
  exact parts_rel hv
theorem bytes_run : ∀ {cs vs : List Value} {s r : ByteArray}, All2 (SR m) cs vs → bytesFrom s cs = some r →
    (ForIn.forIn vs s fun (c : Value) (s : ByteArray) => (match c with
      | .int .u8 n => pure (ForInStep.yield (s.push (UInt8.ofNat n.toNat)))
      | _ => do
        stuck "bytesToString: byte expected"
        pure (ForInStep.yield s) : Sem (ForInStep ByteArray))).run P w = .ok r w := by
  intro cs
  induction cs with
  | nil =>
    intro vs s r h hb
    cases h
    simp only [bytesFrom] at hb
    injection hb with hb; subst hb
    simp
  | cons c cs ih =>
    intro vs s r h hb
    cases h with
    | cons h1 h2 =>
      unfold bytesFrom at hb
      split at hb
      · rename_i heq; cases heq
      · rename_i heq
        injection heq with e1 e2
        subst e1; subst e2
        cases h1
        simp only [List.forIn_cons, Sem.run_bind, Sem.run_pure, Result.andThen_ok]
        exact ih h2 hb
      · cases hb
theorem textA_sound {s d : TypeId} {x x' v : Value} (hR : Rel m H w) (h : textA P s d x H = some v) (hv : VR m x x') : (Go.convert s d x').run P w = .ok v w ∧ VR m v v := by
  unfold textA at h
  split at h
  case h_2 => cases h
  split at h
  case h_2 => cases h
  rename_i e hs hd
  split at h
  case h_2 => cases h
  rename_i cs he hr
  obtain ⟨base, n, c, rfl, _, vs, h1, h2, h3⟩ := readA_sound (P := P) hR hr hv
  cases hb : bytesFrom .empty cs with
  | none => rw [hb] at h; cases h
  | some t =>
    rw [hb] at h
    simp only [Option.map_some] at h
    injection h with h
    subst h
    refine ⟨?_, .a (.s (.string t))⟩
    have hrun := bytes_run (P := P) (w := w) h2 hb
    cases base with
    | none =>
      have := h3 rfl
      subst this
      simp only [Builtin.firstCells, Sem.run_pure] at h1
      injection h1 with h1
      subst h1
      simp at hrun
      simp [Go.convert, run_underlying hs, run_underlying hd, run_underlying he, Conv.bytesToString, hrun]
    | some ad =>
      simp only [Builtin.firstCells, Nat.mul_one] at h1
      simp only [Go.convert, Sem.run_bind, run_underlying hs, run_underlying hd, run_underlying he, Result.andThen_ok, Conv.bytesToString, h1]
      rw [← Array.forIn_toList]
      exact (congrArg (fun r : Result ByteArray => r.andThen fun a w' => Sem.run P (pure (Value.string a)) w') hrun).trans rfl
set_option maxHeartbeats 1000000 in
theorem aexec_sound (hR : Rel m H w) {o : Oper} (hv : ∀ z ∈ o.op.operands.toList, VR m (ev a z) (evC tmps z)) {v : Value} (h : aexec P a o H = some (v, H')) : Good P m H w (cls o.op = .pure_ ∨ cls o.op = .read) (execOp (evC tmps) o) v H' := by
  have plainly : ∀ {v : Value}, (plainA P a o).map (·, H) = some (v, H') → ((∀ x ∈ o.op.operands.toList, evC tmps x = ev a x) → execOp (evC tmps) o = execOp (ev a) o) → Good P m H w (cls o.op = .pure_ ∨ cls o.op = .read) (execOp (evC tmps) o) v H' := by
    intro v h hc
    cases hp : plainA P a o with
    | none => rw [hp] at h; cases h
    | some u =>
      rw [hp] at h
      simp only [Option.map_some] at h
      injection h with h
      injection h with h1 h2
      subst h1; subst h2
      obtain ⟨h1, h2⟩ := plainA_sound hv hp hc w
      exact ⟨.value u, w, m, u, h1, rfl, h2, .refl hR, fun _ => ⟨rfl, rfl⟩⟩
  obtain ⟨dst, op, type, pos, after, guard⟩ := o
  cases op
  case move x =>
    simp only [aexec] at h
    injection h with h; injection h with h1 h2; subst h1; subst h2
    exact ⟨.value _, w, m, _, rfl, rfl, hv x (by simp [Op.operands]), .refl hR, fun _ => ⟨rfl, rfl⟩⟩
  case assign x =>
    simp only [aexec] at h
    injection h with h; injection h with h1 h2; subst h1; subst h2
    exact ⟨.value _, w, m, _, rfl, rfl, hv x (by simp [Op.operands]), .refl hR, fun _ => ⟨rfl, rfl⟩⟩
  case pick c x y =>
    simp only [aexec] at h
    split at h
    · rename_i t ht
      injection h with h; injection h with h1 h2; subst h1; subst h2
      have hc := hv c (by simp [Op.operands])
      rw [ht] at hc
      have hc' := hc.bool_
      refine ⟨.value (if t then evC tmps x else evC tmps y), w, m, _, by simp [execOp, hc', asBool], rfl, ?_, .refl hR, fun _ => ⟨rfl, rfl⟩⟩
      cases t
      · exact hv y (by simp [Op.operands])
      · exact hv x (by simp [Op.operands])
    · cases h
  case alloc t =>
    simp only [aexec] at h
    split at h
    · rename_i z hz
      split at h
      · rename_i cs hcs
        injection h with h; injection h with h1 h2; subst h1; subst h2
        obtain ⟨hz1, hz2⟩ := run_zero hz w
        obtain ⟨w', m', r', h1, h2, h3⟩ := boxed_sound (P := P) (el := t) hR hcs (.a (.of_const m hz2))
        refine Good.value (s := Instr.alloc t true (.tuple #[])) (w' := w') (v' := r') ?_ h2 h3
        simp only [Instr.box, Sem.run_bind, Sem.run_pure] at h1
        simp only [Instr.alloc, Sem.run_bind, hz1, Result.andThen_ok, Sem.run_pure, h1]
      · cases h
    · cases h
  case box t x =>
    simp only [aexec] at h
    split at h
    · rename_i cs hcs
      injection h with h; injection h with h1 h2; subst h1; subst h2
      obtain ⟨w', m', r', h1, h2, h3⟩ := boxed_sound (P := P) (el := t) hR hcs (hv x (by simp [Op.operands]))
      exact Good.value h1 h2 h3
    · cases h
  case build t parts =>
    simp only [aexec] at h
    cases hb : buildA P t (parts.toList.map fun p => (p.1, ev a p.2)) with
    | none => rw [hb] at h; cases h
    | some r =>
      rw [hb] at h
      simp only [Option.map_some] at h
      injection h with h; injection h with h1 h2; subst h1; subst h2
      obtain ⟨r', h1, h2⟩ := buildA_sound (P := P) (w := w) hb (partsOf fun p hp => hv _ (by simp only [Op.operands, List.mem_toArray, Array.toList_map]; simp; exact ⟨p.1, by simpa using hp⟩))
      rw [Array.toArray_toList] at h1
      exact Good.same hR h1 h2
  case buildSlice t len parts =>
    simp only [aexec] at h
    obtain ⟨w', m', r', h1, h2, h3⟩ := buildSliceA_sound (P := P) hR h (partsOf fun p hp => hv _ (by simp only [Op.operands, List.mem_toArray, Array.toList_map]; simp; exact ⟨p.1, by simpa using hp⟩))
    rw [Array.toArray_toList] at h1
    exact Good.value h1 h2 h3
  case load t x =>
    simp only [aexec] at h
    cases hb : loadA P t (ev a x) H with
    | none => rw [hb] at h; cases h
    | some r =>
      rw [hb] at h
      simp only [Option.map_some] at h
      injection h with h; injection h with h1 h2; subst h1; subst h2
      obtain ⟨r', h1, h2⟩ := loadA_sound (P := P) hR hb (hv x (by simp [Op.operands]))
      exact Good.same hR h1 (.a h2)
  case store t x y =>
    simp only [aexec] at h
    cases hb : storeA P t (ev a x) (ev a y) H with
    | none => rw [hb] at h; cases h
    | some H1 =>
      rw [hb] at h
      simp only [Option.map_some] at h
      injection h with h; injection h with h1 h2; subst h1; subst h2
      obtain ⟨w', h1, h2⟩ := storeA_sound (P := P) hR hb (hv x (by simp [Op.operands])) (hv y (by simp [Op.operands]))
      exact Good.unit h1 h2
  case nilCheck x =>
    simp only [aexec] at h
    split at h
    · rename_i hp
      injection h with h; injection h with h1 h2; subst h1; subst h2
      have hx := hv x (by simp [Op.operands])
      obtain ⟨p, hp', _⟩ := isPtr_sound hp hx
      refine ⟨.value _, w, m, _, ?_, rfl, hx, .refl hR, fun _ => ⟨rfl, rfl⟩⟩
      simp only [execOp]
      rw [hp']
      rfl
    · cases h
  case binOp op t x y yt =>
    have hx := hv x (by simp [Op.operands])
    have hy := hv y (by simp [Op.operands])
    have hcong : (∀ z ∈ (Op.binOp op t x y yt).operands.toList, evC tmps z = ev a z) → execOp (evC tmps) ⟨dst, .binOp op t x y yt, type, pos, after, guard⟩ = execOp (ev a) ⟨dst, .binOp op t x y yt, type, pos, after, guard⟩ := by
      intro hz
      simp only [execOp]
      rw [hz x (by simp [Op.operands]), hz y (by simp [Op.operands])]
    cases op
    case eql =>
      simp only [aexec] at h
      split at h
      · rename_i b hb
        injection h with h; injection h with h1 h2; subst h1; subst h2
        obtain ⟨h1, h2, h3, _⟩ := nilCmp_sound (w := w) hb hx hy
        refine Good.same (s := do eqGuard .eql t x y (evC tmps x) (evC tmps y); binOp .eql t (evC tmps x) (evC tmps y)) hR (v' := .bool b) ?_ (.a (.s (.bool b)))
        rw [h2, h3]
        simp [h1]
      · exact plainly h hcong
    case neq =>
      simp only [aexec] at h
      split at h
      · rename_i b hb
        injection h with h; injection h with h1 h2; subst h1; subst h2
        obtain ⟨h1, h2, _, h3⟩ := nilCmp_sound (w := w) hb hx hy
        refine Good.same (s := do eqGuard .neq t x y (evC tmps x) (evC tmps y); binOp .neq t (evC tmps x) (evC tmps y)) hR (v' := .bool !b) ?_ (.a (.s (.bool _)))
        rw [h2, h3]
        simp [h1]
      · exact plainly h hcong
    all_goals
      simp only [aexec] at h
      exact plainly h hcong
  case unOp op t x =>
    simp only [aexec] at h
    refine plainly h fun hz => ?_
    simp only [execOp]
    rw [hz x (by simp [Op.operands])]
  case convert s d x =>
    simp only [aexec] at h
    split at h
    · rename_i u hu
      injection h with h; injection h with h1 h2; subst h1; subst h2
      obtain ⟨h1, h2⟩ := textA_sound (P := P) (d := d) hR hu (hv x (by simp [Op.operands]))
      exact Good.same hR h1 h2
    · refine plainly h fun hz => ?_
      simp only [execOp]
      rw [hz x (by simp [Op.operands])]
  case makeFunc fn first captured =>
    cases fn
    case func f =>
      simp only [aexec] at h
      split at h
      · rename_i hc
        injection h with h; injection h with h1 h2; subst h1; subst h2
        simp only [Bool.and_eq_true] at hc
        obtain ⟨hc1, hc2⟩ := hc
        have hfe : first = #[] := by simpa using hc1
        subst hfe
        refine ⟨.value (.func (.func f) #[] (captured.map (evC tmps))), w, m, _, by simp [execOp, Instr.makeFunc], rfl, .a (.s (.func f _ _ ?_)), .refl hR, fun _ => ⟨rfl, rfl⟩⟩
        rw [Array.toList_map, Array.toList_map]
        refine All2.map_same _ fun x hx => ?_
        have h1 := List.all_eq_true.1 hc2 (ev a x) (by simp; exact ⟨x, by simpa using hx, rfl⟩)
        obtain ⟨_, _, hpr⟩ := isPtr_sound h1 (hv x (by simp [Op.operands]; simpa using hx))
        exact hpr
      · cases h
    all_goals (simp only [aexec] at h; cases h)
  case makeMap t r =>
    simp only [aexec] at h
    split at h
    · rename_i k e hu
      split at h
      · rename_i hc
        injection h with h; injection h with h1 h2; subst h1; subst h2
        have hsim := Sim.push hR (.map #[] 0) (.map []) ⟨w.heap.size, 0, 0⟩ rfl rfl ⟨#[], 0, heap_push_eq w _, .nil⟩
        have hl := getLast_loc hR (⟨w.heap.size, 0, 0⟩ : Loc)
        refine Good.value (s := Instr.makeMap t (r.map (evC tmps))) (v' := .map (some w.heap.size)) ?_ (.a (.s (.map H.length _ hl))) hsim
        cases r with
        | none => simp [Instr.makeMap, newObj, Sem.run]
        | some x =>
          cases x with
          | const c =>
            cases c <;> first | (simp [constInt] at hc; done) | skip
            simp [Instr.makeMap, newObj, Sem.run, run_underlying hu, evC, asInt, asIntOf]
          | _ => simp [constInt] at hc
      · cases h
    · cases h
  case makeSlice t l c =>
    simp only [aexec] at h
    split at h
    · rename_i e size bytes k n k' cc he hb hl hc
      split at h
      · rename_i hcond
        obtain ⟨h0, h1, h2, h3, h4⟩ := hcond
        split at h
        · rename_i zs hz
          injection h with h; injection h with e1 e2; subst e1; subst e2
          obtain ⟨n', rfl⟩ := Int.eq_ofNat_of_zero_le h0
          obtain ⟨c', rfl⟩ := Int.eq_ofNat_of_zero_le (Int.le_trans h0 h1)
          rw [he] at hb
          simp only [Option.getD_some] at hb
          have hl' := hv l (by simp [Op.operands])
          have hc' := hv c (by simp [Op.operands])
          rw [hl] at hl'
          rw [hc] at hc'
          have hl2 := hl'.int_
          have hc2 := hc'.int_
          simp only [Int.toNat_natCast] at hz
          obtain ⟨w', m', r', q1, q2, q3⟩ := makeSlice_sound (c := c') hR he hb (by omega) (by omega) h4 hz k k'
          refine Good.value (s := Instr.makeSlice t (evC tmps l) (evC tmps c)) (by rw [hl2, hc2]; exact q1) ?_ q3
          simpa using q2
        · cases h
      · cases h
    · cases h
  case slice t x lo hi mx =>
    simp only [aexec] at h
    split at h
    · cases h
    · rename_i hmx
      have hmx' : mx = none := by cases mx <;> simp_all
      subst hmx'
      cases hb : sliceExprA P t (ev a x) (lo.map (ev a)) (hi.map (ev a)) with
      | none => rw [hb] at h; cases h
      | some r =>
        rw [hb] at h
        simp only [Option.map_some] at h
        injection h with h; injection h with h1 h2; subst h1; subst h2
        have hlo : ∀ y, lo.map (ev a) = some y → ∃ y', lo.map (evC tmps) = some y' ∧ VR m y y' := by
          intro y hy
          cases lo with
          | none => cases hy
          | some z => simp only [Option.map_some] at hy; injection hy with hy; subst hy; exact ⟨_, rfl, hv z (by simp [Op.operands])⟩
        have hhi : ∀ y, hi.map (ev a) = some y → ∃ y', hi.map (evC tmps) = some y' ∧ VR m y y' := by
          intro y hy
          cases hi with
          | none => cases hy
          | some z => simp only [Option.map_some] at hy; injection hy with hy; subst hy; exact ⟨_, rfl, hv z (by simp [Op.operands])⟩
        obtain ⟨r', h1, h2⟩ := sliceExprA_sound (P := P) (w := w) hb (hv x (by simp [Op.operands])) hlo (fun h => by cases lo <;> simp_all) hhi (fun h => by cases hi <;> simp_all)
        exact Good.same hR h1 h2
  case fieldAddr t x i =>
    simp only [aexec] at h
    cases hb : fieldAddrA P t (ev a x) i with
    | none => rw [hb] at h; cases h
    | some r =>
      rw [hb] at h
      simp only [Option.map_some] at h
      injection h with h; injection h with h1 h2; subst h1; subst h2
      obtain ⟨r', h1, h2⟩ := fieldAddrA_sound (P := P) (w := w) hb (hv x (by simp [Op.operands]))
      exact Good.same hR h1 h2
  case field t x i =>
    simp only [aexec] at h
    cases hb : fieldA P t (ev a x) i with
    | none => rw [hb] at h; cases h
    | some r =>
      rw [hb] at h
      simp only [Option.map_some] at h
      injection h with h; injection h with h1 h2; subst h1; subst h2
      obtain ⟨r', h1, h2⟩ := fieldA_sound (P := P) (w := w) hb (hv x (by simp [Op.operands]))
      exact Good.same hR h1 h2
  case indexAddr t x i =>
    simp only [aexec] at h
    cases hb : indexAddrA P t (ev a x) (ev a i) with
    | none => rw [hb] at h; cases h
    | some r =>
      rw [hb] at h
      simp only [Option.map_some] at h
      injection h with h; injection h with h1 h2; subst h1; subst h2
      obtain ⟨r', h1, h2⟩ := indexAddrA_sound (P := P) (w := w) hb (hv x (by simp [Op.operands])) (hv i (by simp [Op.operands]))
      exact Good.same hR h1 h2
  case index t x i =>
    simp only [aexec] at h
    refine plainly h fun hz => ?_
    simp only [execOp]
    rw [hz x (by simp [Op.operands]), hz i (by simp [Op.operands])]
  case lookup t x k ok =>
    simp only [aexec] at h
    cases hb : lookupA P t (ev a x) (ev a k) ok H with
    | none => rw [hb] at h; cases h
    | some r =>
      rw [hb] at h
      simp only [Option.map_some] at h
      injection h with h; injection h with h1 h2; subst h1; subst h2
      obtain ⟨r', h1, h2⟩ := lookupA_sound (P := P) hR hb (hv x (by simp [Op.operands])) (hv k (by simp [Op.operands]))
      exact Good.same hR h1 h2
  case mapUpdate t x k v =>
    simp only [aexec] at h
    cases hb : mapUpdateA P t (ev a x) (ev a k) (ev a v) H with
    | none => rw [hb] at h; cases h
    | some H1 =>
      rw [hb] at h
      simp only [Option.map_some] at h
      injection h with h; injection h with h1 h2; subst h1; subst h2
      obtain ⟨w', h1, h2⟩ := mapUpdateA_sound (P := P) hR hb (hv x (by simp [Op.operands])) (hv k (by simp [Op.operands])) (hv v (by simp [Op.operands]))
      exact Good.unit h1 h2
  case extract x i =>
    simp only [aexec] at h
    split at h
    · rename_i vs hvs
      cases hb : vs[i]? with
      | none => rw [hb] at h; cases h
      | some r =>
        rw [hb] at h
        simp only [Option.map_some] at h
        injection h with h; injection h with h1 h2; subst h1; subst h2
        have hx := hv x (by simp [Op.operands])
        rw [hvs] at hx
        obtain ⟨vs', hv1, hv2⟩ := hx.tuple_
        obtain ⟨r', h1, h2⟩ := hv2.get i r (by simpa using hb)
        refine Good.same (s := Instr.extract (evC tmps x) i) hR (v' := r') ?_ (.a h2)
        have : vs'[i]? = some r' := by simpa using h1
        rw [hv1]
        simp [Instr.extract, this]
    · cases h
  case call c =>
    obtain ⟨callee, args, ts⟩ := c
    cases callee
    case builtin b =>
      simp only [aexec] at h
      have hargs : ∀ x ∈ args.toList, VR m (ev a x) (evC tmps x) := fun x hx => hv x (by simp [Op.operands, Call.operands]; simpa using hx)
      have hcong : (∀ z ∈ (Op.call ⟨.builtin b, args, ts⟩).operands.toList, evC tmps z = ev a z) → execOp (evC tmps) ⟨dst, .call ⟨.builtin b, args, ts⟩, type, pos, after, guard⟩ = execOp (ev a) ⟨dst, .call ⟨.builtin b, args, ts⟩, type, pos, after, guard⟩ := by
        intro hz
        have : args.map (evC tmps) = args.map (ev a) := Array.map_congr_left fun x hx => hz x (by simp [Op.operands, Call.operands]; exact hx)
        simp only [execOp, resolve, this]
      unfold builtinA at h
      split at h
      · rename_i x t hx ht
        cases hb : lenA P t x with
        | none => rw [hb] at h; cases h
        | some r =>
          rw [hb] at h
          simp only [Option.map_some] at h
          injection h with h; injection h with h1 h2; subst h1; subst h2
          obtain ⟨ys⟩ := args
          obtain ⟨tl⟩ := ts
          simp only at hx ht
          obtain ⟨y, rfl⟩ : ∃ y, ys = [y] := by cases ys with | nil => cases hx | cons y ys => cases ys with | nil => exact ⟨y, rfl⟩ | cons => simp at hx
          simp at hx
          subst hx; subst ht
          obtain ⟨h1, h2⟩ := lenA_sound hb (hargs y (by simp)) w
          have hex : execOp (evC tmps) ⟨dst, .call ⟨.builtin .len, #[y], #[t]⟩, type, pos, after, guard⟩ = (do pure (Next.value (← Builtin.len_ #[t] type #[evC tmps y]))) := by simp [execOp, resolve, invoke, builtin]
          rw [hex]
          exact Good.same (s := Builtin.len_ #[t] type #[evC tmps y]) hR h1 h2
      · rename_i s x t t' hx ht
        split at h
        · rename_i htt
          subst htt
          obtain ⟨ys⟩ := args
          obtain ⟨tl⟩ := ts
          simp only at hx ht
          obtain ⟨y, z, rfl⟩ : ∃ y z, ys = [y, z] := by
            cases ys with
            | nil => cases hx
            | cons y ys => cases ys with | nil => simp at hx | cons z ys => cases ys with | nil => exact ⟨y, z, rfl⟩ | cons => simp at hx
          simp at hx
          obtain ⟨rfl, rfl⟩ := hx
          subst ht
          obtain ⟨w', m', r', h1, h2, h3⟩ := appendA_sound (P := P) (ty := type) hR h (hargs y (by simp)) (hargs z (by simp))
          have hex : execOp (evC tmps) ⟨dst, .call ⟨.builtin .append, #[y, z], #[t, t]⟩, type, pos, after, guard⟩ = (do pure (Next.value (← Builtin.append_ #[t, t] type #[evC tmps y, evC tmps z]))) := by simp [execOp, resolve, invoke, builtin]
          rw [hex]
          exact Good.value (s := Builtin.append_ #[t, t] type #[evC tmps y, evC tmps z]) h1 h2 h3
        · obtain ⟨ys⟩ := args
          obtain ⟨tl⟩ := ts
          simp only at hx ht
          obtain ⟨y, z, rfl⟩ : ∃ y z, ys = [y, z] := by
            cases ys with
            | nil => cases hx
            | cons y ys => cases ys with | nil => simp at hx | cons z ys => cases ys with | nil => exact ⟨y, z, rfl⟩ | cons => simp at hx
          simp at hx
          obtain ⟨rfl, rfl⟩ := hx
          subst ht
          obtain ⟨w', m', r', h1, h2, h3⟩ := appendIntA_sound (P := P) (ty := type) hR h (hargs y (by simp)) (hargs z (by simp))
          have hex : execOp (evC tmps) ⟨dst, .call ⟨.builtin .append, #[y, z], #[t, t']⟩, type, pos, after, guard⟩ = (do pure (Next.value (← Builtin.append_ #[t, t'] type #[evC tmps y, evC tmps z]))) := by simp [execOp, resolve, invoke, builtin]
          rw [hex]
          exact Good.value (s := Builtin.append_ #[t, t'] type #[evC tmps y, evC tmps z]) h1 h2 h3
      · rename_i x y t t' hx ht
        obtain ⟨ys⟩ := args
        obtain ⟨tl⟩ := ts
        simp only at hx ht
        obtain ⟨y', z', rfl⟩ : ∃ y z, ys = [y, z] := by
          cases ys with
          | nil => cases hx
          | cons y ys => cases ys with | nil => simp at hx | cons z ys => cases ys with | nil => exact ⟨y, z, rfl⟩ | cons => simp at hx
        simp at hx
        obtain ⟨rfl, rfl⟩ := hx
        subst ht
        obtain ⟨w', r', h1, h2, h3⟩ := copyA_sound (P := P) (t' := t') (ty := type) hR h (hargs y' (by simp)) (hargs z' (by simp))
        have hex : execOp (evC tmps) ⟨dst, .call ⟨.builtin .copy, #[y', z'], #[t, t']⟩, type, pos, after, guard⟩ = (do pure (Next.value (← Builtin.copy_ #[t, t'] type #[evC tmps y', evC tmps z']))) := by simp [execOp, resolve, invoke, builtin]
        rw [hex]
        exact Good.value (s := Builtin.copy_ #[t, t'] type #[evC tmps y', evC tmps z']) h1 h2 h3
      · rename_i t hx ht
        cases he : sliceElem P t with
        | none => rw [he] at h; cases h
        | some es =>
          rw [he] at h
          simp only [Option.map_some] at h
          injection h with h; injection h with h1 h2; subst h1; subst h2
          obtain ⟨ys⟩ := args
          obtain ⟨tl⟩ := ts
          simp only at hx ht
          obtain ⟨y, rfl⟩ : ∃ y, ys = [y] := by cases ys with | nil => cases hx | cons y ys => cases ys with | nil => exact ⟨y, rfl⟩ | cons => simp at hx
          simp at hx
          subst ht
          have hy := hargs y (by simp)
          rw [hx] at hy
          obtain ⟨_, _, hy'⟩ := hy.sliceNil_
          obtain ⟨e, s⟩ := es
          obtain ⟨hu, _⟩ := sliceElem_sound he
          have hex : execOp (evC tmps) ⟨dst, .call ⟨.builtin .cap, #[y], #[t]⟩, type, pos, after, guard⟩ = (do pure (Next.value (← Builtin.cap_ #[t] type #[evC tmps y]))) := by simp [execOp, resolve, invoke, builtin]
          rw [hex]
          refine Good.same (s := Builtin.cap_ #[t] type #[evC tmps y]) hR (v' := goInt 0) ?_ (.a (.s (.int _ _)))
          rw [hy']
          simp [Builtin.cap_, run_underlying hu]
      · exact plainly h hcong
      · exact plainly h hcong
      · cases h
    all_goals (simp only [aexec] at h; cases h)
  all_goals (simp only [aexec] at h; cases h)
end
end Go.Abs
