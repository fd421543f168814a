/- An operation that makes a block: which block, whatever the heap holds else. -/
import Derived.Test.YtmmgdgmjkhcfaaaEngKb
namespace Go.Abs
/-- It makes block B; in the world the object 'obj' comes last. -/
def Makes (P : Program) (M : Mp) (G : Heap) (w : World) (s : Sem Next) (v : Value) (G' : Heap) : Prop :=
  ∃ B obj N v', G' = G ++ [B] ∧ B.owned = true ∧ s.run P w = .ok (.value v') { w with heap := w.heap.push obj } ∧ (∀ M', Ext M M' → M' G.length = some ⟨w.heap.size, 0, N⟩ → VR M' v v') ∧
    ∀ (M' : Mp) (w' : World), Ext M M' → w'.heap[w.heap.size]? = some obj → BR M' w' ⟨w.heap.size, 0, N⟩ B
section
variable {P : Program} {M : Mp} {G G' : Heap} {w : World} {nt : Nat} {a : Fr} {tmps : Array Value}
theorem Makes.cells {s : Sem Value} {v v' : Value} {el : TypeId} {cs : List Value} {C : Array Value} (hrun : s.run P w = .ok v' { w with heap := w.heap.push (.cells C el) }) (hv : ∀ M', Ext M M' → M' G.length = some ⟨w.heap.size, 0, C.size⟩ → VR M' v v')
    (hcs : ∀ (i : Nat) (u : Value), cs[i]? = some u → ∃ u', C[i]? = some u' ∧ SR M u u') : Makes P M G w (do pure (.value (← s))) v (G ++ [.cells G.length true cs]) :=
  ⟨_, _, C.size, v', rfl, rfl, by simp [hrun], hv, fun M' w' hM hw => ⟨C, el, (0, 0), hw, rfl, fun _ => rfl, fun i u hu => by
    obtain ⟨u', h1, h2⟩ := hcs i u hu
    exact ⟨u', by simpa using h1, h2.mono hM⟩⟩⟩
theorem makes_box {v v' : Value} {cs : List Value} {el : TypeId} (hs : scal v = some cs) (hv : VR M v v') : Makes P M G w (do pure (.value (← Instr.box el v'))) (ptrA G.length 0) (G ++ [.cells G.length true cs]) := by
  obtain ⟨h1, _⟩ := scal_rel hs hv
  exact Makes.cells (C := v'.cells) (el := el) (v' := .pointer (some ⟨w.heap.size, 0, none⟩)) (by simp [Instr.box, newVar, newRow, newObj, Sem.run]) (fun M' hM hl => .a (.s (.ptr _ 0 _ hl))) (fun i u hu => by simpa using h1.get i u hu)
theorem alloc_core {o : Oper} (hv : ∀ z ∈ o.op.operands.toList, VR M (ev a z) (evC tmps z)) (hc : cls o.op = .all_) {v : Value} (h : aexec P a o G = some (v, G')) : Makes P M G w (execOp (evC tmps) o) v G' := by
  obtain ⟨dst, op, type, pos, after, guard⟩ := o
  cases op <;> first | (simp [cls] at hc; done) | skip
  case alloc t =>
    simp only [aexec] at h
    split at h
    · rename_i z hz
      split at h
      · rename_i cs hcs
        injection h with h; injection h with h1 h2; subst h1; subst h2
        obtain ⟨hz1, hz2⟩ := run_zero hz w
        have hb := makes_box (P := P) (G := G) (w := w) (el := t) hcs (.a (.of_const M hz2))
        obtain ⟨B, obj, N, v', q1, q2, q3, q4, q5⟩ := hb
        refine ⟨B, obj, N, v', q1, q2, ?_, q4, q5⟩
        simp only [Instr.box, Sem.run_bind, Sem.run_pure] at q3
        simp only [execOp, Instr.alloc, Sem.run_bind, hz1, Result.andThen_ok, Sem.run_pure]
        exact q3
      · cases h
    · cases h
  case box t x =>
    simp only [aexec] at h
    split at h
    · rename_i cs hcs
      injection h with h; injection h with h1 h2; subst h1; subst h2
      exact makes_box hcs (hv x (by simp [Op.operands]))
    · cases h
  case buildSlice t len parts =>
    simp only [aexec] at h
    have hp := partsOf (parts := parts) fun p hp => hv _ (by simp only [Op.operands, List.mem_toArray, Array.toList_map]; simp; exact ⟨p.1, by simpa using hp⟩)
    unfold buildSliceA at h
    split at h
    · rename_i e size he
      obtain ⟨hu, hs⟩ := sliceElem_sound he
      split at h
      · rename_i hsz
        split at h
        · rename_i zs hz
          split at h
          · rename_i cells hc
            injection h with h
            injection h with h1 h2
            subst h1; subst h2
            obtain ⟨z, hz1, hz2, hz3, hz4⟩ := zeros_rel (m := M) hz (Nat.le_refl len)
            have hC : All2 (SR M) zs ((Array.range (len * size)).map (z.cells[· % z.cells.size]!)).toList :=
              .of_get (by simp [hz3]) fun i x y hx hy => by
                obtain ⟨v', h1, h2⟩ := hz4 i x hx
                have hy' : ((Array.range (len * size)).map (z.cells[· % z.cells.size]!))[i]? = some y := by rw [← Array.getElem?_toList]; exact hy
                rw [h1] at hy'
                injection hy' with hy'
                rw [← hy']; exact h2
            obtain ⟨R, hR1, hr⟩ := fill_sound hp hc hC
            have hlim : ¬ (len * size > 2 ^ 24) := by unfold maxA at hsz; omega
            have h6 := fillL_length hc
            have h7 := hr.length
            simp only [Array.length_toList] at h7
            have hfit : 0 + 0 + len * size ≤ R.size := by omega
            refine Makes.cells (C := R) (el := e) (v' := .slice (some ⟨w.heap.size, 0, none⟩) len len) ?_ (fun M' hM hl => ?_) (fun i u hu => ?_)
            · exact buildSlice_run hu hs hlim hz1 hR1
            · exact .a (.s (.slice _ 0 len size len _ hl (Nat.le_refl _) hfit))
            · simpa using hr.get i u hu
          · cases h
        · cases h
      · cases h
    · cases h
  case makeMap t r =>
    simp only [aexec] at h
    split at h
    · rename_i k e hu
      split at h
      · rename_i hc
        injection h with h; injection h with h1 h2; subst h1; subst h2
        refine ⟨.map [], .map #[] 0, 0, .map (some w.heap.size), rfl, rfl, ?_, fun M' hM hl => .a (.s (.map _ _ hl)), fun M' w' hM hw => ⟨#[], 0, hw, .nil⟩⟩
        cases r with
        | none => simp [execOp, Instr.makeMap, newObj, Sem.run]
        | some x =>
          cases x with
          | const c =>
            cases c <;> first | (simp [constInt] at hc; done) | skip
            simp [execOp, Instr.makeMap, newObj, Sem.run, run_underlying hu, evC, asInt, asIntOf]
          | _ => simp [constInt] at hc
      · cases h
    · cases h
  case makeSlice t l c =>
    simp only [aexec] at h
    split at h
    · rename_i e size bytes k n k' cc he hb hl hc'
      split at h
      · rename_i hcond
        obtain ⟨h0, h1, h2, h3, h4⟩ := hcond
        split at h
        · rename_i zs hz
          injection h with h; injection h with e1 e2; subst e1; subst e2
          obtain ⟨n', rfl⟩ := Int.eq_ofNat_of_zero_le h0
          obtain ⟨c', rfl⟩ := Int.eq_ofNat_of_zero_le (Int.le_trans h0 h1)
          rw [he] at hb
          simp only [Option.getD_some] at hb
          have hl' := hv l (by simp [Op.operands])
          have hcc := hv c (by simp [Op.operands])
          rw [hl] at hl'
          rw [hc'] at hcc
          have hl2 := hl'.int_
          have hc2 := hcc.int_
          simp only [Int.toNat_natCast] at hz
          obtain ⟨z, hz1, hz2, hz3, hz4⟩ := zeros_rel (m := M) (c := c') hz (by omega)
          have hrun := makeSlice_run (P := P) (w := w) (c := c') he hb (by omega) (by omega) h4 hz1 hz2 (n := n') k k'
          refine Makes.cells (s := Instr.makeSlice t (evC tmps l) (evC tmps c)) (C := (Array.range (c' * size)).map (z.cells[· % z.cells.size]!)) (el := e) (by rw [hl2, hc2]; exact hrun) (fun M' hM hl => ?_) hz4
          simp only [Int.toNat_natCast]
          exact .a (.s (.slice _ 0 n' size c' _ hl (by omega) (by simp)))
        · cases h
      · cases h
    · cases h
  case call c =>
    exfalso
    obtain ⟨callee, args, ts⟩ := c
    cases callee
    case builtin bi => cases bi <;> simp [cls] at hc
    all_goals simp [cls] at hc
end
end Go.Abs
