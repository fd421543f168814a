/- Runs over values that are not known: the greater and the smaller of two numbers, parts of structs, lists that may be made longer. -/
import Derived.Test.YtmmgdgmjkhcfaaaSymE
set_option linter.all false
namespace Go.Abs
section
variable {P : Program} {call : CallF} {a : Fr} {H : Heap} {d : Option Nat} {ty : TypeId} {pos : String} {aft : Array Edge} {g : Option (Nat × Bool)}
def maxS (u v : Value) (H : Heap) (r : Option (Value × Heap)) : Option (Value × Heap) := match u, v with
  | .int .i64 p, .int .i64 q => some (vi (if p < q then q else p), H)
  | _, _ => r
def minS (u v : Value) (H : Heap) (r : Option (Value × Heap)) : Option (Value × Heap) := match u, v with
  | .int .i64 p, .int .i64 q => some (vi (if q < p then q else p), H)
  | _, _ => r
theorem maxS_congr {u u' v v' : Value} {H : Heap} {r : Option (Value × Heap)} (hu : u = u') (hv : v = v') : maxS u v H r = maxS u' v' H r := by rw [hu, hv]
theorem minS_congr {u u' v v' : Value} {H : Heap} {r : Option (Value × Heap)} (hu : u = u') (hv : v = v') : minS u v H r = minS u' v' H r := by rw [hu, hv]
theorem maxS_vi {p q : Int} {r : Option (Value × Heap)} : maxS (vi p) (vi q) H r = some (vi (if p < q then q else p), H) := (rfl)
theorem minS_vi {p q : Int} {r : Option (Value × Heap)} : minS (vi p) (vi q) H r = some (vi (if q < p then q else p), H) := (rfl)
theorem sy_max {x y : Operand} {t t' : TypeId} : stepA P call a ⟨d, .call { callee := .builtin .max, args := #[x, y], argTypes := #[t, t'] }, ty, pos, aft, g⟩ H = maxS (ev a x) (ev a y) H (rest (aexec P a ⟨d, .call { callee := .builtin .max, args := #[x, y], argTypes := #[t, t'] }, ty, pos, aft, g⟩ H)) := by
  show aexec P a ⟨d, .call { callee := .builtin .max, args := #[x, y], argTypes := #[t, t'] }, ty, pos, aft, g⟩ H = _
  unfold maxS rest
  split
  · rename_i p q hx hy
    have e : plainA P a (⟨d, .call { callee := .builtin .max, args := #[x, y], argTypes := #[t, t'] }, ty, pos, aft, g⟩ : Oper) = some (vi (if p < q then q else p)) := by
      unfold plainA
      have hops : (⟨d, .call { callee := .builtin .max, args := #[x, y], argTypes := #[t, t'] }, ty, pos, aft, g⟩ : Oper).op.operands.toList = [x, y] := rfl
      rw [hops]
      simp only [List.all_cons, List.all_nil, hx, hy, plain, Bool.and_self, if_true]
      have ex : execOp (ev a) (⟨d, .call { callee := .builtin .max, args := #[x, y], argTypes := #[t, t'] }, ty, pos, aft, g⟩ : Oper) = (pure (.value (.int .i64 (if p < q then q else p))) : Sem Next) := by
        show (resolve (ev a) ⟨.builtin .max, ⟨[x, y]⟩, #[t, t']⟩ ty >>= fun d => invoke d.target d.args) = _
        simp [resolve, invoke, builtin, Builtin.max_, Builtin.max2, hx, hy]
      rw [ex]
      rfl
    show (plainA P a _).map (·, H) = _
    rw [e]; rfl
  · rfl
theorem sy_min {x y : Operand} {t t' : TypeId} : stepA P call a ⟨d, .call { callee := .builtin .min, args := #[x, y], argTypes := #[t, t'] }, ty, pos, aft, g⟩ H = minS (ev a x) (ev a y) H (rest (aexec P a ⟨d, .call { callee := .builtin .min, args := #[x, y], argTypes := #[t, t'] }, ty, pos, aft, g⟩ H)) := by
  show aexec P a ⟨d, .call { callee := .builtin .min, args := #[x, y], argTypes := #[t, t'] }, ty, pos, aft, g⟩ H = _
  unfold minS rest
  split
  · rename_i p q hx hy
    have e : plainA P a (⟨d, .call { callee := .builtin .min, args := #[x, y], argTypes := #[t, t'] }, ty, pos, aft, g⟩ : Oper) = some (vi (if q < p then q else p)) := by
      unfold plainA
      have hops : (⟨d, .call { callee := .builtin .min, args := #[x, y], argTypes := #[t, t'] }, ty, pos, aft, g⟩ : Oper).op.operands.toList = [x, y] := rfl
      rw [hops]
      simp only [List.all_cons, List.all_nil, hx, hy, plain, Bool.and_self, if_true]
      have ex : execOp (ev a) (⟨d, .call { callee := .builtin .min, args := #[x, y], argTypes := #[t, t'] }, ty, pos, aft, g⟩ : Oper) = (pure (.value (.int .i64 (if q < p then q else p))) : Sem Next) := by
        show (resolve (ev a) ⟨.builtin .min, ⟨[x, y]⟩, #[t, t']⟩ ty >>= fun d => invoke d.target d.args) = _
        simp [resolve, invoke, builtin, Builtin.min_, Builtin.min2, hx, hy]
      rw [ex]
      rfl
    show (plainA P a _).map (·, H) = _
    rw [e]; rfl
  · rfl
def getS (cs : Value) (i : Nat) : Option Value := match cs with
  | .agg vs => vs[i]?
  | _ => none
/-- A field of one cell. -/
def oneField (P : Program) (t : TypeId) (i off : Nat) : Bool := match P.underlying t with
  | some (.struct fs) => match fs[i]? with
    | some f => f.offset == off && isAggT P f.type == some false
    | none => false
  | _ => false
theorem sy_field {t : TypeId} {x : Operand} {i off : Nat} (h : oneField P t i off = true) : stepA P call a ⟨d, .field t x i, ty, pos, aft, g⟩ H = (getS (ev a x) off).map fun p => (p, H) := by
  show (fieldA P t (ev a x) i).map (·, H) = _
  unfold oneField at h
  split at h
  · rename_i fs hu
    split at h
    · rename_i f hf
      simp only [Bool.and_eq_true, beq_iff_eq] at h
      unfold fieldA
      rw [hu]
      cases ev a x <;> try rfl
      rename_i cs
      simp only [hf, partA, h.2, h.1, getS, Array.getElem?_toList]
    · cases h
  · cases h
theorem get_0 {u v : Value} : getS (.agg #[u, v]) 0 = some u := (rfl)
theorem get_1 {u v : Value} : getS (.agg #[u, v]) 1 = some v := (rfl)
theorem sy_build2 {t el : TypeId} {x y : Operand} {z1 z2 : Value} (hs : sliceElem P t = some (el, 1)) (hz : zeros P el 1 2 = some [z1, z2]) {u v : Value} (hu : ev a x = u) (hv : ev a y = v) (su : scal u = some [u]) (sv : scal v = some [v]) :
    stepA P call a ⟨d, .buildSlice t 2 #[(0, x), (1, y)], ty, pos, aft, g⟩ H = some (sliceA H.length 0 2 1, H ++ [.cells H.length true [u, v]]) := by
  subst hu; subst hv
  show buildSliceA P t 2 [(0, ev a x), (1, ev a y)] H = _
  unfold buildSliceA
  simp only [hs]
  rw [if_pos ⟨by omega, by unfold maxA; omega⟩]
  simp [hz, fillL, su, sv, setList]
end
/-- A list of the call's own that may be the beginning of a longer one. -/
def OP (C : Nat) (H : Heap) (v : Value) (l : List Value) : Prop :=
  (v = .slice none 0 0 ∧ l = []) ∨ ∃ b f cs, v = sliceA b 0 l.length 1 ∧ C ≤ b ∧ C ≤ f ∧ H[b]? = some (.cells f true cs) ∧ l.length ≤ cs.length ∧ cs.take l.length = l
theorem O.OP {C : Nat} {H : Heap} {v : Value} {l : List Value} (h : O C H v l) : OP C H v l := by
  rcases h with h | ⟨b, f, h1, h2, h3, h4⟩
  · exact .inl h
  · exact .inr ⟨b, f, l, h1, h2, h3, h4, Nat.le_refl _, List.take_length⟩
theorem OP.RO {C : Nat} {H : Heap} {v : Value} {l : List Value} (h : OP C H v l) : RO C H v l := by
  rcases h with h | ⟨b, f, cs, h1, h2, h3, h4, h5, h6⟩
  · exact .inl h
  · exact .inr (.inr ⟨b, 0, f, true, cs, h1, h2, h3, h4, by omega, by simpa using h6⟩)
theorem OP.kept {C : Nat} {H H' : Heap} {v : Value} {l : List Value} (h : OP C H v l) (k : Kept C H H') : OP C H' v l := by
  rcases h with h | ⟨b, f, cs, h1, h2, h3, h4, h5⟩
  · exact .inl h
  · exact .inr ⟨b, f, cs, h1, h2, h3, k b f true cs h2 h3 h4, h5⟩
theorem OP.mono {C : Nat} {H H' : Heap} {v : Value} {l : List Value} (h : OP C H v l) (ho : Old H.length H H') : OP C H' v l := by
  rcases h with h | ⟨b, f, cs, h1, h2, h3, h4, h5⟩
  · exact .inl h
  · exact .inr ⟨b, f, cs, h1, h2, h3, by rw [ho.2 b (lt_of_blk h4)]; exact h4, h5⟩
theorem OP.below {C C' : Nat} {H : Heap} {v : Value} {l : List Value} (h : OP C H v l) (hc : C' ≤ C) : OP C' H v l := by
  rcases h with h | ⟨b, f, cs, h1, h2, h3, h4⟩
  · exact .inl h
  · exact .inr ⟨b, f, cs, h1, by omega, by omega, h4⟩
theorem OP.upto {C : Nat} {H : Heap} {v : Value} {l : List Int} (h : OP C H v (ints l)) {c : Nat} (hc : c ≤ l.length) : ∃ v', subS v none (some (vi c)) = some v' ∧ OP C H v' (ints (l.take c)) := by
  have bA : boundA (some (vi c)) l.length l.length = some c := by simp only [boundA]; rw [if_pos ⟨by omega, by omega⟩]; simp
  rcases h with ⟨rfl, hl⟩ | ⟨b, f, cs, rfl, h2, h3, hb, h4, h5⟩
  · have : l = [] := by simpa [ints] using hl
    subst this
    obtain rfl : c = 0 := by simpa using hc
    exact ⟨_, rfl, .inl ⟨rfl, by simp [ints]⟩⟩
  · have e : (ints (l.take c)).length = c := by rw [ints_len, List.length_take]; omega
    refine ⟨sliceA b 0 c 1, ?_, .inr ⟨b, f, cs, by rw [e], h2, h3, hb, by rw [e]; rw [ints_len] at h4; omega, ?_⟩⟩
    · simp only [subS, sliceA, ints_len, bA]
      simp [boundA]
    · rw [e]
      have : (ints l).take c = ints (l.take c) := by unfold ints; rw [List.map_take]
      rw [← this, ← h5, List.take_take, ints_len, Nat.min_eq_left hc]
theorem OP.app {B : Nat} {H : Heap} {s x : Value} {l m : List Value} (h : OP B H s l) (hw : WF H) (hB : B ≤ H.length) (hx : Abs.R H x m) (hm : m ≠ []) (hl : l.length + m.length ≤ maxA) :
    ∃ v' H', appS s x H = some (v', H') ∧ O B H' v' (l ++ m) ∧ Old B H H' ∧ WF H' := by
  obtain ⟨hr, p, c, hv⟩ := hx.read
  have h0 : m.length ≠ 0 := fun h => hm (List.eq_nil_of_length_eq_zero h)
  rcases h with ⟨rfl, rfl⟩ | ⟨b, f, cs, rfl, h1, h2, hb, h3, h4⟩
  · exact (O.nil B H).app hw hB hx hl
  · refine ⟨sliceA H.length 0 (l.length + m.length) 1, H.map (truncFam f l.length) ++ [.cells f true (cs.take l.length ++ m)], ?_, .inr ⟨H.length, f, by simp, hB, h2, by simp [h4]⟩, ?_, ?_⟩
    · unfold appS
      rw [hr, hv]
      simp only [h0, if_false, sliceA, hb]
      rw [if_pos ⟨trivial, h3, hl⟩]
    · refine (old_trunc hw h2 (k := l.length)).trans ?_
      have := (Old.app (H.map (truncFam f l.length)) [.cells f true (cs.take l.length ++ m)])
      exact this.mono (by simpa using hB)
    · refine (wf_trunc hw).app ?_
      have := hw b f true cs hb
      have := lt_of_blk hb
      simp; omega
/-- A cell is written: blocks made later stand. -/
theorem OM.setK {B C : Nat} {H : Heap} {s : Value} {l : List Value} (h : OM B C H s l) (hw : WF H) {i : Nat} (hi : i < l.length) {c : Value} (hc : Abs.scal c = some [c]) :
    ∃ H', storeS (pt s i) c H = some H' ∧ OM B C H' s (l.set i c) ∧ Old B H H' ∧ WF H' ∧ Kept C H H' := by
  rcases h with ⟨rfl, rfl⟩ | ⟨b, f, rfl, h1, h2, h3, h4, hb⟩
  · simp at hi
  · obtain ⟨H', e, e1, e2, e3, e4, _⟩ := write_own hw h1 h2 h3 h4 hb (i := i) (vs := [c]) (by simp; omega)
    refine ⟨H', ?_, .inr ⟨b, f, by simp, h1, h2, h3, h4, by rw [e1]; rfl⟩, e2, e3, e4⟩
    simp only [pt, sliceA, storeS, ptrA, hc, Nat.zero_add]
    exact e
theorem OM.setKI {B C : Nat} {H : Heap} {s : Value} {l : List Int} (h : OM B C H s (ints l)) (hw : WF H) {i : Nat} (hi : i < l.length) (z : Int) :
    ∃ H', storeS (pt s i) (vi z) H = some H' ∧ OM B C H' s (ints (l.set i z)) ∧ Old B H H' ∧ WF H' ∧ Kept C H H' := by
  have := h.setK hw (i := i) (by rw [ints_len]; exact hi) (c := vi z) rfl
  rw [ints_set] at this; exact this
/-- A list that is read in blocks from C to D. -/
def RM (C D : Nat) (H : Heap) (v : Value) (l : List Value) : Prop :=
  (v = .slice none 0 0 ∧ l = []) ∨ (v = lostSlice ∧ l = []) ∨ ∃ b o f w cs, v = sliceA b o l.length 1 ∧ C ≤ b ∧ C ≤ f ∧ b < D ∧ H[b]? = some (.cells f w cs) ∧ o + l.length ≤ cs.length ∧ (cs.drop o).take l.length = l
theorem RM.R {C D : Nat} {H : Heap} {v : Value} {l : List Value} (h : RM C D H v l) : R H v l := by
  rcases h with h | h | ⟨b, o, f, w, cs, h1, _, _, _, h2⟩
  · exact .inl h
  · exact .inr (.inl h)
  · exact .inr (.inr ⟨b, o, f, w, cs, h1, h2⟩)
theorem RO.RM {C : Nat} {H : Heap} {v : Value} {l : List Value} (h : RO C H v l) : RM C H.length H v l := by
  rcases h with h | h | ⟨b, o, f, w, cs, h1, h2, h3, hb, h4⟩
  · exact .inl h
  · exact .inr (.inl h)
  · exact .inr (.inr ⟨b, o, f, w, cs, h1, h2, h3, lt_of_blk hb, hb, h4⟩)
theorem RM.kept {C D : Nat} {H H' : Heap} {v : Value} {l : List Value} (h : RM C D H v l) (k : Kept C H H') : RM C D H' v l := by
  rcases h with h | h | ⟨b, o, f, w, cs, h1, h2, h3, h4, hb, h5⟩
  · exact .inl h
  · exact .inr (.inl h)
  · exact .inr (.inr ⟨b, o, f, w, cs, h1, h2, h3, h4, k b f w cs h2 h3 hb, h5⟩)
theorem RM.mono {C D : Nat} {H H' : Heap} {v : Value} {l : List Value} (h : RM C D H v l) (ho : Old D H H') : RM C D H' v l := by
  rcases h with h | h | ⟨b, o, f, w, cs, h1, h2, h3, h4, hb, h5⟩
  · exact .inl h
  · exact .inr (.inl h)
  · exact .inr (.inr ⟨b, o, f, w, cs, h1, h2, h3, h4, by rw [ho.2 b h4]; exact hb, h5⟩)
end Go.Abs
