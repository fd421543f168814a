/- The orders that a region may draw: every listed operation comes behind all that it must. -/
import Derived.Test.YtmmgdgmjkhcfaaaEngJ
namespace Go.Abs
inductive Topo (ops : Array Oper) : (Nat → Bool) → List Nat → Prop
  | nil (L : Nat → Bool) : (∀ i, i < ops.size → L i = true) → Topo ops L []
  | cons (L : Nat → Bool) (i : Nat) (l : List Nat) : i < ops.size → L i = false → (∀ p ∈ preds (ops.getD i default), L p = true) → Topo ops (fun j => decide (j = i) || L j) l → Topo ops L (i :: l)
def cnt (n : Nat) (L : Nat → Bool) : Nat := ((List.range n).filter fun i => !L i).length
theorem cnt_zero {n : Nat} {L : Nat → Bool} (h : cnt n L = 0) : ∀ i, i < n → L i = true := by
  intro i hi
  unfold cnt at h
  have h1 := List.eq_nil_of_length_eq_zero h
  cases hL : L i with
  | true => rfl
  | false =>
    have : i ∈ (List.range n).filter fun i => !L i := by simp [hi, hL]
    rw [h1] at this
    cases this
theorem filter_set (L : Nat → Bool) (i : Nat) : ∀ (l : List Nat), l.Nodup → i ∈ l → L i = false → (l.filter fun j => !(decide (j = i) || L j)).length + 1 = (l.filter fun j => !L j).length := by
  intro l
  induction l with
  | nil => intro _ h; cases h
  | cons x l ih =>
    intro hnd hmem hL
    rw [List.nodup_cons] at hnd
    by_cases hx : x = i
    · subst hx
      have hnot : ∀ j ∈ l, j ≠ x := fun j hj e => hnd.1 (e ▸ hj)
      have : (l.filter fun j => !(decide (j = x) || L j)) = l.filter fun j => !L j := List.filter_congr fun j hj => by simp [hnot j hj]
      rw [List.filter_cons, List.filter_cons, this]
      simp [hL]
    · have hmem' : i ∈ l := by
        rcases List.mem_cons.1 hmem with e | e
        · exact absurd e.symm hx
        · exact e
      have := ih hnd.2 hmem' hL
      simp only [List.filter_cons, show decide (x = i) = false from by simp [hx], Bool.false_or]
      split
      · simp only [List.length_cons]; omega
      · exact this
theorem cnt_set {n : Nat} {L : Nat → Bool} {i : Nat} (hi : i < n) (hL : L i = false) : cnt n (fun j => decide (j = i) || L j) + 1 = cnt n L :=
  filter_set L i (List.range n) List.nodup_range (by simpa using hi) hL
theorem least {n : Nat} {L : Nat → Bool} : ∀ i, i < n → L i = false → ∃ j, j < n ∧ L j = false ∧ ∀ k, k < j → L k = true := by
  intro i
  induction i using Nat.strongRecOn with
  | _ i ih =>
    intro hi hL
    by_cases h : ∃ k, k < i ∧ L k = false
    · obtain ⟨k, hk, hLk⟩ := h
      exact ih k hk (by omega) hLk
    · refine ⟨i, hi, hL, fun k hk => ?_⟩
      cases hLk : L k with
      | true => rfl
      | false => exact absurd ⟨k, hk, hLk⟩ h
theorem mem_preds {o : Oper} {i : Nat} : i ∈ preds o ↔ ∃ e ∈ o.after.toList, Region.binds .any e = true ∧ e.on = i := by
  simp only [preds, List.mem_map, List.mem_filter]
  exact ⟨fun ⟨e, ⟨h1, h2⟩, h3⟩ => ⟨e, h1, h2, h3⟩, fun ⟨e, h1, h2, h3⟩ => ⟨e, ⟨h1, h2⟩, h3⟩⟩
theorem go_topo {ops : Array Oper} (hp : ∀ j, j < ops.size → ∀ i ∈ preds (ops.getD j default), i < j) : ∀ (fuel t : Nat) (listed : Array Bool) (acc : List Nat), listed.size = ops.size → cnt ops.size (fun i => listed.getD i false) ≤ fuel →
    ∃ l, Region.linearise.go .any ops fuel t listed acc = acc.reverse ++ l ∧ Topo ops (fun i => listed.getD i false) l := by
  intro fuel
  induction fuel with
  | zero =>
    intro t listed acc hs hc
    exact ⟨[], by simp [Region.linearise.go], .nil _ (cnt_zero (by omega))⟩
  | succ fuel ih =>
    intro t listed acc hs hc
    rw [Region.linearise.go]
    generalize hrs : ((List.range ops.size).filter fun i => !listed.getD i true && ((ops[i]?).map (·.after.all fun e => !Region.binds .any e || listed.getD e.on false)).getD false) = rs
    have hmem : ∀ i, i ∈ rs ↔ i < ops.size ∧ listed.getD i false = false ∧ ∀ p ∈ preds (ops.getD i default), listed.getD p false = true := by
      intro i
      rw [← hrs]
      simp only [List.mem_filter, List.mem_range, Bool.and_eq_true, Bool.not_eq_true']
      constructor
      · rintro ⟨hi, h1, h2⟩
        have hget : ops[i]? = some (ops.getD i default) := by rw [Array.getElem?_eq_getElem hi]; simp [Array.getD, hi]
        rw [hget] at h2
        simp only [Option.map_some, Option.getD_some, Array.all_eq_true_iff_forall_mem] at h2
        refine ⟨hi, by simpa [Array.getD, show i < listed.size by omega] using h1, fun p hpp => ?_⟩
        obtain ⟨e, he1, he2, rfl⟩ := mem_preds.1 hpp
        have := h2 e (by simpa using he1)
        simpa [he2] using this
      · rintro ⟨hi, h1, h2⟩
        have hget : ops[i]? = some (ops.getD i default) := by rw [Array.getElem?_eq_getElem hi]; simp [Array.getD, hi]
        refine ⟨hi, by simpa [Array.getD, show i < listed.size by omega] using h1, ?_⟩
        rw [hget]
        simp only [Option.map_some, Option.getD_some, Array.all_eq_true_iff_forall_mem]
        intro e he
        cases hb : Region.binds .any e with
        | false => simp
        | true => simpa [hb] using h2 e.on (mem_preds.2 ⟨e, by simpa using he, hb, rfl⟩)
    cases hn : rs[t % rs.length]? with
    | none =>
      refine ⟨[], by simp, .nil _ fun i hi => ?_⟩
      cases hL : listed.getD i false with
      | true => rfl
      | false =>
        obtain ⟨j, hj, hLj, hlow⟩ := least (L := fun i => listed.getD i false) i hi hL
        have hjr : j ∈ rs := (hmem j).2 ⟨hj, hLj, fun p hpp => hlow p (hp j hj p hpp)⟩
        have hpos : 0 < rs.length := List.length_pos_of_mem hjr
        have hlt : t % rs.length < rs.length := Nat.mod_lt _ hpos
        rw [List.getElem?_eq_getElem hlt] at hn
        cases hn
    | some i =>
      have hir : i ∈ rs := List.mem_of_getElem? hn
      obtain ⟨hi, hL, hpr⟩ := (hmem i).1 hir
      simp only
      have hfun : (fun j => (listed.setIfInBounds i true).getD j false) = fun j => decide (j = i) || listed.getD j false := by
        funext j
        rw [Array.getD_eq_getD_getElem?, Array.getD_eq_getD_getElem?, Array.getElem?_setIfInBounds]
        by_cases hji : j = i
        · subst hji; simp [show j < listed.size by omega]
        · rw [if_neg (fun e => hji e.symm)]; simp [hji]
      have hc' := cnt_set (L := fun j => listed.getD j false) hi hL
      obtain ⟨l, h1, h2⟩ := ih (t / rs.length) (listed.setIfInBounds i true) (i :: acc) (by simp [hs]) (by rw [hfun]; omega)
      refine ⟨i :: l, by rw [h1]; simp, .cons _ i l hi hL hpr ?_⟩
      rw [hfun] at h2
      exact h2
theorem linearise_topo {ops : Array Oper} (hp : ∀ j, j < ops.size → ∀ i ∈ preds (ops.getD j default), i < j) (t : Nat) : Topo ops (fun _ => false) (Region.linearise .any ops t) := by
  have hf : (fun i => (Array.replicate ops.size false).getD i false) = fun _ => false := by
    funext i; rw [Array.getD_eq_getD_getElem?, Array.getElem?_replicate]; split <;> rfl
  obtain ⟨l, h1, h2⟩ := go_topo hp ops.size t (Array.replicate ops.size false) [] (by simp) (by
    unfold cnt; exact Nat.le_trans (List.length_filter_le _ _) (by simp))
  rw [hf] at h2
  unfold Region.linearise
  rw [h1]
  exact h2
/- the closure -/
theorem fold_bit (acc : Array Nat) (i : Nat) : ∀ (l : List Edge) (s : Nat), (l.foldl (fun s e => if Region.binds .any e then s ||| 2 ^ e.on ||| acc.getD e.on 0 else s) s).testBit i = true ↔
    s.testBit i = true ∨ ∃ e ∈ l, Region.binds .any e = true ∧ (e.on = i ∨ (acc.getD e.on 0).testBit i = true) := by
  intro l
  induction l with
  | nil => intro s; simp
  | cons e l ih =>
    intro s
    rw [List.foldl_cons, ih]
    cases hb : Region.binds .any e with
    | false => simp [hb]
    | true =>
      simp only [if_true, Nat.testBit_or, Bool.or_eq_true, Nat.testBit_two_pow, decide_eq_true_eq, List.mem_cons, exists_eq_or_imp, hb, true_and]
      constructor
      · rintro (((h | h) | h) | h)
        · exact .inl h
        · exact .inr (.inl (.inl h))
        · exact .inr (.inl (.inr h))
        · exact .inr (.inr h)
      · rintro (h | (h | h) | h)
        · exact .inl (.inl (.inl h))
        · exact .inl (.inl (.inr h))
        · exact .inl (.inr h)
        · exact .inr h
def befOf (acc : Array Nat) (o : Oper) : Nat := o.after.foldl (fun s e => if Region.binds .any e then s ||| 2 ^ e.on ||| acc.getD e.on 0 else s) 0
theorem before_list (l : List Oper) : ∀ (acc : Array Nat), (∀ j, j < l.length → ∀ i ∈ preds (l.getD j default), i < acc.size + j) →
    ∃ B : Array Nat, l.foldl (fun acc o => acc.push (befOf acc o)) acc = B ∧ B.size = acc.size + l.length ∧ (∀ j, j < acc.size → B.getD j 0 = acc.getD j 0) ∧
      ∀ j, j < l.length → ∀ i, (B.getD (acc.size + j) 0).testBit i = true ↔ ∃ p ∈ preds (l.getD j default), p = i ∨ (B.getD p 0).testBit i = true := by
  induction l with
  | nil => intro acc _; exact ⟨acc, rfl, by simp, fun _ _ => rfl, fun j hj => by simp at hj⟩
  | cons o l ih =>
    intro acc hp
    obtain ⟨B, h1, h2, h3, h4⟩ := ih (acc.push (befOf acc o)) (fun j hj i hi => by
      have := hp (j + 1) (by simpa using hj) i (by simpa using hi)
      simp; omega)
    simp only [Array.size_push] at h2 h3 h4
    refine ⟨B, by rw [List.foldl_cons]; exact h1, by simp; omega, fun j hj => ?_, fun j hj i => ?_⟩
    · rw [h3 j (by omega), Array.getD_eq_getD_getElem?, Array.getElem?_push, if_neg (by omega), ← Array.getD_eq_getD_getElem?]
    · cases j with
      | zero =>
        have hB : B.getD acc.size 0 = befOf acc o := by
          rw [h3 acc.size (by omega), Array.getD_eq_getD_getElem?, Array.getElem?_push, if_pos rfl]; rfl
        rw [Nat.add_zero, hB]
        unfold befOf
        rw [← Array.foldl_toList, fold_bit]
        simp only [Nat.zero_testBit, Bool.false_eq_true, false_or, List.getD_cons_zero]
        constructor
        · rintro ⟨e, he, hb, h⟩
          have hpm : e.on ∈ preds o := mem_preds.2 ⟨e, he, hb, rfl⟩
          have hlt := hp 0 (by simp) e.on (by simpa using hpm)
          refine ⟨e.on, hpm, ?_⟩
          rcases h with h | h
          · exact .inl h
          · refine .inr ?_
            rw [h3 _ (by omega), Array.getD_eq_getD_getElem?, Array.getElem?_push, if_neg (by omega), ← Array.getD_eq_getD_getElem?]
            exact h
        · rintro ⟨p, hpm, h⟩
          obtain ⟨e, he, hb, rfl⟩ := mem_preds.1 hpm
          have hlt := hp 0 (by simp) e.on (by simpa using hpm)
          refine ⟨e, he, hb, ?_⟩
          rcases h with h | h
          · exact .inl h
          · refine .inr ?_
            rw [h3 _ (by omega), Array.getD_eq_getD_getElem?, Array.getElem?_push, if_neg (by omega), ← Array.getD_eq_getD_getElem?] at h
            exact h
      | succ j =>
        have := h4 j (by simpa using hj) i
        rw [show acc.size + (j + 1) = acc.size + 1 + j from by omega]
        simpa using this
theorem before_bits {ops : Array Oper} (hp : ∀ j, j < ops.size → ∀ i ∈ preds (ops.getD j default), i < j) : ∀ j, j < ops.size → ∀ i, ((Region.before ops).getD j 0).testBit i = true ↔ ∃ p ∈ preds (ops.getD j default), p = i ∨ ((Region.before ops).getD p 0).testBit i = true := by
  have hgd : ∀ j, ops.getD j default = ops.toList.getD j default := fun j => by simp [Array.getD_eq_getD_getElem?]
  obtain ⟨B, h1, _, _, h4⟩ := before_list ops.toList #[] (fun j hj i hi => by
    have := hp j (by simpa using hj) i (by rw [hgd]; exact hi)
    simpa using this)
  have hB : Region.before ops = B := by
    unfold Region.before
    rw [← Array.foldl_toList]
    exact h1
  intro j hj i
  rw [hB, hgd]
  have := h4 j (by simpa using hj) i
  simpa using this
end Go.Abs
