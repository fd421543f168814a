/- Of the law: texts of its proof, joined (part 2). -/
import Derived.Test.YtkedcelpadiakaaGreatQap1
set_option linter.all false
namespace Go.Abs
inductive Topo (ops : Array Oper) : (Nat → Bool) → List Nat → Prop
 | nil (L : Nat → Bool) : (∀ i, i < ops.size → L i = true) → Topo ops L []
 | cons (L : Nat → Bool) (i : Nat) (l : List Nat) : i < ops.size → L i = false → (∀ p ∈ preds (ops.getD i default), L p = true) → Topo ops (fun j => decide (j = i) || L j) l → Topo ops L (i :: l)
def cnt (n : Nat) (L : Nat → Bool) : Nat := ((List.range n).filter fun i => !L i).length
theorem cnt_zero {n : Nat} {L : Nat → Bool} (h : cnt n L = 0) : ∀ i, i < n → L i = true := by
 intro i hi
 unfold cnt at h
 have h1 := List.eq_nil_of_length_eq_zero h
 cases hL : L i with
 | true => rfl
 | false =>
   have : i ∈ (List.range n).filter fun i => !L i := by simp [hi, hL]
   rw [h1] at this
   cases this
theorem filter_set (L : Nat → Bool) (i : Nat) : ∀ (l : List Nat), l.Nodup → i ∈ l → L i = false → (l.filter fun j => !(decide (j = i) || L j)).length + 1 = (l.filter fun j => !L j).length := by
 intro l
 induction l with
 | nil => intro _ h; cases h
 | cons x l ih =>
   intro hnd hmem hL
   rw [List.nodup_cons] at hnd
   by_cases hx : x = i
   ·subst hx
    have hnot : ∀ j ∈ l, j ≠ x := fun j hj e => hnd.1 (e ▸ hj)
    have : (l.filter fun j => !(decide (j = x) || L j)) = l.filter fun j => !L j := List.filter_congr fun j hj => by simp [hnot j hj]
    rw [List.filter_cons, List.filter_cons, this]
    simp [hL]
   ·have hmem' : i ∈ l := by
     rcases List.mem_cons.1 hmem with e | e
     ·exact absurd e.symm hx
     ·exact e
    have := ih hnd.2 hmem' hL
    simp only [List.filter_cons, show decide (x = i) = false from by simp [hx], Bool.false_or]
    split
    ·simp only [List.length_cons]; omega
    ·exact this
theorem cnt_set {n : Nat} {L : Nat → Bool} {i : Nat} (hi : i < n) (hL : L i = false) : cnt n (fun j => decide (j = i) || L j) + 1 = cnt n L :=
 filter_set L i (List.range n) List.nodup_range (by simpa using hi) hL
theorem least {n : Nat} {L : Nat → Bool} : ∀ i, i < n → L i = false → ∃ j, j < n ∧ L j = false ∧ ∀ k, k < j → L k = true := by
 intro i
 induction i using Nat.strongRecOn with
 | _ i ih =>
   intro hi hL
   by_cases h : ∃ k, k < i ∧ L k = false
   ·obtain ⟨k, hk, hLk⟩ := h
    exact ih k hk (by omega) hLk
   ·refine ⟨i, hi, hL, fun k hk => ?_⟩
    cases hLk : L k with
    | true => rfl
    | false => exact absurd ⟨k, hk, hLk⟩ h
theorem mem_preds {o : Oper} {i : Nat} : i ∈ preds o ↔ ∃ e ∈ o.after.toList, Region.binds .any e = true ∧ e.on = i := by
 simp only [preds, List.mem_map, List.mem_filter]
 exact ⟨fun ⟨e, ⟨h1, h2⟩, h3⟩ => ⟨e, h1, h2, h3⟩, fun ⟨e, h1, h2, h3⟩ => ⟨e, ⟨h1, h2⟩, h3⟩⟩
theorem go_topo {ops : Array Oper} (hp : ∀ j, j < ops.size → ∀ i ∈ preds (ops.getD j default), i < j) : ∀ (fuel t : Nat) (listed : Array Bool) (acc : List Nat), listed.size = ops.size → cnt ops.size (fun i => listed.getD i false) ≤ fuel →
  ∃ l, Region.linearise.go .any ops fuel t listed acc = acc.reverse ++ l ∧ Topo ops (fun i => listed.getD i false) l := by
 intro fuel
 induction fuel with
 | zero =>
   intro t listed acc hs hc
   exact ⟨[], by simp [Region.linearise.go], .nil _ (cnt_zero (by omega))⟩
 | succ fuel ih =>
   intro t listed acc hs hc
   rw [Region.linearise.go]
   generalize hrs : ((List.range ops.size).filter fun i => !listed.getD i true && ((ops[i]?).map (·.after.all fun e => !Region.binds .any e || listed.getD e.on false)).getD false) = rs
   have hmem : ∀ i, i ∈ rs ↔ i < ops.size ∧ listed.getD i false = false ∧ ∀ p ∈ preds (ops.getD i default), listed.getD p false = true := by
    intro i
    rw [← hrs]
    simp only [List.mem_filter, List.mem_range, Bool.and_eq_true, Bool.not_eq_true']
    constructor
    ·rintro ⟨hi, h1, h2⟩
     have hget : ops[i]? = some (ops.getD i default) := by rw [Array.getElem?_eq_getElem hi]; simp [Array.getD, hi]
     rw [hget] at h2
     simp only [Option.map_some, Option.getD_some, Array.all_eq_true_iff_forall_mem] at h2
     refine ⟨hi, by simpa [Array.getD, show i < listed.size by omega] using h1, fun p hpp => ?_⟩
     obtain ⟨e, he1, he2, rfl⟩ := mem_preds.1 hpp
     have := h2 e (by simpa using he1)
     simpa [he2] using this
    ·rintro ⟨hi, h1, h2⟩
     have hget : ops[i]? = some (ops.getD i default) := by rw [Array.getElem?_eq_getElem hi]; simp [Array.getD, hi]
     refine ⟨hi, by simpa [Array.getD, show i < listed.size by omega] using h1, ?_⟩
     rw [hget]
     simp only [Option.map_some, Option.getD_some, Array.all_eq_true_iff_forall_mem]
     intro e he
     cases hb : Region.binds .any e with
     | false => simp
     | true => simpa [hb] using h2 e.on (mem_preds.2 ⟨e, by simpa using he, hb, rfl⟩)
   cases hn : rs[t % rs.length]? with
   | none =>
     refine ⟨[], by simp, .nil _ fun i hi => ?_⟩
     cases hL : listed.getD i false with
     | true => rfl
     | false =>
       obtain ⟨j, hj, hLj, hlow⟩ := least (L := fun i => listed.getD i false) i hi hL
       have hjr : j ∈ rs := (hmem j).2 ⟨hj, hLj, fun p hpp => hlow p (hp j hj p hpp)⟩
       have hpos : 0 < rs.length := List.length_pos_of_mem hjr
       have hlt : t % rs.length < rs.length := Nat.mod_lt _ hpos
       rw [List.getElem?_eq_getElem hlt] at hn
       cases hn
   | some i =>
     have hir : i ∈ rs := List.mem_of_getElem? hn
     obtain ⟨hi, hL, hpr⟩ := (hmem i).1 hir
     simp only
     have hfun : (fun j => (listed.setIfInBounds i true).getD j false) = fun j => decide (j = i) || listed.getD j false := by
      funext j
      rw [Array.getD_eq_getD_getElem?, Array.getD_eq_getD_getElem?, Array.getElem?_setIfInBounds]
      by_cases hji : j = i
      ·subst hji; simp [show j < listed.size by omega]
      ·rw [if_neg (fun e => hji e.symm)]; simp [hji]
     have hc' := cnt_set (L := fun j => listed.getD j false) hi hL
     obtain ⟨l, h1, h2⟩ := ih (t / rs.length) (listed.setIfInBounds i true) (i :: acc) (by simp [hs]) (by rw [hfun]; omega)
     refine ⟨i :: l, by rw [h1]; simp, .cons _ i l hi hL hpr ?_⟩
     rw [hfun] at h2
     exact h2
theorem linearise_topo {ops : Array Oper} (hp : ∀ j, j < ops.size → ∀ i ∈ preds (ops.getD j default), i < j) (t : Nat) : Topo ops (fun _ => false) (Region.linearise .any ops t) := by
 have hf : (fun i => (Array.replicate ops.size false).getD i false) = fun _ => false := by
  funext i; rw [Array.getD_eq_getD_getElem?, Array.getElem?_replicate]; split <;> rfl
 obtain ⟨l, h1, h2⟩ := go_topo hp ops.size t (Array.replicate ops.size false) [] (by simp) (by
  unfold cnt; exact Nat.le_trans (List.length_filter_le _ _) (by simp))
 rw [hf] at h2
 unfold Region.linearise
 rw [h1]
 exact h2
theorem fold_bit (acc : Array Nat) (i : Nat) : ∀ (l : List Edge) (s : Nat), (l.foldl (fun s e => if Region.binds .any e then s ||| 2 ^ e.on ||| acc.getD e.on 0 else s) s).testBit i = true ↔
  s.testBit i = true ∨ ∃ e ∈ l, Region.binds .any e = true ∧ (e.on = i ∨ (acc.getD e.on 0).testBit i = true) := by
 intro l
 induction l with
 | nil => intro s; simp
 | cons e l ih =>
   intro s
   rw [List.foldl_cons, ih]
   cases hb : Region.binds .any e with
   | false => simp [hb]
   | true =>
     simp only [if_true, Nat.testBit_or, Bool.or_eq_true, Nat.testBit_two_pow, decide_eq_true_eq, List.mem_cons, exists_eq_or_imp, hb, true_and]
     constructor
     ·rintro (((h | h) | h) | h)
      ·exact .inl h
      ·exact .inr (.inl (.inl h))
      ·exact .inr (.inl (.inr h))
      ·exact .inr (.inr h)
     ·rintro (h | (h | h) | h)
      ·exact .inl (.inl (.inl h))
      ·exact .inl (.inl (.inr h))
      ·exact .inl (.inr h)
      ·exact .inr h
def befOf (acc : Array Nat) (o : Oper) : Nat := o.after.foldl (fun s e => if Region.binds .any e then s ||| 2 ^ e.on ||| acc.getD e.on 0 else s) 0
theorem before_list (l : List Oper) : ∀ (acc : Array Nat), (∀ j, j < l.length → ∀ i ∈ preds (l.getD j default), i < acc.size + j) →
  ∃ B : Array Nat, l.foldl (fun acc o => acc.push (befOf acc o)) acc = B ∧ B.size = acc.size + l.length ∧ (∀ j, j < acc.size → B.getD j 0 = acc.getD j 0) ∧
    ∀ j, j < l.length → ∀ i, (B.getD (acc.size + j) 0).testBit i = true ↔ ∃ p ∈ preds (l.getD j default), p = i ∨ (B.getD p 0).testBit i = true := by
 induction l with
 | nil => intro acc _; exact ⟨acc, rfl, by simp, fun _ _ => rfl, fun j hj => by simp at hj⟩
 | cons o l ih =>
   intro acc hp
   obtain ⟨B, h1, h2, h3, h4⟩ := ih (acc.push (befOf acc o)) (fun j hj i hi => by
    have := hp (j + 1) (by simpa using hj) i (by simpa using hi)
    simp; omega)
   simp only [Array.size_push] at h2 h3 h4
   refine ⟨B, by rw [List.foldl_cons]; exact h1, by simp; omega, fun j hj => ?_, fun j hj i => ?_⟩
   ·rw [h3 j (by omega), Array.getD_eq_getD_getElem?, Array.getElem?_push, if_neg (by omega), ← Array.getD_eq_getD_getElem?]
   ·cases j with
    | zero =>
      have hB : B.getD acc.size 0 = befOf acc o := by
       rw [h3 acc.size (by omega), Array.getD_eq_getD_getElem?, Array.getElem?_push, if_pos rfl]; rfl
      rw [Nat.add_zero, hB]
      unfold befOf
      rw [← Array.foldl_toList, fold_bit]
      simp only [Nat.zero_testBit, Bool.false_eq_true, false_or, List.getD_cons_zero]
      constructor
      ·rintro ⟨e, he, hb, h⟩
       have hpm : e.on ∈ preds o := mem_preds.2 ⟨e, he, hb, rfl⟩
       have hlt := hp 0 (by simp) e.on (by simpa using hpm)
       refine ⟨e.on, hpm, ?_⟩
       rcases h with h | h
       ·exact .inl h
       ·refine .inr ?_
        rw [h3 _ (by omega), Array.getD_eq_getD_getElem?, Array.getElem?_push, if_neg (by omega), ← Array.getD_eq_getD_getElem?]
        exact h
      ·rintro ⟨p, hpm, h⟩
       obtain ⟨e, he, hb, rfl⟩ := mem_preds.1 hpm
       have hlt := hp 0 (by simp) e.on (by simpa using hpm)
       refine ⟨e, he, hb, ?_⟩
       rcases h with h | h
       ·exact .inl h
       ·refine .inr ?_
        rw [h3 _ (by omega), Array.getD_eq_getD_getElem?, Array.getElem?_push, if_neg (by omega), ← Array.getD_eq_getD_getElem?] at h
        exact h
    | succ j =>
      have := h4 j (by simpa using hj) i
      rw [show acc.size + (j + 1) = acc.size + 1 + j from by omega]
      simpa using this
theorem before_bits {ops : Array Oper} (hp : ∀ j, j < ops.size → ∀ i ∈ preds (ops.getD j default), i < j) : ∀ j, j < ops.size → ∀ i, ((Region.before ops).getD j 0).testBit i = true ↔ ∃ p ∈ preds (ops.getD j default), p = i ∨ ((Region.before ops).getD p 0).testBit i = true := by
 have hgd : ∀ j, ops.getD j default = ops.toList.getD j default := fun j => by simp [Array.getD_eq_getD_getElem?]
 obtain ⟨B, h1, _, _, h4⟩ := before_list ops.toList #[] (fun j hj i hi => by
  have := hp j (by simpa using hj) i (by rw [hgd]; exact hi)
  simpa using this)
 have hB : Region.before ops = B := by
  unfold Region.before
  rw [← Array.foldl_toList]
  exact h1
 intro j hj i
 rw [hB, hgd]
 have := h4 j (by simpa using hj) i
 simpa using this
end Go.Abs
namespace Go.Abs
theorem fnEq_sound {a b : Fn} (h : fnEq a b = true) : a = b := by
 unfold fnEq at h
 split at h
 ·rw [eq_of_beq h]
 ·rw [eq_of_beq h]
 ·cases h
theorem ptrsOf_eq : ∀ {l : List Value} {p : List Addr}, ptrsOf l = some p → l = p.map fun a => .pointer (some a) := by
 intro l
 induction l with
 | nil => intro p h; cases h; rfl
 | cons v l ih =>
   intro p h
   unfold ptrsOf at h
   split at h
   ·rename_i e; cases e
   ·rename_i a k e
    injection e with e1 e2
    subst e1; subst e2
    cases hk : ptrsOf l with
    | none => rw [hk] at h; cases h
    | some q => rw [hk] at h; cases h; rw [ih hk]; rfl
   ·cases h
theorem sEq_sound {v u : Value} (h : sEq v u = true) : v = u := by
 cases v <;> cases u <;> first | (simp [sEq] at h; done) | skip
 ·simp only [sEq, beq_iff_eq] at h; rw [h]
 ·simp only [sEq, Bool.and_eq_true, beq_iff_eq] at h; rw [h.1, h.2]
 ·simp only [sEq, ba_beq] at h; rw [h]
 ·simp only [sEq, beq_iff_eq] at h; rw [h]
 ·simp only [sEq, Bool.and_eq_true, beq_iff_eq] at h; rw [h.1.1, h.1.2, h.2]
 ·simp only [sEq, beq_iff_eq] at h; rw [h]
 ·rename_i a x c b y d
  simp only [sEq, Bool.and_eq_true, Array.isEmpty_iff] at h
  obtain ⟨⟨⟨h1, rfl⟩, rfl⟩, h2⟩ := h
  obtain rfl := fnEq_sound h1
  split at h2
  ·rename_i p q hp hq
   obtain rfl := eq_of_beq h2
   have := (ptrsOf_eq hp).trans (ptrsOf_eq hq).symm
   rw [Array.toList_inj.1 this]
  ·cases h2
 ·rfl
 ·rfl
theorem listEq_sound : ∀ {l k : List Value}, listEq l k = true → l = k := by
 intro l
 induction l with
 | nil => intro k h; cases k with | nil => rfl | cons _ _ => simp [listEq] at h
 | cons x l ih =>
   intro k h
   cases k with
   | nil => simp [listEq] at h
   | cons y k => simp only [listEq, Bool.and_eq_true] at h; rw [sEq_sound h.1, ih h.2]
theorem vEq_sound {v u : Value} (h : vEq v u = true) : v = u := by
 unfold vEq at h
 split at h
 ·rename_i a b
  have := listEq_sound h
  rw [Array.toList_inj.1 this]
 ·rename_i a b
  have := listEq_sound h
  rw [Array.toList_inj.1 this]
 ·exact sEq_sound h
section
variable {P : Program} {call : CallF} {a b : Fr} {H : Heap}
theorem map_pair {α : Type} {x : Option α} {v : α} {H H' : Heap} (h : x.map (·, H) = some (v, H')) : x = some v ∧ H' = H := by
 cases x with
 | none => cases h
 | some y => simp only [Option.map_some] at h; injection h with h; injection h with h1 h2; exact ⟨by rw [h1], h2.symm⟩
theorem aexec_pure {o : Oper} (hc : cls o.op = .pure_) {v : Value} {H' : Heap} (h : aexec P a o H = some (v, H')) : H' = H ∧ ∀ G, aexec P a o G = some (v, G) := by
 obtain ⟨dst, op, type, pos, after, guard⟩ := o
 cases op
 case move x => simp only [aexec] at h ⊢; injection h with h; injection h with h1 h2; exact ⟨h2.symm, fun G => by rw [h1]⟩
 case assign x => simp only [aexec] at h ⊢; injection h with h; injection h with h1 h2; exact ⟨h2.symm, fun G => by rw [h1]⟩
 case pick c x y =>
  simp only [aexec] at h ⊢
  split at h
  ·injection h with h; injection h with h1 h2; exact ⟨h2.symm, fun G => by rw [h1]⟩
  ·cases h
 case build t parts => simp only [aexec] at h ⊢; obtain ⟨h1, h2⟩ := map_pair h; exact ⟨h2, fun G => by rw [h1]; rfl⟩
 case nilCheck x =>
  simp only [aexec] at h ⊢
  split at h
  ·rename_i hp; injection h with h; injection h with h1 h2; exact ⟨h2.symm, fun G => by rw [if_pos hp, h1]⟩
  ·cases h
 case binOp op t x y yt =>
  cases op
  case eql =>
   simp only [aexec] at h ⊢
   split at h
   ·injection h with h; injection h with h1 h2; exact ⟨h2.symm, fun G => by rw [h1]⟩
   ·obtain ⟨h1, h2⟩ := map_pair h; exact ⟨h2, fun G => by rw [h1]; rfl⟩
  case neq =>
   simp only [aexec] at h ⊢
   split at h
   ·injection h with h; injection h with h1 h2; exact ⟨h2.symm, fun G => by rw [h1]⟩
   ·obtain ⟨h1, h2⟩ := map_pair h; exact ⟨h2, fun G => by rw [h1]; rfl⟩
  all_goals (simp only [aexec] at h ⊢; obtain ⟨h1, h2⟩ := map_pair h; exact ⟨h2, fun G => by rw [h1]; rfl⟩)
 case unOp op t x => simp only [aexec] at h ⊢; obtain ⟨h1, h2⟩ := map_pair h; exact ⟨h2, fun G => by rw [h1]; rfl⟩
 case makeFunc fn first captured =>
  cases fn
  case func f =>
   simp only [aexec] at h ⊢
   split at h
   ·rename_i hp; injection h with h; injection h with h1 h2; exact ⟨h2.symm, fun G => by rw [if_pos hp, h1]⟩
   ·cases h
  all_goals (simp only [aexec] at h; cases h)
 case slice t x lo hi mx =>
  simp only [aexec] at h ⊢
  split at h
  ·cases h
  ·rename_i hp; obtain ⟨h1, h2⟩ := map_pair h; exact ⟨h2, fun G => by rw [if_neg hp, h1]; rfl⟩
 case fieldAddr t x i => simp only [aexec] at h ⊢; obtain ⟨h1, h2⟩ := map_pair h; exact ⟨h2, fun G => by rw [h1]; rfl⟩
 case field t x i => simp only [aexec] at h ⊢; obtain ⟨h1, h2⟩ := map_pair h; exact ⟨h2, fun G => by rw [h1]; rfl⟩
 case indexAddr t x i => simp only [aexec] at h ⊢; obtain ⟨h1, h2⟩ := map_pair h; exact ⟨h2, fun G => by rw [h1]; rfl⟩
 case index t x i =>
  simp only [aexec] at h ⊢
  split at h
  ·rename_i r hr; injection h with h; injection h with h1 h2; exact ⟨h2.symm, fun G => by rw [h1]⟩
  ·obtain ⟨h1, h2⟩ := map_pair h; exact ⟨h2, fun G => by rw [h1]; rfl⟩
 case extract x i =>
  simp only [aexec] at h ⊢
  split at h
  ·obtain ⟨h1, h2⟩ := map_pair h; exact ⟨h2, fun G => by rw [h1]; rfl⟩
  ·cases h
 case call c =>
  obtain ⟨callee, args, ts⟩ := c
  cases callee
  case builtin bi =>
   simp only [aexec] at h ⊢
   unfold builtinA at h ⊢
   cases bi <;> first | (simp [cls] at hc; done) | skip
   all_goals
    revert h
    generalize args.toList.map (ev a) = ays
    generalize ts.toList = tl
    intro h
    simp only at h ⊢
    first
     | (obtain ⟨h1, h2⟩ := map_pair h; exact ⟨h2, fun G => by rw [h1]; rfl⟩)
     | (split at h <;> first | contradiction | (obtain ⟨h1, h2⟩ := map_pair h; exact ⟨h2, fun G => by rw [h1]; rfl⟩) | (cases h; done) | (
      rename_i t _
      cases he : sliceElem P t with
      | none => rw [he] at h; cases h
      | some es => rw [he] at h; simp only [Option.map_some] at h; injection h with h; injection h with h1 h2; exact ⟨h2.symm, fun G => by simp [← h1]⟩))
  all_goals (simp [cls] at hc)
 all_goals first | (simp [cls] at hc; done) | (simp only [aexec] at h; cases h)
def Sub (G H : Heap) : Prop := ∀ (b : Nat) x, G[b]? = some x → H[b]? = some x
theorem Sub.cell {G H : Heap} (h : Sub G H) {b o : Nat} {v : Value} (hc : G.cell b o = some v) : H.cell b o = some v := by
 unfold Heap.cell at hc ⊢
 split at hc
 ·rename_i hb; rw [h _ _ hb]; exact hc
 ·cases hc
theorem Sub.cellsAt {G H : Heap} (h : Sub G H) {b o n : Nat} {v : List Value} (hc : G.cellsAt b o n = some v) : H.cellsAt b o n = some v := by
 unfold Heap.cellsAt at hc ⊢
 split at hc
 ·rename_i hb; rw [h _ _ hb]; exact hc
 ·cases hc
theorem textA_plain {s d : TypeId} {x : Value} (h : plain x = true) : textA P s d x H = none := by
 unfold textA
 cases x <;> first | rfl | cases h
theorem readA_sub {n : Nat} {x : Value} {cs : List Value} {G H : Heap} (hs : Sub G H) (hr : readA G n x = some cs) : readA H n x = some cs := by
 unfold readA at hr ⊢
 split at hr
 ·exact hr
 ·exact hs.cellsAt hr
 ·exact hr
 ·cases hr
theorem textA_sub {s d : TypeId} {x v : Value} {G H : Heap} (hs : Sub G H) (h : textA P s d x G = some v) : textA P s d x H = some v := by
 unfold textA at h ⊢
 split at h
 case h_2 => cases h
 split at h
 case h_2 => cases h
 split at h
 case h_2 => cases h
 rename_i he hr
 simp only [readA_sub hs hr, he]
 exact h
theorem plainA_operands {o : Oper} {v : Value} (h : plainA P a o = some v) : ∀ z ∈ o.op.operands.toList, plain (ev a z) = true := by
 unfold plainA at h
 split at h
 ·rename_i hall; exact List.all_eq_true.1 hall
 ·cases h
theorem aexec_read {o : Oper} (hc : cls o.op = .read) {v : Value} {G G' : Heap} (h : aexec P a o G = some (v, G')) (hs : Sub G H) : aexec P a o H = some (v, H) := by
 obtain ⟨dst, op, type, pos, after, guard⟩ := o
 cases op <;> first | (simp [cls] at hc; done) | skip
 case load t x =>
  simp only [aexec] at h ⊢
  obtain ⟨h1, h2⟩ := map_pair h
  have : loadA P t (ev a x) H = some v := by
   unfold loadA at h1 ⊢
   split at h1
   ·split at h1
    ·split at h1
     ·split at h1
      ·rename_i hcs
       rw [hs.cellsAt hcs]; exact h1
      ·cases h1
     ·cases h1
    ·exact hs.cell h1
    ·cases h1
   ·cases h1
  rw [this]; rfl
 case lookup t x k ok =>
  simp only [aexec] at h ⊢
  obtain ⟨h1, h2⟩ := map_pair h
  have : lookupA P t (ev a x) (ev a k) ok H = some v := by
   unfold lookupA at h1 ⊢
   split at h1
   ·split at h1
    ·split at h1
     ·rename_i hb
      rw [hs _ _ hb]; exact h1
     ·cases h1
    ·cases h1
   ·cases h1
  rw [this]; rfl
 case convert s d x =>
  simp only [aexec] at h ⊢
  split at h
  ·rename_i u hu
   injection h with h; injection h with h1 h2; subst h1
   rw [textA_sub hs hu]
  ·obtain ⟨h1, h2⟩ := map_pair h
   rw [textA_plain (plainA_operands h1 x (by simp [Op.operands])), h1]
   rfl
 case call c =>
  exfalso
  obtain ⟨callee, args, ts⟩ := c
  cases callee
  case builtin bi => cases bi <;> simp [cls] at hc
  all_goals simp [cls] at hc
theorem read_same {o : Oper} (hc : cls o.op = .read) {v : Value} {H' : Heap} (h : aexec P a o H = some (v, H')) : H' = H := by
 have := aexec_read (H := H) hc h (fun _ _ h => h)
 rw [h] at this
 injection this with this
 injection this
end
end Go.Abs
namespace Go.Abs
def Makes (P : Program) (M : Mp) (G : Heap) (w : World) (s : Sem Next) (v : Value) (G' : Heap) : Prop :=
 ∃ B obj N v', G' = G ++ [B] ∧ B.owned = true ∧ s.run P w = .ok (.value v') { w with heap := w.heap.push obj } ∧ (∀ M', Ext M M' → M' G.length = some ⟨w.heap.size, 0, N⟩ → VR M' v v') ∧
   ∀ (M' : Mp) (w' : World), Ext M M' → w'.heap[w.heap.size]? = some obj → BR M' w' ⟨w.heap.size, 0, N⟩ B
section
variable {P : Program} {M : Mp} {G G' : Heap} {w : World} {nt : Nat} {a : Fr} {tmps : Array Value}
theorem Makes.cells {s : Sem Value} {v v' : Value} {el : TypeId} {cs : List Value} {C : Array Value} (hrun : s.run P w = .ok v' { w with heap := w.heap.push (.cells C el) }) (hv : ∀ M', Ext M M' → M' G.length = some ⟨w.heap.size, 0, C.size⟩ → VR M' v v')
  (hcs : ∀ (i : Nat) (u : Value), cs[i]? = some u → ∃ u', C[i]? = some u' ∧ SR M u u') : Makes P M G w (do pure (.value (← s))) v (G ++ [.cells G.length true cs]) :=
 ⟨_, _, C.size, v', rfl, rfl, by simp [hrun], hv, fun M' w' hM hw => ⟨C, el, (0, 0), hw, rfl, fun _ => rfl, fun i u hu => by
  obtain ⟨u', h1, h2⟩ := hcs i u hu
  exact ⟨u', by simpa using h1, h2.mono hM⟩⟩⟩
theorem makes_box {v v' : Value} {cs : List Value} {el : TypeId} (hs : scal v = some cs) (hv : VR M v v') : Makes P M G w (do pure (.value (← Instr.box el v'))) (ptrA G.length 0) (G ++ [.cells G.length true cs]) := by
 obtain ⟨h1, _⟩ := scal_rel hs hv
 exact Makes.cells (C := v'.cells) (el := el) (v' := .pointer (some ⟨w.heap.size, 0, none⟩)) (by simp [Instr.box, newVar, newRow, newObj, Sem.run]) (fun M' hM hl => .a (.s (.ptr _ 0 _ hl))) (fun i u hu => by simpa using h1.get i u hu)
theorem alloc_core {o : Oper} (hv : ∀ z ∈ o.op.operands.toList, VR M (ev a z) (evC tmps z)) (hc : cls o.op = .all_) {v : Value} (h : aexec P a o G = some (v, G')) : Makes P M G w (execOp (evC tmps) o) v G' := by
 obtain ⟨dst, op, type, pos, after, guard⟩ := o
 cases op <;> first | (simp [cls] at hc; done) | skip
 case alloc t =>
  simp only [aexec] at h
  split at h
  ·rename_i z hz
   split at h
   ·rename_i cs hcs
    injection h with h; injection h with h1 h2; subst h1; subst h2
    obtain ⟨hz1, hz2⟩ := run_zero hz w
    have hb := makes_box (P := P) (G := G) (w := w) (el := t) hcs (.a (.of_const M hz2))
    obtain ⟨B, obj, N, v', q1, q2, q3, q4, q5⟩ := hb
    refine ⟨B, obj, N, v', q1, q2, ?_, q4, q5⟩
    simp only [Instr.box, Sem.run_bind, Sem.run_pure] at q3
    simp only [execOp, Instr.alloc, Sem.run_bind, hz1, Result.andThen_ok, Sem.run_pure]
    exact q3
   ·cases h
  ·cases h
 case box t x =>
  simp only [aexec] at h
  split at h
  ·rename_i cs hcs
   injection h with h; injection h with h1 h2; subst h1; subst h2
   exact makes_box hcs (hv x (by simp [Op.operands]))
  ·cases h
 case buildSlice t len parts =>
  simp only [aexec] at h
  have hp := partsOf (parts := parts) fun p hp => hv _ (by simp only [Op.operands, List.mem_toArray, Array.toList_map]; simp; exact ⟨p.1, by simpa using hp⟩)
  unfold buildSliceA at h
  split at h
  ·rename_i e size he
   obtain ⟨hu, hs⟩ := sliceElem_sound he
   split at h
   ·rename_i hsz
    split at h
    ·rename_i zs hz
     split at h
     ·rename_i cells hc
      injection h with h
      injection h with h1 h2
      subst h1; subst h2
      obtain ⟨z, hz1, hz2, hz3, hz4⟩ := zeros_rel (m := M) hz (Nat.le_refl len)
      have hC : All2 (SR M) zs ((Array.range (len * size)).map (z.cells[· % z.cells.size]!)).toList :=
       .of_get (by simp [hz3]) fun i x y hx hy => by
        obtain ⟨v', h1, h2⟩ := hz4 i x hx
        have hy' : ((Array.range (len * size)).map (z.cells[· % z.cells.size]!))[i]? = some y := by rw [← Array.getElem?_toList]; exact hy
        rw [h1] at hy'
        injection hy' with hy'
        rw [← hy']; exact h2
      obtain ⟨R, hR1, hr⟩ := fill_sound hp hc hC
      have hlim : ¬ (len * size > 2 ^ 24) := by unfold maxA at hsz; omega
      have h6 := fillL_length hc
      have h7 := hr.length
      simp only [Array.length_toList] at h7
      have hfit : 0 + 0 + len * size ≤ R.size := by omega
      refine Makes.cells (C := R) (el := e) (v' := .slice (some ⟨w.heap.size, 0, none⟩) len len) ?_ (fun M' hM hl => ?_) (fun i u hu => ?_)
      ·exact buildSlice_run hu hs hlim hz1 hR1
      ·exact .a (.s (.slice _ 0 len size len _ hl (Nat.le_refl _) hfit))
      ·simpa using hr.get i u hu
     ·cases h
    ·cases h
   ·cases h
  ·cases h
 case makeMap t r =>
  simp only [aexec] at h
  split at h
  ·rename_i k e hu
   split at h
   ·rename_i hc
    injection h with h; injection h with h1 h2; subst h1; subst h2
    refine ⟨.map [], .map #[] 0, 0, .map (some w.heap.size), rfl, rfl, ?_, fun M' hM hl => .a (.s (.map _ _ hl)), fun M' w' hM hw => ⟨#[], 0, hw, .nil, bornOk_nil⟩⟩
    cases r with
    | none => simp [execOp, Instr.makeMap, newObj, Sem.run]
    | some x =>
      cases x with
      | const c =>
        cases c <;> first | (simp [constInt] at hc; done) | skip
        simp [execOp, Instr.makeMap, newObj, Sem.run, run_underlying hu, evC, asInt, asIntOf]
      | _ => simp [constInt] at hc
   ·cases h
  ·cases h
 case makeSlice t l c =>
  simp only [aexec] at h
  split at h
  ·rename_i e size bytes k n k' cc he hb hl hc'
   split at h
   ·rename_i hcond
    obtain ⟨h0, h1, h2, h3, h4⟩ := hcond
    split at h
    ·rename_i zs hz
     injection h with h; injection h with e1 e2; subst e1; subst e2
     obtain ⟨n', rfl⟩ := Int.eq_ofNat_of_zero_le h0
     obtain ⟨c', rfl⟩ := Int.eq_ofNat_of_zero_le (Int.le_trans h0 h1)
     rw [he] at hb
     simp only [Option.getD_some] at hb
     have hl' := hv l (by simp [Op.operands])
     have hcc := hv c (by simp [Op.operands])
     rw [hl] at hl'
     rw [hc'] at hcc
     have hl2 := hl'.int_
     have hc2 := hcc.int_
     simp only [Int.toNat_natCast] at hz
     obtain ⟨z, hz1, hz2, hz3, hz4⟩ := zeros_rel (m := M) (c := c') hz (by omega)
     have hrun := makeSlice_run (P := P) (w := w) (c := c') he hb (by omega) (by omega) h4 hz1 hz2 (n := n') k k'
     refine Makes.cells (s := Instr.makeSlice t (evC tmps l) (evC tmps c)) (C := (Array.range (c' * size)).map (z.cells[· % z.cells.size]!)) (el := e) (by rw [hl2, hc2]; exact hrun) (fun M' hM hl => ?_) hz4
     simp only [Int.toNat_natCast]
     exact .a (.s (.slice _ 0 n' size c' _ hl (by omega) (by simp)))
    ·cases h
   ·cases h
  ·cases h
 case call c =>
  exfalso
  obtain ⟨callee, args, ts⟩ := c
  cases callee
  case builtin bi => cases bi <;> simp [cls] at hc
  all_goals simp [cls] at hc
end
end Go.Abs
namespace Go.Abs
section
variable (P : Program) (call : CallF) (ops : Array Oper) (a : Fr) (H : Heap)
def dStep (j : Nat) (s : Fr × Heap) : Value × (Fr × Heap) :=
 match ops[j]? with
 | none => (undef, s)
 | some o =>
   if Region.wanted o (yieldedA ops s.1) then
    match cls o.op with
    | .eff => match stepA P call s.1 o s.2 with
      | some (v, H') => (v, putA s.1 o.dst v, H')
      | none => (undef, s)
    | .all_ => match aexec P s.1 o s.2 with
      | some (v, H') => (v, putA s.1 o.dst v, H')
      | none => (undef, s)
    | _ => match aexec P s.1 o s.2 with
      | some (v, _) => (v, putA s.1 o.dst v, s.2)
      | none => (undef, s)
   else (undef, putA s.1 o.dst undef, s.2)
def tr : Nat → Fr × Heap
 | 0 => (a, H)
 | j + 1 => (dStep P call ops j (tr j)).2
def trA (j : Nat) : Fr := (tr P call ops a H j).1
def trH (j : Nat) : Heap := (tr P call ops a H j).2
def trV (j : Nat) : Value := (dStep P call ops j (tr P call ops a H j)).1
def opAt (j : Nat) : Oper := ops.getD j default
def trW (j : Nat) : Bool := Region.wanted (opAt ops j) (yieldedA ops (trA P call ops a H j))
def isE (j : Nat) : Prop := trW P call ops a H j = true ∧ cls (opAt ops j).op = .eff
instance (j : Nat) : Decidable (isE P call ops a H j) := by unfold isE; infer_instance
def trS : Nat → List (Option Nat × Heap)
 | 0 => [(none, H)]
 | j + 1 => if isE P call ops a H j then (some j, trH P call ops a H (j + 1)) :: trS j else trS j
def trP (bef : Array Nat) : Nat → Pend
 | 0 => []
 | j + 1 => if isE P call ops a H j then (trP bef j).filter (fun p => !(bef.getD j 0).testBit p.1)
   else if trW P call ops a H j = true ∧ cls (opAt ops j).op = .read then (j, trA P call ops a H j, opAt ops j, trV P call ops a H j) :: trP bef j
   else trP bef j
structure StepOk (bef : Array Nat) (j : Nat) : Prop where
 eff : isE P call ops a H j → stepA P call (trA P call ops a H j) (opAt ops j) (trH P call ops a H j) = some (trV P call ops a H j, trH P call ops a H (j + 1)) ∧
  ∀ p ∈ trP P call ops a H bef (j + 1), stillReads P (trH P call ops a H (j + 1)) p.2.1 p.2.2.1 p.2.2.2 = true
 alloc : trW P call ops a H j = true → cls (opAt ops j).op = .all_ → aexec P (trA P call ops a H j) (opAt ops j) (trH P call ops a H j) = some (trV P call ops a H j, trH P call ops a H (j + 1))
 read : trW P call ops a H j = true → cls (opAt ops j).op = .read → ∀ G ∈ window (bef.getD j 0) (trS P call ops a H j), stillReads P G (trA P call ops a H j) (opAt ops j) (trV P call ops a H j) = true
 quiet : trW P call ops a H j = true → cls (opAt ops j).op = .pure_ ∨ cls (opAt ops j).op = .read → ∃ G, aexec P (trA P call ops a H j) (opAt ops j) (trH P call ops a H j) = some (trV P call ops a H j, G)
 still : ¬ isE P call ops a H j → ¬ (trW P call ops a H j = true ∧ cls (opAt ops j).op = .all_) → trH P call ops a H (j + 1) = trH P call ops a H j
 not : trW P call ops a H j = false → trV P call ops a H j = undef
 next : trA P call ops a H (j + 1) = putA (trA P call ops a H j) (opAt ops j).dst (trV P call ops a H j)
variable {P call ops a H}
theorem opAt_get {j : Nat} (hj : j < ops.size) : ops[j]? = some (opAt ops j) := by
 rw [Array.getElem?_eq_getElem hj]; simp [opAt, Array.getD, hj]
theorem trace {bef : Array Nat} {a' : Fr} {H' : Heap} : ∀ (k i : Nat), i + k = ops.size → evDraw P call ops bef (List.range' i k) (trA P call ops a H i) (trH P call ops a H i) (trS P call ops a H i) (trP P call ops a H bef i) = some (a', H') →
  (trA P call ops a H ops.size = a' ∧ trH P call ops a H ops.size = H') ∧ ∀ j, i ≤ j → j < ops.size → StepOk P call ops a H bef j := by
 intro k
 induction k with
 | zero =>
   intro i hi h
   simp only [List.range'_zero, evDraw] at h
   injection h with h
   injection h with h1 h2
   obtain rfl : i = ops.size := by omega
   exact ⟨⟨h1, h2⟩, fun j h1 h2 => by omega⟩
 | succ k ih =>
   intro i hi h
   have hlt : i < ops.size := by omega
   have hget := opAt_get (ops := ops) hlt
   rw [List.range'_succ] at h
   simp only [evDraw, hget] at h
   have hd : dStep P call ops i (tr P call ops a H i) = (trV P call ops a H i, (trA P call ops a H (i + 1), trH P call ops a H (i + 1))) := rfl
   have hd0 := hd
   unfold dStep at hd
   rw [hget] at hd
   simp only at hd
   have hwd : Region.wanted (opAt ops i) (yieldedA ops (tr P call ops a H i).1) = trW P call ops a H i := rfl
   have hA : (tr P call ops a H i).1 = trA P call ops a H i := rfl
   have hH : (tr P call ops a H i).2 = trH P call ops a H i := rfl
   rw [hwd] at hd
   rw [hA, hH] at hd
   have hwd' : Region.wanted (opAt ops i) (yieldedA ops (trA P call ops a H i)) = trW P call ops a H i := rfl
   rw [hwd'] at h
   have finish : ∀ (hS : trS P call ops a H (i + 1) = trS P call ops a H (i + 1)), StepOk P call ops a H bef i → evDraw P call ops bef (List.range' (i + 1) k) (trA P call ops a H (i + 1)) (trH P call ops a H (i + 1)) (trS P call ops a H (i + 1)) (trP P call ops a H bef (i + 1)) = some (a', H') →
     (trA P call ops a H ops.size = a' ∧ trH P call ops a H ops.size = H') ∧ ∀ j, i ≤ j → j < ops.size → StepOk P call ops a H bef j := by
    intro _ hok hrest
    obtain ⟨h1, h2⟩ := ih (i + 1) (by omega) hrest
    refine ⟨h1, fun j hj1 hj2 => ?_⟩
    rcases Nat.eq_or_lt_of_le hj1 with e | e
    ·rw [← e]; exact hok
    ·exact h2 j e hj2
   cases hw : trW P call ops a H i with
   | false =>
     rw [hw] at h hd
     simp only [Bool.false_eq_true, if_false] at h hd
     injection hd with hd1 hd2
     injection hd2 with hd2 hd3
     have hnE : ¬ isE P call ops a H i := fun e => by have e1 := e.1; rw [hw] at e1; cases e1
     have hSn : trS P call ops a H (i + 1) = trS P call ops a H i := by simp only [trS]; rw [if_neg hnE]
     have hPn : trP P call ops a H bef (i + 1) = trP P call ops a H bef i := by simp only [trP]; rw [if_neg hnE, if_neg (fun e => by rw [hw] at e; cases e.1)]
     refine finish rfl ⟨fun e => absurd e hnE, fun e => ?_, fun e => ?_, fun e => ?_, fun _ _ => hd3.symm, fun _ => hd1.symm, by rw [← hd2, ← hd1]⟩ ?_
     ·rw [hw] at e; cases e
     ·rw [hw] at e; cases e
     ·rw [hw] at e; cases e
     ·rw [hSn, hPn, ← hd2, ← hd3]; exact h
   | true =>
     rw [hw] at h hd
     simp only [if_true] at h hd
     cases hc : cls (opAt ops i).op with
     | eff =>
       have hE : isE P call ops a H i := ⟨hw, hc⟩
       rw [hc] at h hd
       simp only at h hd
       cases hs : stepA P call (trA P call ops a H i) (opAt ops i) (trH P call ops a H i) with
       | none => rw [hs] at h; cases h
       | some r =>
         obtain ⟨v, H1⟩ := r
         rw [hs] at h hd
         simp only at h hd
         injection hd with hd1 hd2
         injection hd2 with hd2 hd3
         have hSn : trS P call ops a H (i + 1) = (some i, trH P call ops a H (i + 1)) :: trS P call ops a H i := by simp only [trS]; rw [if_pos hE]
         have hPn : trP P call ops a H bef (i + 1) = (trP P call ops a H bef i).filter (fun p => !(bef.getD i 0).testBit p.1) := by simp only [trP]; rw [if_pos hE]
         split at h
         ·rename_i hall
          refine finish rfl ⟨fun _ => ⟨by rw [← hd1, ← hd3]; exact hs, fun p hp => ?_⟩, fun _ e => ?_, fun _ e => ?_, fun _ e => ?_, fun e => absurd hE e, fun e => ?_, by rw [← hd2, ← hd1]⟩ ?_
          ·rw [hPn] at hp
           rw [← hd3]
           exact List.all_eq_true.1 hall p hp
          ·rw [hc] at e; cases e
          ·rw [hc] at e; cases e
          ·rw [hc] at e; rcases e with e | e <;> cases e
          ·rw [hw] at e; cases e
          ·rw [hSn, hPn, ← hd2, ← hd3]; exact h
         ·cases h
     | all_ =>
       have hnE : ¬ isE P call ops a H i := fun e => by have e2 := e.2; rw [hc] at e2; cases e2
       rw [hc] at h hd
       simp only at h hd
       cases hs : aexec P (trA P call ops a H i) (opAt ops i) (trH P call ops a H i) with
       | none => rw [hs] at h; cases h
       | some r =>
         obtain ⟨v, H1⟩ := r
         rw [hs] at h hd
         simp only at h hd
         injection hd with hd1 hd2
         injection hd2 with hd2 hd3
         have hSn : trS P call ops a H (i + 1) = trS P call ops a H i := by simp only [trS]; rw [if_neg hnE]
         have hPn : trP P call ops a H bef (i + 1) = trP P call ops a H bef i := by simp only [trP]; rw [if_neg hnE, if_neg (fun e => by have e2 := e.2; rw [hc] at e2; cases e2)]
         refine finish rfl ⟨fun e => absurd e hnE, fun _ _ => by rw [← hd1, ← hd3]; exact hs, fun _ e => ?_, fun _ e => ?_, fun _ e => absurd ⟨hw, hc⟩ e, fun e => ?_, by rw [← hd2, ← hd1]⟩ ?_
         ·rw [hc] at e; cases e
         ·rw [hc] at e; rcases e with e | e <;> cases e
         ·rw [hw] at e; cases e
         ·rw [hSn, hPn, ← hd2, ← hd3]; exact h
     | read =>
       have hnE : ¬ isE P call ops a H i := fun e => by have e2 := e.2; rw [hc] at e2; cases e2
       rw [hc] at h hd
       simp only at h hd
       cases hs : aexec P (trA P call ops a H i) (opAt ops i) (trH P call ops a H i) with
       | none => rw [hs] at h; cases h
       | some r =>
         obtain ⟨v, H1⟩ := r
         rw [hs] at h hd
         simp only at h hd
         injection hd with hd1 hd2
         injection hd2 with hd2 hd3
         have hSn : trS P call ops a H (i + 1) = trS P call ops a H i := by simp only [trS]; rw [if_neg hnE]
         have hPn : trP P call ops a H bef (i + 1) = (i, trA P call ops a H i, opAt ops i, trV P call ops a H i) :: trP P call ops a H bef i := by simp only [trP]; rw [if_neg hnE, if_pos ⟨hw, hc⟩]
         split at h
         ·rename_i hall
          refine finish rfl ⟨fun e => absurd e hnE, fun _ e => ?_, fun _ _ G hG => ?_, fun _ _ => ⟨H1, by rw [← hd1]; exact hs⟩, fun _ _ => hd3.symm, fun e => ?_, by rw [← hd2, ← hd1]⟩ ?_
          ·rw [hc] at e; cases e
          ·rw [← hd1]; exact List.all_eq_true.1 hall G hG
          ·rw [hw] at e; cases e
          ·rw [hSn, hPn, ← hd2, ← hd3, ← hd1]; exact h
         ·cases h
     | pure_ =>
       have hnE : ¬ isE P call ops a H i := fun e => by have e2 := e.2; rw [hc] at e2; cases e2
       rw [hc] at h hd
       simp only at h hd
       cases hs : aexec P (trA P call ops a H i) (opAt ops i) (trH P call ops a H i) with
       | none => rw [hs] at h; cases h
       | some r =>
         obtain ⟨v, H1⟩ := r
         rw [hs] at h hd
         simp only at h hd
         injection hd with hd1 hd2
         injection hd2 with hd2 hd3
         have hSn : trS P call ops a H (i + 1) = trS P call ops a H i := by simp only [trS]; rw [if_neg hnE]
         have hPn : trP P call ops a H bef (i + 1) = trP P call ops a H bef i := by simp only [trP]; rw [if_neg hnE, if_neg (fun e => by have e2 := e.2; rw [hc] at e2; cases e2)]
         refine finish rfl ⟨fun e => absurd e hnE, fun _ e => ?_, fun _ e => ?_, fun _ _ => ⟨H1, by rw [← hd1]; exact hs⟩, fun _ _ => hd3.symm, fun e => ?_, by rw [← hd2, ← hd1]⟩ ?_
         ·rw [hc] at e; cases e
         ·rw [hc] at e; cases e
         ·rw [hw] at e; cases e
         ·rw [hSn, hPn, ← hd2, ← hd3]; exact h
theorem win (m : Nat) : ∀ j, (∀ e, e < j → isE P call ops a H e → (∀ e', e < e' → e' < j → isE P call ops a H e' → m.testBit e' = false) → trH P call ops a H (e + 1) ∈ window m (trS P call ops a H j)) ∧
  ((∀ e', e' < j → isE P call ops a H e' → m.testBit e' = false) → H ∈ window m (trS P call ops a H j)) := by
 intro j
 induction j with
 | zero => exact ⟨fun e he => by omega, fun _ => by simp [trS, window]⟩
 | succ j ih =>
   by_cases hE : isE P call ops a H j
   ·have hS : trS P call ops a H (j + 1) = (some j, trH P call ops a H (j + 1)) :: trS P call ops a H j := by simp only [trS]; rw [if_pos hE]
    rw [hS]
    refine ⟨fun e he hEe hno => ?_, fun hno => ?_⟩
    ·rcases Nat.eq_or_lt_of_le (Nat.le_of_lt_succ he) with e1 | e1
     ·subst e1
      simp only [window]
      split <;> simp
     ·have := hno j e1 (by omega) hE
      simp only [window, this, Bool.false_eq_true, if_false]
      exact List.mem_cons_of_mem _ (ih.1 e e1 hEe fun e' h1 h2 h3 => hno e' h1 (by omega) h3)
    ·have := hno j (by omega) hE
     simp only [window, this, Bool.false_eq_true, if_false]
     exact List.mem_cons_of_mem _ (ih.2 fun e' h1 h2 => hno e' (by omega) h2)
   ·have hS : trS P call ops a H (j + 1) = trS P call ops a H j := by simp only [trS]; rw [if_neg hE]
    rw [hS]
    refine ⟨fun e he hEe hno => ?_, fun hno => ?_⟩
    ·rcases Nat.eq_or_lt_of_le (Nat.le_of_lt_succ he) with e1 | e1
     ·subst e1; exact absurd hEe hE
     ·exact ih.1 e e1 hEe fun e' h1 h2 h3 => hno e' h1 (by omega) h3
    ·exact ih.2 fun e' h1 h2 => hno e' (by omega) h2
theorem pnd (bef : Array Nat) {x : Nat} (hW : trW P call ops a H x = true) (hc : cls (opAt ops x).op = .read) : ∀ j, x < j → (∀ e, x < e → e < j → isE P call ops a H e → (bef.getD e 0).testBit x = false) → (x, trA P call ops a H x, opAt ops x, trV P call ops a H x) ∈ trP P call ops a H bef j := by
 intro j
 induction j with
 | zero => intro h; omega
 | succ j ih =>
   intro hx hno
   simp only [trP]
   rcases Nat.eq_or_lt_of_le (Nat.le_of_lt_succ hx) with e1 | e1
   ·subst e1
    rw [if_neg (fun e => by have e2 := e.2; rw [hc] at e2; cases e2), if_pos ⟨hW, hc⟩]
    exact List.mem_cons_self ..
   ·have := ih e1 fun e h1 h2 h3 => hno e h1 (by omega) h3
    split
    ·rename_i hE
     exact List.mem_filter.2 ⟨this, by rw [hno j e1 (by omega) hE]; rfl⟩
    ·split
     ·exact List.mem_cons_of_mem _ this
     ·exact this
theorem stable {bef : Array Nat} (hok : ∀ j, j < ops.size → StepOk P call ops a H bef j) {x c : Nat} (hx : x < ops.size) (hW : trW P call ops a H x = true) (hc : cls (opAt ops x).op = .read) (hcn : c ≤ ops.size) (hbd : c = 0 ∨ ∃ e, c = e + 1 ∧ isE P call ops a H e)
  (h1 : ∀ e, e < ops.size → isE P call ops a H e → c ≤ e → (bef.getD x 0).testBit e = false) (h2 : ∀ e, e < c → isE P call ops a H e → (bef.getD e 0).testBit x = false) :
  ∃ G, aexec P (trA P call ops a H x) (opAt ops x) (trH P call ops a H c) = some (trV P call ops a H x, G) := by
 have key : stillReads P (trH P call ops a H c) (trA P call ops a H x) (opAt ops x) (trV P call ops a H x) = true := by
  rcases Nat.lt_or_ge x c with hxc | hxc
  ·rcases hbd with e | ⟨e, rfl, hE⟩
   ·omega
   ·have hne : e ≠ x := fun h => by have e2 := hE.2; rw [h, hc] at e2; cases e2
    exact ((hok e (by omega)).eff hE).2 _ (pnd bef hW hc (e + 1) (by omega) fun e' q1 q2 q3 => h2 e' q2 q3)
  ·refine (hok x hx).read hW hc _ ?_
   rcases hbd with rfl | ⟨e, rfl, hE⟩
   ·exact (win _ x).2 fun e' q1 q2 => h1 e' (by omega) q2 (by omega)
   ·exact (win _ x).1 e (by omega) hE fun e' q1 q2 q3 => h1 e' (by omega) q3 (by omega)
 unfold stillReads at key
 split at key
 ·rename_i v' G hs
  exact ⟨G, by rw [hs, vEq_sound key]⟩
 ·cases key
end
end Go.Abs
namespace Go.Abs
section
variable {P : Program} {call : CallF} {a : Fr} {H : Heap}
def CallGrow (call : CallF) : Prop := ∀ fv args H v H', call fv args H = some (v, H') → H.length ≤ H'.length
theorem write_len {b o : Nat} {vs : List Value} {H' : Heap} (h : H.write b o vs = some H') : H'.length = H.length := by
 unfold Heap.write at h
 split at h
 ·split at h
  ·injection h with h; subst h; simp
  ·cases h
 ·cases h
theorem aexec_grow {o : Oper} {v : Value} {H' : Heap} (h : aexec P a o H = some (v, H')) : H.length ≤ H'.length := by
 cases hc : cls o.op with
 | pure_ => obtain ⟨rfl, _⟩ := aexec_pure hc h; exact Nat.le_refl _
 | read => have := read_same hc h; subst this; exact Nat.le_refl _
 | all_ =>
   obtain ⟨dst, op, type, pos, after, guard⟩ := o
   cases op <;> first | (simp [cls] at hc; done) | skip
   case alloc t =>
    simp only [aexec] at h
    split at h
    ·split at h
     ·injection h with h; injection h with h1 h2; subst h2; simp
     ·cases h
    ·cases h
   case box t x =>
    simp only [aexec] at h
    split at h
    ·injection h with h; injection h with h1 h2; subst h2; simp
    ·cases h
   case buildSlice t len parts =>
    simp only [aexec, buildSliceA] at h
    split at h
    ·split at h
     ·split at h
      ·split at h
       ·injection h with h; injection h with h1 h2; subst h2; simp
       ·cases h
      ·cases h
     ·cases h
    ·cases h
   case makeMap t r =>
    simp only [aexec] at h
    split at h
    ·split at h
     ·injection h with h; injection h with h1 h2; subst h2; simp
     ·cases h
    ·cases h
   case makeSlice t l c =>
    simp only [aexec] at h
    split at h
    ·split at h
     ·split at h
      ·injection h with h; injection h with h1 h2; subst h2; simp
      ·cases h
     ·cases h
    ·cases h
   case call c =>
    exfalso
    obtain ⟨callee, args, ts⟩ := c
    cases callee
    case builtin bi => cases bi <;> simp [cls] at hc
    all_goals simp [cls] at hc
 | eff =>
   obtain ⟨dst, op, type, pos, after, guard⟩ := o
   cases op <;> first | (simp [cls] at hc; done) | skip
   case store t x y =>
    simp only [aexec] at h
    cases hb : storeA P t (ev a x) (ev a y) H with
    | none => rw [hb] at h; cases h
    | some H1 =>
      rw [hb] at h
      simp only [Option.map_some] at h
      injection h with h; injection h with h1 h2; subst h2
      unfold storeA at hb
      split at hb
      ·split at hb
       ·exact Nat.le_of_eq (write_len hb).symm
       ·cases hb
      ·cases hb
   case mapUpdate t x k v =>
    simp only [aexec] at h
    cases hb : mapUpdateA P t (ev a x) (ev a k) (ev a v) H with
    | none => rw [hb] at h; cases h
    | some H1 =>
      rw [hb] at h
      simp only [Option.map_some] at h
      injection h with h; injection h with h1 h2; subst h2
      unfold mapUpdateA at hb
      split at hb
      ·split at hb
       ·split at hb
        ·split at hb
         ·injection hb with hb; subst hb; simp
         ·cases hb
        ·cases hb
       ·cases hb
      ·cases hb
   case call c =>
    obtain ⟨callee, args, ts⟩ := c
    cases callee
    case builtin bi =>
     simp only [aexec] at h
     unfold builtinA at h
     split at h
     ·obtain ⟨_, h2⟩ := map_pair h; subst h2; exact Nat.le_refl _
     ·split at h
      ·unfold appendA at h
       split at h
       ·split at h
        ·split at h
         ·split at h
          ·split at h
           ·injection h with h; injection h with h1 h2; subst h2; exact Nat.le_refl _
           ·cases h
          ·split at h
           ·split at h
            ·injection h with h; injection h with h1 h2; subst h2; simp
            ·cases h
           ·split at h
            ·split at h
             ·injection h with h; injection h with h1 h2; subst h2; simp
             ·cases h
            ·cases h
           ·cases h
         ·cases h
        ·cases h
       ·cases h
      ·unfold appendIntA at h
       split at h
       ·split at h
        ·split at h
         ·injection h with h; injection h with h1 h2; subst h2; simp
         ·cases h
        ·cases h
       ·cases h
     ·unfold copyA at h
      split at h
      ·split at h
       ·injection h with h; injection h with h1 h2; subst h2; exact Nat.le_refl _
       ·split at h
        ·split at h
         ·rename_i hw
          injection h with h; injection h with h1 h2; subst h2
          exact Nat.le_of_eq (write_len hw).symm
         ·cases h
        ·cases h
      ·cases h
     ·rename_i t _ _
      cases he : sliceElem P t with
      | none => rw [he] at h; cases h
      | some es => rw [he] at h; simp only [Option.map_some] at h; injection h with h; injection h with h1 h2; subst h2; exact Nat.le_refl _
     ·obtain ⟨_, h2⟩ := map_pair h; subst h2; exact Nat.le_refl _
     ·obtain ⟨_, h2⟩ := map_pair h; subst h2; exact Nat.le_refl _
     ·cases h
    all_goals (simp only [aexec] at h; cases h)
variable (hg : CallGrow call)
include hg
theorem stepA_grow {o : Oper} {v : Value} {H' : Heap} (h : stepA P call a o H = some (v, H')) : H.length ≤ H'.length := by
 unfold stepA at h
 split at h
 ·exact hg _ _ _ _ _ h
 ·exact aexec_grow h
theorem evOps_grow {ops : Array Oper} : ∀ {l : List Oper} {a a' : Fr} {H H' : Heap}, evOps P call ops l a H = some (a', H') → H.length ≤ H'.length := by
 intro l
 induction l with
 | nil => intro a a' H H' h; simp only [evOps] at h; injection h with h; injection h with h1 h2; subst h2; exact Nat.le_refl _
 | cons o l ih =>
   intro a a' H H' h
   simp only [evOps] at h
   split at h
   ·split at h
    ·rename_i hs; exact Nat.le_trans (stepA_grow hg hs) (ih h)
    ·cases h
   ·exact ih h
theorem evDraw_grow {ops : Array Oper} {bef : Array Nat} : ∀ {l : List Nat} {a a' : Fr} {H H' : Heap} {st : List (Option Nat × Heap)} {pd : Pend}, evDraw P call ops bef l a H st pd = some (a', H') → H.length ≤ H'.length := by
 intro l
 induction l with
 | nil => intro a a' H H' st pd h; simp only [evDraw] at h; injection h with h; injection h with h1 h2; subst h2; exact Nat.le_refl _
 | cons j l ih =>
   intro a a' H H' st pd h
   simp only [evDraw] at h
   split at h
   ·cases h
   ·split at h
    ·split at h
     ·split at h
      ·rename_i hs
       split at h
       ·exact Nat.le_trans (stepA_grow hg hs) (ih h)
       ·cases h
      ·cases h
     ·split at h
      ·rename_i hs; exact Nat.le_trans (aexec_grow hs) (ih h)
      ·cases h
     ·split at h
      ·split at h
       ·exact ih h
       ·cases h
      ·cases h
     ·split at h
      ·exact ih h
      ·cases h
    ·exact ih h
omit hg in
theorem loopN_grow {f : Fr → Heap → Option (X × Fr × Heap)} (hf : ∀ a H x a' H', f a H = some (x, a', H') → H.length ≤ H'.length) : ∀ n {a a' : Fr} {H H' : Heap} {x : X}, loopN f n a H = some (x, a', H') → H.length ≤ H'.length := by
 intro n
 induction n with
 | zero => intro a a' H H' x h; simp [loopN] at h
 | succ n ih =>
   intro a a' H H' x h
   rw [loopN] at h
   split at h
   ·rename_i h1; exact Nat.le_trans (hf _ _ _ _ _ h1) (ih h)
   ·exact hf _ _ _ _ _ h
theorem evCode_grow {k nt : Nat} {rd : Option Nat} : ∀ {c : Code} {a a' : Fr} {H H' : Heap} {x : X}, evCode P call k nt rd c a H = some (x, a', H') → H.length ≤ H'.length := by
 intro c
 induction c with
 | region id ops draw =>
   intro a a' H H' x h
   cases draw with
   | false =>
     simp only [evCode] at h
     split at h
     ·rename_i h1; injection h with h; injection h with h2 h3; injection h3 with h3 h4; subst h4; exact evOps_grow hg h1
     ·cases h
   | true =>
     simp only [evCode] at h
     split at h
     ·rename_i h1; injection h with h; injection h with h2 h3; injection h3 with h3 h4; subst h4; exact evDraw_grow hg h1
     ·cases h
 | seq c d ihc ihd =>
   intro a a' H H' x h
   simp only [evCode] at h
   split at h
   ·rename_i h1; exact Nat.le_trans (ihc h1) (ihd h)
   ·exact ihc h
 | cond c x y ihx ihy =>
   intro a a' H H' x h
   simp only [evCode] at h
   split at h
   ·exact ihx h
   ·exact ihy h
   ·cases h
 | block id c ih =>
   intro a a' H H' x h
   simp only [evCode] at h
   split at h
   ·rename_i h1
    split at h
    ·injection h with h; injection h with h2 h3; injection h3 with h3 h4; subst h4; exact ih h1
    ·injection h with h; injection h with h2 h3; injection h3 with h3 h4; subst h4; exact ih h1
   ·exact ih h
 | loop c ih =>
   intro a a' H H' x h
   simp only [evCode] at h
   exact loopN_grow (fun _ _ _ _ _ h => ih h) k h
 | rangeFunc f params assign body _ _ =>
   intro a a' H H' x h
   simp only [evCode] at h
   split at h
   ·split at h
    ·rename_i hc
     split at h
     ·split at h
      ·cases h
      ·split at h
       ·injection h with h; injection h with h2 h3; injection h3 with h3 h4; subst h4
        have := hg _ _ _ _ _ hc
        simp at this ⊢
        omega
       ·cases h
     ·cases h
    ·cases h
   ·cases h
 | scope c _ => intro a a' H H' x h; simp [evCode] at h
 | goto l => intro a a' H H' x h; simp [evCode] at h
 | refuse s => intro a a' H H' x h; simp [evCode] at h
 | _ => intro a a' H H' x h; simp only [evCode] at h; injection h with h; injection h with h2 h3; injection h3 with h3 h4; subst h4; exact Nat.le_refl _
end
end Go.Abs
namespace Go.Abs
def rst (M : Mp) (k : Nat) : Mp := fun b => if b < k then M b else none
theorem rst_some {M : Mp} {k b : Nat} {l : Loc} : rst M k b = some l ↔ b < k ∧ M b = some l := by
 unfold rst; split
 ·simp [*]
 ·simp; omega
theorem rst_ext {M M' : Mp} (h : Ext M M') {k k' : Nat} (hk : k ≤ k') : Ext (rst M k) (rst M' k') := fun b l hb => by
 rw [rst_some] at hb ⊢; exact ⟨by omega, h _ _ hb.2⟩
theorem rst_self {M : Mp} {k : Nat} (h : ∀ b l, M b = some l → b < k) : rst M k = M := by
 funext b; unfold rst; split
 ·rfl
 ·cases hb : M b with
  | none => rfl
  | some l => exact absurd (h b l hb) (by assumption)
theorem Rel.dead {m : Mp} {G : Heap} {w : World} (h : Rel m G w) (j : Nat) : Rel m (G ++ List.replicate j .dead) w := by
 have old : ∀ (b : Nat) x, b < G.length → (G ++ List.replicate j Blk.dead)[b]? = some x → G[b]? = some x := fun b x hb hx => by
  rwa [List.getElem?_append_left hb] at hx
 refine ⟨fun b l hb => by have := h.len b l hb; simp; omega, fun b x hx hlv => ?_, h.bnd, fun b x l hx hl => h.blk b x l (old b x (h.len b l hl) hx) hl,
  fun b c x y l k hbc hx hy hl hk => h.sep b c x y l k hbc (old b x (h.len b l hl) hx) (old c y (h.len c k hk) hy) hl hk⟩
 rcases Nat.lt_or_ge b G.length with hlt | hge
 ·exact h.has b x (old b x hlt hx) hlv
 ·rw [List.getElem?_append_right hge] at hx
  have := List.mem_of_getElem? hx
  rw [List.mem_replicate] at this
  rw [this.2] at hlv
  cases hlv
theorem Sim.dead {m0 m : Mp} {H0 G : Heap} {w0 w : World} (h : Sim m0 H0 w0 m G w) (j : Nat) : Sim m0 H0 w0 m (G ++ List.replicate j .dead) w where
 ext := h.ext
 rel := h.rel.dead j
 keep := h.keep
 fresh := fun g ⟨b, x, l, h1, h2, h3, h4⟩ => h.fresh g ⟨b, x, l, by rwa [List.getElem?_append_left (h.rel.len b l h2)] at h1, h2, h3, h4⟩
 grow := by have := h.grow; simp; omega
 img := h.img
theorem Sim.snoc {m0 M : Mp} {H0 G : Heap} {w0 w : World} {B : Blk} {l : Loc} (h : Sim m0 H0 w0 (rst M G.length) G w) (hl : M G.length = some l) (hbr : BR (rst M (G.length + 1)) w l B) (ho : B.owned = true) (hlt : l.g < w.heap.size)
  (hge : w0.heap.size ≤ l.g) (hap : ∀ b k, b ≠ G.length → M b = some k → k.g ≠ l.g) : Sim m0 H0 w0 (rst M (G.length + 1)) (G ++ [B]) w := by
 have hE : Ext (rst M G.length) (rst M (G.length + 1)) := rst_ext (.refl M) (by omega)
 have cases_ : ∀ b k, rst M (G.length + 1) b = some k → (b < G.length ∧ rst M G.length b = some k) ∨ (b = G.length ∧ k = l) := fun b k hb => by
  rw [rst_some] at hb
  rcases Nat.lt_or_ge b G.length with h1 | h1
  ·exact .inl ⟨h1, rst_some.2 ⟨h1, hb.2⟩⟩
  ·obtain rfl : b = G.length := by omega
   rw [hl] at hb
   exact .inr ⟨rfl, by injection hb.2 with e; exact e.symm⟩
 have at_ : ∀ (b : Nat) x, b < G.length → (G ++ [B])[b]? = some x → G[b]? = some x := fun b x hb hx => by rwa [List.getElem?_append_left hb] at hx
 have last : ∀ x, (G ++ [B])[G.length]? = some x → x = B := fun x hx => by
  rw [List.getElem?_append_right (Nat.le_refl _)] at hx; simp at hx; exact hx.symm
 refine ⟨h.ext.trans hE, ⟨fun b k hb => by rw [rst_some] at hb; simp; exact hb.1, fun b x hx hlv => ?_, fun b k hb => ?_, fun b x k hx hk => ?_, fun b c x y k j hbc hx hy hk hj hox hlv hg => ?_⟩, h.keep, fun g ⟨b, x, k, h1, h2, h3, h4⟩ => ?_, by have := h.grow; simp; omega, fun b k hb => ?_⟩
 ·rcases Nat.lt_or_ge b G.length with hlt' | hge'
  ·obtain ⟨k, hk⟩ := h.rel.has b x (at_ b x hlt' hx) hlv
   exact ⟨k, hE _ _ hk⟩
  ·have := lt_of_get hx
   simp at this
   obtain rfl : b = G.length := by omega
   exact ⟨l, rst_some.2 ⟨by omega, hl⟩⟩
 ·rcases cases_ b k hb with ⟨_, h1⟩ | ⟨_, rfl⟩
  ·exact h.rel.bnd b k h1
  ·exact hlt
 ·rcases cases_ b k hk with ⟨h0, h1⟩ | ⟨rfl, rfl⟩
  ·exact (h.rel.blk b x k (at_ b x h0 hx) h1).keep hE fun _ => rfl
  ·rw [last x hx]; exact hbr
 ·rcases cases_ b k hk with ⟨h0, h1⟩ | ⟨rfl, rfl⟩
  ·rcases cases_ c j hj with ⟨h2, h3⟩ | ⟨rfl, rfl⟩
   ·exact h.rel.sep b c x y k j hbc (at_ b x h0 hx) (at_ c y h2 hy) h1 h3 hox hlv hg
   ·exact absurd hg (hap b k hbc (rst_some.1 h1).2)
  ·rcases cases_ c j hj with ⟨h2, h3⟩ | ⟨rfl, rfl⟩
   ·exact absurd hg.symm (hap c j (fun e => hbc e.symm) (rst_some.1 h3).2)
   ·exact absurd rfl hbc
 ·rcases cases_ b k h2 with ⟨h5, h6⟩ | ⟨rfl, rfl⟩
  ·exact h.fresh g ⟨b, x, k, at_ b x h5 h1, h6, h3, h4⟩
  ·exact .inr (by omega)
 ·rcases cases_ b k hb with ⟨_, h6⟩ | ⟨_, rfl⟩
  ·exact h.img b k h6
  ·exact .inr hge
theorem Sim.junk {m : Mp} {H : Heap} {w : World} (hR : Rel m H w) (o : Obj) : Sim m H w m H { w with heap := w.heap.push o } :=
 ⟨.refl m, hR.world fun _ h => heap_push_lt w o h, ⟨rfl, rfl, rfl, by simp, fun g h _ => heap_push_lt w o h, Nat.le_refl _⟩, fun g h => .inl h, Nat.le_refl _, fun b l h => .inl ⟨b, l, h, rfl⟩⟩
section
variable {P : Program} {call : CallF} {ops : Array Oper} {a : Fr} {H : Heap} {nt : Nat}
def bit (ops : Array Oper) (j i : Nat) : Bool := ((Region.before ops).getD j 0).testBit i
structure DrawF (ops : Array Oper) : Prop where
 pre : ∀ j, j < ops.size → ∀ i ∈ preds (opAt ops j), i < j
 clash : ∀ i j, i < j → j < ops.size → Abs.clash (opAt ops i) (opAt ops j) = true → bit ops j i = true
 effs : ∀ i j, i < j → j < ops.size → cls (opAt ops i).op = .eff → cls (opAt ops j).op = .eff → bit ops j i = true
 dst : ∀ i j t, i < j → j < ops.size → (opAt ops i).dst = some t → (opAt ops j).dst ≠ some t
 alloc : ∀ i e, i < e → e < ops.size → cls (opAt ops i).op = .all_ → cls (opAt ops e).op = .eff → bit ops e i = true
 guard : ∀ j i p, j < ops.size → (opAt ops j).guard = some (i, p) → i < j ∧ bit ops j i = true ∧ (opAt ops i).dst.isSome = true
theorem mem_pairs {n i j : Nat} (h : i < j) (hj : j < n) : (i, j) ∈ pairs n := by
 simp only [pairs, List.mem_flatMap, List.mem_range, List.mem_map]
 exact ⟨j, hj, i, h, rfl⟩
theorem DrawF.of (h : drawOk ops (Region.before ops) (Abs.effs ops) = true) : DrawF ops := by
 unfold drawOk at h
 simp only [Bool.and_eq_true] at h
 obtain ⟨⟨⟨⟨h1, h2⟩, h3⟩, h4⟩, h5⟩ := h
 refine ⟨fun j hj i hi => ?_, fun i j hij hj hc => ?_, fun i j hij hj hc hc' => ?_, fun i j t hij hj ht ht' => ?_, fun i e hie he hc hc' => ?_, fun j i p hj hg => ?_⟩
 ·have := List.all_eq_true.1 h1 j (by simpa using hj)
  simpa using List.all_eq_true.1 this i hi
 ·have := List.all_eq_true.1 h2 _ (mem_pairs hij hj)
  simp only [Bool.and_eq_true, Bool.or_eq_true, Bool.not_eq_true'] at this
  rcases this.1 with e | e
  ·unfold opAt at hc; rw [hc] at e; cases e
  ·exact e
 ·have := List.all_eq_true.1 h2 _ (mem_pairs hij hj)
  simp only [Bool.and_eq_true, Bool.or_eq_true, Bool.not_eq_true'] at this
  rcases this.2 with e | e
  ·unfold opAt at hc hc'; rw [hc, hc'] at e; cases e
  ·exact e
 ·have := List.all_eq_true.1 h3 _ (mem_pairs hij hj)
  unfold opAt at ht ht'
  simp only [ht, ht'] at this
  simp at this
 ·have := List.all_eq_true.1 h4 i (by simp; omega)
  simp only [Bool.or_eq_true, Bool.not_eq_true'] at this
  rcases this with e1 | e1
  ·unfold opAt at hc; rw [hc] at e1; cases e1
  ·have hmem : e ∈ Abs.effs ops := by
    unfold Abs.effs
    rw [List.mem_filter]
    refine ⟨by simpa using he, ?_⟩
    unfold opAt at hc'; rw [hc']; rfl
   have := List.all_eq_true.1 e1 e hmem
   simp only [Bool.or_eq_true, Bool.not_eq_true', decide_eq_false_iff_not] at this
   rcases this with e | e
   ·exact absurd hie e
   ·exact e
 ·have := List.all_eq_true.1 h5 j (by simpa using hj)
  unfold opAt at hg
  rw [hg] at this
  simp only [Bool.and_eq_true, decide_eq_true_eq] at this
  exact ⟨this.1.1, this.1.2, this.2⟩
theorem bit_iff (hD : DrawF ops) {j i : Nat} (hj : j < ops.size) : bit ops j i = true ↔ ∃ p ∈ preds (opAt ops j), p = i ∨ bit ops p i = true :=
 before_bits hD.pre j hj i
def Down (ops : Array Oper) (L : Nat → Bool) : Prop := ∀ j, j < ops.size → L j = true → ∀ i, bit ops j i = true → L i = true
theorem Down.bits (hD : DrawF ops) {L : Nat → Bool} (hL : Down ops L) {x : Nat} (hx : x < ops.size) (hp : ∀ p ∈ preds (opAt ops x), L p = true) : ∀ i, bit ops x i = true → L i = true := by
 intro i hb
 obtain ⟨p, hpm, h⟩ := (bit_iff hD hx).1 hb
 have hlt := hD.pre x hx p hpm
 rcases h with rfl | h
 ·exact hp p hpm
 ·exact hL p (by omega) (hp p hpm) i h
theorem Down.add (hD : DrawF ops) {L : Nat → Bool} (hL : Down ops L) {x : Nat} (hx : x < ops.size) (hp : ∀ p ∈ preds (opAt ops x), L p = true) : Down ops fun j => decide (j = x) || L j := by
 intro j hj hLj i hb
 simp only [Bool.or_eq_true, decide_eq_true_eq] at hLj ⊢
 rcases hLj with rfl | hLj
 ·exact .inr (hL.bits hD hx hp i hb)
 ·exact .inr (hL j hj hLj i hb)
variable (P call ops a H) in
abbrev hl (j : Nat) : Nat := (trH P call ops a H j).length
variable (P call ops a H) in
def mkAt (j : Nat) : Prop := trW P call ops a H j = true ∧ cls (opAt ops j).op = .all_
theorem hl_step (hg : CallGrow call) {bef : Array Nat} (hok : ∀ j, j < ops.size → StepOk P call ops a H bef j) {j : Nat} (hj : j < ops.size) : hl P call ops a H j ≤ hl P call ops a H (j + 1) := by
 by_cases hE : isE P call ops a H j
 ·exact stepA_grow hg ((hok j hj).eff hE).1
 ·by_cases hm : trW P call ops a H j = true ∧ cls (opAt ops j).op = .all_
  ·exact aexec_grow ((hok j hj).alloc hm.1 hm.2)
  ·unfold hl; rw [(hok j hj).still hE hm]; exact Nat.le_refl _
theorem hl_mono (hg : CallGrow call) {bef : Array Nat} (hok : ∀ j, j < ops.size → StepOk P call ops a H bef j) {i : Nat} : ∀ {j : Nat}, i ≤ j → j ≤ ops.size → hl P call ops a H i ≤ hl P call ops a H j := by
 intro j
 induction j with
 | zero => intro h _; obtain rfl : i = 0 := by omega
           exact Nat.le_refl _
 | succ j ih =>
   intro h hj
   rcases Nat.eq_or_lt_of_le h with e | e
   ·rw [e]; exact Nat.le_refl _
   ·exact Nat.le_trans (ih (by omega) (by omega)) (hl_step hg hok (by omega))
theorem trA_no {bef : Array Nat} (hok : ∀ j, j < ops.size → StepOk P call ops a H bef j) {t : Nat} : ∀ x, x ≤ ops.size → (∀ y, y < x → (opAt ops y).dst ≠ some t) → trA P call ops a H x t = a t := by
 intro x
 induction x with
 | zero => intro _ _; rfl
 | succ x ih =>
   intro hx hno
   rw [(hok x (by omega)).next]
   have h1 := hno x (by omega)
   cases hd : (opAt ops x).dst with
   | none => simp only [putA]; exact ih (by omega) fun y hy => hno y (by omega)
   | some d =>
     have : t ≠ d := fun e => h1 (by rw [hd, e])
     simp only [putA, upd, if_neg this]
     exact ih (by omega) fun y hy => hno y (by omega)
theorem trA_wr (hD : DrawF ops) {bef : Array Nat} (hok : ∀ j, j < ops.size → StepOk P call ops a H bef j) {t y : Nat} (hy : (opAt ops y).dst = some t) : ∀ x, x ≤ ops.size → y < x → trA P call ops a H x t = trV P call ops a H y := by
 intro x
 induction x with
 | zero => intro _ h; omega
 | succ x ih =>
   intro hx hlt
   rw [(hok x (by omega)).next]
   rcases Nat.eq_or_lt_of_le (Nat.le_of_lt_succ hlt) with e | e
   ·subst e
    rw [hy]; simp [putA, upd]
   ·have h1 := hD.dst y x t e (by omega) hy
    cases hd : (opAt ops x).dst with
    | none => simp only [putA]; exact ih (by omega) e
    | some d =>
      have : t ≠ d := fun e => h1 (by rw [hd, e])
      simp only [putA, upd, if_neg this]
      exact ih (by omega) e
variable (P call ops a H) in
structure Inv (nt : Nat) (m0 : Mp) (w0 : World) (L : Nat → Bool) (M : Mp) (w : World) (tmps : Array Value) (c : Nat) : Prop where
 le : c ≤ ops.size
 at_ : c = 0 ∨ ∃ e, c = e + 1 ∧ isE P call ops a H e
 eff : ∀ e, e < ops.size → isE P call ops a H e → (L e = true ↔ e < c)
 down : Down ops L
 base : Sim m0 H w0 (rst M (hl P call ops a H c)) (trH P call ops a H c) w
 early : ∀ x, x < ops.size → c ≤ x → L x = true → mkAt P call ops a H x → ∃ l B, M (hl P call ops a H x) = some l ∧ trH P call ops a H (x + 1) = trH P call ops a H x ++ [B] ∧ B.owned = true ∧
  BR (rst M (hl P call ops a H (x + 1))) w l B ∧ l.g < w.heap.size ∧ w0.heap.size ≤ l.g ∧ ∀ b k, b ≠ hl P call ops a H x → M b = some k → k.g ≠ l.g
 dom : ∀ b l, M b = some l → b < hl P call ops a H c ∨ ∃ x, x < ops.size ∧ c ≤ x ∧ L x = true ∧ mkAt P call ops a H x ∧ b = hl P call ops a H x
 size : tmps.size = nt
 frame : ∀ t, t < nt → ∃ v', tmps[t]? = some v' ∧ ((∃ y, y < ops.size ∧ L y = true ∧ (opAt ops y).dst = some t ∧ VR (rst M (hl P call ops a H (max (y + 1) c))) (trV P call ops a H y) v') ∨
  ((∀ y, y < ops.size → L y = true → (opAt ops y).dst ≠ some t) ∧ VR (rst M (hl P call ops a H c)) (a t) v'))
variable {m0 : Mp} {w0 w : World} {L : Nat → Bool} {M : Mp} {tmps : Array Value} {c : Nat}
theorem mk_hl {bef : Array Nat} (hok : ∀ j, j < ops.size → StepOk P call ops a H bef j) {nt : Nat} (hI : Inv P call ops a H nt m0 w0 L M w tmps c) {x : Nat} (hx : x < ops.size) (hc : c ≤ x) (hL : L x = true) (hm : mkAt P call ops a H x) : hl P call ops a H (x + 1) = hl P call ops a H x + 1 := by
 obtain ⟨l, B, _, h, _⟩ := hI.early x hx hc hL hm
 unfold hl; rw [h]; simp
theorem no_place (hg : CallGrow call) {bef : Array Nat} (hok : ∀ j, j < ops.size → StepOk P call ops a H bef j) (hI : Inv P call ops a H nt m0 w0 L M w tmps c) {j : Nat} (hj : j < ops.size) (hcj : c ≤ j) (hno : ¬ (L j = true ∧ mkAt P call ops a H j)) {b : Nat}
  (h1 : hl P call ops a H j ≤ b) (h2 : b < hl P call ops a H (j + 1)) : M b = none := by
 cases hb : M b with
 | none => rfl
 | some l =>
   exfalso
   rcases hI.dom b l hb with h | ⟨x, hx, hcx, hLx, hm, rfl⟩
   ·have := hl_mono hg hok hcj (by omega)
    omega
   ·rcases Nat.lt_trichotomy x j with h | h | h
    ·have e1 := mk_hl hok hI hx hcx hLx hm
     have := hl_mono hg hok (show x + 1 ≤ j by omega) (by omega)
     omega
    ·subst h; exact hno ⟨hLx, hm⟩
    ·have := hl_mono hg hok (show j + 1 ≤ x by omega) (by omega)
     omega
theorem layers (hg : CallGrow call) {bef : Array Nat} (hok : ∀ j, j < ops.size → StepOk P call ops a H bef j) (hI : Inv P call ops a H nt m0 w0 L M w tmps c) : ∀ k, c + k ≤ ops.size → ∃ G, Sim m0 H w0 (rst M (hl P call ops a H (c + k))) G w ∧ G.length = hl P call ops a H (c + k) ∧ Sub (trH P call ops a H c) G ∧
  ((∀ j, c ≤ j → j < c + k → ¬ isE P call ops a H j ∧ (mkAt P call ops a H j → L j = true)) → G = trH P call ops a H (c + k)) := by
 intro k
 induction k with
 | zero => intro _; exact ⟨_, hI.base, rfl, fun _ _ h => h, fun _ => rfl⟩
 | succ k ih =>
   intro hk
   obtain ⟨G, h1, h2, h3, h4⟩ := ih (by omega)
   have hj : c + k < ops.size := by omega
   have hsub : ∀ r, Sub (trH P call ops a H c) (G ++ r) := fun r b x hb => by
    have := h3 b x hb
    rw [List.getElem?_append_left (lt_of_get this)]; exact this
   by_cases hm : L (c + k) = true ∧ mkAt P call ops a H (c + k)
   ·obtain ⟨l, B, e1, e2, e3, e4, e5, e6, e7⟩ := hI.early _ hj (by omega) hm.1 hm.2
    have e0 : hl P call ops a H (c + k + 1) = G.length + 1 := by rw [h2]; exact mk_hl hok hI hj (by omega) hm.1 hm.2
    refine ⟨G ++ [B], ?_, by rw [List.length_append, show c + (k + 1) = c + k + 1 from rfl, e0]; rfl, hsub _, fun hall => ?_⟩
    ·rw [show c + (k + 1) = c + k + 1 from rfl, e0]
     rw [← h2] at h1 e1 e7
     rw [e0] at e4
     exact h1.snoc e1 e4 e3 e5 e6 e7
    ·rw [h4 fun j h5 h6 => hall j h5 (by omega), show c + (k + 1) = c + k + 1 from rfl, e2]
   ·have hle := hl_step hg hok hj
    refine ⟨G ++ List.replicate (hl P call ops a H (c + k + 1) - G.length) .dead, ?_, by rw [List.length_append, List.length_replicate]; rw [← h2] at hle; rw [show c + (k + 1) = c + k + 1 from rfl]; exact Nat.add_sub_cancel' hle, hsub _, fun hall => ?_⟩
    ·have : rst M (hl P call ops a H (c + (k + 1))) = rst M (hl P call ops a H (c + k)) := by
      funext b
      unfold rst
      rw [show c + (k + 1) = c + k + 1 from rfl]
      rcases Nat.lt_or_ge b (hl P call ops a H (c + k)) with hb | hb
      ·rw [if_pos hb, if_pos (Nat.lt_of_lt_of_le hb hle)]
      ·rw [if_neg (Nat.not_lt.2 hb)]
       split
       ·rename_i hb2
        exact no_place hg hok hI hj (by omega) hm hb hb2
       ·rfl
     rw [this]
     exact h1.dead _
    ·have hq := hall (c + k) (by omega) (by omega)
     have hst := (hok _ hj).still hq.1 fun e => hm ⟨hq.2 e, e⟩
     have he : G = trH P call ops a H (c + k) := h4 fun j h5 h6 => hall j h5 (by omega)
     have : hl P call ops a H (c + k + 1) - G.length = 0 := by unfold hl; rw [hst, he]; omega
     rw [this, show c + (k + 1) = c + k + 1 from rfl, hst, he]
     simp
theorem Inv.opnd (hg : CallGrow call) (hD : DrawF ops) {bef : Array Nat} (hok : ∀ j, j < ops.size → StepOk P call ops a H bef j) (hI : Inv P call ops a H nt m0 w0 L M w tmps c) {x : Nat} (hx : x < ops.size) (hLx : L x = false) (hbits : ∀ i, bit ops x i = true → L i = true)
  {z : Operand} (hz : z ∈ (opAt ops x).op.operands.toList) (hzo : opndOk nt z = true) : VR (rst M (hl P call ops a H (max x c))) (ev (trA P call ops a H x) z) (evC tmps z) := by
 cases z with
 | tmp t =>
   have ht : t < nt := by simpa [opndOk] using hzo
   obtain ⟨v', h1, h2⟩ := hI.frame t ht
   have hname : t ∈ namesOf (opAt ops x) := by
    unfold namesOf
    rw [List.mem_append, List.mem_filterMap]
    exact .inr ⟨_, hz, rfl⟩
   have hev : evC tmps (.tmp t) = v' := by simp [evC, h1]
   rw [hev]
   simp only [ev]
   have hle : max x c ≤ ops.size := by have := hI.le; omega
   rcases h2 with ⟨y, hy, hLy, hd, hv⟩ | ⟨hno, hv⟩
   ·have hyx : y < x := by
     rcases Nat.lt_trichotomy y x with h | h | h
     ·exact h
     ·subst h; rw [hLx] at hLy; cases hLy
     ·have hc : clash (opAt ops x) (opAt ops y) = true := by
       unfold clash; rw [hd]; simp [hname]
      have := hI.down y hy hLy x (hD.clash x y h hy hc)
      rw [hLx] at this; cases this
    rw [trA_wr hD hok hd x (by omega) hyx]
    exact hv.mono (rst_ext (.refl M) (hl_mono hg hok (by omega) hle))
   ·have : trA P call ops a H x t = a t := trA_no hok x (by omega) fun y hy hd => by
     have hc : clash (opAt ops y) (opAt ops x) = true := by
      unfold clash; rw [hd]; simp [hname]
     exact hno y (by omega) (hbits y (hD.clash y x hy hx hc)) hd
    rw [this]
    exact hv.mono (rst_ext (.refl M) (hl_mono hg hok (by omega) hle))
 | const v =>
   have hc : constAgg v = true := by simpa [opndOk] using hzo
   exact (VR.a (AR.of_const _ hc) : VR _ v v)
 | func f => exact .a (.s (.func f #[] #[] .nil))
 | global g => simp [opndOk] at hzo
theorem Inv.wanted (hg : CallGrow call) (hD : DrawF ops) {bef : Array Nat} (hok : ∀ j, j < ops.size → StepOk P call ops a H bef j) (hops : ∀ o ∈ ops.toList, operOk nt o = true) (hI : Inv P call ops a H nt m0 w0 L M w tmps c) {x : Nat} (hx : x < ops.size) (hbits : ∀ i, bit ops x i = true → L i = true) :
  Region.wanted (opAt ops x) (yielded ops tmps) = trW P call ops a H x := by
 unfold trW Region.wanted
 cases hgd : (opAt ops x).guard with
 | none => rfl
 | some gp =>
   obtain ⟨i, p⟩ := gp
   obtain ⟨g1, g2, g3⟩ := hD.guard x i p hx hgd
   have hLi := hbits i g2
   have key : yielded ops tmps i = yieldedA ops (trA P call ops a H x) i := by
    unfold yielded yieldedA
    rw [opAt_get (by omega : i < ops.size)]
    cases hd : (opAt ops i).dst with
    | none => rw [hd] at g3; cases g3
    | some t =>
      have ht : t < nt := by
       have h1 := hops _ (List.mem_of_getElem? (by simpa using opAt_get (by omega : i < ops.size) : ops.toList[i]? = some (opAt ops i)))
       unfold operOk at h1
       rw [hd] at h1
       simp only [Bool.and_eq_true] at h1
       simpa using h1.2
      obtain ⟨v', h1, h2⟩ := hI.frame t ht
      simp only [Option.bind_some, hd, h1]
      rcases h2 with ⟨y, hy, hLy, hd', hv⟩ | ⟨hno, hv⟩
      ·have : y = i := by
        rcases Nat.lt_trichotomy y i with h | h | h
        ·exact absurd hd (hD.dst y i t h (by omega) hd')
        ·exact h
        ·exact absurd hd' (hD.dst i y t h (by omega) hd)
       subst this
       rw [trA_wr hD hok hd x (by omega) g1]
       generalize trV P call ops a H y = u at hv
       cases u with
       | bool b => rw [hv.bool_]
       | _ =>
         split
         ·rename_i c hc
          injection hc with hc
          subst hc
          cases hv.bool_right
         ·rfl
      ·exact absurd hd (hno i (by omega) hLi)
   simp only [key]
end
end Go.Abs
namespace Go.Abs
def DrawOK (P : Program) (call : CallF) (nt : Nat) : Prop := ∀ ops : Array Oper, (∀ o ∈ ops.toList, operOk nt o = true) → drawOk ops (Region.before ops) (effs ops) = true → ∀ a H a' H', evDraw P call ops (Region.before ops) (List.range ops.size) a H [(none, H)] [] = some (a', H') →
 ∀ m w tmps (t : Nat), Rel m H w → FR m nt a tmps → ∀ b ds k cs, ∃ m' w' tmps', Sim m H w m' H' w' ∧ FR m' nt a' tmps' ∧ Steps P (lone (onF b tmps ds (.inRegion ops (Region.schedule (P.follows .mixedOrders) ops t) :: k)) cs w) (lone (onF b tmps' ds k) cs w')
section
variable {P : Program} {call : CallF} {ops : Array Oper} {a : Fr} {H : Heap} {nt : Nat} {m0 : Mp} {w0 w : World} {L : Nat → Bool} {M : Mp} {tmps : Array Value} {c : Nat}
theorem stepA_not {o : Oper} (h : cls o.op ≠ .eff) : stepA P call a o H = aexec P a o H := by
 unfold stepA
 split
 ·rename_i hop
  rw [hop] at h
  simp [cls] at h
 ·rfl
theorem frame_put {L : Nat → Bool} {M M' : Mp} {tmps : Array Value} {c c' : Nat} {x : Nat} {v' : Value} (hx : x < ops.size) (hD : DrawF ops)
  (hf : ∀ t, t < nt → ∃ v', tmps[t]? = some v' ∧ ((∃ y, y < ops.size ∧ L y = true ∧ (opAt ops y).dst = some t ∧ VR (rst M (hl P call ops a H (max (y + 1) c))) (trV P call ops a H y) v') ∨
   ((∀ y, y < ops.size → L y = true → (opAt ops y).dst ≠ some t) ∧ VR (rst M (hl P call ops a H c)) (a t) v')))
  (hs : tmps.size = nt) (h1 : ∀ y, y < ops.size → Ext (rst M (hl P call ops a H (max (y + 1) c))) (rst M' (hl P call ops a H (max (y + 1) c')))) (h2 : Ext (rst M (hl P call ops a H c)) (rst M' (hl P call ops a H c')))
  (hv : VR (rst M' (hl P call ops a H (max (x + 1) c'))) (trV P call ops a H x) v') :
  ∀ t, t < nt → ∃ u', (putC tmps (opAt ops x).dst v')[t]? = some u' ∧ ((∃ y, y < ops.size ∧ (decide (y = x) || L y) = true ∧ (opAt ops y).dst = some t ∧ VR (rst M' (hl P call ops a H (max (y + 1) c'))) (trV P call ops a H y) u') ∨
    ((∀ y, y < ops.size → (decide (y = x) || L y) = true → (opAt ops y).dst ≠ some t) ∧ VR (rst M' (hl P call ops a H c')) (a t) u')) := by
 intro t ht
 by_cases hd : (opAt ops x).dst = some t
 ·refine ⟨v', ?_, .inl ⟨x, hx, by simp, hd, hv⟩⟩
  rw [hd]
  simp only [putC]
  rw [Array.getElem?_setIfInBounds, if_pos rfl, if_pos (by omega)]
 ·obtain ⟨u', h3, h4⟩ := hf t ht
  refine ⟨u', ?_, ?_⟩
  ·cases hdx : (opAt ops x).dst with
   | none => exact h3
   | some d =>
     simp only [putC]
     rw [Array.getElem?_setIfInBounds, if_neg (fun e => hd (by rw [hdx, e]))]
     exact h3
  ·rcases h4 with ⟨y, hy, hLy, hyd, hyv⟩ | ⟨hno, hv0⟩
   ·exact .inl ⟨y, hy, by simp [hLy], hyd, hyv.mono (h1 y hy)⟩
   ·refine .inr ⟨fun y hy hLy => ?_, hv0.mono h2⟩
    simp only [Bool.or_eq_true, decide_eq_true_eq] at hLy
    rcases hLy with rfl | hLy
    ·exact hd
    ·exact hno y hy hLy
theorem putC_size (tmps : Array Value) (d : Option Nat) (v : Value) : (putC tmps d v).size = tmps.size := by cases d <;> simp [putC]
theorem Inv.quiet {bef : Array Nat} (hg : CallGrow call) (hok : ∀ j, j < ops.size → StepOk P call ops a H bef j) (hD : DrawF ops) (hI : Inv P call ops a H nt m0 w0 L M w tmps c) {x : Nat} (hx : x < ops.size) (hp : ∀ p ∈ preds (opAt ops x), L p = true) (hE : ¬ isE P call ops a H x) (hm : ¬ mkAt P call ops a H x)
  {v' : Value} (hv : VR (rst M (hl P call ops a H (max (x + 1) c))) (trV P call ops a H x) v') : Inv P call ops a H nt m0 w0 (fun j => decide (j = x) || L j) M w (putC tmps (opAt ops x).dst v') c where
 le := hI.le
 at_ := hI.at_
 eff := fun e he hEe => by
  have : e ≠ x := fun h => hE (h ▸ hEe)
  simpa [this] using hI.eff e he hEe
 down := hI.down.add hD hx hp
 base := hI.base
 early := fun y hy hc hL hmy => by
  have : y ≠ x := fun h => hm (h ▸ hmy)
  exact hI.early y hy hc (by simpa [this] using hL) hmy
 dom := fun b l hb => (hI.dom b l hb).imp id fun ⟨y, hy, hc, hL, h⟩ => ⟨y, hy, hc, by simp [hL], h⟩
 size := by rw [putC_size]; exact hI.size
 frame := frame_put hx hD hI.frame hI.size (fun _ _ => .refl _) (.refl _) hv
variable (hcall : CallOK P call) (hg : CallGrow call) (hD : DrawF ops) (hok : ∀ j, j < ops.size → StepOk P call ops a H (Region.before ops) j) (hops : ∀ o ∈ ops.toList, operOk nt o = true)
include hcall hg hD hok hops
theorem inv_step (hI : Inv P call ops a H nt m0 w0 L M w tmps c) {x : Nat} (hx : x < ops.size) (hLx : L x = false) (hp : ∀ p ∈ preds (opAt ops x), L p = true) :
  ∀ b ds rest k cs, ∃ M' w' tmps' c', Inv P call ops a H nt m0 w0 (fun j => decide (j = x) || L j) M' w' tmps' c' ∧ Steps P (lone (onF b tmps ds (.inRegion ops (x :: rest) :: k)) cs w) (lone (onF b tmps' ds (.inRegion ops rest :: k)) cs w') := by
 intro b ds rest k cs
 have hbits := hI.down.bits hD hx hp
 have hwant := hI.wanted hg hD hok hops hx hbits
 have hget := opAt_get hx
 have hopok := hops _ (List.mem_of_getElem? (by simpa using hget : ops.toList[x]? = some (opAt ops x)))
 have hopnd : ∀ z ∈ (opAt ops x).op.operands.toList, VR (rst M (hl P call ops a H (max x c))) (ev (trA P call ops a H x) z) (evC tmps z) := fun z hz => hI.opnd hg hD hok hx hLx hbits hz (mem_operands hopok z hz)
 have hcn := hI.le
 have hle1 : hl P call ops a H (max x c) ≤ hl P call ops a H (max (x + 1) c) := hl_mono hg hok (by omega) (by omega)
 cases hw : trW P call ops a H x with
 | false =>
   have hE : ¬ isE P call ops a H x := fun h => by have h1 := h.1; rw [hw] at h1; cases h1
   have hm : ¬ mkAt P call ops a H x := fun h => by have h1 := h.1; rw [hw] at h1; cases h1
   refine ⟨M, w, _, c, hI.quiet hg hok hD hx hp hE hm (v' := undef) (by rw [(hok x hx).not hw]; exact .undef _), .one (st_notWanted hget (by rw [hwant, hw]))⟩
 | true =>
   rw [hw] at hwant
   have quietly : cls (opAt ops x).op = .pure_ ∨ cls (opAt ops x).op = .read → (∀ G, Sub (trH P call ops a H c) G → ∃ G', aexec P (trA P call ops a H x) (opAt ops x) G = some (trV P call ops a H x, G')) →
     ∃ M' w' tmps' c', Inv P call ops a H nt m0 w0 (fun j => decide (j = x) || L j) M' w' tmps' c' ∧ Steps P (lone (onF b tmps ds (.inRegion ops (x :: rest) :: k)) cs w) (lone (onF b tmps' ds (.inRegion ops rest :: k)) cs w') := by
    intro hcl hrun
    have hE : ¬ isE P call ops a H x := fun h => by have h2 := h.2; rw [h2] at hcl; rcases hcl with e | e <;> cases e
    have hm : ¬ mkAt P call ops a H x := fun h => by have h2 := h.2; rw [h2] at hcl; rcases hcl with e | e <;> cases e
    obtain ⟨G, g1, g2, g3, _⟩ := layers hg hok hI (max x c - c) (by omega)
    rw [show c + (max x c - c) = max x c from by omega] at g1 g2
    obtain ⟨G', hG'⟩ := hrun G g3
    have hstep : stepA P call (trA P call ops a H x) (opAt ops x) G = some (trV P call ops a H x, G') := by
     rw [stepA_not (fun e => by rw [e] at hcl; rcases hcl with e | e <;> cases e)]; exact hG'
    obtain ⟨m', w', v', _, s2, s3, s4⟩ := op_run hcall g1.rel hget hopnd hwant hstep b ds rest k cs
    obtain ⟨rfl, rfl⟩ := s4 hcl
    exact ⟨M, w', _, c, hI.quiet hg hok hD hx hp hE hm (s2.mono (rst_ext (.refl M) hle1)), s3⟩
   cases hcl : cls (opAt ops x).op with
   | pure_ =>
     obtain ⟨G, hG⟩ := (hok x hx).quiet hw (.inl hcl)
     exact quietly (.inl hcl) fun G' _ => ⟨G', (aexec_pure hcl hG).2 G'⟩
   | read =>
     obtain ⟨G, hG⟩ := stable hok hx hw hcl hcn hI.at_ (fun e he hEe hce => by
      cases hb : ((Region.before ops).getD x 0).testBit e with
      | false => rfl
      | true =>
        have := (hI.eff e he hEe).1 (hbits e hb)
        omega) (fun e hec hEe => by
      cases hb : ((Region.before ops).getD e 0).testBit x with
      | false => rfl
      | true =>
        have := hI.down e (by omega) ((hI.eff e (by omega) hEe).2 hec) x hb
        rw [hLx] at this; cases this)
     exact quietly (.inr hcl) fun G' hS => ⟨G', aexec_read hcl hG hS⟩
   | all_ =>
     have hm : mkAt P call ops a H x := ⟨hw, hcl⟩
     have hE : ¬ isE P call ops a H x := fun h => by have h2 := h.2; rw [hcl] at h2; cases h2
     have hcx : c ≤ x := by
      rcases hI.at_ with e | ⟨e, rfl, hEe⟩
      ·omega
      ·rcases Nat.lt_trichotomy x e with h | h | h
       ·have := hI.down e (by omega) ((hI.eff e (by omega) hEe).2 (by omega)) x (hD.alloc x e h (by omega) hcl hEe.2)
        rw [hLx] at this; cases this
       ·subst h; exact absurd hEe hE
       ·omega
     have hmax : max x c = x := by omega
     rw [hmax] at hopnd
     have hal := (hok x hx).alloc hw hcl
     obtain ⟨B, obj, N, v', q1, q2, q3, q4, q5⟩ := alloc_core (w := w) hopnd hcl hal
     have hhl : hl P call ops a H (x + 1) = hl P call ops a H x + 1 := by unfold hl; rw [q1]; simp
     have hfree : M (hl P call ops a H x) = none := no_place hg hok hI hx hcx (by rw [hLx]; simp) (Nat.le_refl _) (by omega)
     have hE' : Ext M (psh M (hl P call ops a H x) ⟨w.heap.size, 0, N⟩) := .push _ hfree
     have hEr : Ext (rst M (hl P call ops a H x)) (rst (psh M (hl P call ops a H x) ⟨w.heap.size, 0, N⟩) (hl P call ops a H (x + 1))) := rst_ext hE' (by omega)
     have hnew : rst (psh M (hl P call ops a H x) ⟨w.heap.size, 0, N⟩) (hl P call ops a H (x + 1)) (hl P call ops a H x) = some ⟨w.heap.size, 0, N⟩ := rst_some.2 ⟨by omega, psh_new ..⟩
     have hbaseM : rst (psh M (hl P call ops a H x) ⟨w.heap.size, 0, N⟩) (hl P call ops a H c) = rst M (hl P call ops a H c) := by
      have h1 := hl_mono hg hok hcx (by omega)
      funext b
      unfold rst
      split
      ·rw [psh_old _ (by omega)]
      ·rfl
     have hMlt : ∀ b k, M b = some k → k.g < w.heap.size := fun b k hb => by
      rcases hI.dom b k hb with h | ⟨y, hy, hcy, hLy, hmy, rfl⟩
      ·exact hI.base.rel.bnd b k (rst_some.2 ⟨h, hb⟩)
      ·obtain ⟨l, B', e1, _, _, _, e5, _⟩ := hI.early y hy hcy hLy hmy
       rw [e1] at hb; injection hb with hb; rw [← hb]; exact e5
     refine ⟨psh M (hl P call ops a H x) ⟨w.heap.size, 0, N⟩, { w with heap := w.heap.push obj }, _, c, ⟨hcn, hI.at_, fun e he hEe => ?_, hI.down.add hD hx hp, ?_, fun y hy hcy hLy hmy => ?_, fun b l hb => ?_, by rw [putC_size]; exact hI.size, ?_⟩, .one (st_value hget hwant (stepA_notDefer (call := call) (by rw [stepA_not (by rw [hcl]; simp)]; exact hal)) q3 rfl)⟩
     ·have : e ≠ x := fun h => hE (h ▸ hEe)
      simpa [this] using hI.eff e he hEe
     ·rw [hbaseM]
      exact hI.base.trans (Sim.junk hI.base.rel obj)
     ·by_cases hyx : y = x
      ·subst hyx
       refine ⟨⟨w.heap.size, 0, N⟩, B, psh_new .., q1, q2, q5 _ _ hEr (heap_push_eq w obj), by simp, hI.base.keep.size, fun b k hb hk => ?_⟩
       rw [psh_old _ hb] at hk
       have := hMlt b k hk
       simp; omega
      ·obtain ⟨l, B', e1, e2, e3, e4, e5, e6, e7⟩ := hI.early y hy hcy (by simpa [hyx] using hLy) hmy
       refine ⟨l, B', hE' _ _ e1, e2, e3, e4.keep (rst_ext hE' (Nat.le_refl _)) fun _ => heap_push_lt w obj e5, by simp; omega, e6, fun b k hb hk => ?_⟩
       by_cases hbx : b = hl P call ops a H x
       ·subst hbx
        rw [psh_new] at hk
        injection hk with hk
        subst hk
        simp; omega
       ·rw [psh_old _ hbx] at hk
        exact e7 b k hb hk
     ·by_cases hbx : b = hl P call ops a H x
      ·exact .inr ⟨x, hx, hcx, by simp, hm, hbx⟩
      ·rw [psh_old _ hbx] at hb
       exact (hI.dom b l hb).imp id fun ⟨y, hy, hc, hL, h⟩ => ⟨y, hy, hc, by simp [hL], h⟩
     ·refine frame_put hx hD hI.frame hI.size (fun _ _ => rst_ext hE' (Nat.le_refl _)) (rst_ext hE' (Nat.le_refl _)) ?_
      rw [show max (x + 1) c = x + 1 from by omega]
      exact q4 _ hEr hnew
   | eff =>
     have hE : isE P call ops a H x := ⟨hw, hcl⟩
     have hm : ¬ mkAt P call ops a H x := fun h => by have h2 := h.2; rw [hcl] at h2; cases h2
     have hcx : c ≤ x := by
      rcases Nat.lt_or_ge x c with h | h
      ·have := (hI.eff x hx hE).2 h
       rw [hLx] at this; cases this
      ·exact h
     have hmax : max x c = x := by omega
     rw [hmax] at hopnd
     have hnoE : ∀ e, c ≤ e → e < x → ¬ isE P call ops a H e := fun e h1 h2 hEe => by
      have := (hI.eff e (by omega) hEe).1 (hbits e (hD.effs e x h2 hx hEe.2 hcl))
      omega
     obtain ⟨G, g1, g2, _, g4⟩ := layers hg hok hI (x - c) (by omega)
     rw [show c + (x - c) = x from by omega] at g1 g2 g4
     have hG := g4 fun j h1 h2 => ⟨hnoE j h1 h2, fun hmj => hbits j (hD.alloc j x h2 hx hmj.2 hcl)⟩
     subst hG
     have hstep := ((hok x hx).eff hE).1
     obtain ⟨m', w', v', s1, s2, s3, _⟩ := op_run hcall g1.rel hget hopnd hwant hstep b ds rest k cs
     have hstp := hl_step hg hok hx
     let M' : Mp := fun b => if b < hl P call ops a H (x + 1) then m' b else M b
     have hMlo : ∀ {b}, b < hl P call ops a H (x + 1) → M' b = m' b := fun h => if_pos h
     have hMhi : ∀ {b}, hl P call ops a H (x + 1) ≤ b → M' b = M b := fun h => if_neg (by omega)
     have hExt : Ext M M' := fun b l hb => by
      rcases Nat.lt_or_ge b (hl P call ops a H (x + 1)) with h | h
      ·rw [hMlo h]
       rcases Nat.lt_or_ge b (hl P call ops a H x) with h1 | h1
       ·exact s1.ext _ _ (rst_some.2 ⟨h1, hb⟩)
       ·rw [no_place hg hok hI hx hcx (by rw [hLx]; simp) h1 h] at hb; cases hb
      ·rw [hMhi h]; exact hb
     have hM' : rst M' (hl P call ops a H (x + 1)) = m' := by
      funext b
      unfold rst
      split
      ·exact hMlo (by assumption)
      ·cases hb : m' b with
       | none => rfl
       | some l => exact absurd (s1.rel.len b l hb) (by assumption)
     have hyx : ∀ y, y < ops.size → x + 1 ≤ y → hl P call ops a H (x + 1) ≤ hl P call ops a H y := fun y hy h => hl_mono hg hok h (by omega)
     refine ⟨M', w', _, x + 1, ⟨by omega, .inr ⟨x, rfl, hE⟩, fun e he hEe => ?_, hI.down.add hD hx hp, ?_, fun y hy hcy hLy hmy => ?_, fun b l hb => ?_, by rw [putC_size]; exact hI.size, ?_⟩, s3⟩
     ·simp only [Bool.or_eq_true, decide_eq_true_eq]
      rw [hI.eff e he hEe]
      constructor
      ·intro h; omega
      ·intro h
       rcases Nat.lt_or_ge e x with h1 | h1
       ·rcases Nat.lt_or_ge e c with h2 | h2
        ·exact .inr h2
        ·exact absurd hEe (hnoE e h2 h1)
       ·exact .inl (by omega)
     ·rw [hM']; exact g1.trans s1
     ·have hne : y ≠ x := by omega
      obtain ⟨l, B', e1, e2, e3, e4, e5, e6, e7⟩ := hI.early y hy (by omega) (by simpa [hne] using hLy) hmy
      have hhy := hyx y hy hcy
      have hnot : ¬ Owned (rst M (hl P call ops a H x)) (trH P call ops a H x) l.g := fun ⟨b, _, k, _, k2, _, k4⟩ => by
       rw [rst_some] at k2
       exact e7 b k (fun e => by omega) k2.2 k4
      refine ⟨l, B', by rw [hMhi hhy]; exact e1, e2, e3, e4.keep (rst_ext hExt (Nat.le_refl _)) fun _ => s1.keep.block _ e5 hnot, Nat.lt_of_lt_of_le e5 s1.keep.size, e6, fun b k hb hk => ?_⟩
      rcases Nat.lt_or_ge b (hl P call ops a H (x + 1)) with h | h
      ·rw [hMlo h] at hk
       rcases s1.img b k hk with ⟨c0, k0, h1, h2⟩ | h1
       ·rw [rst_some] at h1
        rw [← h2]
        exact e7 c0 k0 (fun e => by omega) h1.2
       ·omega
      ·rw [hMhi h] at hk
       exact e7 b k hb hk
     ·rcases Nat.lt_or_ge b (hl P call ops a H (x + 1)) with h | h
      ·exact .inl h
      ·rw [hMhi h] at hb
       rcases hI.dom b l hb with h1 | ⟨y, hy, hcy, hLy, hmy, rfl⟩
       ·have := hl_mono hg hok (show c ≤ x + 1 by omega) (by omega)
        omega
       ·refine .inr ⟨y, hy, ?_, by simp [hLy], hmy, rfl⟩
        rcases Nat.lt_or_ge y (x + 1) with h2 | h2
        ·have e1 := mk_hl hok hI hy hcy hLy hmy
         have := hl_mono hg hok (show y + 1 ≤ x + 1 by omega) (by omega)
         omega
        ·exact h2
     ·refine frame_put hx hD hI.frame hI.size (fun y hy => rst_ext hExt (hl_mono hg hok (by omega) (by omega))) (rst_ext hExt (hl_mono hg hok (by omega) (by omega))) ?_
      rw [show max (x + 1) (x + 1) = x + 1 from by omega, hM']
      exact s2
theorem inv_run : ∀ {l : List Nat} {L : Nat → Bool}, Topo ops L l → ∀ {M : Mp} {w : World} {tmps : Array Value} {c : Nat}, Inv P call ops a H nt m0 w0 L M w tmps c →
  ∀ b ds k cs, ∃ m' w' tmps', Sim m0 H w0 m' (trH P call ops a H ops.size) w' ∧ FR m' nt (trA P call ops a H ops.size) tmps' ∧ Steps P (lone (onF b tmps ds (.inRegion ops l :: k)) cs w) (lone (onF b tmps' ds k) cs w') := by
 intro l L hT
 induction hT with
 | nil L hall =>
   intro M w tmps c hI b ds k cs
   have hcn := hI.le
   obtain ⟨G, g1, g2, _, g4⟩ := layers hg hok hI (ops.size - c) (by omega)
   rw [show c + (ops.size - c) = ops.size from by omega] at g1 g2 g4
   have hG := g4 fun j h1 h2 => ⟨fun hE => by
    have := (hI.eff j h2 hE).1 (hall j h2)
    omega, fun _ => hall j h2⟩
   subst hG
   refine ⟨_, w, tmps, g1, ⟨hI.size, fun t ht => ?_⟩, .one st_regionEnd⟩
   obtain ⟨v', h1, h2⟩ := hI.frame t ht
   refine ⟨v', h1, ?_⟩
   rcases h2 with ⟨y, hy, hLy, hd, hv⟩ | ⟨hno, hv⟩
   ·rw [trA_wr hD hok hd _ (Nat.le_refl _) hy]
    exact hv.mono (rst_ext (.refl M) (hl_mono hg hok (by omega) (Nat.le_refl _)))
   ·rw [trA_no hok _ (Nat.le_refl _) fun y hy => hno y hy (hall y hy)]
    exact hv.mono (rst_ext (.refl M) (hl_mono hg hok hcn (Nat.le_refl _)))
 | cons L x l hx hLx hp _ ih =>
   intro M w tmps c hI b ds k cs
   obtain ⟨M', w', t', c', hI', hs⟩ := inv_step hcall hg hD hok hops hI hx hLx hp b ds l k cs
   obtain ⟨m2, w2, t2, r1, r2, r3⟩ := ih hI' b ds k cs
   exact ⟨m2, w2, t2, r1, r2, hs.trans r3⟩
end
theorem drawOK {P : Program} (hmix : P.follows .mixedOrders = true) {call : CallF} (hcall : CallOK P call) (hg : CallGrow call) (nt : Nat) : DrawOK P call nt := by
 intro ops hops hdr a H a' H' h m w tmps t hR hf
 have hD := DrawF.of hdr
 rw [List.range_eq_range'] at h
 obtain ⟨⟨rfl, rfl⟩, hok⟩ := trace (P := P) (call := call) (ops := ops) (a := a) (H := H) (bef := Region.before ops) ops.size 0 (by omega) h
 have hI : Inv P call ops a H nt m w (fun _ => false) m w tmps 0 := by
  have hself : rst m (hl P call ops a H 0) = m := rst_self hR.len
  refine ⟨Nat.zero_le _, .inl rfl, fun e _ _ => by simp, fun j _ hj => by simp at hj, ?_, fun x _ _ hL => by simp at hL, fun b l hb => .inl (hR.len b l hb), hf.1, fun t ht => ?_⟩
  ·rw [hself]; exact .refl hR
  ·obtain ⟨v', h1, h2⟩ := hf.2 t ht
   exact ⟨v', h1, .inr ⟨fun _ _ hL => by simp at hL, by rw [hself]; exact h2⟩⟩
 rw [hmix]
 have : Region.schedule true ops t = Region.linearise .any ops t := by simp [Region.schedule]
 rw [this]
 exact inv_run hcall hg hD (fun j hj => hok j (Nat.zero_le _) hj) hops (linearise_topo hD.pre t) hI
end Go.Abs
namespace Go.Abs
def mark (r : Nat) : Deferred := { target := .collected r, args := #[] }
inductive Marks (lo : Nat) (m : Mp) (H : Heap) (w : World) : List Deferred → Prop
 | nil : lo ≤ w.heap.size → Marks lo m H w []
 | cons (r : Nat) (ds : List Deferred) : lo ≤ r → w.heap[r]? = some (.deferred (some [])) → ¬ Owned m H r → mark r ∉ ds → Marks lo m H w ds → Marks lo m H w (mark r :: ds)
theorem Marks.le {lo : Nat} {m : Mp} {H : Heap} {w : World} {ds : List Deferred} (h : Marks lo m H w ds) : lo ≤ w.heap.size := by
 induction h with
 | nil h => exact h
 | cons _ _ _ _ _ _ _ ih => exact ih
theorem Marks.sim {lo : Nat} {m m' : Mp} {H H' : Heap} {w w' : World} {ds : List Deferred} (h : Marks lo m H w ds) (hs : Sim m H w m' H' w') : Marks lo m' H' w' ds := by
 induction h with
 | nil h => exact .nil (Nat.le_trans h hs.keep.size)
 | cons r ds h0 h1 h2 h3 _ ih =>
   have hlt : r < w.heap.size := by
    rcases Nat.lt_or_ge r w.heap.size with hlt | hge
    ·exact hlt
    ·rw [Array.getElem?_eq_none hge] at h1; cases h1
   refine .cons r ds h0 ((hs.keep.block r hlt h2).trans h1) (fun ho => ?_) h3 ih
   rcases hs.fresh r ho with ho | ho
   ·exact h2 ho
   ·omega
def RdR (m : Mp) (b : Frame) : Option Nat → Prop
 | none => b.roundOf = none
 | some L => ∃ l, m L = some l ∧ b.roundOf = some l.g
theorem RdR.mono {m m' : Mp} (hm : Ext m m') {b : Frame} {rd : Option Nat} (h : RdR m b rd) : RdR m' b rd := by
 cases rd with
 | none => exact h
 | some L => obtain ⟨l, h1, h2⟩ := h; exact ⟨l, hm _ _ h1, h2⟩
def Arrive (P : Program) (b : Frame) (tmps : Array Value) (ds : List Deferred) (c : Code) (k : List Item) (cs : List Frame) (w : World) (x : X) (tmps' : Array Value) (ds' : List Deferred) (w' : World) : Prop :=
 match x with
 | .normal => Steps P (lone (onF b tmps ds (.code c :: k)) cs w) (lone (onF b tmps' ds' k) cs w')
 | .exit id => ∃ k', exitTo id k' = exitTo id k ∧ Steps P (lone (onF b tmps ds (.code c :: k)) cs w) (lone (onF b tmps' ds' (.code (.exit id) :: k')) cs w')
 | .ret => ∃ k', Steps P (lone (onF b tmps ds (.code c :: k)) cs w) (lone (onF b tmps' ds' (.code .ret :: k')) cs w')
section
variable {P : Program} {call : CallF} {nt lo : Nat}
theorem Owned.lt {m : Mp} {H : Heap} {w : World} (hR : Rel m H w) {g : Nat} (h : Owned m H g) : g < w.heap.size := by
 obtain ⟨b, x, l, h1, h2, h3, rfl⟩ := h
 exact (hR.blk b x l h1 h2).lt (by cases x <;> first | rfl | cases h3)
def OutC (P : Program) (nt lo : Nat) (b : Frame) (rd : Option Nat) (c : Code) (m : Mp) (H : Heap) (w : World) (tmps : Array Value) (ds : List Deferred) (x : X) (a' : Fr) (H' : Heap) : Prop :=
 ∀ k cs, ∃ m' w' tmps' ds', Sim m H w m' H' w' ∧ FR m' nt a' tmps' ∧ Marks lo m' H' w' ds' ∧ (rd ≠ none → ds' = []) ∧ Arrive P b tmps ds c k cs w x tmps' ds' w'
theorem range_sim (hcall : CallOK P call) (b : Frame) (rd : Option Nat) {f : Operand} {params : Array Tmp} {assign body : Code} (hok : codeOk nt (.rangeFunc f params assign body) = true) {kk : Nat} {a a' : Fr} {H H' : Heap} {x : X}
  (h : evCode P call kk nt rd (.rangeFunc f params assign body) a H = some (x, a', H')) {m : Mp} {w : World} {tmps : Array Value} {ds : List Deferred} (hR : Rel m H w) (hf : FR m nt a tmps) (hM : Marks lo m H w ds) (hrd : RdR m b rd) (hds : rd ≠ none → ds = []) :
  OutC P nt lo b rd (.rangeFunc f params assign body) m H w tmps ds x a' H' := by
 intro k cs
 simp only [codeOk, Bool.and_eq_true] at hok
 obtain ⟨⟨⟨hokf, hokp⟩, hoka⟩, hokb⟩ := hok
 simp only [evCode] at h
 split at h
 case isFalse => cases h
 rename_i hrdok
 split at h
 case h_2 => cases h
 rename_i v H2 hc
 split at h
 case h_2 => cases h
 rename_i st pend nt2 t2 p2 a2 b2 hloop
 split at h
 ·cases h
 rename_i hst
 split at h
 case h_2 => cases h
 rename_i xx hj
 injection h with h; injection h with h1 h2; injection h2 with h2 h3
 subst h1; subst h2; subst h3
 -- the loop's block is laid
 have lay : ∃ (w1 : World) (dr g : Nat) (mk : List Deferred), (Instr.enterLoop b.fn tmps params assign body b.roundOf).run P w = .ok (g, mk) w1 ∧ Sim m H w (psh m H.length ⟨g, 0, 0⟩) (H ++ [.loop .ready none nt a params.toList assign body]) w1 ∧
   Marks lo (psh m H.length ⟨g, 0, 0⟩) (H ++ [.loop .ready none nt a params.toList assign body]) w1 (mk ++ ds) ∧ (rd ≠ none → mk = []) := by
  cases rd with
  | none =>
    have hb : b.roundOf = none := hrd
    have s1 := Sim.junk hR (.deferred (some []))
    have hf1 := hf.mono s1.ext
    have s2 := Sim.push s1.rel (.loop { state := .ready, pending := none, fn := b.fn, tmps := tmps, params := params, assign := assign, body := body, defers := w.heap.size }) (.loop .ready none nt a params.toList assign body)
     ⟨(w.heap.push (.deferred (some []))).size, 0, 0⟩ rfl rfl ⟨b.fn, w.heap.size, tmps, by simp only; rw [Array.getElem?_push, if_pos rfl], hf.mono (.push _ hR.free), hoka, hokb, by simpa using hokp⟩
    refine ⟨_, w.heap.size, _, [mark w.heap.size], ?_, s1.trans s2, ?_, fun h => absurd rfl h⟩
    ·rw [hb]; rfl
    ·have hM2 := hM.sim (s1.trans s2)
     refine .cons _ _ hM.le ?_ ?_ ?_ hM2
     ·simp only
      rw [Array.getElem?_push, if_neg (by simp), heap_push_eq]
     ·rintro ⟨c, y, l, q1, q2, q3, q4⟩
      by_cases hcl : c = H.length
      ·subst hcl
       rw [psh_new] at q2
       injection q2 with q2
       subst q2
       simp at q4
      ·have hlt : c < H.length := by have := lt_of_get q1; simp at this; omega
       rw [List.getElem?_append_left hlt] at q1
       rw [psh_old _ hcl] at q2
       have := Owned.lt hR ⟨c, y, l, q1, q2, q3, q4⟩
       omega
     ·intro hin
      have : ∀ ds, Marks lo m H w ds → mark w.heap.size ∉ ds := by
       intro ds hM
       induction hM with
       | nil _ => simp
       | cons r ds h0 h1 h2 h3 h4 ih =>
         intro hin
         rcases List.mem_cons.1 hin with e | e
         ·have : w.heap.size = r := by unfold mark at e; injection e with e _; injection e
          rw [← this] at h1
          simp at h1
         ·exact ih e
      exact this ds hM hin
  | some L =>
    obtain ⟨l, hl, hb⟩ := hrd
    unfold rdOk at hrdok
    simp only at hrdok
    split at hrdok
    ·rename_i st0 pd0 nt0 tm0 pr0 as0 bd0 hL
     obtain ⟨fn0, dd, tt, q1, _⟩ := hR.blk L _ l hL hl
     have s2 := Sim.push hR (.loop { state := .ready, pending := none, fn := b.fn, tmps := tmps, params := params, assign := assign, body := body, defers := dd }) (.loop .ready none nt a params.toList assign body)
      ⟨w.heap.size, 0, 0⟩ rfl rfl ⟨b.fn, dd, tmps, by simp only; rw [Array.getElem?_push, if_pos rfl], hf.mono (.push _ hR.free), hoka, hokb, by simpa using hokp⟩
     refine ⟨_, 0, _, [], ?_, s2, hM.sim s2, fun _ => rfl⟩
     simp [Instr.enterLoop, hb, Instr.getLoop, getObj, newObj, Sem.run, q1]
    ·cases hrdok
 obtain ⟨w1, _, g, mk, hrun, hs1, hM1, hmk⟩ := lay
 have hloc : psh m H.length ⟨g, 0, 0⟩ H.length = some (⟨g, 0, 0⟩ : Loc) := getLast_loc hR _
 have hfv := (hf.mono hs1.ext).opnd (x := f) hokf
 obtain ⟨nx, sf, c1, c2, c3⟩ := hcall _ _ _ _ _ hc (psh m H.length ⟨g, 0, 0⟩) w1 (evC tmps f) #[.func (.yield g) #[] #[]] hs1.rel hfv (.cons (.a (.s (.yield _ _ hloc))) .nil)
 obtain ⟨m2, w2, v', c3, c4, c5⟩ := c3 (onF b tmps (mk ++ ds) (.inRangeFunc g :: k)) cs
 have hloc2 := c3.ext _ _ hloc
 obtain ⟨fn2, dd2, tm2, e1, _⟩ := c3.rel.blk H.length _ _ hloop hloc2
 have hs3 := Sim.setObj (o := .loop { state := .exhausted, pending := pend, fn := fn2, tmps := tm2, params := p2.toArray, assign := a2, body := b2, defers := dd2 }) c3.rel hloop hloc2 rfl (.dead _) (fun _ _ _ e => by cases e) trivial
 have hsim := (hs1.trans c3).trans hs3
 refine ⟨m2, _, tmps, mk ++ ds, hsim, hf.mono hsim.ext, (hM1.sim c3).sim hs3, fun h => by rw [hmk h, hds h]; rfl, ?_⟩
 -- the steps
 have step1 : step P (lone (onF b tmps ds (.code (.rangeFunc f params assign body) :: k)) cs w) = .next (lone sf (onF b tmps (mk ++ ds) (.inRangeFunc g :: k) :: cs) w1) := by
  refine step_lone_go ?_
  have hev := onF_eval b tmps (mk ++ ds) (.inRangeFunc g :: k)
  simp only [onF] at hev
  have hinv : (do let d ← resolve (evC tmps) { callee := .value f, args := #[.const (.func (.yield g) #[] #[])], argTypes := #[] } 0; invoke d.target d.args : Sem Next).run P w1 = .ok nx w1 := by
   simpa [resolve, evC] using c1
  simp only [stepG, stepG.exec, onF, Sem.runT_eq, hrun, GStep.bare_after, hev]
  cases c2 with
  | enter f' args' => simp [stepG.apply, hinv]
  | round l' f' t' a' b' => simp [stepG.apply, hinv]
 have hfin : (onF b tmps (mk ++ ds) (.inRangeFunc g :: k)).finish v' = onF b tmps (mk ++ ds) (.endRangeFunc g :: k) := rfl
 have step2 : step P (lone (onF b tmps (mk ++ ds) (.endRangeFunc g :: k)) cs w2) = .next (lone (onF b tmps (mk ++ ds) ((pend.map Item.code).toList ++ k)) cs
   { w2 with heap := w2.heap.setIfInBounds g (.loop { state := .exhausted, pending := pend, fn := fn2, tmps := tm2, params := p2.toArray, assign := a2, body := b2, defers := dd2 }) }) := by
  refine step_lone_go ?_
  have hend : (Instr.endLoop g).run P w2 = .ok pend { w2 with heap := w2.heap.setIfInBounds g (.loop { state := .exhausted, pending := pend, fn := fn2, tmps := tm2, params := p2.toArray, assign := a2, body := b2, defers := dd2 }) } := by
   simp only at e1
   simp [Instr.endLoop, Instr.getLoop, getObj, setObj, Sem.run, e1]
   exact fun e => absurd e hst
  simp only [stepG, stepG.exec, onF, Sem.runT_eq, hend, GStep.bare_after]
  rfl
 have steps : Steps P (lone (onF b tmps ds (.code (.rangeFunc f params assign body) :: k)) cs w) (lone (onF b tmps (mk ++ ds) ((pend.map Item.code).toList ++ k)) cs _) :=
  .head step1 (c5.trans (by rw [hfin]; exact .one step2))
 cases pend with
 | none => simp only [jumpX] at hj; injection hj with hj; subst hj; exact steps
 | some j =>
   cases j <;> first | (simp only [jumpX] at hj; cases hj; done) | skip
   ·simp only [jumpX] at hj; injection hj with hj; subst hj; exact ⟨k, rfl, steps⟩
   ·simp only [jumpX] at hj; injection hj with hj; subst hj; exact ⟨k, steps⟩
theorem exitTo_pass {id : Nat} {x : Item} {k : List Item} (hx : x.plain = true) : exitTo id (x :: k) = exitTo id k := by cases x <;> first | rfl | cases hx
theorem loop_sim (b : Frame) (rd : Option Nat) {c : Code} {f : Fr → Heap → Option (X × Fr × Heap)} (hc : ∀ {a a' : Fr} {H H' : Heap} {x : X} {m : Mp} {w : World} {tmps : Array Value} {ds : List Deferred}, f a H = some (x, a', H') → Rel m H w → FR m nt a tmps → Marks lo m H w ds → RdR m b rd →
  (rd ≠ none → ds = []) → OutC P nt lo b rd c m H w tmps ds x a' H') : ∀ (n : Nat) {a a' : Fr} {H H' : Heap} {x : X} {m : Mp} {w : World} {tmps : Array Value} {ds : List Deferred}, loopN f n a H = some (x, a', H') → Rel m H w → FR m nt a tmps → Marks lo m H w ds → RdR m b rd →
  (rd ≠ none → ds = []) → ∀ k cs, ∃ m' w' tmps' ds', Sim m H w m' H' w' ∧ FR m' nt a' tmps' ∧ Marks lo m' H' w' ds' ∧ (rd ≠ none → ds' = []) ∧ match x with
   | .normal => False
   | .exit id => ∃ k', exitTo id k' = exitTo id k ∧ Steps P (lone (onF b tmps ds (.code c :: .inLoop c :: k)) cs w) (lone (onF b tmps' ds' (.code (.exit id) :: k')) cs w')
   | .ret => ∃ k', Steps P (lone (onF b tmps ds (.code c :: .inLoop c :: k)) cs w) (lone (onF b tmps' ds' (.code .ret :: k')) cs w') := by
 intro n
 induction n with
 | zero => intro a a' H H' x m w tmps ds h; simp [loopN] at h
 | succ n ih =>
   intro a a' H H' x m w tmps ds h hR hf hM hrd hds k cs
   rw [loopN] at h
   split at h
   ·rename_i a1 H1 h1
    obtain ⟨m1, w1, t1, d1, s1, s2, s3, s4, s5⟩ := hc h1 hR hf hM hrd hds (.inLoop c :: k) cs
    obtain ⟨m2, w2, t2, d2, q1, q2, q3, q4, q5⟩ := ih h s1.rel s2 s3 (hrd.mono s1.ext) s4 k cs
    refine ⟨m2, w2, t2, d2, s1.trans q1, q2, q3, q4, ?_⟩
    have hs := s5
    simp only [Arrive] at hs
    have hq := q5
    have hs' := hs.trans (.one st_inLoop)
    cases x with
    | normal => exact hq
    | exit id => obtain ⟨k', e1, e2⟩ := hq; exact ⟨k', e1, hs'.trans e2⟩
    | ret => obtain ⟨k', e2⟩ := hq; exact ⟨k', hs'.trans e2⟩
   ·rename_i hne
    obtain ⟨m1, w1, t1, d1, s1, s2, s3, s4, s5⟩ := hc h hR hf hM hrd hds (.inLoop c :: k) cs
    refine ⟨m1, w1, t1, d1, s1, s2, s3, s4, ?_⟩
    have hs := s5
    cases x with
    | normal => exact hne _ _ h
    | exit id => obtain ⟨k', e1, e2⟩ := hs; exact ⟨k', by rw [e1, exitTo_pass rfl], e2⟩
    | ret => obtain ⟨k', e2⟩ := hs; exact ⟨k', e2⟩
theorem code_sim (hcall : CallOK P call) (hdraw : DrawOK P call nt) (b : Frame) (rd : Option Nat) (kk : Nat) : ∀ (c : Code), codeOk nt c = true → ∀ {a a' : Fr} {H H' : Heap} {x : X} {m : Mp} {w : World} {tmps : Array Value} {ds : List Deferred},
  evCode P call kk nt rd c a H = some (x, a', H') → Rel m H w → FR m nt a tmps → Marks lo m H w ds → RdR m b rd → (rd ≠ none → ds = []) → OutC P nt lo b rd c m H w tmps ds x a' H' := by
 intro c
 induction c with
 | skip =>
   intro _ a a' H H' x m w tmps ds h hR hf hM hrd hds k cs
   simp only [evCode] at h
   injection h with h; injection h with h1 h2; injection h2 with h2 h3; subst h1; subst h2; subst h3
   exact ⟨m, w, tmps, ds, .refl hR, hf, hM, hds, Steps.one st_skip⟩
 | label l =>
   intro _ a a' H H' x m w tmps ds h hR hf hM hrd hds k cs
   simp only [evCode] at h
   injection h with h; injection h with h1 h2; injection h2 with h2 h3; subst h1; subst h2; subst h3
   exact ⟨m, w, tmps, ds, .refl hR, hf, hM, hds, Steps.one st_label⟩
 | region id ops draw =>
   intro hok a a' H H' x m w tmps ds h hR hf hM hrd hds k cs
   simp only [codeOk, Bool.and_eq_true] at hok
   have hops : ∀ o ∈ ops.toList, operOk nt o = true := List.all_eq_true.1 hok.1
   cases draw with
   | false =>
     simp only [evCode] at h
     split at h
     ·rename_i a1 H1 h1
      injection h with h; injection h with h1 h2; injection h2 with h2 h3; subst h1; subst h2; subst h3
      obtain ⟨m1, w1, t1, s1, s2, s3⟩ := ops_sim hcall hops ops.toList 0 rfl hR hf h1 b ds k cs
      refine ⟨m1, w1, t1, ds, s1, s2, hM.sim s1, hds, ?_⟩
      refine .head st_region ?_
      have := s3
      rw [List.range_eq_range']
      simpa using this
     ·cases h
   | true =>
     simp only [evCode] at h
     split at h
     ·rename_i a1 H1 h1
      injection h with h; injection h with h1 h2; injection h2 with h2 h3; subst h1; subst h2; subst h3
      have hj : Sim m H w m H { w with drawn := w.drawn + 1 } := ⟨.refl m, hR.world fun _ _ => rfl, ⟨rfl, rfl, rfl, Nat.le_refl _, fun _ _ _ => rfl, Nat.le_succ _⟩, fun _ h => .inl h, Nat.le_refl _, fun b l h => .inl ⟨b, l, h, rfl⟩⟩
      obtain ⟨m1, w1, t1, s1, s2, s3⟩ := hdraw ops hops (by simpa using hok.2) _ _ _ _ h1 m { w with drawn := w.drawn + 1 } tmps (w.tape w.drawn (.order b.fn id)) hj.rel hf b ds k cs
      exact ⟨m1, w1, t1, ds, hj.trans s1, s2, hM.sim (hj.trans s1), hds, Steps.head st_draw s3⟩
     ·cases h
 | seq c d ihc ihd =>
   intro hok a a' H H' x m w tmps ds h hR hf hM hrd hds k cs
   simp only [codeOk, Bool.and_eq_true] at hok
   simp only [evCode] at h
   split at h
   ·rename_i a1 H1 h1
    obtain ⟨m1, w1, t1, d1, s1, s2, s3, s4, s5⟩ := ihc hok.1 h1 hR hf hM hrd hds (.code d :: k) cs
    obtain ⟨m2, w2, t2, d2, q1, q2, q3, q4, q5⟩ := ihd hok.2 h s1.rel s2 s3 (hrd.mono s1.ext) s4 k cs
    refine ⟨m2, w2, t2, d2, s1.trans q1, q2, q3, q4, ?_⟩
    have hs : Steps P _ _ := s5
    have hs' := Steps.head (st_seq (P := P)) hs
    have hq := q5
    cases x with
    | normal => exact hs'.trans hq
    | exit id => obtain ⟨k', e1, e2⟩ := hq; exact ⟨k', e1, hs'.trans e2⟩
    | ret => obtain ⟨k', e2⟩ := hq; exact ⟨k', hs'.trans e2⟩
   ·rename_i hne
    obtain ⟨m1, w1, t1, d1, s1, s2, s3, s4, s5⟩ := ihc hok.1 h hR hf hM hrd hds (.code d :: k) cs
    refine ⟨m1, w1, t1, d1, s1, s2, s3, s4, ?_⟩
    have hs := s5
    cases x with
    | normal => exact absurd h (hne _ _)
    | exit id => obtain ⟨k', e1, e2⟩ := hs; exact ⟨k', by rw [e1, exitTo_pass rfl], .head st_seq e2⟩
    | ret => obtain ⟨k', e2⟩ := hs; exact ⟨k', .head st_seq e2⟩
 | cond c x y ihx ihy =>
   intro hok a a' H H' xx m w tmps ds h hR hf hM hrd hds k cs
   simp only [codeOk, Bool.and_eq_true] at hok
   simp only [evCode] at h
   have hc := hf.opnd (x := c) hok.1.1
   split at h
   ·rename_i hb
    rw [hb] at hc
    obtain ⟨m1, w1, t1, d1, s1, s2, s3, s4, s5⟩ := ihx hok.1.2 h hR hf hM hrd hds k cs
    refine ⟨m1, w1, t1, d1, s1, s2, s3, s4, ?_⟩
    have hs := s5
    have hst := st_cond (P := P) (b := b) (ds := ds) (k := k) (cs := cs) (w := w) (x := x) (y := y) hc.bool_
    cases xx with
    | normal => exact .head hst hs
    | exit id => obtain ⟨k', e1, e2⟩ := hs; exact ⟨k', e1, .head hst e2⟩
    | ret => obtain ⟨k', e2⟩ := hs; exact ⟨k', .head hst e2⟩
   ·rename_i hb
    rw [hb] at hc
    obtain ⟨m1, w1, t1, d1, s1, s2, s3, s4, s5⟩ := ihy hok.2 h hR hf hM hrd hds k cs
    refine ⟨m1, w1, t1, d1, s1, s2, s3, s4, ?_⟩
    have hs := s5
    have hst := st_cond (P := P) (b := b) (ds := ds) (k := k) (cs := cs) (w := w) (x := x) (y := y) hc.bool_
    cases xx with
    | normal => exact .head hst hs
    | exit id => obtain ⟨k', e1, e2⟩ := hs; exact ⟨k', e1, .head hst e2⟩
    | ret => obtain ⟨k', e2⟩ := hs; exact ⟨k', .head hst e2⟩
   ·cases h
 | block id c ih =>
   intro hok a a' H H' x m w tmps ds h hR hf hM hrd hds k cs
   simp only [codeOk] at hok
   simp only [evCode] at h
   split at h
   ·rename_i i a1 H1 h1
    obtain ⟨m1, w1, t1, d1, s1, s2, s3, s4, s5⟩ := ih hok h1 hR hf hM hrd hds (.inBlock id :: k) cs
    split at h
    ·rename_i hi
     subst hi
     injection h with h; injection h with h1 h2; injection h2 with h2 h3; subst h1; subst h2; subst h3
     refine ⟨m1, w1, t1, d1, s1, s2, s3, s4, ?_⟩
     obtain ⟨k', e1, e2⟩ := s5
     have e3 : exitTo i k' = some k := by rw [e1]; simp [exitTo]
     exact .head st_block (e2.trans (.one (st_exit e3)))
    ·rename_i hi
     injection h with h; injection h with h1 h2; injection h2 with h2 h3; subst h1; subst h2; subst h3
     refine ⟨m1, w1, t1, d1, s1, s2, s3, s4, ?_⟩
     obtain ⟨k', e1, e2⟩ := s5
     refine ⟨k', ?_, .head st_block e2⟩
     rw [e1]
     have : (id == i) = false := by simp; exact fun e => hi e.symm
     simp [exitTo, this]
   ·rename_i hne
    obtain ⟨m1, w1, t1, d1, s1, s2, s3, s4, s5⟩ := ih hok h hR hf hM hrd hds (.inBlock id :: k) cs
    refine ⟨m1, w1, t1, d1, s1, s2, s3, s4, ?_⟩
    have hs := s5
    cases x with
    | normal => exact .head st_block (Steps.trans hs (.one st_inBlock))
    | exit id' => exact absurd h (hne _ _ _)
    | ret => obtain ⟨k', e2⟩ := hs; exact ⟨k', .head st_block e2⟩
 | loop c ih =>
   intro hok a a' H H' x m w tmps ds h hR hf hM hrd hds k cs
   simp only [codeOk] at hok
   simp only [evCode] at h
   obtain ⟨m1, w1, t1, d1, s1, s2, s3, s4, s5⟩ := loop_sim (P := P) (nt := nt) b rd (c := c) (fun h hR hf hM hrd hds => ih hok h hR hf hM hrd hds) kk h hR hf hM hrd hds k cs
   refine ⟨m1, w1, t1, d1, s1, s2, s3, s4, ?_⟩
   have hs := s5
   cases x with
   | normal => exact hs.elim
   | exit id => obtain ⟨k', e1, e2⟩ := hs; exact ⟨k', e1, .head st_loop e2⟩
   | ret => obtain ⟨k', e2⟩ := hs; exact ⟨k', .head st_loop e2⟩
 | rangeFunc f params assign body _ _ =>
   intro hok a a' H H' x m w tmps ds h hR hf hM hrd hds k cs
   exact range_sim hcall b rd hok h hR hf hM hrd hds k cs
 | exit id =>
   intro _ a a' H H' x m w tmps ds h hR hf hM hrd hds k cs
   simp only [evCode] at h
   injection h with h; injection h with h1 h2; injection h2 with h2 h3; subst h1; subst h2; subst h3
   exact ⟨m, w, tmps, ds, .refl hR, hf, hM, hds, ⟨k, rfl, .refl _ _⟩⟩
 | ret =>
   intro _ a a' H H' x m w tmps ds h hR hf hM hrd hds k cs
   simp only [evCode] at h
   injection h with h; injection h with h1 h2; injection h2 with h2 h3; subst h1; subst h2; subst h3
   exact ⟨m, w, tmps, ds, .refl hR, hf, hM, hds, ⟨k, .refl _ _⟩⟩
 | scope c _ => intro _ a a' H H' x m w tmps ds h; simp [evCode] at h
 | goto l => intro _ a a' H H' x m w tmps ds h; simp [evCode] at h
 | refuse s => intro _ a a' H H' x m w tmps ds h; simp [evCode] at h
end
end Go.Abs
namespace Go.Abs
section
variable {P : Program}
theorem st_takeMark {b : Frame} {tmps : Array Value} {r : Nat} {ds : List Deferred} {todo : List Item} {cs : List Frame} {w : World} (h : w.heap[r]? = some (.deferred (some []))) :
  step P (lone { onF b tmps (mark r :: ds) todo with mode := .returning } cs w) = .next (lone { onF b tmps ds todo with mode := .returning } cs { w with heap := w.heap.setIfInBounds r (.deferred none) }) := by
 refine step_lone_go ?_
 have hrun : (Instr.takeDeferred r).run P w = .ok [] { w with heap := w.heap.setIfInBounds r (.deferred none) } := by simp [Instr.takeDeferred, getObj, setObj, Sem.run, h]
 simp [stepG, unwind, onF, mark, hrun]
theorem BR.obj {m : Mp} {w : World} {l : Loc} {x : Blk} (h : BR m w l x) (hl : x.live = true) {ds : Option (List Deferred)} : w.heap[l.g]? ≠ some (.deferred ds) := by
 intro hd
 cases x with
 | dead => cases hl
 | cells f own cs => obtain ⟨C, el, fr, h, _⟩ := h; rw [hd] at h; injection h with h; cases h
 | map es => obtain ⟨es', ck, h, _⟩ := h; rw [hd] at h; injection h with h; cases h
 | loop st pend nt tmps params assign body => obtain ⟨fn, ds, tmps', h, _⟩ := h; rw [hd] at h; injection h with h; cases h
theorem take_marks {lo : Nat} {m : Mp} {H : Heap} : ∀ (ds : List Deferred) {w : World}, Marks lo m H w ds → Rel m H w →
  ∃ w', (∀ (b : Frame) (tmps : Array Value) (todo : List Item) cs, Steps P (lone { onF b tmps ds todo with mode := .returning } cs w) (lone { onF b tmps [] todo with mode := .returning } cs w')) ∧ Rel m H w' ∧ w'.os = w.os ∧ w'.tape = w.tape ∧ w'.output = w.output ∧ w'.heap.size = w.heap.size ∧
    (∀ g, g < lo → w'.heap[g]? = w.heap[g]?) ∧ w'.drawn = w.drawn := by
 intro ds
 induction ds with
 | nil => intro w _ hR; exact ⟨w, fun _ _ _ cs => .refl _ _, hR, rfl, rfl, rfl, rfl, fun _ _ => rfl, rfl⟩
 | cons d ds ih =>
   intro w hM hR
   cases hM with
   | cons r _ h0 h1 h2 h3 hM =>
     let w1 : World := { w with heap := w.heap.setIfInBounds r (.deferred none) }
     have hget : ∀ g, g ≠ r → w1.heap[g]? = w.heap[g]? := fun g hg => by simp only [w1]; rw [Array.getElem?_setIfInBounds, if_neg (fun e => hg e.symm)]
     have hR1 : Rel m H w1 := ⟨hR.len, hR.has, fun c l hc => by simpa [w1] using hR.bnd c l hc, fun c x l hx hl => (hR.blk c x l hx hl).keep (.refl m) fun hlv => hget _ fun e => (hR.blk c x l hx hl).obj hlv (by rw [e]; exact h1), hR.sep⟩
     have hM1 : Marks lo m H w1 ds := by
      have : ∀ ds', mark r ∉ ds' → Marks lo m H w ds' → Marks lo m H w1 ds' := by
       intro ds' hn hM'
       induction hM' with
       | nil h => exact .nil (by simpa [w1] using h)
       | cons q es g0 g1 g2 g3 _ ih' =>
         have hq : q ≠ r := fun e => hn (by rw [e]; exact List.mem_cons_self ..)
         exact .cons q es g0 ((hget q hq).trans g1) g2 g3 (ih' fun h => hn (List.mem_cons_of_mem _ h))
      exact this ds h3 hM
     obtain ⟨w', k1, k2, k3, k4, k5, k6, k7, k8⟩ := ih hM1 hR1
     refine ⟨w', fun b t td cs => .head (st_takeMark h1) (k1 b t td cs), k2, k3, k4, k5, by rw [k6]; simp [w1], fun g hg => (k7 g hg).trans (hget g (by omega)), k8⟩
theorem st_end {b : Frame} {tmps : Array Value} {ds : List Deferred} {cs : List Frame} {w : World} (hb : b.roundOf = none) : step P (lone (onF b tmps ds []) cs w) = .next (lone { onF b tmps ds [] with mode := .returning } cs w) :=
 step_lone_go (by simp [stepG, stepG.exec, onF, hb])
theorem st_ret {b : Frame} {tmps : Array Value} {ds : List Deferred} {k : List Item} {cs : List Frame} {w : World} (hb : b.roundOf = none) : step P (lone (onF b tmps ds (.code .ret :: k)) cs w) = .next (lone { onF b tmps ds (.code .ret :: k) with mode := .returning } cs w) :=
 step_lone_go (by simp [stepG, stepG.exec, onF, hb])
def resOne (tmps : Array Value) : ResultVar → Sem Value
 | .tmp t => pure (tmps.getD t undef)
 | .cell c t => do loadVar t (← asAddr (tmps.getD c undef))
theorem results_eq (fn : Func) (tmps : Array Value) : results fn tmps = (do let vs ← fn.results.mapM (resOne tmps); pure (if h : vs.size = 1 then vs[0] else .tuple vs)) := by
 unfold results
 congr 2
theorem resList_sound {m : Mp} {H : Heap} {w : World} {nt : Nat} {a : Fr} {tmps : Array Value} (hR : Rel m H w) (hf : FR m nt a tmps) : ∀ {rs : List ResultVar} {vs : List Value}, rs.all (resOk nt) = true → resList P a H rs = some vs →
  ∃ vs', (rs.mapM (resOne tmps)).run P w = .ok vs' w ∧ All2 (AR m) vs vs' := by
 intro rs
 induction rs with
 | nil => intro vs _ h; simp only [resList] at h; injection h with h; subst h; exact ⟨[], rfl, .nil⟩
 | cons r rs ih =>
   intro vs hok h
   simp only [List.all_cons, Bool.and_eq_true] at hok
   have one : ∀ {v' : Value} {vs' : List Value}, (resOne tmps r).run P w = .ok v' w → (rs.mapM (resOne tmps)).run P w = .ok vs' w → ((r :: rs).mapM (resOne tmps)).run P w = .ok (v' :: vs') w := by
    intro v' vs' h1 h2
    simp only [List.mapM_cons, Sem.run_bind, h1, Result.andThen_ok, h2, Sem.run_pure]
   cases r with
   | tmp t =>
     simp only [resList] at h
     split at h
     ·rename_i cs hs
      cases hr : resList P a H rs with
      | none => rw [hr] at h; cases h
      | some us =>
        rw [hr] at h
        simp only [Option.map_some] at h
        injection h with h
        subst h
        obtain ⟨vs', h1, h2⟩ := ih hok.2 hr
        have ht : t < nt := by simpa [resOk] using hok.1
        exact ⟨tmps.getD t undef :: vs', one rfl h1, .cons (scal_rel hs (hf.tmp ht)).2 h2⟩
     ·cases h
   | cell t ty =>
     simp only [resList] at h
     split at h
     ·rename_i v us hv hr
      injection h with h
      subst h
      obtain ⟨vs', h1, h2⟩ := ih hok.2 hr
      have ht : t < nt := by simpa [resOk] using hok.1
      obtain ⟨r', h3, h4⟩ := loadA_sound (P := P) hR hv (hf.tmp ht)
      refine ⟨r' :: vs', one ?_ h1, .cons h4 h2⟩
      have hp : ∃ ad, tmps.getD t undef = .pointer (some ad) := by
       have hx := hf.tmp ht
       unfold loadA at hv
       split at hv
       ·rename_i b o hat
        rw [hat] at hx
        obtain ⟨l, _, e⟩ := hx.ptr_
        exact ⟨_, e⟩
       ·cases hv
      obtain ⟨ad, hp⟩ := hp
      rw [hp] at h3
      simp only [Instr.loadAt, Instr.sureAddr, Sem.run_bind, Sem.run_pure, Result.andThen_ok] at h3
      simp only [resOne, Sem.run_bind, hp, asAddr, Sem.run_pure, Result.andThen_ok, h3]
     ·cases h
theorem pack_sound {m : Mp} {vs vs' : List Value} (h : All2 (AR m) vs vs') : VR m (pack vs) (if h : vs'.toArray.size = 1 then vs'.toArray[0] else .tuple vs'.toArray) := by
 cases h with
 | nil => exact .tuple .nil
 | cons h t =>
   cases t with
   | nil => exact .a h
   | cons h' t => simp [pack]; exact .tuple (.cons h (.cons h' t))
theorem results_sound {m : Mp} {H : Heap} {w : World} {nt : Nat} {a : Fr} {tmps : Array Value} {fn : Func} {vs : List Value} (hR : Rel m H w) (hf : FR m nt a tmps) (hok : fn.results.toList.all (resOk nt) = true) (h : resList P a H fn.results.toList = some vs) :
  ∃ v', (results fn tmps).run P w = .ok v' w ∧ VR m (pack vs) v' := by
 obtain ⟨vs', h1, h2⟩ := resList_sound hR hf hok h
 refine ⟨_, ?_, pack_sound h2⟩
 have : (fn.results.mapM (resOne tmps)).run P w = .ok vs'.toArray w := by
  rw [Array.mapM_eq_mapM_toList, ← bind_pure_comp, Sem.run_bind, h1]
  rfl
 rw [results_eq]
 simp only [Sem.run_bind, this, Result.andThen_ok, Sem.run_pure]
theorem frOf_get (vs : List Value) : ∀ (t : Nat), frOf vs t = vs.getD t undef := by
 induction vs with
 | nil => intro t; simp [frOf]
 | cons v vs ih => intro t; cases t with | zero => simp [frOf] | succ t => simp [frOf, ih]
theorem frOf_rel {m : Mp} {vs vs' : List Value} {nt : Nat} (h : All2 (VR m) vs vs') (hle : vs.length ≤ nt) : FR m nt (frOf vs) (vs'.toArray ++ Array.replicate (nt - vs'.length) undef) := by
 have hl := h.length
 refine ⟨by simp; omega, fun t ht => ?_⟩
 rw [frOf_get]
 by_cases h1 : t < vs.length
 ·obtain ⟨y, h2, h3⟩ := h.get t _ (List.getElem?_eq_getElem h1)
  refine ⟨y, ?_, ?_⟩
  ·rw [Array.getElem?_append_left (by simp; omega)]
   simpa using h2
  ·rw [List.getD_eq_getElem?_getD, List.getElem?_eq_getElem h1]; exact h3
 ·refine ⟨undef, ?_, ?_⟩
  ·rw [Array.getElem?_append_right (by simp; omega), Array.getElem?_replicate, if_pos (by simp; omega)]
  ·rw [List.getD_eq_getElem?_getD, List.getElem?_eq_none (by omega)]; exact .undef m
theorem cap_rel {m : Mp} {l l' : List Value} (h : All2 (PR m) l l') : All2 (VR m) l l' := h.mono fun _ _ h => by cases h with | ptr b o l hl => exact .a (.s (.ptr b o l hl))
theorem func_sim {call : CallF} {n : Nat} (hcall : CallOK P call) (hdraw : ∀ nt, DrawOK P call nt) {f : FuncId} {fn : Func} {c : Code} (hfn : P.funcs[f]? = some fn) (hbody : fn.body = some c) (hok : funcOk fn c = true) {vs vs' : List Value} (hle : vs.length ≤ fn.ntmps)
  {H H' : Heap} {a : Fr} {x : X} (hx : x = .normal ∨ x = .ret) {rs : List Value} (hev : evCode P call n fn.ntmps none c (frOf vs) H = some (x, a, H')) (hres : resList P a H' fn.results.toList = some rs) {m : Mp} {w : World} (hR : Rel m H w) (hvs : All2 (VR m) vs vs') :
  Calls P f vs'.toArray w fun e w2 => ∃ m' v', e = .returned v' ∧ Sim m H w m' H' w2 ∧ VR m' (pack rs) v' := by
 intro cs
 unfold funcOk at hok
 simp only [Bool.and_eq_true] at hok
 let b : Frame := { (default : Frame) with fn := f, kind := .normal, roundOf := none }
 have hf := frOf_rel hvs hle
 obtain ⟨m1, w1, t1, d1, s1, s2, s3, _, s5⟩ := code_sim (lo := w.heap.size) hcall (hdraw fn.ntmps) b none n c hok.1.1 hev hR hf (.nil (Nat.le_refl _)) rfl (fun h => absurd rfl h) [] cs
 have enter : ∀ cs, lone (Frame.enter P f vs'.toArray .normal) cs w = lone (onF b (vs'.toArray ++ Array.replicate (fn.ntmps - vs'.length) undef) [] [.code c]) cs w := by
  intro cs
  simp [Frame.enter, hfn, hbody, onF, b]
 have leave : ∃ todo, Steps P (lone (Frame.enter P f vs'.toArray .normal) cs w) (lone { onF b t1 d1 todo with mode := .returning } cs w1) := by
  rcases hx with rfl | rfl
  ·exact ⟨[], by rw [enter]; exact Steps.trans s5 (.one (st_end rfl))⟩
  ·obtain ⟨k', hk⟩ := s5
   exact ⟨_, by rw [enter]; exact Steps.trans hk (.one (st_ret rfl))⟩
 obtain ⟨w2, k1, k2, k3, k4, k5, k6, k7, k8⟩ := take_marks (P := P) d1 s3 s1.rel
 have hsim : Sim m H w m1 H' w2 := ⟨s1.ext, k2, ⟨k3.trans s1.keep.os, k4.trans s1.keep.tape, k5.trans s1.keep.output, by rw [k6]; exact s1.keep.size, fun g hg hn => (k7 g hg).trans (s1.keep.block g hg hn), by rw [k8]; exact s1.keep.drawn⟩, s1.fresh, s1.grow, s1.img⟩
 obtain ⟨v', r1, r2⟩ := results_sound (P := P) k2 s2 hok.1.2 hres
 obtain ⟨todo, hs⟩ := leave
 exact ⟨.returned v', w2, _, ⟨m1, v', rfl, hsim, r2⟩, hs.trans (k1 b t1 todo cs), rfl, rfl, rfl, rfl, fn, hfn, r1⟩
theorem putAll_rel {m : Mp} {nt : Nat} : ∀ {ps : List Nat} {vs vs' : List Value} {a : Fr} {tmps : Array Value}, All2 (VR m) vs vs' → FR m nt a tmps → FR m nt (putAll a ps vs) ((ps.zip vs').foldl (fun tmps (p : Nat × Value) => tmps.setIfInBounds p.1 p.2) tmps) := by
 intro ps
 induction ps with
 | nil => intro vs vs' a tmps _ hf; cases vs <;> exact hf
 | cons p ps ih =>
   intro vs vs' a tmps hv hf
   cases hv with
   | nil => exact hf
   | cons h t => exact ih t (hf.put h p)
theorem st_begin {b : Frame} {tmps : Array Value} {ds : List Deferred} {k : List Item} {cs : List Frame} {w w' : World} {g : Nat} (hb : b.roundOf = some g) (hr : (Instr.beginRound g).run P w = .ok () w') :
  step P (lone (onF b tmps ds (.beginRound :: k)) cs w) = .next (lone (onF b tmps ds k) cs w') :=
 step_lone_go (by simp [stepG, stepG.exec, onF, hb, stepG.apply, hr, Frame.finish])
theorem st_roundEnd {b : Frame} {tmps : Array Value} {ds : List Deferred} {todo : List Item} {fr : Frame} {cs : List Frame} {w w' : World} {g : Nat} {v : Value} (jump : Option Code) (hb : b.roundOf = some g) (hk : b.kind = .normal)
  (htodo : (todo = [] ∧ jump = none) ∨ (∃ k, todo = .code .ret :: k ∧ jump = some .ret) ∨ (∃ id k, todo = .code (.exit id) :: k ∧ exitTo id k = none ∧ jump = some (.exit id)))
  (hr : (Instr.endRound g jump).run P w = .ok v w') : step P (lone (onF b tmps ds todo) (fr :: cs) w) = .next (lone (fr.finish v) cs w') := by
 refine step_lone_go ?_
 rcases htodo with ⟨rfl, rfl⟩ | ⟨k, rfl, rfl⟩ | ⟨id, k, rfl, he, rfl⟩
 ·simp [stepG, stepG.exec, onF, hb, hr, doReturn, hk]
 ·simp [stepG, stepG.exec, onF, hb, hr, doReturn, hk]
 ·simp [stepG, stepG.exec, onF, hb, hr, doReturn, hk, he]
theorem round_sim {call : CallF} {n : Nat} (hcall : CallOK P call) (hdraw : ∀ nt, DrawOK P call nt) {l nt : Nat} {assign body : Code} {H H1 H2 : Heap} {a1 a2 : Fr} {x : X} {loc : Loc} {m : Mp} {w : World} {a : Fr} {tmps : Array Value}
  (hoka : codeOk nt assign = true) (hokb : codeOk nt body = true) (f : FuncId)
  {st2 : LoopState} {pd1 pd2 : Option Code} {nt1 nt2 : Nat} {tm1 tm2 : Fr} {pr1 pr2 : List Nat} {as1 as2 bd1 bd2 : Code}
  (hR : Rel m H w) (hf : FR m nt a tmps) (hl : m l = some loc)
  (h1 : evCode P call n nt (some l) assign a H = some (.normal, a1, H1)) (hl1 : H1[l]? = some (.loop .ready pd1 nt1 tm1 pr1 as1 bd1))
  (h2 : evCode P call n nt (some l) body a1 (H1.set l (.loop .busy pd1 nt1 tm1 pr1 as1 bd1)) = some (x, a2, H2)) (hl2 : H2[l]? = some (.loop st2 pd2 nt2 tm2 pr2 as2 bd2)) :
  ∀ fr cs, ∃ m' w', Sim m H w m' (H2.set l (.loop (xState x) (xJump x) nt2 tm2 pr2 as2 bd2)) w' ∧
    Steps P (lone (Frame.round loc.g f tmps assign body .normal) (fr :: cs) w) (lone (fr.finish (.bool (xBool x))) cs w') := by
 intro fr cs
 have busySet : ∀ {mm : Mp} {HH : Heap} {ww : World} {st pd nn tm pr ays bd}, Rel mm HH ww → mm l = some loc → HH[l]? = some (.loop st pd nn tm pr ays bd) → ∀ st' pd', ∃ fn ds tm', ww.heap[loc.g]? = some (.loop { state := st, pending := pd, fn := fn, tmps := tm', params := pr.toArray, assign := ays, body := bd, defers := ds }) ∧
   Sim mm HH ww mm (HH.set l (.loop st' pd' nn tm pr ays bd)) { ww with heap := ww.heap.setIfInBounds loc.g (.loop { state := st', pending := pd', fn := fn, tmps := tm', params := pr.toArray, assign := ays, body := bd, defers := ds }) } := by
  intro mm HH ww st pd nn tm pr ays bd hRR hll hb st' pd'
  obtain ⟨fn, ds, tm', e1, e2⟩ := hRR.blk l _ loc hb hll
  refine ⟨fn, ds, tm', e1, Sim.setObj hRR hb hll rfl (.loop ..) (fun _ _ _ e => by cases e) ⟨fn, ds, tm', ?_, e2⟩⟩
  have hlt : loc.g < ww.heap.size := by
   rcases Nat.lt_or_ge loc.g ww.heap.size with hlt | hge
   ·exact hlt
   ·rw [Array.getElem?_eq_none hge] at e1; cases e1
  simp only
  rw [Array.getElem?_setIfInBounds, if_pos rfl, if_pos hlt]
 let b : Frame := { (default : Frame) with fn := f, kind := .normal, roundOf := some loc.g }
 -- the assignment to the loop's variables
 obtain ⟨m1, w1, t1, d1, s1, s2, s3, s4, s5⟩ := code_sim (lo := 0) hcall (hdraw nt) b (some l) n assign hoka h1 hR hf (.nil (Nat.zero_le _)) ⟨loc, hl, rfl⟩ (fun _ => rfl) [.beginRound, .code body] (fr :: cs)
 obtain rfl : d1 = [] := s4 (by simp)
 obtain ⟨fn1, ds1, tm1', e1, q1⟩ := busySet s1.rel (s1.ext _ _ hl) hl1 .busy pd1
 obtain ⟨m2, w2, t2, d2, r1, r2, r3, r4, r5⟩ := code_sim (lo := 0) hcall (hdraw nt) b (some l) n body hokb h2 q1.rel s2 (.nil (Nat.zero_le _)) ⟨loc, s1.ext _ _ hl, rfl⟩ (fun _ => rfl) [] (fr :: cs)
 obtain rfl : d2 = [] := r4 (by simp)
 have hl2' := r1.ext _ _ (s1.ext _ _ hl)
 obtain ⟨fn2, ds2, tm2', e2, q2⟩ := busySet r1.rel hl2' hl2 (xState x) (xJump x)
 refine ⟨m2, _, ((s1.trans q1).trans r1).trans q2, ?_⟩
 have start : Frame.round loc.g f tmps assign body .normal = onF b tmps [] (.code assign :: [.beginRound, .code body]) := rfl
 rw [start]
 have hbegin : (Instr.beginRound loc.g).run P w1 = .ok () { w1 with heap := w1.heap.setIfInBounds loc.g (.loop { state := .busy, pending := pd1, fn := fn1, tmps := tm1', params := pr1.toArray, assign := as1, body := bd1, defers := ds1 }) } := by
  simp [Instr.beginRound, Instr.getLoop, getObj, setObj, Sem.run, e1]
 have hend : ∀ jump : Option Code, (Instr.endRound loc.g jump).run P w2 = .ok (.bool jump.isNone) { w2 with heap := w2.heap.setIfInBounds loc.g (.loop { state := if jump.isNone then .ready else .done, pending := jump, fn := fn2, tmps := tm2', params := pr2.toArray, assign := as2, body := bd2, defers := ds2 }) } := by
  intro jump
  simp [Instr.endRound, Instr.getLoop, getObj, setObj, Sem.run, e2]
 refine Steps.trans s5 (.head (st_begin rfl hbegin) ?_)
 have hlast := r5
 cases x with
 | normal => exact Steps.trans hlast (.one (st_roundEnd none rfl rfl (.inl ⟨rfl, rfl⟩) (hend none)))
 | exit id =>
   obtain ⟨k', g1, g2⟩ := hlast
   exact Steps.trans g2 (.one (st_roundEnd (some (.exit id)) rfl rfl (.inr (.inr ⟨id, k', rfl, by rw [g1]; rfl, rfl⟩)) (hend (some (.exit id)))))
 | ret =>
   obtain ⟨k', g2⟩ := hlast
   exact Steps.trans g2 (.one (st_roundEnd (some .ret) rfl rfl (.inr (.inl ⟨k', rfl, rfl⟩)) (hend (some .ret))))
end
end Go.Abs
namespace Go.Abs
def cutFr (nt : Nat) (a : Fr) : Fr := fun i => if i < nt then a i else undef
def evBody (P : Program) (call : CallF) (n : Nat) : CallF := fun fv args H =>
 match fv with
 | .func (.func f) first captured =>
   match P.funcs[f]? with
   | some fn => match fn.body with
     | some c =>
       if funcOk fn c ∧ first.isEmpty ∧ (args ++ captured.toList).length ≤ fn.ntmps then
        match evCode P (call) n fn.ntmps none c (frOf (args ++ captured.toList)) H with
        | some (.normal, a, H') => (resList P a H' fn.results.toList).map fun vs => (pack vs, H')
        | some (.ret, a, H') => (resList P a H' fn.results.toList).map fun vs => (pack vs, H')
        | _ => none
       else none
     | none => none
   | none => none
 | .func (.yield l) _ _ =>
   match H[l]? with
   | some (.loop .ready _ nt tmps params assign body) =>
     if args.length = params.length then
      match evCode P (call) n nt (some l) assign (putAll tmps params args) H with
      | some (.normal, a, H1) =>
        match H1[l]? with
        | some (.loop .ready p1 nt1 tm1 pr1 as1 bd1) =>
          match evCode P (call) n nt (some l) body a (H1.set l (.loop .busy p1 nt1 tm1 pr1 as1 bd1)) with
          | some (x, _, H2) =>
            match H2[l]? with
            | some (.loop _ _ nt2 tm2 pr2 as2 bd2) => some (.bool (xBool x), H2.set l (.loop (xState x) (xJump x) nt2 tm2 pr2 as2 bd2))
            | _ => none
          | none => none
        | _ => none
      | _ => none
     else none
   | _ => none
 | _ => none
section
variable {P : Program}
theorem FR.cut {m : Mp} {nt : Nat} {a : Fr} {tmps : Array Value} (h : FR m nt a tmps) : FR m nt (cutFr nt a) tmps :=
 ⟨h.1, fun t ht => by have := h.2 t ht; simpa [cutFr, ht] using this⟩
theorem body_grow {call : CallF} (hg : CallGrow call) (n : Nat) : CallGrow (evBody P call n) := by
 intro fv args H v H' h
 unfold evBody at h
 split at h
 ·split at h
  case h_2 => cases h
  split at h
  case h_2 => cases h
  split at h
  case isFalse => cases h
  split at h
  ·rename_i a1 H1 hev
   have h2 : H' = H1 := (fun {o : Option (List Value)} (h : o.map (fun vs => (pack vs, H1)) = some (v, H')) => by
    cases o with
    | none => cases h
    | some vs => simp only [Option.map_some] at h; injection h with h; injection h with h1 h2; exact h2.symm) h
   subst h2
   exact evCode_grow hg hev
  ·rename_i a1 H1 hev
   have h2 : H' = H1 := (fun {o : Option (List Value)} (h : o.map (fun vs => (pack vs, H1)) = some (v, H')) => by
    cases o with
    | none => cases h
    | some vs => simp only [Option.map_some] at h; injection h with h; injection h with h1 h2; exact h2.symm) h
   subst h2
   exact evCode_grow hg hev
  ·cases h
 ·split at h
  case h_2 => cases h
  split at h
  case isFalse => cases h
  split at h
  case h_2 => cases h
  rename_i hev1
  split at h
  case h_2 => cases h
  split at h
  case h_2 => cases h
  rename_i hev2
  split at h
  case h_2 => cases h
  injection h with h; injection h with h1 h2; subst h2
  have e1 := evCode_grow hg hev1
  have e2 := evCode_grow hg hev2
  simp at e2 ⊢
  omega
 ·cases h
theorem body_sim (hmix : P.follows .mixedOrders = true) {call : CallF} (hcall : CallOK P call) (hg : CallGrow call) (n : Nat) : CallOK P (evBody P call n) := by
 intro fv args H v H' h m w fv' args' hR hfv hargs
 have hd := fun nt => drawOK hmix hcall hg nt
 unfold evBody at h
 split at h
 ·rename_i f first captured
  split at h
  case h_2 => cases h
  rename_i fn hfn
  split at h
  case h_2 => cases h
  rename_i c hbody
  split at h
  case isFalse => cases h
  rename_i hcond
  obtain ⟨hok, hfirst, hle⟩ := hcond
  have hfv' : ∃ cap', fv' = .func (.func f) #[] cap' ∧ All2 (PR m) captured.toList cap'.toList := by
   cases hfv with
   | a h => cases h with
     | s h => cases h with
       | func f cap cap' hc => exact ⟨cap', rfl, hc⟩
  obtain ⟨cap', rfl, hcap⟩ := hfv'
  have hvs : All2 (VR m) (args ++ captured.toList) (args'.toList ++ cap'.toList) := hargs.append (cap_rel hcap)
  have fin : ∀ (x : X) (a : Fr) (H1 : Heap) rs, (x = .normal ∨ x = .ret) → evCode P call n fn.ntmps none c (frOf (args ++ captured.toList)) H = some (x, a, H1) → resList P a H1 fn.results.toList = some rs → v = pack rs → H' = H1 →
    ∃ nx sf, (do let d ← Deferred.ofValue (.func (.func f) #[] cap') args'; invoke d.target d.args).run P w = .ok nx w ∧ Starts P nx sf ∧ ∀ fr cs, ∃ m' w' v', Sim m H w m' H' w' ∧ VR m' v v' ∧ Steps P (lone sf (fr :: cs) w) (lone (fr.finish v') cs w') := by
   rintro x a H1 rs hx hev hres rfl rfl
   have s3 := func_sim hcall hd hfn hbody hok hle hx hev hres hR hvs
   refine ⟨.enter f (args' ++ cap'), Frame.enter P f (args' ++ cap') .normal, ?_, .enter _ _, fun fr cs => ?_⟩
   ·have hname : ¬ fn.name = "runtime.NumGoroutine" := by
     unfold funcOk at hok
     simp only [Bool.and_eq_true, bne_iff_ne, ne_eq] at hok
     exact hok.2
    simp [Deferred.ofValue, invoke, callFunc, program, Sem.run, hfn, hname, hbody]
   ·obtain ⟨e, w2, fr2, ⟨m', v', rfl, s1, s2⟩, k1, _, k2⟩ := s3 (fr :: cs)
    have : (args'.toList ++ cap'.toList).toArray = args' ++ cap' := by simp
    rw [this] at k1
    exact ⟨m', w2, v', s1, s2, Steps.trans k1 (.one (step_leave_returned k2))⟩
  split at h
  ·rename_i a H1 hev
   cases hr : resList P a H1 fn.results.toList with
   | none => rw [hr] at h; cases h
   | some rs =>
     rw [hr] at h
     simp only [Option.map_some] at h
     injection h with h; injection h with h1 h2
     exact fin _ a H1 rs (.inl rfl) hev hr h1.symm h2.symm
  ·rename_i a H1 hev
   cases hr : resList P a H1 fn.results.toList with
   | none => rw [hr] at h; cases h
   | some rs =>
     rw [hr] at h
     simp only [Option.map_some] at h
     injection h with h; injection h with h1 h2
     exact fin _ a H1 rs (.inr rfl) hev hr h1.symm h2.symm
  ·cases h
 ·rename_i l fi ca
  split at h
  case h_2 => cases h
  rename_i pd0 nt tm0 pr0 as0 bd0 hl0
  split at h
  case isFalse => cases h
  rename_i hlen
  split at h
  case h_2 => cases h
  rename_i a1 H1 hev1
  split at h
  case h_2 => cases h
  rename_i pd1 nt1 tm1 pr1 as1 bd1 hl1
  split at h
  case h_2 => cases h
  rename_i x a2 H2 hev2
  split at h
  case h_2 => cases h
  rename_i st2 pd2 nt2 tm2 pr2 as2 bd2 hl2
  injection h with h; injection h with e1 e2
  subst e1; subst e2
  have hfv' : ∃ loc, m l = some loc ∧ fv' = .func (.yield loc.g) #[] #[] := by
   cases hfv with
   | a h => cases h with
     | s h => cases h with
       | yield b loc hl => exact ⟨loc, hl, rfl⟩
  obtain ⟨loc, hl, rfl⟩ := hfv'
  obtain ⟨f, ds, tmps', hobj, hf0, hoka, hokb, hokp⟩ := hR.blk l _ loc hl0 hl
  have hf := putAll_rel (ps := pr0) hargs hf0
  have s1 := round_sim hcall hd (l := l) (nt := nt) hoka hokb f hR hf hl hev1 hl1 hev2 hl2
  refine ⟨.round loc.g f ((pr0.zip args'.toList).foldl (fun tmps (p : Nat × Value) => tmps.setIfInBounds p.1 p.2) tmps') as0 bd0, _, ?_, .round _ _ _ _ _, fun fr cs => (s1 fr cs).elim fun m' h => h.elim fun w' h => ⟨m', w', .bool (xBool x), h.1, .a (.s (.bool _)), h.2⟩⟩
  have hsz : args'.size = pr0.length := by have := hargs.length; simp at this; omega
  have hfold : (pr0.toArray.zip args').foldl (fun tmps (p : Nat × Value) => tmps.setIfInBounds p.1 p.2) tmps' = (pr0.zip args'.toList).foldl (fun tmps (p : Nat × Value) => tmps.setIfInBounds p.1 p.2) tmps' := by
   rw [← Array.foldl_toList, Array.toList_zip]
  simp only [Deferred.ofValue, invoke, Instr.yield, Instr.getLoop, getObj, Sem.run_bind, Sem.run_pure, Result.andThen_ok, Sem.run, hobj]
  have hz : (pr0.toArray.zip args').size = pr0.length := by simp [hsz]
  simp [hsz]
  rw [← hz]
  exact hfold
 ·cases h
def orC (f g : CallF) : CallF := fun fv args H => match f fv args H with
 | some r => some r
 | none => g fv args H
theorem orC_ok {f g : CallF} (hf : CallOK P f) (hg : CallOK P g) : CallOK P (orC f g) := by
 intro fv args H v H' h
 unfold orC at h
 split at h
 ·rename_i r hr
  cases h
  exact hf fv args H v H' hr
 ·exact hg fv args H v H' h
theorem orC_grow {f g : CallF} (hf : CallGrow f) (hg : CallGrow g) : CallGrow (orC f g) := by
 intro fv args H v H' h
 unfold orC at h
 split at h
 ·rename_i r hr
  cases h
  exact hf fv args H v H' hr
 ·exact hg fv args H v H' h
def noC : CallF := fun _ _ _ => none
theorem noC_ok : CallOK P noC := fun _ _ _ _ _ h => by cases h
theorem noC_grow : CallGrow noC := fun _ _ _ _ _ h => by cases h
def evB (P : Program) (base : CallF) : Nat → CallF
 | 0 => base
 | n + 1 => orC base (evBody P (evB P base n) n)
theorem evB_grow {base : CallF} (hb : CallGrow base) : ∀ n, CallGrow (evB P base n) := by
 intro n
 induction n with
 | zero => exact hb
 | succ n ih => exact orC_grow hb (body_grow ih n)
theorem evB_ok (hmix : P.follows .mixedOrders = true) {base : CallF} (hb : CallOK P base) (hg : CallGrow base) : ∀ n, CallOK P (evB P base n) := by
 intro n
 induction n with
 | zero => exact hb
 | succ n ih => exact orC_ok hb (body_sim hmix ih (evB_grow hg n) n)
end
end Go.Abs
namespace Go.Abs
structure Box (α : Type) where
 run : α
structure D8 (α : Type) where
 (a0 a1 a2 a3 a4 a5 a6 a7 : α)
@[reducible] def Dn (α : Type) : Nat → Type
  | 0 => α
  | d + 1 => D8 (Dn α d)
inductive TR (α : Type) where
 | s (t : Dn α 2)
 | m (t : Dn α 3)
 | l (t : Dn α 6)
abbrev FT := TR Value
inductive MT where
 | e
 | n (c : Nat) (v : Value) (l r : MT)
def mfind (c : Nat) : MT → Nat → Option Value
 | .e, _ => none
 | .n c' v l r, h => if c = c' then some v else if h % 2 = 0 then mfind c l (h / 2) else mfind c r (h / 2)
def mins (c : Nat) (v : Value) : MT → Nat → MT
 | .e, _ => .n c v .e .e
 | .n c' v' l r, h => if c = c' then .n c v l r else if h % 2 = 0 then .n c' v' (mins c v l (h / 2)) r else .n c' v' l (mins c v r (h / 2))
def mix (c : Nat) : Nat := Nat.mod (Nat.mul c 11400714819323198485) 2305843009213693951
theorem mfind_same (c : Nat) (v : Value) : ∀ (t : MT) (h : Nat), mfind c (mins c v t h) h = some v := by
 intro t
 induction t with
 | e => intro h; simp [mins, mfind]
 | n c' v' l r ihl ihr =>
   intro h
   unfold mins
   by_cases hc : c = c'
   ·simp [hc, mfind]
   ·by_cases hh : h % 2 = 0
    ·simp [hc, hh, mfind, ihl]
    ·simp [hc, hh, mfind, ihr]
theorem mfind_other {c d : Nat} (hd : d ≠ c) (v : Value) : ∀ (t : MT) (h h' : Nat), mfind d (mins c v t h) h' = mfind d t h' := by
 intro t
 induction t with
 | e => intro h h'; simp [mins, mfind, hd]
 | n c' v' l r ihl ihr =>
   intro h h'
   unfold mins
   by_cases hc : c = c'
   ·subst hc; simp [mfind, hd]
   ·by_cases hh : h % 2 = 0
    ·simp [hc, hh, mfind, ihl]
    ·simp [hc, hh, mfind, ihr]
def ikNo : IntKind → Nat
 | .i8 => 3 | .i16 => 4 | .i32 => 5 | .i64 => 6 | .u8 => 7 | .u16 => 8 | .u32 => 9 | .u64 => 10
def keyTag : Value → Nat
 | .string _ => 1
 | .bool _ => 2
 | .int k _ => ikNo k
 | _ => 0
def kdTag : TypeDesc → Nat
 | .string => 1
 | .bool => 2
 | .int k => ikNo k
 | _ => 0
def codeBs : List UInt8 → Nat → Nat
 | [], a => a
 | b :: bs, a => codeBs bs (a * 256 + b.toNat)
def codeK' : Value → Nat
 | .string s => codeBs s.data.toList 1
 | .bool b => if b then 1 else 0
 | .int _ (.ofNat n) => 2 * n
 | .int _ (.negSucc n) => 2 * n + 1
 | _ => 0
inductive FB where
 | dead
 | cells (fam : Nat) (own : Bool) (n : Nat) (t : FT)
 | map (kk : Nat) (es : List (Value × Value)) (mt : MT)
 | loop (st : LoopState) (pend : Option Code) (nt : Nat) (T : FT) (params : List Nat) (assign body : Code)
structure Nd where
 x : FB
 mx : Nat
 ms : List Nat
structure FH where
 n : Nat
 t : TR Nd
inductive RC where
 | nx (T : FT) (H : FH)
 | ex (id : Nat) (T : FT) (H : FH)
 | rt (T : FT) (H : FH)
 | val (v : Value) (H : FH)
 | skip
 | no
namespace D8
variable {α γ : Type}
def rep (x : α) : D8 α := ⟨x, x, x, x, x, x, x, x⟩
def get (c : D8 α) (i : Nat) : α := match i with | 0 => c.a0 | 1 => c.a1 | 2 => c.a2 | 3 => c.a3 | 4 => c.a4 | 5 => c.a5 | 6 => c.a6 | _ => c.a7
def set (c : D8 α) (i : Nat) (v : α) : D8 α := match i with | 0 => ⟨v, c.a1, c.a2, c.a3, c.a4, c.a5, c.a6, c.a7⟩ | 1 => ⟨c.a0, v, c.a2, c.a3, c.a4, c.a5, c.a6, c.a7⟩ | 2 => ⟨c.a0, c.a1, v, c.a3, c.a4, c.a5, c.a6, c.a7⟩ | 3 => ⟨c.a0, c.a1, c.a2, v, c.a4, c.a5, c.a6, c.a7⟩ | 4 => ⟨c.a0, c.a1, c.a2, c.a3, v, c.a5, c.a6, c.a7⟩ | 5 => ⟨c.a0, c.a1, c.a2, c.a3, c.a4, v, c.a6, c.a7⟩ | 6 => ⟨c.a0, c.a1, c.a2, c.a3, c.a4, c.a5, v, c.a7⟩ | _ => ⟨c.a0, c.a1, c.a2, c.a3, c.a4, c.a5, c.a6, v⟩
noncomputable def g0 (i : Nat) : Box (D8 α → (α → RC) → RC) := match i with | 0 => ⟨fun c k => D8.rec (fun x _ _ _ _ _ _ _ => k x) c⟩ | 1 => ⟨fun c k => D8.rec (fun _ x _ _ _ _ _ _ => k x) c⟩ | 2 => ⟨fun c k => D8.rec (fun _ _ x _ _ _ _ _ => k x) c⟩ | 3 => ⟨fun c k => D8.rec (fun _ _ _ x _ _ _ _ => k x) c⟩ | 4 => ⟨fun c k => D8.rec (fun _ _ _ _ x _ _ _ => k x) c⟩ | 5 => ⟨fun c k => D8.rec (fun _ _ _ _ _ x _ _ => k x) c⟩ | 6 => ⟨fun c k => D8.rec (fun _ _ _ _ _ _ x _ => k x) c⟩ | _ => ⟨fun c k => D8.rec (fun _ _ _ _ _ _ _ x => k x) c⟩
noncomputable def gC (inner : Box (γ → (α → RC) → RC)) (i : Nat) : Box (D8 γ → (α → RC) → RC) := match i with | 0 => ⟨fun c k => D8.rec (fun x _ _ _ _ _ _ _ => inner.run x k) c⟩ | 1 => ⟨fun c k => D8.rec (fun _ x _ _ _ _ _ _ => inner.run x k) c⟩ | 2 => ⟨fun c k => D8.rec (fun _ _ x _ _ _ _ _ => inner.run x k) c⟩ | 3 => ⟨fun c k => D8.rec (fun _ _ _ x _ _ _ _ => inner.run x k) c⟩ | 4 => ⟨fun c k => D8.rec (fun _ _ _ _ x _ _ _ => inner.run x k) c⟩ | 5 => ⟨fun c k => D8.rec (fun _ _ _ _ _ x _ _ => inner.run x k) c⟩ | 6 => ⟨fun c k => D8.rec (fun _ _ _ _ _ _ x _ => inner.run x k) c⟩ | _ => ⟨fun c k => D8.rec (fun _ _ _ _ _ _ _ x => inner.run x k) c⟩
noncomputable def s0 (i : Nat) : Box (D8 α → α → (D8 α → RC) → RC) := match i with | 0 => ⟨fun c v k => D8.rec (fun _ x1 x2 x3 x4 x5 x6 x7 => k ⟨v, x1, x2, x3, x4, x5, x6, x7⟩) c⟩ | 1 => ⟨fun c v k => D8.rec (fun x0 _ x2 x3 x4 x5 x6 x7 => k ⟨x0, v, x2, x3, x4, x5, x6, x7⟩) c⟩ | 2 => ⟨fun c v k => D8.rec (fun x0 x1 _ x3 x4 x5 x6 x7 => k ⟨x0, x1, v, x3, x4, x5, x6, x7⟩) c⟩ | 3 => ⟨fun c v k => D8.rec (fun x0 x1 x2 _ x4 x5 x6 x7 => k ⟨x0, x1, x2, v, x4, x5, x6, x7⟩) c⟩ | 4 => ⟨fun c v k => D8.rec (fun x0 x1 x2 x3 _ x5 x6 x7 => k ⟨x0, x1, x2, x3, v, x5, x6, x7⟩) c⟩ | 5 => ⟨fun c v k => D8.rec (fun x0 x1 x2 x3 x4 _ x6 x7 => k ⟨x0, x1, x2, x3, x4, v, x6, x7⟩) c⟩ | 6 => ⟨fun c v k => D8.rec (fun x0 x1 x2 x3 x4 x5 _ x7 => k ⟨x0, x1, x2, x3, x4, x5, v, x7⟩) c⟩ | _ => ⟨fun c v k => D8.rec (fun x0 x1 x2 x3 x4 x5 x6 _ => k ⟨x0, x1, x2, x3, x4, x5, x6, v⟩) c⟩
noncomputable def sC (inner : Box (γ → α → (γ → RC) → RC)) (i : Nat) : Box (D8 γ → α → (D8 γ → RC) → RC) := match i with | 0 => ⟨fun c v k => D8.rec (fun x0 x1 x2 x3 x4 x5 x6 x7 => inner.run x0 v fun y => k ⟨y, x1, x2, x3, x4, x5, x6, x7⟩) c⟩ | 1 => ⟨fun c v k => D8.rec (fun x0 x1 x2 x3 x4 x5 x6 x7 => inner.run x1 v fun y => k ⟨x0, y, x2, x3, x4, x5, x6, x7⟩) c⟩ | 2 => ⟨fun c v k => D8.rec (fun x0 x1 x2 x3 x4 x5 x6 x7 => inner.run x2 v fun y => k ⟨x0, x1, y, x3, x4, x5, x6, x7⟩) c⟩ | 3 => ⟨fun c v k => D8.rec (fun x0 x1 x2 x3 x4 x5 x6 x7 => inner.run x3 v fun y => k ⟨x0, x1, x2, y, x4, x5, x6, x7⟩) c⟩ | 4 => ⟨fun c v k => D8.rec (fun x0 x1 x2 x3 x4 x5 x6 x7 => inner.run x4 v fun y => k ⟨x0, x1, x2, x3, y, x5, x6, x7⟩) c⟩ | 5 => ⟨fun c v k => D8.rec (fun x0 x1 x2 x3 x4 x5 x6 x7 => inner.run x5 v fun y => k ⟨x0, x1, x2, x3, x4, y, x6, x7⟩) c⟩ | 6 => ⟨fun c v k => D8.rec (fun x0 x1 x2 x3 x4 x5 x6 x7 => inner.run x6 v fun y => k ⟨x0, x1, x2, x3, x4, x5, y, x7⟩) c⟩ | _ => ⟨fun c v k => D8.rec (fun x0 x1 x2 x3 x4 x5 x6 x7 => inner.run x7 v fun y => k ⟨x0, x1, x2, x3, x4, x5, x6, y⟩) c⟩
theorem g0_eq (i : Nat) (c : D8 α) (k : α → RC) : (g0 i).run c k = k (c.get i) := by unfold g0 get; split <;> rfl
theorem s0_eq (i : Nat) (c : D8 α) (v : α) (k : D8 α → RC) : (s0 i).run c v k = k (c.set i v) := by unfold s0 set; split <;> rfl
theorem gC_eq (inner : Box (γ → (α → RC) → RC)) (i : Nat) (c : D8 γ) (k : α → RC) : (gC inner i).run c k = inner.run (c.get i) k := by unfold gC get; split <;> rfl
theorem sC_eq (inner : Box (γ → α → (γ → RC) → RC)) (i : Nat) (c : D8 γ) (v : α) (k : D8 γ → RC) : (sC inner i).run c v k = inner.run (c.get i) v fun y => k (c.set i y) := by unfold sC get set; split <;> rfl
theorem gs0 (c : D8 α) (v : α) : ∀ j, j < 8 → (c.set 0 v).get j = if j = 0 then v else c.get j | 0, _ => rfl | 1, _ => rfl | 2, _ => rfl | 3, _ => rfl | 4, _ => rfl | 5, _ => rfl | 6, _ => rfl | 7, _ => rfl | n + 8, h => absurd h (by omega)
theorem gs1 (c : D8 α) (v : α) : ∀ j, j < 8 → (c.set 1 v).get j = if j = 1 then v else c.get j | 0, _ => rfl | 1, _ => rfl | 2, _ => rfl | 3, _ => rfl | 4, _ => rfl | 5, _ => rfl | 6, _ => rfl | 7, _ => rfl | n + 8, h => absurd h (by omega)
theorem gs2 (c : D8 α) (v : α) : ∀ j, j < 8 → (c.set 2 v).get j = if j = 2 then v else c.get j | 0, _ => rfl | 1, _ => rfl | 2, _ => rfl | 3, _ => rfl | 4, _ => rfl | 5, _ => rfl | 6, _ => rfl | 7, _ => rfl | n + 8, h => absurd h (by omega)
theorem gs3 (c : D8 α) (v : α) : ∀ j, j < 8 → (c.set 3 v).get j = if j = 3 then v else c.get j | 0, _ => rfl | 1, _ => rfl | 2, _ => rfl | 3, _ => rfl | 4, _ => rfl | 5, _ => rfl | 6, _ => rfl | 7, _ => rfl | n + 8, h => absurd h (by omega)
theorem gs4 (c : D8 α) (v : α) : ∀ j, j < 8 → (c.set 4 v).get j = if j = 4 then v else c.get j | 0, _ => rfl | 1, _ => rfl | 2, _ => rfl | 3, _ => rfl | 4, _ => rfl | 5, _ => rfl | 6, _ => rfl | 7, _ => rfl | n + 8, h => absurd h (by omega)
theorem gs5 (c : D8 α) (v : α) : ∀ j, j < 8 → (c.set 5 v).get j = if j = 5 then v else c.get j | 0, _ => rfl | 1, _ => rfl | 2, _ => rfl | 3, _ => rfl | 4, _ => rfl | 5, _ => rfl | 6, _ => rfl | 7, _ => rfl | n + 8, h => absurd h (by omega)
theorem gs6 (c : D8 α) (v : α) : ∀ j, j < 8 → (c.set 6 v).get j = if j = 6 then v else c.get j | 0, _ => rfl | 1, _ => rfl | 2, _ => rfl | 3, _ => rfl | 4, _ => rfl | 5, _ => rfl | 6, _ => rfl | 7, _ => rfl | n + 8, h => absurd h (by omega)
theorem gs7 (c : D8 α) (v : α) : ∀ j, j < 8 → (c.set 7 v).get j = if j = 7 then v else c.get j | 0, _ => rfl | 1, _ => rfl | 2, _ => rfl | 3, _ => rfl | 4, _ => rfl | 5, _ => rfl | 6, _ => rfl | 7, _ => rfl | n + 8, h => absurd h (by omega)
theorem get_set (c : D8 α) (v : α) : ∀ i, i < 8 → ∀ j, j < 8 → (c.set i v).get j = if j = i then v else c.get j | 0, _ => gs0 c v | 1, _ => gs1 c v | 2, _ => gs2 c v | 3, _ => gs3 c v | 4, _ => gs4 c v | 5, _ => gs5 c v | 6, _ => gs6 c v | 7, _ => gs7 c v | n + 8, h => absurd h (by omega)
theorem get_rep (x : α) (i : Nat) : (rep x).get i = x := by unfold get rep; split <;> rfl
end D8
section
variable {α : Type}
def Dn.rep (x : α) : (d : Nat) → Dn α d
 | 0 => x
 | d + 1 => D8.rep (Dn.rep x d)
def Dn.get : (d : Nat) → Dn α d → Nat → α
 | 0, x, _ => x
 | d + 1, t, i => Dn.get d (D8.get t (i / 8 ^ d % 8)) i
def Dn.set : (d : Nat) → Dn α d → Nat → α → Dn α d
 | 0, _, _, v => v
 | d + 1, t, i, v => D8.set t (i / 8 ^ d % 8) (Dn.set d (D8.get t (i / 8 ^ d % 8)) i v)
theorem Dn.get_rep (x : α) (i : Nat) : ∀ d, Dn.get d (Dn.rep x d) i = x := by
 intro d
 induction d with
 | zero => rfl
 | succ d ih => unfold Dn.get Dn.rep; rw [D8.get_rep]; exact ih
theorem Dn.get_set (v : α) (i j : Nat) : ∀ d (t : Dn α d), Dn.get d (Dn.set d t i v) j = if j % 8 ^ d = i % 8 ^ d then v else Dn.get d t j := by
 intro d
 induction d with
 | zero => intro t; simp [Dn.get, Dn.set, Nat.mod_one]
 | succ d ih =>
   intro (t : D8 (Dn α d))
   show Dn.get d (D8.get (D8.set t (i / 8 ^ d % 8) (Dn.set d (D8.get t (i / 8 ^ d % 8)) i v)) (j / 8 ^ d % 8)) j = if j % 8 ^ (d + 1) = i % 8 ^ (d + 1) then v else Dn.get d (D8.get t (j / 8 ^ d % 8)) j
   rw [D8.get_set _ _ _ (Nat.mod_lt _ (by omega)) _ (Nat.mod_lt _ (by omega))]
   rw [Nat.mod_pow_succ, Nat.mod_pow_succ]
   have hp : 0 < 8 ^ d := Nat.pow_pos (by omega)
   have hi := Nat.mod_lt i hp
   have hj := Nat.mod_lt j hp
   by_cases h : j / 8 ^ d % 8 = i / 8 ^ d % 8
   ·rw [if_pos h, ih, h]
    by_cases h2 : j % 8 ^ d = i % 8 ^ d
    ·rw [if_pos h2, if_pos (by rw [h2])]
    ·rw [if_neg h2, if_neg (by omega)]
   ·rw [if_neg h, if_neg]
    intro e
    apply h
    have h1 : j % 8 ^ d + 8 ^ d * (j / 8 ^ d % 8) = i % 8 ^ d + 8 ^ d * (i / 8 ^ d % 8) := e
    have h3 := congrArg (· / 8 ^ d) h1
    simp only [Nat.add_mul_div_left _ _ hp, Nat.div_eq_of_lt hi, Nat.div_eq_of_lt hj, Nat.zero_add] at h3
    exact h3
noncomputable def g2 (i : Nat) : Box (Dn α 2 → (α → RC) → RC) := D8.gC (α := α) (γ := D8 α) (D8.g0 (i % 8)) (i / 8 % 8)
noncomputable def s2 (i : Nat) : Box (Dn α 2 → α → (Dn α 2 → RC) → RC) := D8.sC (α := α) (γ := D8 α) (D8.s0 (i % 8)) (i / 8 % 8)
theorem g2_eq (i : Nat) (t : Dn α 2) (k : α → RC) : (g2 i).run t k = k (Dn.get 2 t i) := by
 unfold g2; rw [D8.gC_eq, D8.g0_eq]
 simp only [Dn.get, Nat.pow_one, Nat.pow_zero, Nat.div_one]
theorem s2_eq (i : Nat) (t : Dn α 2) (v : α) (k : Dn α 2 → RC) : (s2 i).run t v k = k (Dn.set 2 t i v) := by
 unfold s2; rw [D8.sC_eq, D8.s0_eq]
 simp only [Dn.set, Nat.pow_one, Nat.pow_zero, Nat.div_one]
noncomputable def g3 (i : Nat) : Box (Dn α 3 → (α → RC) → RC) := D8.gC (α := α) (γ := Dn α 2) (g2 i) (i / 64 % 8)
noncomputable def s3 (i : Nat) : Box (Dn α 3 → α → (Dn α 3 → RC) → RC) := D8.sC (α := α) (γ := Dn α 2) (s2 i) (i / 64 % 8)
theorem g3_eq (i : Nat) (t : Dn α 3) (k : α → RC) : (g3 i).run t k = k (Dn.get 3 t i) := by
 unfold g3; rw [D8.gC_eq]; exact g2_eq _ _ _
theorem s3_eq (i : Nat) (t : Dn α 3) (v : α) (k : Dn α 3 → RC) : (s3 i).run t v k = k (Dn.set 3 t i v) := by
 unfold s3; rw [D8.sC_eq]; exact s2_eq _ _ _ _
noncomputable def g4 (i : Nat) : Box (Dn α 4 → (α → RC) → RC) := D8.gC (α := α) (γ := Dn α 3) (g3 i) (i / 512 % 8)
noncomputable def s4 (i : Nat) : Box (Dn α 4 → α → (Dn α 4 → RC) → RC) := D8.sC (α := α) (γ := Dn α 3) (s3 i) (i / 512 % 8)
theorem g4_eq (i : Nat) (t : Dn α 4) (k : α → RC) : (g4 i).run t k = k (Dn.get 4 t i) := by
 unfold g4; rw [D8.gC_eq]; exact g3_eq _ _ _
theorem s4_eq (i : Nat) (t : Dn α 4) (v : α) (k : Dn α 4 → RC) : (s4 i).run t v k = k (Dn.set 4 t i v) := by
 unfold s4; rw [D8.sC_eq]; exact s3_eq _ _ _ _
noncomputable def g5 (i : Nat) : Box (Dn α 5 → (α → RC) → RC) := D8.gC (α := α) (γ := Dn α 4) (g4 i) (i / 4096 % 8)
noncomputable def s5 (i : Nat) : Box (Dn α 5 → α → (Dn α 5 → RC) → RC) := D8.sC (α := α) (γ := Dn α 4) (s4 i) (i / 4096 % 8)
theorem g5_eq (i : Nat) (t : Dn α 5) (k : α → RC) : (g5 i).run t k = k (Dn.get 5 t i) := by
 unfold g5; rw [D8.gC_eq]; exact g4_eq _ _ _
theorem s5_eq (i : Nat) (t : Dn α 5) (v : α) (k : Dn α 5 → RC) : (s5 i).run t v k = k (Dn.set 5 t i v) := by
 unfold s5; rw [D8.sC_eq]; exact s4_eq _ _ _ _
noncomputable def g6 (i : Nat) : Box (Dn α 6 → (α → RC) → RC) := D8.gC (α := α) (γ := Dn α 5) (g5 i) (i / 32768 % 8)
noncomputable def s6 (i : Nat) : Box (Dn α 6 → α → (Dn α 6 → RC) → RC) := D8.sC (α := α) (γ := Dn α 5) (s5 i) (i / 32768 % 8)
theorem g6_eq (i : Nat) (t : Dn α 6) (k : α → RC) : (g6 i).run t k = k (Dn.get 6 t i) := by
 unfold g6; rw [D8.gC_eq]; exact g5_eq _ _ _
theorem s6_eq (i : Nat) (t : Dn α 6) (v : α) (k : Dn α 6 → RC) : (s6 i).run t v k = k (Dn.set 6 t i v) := by
 unfold s6; rw [D8.sC_eq]; exact s5_eq _ _ _ _
def up (dv : α) {d : Nat} (t : Dn α d) : Dn α (d + 1) := let e := Dn.rep dv d; (⟨t, e, e, e, e, e, e, e⟩ : D8 (Dn α d))
theorem up_get (dv : α) {d : Nat} (t : Dn α d) (i : Nat) (hi : i < 8 ^ (d + 1)) : Dn.get (d + 1) (up dv t) i = if i < 8 ^ d then Dn.get d t i else dv := by
 show Dn.get d (D8.get (⟨t, Dn.rep dv d, Dn.rep dv d, Dn.rep dv d, Dn.rep dv d, Dn.rep dv d, Dn.rep dv d, Dn.rep dv d⟩ : D8 (Dn α d)) (i / 8 ^ d % 8)) i = _
 have hp : 0 < 8 ^ d := Nat.pow_pos (by omega)
 by_cases h : i < 8 ^ d
 ·rw [if_pos h, Nat.div_eq_of_lt h]; rfl
 ·rw [if_neg h]
  have h2 : i / 8 ^ d < 8 := by
   rw [Nat.div_lt_iff_lt_mul hp, Nat.mul_comm, ← Nat.pow_succ]; exact hi
  have h1 : 1 ≤ i / 8 ^ d := by
   rw [Nat.le_div_iff_mul_le hp]; omega
  rw [Nat.mod_eq_of_lt h2]
  have : ∀ n, 1 ≤ n → n < 8 → Dn.get d (D8.get (⟨t, Dn.rep dv d, Dn.rep dv d, Dn.rep dv d, Dn.rep dv d, Dn.rep dv d, Dn.rep dv d, Dn.rep dv d⟩ : D8 (Dn α d)) n) i = dv
   | 1, _, _ => Dn.get_rep _ _ _ | 2, _, _ => Dn.get_rep _ _ _ | 3, _, _ => Dn.get_rep _ _ _ | 4, _, _ => Dn.get_rep _ _ _ | 5, _, _ => Dn.get_rep _ _ _ | 6, _, _ => Dn.get_rep _ _ _ | 7, _, _ => Dn.get_rep _ _ _
   | 0, h, _ => absurd h (by omega)
   | n + 8, _, h => absurd h (by omega)
  exact this _ h1 h2
def TR.get (dv : α) (t : TR α) (i : Nat) : α := match t with
 | .s t => if i < 64 then Dn.get 2 t i else dv
 | .m t => if i < 512 then Dn.get 3 t i else dv
 | .l t => if i < 262144 then Dn.get 6 t i else dv
def TR.set (dv : α) (t : TR α) (i : Nat) (v : α) : TR α := match t with
 | .s t => if i < 64 then .s (Dn.set 2 t i v) else if i < 512 then .m (Dn.set 3 (up dv t) i v) else .l (Dn.set 6 (up dv (up dv (up dv (up dv t)))) i v)
 | .m t => if i < 512 then .m (Dn.set 3 t i v) else .l (Dn.set 6 (up dv (up dv (up dv t))) i v)
 | .l t => .l (Dn.set 6 t i v)
theorem up3_get (dv : α) (t : Dn α 3) (i : Nat) (hi : i < 262144) : Dn.get 6 (up dv (up dv (up dv t))) i = if i < 512 then Dn.get 3 t i else dv := by
 have e3 : (8 : Nat) ^ 3 = 512 := rfl
 have e4 : (8 : Nat) ^ 4 = 4096 := rfl
 have e5 : (8 : Nat) ^ 5 = 32768 := rfl
 rw [up_get _ _ _ hi, e5]
 by_cases h5 : i < 32768
 ·rw [if_pos h5, up_get _ _ _ h5, e4]
  by_cases h4 : i < 4096
  ·rw [if_pos h4, up_get _ _ _ h4, e3]
  ·rw [if_neg h4, if_neg (by omega)]
 ·rw [if_neg h5, if_neg (by omega)]
theorem TR.get_set (dv : α) (t : TR α) (v : α) {i j : Nat} (hi : i < 262144) (hj : j < 262144) : TR.get dv (TR.set dv t i v) j = if j = i then v else TR.get dv t j := by
 have e2 : (8 : Nat) ^ 2 = 64 := rfl
 have e3 : (8 : Nat) ^ 3 = 512 := rfl
 have e4 : (8 : Nat) ^ 6 = 262144 := rfl
 cases t with
 | s t =>
   simp only [TR.set]
   by_cases h1 : i < 64
   ·rw [if_pos h1]
    simp only [TR.get]
    by_cases h2 : j < 64
    ·simp only [h2, if_true]; rw [Dn.get_set, e2, Nat.mod_eq_of_lt h1, Nat.mod_eq_of_lt h2]
    ·simp only [h2, if_false]; rw [if_neg (by omega)]
   ·rw [if_neg h1]
    by_cases h3 : i < 512
    ·rw [if_pos h3]
     simp only [TR.get]
     by_cases h2 : j < 512
     ·simp only [h2, if_true]
      rw [Dn.get_set, e3, Nat.mod_eq_of_lt h3, Nat.mod_eq_of_lt h2, up_get _ _ _ (by omega), e2]
     ·simp only [h2, if_false]; rw [if_neg (by omega), if_neg (by omega)]
    ·rw [if_neg h3]
     simp only [TR.get]
     simp only [hj, if_true]
     rw [Dn.get_set, e4, Nat.mod_eq_of_lt hi, Nat.mod_eq_of_lt hj, up3_get _ _ _ hj]
     by_cases h4 : j < 512
     ·rw [if_pos h4, up_get _ _ _ (by omega), e2]
     ·rw [if_neg h4, if_neg (show ¬ j < 64 by omega)]
 | m t =>
   simp only [TR.set]
   by_cases h3 : i < 512
   ·rw [if_pos h3]
    simp only [TR.get]
    by_cases h2 : j < 512
    ·simp only [h2, if_true]; rw [Dn.get_set, e3, Nat.mod_eq_of_lt h3, Nat.mod_eq_of_lt h2]
    ·simp only [h2, if_false]; rw [if_neg (by omega)]
   ·rw [if_neg h3]
    simp only [TR.get]
    simp only [hj, if_true]
    rw [Dn.get_set, e4, Nat.mod_eq_of_lt hi, Nat.mod_eq_of_lt hj, up3_get _ _ _ hj]
 | l t =>
   simp only [TR.set, TR.get, hj, if_true]
   rw [Dn.get_set, e4, Nat.mod_eq_of_lt hi, Nat.mod_eq_of_lt hj]
noncomputable def tG2 (i : Nat) (fm : Dn α 3 → (α → RC) → RC) (fl : Dn α 6 → (α → RC) → RC) : Box (TR α → (α → RC) → RC) := match i / 8 % 8 with | 0 => ⟨TR.rec (motive := fun _ => (α → RC) → RC) (fun t k => D8.rec (fun x _ _ _ _ _ _ _ => (D8.g0 (i % 8)).run x k) t) fm fl⟩ | 1 => ⟨TR.rec (motive := fun _ => (α → RC) → RC) (fun t k => D8.rec (fun _ x _ _ _ _ _ _ => (D8.g0 (i % 8)).run x k) t) fm fl⟩ | 2 => ⟨TR.rec (motive := fun _ => (α → RC) → RC) (fun t k => D8.rec (fun _ _ x _ _ _ _ _ => (D8.g0 (i % 8)).run x k) t) fm fl⟩ | 3 => ⟨TR.rec (motive := fun _ => (α → RC) → RC) (fun t k => D8.rec (fun _ _ _ x _ _ _ _ => (D8.g0 (i % 8)).run x k) t) fm fl⟩ | 4 => ⟨TR.rec (motive := fun _ => (α → RC) → RC) (fun t k => D8.rec (fun _ _ _ _ x _ _ _ => (D8.g0 (i % 8)).run x k) t) fm fl⟩ | 5 => ⟨TR.rec (motive := fun _ => (α → RC) → RC) (fun t k => D8.rec (fun _ _ _ _ _ x _ _ => (D8.g0 (i % 8)).run x k) t) fm fl⟩ | 6 => ⟨TR.rec (motive := fun _ => (α → RC) → RC) (fun t k => D8.rec (fun _ _ _ _ _ _ x _ => (D8.g0 (i % 8)).run x k) t) fm fl⟩ | _ => ⟨TR.rec (motive := fun _ => (α → RC) → RC) (fun t k => D8.rec (fun _ _ _ _ _ _ _ x => (D8.g0 (i % 8)).run x k) t) fm fl⟩
noncomputable def tS2 (i : Nat) (fm : Dn α 3 → α → (TR α → RC) → RC) (fl : Dn α 6 → α → (TR α → RC) → RC) : Box (TR α → α → (TR α → RC) → RC) := match i / 8 % 8 with | 0 => ⟨TR.rec (motive := fun _ => α → (TR α → RC) → RC) (fun t v k => D8.rec (fun x0 x1 x2 x3 x4 x5 x6 x7 => (D8.s0 (i % 8)).run x0 v fun y => k (.s (⟨y, x1, x2, x3, x4, x5, x6, x7⟩ : D8 (D8 α)))) t) fm fl⟩ | 1 => ⟨TR.rec (motive := fun _ => α → (TR α → RC) → RC) (fun t v k => D8.rec (fun x0 x1 x2 x3 x4 x5 x6 x7 => (D8.s0 (i % 8)).run x1 v fun y => k (.s (⟨x0, y, x2, x3, x4, x5, x6, x7⟩ : D8 (D8 α)))) t) fm fl⟩ | 2 => ⟨TR.rec (motive := fun _ => α → (TR α → RC) → RC) (fun t v k => D8.rec (fun x0 x1 x2 x3 x4 x5 x6 x7 => (D8.s0 (i % 8)).run x2 v fun y => k (.s (⟨x0, x1, y, x3, x4, x5, x6, x7⟩ : D8 (D8 α)))) t) fm fl⟩ | 3 => ⟨TR.rec (motive := fun _ => α → (TR α → RC) → RC) (fun t v k => D8.rec (fun x0 x1 x2 x3 x4 x5 x6 x7 => (D8.s0 (i % 8)).run x3 v fun y => k (.s (⟨x0, x1, x2, y, x4, x5, x6, x7⟩ : D8 (D8 α)))) t) fm fl⟩ | 4 => ⟨TR.rec (motive := fun _ => α → (TR α → RC) → RC) (fun t v k => D8.rec (fun x0 x1 x2 x3 x4 x5 x6 x7 => (D8.s0 (i % 8)).run x4 v fun y => k (.s (⟨x0, x1, x2, x3, y, x5, x6, x7⟩ : D8 (D8 α)))) t) fm fl⟩ | 5 => ⟨TR.rec (motive := fun _ => α → (TR α → RC) → RC) (fun t v k => D8.rec (fun x0 x1 x2 x3 x4 x5 x6 x7 => (D8.s0 (i % 8)).run x5 v fun y => k (.s (⟨x0, x1, x2, x3, x4, y, x6, x7⟩ : D8 (D8 α)))) t) fm fl⟩ | 6 => ⟨TR.rec (motive := fun _ => α → (TR α → RC) → RC) (fun t v k => D8.rec (fun x0 x1 x2 x3 x4 x5 x6 x7 => (D8.s0 (i % 8)).run x6 v fun y => k (.s (⟨x0, x1, x2, x3, x4, x5, y, x7⟩ : D8 (D8 α)))) t) fm fl⟩ | _ => ⟨TR.rec (motive := fun _ => α → (TR α → RC) → RC) (fun t v k => D8.rec (fun x0 x1 x2 x3 x4 x5 x6 x7 => (D8.s0 (i % 8)).run x7 v fun y => k (.s (⟨x0, x1, x2, x3, x4, x5, x6, y⟩ : D8 (D8 α)))) t) fm fl⟩
noncomputable def tvG (dv : α) (i : Nat) : Box (TR α → (α → RC) → RC) :=
 bif Nat.ble (i + 1) 64 then tG2 i (fun t k => (g3 i).run t k) (fun t k => (g6 i).run t k) else bif Nat.ble (i + 1) 512 then ⟨TR.rec (motive := fun _ => (α → RC) → RC) (fun _ k => k dv) (fun t k => (g3 i).run t k) (fun t k => (g6 i).run t k)⟩
 else bif Nat.ble (i + 1) 262144 then ⟨TR.rec (motive := fun _ => (α → RC) → RC) (fun _ k => k dv) (fun _ k => k dv) (fun t k => (g6 i).run t k)⟩ else ⟨fun _ k => k dv⟩
noncomputable def tvS (dv : α) (i : Nat) : Box (TR α → α → (TR α → RC) → RC) :=
 bif Nat.ble (i + 1) 64 then tS2 i (fun t v k => (s3 i).run t v fun t => k (.m t)) (fun t v k => (s6 i).run t v fun t => k (.l t))
 else bif Nat.ble (i + 1) 512 then ⟨TR.rec (motive := fun _ => α → (TR α → RC) → RC) (fun t v k => (s3 i).run (up dv t) v fun t => k (.m t)) (fun t v k => (s3 i).run t v fun t => k (.m t)) (fun t v k => (s6 i).run t v fun t => k (.l t))⟩
 else ⟨TR.rec (motive := fun _ => α → (TR α → RC) → RC) (fun t v k => (s6 i).run (up dv (up dv (up dv (up dv t)))) v fun t => k (.l t)) (fun t v k => (s6 i).run (up dv (up dv (up dv t))) v fun t => k (.l t)) (fun t v k => (s6 i).run t v fun t => k (.l t))⟩
theorem tG2_eq (i : Nat) (fm : Dn α 3 → (α → RC) → RC) (fl : Dn α 6 → (α → RC) → RC) (t : TR α) (k : α → RC) : (tG2 i fm fl).run t k = match t with
  | .s t => k (Dn.get 2 t i)
  | .m t => fm t k
  | .l t => fl t k := by
 cases t with
 | s t =>
   show _ = k (Dn.get 2 t i)
   rw [← g2_eq i t k]
   unfold tG2 g2 D8.gC
   split <;> rfl
 | m t => unfold tG2; split <;> rfl
 | l t => unfold tG2; split <;> rfl
theorem tS2_eq (i : Nat) (fm : Dn α 3 → α → (TR α → RC) → RC) (fl : Dn α 6 → α → (TR α → RC) → RC) (t : TR α) (v : α) (k : TR α → RC) : (tS2 i fm fl).run t v k = match t with
  | .s t => k (.s (Dn.set 2 t i v))
  | .m t => fm t v k
  | .l t => fl t v k := by
 cases t with
 | s t =>
   show _ = k (.s (Dn.set 2 t i v))
   rw [← s2_eq i t v (fun y => k (.s y))]
   unfold tS2 s2 D8.sC
   split <;> rfl
 | m t => unfold tS2; split <;> rfl
 | l t => unfold tS2; split <;> rfl
theorem ble_if {i n : Nat} : Nat.ble (i + 1) n = decide (i < n) := by
 rw [Bool.eq_iff_iff, decide_eq_true_iff]; exact ⟨fun h => Nat.le_of_ble_eq_true h, fun h => Nat.ble_eq_true_of_le h⟩
theorem tvG_eq (dv : α) (i : Nat) (t : TR α) (k : α → RC) : (tvG dv i).run t k = k (TR.get dv t i) := by
 unfold tvG TR.get
 simp only [ble_if]
 by_cases h : i < 64
 ·simp only [h, decide_true, cond_true, tG2_eq]
  cases t with
  | s t => simp
  | m t => simp only [g3_eq]; rw [if_pos (by omega)]
  | l t => simp only [g6_eq]; rw [if_pos (by omega)]
 ·by_cases h2 : i < 512
  ·cases t <;> simp [h, h2, g3_eq, g6_eq, show i < 262144 by omega]
  ·by_cases h3 : i < 262144 <;> cases t <;> simp [h, h2, h3, g6_eq]
theorem tvS_eq (dv : α) (i : Nat) (t : TR α) (v : α) (k : TR α → RC) : (tvS dv i).run t v k = k (TR.set dv t i v) := by
 unfold tvS TR.set
 simp only [ble_if]
 by_cases h : i < 64
 ·simp only [h, decide_true, cond_true, tS2_eq]
  cases t with
  | s t => simp
  | m t => simp only [s3_eq]; rw [if_pos (by omega)]
  | l t => simp only [s6_eq]
 ·by_cases h2 : i < 512 <;> cases t <;> simp [h, h2, s3_eq, s6_eq]
end
def T2.get (t : FT) (i : Nat) : Value := TR.get undef t i
def T2.set (t : FT) (i : Nat) (v : Value) : FT := TR.set undef t i v
theorem T2.get_set (t : FT) (v : Value) {i j : Nat} (hi : i < 262144) (hj : j < 262144) : T2.get (T2.set t i v) j = if j = i then v else T2.get t j := TR.get_set undef t v hi hj
noncomputable def g2B (i : Nat) : Box (FT → (Value → RC) → RC) := tvG undef i
noncomputable def s2B (i : Nat) : Box (FT → Value → (FT → RC) → RC) := tvS undef i
theorem g2B_eq (i : Nat) (t : FT) (k : Value → RC) : (g2B i).run t k = k (T2.get t i) := tvG_eq _ _ _ _
theorem s2B_eq (i : Nat) (t : FT) (v : Value) (k : FT → RC) : (s2B i).run t v k = k (T2.set t i v) := tvS_eq _ _ _ _ _
def deadNd : Nd := ⟨.dead, 0, []⟩
def T3.get (t : TR Nd) (i : Nat) : Nd := TR.get deadNd t i
def T3.set (t : TR Nd) (i : Nat) (v : Nd) : TR Nd := TR.set deadNd t i v
theorem T3.get_set (t : TR Nd) (v : Nd) {i j : Nat} (hi : i < 262144) (hj : j < 262144) : T3.get (T3.set t i v) j = if j = i then v else T3.get t j := TR.get_set deadNd t v hi hj
noncomputable def g3B (i : Nat) : Box (TR Nd → (Nd → RC) → RC) := tvG deadNd i
noncomputable def s3B (i : Nat) : Box (TR Nd → Nd → (TR Nd → RC) → RC) := tvS deadNd i
theorem g3B_eq (i : Nat) (t : TR Nd) (k : Nd → RC) : (g3B i).run t k = k (T3.get t i) := tvG_eq _ _ _ _
theorem s3B_eq (i : Nat) (t : TR Nd) (v : Nd) (k : TR Nd → RC) : (s3B i).run t v k = k (T3.set t i v) := tvS_eq _ _ _ _ _
def blank : FT := .s (Dn.rep undef 2)
def deadT : TR Nd := .s (Dn.rep deadNd 2)
def toL (n : Nat) (t : FT) : List Value := (List.range n).map (T2.get t)
def den (T : FT) : Fr := fun i => if i < 262144 then T2.get T i else undef
def absB : FB → Blk
 | .dead => .dead
 | .cells fam own n t => .cells fam own (toL n t)
 | .map _ es _ => .map es
 | .loop st pend nt T params assign body => .loop st pend nt (den T) params assign body
def FH.nd (H : FH) (i : Nat) : Nd := T3.get H.t i
def absH (H : FH) : Heap := (List.range H.n).map fun i => absB (H.nd i).x
def BOK (H : FH) (i : Nat) : FB → Prop
 | .cells fam _ n _ => n ≤ 262144 ∧ fam < H.n ∧ (0 < n → i ∈ (H.nd fam).ms) ∧ n ≤ (H.nd fam).mx
 | .map kk es mt => kk ≠ 0 ∧ (∀ e ∈ es, keyTag e.1 = kk) ∧ ∀ k, keyTag k = kk → mfind (codeK' k) mt (mix (codeK' k)) = findA k es
 | _ => True
structure FH.OK (H : FH) : Prop where
 le : H.n ≤ 262144
 ok : ∀ i, i < H.n → BOK H i (H.nd i).x
theorem toL_length (n : Nat) (t : FT) : (toL n t).length = n := by simp [toL]
theorem toL_get {n : Nat} {t : FT} {i : Nat} : (toL n t)[i]? = if i < n then some (T2.get t i) else none := by
 unfold toL
 rw [List.getElem?_map]
 split
 ·rename_i h; rw [List.getElem?_range h]; rfl
 ·rename_i h; rw [List.getElem?_eq_none (by simp; omega)]; rfl
theorem toL_take {n k : Nat} {t : FT} (h : k ≤ n) : (toL n t).take k = toL k t := by
 apply List.ext_getElem?
 intro i
 rw [List.getElem?_take, toL_get, toL_get]
 split
 ·rw [if_pos (by omega)]
 ·rfl
theorem absH_length (H : FH) : (absH H).length = H.n := by simp [absH]
theorem absH_get {H : FH} {i : Nat} : (absH H)[i]? = if i < H.n then some (absB (H.nd i).x) else none := by
 unfold absH
 rw [List.getElem?_map]
 split
 ·rename_i h; rw [List.getElem?_range h]; rfl
 ·rename_i h; rw [List.getElem?_eq_none (by simp; omega)]; rfl
theorem absH_eq {H : FH} {G : Heap} (hl : G.length = H.n) (h : ∀ i, i < H.n → G[i]? = some (absB (H.nd i).x)) : absH H = G := by
 apply List.ext_getElem?
 intro i
 rw [absH_get]
 split
 ·rename_i hi; rw [h i hi]
 ·rename_i hi; rw [List.getElem?_eq_none (by omega)]
end Go.Abs
namespace Go.Abs
section
variable {α : Type}
noncomputable def fN (n : Nat) (f : Nat → α) : α := Nat.rec (motive := fun _ => α) (f 0) (fun k _ => f k) (Nat.add n 1)
noncomputable def fI (z : Int) (f : Int → α) : α := Int.rec (motive := fun _ => α) (fun n => fN n fun k => f (.ofNat k)) (fun n => fN n fun k => f (.negSucc k)) z
noncomputable def fB (b : Bool) (f : Bool → α) : α := Bool.rec (motive := fun _ => α) (f false) (f true) b
noncomputable def fP (a : Option Addr) (f : Option Addr → α) : α := match a with
 | none => f none
 | some ⟨b, o, none⟩ => fN b fun b => fN o fun o => f (some ⟨b, o, none⟩)
 | some ⟨b, o, some p⟩ => fN b fun b => fN o fun o => fN p fun p => f (some ⟨b, o, some p⟩)
noncomputable def fU (u : UInt8) (f : UInt8 → α) : α := fN u.toNat fun n => f (UInt8.ofNat n)
noncomputable def fUs (l : List UInt8) : (List UInt8 → α) → α := List.rec (motive := fun _ => (List UInt8 → α) → α) (fun f => f []) (fun x _ ih f => fU x fun x => ih fun xs => f (x :: xs)) l
noncomputable def fS (v : Value) (f : Value → α) : α := match v with
 | .int k z => fI z fun z => f (.int k z)
 | .bool b => fB b fun b => f (.bool b)
 | .slice a n c => fP a fun a => fN n fun n => fN c fun c => f (.slice a n c)
 | .pointer a => fP a fun a => f (.pointer a)
 | .map (some b) => fN b fun b => f (.map (some b))
 | .string s => fUs s.data.toList fun l => f (.string ⟨⟨l⟩⟩)
 | v => f v
noncomputable def fSs (l : List Value) : (List Value → α) → α := List.rec (motive := fun _ => (List Value → α) → α) (fun f => f []) (fun x _ ih f => fS x fun x => ih fun xs => f (x :: xs)) l
noncomputable def fA (v : Value) (f : Value → α) : α := match v with
 | .agg cs => fSs cs.toList fun l => f (.agg ⟨l⟩)
 | .func fn a cap => fSs cap.toList fun l => f (.func fn a ⟨l⟩)
 | v => fS v f
noncomputable def fAs (l : List Value) : (List Value → α) → α := List.rec (motive := fun _ => (List Value → α) → α) (fun f => f []) (fun x _ ih f => fA x fun x => ih fun xs => f (x :: xs)) l
noncomputable def fV (v : Value) (f : Value → α) : α := match v with
 | .tuple cs => fAs cs.toList fun l => f (.tuple ⟨l⟩)
 | v => fA v f
end
section
variable {α β : Type}
end
def eqZ : Int → Int → Bool
 | .ofNat m, .ofNat n => Nat.beq m n
 | .negSucc m, .negSucc n => Nat.beq m n
 | _, _ => false
def ltZ : Int → Int → Bool
 | .ofNat m, .ofNat n => Nat.ble (m + 1) n
 | .negSucc _, .ofNat _ => true
 | .ofNat _, .negSucc _ => false
 | .negSucc m, .negSucc n => Nat.ble (n + 1) m
section
variable {α : Type}
theorem fN_eq (n : Nat) (f : Nat → α) : fN n f = f n := rfl
theorem fI_eq (z : Int) (f : Int → α) : fI z f = f z := by cases z <;> rfl
theorem fB_eq (b : Bool) (f : Bool → α) : fB b f = f b := by cases b <;> rfl
theorem fP_eq (a : Option Addr) (f : Option Addr → α) : fP a f = f a := by
 cases a with
 | none => rfl
 | some a => obtain ⟨b, o, s⟩ := a; cases s <;> rfl
theorem fU_eq (u : UInt8) (f : UInt8 → α) : fU u f = f u := by simp [fU, fN_eq]
theorem fUs_eq (l : List UInt8) (f : List UInt8 → α) : fUs l f = f l := by
 unfold fUs
 induction l generalizing f with
 | nil => rfl
 | cons x xs ih => exact (fU_eq _ _).trans (ih _)
theorem fS_eq (v : Value) (f : Value → α) : fS v f = f v := by
 unfold fS
 split <;> simp [fI_eq, fB_eq, fP_eq, fN_eq, fUs_eq]
theorem fSs_eq (l : List Value) (f : List Value → α) : fSs l f = f l := by
 unfold fSs
 induction l generalizing f with
 | nil => rfl
 | cons x xs ih => exact (fS_eq _ _).trans (ih _)
theorem fA_eq (v : Value) (f : Value → α) : fA v f = f v := by
 unfold fA
 split <;> simp [fSs_eq, fS_eq]
theorem fAs_eq (l : List Value) (f : List Value → α) : fAs l f = f l := by
 unfold fAs
 induction l generalizing f with
 | nil => rfl
 | cons x xs ih => exact (fA_eq _ _).trans (ih _)
theorem fV_eq (v : Value) (f : Value → α) : fV v f = f v := by
 unfold fV
 split <;> simp [fAs_eq, fA_eq]
end
section
variable {α β : Type}
end
theorem eqZ_eq (a b : Int) : eqZ a b = (a == b) := by
 rw [Bool.eq_iff_iff, beq_iff_eq]
 cases a <;> cases b <;> simp [eqZ, Nat.beq_eq] <;> omega
theorem ltZ_eq (a b : Int) : ltZ a b = decide (a < b) := by
 rw [Bool.eq_iff_iff, decide_eq_true_eq]
 cases a <;> cases b <;> simp [ltZ, Nat.ble_eq] <;> omega
theorem wrap_small {z : Int} (h1 : -9223372036854775808 ≤ z) (h2 : z ≤ 9223372036854775807) : IntKind.i64.wrap z = z := by
 simp only [IntKind.wrap, IntKind.bits, IntKind.signed]
 simp only [show ((2:Int)^64) = 18446744073709551616 from rfl, show ((2:Int)^(64-1)) = 9223372036854775808 from rfl, Bool.true_and, decide_eq_true_eq, ge_iff_le]
 split <;> omega
section
variable {P : Program}
theorem plainA_bin {a : Fr} {o : Oper} {op : BinOp} {t t' : TypeId} {x y : Operand} {v : Value} (ho : o.op = .binOp op t x y t') (hx : plain (ev a x) = true) (hy : plain (ev a y) = true) (hb : ((pureVal P (execOp (ev a) o)).bind valOf) = some v) (hv : plain v = true) : plainA P a o = some v := by
 unfold plainA
 have : (o.op.operands.toList.all fun x => plain (ev a x)) = true := by rw [ho]; simp [Op.operands, hx, hy]
 rw [if_pos this, hb]
 simp [hv]
theorem pv (x : Next) : pureVal P (pure x : Sem Next) = some x := rfl
theorem nilCmp_int {t : TypeId} {k l : IntKind} {m n : Int} : nilCmp P t (.int k m) (.int l n) = none := by
 unfold nilCmp
 split <;> first | rfl | (rename_i h1 h2; cases h1) | (rename_i h1 _; cases h1) | simp_all
theorem aexec_bin {a : Fr} {o : Oper} {op : BinOp} {t t' : TypeId} {x y : Operand} {v : Value} {m n : Int} {H : Heap} (ho : o.op = .binOp op t x y t') (hx : ev a x = .int .i64 m) (hy : ev a y = .int .i64 n) (hb : ((pureVal P (execOp (ev a) o)).bind valOf) = some v) (hv : plain v = true) : aexec P a o H = some (v, H) := by
 have hp := plainA_bin (P := P) ho (by rw [hx]; rfl) (by rw [hy]; rfl) hb hv
 unfold aexec
 rw [ho]
 cases op <;> simp only [hx, hy, nilCmp_int, hp, Option.map_some]
end
end Go.Abs
namespace Go.Abs
section
noncomputable def ndE (H : FH) (b : Nat) (nn : RC) (k : Nd → RC) : RC := FH.rec (fun n t => Bool.rec nn ((g3B b).run t k) (Nat.ble (Nat.add b 1) n)) H
noncomputable def ndK (H : FH) (b : Nat) (k : Nd → RC) : RC := FH.rec (fun n t => Bool.rec RC.no ((g3B b).run t k) (Nat.ble (Nat.add b 1) n)) H
noncomputable def fbK : Nd → (Nat → Bool → Nat → FT → RC) → RC := Nd.rec (fun x _ _ => FB.rec (motive := fun _ => (Nat → Bool → Nat → FT → RC) → RC) (fun _ => RC.no) (fun fam own n t k => k fam own n t) (fun _ _ _ _ => RC.no) (fun _ _ _ _ _ _ _ _ => RC.no) x)
noncomputable def cellsK (H : FH) (b : Nat) (k : Nat → Bool → Nat → FT → RC) : RC := ndK H b fun d => fbK d k
noncomputable def rowK (t : FT) (o n : Nat) (k : List Value → RC) : RC :=
 Nat.rec (motive := fun _ => Nat → (List Value → RC) → RC) (fun _ k => k []) (fun _ ih o k => (g2B o).run t fun v => fN (Nat.add o 1) fun o => ih o fun l => k (v :: l)) n o k
noncomputable def setsK (vs : List Value) (t : FT) (o : Nat) (k : FT → RC) : RC :=
 List.rec (motive := fun _ => Nat → FT → (FT → RC) → RC) (fun _ t k => k t) (fun v _ ih o t k => (s2B o).run t v fun t => fN (Nat.add o 1) fun o => ih o t k) vs o t k
noncomputable def setNdK (H : FH) (b : Nat) (d : Nd) (k : FH → RC) : RC := FH.rec (fun n t => (s3B b).run t d fun t => k ⟨n, t⟩) H
noncomputable def pushK (H : FH) (f : Nat → Nd) (k : Nat → FH → RC) : RC := FH.rec (fun n t => Bool.rec ((s3B n).run t (f n) fun t => fN (Nat.add n 1) fun m => k n ⟨m, t⟩) RC.no (Nat.ble 262144 n)) H
noncomputable def truncK (fam o skip : Nat) (ms : List Nat) (H : FH) (k : FH → List Nat → RC) : RC :=
 List.rec (motive := fun _ => FH → (FH → List Nat → RC) → RC) (fun H k => k H [])
  (fun m _ ih H k => bif Nat.beq m skip then ih H fun H l => k H (m :: l) else ndE H m (ih H k) fun d => Nd.rec (fun x mx ms => FB.rec (ih H k)
   (fun f own n t => bif Nat.beq f fam then (bif Nat.ble n o then ih H (bif Nat.beq n 0 then k else fun H l => k H (m :: l))
    else setNdK H m ⟨.cells f own o t, mx, ms⟩ fun H => ih H (bif Nat.beq o 0 then k else fun H l => k H (m :: l))) else ih H k)
   (fun _ _ _ => ih H k) (fun _ _ _ _ _ _ _ => ih H k) x) d) ms H k
noncomputable def famK (H : FH) (fam mx : Nat) (ms : List Nat) (k : FH → RC) : RC := ndK H fam fun d => Nd.rec (fun x _ _ => setNdK H fam ⟨x, mx, ms⟩ k) d
def single (ms : List Nat) (b : Nat) : Bool := match ms with
 | [x] => Nat.beq x b
 | _ => false
end
def sets : List Value → FT → Nat → FT
 | [], t, _ => t
 | v :: vs, t, o => sets vs (T2.set t o v) (o + 1)
def FH.setNd (H : FH) (i : Nat) (d : Nd) : FH := ⟨H.n, T3.set H.t i d⟩
def FH.push (H : FH) (d : Nd) : FH := ⟨H.n + 1, T3.set H.t H.n d⟩
section
theorem ndE_eq (H : FH) (b : Nat) (nn : RC) (k : Nd → RC) : ndE H b nn k = if b < H.n then k (H.nd b) else nn := by
 unfold ndE FH.nd
 cases H with
 | mk n t =>
   simp only [show Nat.ble (Nat.add b 1) n = decide (b < n) from ble_if, g3B_eq]
   by_cases h : b < n <;> simp [h]
theorem ndK_eq (H : FH) (b : Nat) (k : Nd → RC) : ndK H b k = if b < H.n then k (H.nd b) else RC.no := ndE_eq H b RC.no k
theorem cellsK_or (H : FH) (b : Nat) (k : Nat → Bool → Nat → FT → RC) : cellsK H b k = RC.no ∨ ∃ fam own n t, b < H.n ∧ (H.nd b).x = .cells fam own n t ∧ cellsK H b k = k fam own n t := by
 unfold cellsK
 rw [ndK_eq]
 split
 ·rename_i hb
  cases hd : H.nd b with
  | mk x mx ms =>
    cases x with
    | cells fam own n t => exact .inr ⟨fam, own, n, t, hb, rfl, rfl⟩
    | dead => exact .inl rfl
    | map es => exact .inl rfl
    | loop => exact .inl rfl
 ·exact .inl rfl
theorem rowK_eq {t : FT} {n o m : Nat} (h : o + n ≤ m) (k : List Value → RC) : rowK t o n k = k (((toL m t).drop o).take n) := by
 induction n generalizing o k with
 | zero => rw [List.take_zero]; rfl
 | succ n ih =>
   have e : rowK t o (n + 1) k = (g2B o).run t fun v => fN (Nat.add o 1) fun o => rowK t o n fun l => k (v :: l) := rfl
   rw [e, g2B_eq, fN_eq]
   refine (ih (o := o + 1) (by omega) _).trans ?_
   have : (toL m t).drop o = T2.get t o :: (toL m t).drop (o + 1) := by
    rw [← List.getElem_cons_drop (by rw [toL_length]; omega)]
    congr 1
    have h1 := toL_get (n := m) (t := t) (i := o)
    rw [if_pos (by omega), List.getElem?_eq_getElem (by rw [toL_length]; omega)] at h1
    exact Option.some.inj h1
   rw [this]; rfl
theorem setsK_eq (vs : List Value) (t : FT) (o : Nat) (k : FT → RC) : setsK vs t o k = k (sets vs t o) := by
 induction vs generalizing t o with
 | nil => rfl
 | cons v vs ih =>
   have e : setsK (v :: vs) t o k = (s2B o).run t v fun t => fN (Nat.add o 1) fun o => setsK vs t o k := rfl
   rw [e, s2B_eq, fN_eq]
   exact ih _ _
theorem setNdK_eq (H : FH) (b : Nat) (d : Nd) (k : FH → RC) : setNdK H b d k = k (H.setNd b d) := by
 unfold setNdK FH.setNd; cases H; simp only [s3B_eq]
theorem pushK_or (H : FH) (f : Nat → Nd) (k : Nat → FH → RC) : pushK H f k = RC.no ∨ (H.n < 262144 ∧ pushK H f k = k H.n (H.push (f H.n))) := by
 unfold pushK FH.push
 cases H with
 | mk n t =>
   simp only
   cases h : Nat.ble 262144 n with
   | true => exact .inl rfl
   | false =>
     have h3 : n < 262144 := by { apply Nat.lt_of_not_le; intro h2; rw [Nat.ble_eq_true_of_le h2] at h; exact Bool.noConfusion h }
     refine .inr ⟨h3, ?_⟩
     simp only [s3B_eq, fN_eq]
end
theorem sets_toL {m : Nat} (hm : m ≤ 262144) : ∀ {vs : List Value} {t : FT} {o : Nat}, o + vs.length ≤ m → toL m (sets vs t o) = setList (toL m t) o vs := by
 intro vs
 induction vs with
 | nil => intro t o _; rfl
 | cons v vs ih =>
   intro t o h
   simp only [List.length_cons] at h
   show toL m (sets vs (T2.set t o v) (o + 1)) = setList ((toL m t).set o v) (o + 1) vs
   rw [ih (by omega)]
   congr 1
   apply List.ext_getElem?
   intro i
   rw [toL_get, List.getElem?_set, toL_get, toL_length]
   by_cases hi : i < m
   ·rw [if_pos hi, T2.get_set _ _ (by omega) (by omega), if_pos hi]
    by_cases ho : o = i
    ·rw [if_pos ho.symm, if_pos ho, if_pos (by omega)]
    ·rw [if_neg (Ne.symm ho), if_neg ho]
   ·rw [if_neg hi, if_neg hi]
    split
    ·rw [if_neg (by omega)]
    ·rfl
def ofL (l : List Value) : FT := sets l blank 0
theorem toL_sets_new {n : Nat} {t : FT} {news : List Value} (h : n + news.length ≤ 262144) : toL (n + news.length) (sets news t n) = toL n t ++ news := by
 rw [sets_toL (by omega) (by omega)]
 apply List.ext_getElem?
 intro i
 rw [setList_get _ _ _ _ (by rw [toL_length]; omega), toL_get, List.getElem?_append, toL_length, toL_get]
 by_cases hi : i < n
 ·rw [if_neg (by omega), if_pos (by omega), if_pos hi, if_pos hi]
 ·rw [if_neg hi]
  by_cases h2 : i < n + news.length
  ·rw [if_pos ⟨by omega, h2⟩]
  ·rw [if_neg (by omega), if_neg h2, List.getElem?_eq_none (by omega)]
theorem ofL_toL {l : List Value} (h : l.length ≤ 262144) : toL l.length (ofL l) = l := by
 have := toL_sets_new (n := 0) (t := blank) (news := l) (by omega)
 rw [Nat.zero_add] at this
 exact this
theorem nd_setNd {H : FH} (hH : H.OK) {i : Nat} (hi : i < H.n) (d : Nd) {j : Nat} (hj : j < H.n) : (H.setNd i d).nd j = if j = i then d else H.nd j := by
 have := hH.le
 exact T3.get_set _ _ (by omega) (by omega)
theorem nd_push {H : FH} (hn : H.n < 262144) (d : Nd) {j : Nat} (hj : j < H.n + 1) : (H.push d).nd j = if j = H.n then d else H.nd j :=
 T3.get_set _ _ (by omega) (by omega)
theorem absH_setNd {H : FH} (hH : H.OK) {i : Nat} (hi : i < H.n) (d : Nd) : absH (H.setNd i d) = (absH H).set i (absB d.x) := by
 apply absH_eq
 ·rw [List.length_set, absH_length]; rfl
 ·intro j hj
  have hj : j < H.n := hj
  rw [nd_setNd hH hi d hj, List.getElem?_set, absH_length, absH_get, if_pos hj]
  by_cases h : i = j
  ·rw [if_pos h, if_pos h.symm, if_pos hi]
  ·rw [if_neg h, if_neg (Ne.symm h)]
theorem absH_push {H : FH} (hn : H.n < 262144) (d : Nd) : absH (H.push d) = absH H ++ [absB d.x] := by
 apply absH_eq
 ·rw [List.length_append, absH_length]; rfl
 ·intro j hj
  have hj : j < H.n + 1 := hj
  rw [nd_push hn d hj, List.getElem?_append, absH_length, absH_get]
  by_cases h : j = H.n
  ·subst h; simp
  ·rw [if_neg h, if_pos (by omega), if_pos (by omega)]
def noCells : FB → Prop
 | .cells _ _ _ _ => False
 | _ => True
theorem BOK.mono {H G : FH} (hn : H.n ≤ G.n) {i : Nat} {x : FB} (h : BOK H i x) (hf : ∀ f, f < H.n → (i ∈ (H.nd f).ms → i ∈ (G.nd f).ms) ∧ (H.nd f).mx ≤ (G.nd f).mx) : BOK G i x := by
 cases x with
 | cells fam own n t =>
   obtain ⟨h1, h2, h3, h4⟩ := h
   exact ⟨h1, by omega, fun h0 => (hf fam h2).1 (h3 h0), Nat.le_trans h4 (hf fam h2).2⟩
 | map kk es mt => exact h
 | _ => trivial
theorem OK_push {H : FH} (hH : H.OK) (hn : H.n < 262144) (d : Nd) (hd : BOK (H.push d) H.n d.x) : (H.push d).OK := by
 refine ⟨by show H.n + 1 ≤ 262144; omega, fun i hi => ?_⟩
 have hi : i < H.n + 1 := hi
 rw [nd_push hn d hi]
 by_cases h : i = H.n
 ·rw [if_pos h, h]; exact hd
 ·rw [if_neg h]
  refine (hH.ok i (by omega)).mono (by show H.n ≤ H.n + 1; omega) fun f hf => ?_
  rw [nd_push hn d (by omega), if_neg (by omega)]
  exact ⟨id, Nat.le_refl _⟩
theorem BOK_new {H : FH} (hn : H.n < 262144) {own : Bool} {n : Nat} {t : FT} (h : n ≤ 262144) : BOK (H.push ⟨.cells H.n own n t, n, [H.n]⟩) H.n (.cells H.n own n t) := by
 have e : (H.push ⟨.cells H.n own n t, n, [H.n]⟩).nd H.n = ⟨.cells H.n own n t, n, [H.n]⟩ := by rw [nd_push hn _ (by omega), if_pos rfl]
 refine ⟨h, by show H.n < H.n + 1; omega, fun _ => ?_, ?_⟩
 ·rw [e]; simp
 ·rw [e]; exact Nat.le_refl _
theorem OK_setNd {H : FH} (hH : H.OK) {i : Nat} (hi : i < H.n) (d : Nd) (hd : BOK (H.setNd i d) i d.x) (hms : ∀ j, j < H.n → j ≠ i → BOK (H.setNd i d) j (H.nd j).x) : (H.setNd i d).OK := by
 refine ⟨hH.le, fun j hj => ?_⟩
 have hj : j < H.n := hj
 rw [nd_setNd hH hi d hj]
 by_cases h : j = i
 ·rw [if_pos h, h]; exact hd
 ·rw [if_neg h]; exact hms j hj h
theorem OK_setX {H : FH} (hH : H.OK) {i : Nat} (hi : i < H.n) (x : FB) (hx : BOK H i x) : (H.setNd i ⟨x, (H.nd i).mx, (H.nd i).ms⟩).OK := by
 have hk : ∀ f, f < H.n → ((H.setNd i ⟨x, (H.nd i).mx, (H.nd i).ms⟩).nd f).ms = (H.nd f).ms ∧ ((H.setNd i ⟨x, (H.nd i).mx, (H.nd i).ms⟩).nd f).mx = (H.nd f).mx := by
  intro f hf
  rw [nd_setNd hH hi _ hf]
  split
  ·rename_i h; subst h; exact ⟨rfl, rfl⟩
  ·exact ⟨rfl, rfl⟩
 have hm : ∀ f, f < H.n → ∀ j, (j ∈ (H.nd f).ms → j ∈ ((H.setNd i ⟨x, (H.nd i).mx, (H.nd i).ms⟩).nd f).ms) ∧ (H.nd f).mx ≤ ((H.setNd i ⟨x, (H.nd i).mx, (H.nd i).ms⟩).nd f).mx :=
  fun f hf j => by rw [(hk f hf).1, (hk f hf).2]; exact ⟨id, Nat.le_refl _⟩
 exact OK_setNd hH hi _ (BOK.mono (H := H) (G := H.setNd i ⟨x, (H.nd i).mx, (H.nd i).ms⟩) (Nat.le_refl H.n) hx fun f hf => hm f hf i) fun j hj _ => BOK.mono (H := H) (G := H.setNd i ⟨x, (H.nd i).mx, (H.nd i).ms⟩) (Nat.le_refl H.n) (hH.ok j hj) fun f hf => hm f hf j
end Go.Abs
namespace Go.Abs
def truncX (fam o : Nat) : FB → FB
 | .cells f own n t => if f = fam then (if n ≤ o then .cells f own n t else .cells f own o t) else .cells f own n t
 | x => x
def FH.setX (H : FH) (i : Nat) (x : FB) : FH := H.setNd i ⟨x, (H.nd i).mx, (H.nd i).ms⟩
structure Cut (fam o skip : Nat) (ms : List Nat) (H H' : FH) : Prop where
 ok : H'.OK
 hn : H'.n = H.n
 hmx : ∀ i, i < H.n → (H'.nd i).mx = (H.nd i).mx
 hms : ∀ i, i < H.n → (H'.nd i).ms = (H.nd i).ms
 hx : ∀ i, i < H.n → (H'.nd i).x = if i ∈ ms ∧ i ≠ skip then truncX fam o (H.nd i).x else (H.nd i).x
def kept (fam skip : Nat) (ms : List Nat) (H' : FH) (l : List Nat) : Prop := ∀ i, i < H'.n → i ∈ ms → (i = skip ∨ ∃ own n t, (H'.nd i).x = .cells fam own n t ∧ 0 < n) → i ∈ l
theorem truncX_idem (fam o : Nat) (x : FB) : truncX fam o (truncX fam o x) = truncX fam o x := by
 cases x with
 | cells f own n t =>
   unfold truncX
   by_cases h : f = fam
   ·by_cases h2 : n ≤ o
    ·simp [h, h2]
    ·simp [h, h2]
   ·simp [h]
 | _ => rfl
theorem setX_nd {H : FH} (hH : H.OK) {i : Nat} (hi : i < H.n) (x : FB) {j : Nat} (hj : j < H.n) : ((H.setX i x).nd j).x = (if j = i then x else (H.nd j).x) ∧ ((H.setX i x).nd j).mx = (H.nd j).mx ∧ ((H.setX i x).nd j).ms = (H.nd j).ms := by
 unfold FH.setX
 rw [nd_setNd hH hi _ hj]
 by_cases h : j = i
 ·subst h; simp
 ·simp [h]
theorem OK_cut {H : FH} (hH : H.OK) {i : Nat} (hi : i < H.n) (fam o : Nat) : (H.setX i (truncX fam o (H.nd i).x)).OK := by
 refine OK_setX hH hi _ ?_
 have := hH.ok i hi
 cases hx : (H.nd i).x with
 | cells f own n t =>
   rw [hx] at this
   obtain ⟨h1, h2, h3, h4⟩ := this
   unfold truncX
   by_cases hf : f = fam
   ·by_cases hn : n ≤ o
    ·simp only [hf, hn, if_true]; subst hf; exact ⟨h1, h2, h3, h4⟩
    ·simp only [hf, hn, if_true, if_false]; subst hf; exact ⟨by omega, h2, fun h => h3 (by omega), by omega⟩
   ·simp only [hf, if_false]; exact ⟨h1, h2, h3, h4⟩
 | map kk es mt => rw [hx] at this; exact this
 | _ => trivial
section
theorem truncK_or (fam o skip : Nat) : ∀ (ms : List Nat) (H : FH) (k : FH → List Nat → RC), H.OK → ∃ H' l, truncK fam o skip ms H k = k H' l ∧ Cut fam o skip ms H H' ∧ kept fam skip ms H' l := by
 intro ms
 induction ms with
 | nil => intro H k hH; exact ⟨H, [], rfl, ⟨hH, rfl, fun _ _ => rfl, fun _ _ => rfl, fun i _ => by simp⟩, fun i _ h => by cases h⟩
 | cons m ms ih =>
   intro H k hH
   have e : truncK fam o skip (m :: ms) H k = bif Nat.beq m skip then truncK fam o skip ms H fun H l => k H (m :: l) else ndE H m (truncK fam o skip ms H k) fun d => Nd.rec (fun x mx ms' => FB.rec (truncK fam o skip ms H k)
    (fun f own n t => bif Nat.beq f fam then (bif Nat.ble n o then truncK fam o skip ms H (bif Nat.beq n 0 then k else fun H l => k H (m :: l))
     else setNdK H m ⟨.cells f own o t, mx, ms'⟩ fun H => truncK fam o skip ms H (bif Nat.beq o 0 then k else fun H l => k H (m :: l))) else truncK fam o skip ms H k)
    (fun _ _ _ => truncK fam o skip ms H k) (fun _ _ _ _ _ _ _ => truncK fam o skip ms H k) x) d := rfl
   -- the step: H1 is H with m cut short
   have step : ∀ (H1 : FH) (k1 : FH → List Nat → RC) (add : Bool), H1.OK → H1.n = H.n → (∀ i, i < H.n → (H1.nd i).mx = (H.nd i).mx ∧ (H1.nd i).ms = (H.nd i).ms ∧ (H1.nd i).x = if i = m ∧ i ≠ skip then truncX fam o (H.nd i).x else (H.nd i).x) →
     (∀ H l, k1 H l = k H (if add then m :: l else l)) →
     (m < H.n → (m = skip ∨ ∃ own n t, (H1.nd m).x = .cells fam own n t ∧ 0 < n) → add = true) →
     ∃ H' l, truncK fam o skip ms H1 k1 = k H' l ∧ Cut fam o skip (m :: ms) H H' ∧ kept fam skip (m :: ms) H' l := by
    intro H1 k1 add h1 hn hall hk1 hadd
    obtain ⟨H', l, e1, c, kp⟩ := ih H1 k1 h1
    refine ⟨H', if add then m :: l else l, by rw [e1, hk1], ⟨c.ok, by rw [c.hn, hn], fun i hi => ?_, fun i hi => ?_, fun i hi => ?_⟩, ?_⟩
    ·rw [c.hmx i (by omega), (hall i hi).1]
    ·rw [c.hms i (by omega), (hall i hi).2.1]
    ·rw [c.hx i (by omega), (hall i hi).2.2]
     by_cases hm : i = m
     ·subst hm
      by_cases hs : i = skip
      ·simp [hs]
      ·by_cases hin : i ∈ ms
       ·simp [hs, hin, truncX_idem]
       ·simp [hs, hin]
     ·by_cases hin : i ∈ ms
      ·simp [hm, hin]
      ·simp [hm, hin]
    ·intro i hi him hc
     have hiH : i < H.n := by rw [c.hn, hn] at hi; exact hi
     have keep : i ∈ l → i ∈ (if add then m :: l else l) := by intro h; cases add <;> simp [h]
     by_cases hin : i ∈ ms
     ·exact keep (kp i hi hin hc)
     ·have hm : i = m := by rcases List.mem_cons.1 him with h | h; exact h; exact absurd h hin
      have hx : (H'.nd i).x = (H1.nd i).x := by rw [c.hx i (by omega)]; simp [hin]
      have : add = true := hadd (by rw [← hm]; exact hiH) (by rw [← hm, ← hx]; exact hc)
      rw [this, hm]; simp
   have same : ∀ {p : Prop} [Decidable p] (x : FB), (truncX fam o x = x ∨ ¬ p) → x = if p then truncX fam o x else x := by
    intro p _ x h
    by_cases hp : p
    ·rw [if_pos hp]
     rcases h with h | h
     ·exact h.symm
     ·exact absurd hp h
    ·rw [if_neg hp]
   rw [e]
   cases hb : Nat.beq m skip with
   | true =>
     have hms := Nat.eq_of_beq_eq_true hb
     simp only [cond_true]
     refine step H _ true hH rfl (fun i _ => ⟨rfl, rfl, same _ (.inr ?_)⟩) (fun _ _ => rfl) (fun _ _ => rfl)
     rintro ⟨h1, h2⟩
     exact h2 (h1.trans hms)
   | false =>
     have hms := Nat.ne_of_beq_eq_false hb
     simp only [cond_false]
     rw [ndE_eq]
     split
     case isFalse hlt =>
      refine step H k false hH rfl (fun i hi => ⟨rfl, rfl, same _ (.inr ?_)⟩) (fun _ _ => rfl) (fun h => absurd h hlt)
      rintro ⟨h1, _⟩; omega
     case isTrue hlt =>
      cases hd : H.nd m with
      | mk x mx ms' =>
        have hx : (H.nd m).x = x := by rw [hd]
        have other : noCells x → ∃ H' l, truncK fam o skip ms H k = k H' l ∧ Cut fam o skip (m :: ms) H H' ∧ kept fam skip (m :: ms) H' l := by
         intro hno
         refine step H k false hH rfl (fun i hi => ⟨rfl, rfl, same _ ?_⟩) (fun _ _ => rfl) (fun _ h => ?_)
         ·by_cases him : i = m
          ·left; rw [him, hx]; cases x <;> first | exact hno.elim | rfl
          ·right; rintro ⟨h1, _⟩; exact him h1
         ·rcases h with h | ⟨own, n, t, h, _⟩
          ·exact absurd h hms
          ·rw [hx] at h; subst h; exact hno.elim
        cases x with
        | dead => exact other trivial
        | map es => exact other trivial
        | loop => exact other trivial
        | cells f own n t =>
          show ∃ H' l, (bif Nat.beq f fam then (bif Nat.ble n o then truncK fam o skip ms H (bif Nat.beq n 0 then k else fun H l => k H (m :: l))
           else setNdK H m ⟨.cells f own o t, mx, ms'⟩ fun H => truncK fam o skip ms H (bif Nat.beq o 0 then k else fun H l => k H (m :: l))) else truncK fam o skip ms H k) = k H' l ∧ _
          cases hf : Nat.beq f fam with
          | false =>
            have hff := Nat.ne_of_beq_eq_false hf
            simp only [cond_false]
            refine step H k false hH rfl (fun i hi => ⟨rfl, rfl, same _ ?_⟩) (fun _ _ => rfl) (fun _ h => ?_)
            ·by_cases him : i = m
             ·left; rw [him, hx]; simp [truncX, hff]
             ·right; rintro ⟨h1, _⟩; exact him h1
            ·rcases h with h | ⟨own, n, t, h, _⟩
             ·exact absurd h hms
             ·rw [hx] at h; cases h; exact absurd rfl hff
          | true =>
            have hff := Nat.eq_of_beq_eq_true hf
            simp only [cond_true]
            cases hno : Nat.ble n o with
            | true =>
              have hle := Nat.le_of_ble_eq_true hno
              simp only [cond_true]
              refine step H _ (!Nat.beq n 0) hH rfl (fun i hi => ⟨rfl, rfl, same _ ?_⟩) (fun _ _ => ?_) (fun _ h => ?_)
              ·by_cases him : i = m
               ·left; rw [him, hx]; simp [truncX, hle]
               ·right; rintro ⟨h1, _⟩; exact him h1
              ·cases Nat.beq n 0 <;> rfl
              ·rcases h with h | ⟨own2, n2, t2, h, h0⟩
               ·exact absurd h hms
               ·rw [hx] at h; cases h
                cases hz : Nat.beq n 0 with
                | true => have := Nat.eq_of_beq_eq_true hz; omega
                | false => rfl
            | false =>
              have hgt : ¬ n ≤ o := by intro h; rw [Nat.ble_eq_true_of_le h] at hno; cases hno
              simp only [cond_false, setNdK_eq]
              have hset : H.setNd m ⟨.cells f own o t, mx, ms'⟩ = H.setX m (truncX fam o (H.nd m).x) := by
               unfold FH.setX; rw [hd]; simp [truncX, hff, hgt]
              rw [hset]
              have hnd := fun j (hj : j < H.n) => setX_nd hH hlt (truncX fam o (H.nd m).x) hj
              refine step _ _ (!Nat.beq o 0) (OK_cut hH hlt fam o) rfl (fun i hi => ⟨(hnd i hi).2.1, (hnd i hi).2.2, ?_⟩) (fun _ _ => ?_) (fun _ h => ?_)
              ·rw [(hnd i hi).1]
               by_cases him : i = m
               ·subst him; simp [hms]
               ·simp [him]
              ·cases Nat.beq o 0 <;> rfl
              ·rcases h with h | ⟨own2, n2, t2, h, h0⟩
               ·exact absurd h hms
               ·rw [(hnd m hlt).1, hx] at h
                simp [truncX, hff, hgt] at h
                cases hz : Nat.beq o 0 with
                | true => have := Nat.eq_of_beq_eq_true hz; omega
                | false => rfl
end
theorem absB_truncX (fam o : Nat) (x : FB) : absB (truncX fam o x) = truncFam fam o (absB x) := by
 cases x with
 | cells f own n t =>
   unfold truncX absB truncFam
   by_cases h : f = fam
   ·simp only [h, if_true]
    by_cases h2 : n ≤ o
    ·simp only [h2, if_true]
     rw [List.take_of_length_le (by rw [toL_length]; exact h2)]
    ·simp only [h2, if_false]
     rw [toL_take (by omega)]
   ·simp [h]
 | _ => rfl
theorem Cut.abs {fam o skip : Nat} {H H' : FH} (hH : H.OK) (hfam : fam < H.n) (c : Cut fam o skip (H.nd fam).ms H H') : ∀ i, i < H.n → i ≠ skip → absB (H'.nd i).x = truncFam fam o (absB (H.nd i).x) := by
 intro i hi hs
 rw [c.hx i hi]
 by_cases him : i ∈ (H.nd fam).ms
 ·rw [if_pos ⟨him, hs⟩, absB_truncX]
 ·rw [if_neg (fun h => him h.1)]
  have := hH.ok i hi
  cases hx : (H.nd i).x with
  | cells f own n t =>
    rw [hx] at this
    obtain ⟨_, _, h3, _⟩ := this
    unfold absB truncFam
    by_cases hf : f = fam
    ·subst hf
     have : n = 0 := by
      apply Nat.eq_zero_of_not_pos
      intro h; exact him (h3 h)
     subst this
     simp [toL]
    ·simp [hf]
  | _ => rfl
theorem Cut.fam {fam o skip mx' : Nat} {l : List Nat} {H H' : FH} (hfam : fam < H.n) (c : Cut fam o skip (H.nd fam).ms H H') (kp : kept fam skip (H.nd fam).ms H' l)
  (hmx : ∀ i, i < H.n → ∀ own n t, (H'.nd i).x = .cells fam own n t → n ≤ mx') : (H'.setNd fam ⟨(H'.nd fam).x, mx', l⟩).OK ∧ absH (H'.setNd fam ⟨(H'.nd fam).x, mx', l⟩) = absH H' := by
 have hn := c.hn
 have hf' : fam < H'.n := by omega
 have hnd := fun j (hj : j < H'.n) => nd_setNd c.ok hf' ⟨(H'.nd fam).x, mx', l⟩ hj
 have hx : ∀ j, j < H'.n → ((H'.setNd fam ⟨(H'.nd fam).x, mx', l⟩).nd j).x = (H'.nd j).x := by
  intro j hj; rw [hnd j hj]; split
  ·rename_i h; rw [h]
  ·rfl
 constructor
 ·refine ⟨c.ok.le, fun i hi => ?_⟩
  have hi : i < H'.n := hi
  rw [hx i hi]
  have hb := c.ok.ok i hi
  cases hc : (H'.nd i).x with
  | cells f own n t =>
    rw [hc] at hb
    obtain ⟨h1, h2, h3, h4⟩ := hb
    refine ⟨h1, h2, fun h0 => ?_, ?_⟩
    ·rw [hnd f h2]
     by_cases hf : f = fam
     ·rw [if_pos hf]
      refine kp i hi ?_ (.inr ⟨own, n, t, by rw [hc, hf], h0⟩)
      have := h3 h0
      rw [hf, c.hms fam hfam] at this
      exact this
     ·rw [if_neg hf]; exact h3 h0
    ·rw [hnd f h2]
     by_cases hf : f = fam
     ·rw [if_pos hf]; exact hmx i (by omega) own n t (by rw [hc, hf])
     ·rw [if_neg hf]; exact h4
  | map kk es mt => rw [hc] at hb; exact hb
  | _ => trivial
 ·apply absH_eq
  ·rw [absH_length]; rfl
  ·intro i hi
   have hi : i < H'.n := hi
   rw [absH_get, if_pos hi, hx i hi]
theorem single_eq {ms : List Nat} {b : Nat} (h : single ms b = true) : ms = [b] := by
 unfold single at h
 split at h
 ·rw [Nat.eq_of_beq_eq_true h]
 ·cases h
end Go.Abs
namespace Go.Abs
section
noncomputable def finK (vs : List Value) (fam n : Nat) (t : FT) (b o : Nat) (k : FH → RC) (H : FH) : RC :=
 ndK H b fun d => Nd.rec (fun _ mx ms => setsK vs t o fun t => setNdK H b ⟨.cells fam true n t, mx, ms⟩ k) d
noncomputable def writeK (H : FH) (b o m : Nat) (vs : List Value) (k : FH → RC) : RC :=
 cellsK H b fun fam own n t => bif own && Nat.ble (Nat.add o m) n then
  ndK H fam fun r => Nd.rec (fun _ mx ms => bif single ms b then finK vs fam n t b o k H
   else truncK fam o b ms H fun H1 l => famK H1 fam mx l (finK vs fam n t b o k)) r else RC.no
noncomputable def growK (H : FH) (b n0 n1 : Nat) (news : List Value) (k : Nat → FH → RC) : RC :=
 cellsK H b fun fam own nn t => bif own && (Nat.ble n0 nn && Nat.ble n1 262144) then
  ndK H fam fun r => Nd.rec (fun _ mx ms => setsK news t n0 fun t =>
   bif Nat.ble mx n0 then pushK H (fun _ => ⟨.cells fam true n1 t, 0, []⟩) fun i H2 => famK H2 fam n1 (i :: ms) (k i)
   else truncK fam n0 262144 ms H fun H1 l => pushK H1 (fun _ => ⟨.cells fam true n1 t, 0, []⟩) fun i H2 => famK H2 fam n1 (i :: l) (k i)) r else RC.no
noncomputable def newK (H : FH) (l : List Value) (n : Nat) (k : Nat → FH → RC) : RC :=
 bif Nat.ble n 262144 then setsK l blank 0 fun t => pushK H (fun i => ⟨.cells i true n t, n, [i]⟩) k else RC.no
end
theorem famK_eq (H : FH) (fam mx : Nat) (ms : List Nat) (k : FH → RC) : famK H fam mx ms k = if fam < H.n then k (H.setNd fam ⟨(H.nd fam).x, mx, ms⟩) else RC.no := by
 unfold famK
 rw [ndK_eq]
 split
 ·cases H.nd fam; simp only [setNdK_eq]
 ·rfl
theorem abs_write {H H2 : FH} (hH : H.OK) (h2 : H2.OK) (hn : H2.n = H.n) {b o fam n : Nat} {t : FT} {vs : List Value} (hb : b < H.n) (hx : (H.nd b).x = .cells fam true n t) (ho : o + vs.length ≤ n) (hx2 : ∃ own, (H2.nd b).x = .cells fam own n t)
  (habs : ∀ i, i < H.n → i ≠ b → absB (H2.nd i).x = truncFam fam o (absB (H.nd i).x)) :
  (H2.setX b (.cells fam true n (sets vs t o))).OK ∧ (absH H).write b o vs = some (absH (H2.setX b (.cells fam true n (sets vs t o)))) := by
 have hb2 : b < H2.n := by omega
 have hbo := hH.ok b hb
 rw [hx] at hbo
 obtain ⟨own, hx2⟩ := hx2
 have hbo2 := h2.ok b hb2
 rw [hx2] at hbo2
 refine ⟨OK_setX h2 hb2 _ hbo2, ?_⟩
 unfold Heap.write
 rw [absH_get, if_pos hb, hx]
 simp only [absB, toL_length, if_pos ho]
 congr 1
 symm
 apply absH_eq
 ·rw [List.length_set, List.length_map, absH_length]; exact hn.symm
 ·intro i hi
  have hi : i < H2.n := hi
  rw [(setX_nd h2 hb2 _ hi).1, List.getElem?_set, List.length_map, absH_length]
  by_cases h : b = i
  ·subst h
   rw [if_pos rfl, if_pos rfl, if_pos hb]
   simp only [absB]
   rw [sets_toL hbo.1 ho]
  ·rw [if_neg h, if_neg (Ne.symm h), List.getElem?_map, absH_get, if_pos (by omega), Option.map_some, habs i (by omega) (Ne.symm h)]
section
theorem finK_eq {vs : List Value} {fam n b o : Nat} {t : FT} {k : FH → RC} {H : FH} (hb : b < H.n) : finK vs fam n t b o k H = k (H.setX b (.cells fam true n (sets vs t o))) := by
 unfold finK FH.setX
 rw [ndK_eq, if_pos hb]
 cases H.nd b
 simp only [setsK_eq, setNdK_eq]
theorem writeK_or {H : FH} (hH : H.OK) (b o m : Nat) (vs : List Value) (hm : vs.length = m) (k : FH → RC) : writeK H b o m vs k = RC.no ∨ ∃ H', H'.OK ∧ (absH H).write b o vs = some (absH H') ∧ writeK H b o m vs k = k H' := by
 unfold writeK
 rcases cellsK_or H b (fun fam own n t => bif own && Nat.ble (Nat.add o m) n then
  ndK H fam fun r => Nd.rec (fun _ mx ms => bif single ms b then finK vs fam n t b o k H
   else truncK fam o b ms H fun H1 l => famK H1 fam mx l (finK vs fam n t b o k)) r else RC.no) with h | ⟨fam, own, n, t, hb, hx, h⟩
 ·exact .inl h
 rw [h]
 clear h
 cases hc : (own && Nat.ble (Nat.add o m) n) with
 | false => exact .inl rfl
 | true =>
   simp only [Bool.and_eq_true] at hc
   obtain ⟨rfl, hle⟩ := hc
   have ho : o + vs.length ≤ n := by rw [hm]; exact Nat.le_of_ble_eq_true hle
   simp only [cond_true]
   have hbo := hH.ok b hb
   rw [hx] at hbo
   obtain ⟨q1, q2, q3, q4⟩ := hbo
   rw [ndK_eq, if_pos q2]
   cases hf : H.nd fam with
   | mk xf mx ms =>
     show (bif single ms b then finK vs fam n t b o k H else truncK fam o b ms H fun H1 l => famK H1 fam mx l (finK vs fam n t b o k)) = RC.no ∨ _
     have hms : (H.nd fam).ms = ms := by rw [hf]
     have hmx : (H.nd fam).mx = mx := by rw [hf]
     cases hs : single ms b with
     | true =>
       have hs := single_eq hs
       right
       simp only [cond_true]
       rw [finK_eq hb]
       obtain ⟨r1, r2⟩ := abs_write hH hH rfl hb hx ho ⟨true, hx⟩ (fun i hi hib => by
        have := hH.ok i hi
        cases hxi : (H.nd i).x with
        | cells f own n t =>
          rw [hxi] at this
          obtain ⟨_, _, h3, _⟩ := this
          unfold absB truncFam
          by_cases hff : f = fam
          ·subst hff
           have : n = 0 := by
            apply Nat.eq_zero_of_not_pos
            intro h
            have := h3 h
            rw [hms, hs] at this
            exact hib (by simpa using this)
           subst this
           simp [toL]
          ·simp [hff]
        | _ => rfl)
       exact ⟨_, r1, r2, rfl⟩
     | false =>
       simp only [cond_false]
       obtain ⟨H1, l, e1, c, kp⟩ := truncK_or fam o b ms H (fun H1 l => famK H1 fam mx l (finK vs fam n t b o k)) hH
       rw [← hms] at c kp
       have hmx2 : ∀ i, i < H.n → ∀ own n t, (H1.nd i).x = .cells fam own n t → n ≤ mx := by
        intro i hi own n t h
        have := c.ok.ok i (by rw [c.hn]; exact hi)
        rw [h] at this
        obtain ⟨_, _, _, h4⟩ := this
        rw [c.hmx fam q2, hmx] at h4
        exact h4
       obtain ⟨r1, r2⟩ := c.fam q2 kp hmx2
       have hn2 := c.hn
       have hb1 : b < H1.n := by omega
       have hf1 : fam < H1.n := by omega
       have hnx : ∀ i, i < H1.n → ((H1.setNd fam ⟨(H1.nd fam).x, mx, l⟩).nd i).x = (H1.nd i).x := by
        intro i hi; rw [nd_setNd c.ok hf1 _ hi]; split
        ·rename_i h; rw [h]
        ·rfl
       obtain ⟨s1, s2⟩ := abs_write hH r1 hn2 hb hx ho ⟨true, by rw [hnx b hb1, c.hx b hb]; simp [hx]⟩ (fun i hi hib => by rw [hnx i (by omega)]; exact c.abs hH q2 i hi hib)
       right
       refine ⟨_, s1, s2, ?_⟩
       have key : truncK fam o b ms H (fun H1 l => famK H1 fam mx l (finK vs fam n t b o k)) = k ((H1.setNd fam ⟨(H1.nd fam).x, mx, l⟩).setX b (.cells fam true n (sets vs t o))) := by
        rw [e1, famK_eq, if_pos hf1, finK_eq (show b < (H1.setNd fam ⟨(H1.nd fam).x, mx, l⟩).n from hb1)]
       exact key
theorem growK_or {H : FH} (hH : H.OK) (b n0 n1 : Nat) (news : List Value) (hm : n0 + news.length = n1) (k : Nat → FH → RC) : growK H b n0 n1 news k = RC.no ∨ ∃ H' fam cs, n1 ≤ 262144 ∧ H'.OK ∧ (absH H)[b]? = some (.cells fam true cs) ∧ n0 ≤ cs.length ∧
  absH H' = (absH H).map (truncFam fam n0) ++ [.cells fam true (cs.take n0 ++ news)] ∧ growK H b n0 n1 news k = k H.n H' := by
 unfold growK
 rcases cellsK_or H b (fun fam own nn t => bif own && (Nat.ble n0 nn && Nat.ble n1 262144) then
  ndK H fam fun r => Nd.rec (fun _ mx ms => setsK news t n0 fun t =>
   bif Nat.ble mx n0 then pushK H (fun _ => ⟨.cells fam true n1 t, 0, []⟩) fun i H2 => famK H2 fam n1 (i :: ms) (k i)
   else truncK fam n0 262144 ms H fun H1 l => pushK H1 (fun _ => ⟨.cells fam true n1 t, 0, []⟩) fun i H2 => famK H2 fam n1 (i :: l) (k i)) r else RC.no) with h | ⟨fam, own, nn, t, hb, hx, h⟩
 ·exact .inl h
 rw [h]
 clear h
 cases hc : (own && (Nat.ble n0 nn && Nat.ble n1 262144)) with
 | false => exact .inl rfl
 | true =>
   simp only [Bool.and_eq_true] at hc
   obtain ⟨rfl, hle, h256⟩ := hc
   have hle := Nat.le_of_ble_eq_true hle
   have h256 := Nat.le_of_ble_eq_true h256
   simp only [cond_true]
   have hbo := hH.ok b hb
   rw [hx] at hbo
   obtain ⟨q1, q2, q3, q4⟩ := hbo
   rw [ndK_eq, if_pos q2]
   cases hf : H.nd fam with
   | mk xf mx ms =>
     have hms : (H.nd fam).ms = ms := by rw [hf]
     have hmx : (H.nd fam).mx = mx := by rw [hf]
     simp only [setsK_eq]
     -- the cut, whether made or not
     have fin : ∀ (H1 : FH) (l : List Nat), Cut fam n0 262144 (H.nd fam).ms H H1 → kept fam 262144 (H.nd fam).ms H1 l → (pushK H1 (fun _ => (⟨.cells fam true n1 (sets news t n0), 0, []⟩ : Nd)) fun i H2 => famK H2 fam n1 (i :: l) (k i)) = RC.no ∨
       ∃ H' fam' cs, n1 ≤ 262144 ∧ H'.OK ∧ (absH H)[b]? = some (.cells fam' true cs) ∧ n0 ≤ cs.length ∧ absH H' = (absH H).map (truncFam fam' n0) ++ [.cells fam' true (cs.take n0 ++ news)] ∧
         (pushK H1 (fun _ => (⟨.cells fam true n1 (sets news t n0), 0, []⟩ : Nd)) fun i H2 => famK H2 fam n1 (i :: l) (k i)) = k H.n H' := by
      intro H1 l c kp
      have hn := c.hn
      rcases pushK_or H1 (fun _ => (⟨.cells fam true n1 (sets news t n0), 0, []⟩ : Nd)) (fun i H2 => famK H2 fam n1 (i :: l) (k i)) with e | ⟨hlt, e⟩
      ·exact .inl e
      right
      rw [e]
      have hfn : fam < (H1.push ⟨.cells fam true n1 (sets news t n0), 0, []⟩).n := by show fam < H1.n + 1; omega
      rw [famK_eq, if_pos hfn, hn]
      have hnd := fun j (hj : j < H1.n + 1) => nd_push hlt ⟨.cells fam true n1 (sets news t n0), 0, []⟩ hj
      have hle4 := hH.le
      have hpfam : ((H1.push ⟨.cells fam true n1 (sets news t n0), 0, []⟩).nd fam) = H1.nd fam := by rw [hnd fam (by omega), if_neg (by omega)]
      have habs1 : absH H1 = (absH H).map (truncFam fam n0) := by
       apply absH_eq
       ·rw [List.length_map, absH_length, hn]
       ·intro i hi
        rw [List.getElem?_map, absH_get, if_pos (by omega), Option.map_some, c.abs hH q2 i (by omega) (by omega)]
      -- lengths of the members
      have hlen : ∀ i, i < H.n → ∀ own n t, (H1.nd i).x = .cells fam own n t → n ≤ n0 := by
       intro i hi own n t h
       have h1 := c.hx i hi
       by_cases him : i ∈ (H.nd fam).ms
       ·rw [if_pos ⟨him, by omega⟩, h] at h1
        cases hxi : (H.nd i).x with
        | cells f own' n' t' =>
          rw [hxi] at h1
          unfold truncX at h1
          by_cases hff : f = fam
          ·by_cases hn' : n' ≤ n0
           ·simp only [hff, hn', if_true] at h1; cases h1; exact hn'
           ·simp only [hff, hn', if_true, if_false] at h1; cases h1; exact Nat.le_refl _
          ·simp only [hff, if_false] at h1; cases h1; exact absurd rfl hff
        | dead => rw [hxi] at h1; cases h1
        | map es => rw [hxi] at h1; cases h1
        | loop => rw [hxi] at h1; cases h1
       ·rw [if_neg (fun h => him h.1), h] at h1
        have := hH.ok i hi
        rw [← h1] at this
        obtain ⟨_, _, h3, _⟩ := this
        by_cases h0 : 0 < n
        ·exact absurd (h3 h0) him
        ·omega
      let G : FH := H1.push ⟨.cells fam true n1 (sets news t n0), 0, []⟩
      have hGn : G.n = H1.n + 1 := rfl
      have hGle : G.n ≤ 262144 := by omega
      let G2 : FH := G.setNd fam ⟨(G.nd fam).x, n1, H.n :: l⟩
      have hG2 : ∀ j, j < H1.n + 1 → G2.nd j = if j = fam then ⟨(G.nd fam).x, n1, H.n :: l⟩ else G.nd j := fun j hj => T3.get_set _ _ (by omega) (by omega)
      have hG2x : ∀ j, j < H1.n + 1 → (G2.nd j).x = (G.nd j).x := by
       intro j hj; rw [hG2 j hj]; split
       ·rename_i h; rw [h]
       ·rfl
      refine ⟨G2, fam, toL nn t, h256, ⟨hGle, fun i hi => ?_⟩, by rw [absH_get, if_pos hb, hx]; rfl, by rw [toL_length]; exact hle, ?_, rfl⟩
      ·have hi : i < H1.n + 1 := hi
       rw [hG2x i hi]
       show BOK G2 i ((H1.push ⟨.cells fam true n1 (sets news t n0), 0, []⟩).nd i).x
       rw [hnd i hi]
       by_cases hin : i = H1.n
       ·rw [if_pos hin]
        refine ⟨h256, by show fam < H1.n + 1; omega, fun _ => ?_, ?_⟩
        ·rw [hG2 fam (by omega), if_pos rfl, hin, hn]; simp
        ·rw [hG2 fam (by omega), if_pos rfl]; exact Nat.le_refl _
       ·rw [if_neg hin]
        have hi1 : i < H1.n := by omega
        have hb1 := c.ok.ok i hi1
        cases hxi : (H1.nd i).x with
        | cells f own n t =>
          rw [hxi] at hb1
          obtain ⟨h1, h2, h3, h4⟩ := hb1
          refine ⟨h1, by show f < H1.n + 1; omega, fun h0 => ?_, ?_⟩
          ·rw [hG2 f (by omega)]
           by_cases hff : f = fam
           ·rw [if_pos hff]
            refine List.mem_cons_of_mem _ (kp i hi1 ?_ (.inr ⟨own, n, t, by rw [hxi, hff], h0⟩))
            have := h3 h0
            rw [hff, c.hms fam q2] at this
            exact this
           ·rw [if_neg hff]
            show i ∈ ((H1.push ⟨.cells fam true n1 (sets news _ n0), 0, []⟩).nd f).ms
            rw [hnd f (by omega), if_neg (by omega)]
            exact h3 h0
          ·rw [hG2 f (by omega)]
           by_cases hff : f = fam
           ·rw [if_pos hff]
            have := hlen i (by omega) own n t (by rw [hxi, hff])
            show n ≤ n1
            omega
           ·rw [if_neg hff]
            show n ≤ ((H1.push ⟨.cells fam true n1 (sets news _ n0), 0, []⟩).nd f).mx
            rw [hnd f (by omega), if_neg (by omega)]
            exact h4
        | map kk es mt => rw [hxi] at hb1; exact hb1
        | _ => trivial
      ·have e2 : absH G2 = absH G := by
        apply absH_eq
        ·rw [absH_length]; rfl
        ·intro i hi
         have hi : i < H1.n + 1 := hi
         rw [absH_get, if_pos (show i < G.n from hi), hG2x i hi]
       rw [e2]
       show absH (H1.push _) = _
       rw [absH_push hlt, habs1]
       simp only [absB]
       rw [← hm, toL_sets_new (by omega), toL_take hle]
     cases hmxn : Nat.ble mx n0 with
     | true =>
       have hle0 := Nat.le_of_ble_eq_true hmxn
       have c : Cut fam n0 262144 (H.nd fam).ms H H := by
        refine ⟨hH, rfl, fun _ _ => rfl, fun _ _ => rfl, fun i hi => ?_⟩
        split
        ·have := hH.ok i hi
         cases hxi : (H.nd i).x with
         | cells f own n t =>
           rw [hxi] at this
           obtain ⟨_, _, _, h4⟩ := this
           unfold truncX
           by_cases hff : f = fam
           ·subst hff
            rw [hmx] at h4
            have h5 : n ≤ n0 := by omega
            simp [h5]
           ·simp [hff]
         | _ => rfl
        ·rfl
       have := fin H ms c (fun i _ hi _ => by rw [hms] at hi; exact hi)
       simpa only [hf, hmxn, cond_true] using this
     | false =>
       obtain ⟨H1, l, e1, c, kp⟩ := truncK_or fam n0 262144 ms H (fun H1 l => pushK H1 (fun _ => (⟨.cells fam true n1 (sets news t n0), 0, []⟩ : Nd)) fun i H2 => famK H2 fam n1 (i :: l) (k i)) hH
       rw [← hms] at c kp
       have := fin H1 l c kp
       rw [← e1] at this
       simpa only [hf, hmxn, cond_false] using this
theorem newK_or {H : FH} (hH : H.OK) (l : List Value) (n : Nat) (hn : l.length = n) (k : Nat → FH → RC) : newK H l n k = RC.no ∨ ∃ H', n ≤ 262144 ∧ H'.OK ∧ absH H' = absH H ++ [.cells (absH H).length true l] ∧ newK H l n k = k (absH H).length H' := by
 unfold newK
 cases hc : Nat.ble n 262144 with
 | false => exact .inl rfl
 | true =>
   have h256 := Nat.le_of_ble_eq_true hc
   simp only [cond_true, setsK_eq]
   rcases pushK_or H (fun i => (⟨.cells i true n (sets l blank 0), n, [i]⟩ : Nd)) k with e | ⟨hlt, e⟩
   ·exact .inl e
   ·refine .inr ⟨_, h256, OK_push hH hlt _ (BOK_new hlt h256), ?_, by rw [absH_length]; exact e⟩
    rw [absH_push hlt, absH_length]
    simp only [absB]
    have := ofL_toL (l := l) (by omega)
    rw [hn] at this
    rw [show sets l blank 0 = ofL l from rfl, this]
end
end Go.Abs
namespace Go.Abs
noncomputable def intK : Value → (Int → RC) → RC := Value.rec (motive_1 := fun _ => (Int → RC) → RC) (motive_2 := fun _ => (Int → RC) → RC) (motive_3 := fun _ => (Int → RC) → RC) (fun _ _ => RC.no) (fun kd z k => IntKind.rec RC.no RC.no RC.no (k z) RC.no RC.no RC.no RC.no kd) (fun _ _ _ => RC.no) (fun _ _ _ _ => RC.no) (fun _ _ => RC.no) (fun _ _ => RC.no) (fun _ _ _ _ => RC.no) (fun _ _ => RC.no) (fun _ _ => RC.no) (fun _ _ _ _ _ _ => RC.no) (fun _ => RC.no) (fun _ _ _ _ => RC.no) (fun _ => RC.no) (fun _ _ _ => RC.no) (fun _ _ _ => RC.no) (fun _ _ _ => RC.no) (fun _ => RC.no) (fun _ _ _ _ _ => RC.no)
noncomputable def u8K : Value → (Int → RC) → RC := Value.rec (motive_1 := fun _ => (Int → RC) → RC) (motive_2 := fun _ => (Int → RC) → RC) (motive_3 := fun _ => (Int → RC) → RC) (fun _ _ => RC.no) (fun kd z k => IntKind.rec RC.no RC.no RC.no RC.no (k z) RC.no RC.no RC.no kd) (fun _ _ _ => RC.no) (fun _ _ _ _ => RC.no) (fun _ _ => RC.no) (fun _ _ => RC.no) (fun _ _ _ _ => RC.no) (fun _ _ => RC.no) (fun _ _ => RC.no) (fun _ _ _ _ _ _ => RC.no) (fun _ => RC.no) (fun _ _ _ _ => RC.no) (fun _ => RC.no) (fun _ _ _ => RC.no) (fun _ _ _ => RC.no) (fun _ _ _ => RC.no) (fun _ => RC.no) (fun _ _ _ _ _ => RC.no)
noncomputable def boolK : Value → (Bool → RC) → RC := Value.rec (motive_1 := fun _ => (Bool → RC) → RC) (motive_2 := fun _ => (Bool → RC) → RC) (motive_3 := fun _ => (Bool → RC) → RC) (fun b k => k b) (fun _ _ _ => RC.no) (fun _ _ _ => RC.no) (fun _ _ _ _ => RC.no) (fun _ _ => RC.no) (fun _ _ => RC.no) (fun _ _ _ _ => RC.no) (fun _ _ => RC.no) (fun _ _ => RC.no) (fun _ _ _ _ _ _ => RC.no) (fun _ => RC.no) (fun _ _ _ _ => RC.no) (fun _ => RC.no) (fun _ _ _ => RC.no) (fun _ _ _ => RC.no) (fun _ _ _ => RC.no) (fun _ => RC.no) (fun _ _ _ _ _ => RC.no)
noncomputable def sliceK : Value → (Option Addr → Nat → Nat → RC) → RC := Value.rec (motive_1 := fun _ => (Option Addr → Nat → Nat → RC) → RC) (motive_2 := fun _ => (Option Addr → Nat → Nat → RC) → RC) (motive_3 := fun _ => (Option Addr → Nat → Nat → RC) → RC) (fun _ _ => RC.no) (fun _ _ _ => RC.no) (fun _ _ _ => RC.no) (fun _ _ _ _ => RC.no) (fun _ _ => RC.no) (fun _ _ => RC.no) (fun a n c k => k a n c) (fun _ _ => RC.no) (fun _ _ => RC.no) (fun _ _ _ _ _ _ => RC.no) (fun _ => RC.no) (fun _ _ _ _ => RC.no) (fun _ => RC.no) (fun _ _ _ => RC.no) (fun _ _ _ => RC.no) (fun _ _ _ => RC.no) (fun _ => RC.no) (fun _ _ _ _ _ => RC.no)
noncomputable def addrK (nn nl : RC) : Option Addr → (Nat → Nat → RC) → RC := Option.rec (fun _ => nn) (fun ad => Addr.rec (motive := fun _ => (Nat → Nat → RC) → RC) (fun b o s => Option.rec (motive := fun _ => (Nat → Nat → RC) → RC) (fun k => k b o) (fun _ _ => nl) s) ad)
noncomputable def ptrK : Value → (Nat → Nat → RC) → RC := Value.rec (motive_1 := fun _ => (Nat → Nat → RC) → RC) (motive_2 := fun _ => (Nat → Nat → RC) → RC) (motive_3 := fun _ => (Nat → Nat → RC) → RC) (fun _ _ => RC.no) (fun _ _ _ => RC.no) (fun _ _ _ => RC.no) (fun _ _ _ _ => RC.no) (fun _ _ => RC.no) (addrK RC.no RC.no) (fun _ _ _ _ => RC.no) (fun _ _ => RC.no) (fun _ _ => RC.no) (fun _ _ _ _ _ _ => RC.no) (fun _ => RC.no) (fun _ _ _ _ => RC.no) (fun _ => RC.no) (fun _ _ _ => RC.no) (fun _ _ _ => RC.no) (fun _ _ _ => RC.no) (fun _ => RC.no) (fun _ _ _ _ _ => RC.no)
noncomputable def aggK : Value → (List Value → RC) → RC := Value.rec (motive_1 := fun _ => (List Value → RC) → RC) (motive_2 := fun _ => (List Value → RC) → RC) (motive_3 := fun _ => (List Value → RC) → RC) (fun _ _ => RC.no) (fun _ _ _ => RC.no) (fun _ _ _ => RC.no) (fun _ _ _ _ => RC.no) (fun _ _ => RC.no) (fun _ _ => RC.no) (fun _ _ _ _ => RC.no) (fun _ _ => RC.no) (fun _ _ => RC.no) (fun _ _ _ _ _ _ => RC.no) (fun _ => RC.no) (fun _ _ _ _ => RC.no) (fun _ => RC.no) (fun cs _ k => Array.rec k cs) (fun _ _ _ => RC.no) (fun _ _ _ => RC.no) (fun _ => RC.no) (fun _ _ _ _ _ => RC.no)
noncomputable def tupK : Value → (List Value → RC) → RC := Value.rec (motive_1 := fun _ => (List Value → RC) → RC) (motive_2 := fun _ => (List Value → RC) → RC) (motive_3 := fun _ => (List Value → RC) → RC) (fun _ _ => RC.no) (fun _ _ _ => RC.no) (fun _ _ _ => RC.no) (fun _ _ _ _ => RC.no) (fun _ _ => RC.no) (fun _ _ => RC.no) (fun _ _ _ _ => RC.no) (fun _ _ => RC.no) (fun _ _ => RC.no) (fun _ _ _ _ _ _ => RC.no) (fun _ => RC.no) (fun _ _ _ _ => RC.no) (fun _ => RC.no) (fun _ _ _ => RC.no) (fun cs _ k => Array.rec k cs) (fun _ _ _ => RC.no) (fun _ => RC.no) (fun _ _ _ _ _ => RC.no)
noncomputable def mapK : Value → (Nat → RC) → RC := Value.rec (motive_1 := fun _ => (Nat → RC) → RC) (motive_2 := fun _ => (Nat → RC) → RC) (motive_3 := fun _ => (Nat → RC) → RC) (fun _ _ => RC.no) (fun _ _ _ => RC.no) (fun _ _ _ => RC.no) (fun _ _ _ _ => RC.no) (fun _ _ => RC.no) (fun _ _ => RC.no) (fun _ _ _ _ => RC.no) (fun r k => Option.rec RC.no k r) (fun _ _ => RC.no) (fun _ _ _ _ _ _ => RC.no) (fun _ => RC.no) (fun _ _ _ _ => RC.no) (fun _ => RC.no) (fun _ _ _ => RC.no) (fun _ _ _ => RC.no) (fun _ _ _ => RC.no) (fun _ => RC.no) (fun _ _ _ _ _ => RC.no)
noncomputable def isScal : Value → Bool := Value.rec (motive_1 := fun _ => Bool) (motive_2 := fun _ => Bool) (motive_3 := fun _ => Bool) (fun _ => true) (fun _ _ => true) (fun _ _ => true) (fun _ _ _ => true) (fun _ => true) (fun _ => true) (fun _ _ _ => true) (fun _ => true) (fun _ => true) (fun _ _ _ _ _ => true) true (fun _ _ _ => true) true (fun _ _ => false) (fun _ _ => false) (fun _ _ => true) true (fun _ _ _ _ => true)
noncomputable def scalK (v : Value) (k : List Value → RC) : RC := Bool.rec (aggK v k) (k [v]) (isScal v)
theorem intK_or (v : Value) (k : Int → RC) : intK v k = RC.no ∨ ∃ z, v = .int .i64 z ∧ intK v k = k z := by
 cases v with
 | int kd z => cases kd <;> first | exact .inl rfl | exact .inr ⟨_, rfl, rfl⟩
 | _ => exact .inl rfl
theorem u8K_or (v : Value) (k : Int → RC) : u8K v k = RC.no ∨ ∃ z, v = .int .u8 z ∧ u8K v k = k z := by
 cases v with
 | int kd z => cases kd <;> first | exact .inl rfl | exact .inr ⟨_, rfl, rfl⟩
 | _ => exact .inl rfl
theorem boolK_or (v : Value) (k : Bool → RC) : boolK v k = RC.no ∨ ∃ b, v = .bool b ∧ boolK v k = k b := by
 cases v <;> first | exact .inl rfl | exact .inr ⟨_, rfl, rfl⟩
theorem sliceK_or (v : Value) (k : Option Addr → Nat → Nat → RC) : sliceK v k = RC.no ∨ ∃ a n c, v = .slice a n c ∧ sliceK v k = k a n c := by
 cases v <;> first | exact .inl rfl | exact .inr ⟨_, _, _, rfl, rfl⟩
theorem addrK_or (a : Option Addr) (nn nl : RC) (k : Nat → Nat → RC) : (a = none ∧ addrK nn nl a k = nn) ∨ (∃ b o p, a = some ⟨b, o, some p⟩ ∧ addrK nn nl a k = nl) ∨ ∃ b o, a = some ⟨b, o, none⟩ ∧ addrK nn nl a k = k b o := by
 cases a with
 | none => exact .inl ⟨rfl, rfl⟩
 | some a => obtain ⟨b, o, s⟩ := a; cases s with
   | none => exact .inr (.inr ⟨_, _, rfl, rfl⟩)
   | some _ => exact .inr (.inl ⟨_, _, _, rfl, rfl⟩)
theorem ptrK_or (v : Value) (k : Nat → Nat → RC) : ptrK v k = RC.no ∨ ∃ b o, v = .pointer (some ⟨b, o, none⟩) ∧ ptrK v k = k b o := by
 cases v with
 | pointer a =>
   cases a with
   | none => exact .inl rfl
   | some a => obtain ⟨b, o, s⟩ := a; cases s with
     | none => exact .inr ⟨_, _, rfl, rfl⟩
     | some _ => exact .inl rfl
 | _ => exact .inl rfl
theorem aggK_or (v : Value) (k : List Value → RC) : aggK v k = RC.no ∨ ∃ cs : Array Value, v = .agg cs ∧ aggK v k = k cs.toList := by
 cases v <;> first | exact .inl rfl | (rename_i cs; cases cs; exact .inr ⟨_, rfl, rfl⟩)
theorem tupK_or (v : Value) (k : List Value → RC) : tupK v k = RC.no ∨ ∃ cs : Array Value, v = .tuple cs ∧ tupK v k = k cs.toList := by
 cases v <;> first | exact .inl rfl | (rename_i cs; cases cs; exact .inr ⟨_, rfl, rfl⟩)
theorem mapK_or (v : Value) (k : Nat → RC) : mapK v k = RC.no ∨ ∃ r, v = .map (some r) ∧ mapK v k = k r := by
 cases v with
 | map r => cases r with
   | none => exact .inl rfl
   | some r => exact .inr ⟨_, rfl, rfl⟩
 | _ => exact .inl rfl
theorem scalK_or (v : Value) (k : List Value → RC) : scalK v k = RC.no ∨ ∃ l, scal v = some l ∧ scalK v k = k l := by
 cases v with
 | agg cs => cases cs; exact .inr ⟨_, rfl, rfl⟩
 | tuple cs => exact .inl rfl
 | _ => exact .inr ⟨_, rfl, rfl⟩
noncomputable def posK (n : Nat) (k : Int → RC) : RC := fN n fun n => Bool.rec RC.no (k (.ofNat n)) (Nat.ble n 9223372036854775807)
noncomputable def negK (n : Nat) (k : Int → RC) : RC := fN n fun n => Bool.rec RC.no (k (.negSucc n)) (Nat.ble n 9223372036854775807)
noncomputable def subK (a b : Nat) (k : Int → RC) : RC := Bool.rec (negK (Nat.sub (Nat.sub b a) 1) k) (posK (Nat.sub a b) k) (Nat.ble b a)
noncomputable def addZ : Int → Int → (Int → RC) → RC := Int.rec (fun m => Int.rec (fun n k => posK (Nat.add m n) k) (fun n k => subK m (Nat.add n 1) k)) (fun m => Int.rec (fun n k => subK n (Nat.add m 1) k) (fun n k => negK (Nat.add (Nat.add m n) 1) k))
noncomputable def subZ : Int → Int → (Int → RC) → RC := Int.rec (fun m => Int.rec (fun n k => subK m n k) (fun n k => posK (Nat.add (Nat.add m n) 1) k)) (fun m => Int.rec (fun n k => negK (Nat.add m n) k) (fun n k => subK n m k))
noncomputable def anyK : Int → (Int → RC) → RC := Int.rec (fun n k => posK n k) (fun n k => negK n k)
noncomputable def mulZ : Int → Int → (Int → RC) → RC := Int.rec (fun m => Int.rec (fun n k => posK (Nat.mul m n) k) (fun n k => anyK (.ofNat m * .negSucc n) k)) (fun m y k => anyK (.negSucc m * y) k)
noncomputable def quoZ : Int → Int → (Int → RC) → RC := Int.rec (fun m => Int.rec (fun n k => Bool.rec (posK (Nat.div m n) k) RC.no (Nat.beq n 0)) (fun n k => anyK ((Int.ofNat m).tdiv (.negSucc n)) k)) (fun m y k => Bool.rec (anyK ((Int.negSucc m).tdiv y) k) RC.no (eqZ y 0))
noncomputable def remZ : Int → Int → (Int → RC) → RC := Int.rec (fun m => Int.rec (fun n k => Bool.rec (posK (Nat.mod m n) k) RC.no (Nat.beq n 0)) (fun n k => anyK ((Int.ofNat m).tmod (.negSucc n)) k)) (fun m y k => Bool.rec (anyK ((Int.negSucc m).tmod y) k) RC.no (eqZ y 0))
noncomputable def beqZ : Int → Int → Bool := Int.rec (fun m => Int.rec (fun n => Nat.beq m n) (fun _ => false)) (fun m => Int.rec (fun _ => false) (fun n => Nat.beq m n))
noncomputable def bltZ : Int → Int → Bool := Int.rec (fun m => Int.rec (fun n => Nat.ble (Nat.add m 1) n) (fun _ => false)) (fun m => Int.rec (fun _ => true) (fun n => Nat.ble (Nat.add n 1) m))
def Fits (z : Int) : Prop := -9223372036854775808 ≤ z ∧ z ≤ 9223372036854775807
theorem posK_or (n : Nat) (k : Int → RC) : posK n k = RC.no ∨ (posK n k = k (n : Int) ∧ Fits n) := by
 unfold posK
 rw [fN_eq]
 cases h : Nat.ble n 9223372036854775807 with
 | false => exact .inl rfl
 | true => have := Nat.le_of_ble_eq_true h; exact .inr ⟨rfl, by unfold Fits; omega⟩
theorem negK_or (n : Nat) (k : Int → RC) : negK n k = RC.no ∨ (negK n k = k (.negSucc n) ∧ Fits (.negSucc n)) := by
 unfold negK
 rw [fN_eq]
 cases h : Nat.ble n 9223372036854775807 with
 | false => exact .inl rfl
 | true => have := Nat.le_of_ble_eq_true h; exact .inr ⟨rfl, by unfold Fits; omega⟩
theorem subK_or (a b : Nat) (k : Int → RC) : subK a b k = RC.no ∨ (subK a b k = k ((a : Int) - b) ∧ Fits ((a : Int) - b)) := by
 unfold subK
 cases h : Nat.ble b a with
 | true =>
   have := Nat.le_of_ble_eq_true h
   have e : ((Nat.sub a b : Nat) : Int) = (a : Int) - b := by show ((a - b : Nat) : Int) = _; omega
   show posK _ _ = _ ∨ (posK _ _ = _ ∧ _)
   rw [← e]
   exact posK_or _ _
 | false =>
   have : ¬ b ≤ a := by intro h2; rw [Nat.ble_eq_true_of_le h2] at h; cases h
   have e : Int.negSucc (Nat.sub (Nat.sub b a) 1) = (a : Int) - b := by show Int.negSucc (b - a - 1) = _; omega
   show negK _ _ = _ ∨ (negK _ _ = _ ∧ _)
   rw [← e]
   exact negK_or _ _
theorem addZ_or (x y : Int) (k : Int → RC) : addZ x y k = RC.no ∨ (addZ x y k = k (x + y) ∧ Fits (x + y)) := by
 cases x with
 | ofNat m => cases y with
   | ofNat n => exact posK_or _ _
   | negSucc n =>
     have e : Int.ofNat m + Int.negSucc n = (m : Int) - ((Nat.add n 1 : Nat) : Int) := by show _ = (m : Int) - ((n + 1 : Nat) : Int); show (m : Int) + _ = _; omega
     rw [e]; exact subK_or _ _ _
 | negSucc m => cases y with
   | ofNat n =>
     have e : Int.negSucc m + Int.ofNat n = (n : Int) - ((Nat.add m 1 : Nat) : Int) := by show _ = (n : Int) - ((m + 1 : Nat) : Int); show _ + (n : Int) = _; omega
     rw [e]; exact subK_or _ _ _
   | negSucc n => exact negK_or _ _
theorem subZ_or (x y : Int) (k : Int → RC) : subZ x y k = RC.no ∨ (subZ x y k = k (x - y) ∧ Fits (x - y)) := by
 cases x with
 | ofNat m => cases y with
   | ofNat n => exact subK_or _ _ _
   | negSucc n =>
     have e : Int.ofNat m - Int.negSucc n = ((Nat.add (Nat.add m n) 1 : Nat) : Int) := by show (m : Int) - _ = ((m + n + 1 : Nat) : Int); omega
     rw [e]; exact posK_or _ _
 | negSucc m => cases y with
   | ofNat n =>
     have e : Int.negSucc m - Int.ofNat n = Int.negSucc (Nat.add m n) := by show _ - (n : Int) = Int.negSucc (m + n); omega
     rw [e]; exact negK_or _ _
   | negSucc n =>
     have e : Int.negSucc m - Int.negSucc n = (n : Int) - (m : Int) := by omega
     rw [e]; exact subK_or _ _ _
theorem anyK_or (z : Int) (k : Int → RC) : anyK z k = RC.no ∨ (anyK z k = k z ∧ Fits z) := by
 cases z with
 | ofNat n => exact posK_or _ _
 | negSucc n => exact negK_or _ _
theorem mulZ_or (x y : Int) (k : Int → RC) : mulZ x y k = RC.no ∨ (mulZ x y k = k (x * y) ∧ Fits (x * y)) := by
 cases x with
 | ofNat m => cases y with
   | ofNat n => exact posK_or _ _
   | negSucc n => exact anyK_or _ _
 | negSucc m => exact anyK_or _ _
theorem quoZ_or (x y : Int) (k : Int → RC) : quoZ x y k = RC.no ∨ (quoZ x y k = k (x.tdiv y) ∧ Fits (x.tdiv y) ∧ y ≠ 0) := by
 cases x with
 | ofNat m => cases y with
   | ofNat n =>
     show (Bool.rec (posK (Nat.div m n) k) RC.no (Nat.beq n 0) : RC) = RC.no ∨ ((Bool.rec (posK (Nat.div m n) k) RC.no (Nat.beq n 0) : RC) = _ ∧ _)
     cases h : Nat.beq n 0 with
     | true => exact .inl rfl
     | false =>
       have := Nat.ne_of_beq_eq_false h
       rcases posK_or (Nat.div m n) k with e | ⟨e, f⟩
       ·exact .inl e
       ·exact .inr ⟨e, f, by intro h; exact this (Int.ofNat.inj h)⟩
   | negSucc n =>
     rcases anyK_or ((Int.ofNat m).tdiv (Int.negSucc n)) k with e | ⟨e, f⟩
     ·exact .inl e
     ·exact .inr ⟨e, f, by intro h; cases h⟩
 | negSucc m =>
   show (Bool.rec (anyK ((Int.negSucc m).tdiv y) k) RC.no (eqZ y 0) : RC) = RC.no ∨ ((Bool.rec (anyK ((Int.negSucc m).tdiv y) k) RC.no (eqZ y 0) : RC) = _ ∧ _)
   cases h : eqZ y 0 with
   | true => exact .inl rfl
   | false =>
     rw [eqZ_eq] at h
     rcases anyK_or ((Int.negSucc m).tdiv y) k with e | ⟨e, f⟩
     ·exact .inl e
     ·exact .inr ⟨e, f, by simpa using h⟩
theorem remZ_or (x y : Int) (k : Int → RC) : remZ x y k = RC.no ∨ (remZ x y k = k (x.tmod y) ∧ y ≠ 0) := by
 cases x with
 | ofNat m => cases y with
   | ofNat n =>
     show (Bool.rec (posK (Nat.mod m n) k) RC.no (Nat.beq n 0) : RC) = RC.no ∨ ((Bool.rec (posK (Nat.mod m n) k) RC.no (Nat.beq n 0) : RC) = _ ∧ _)
     cases h : Nat.beq n 0 with
     | true => exact .inl rfl
     | false =>
       have := Nat.ne_of_beq_eq_false h
       rcases posK_or (Nat.mod m n) k with e | ⟨e, _⟩
       ·exact .inl e
       ·exact .inr ⟨e, by intro h; exact this (Int.ofNat.inj h)⟩
   | negSucc n =>
     rcases anyK_or ((Int.ofNat m).tmod (Int.negSucc n)) k with e | ⟨e, _⟩
     ·exact .inl e
     ·exact .inr ⟨e, by intro h; cases h⟩
 | negSucc m =>
   show (Bool.rec (anyK ((Int.negSucc m).tmod y) k) RC.no (eqZ y 0) : RC) = RC.no ∨ ((Bool.rec (anyK ((Int.negSucc m).tmod y) k) RC.no (eqZ y 0) : RC) = _ ∧ _)
   cases h : eqZ y 0 with
   | true => exact .inl rfl
   | false =>
     rw [eqZ_eq] at h
     rcases anyK_or ((Int.negSucc m).tmod y) k with e | ⟨e, _⟩
     ·exact .inl e
     ·exact .inr ⟨e, by simpa using h⟩
theorem beqZ_eq (a b : Int) : beqZ a b = (a == b) := by
 rw [← eqZ_eq]; cases a <;> cases b <;> rfl
theorem bltZ_eq (a b : Int) : bltZ a b = decide (a < b) := by
 rw [← ltZ_eq]; cases a <;> cases b <;> rfl
end Go.Abs
namespace Go.Abs
abbrev CallFF := Value → List Value → FH → RC
structure Ctx where
 call : CallFF
 n : Nat
 rd : Option Nat
abbrev Env := List Value
abbrev OpK := Ctx → Env → FT → FH → (Value → FH → RC) → RC
inductive Lc where
 | env (i : Nat)
 | slot (s : Nat)
 | cst (v : Value)
 | bad
abbrev Mpl := List (Nat × Lc)
def lk : Mpl → Nat → Option Lc
 | [], _ => none
 | (t, l) :: m, i => if t = i then some l else lk m i
noncomputable def egB (i : Nat) : Box (Env → (Value → RC) → RC) :=
 Nat.rec (motive := fun _ => Box (Env → (Value → RC) → RC)) ⟨fun E k => List.rec RC.no (fun x _ _ => k x) E⟩ (fun _ ih => ⟨fun E k => List.rec RC.no (fun _ xs _ => ih.run xs k) E⟩) i
noncomputable def lcB (n : Nat) (l : Lc) : Box (Env → FT → (Value → RC) → RC) := match l with
 | .env i => ⟨fun E _ k => (egB (n - 1 - i)).run E k⟩
 | .slot s => ⟨fun _ T k => (g2B s).run T k⟩
 | .cst v => ⟨fun _ _ k => k v⟩
 | .bad => ⟨fun _ _ _ => RC.no⟩
noncomputable def opB (L : Nat) (mp : Mpl) (n : Nat) (x : Operand) : Box (Env → FT → (Value → RC) → RC) := match x with
 | .tmp t => match lk mp t with
   | some l => lcB n l
   | none => bif L.testBit t || !Nat.ble (t + 1) 262144 then ⟨fun _ _ _ => RC.no⟩ else ⟨fun _ T k => (g2B t).run T k⟩
 | .const v => fV v fun v => ⟨fun _ _ k => k v⟩
 | .func f => ⟨fun _ _ k => k (.func (.func f) #[] #[])⟩
 | .global _ => ⟨fun _ _ _ => RC.no⟩
noncomputable def opsB (L : Nat) (mp : Mpl) (n : Nat) (l : List Operand) : Box (Env → FT → (List Value → RC) → RC) :=
 List.rec (motive := fun _ => Box (Env → FT → (List Value → RC) → RC)) ⟨fun _ _ k => k []⟩ (fun x _ ih => ⟨fun E T k => (opB L mp n x).run E T fun v => ih.run E T fun vs => k (v :: vs)⟩) l
noncomputable def cmpK (b : Bool) (k : Value → RC) : RC := Bool.rec (k (.bool false)) (k (.bool true)) b
def nofr : Fr := fun _ => undef
def opr (op : Op) : Oper := ⟨none, op, 0, "", #[], none⟩
noncomputable def slowK (P : Program) (op : Op) (H : FH) (k : Value → RC) : RC := match aexec P nofr (opr op) (absH H) with
 | some (v, _) => fV v k
 | none => RC.no
noncomputable def arB (op : BinOp) : Option (Box (Int → Int → (Value → RC) → RC)) := match op with
 | .add => some ⟨fun x y k => addZ x y fun z => k (.int .i64 z)⟩
 | .sub => some ⟨fun x y k => subZ x y fun z => k (.int .i64 z)⟩
 | .mul => some ⟨fun x y k => mulZ x y fun z => k (.int .i64 z)⟩
 | .quo => some ⟨fun x y k => quoZ x y fun z => k (.int .i64 z)⟩
 | .rem => some ⟨fun x y k => remZ x y fun z => k (.int .i64 z)⟩
 | .eql => some ⟨fun x y k => cmpK (beqZ x y) k⟩
 | .neq => some ⟨fun x y k => cmpK (Bool.not (beqZ x y)) k⟩
 | .lss => some ⟨fun x y k => cmpK (bltZ x y) k⟩
 | .gtr => some ⟨fun x y k => cmpK (bltZ y x) k⟩
 | .leq => some ⟨fun x y k => cmpK (Bool.not (bltZ y x)) k⟩
 | .geq => some ⟨fun x y k => cmpK (Bool.not (bltZ x y)) k⟩
 | _ => none
def isI64 (P : Program) (t : TypeId) : Bool := match P.underlying t with
 | some (.int .i64) => true
 | _ => false
noncomputable def binB (P : Program) (op : BinOp) (t t' : TypeId) : Box (Value → Value → FH → (Value → RC) → RC) := match arB op with
 | some f => bif isI64 P t then ⟨fun a b _ k => intK a fun x => intK b fun y => f.run x y k⟩ else ⟨fun a b H k => slowK P (.binOp op t (.const a) (.const b) t') H k⟩
 | none => ⟨fun a b H k => slowK P (.binOp op t (.const a) (.const b) t') H k⟩
noncomputable def loadB (P : Program) (t : TypeId) : Box (Value → FH → (Value → RC) → RC) := match isAggT P t with
 | some false => ⟨fun p H k => ptrK p fun b o => cellsK H b fun _ _ n t => bif Nat.ble (Nat.add o 1) n then (g2B o).run t k else RC.no⟩
 | some true => match sizeT P t with
   | some m => fN m fun m => ⟨fun p H k => ptrK p fun b o => cellsK H b fun _ _ n t => bif Nat.ble (Nat.add o m) n then rowK t o m fun l => k (.agg ⟨l⟩) else RC.no⟩
   | none => ⟨fun _ _ _ => RC.no⟩
 | none => ⟨fun _ _ _ => RC.no⟩
noncomputable def storeB (P : Program) (t : TypeId) : Box (Value → Value → FH → (FH → RC) → RC) := match sizeT P t with
 | some m => fN m fun m => ⟨fun p v H k => ptrK p fun b o => scalK v fun cs => bif Nat.beq cs.length m then writeK H b o m cs k else RC.no⟩
 | none => ⟨fun _ _ _ _ => RC.no⟩
noncomputable def readK (H : FH) (size : Nat) (v : Value) (k : List Value → Nat → RC) : RC :=
 sliceK v fun a n c => addrK (bif Nat.beq n 0 && Nat.beq c 0 then k [] 0 else RC.no) (bif Nat.beq n 0 then k [] 0 else RC.no) a fun b o => cellsK H b fun _ _ m t => fN (Nat.mul n size) fun q => bif Nat.ble (Nat.add o q) m then rowK t o q fun l => k l n else RC.no
noncomputable def appB (P : Program) (t : TypeId) : Box (Value → Value → FH → (Value → FH → RC) → RC) := match sliceElem P t with
 | some (el, size) => bif decide ((bytesT P el).isSome ∧ (bytesT P el).getD 0 ≤ maxA ∧ (zeros P el size 1).isSome) && Nat.ble 1 size then
    fN size fun size => ⟨fun s x H k => readK H size x fun news m => sliceK s fun a n sz => bif Nat.beq m 0 then k s H else
     addrK (bif Nat.beq n 0 && Nat.beq sz 0 then fN (Nat.mul m size) fun q => newK H news q fun i H' => k (.slice (some ⟨i, 0, none⟩) m size) H' else RC.no) RC.no a fun b o =>
      bif Nat.beq o 0 && Nat.beq sz size then fN (Nat.mul n size) fun n0 => fN (Nat.add n m) fun nm => fN (Nat.mul nm size) fun n1 => growK H b n0 n1 news fun i H' => k (.slice (some ⟨i, 0, none⟩) nm size) H' else RC.no⟩
   else ⟨fun _ _ _ _ => RC.no⟩
 | none => ⟨fun _ _ _ _ => RC.no⟩
noncomputable def indexB (P : Program) (t : TypeId) : Box (Value → Value → (Value → RC) → RC) := match sliceElem P t with
 | some (_, size) => fN size fun size => ⟨fun x i k => sliceK x fun a n _ => addrK RC.no RC.no a fun b o => intK i fun z => Int.rec (fun j => bif Nat.ble (Nat.add j 1) n then fN (Nat.add o (Nat.mul j size)) fun o => k (.pointer (some ⟨b, o, none⟩)) else RC.no) (fun _ => RC.no) z⟩
 | none => ⟨fun _ _ _ => RC.no⟩
noncomputable def fieldAddrB (P : Program) (t : TypeId) (i : Nat) : Box (Value → (Value → RC) → RC) := match P.underlying t with
 | some (.struct fields) => match fields[i]? with
   | some f => match sizeT P f.type with
     | some (_ + 1) => fN f.offset fun off => ⟨fun p k => ptrK p fun b o => fN (Nat.add o off) fun o => k (.pointer (some ⟨b, o, none⟩))⟩
     | _ => ⟨fun _ _ => RC.no⟩
   | none => ⟨fun _ _ => RC.no⟩
 | _ => ⟨fun _ _ => RC.no⟩
noncomputable def takeK (n : Nat) (l : List Value) (k : List Value → RC) : RC :=
 Nat.rec (motive := fun _ => List Value → (List Value → RC) → RC) (fun _ k => k []) (fun _ ih l k => List.rec (k []) (fun x xs _ => ih xs fun r => k (x :: r)) l) n l k
noncomputable def dropK (n : Nat) (l : List Value) (k : List Value → RC) : RC :=
 Nat.rec (motive := fun _ => List Value → (List Value → RC) → RC) (fun l k => k l) (fun _ ih l k => List.rec (k []) (fun _ xs _ => ih xs k) l) n l k
noncomputable def fieldB (P : Program) (t : TypeId) (i : Nat) : Box (Value → (Value → RC) → RC) := match P.underlying t with
 | some (.struct fields) => match fields[i]? with
   | some f => match isAggT P f.type with
     | some false => fN f.offset fun off => ⟨fun v k => aggK v fun l => (egB off).run l k⟩
     | some true => match sizeT P f.type with
       | some n => fN f.offset fun off => fN n fun n => ⟨fun v k => aggK v fun l => dropK off l fun l => takeK n l fun l => k (.agg ⟨l⟩)⟩
       | none => ⟨fun _ _ => RC.no⟩
     | none => ⟨fun _ _ => RC.no⟩
   | none => ⟨fun _ _ => RC.no⟩
 | _ => ⟨fun _ _ => RC.no⟩
noncomputable def setL1 (l : List Value) (o : Nat) (v : Value) (k : List Value → RC) : RC :=
 Nat.rec (motive := fun _ => List Value → (List Value → RC) → RC) (fun l k => List.rec (k []) (fun _ xs _ => k (v :: xs)) l) (fun _ ih l k => List.rec (k []) (fun x xs _ => ih xs fun r => k (x :: r)) l) o l k
noncomputable def setLK (l : List Value) (o : Nat) (vs : List Value) (k : List Value → RC) : RC :=
 List.rec (motive := fun _ => List Value → Nat → RC) (fun l _ => k l) (fun v _ ih l o => setL1 l o v fun l => fN (Nat.add o 1) fun o => ih l o) vs l o
noncomputable def fillB (place : Nat → Option (Nat × Nat)) (total : Nat) (is : List Nat) : Box (List Value → List Value → (List Value → RC) → RC) :=
 List.rec (motive := fun _ => Box (List Value → List Value → (List Value → RC) → RC)) ⟨fun cs _ k => k cs⟩
  (fun i _ ih => match place i with
   | some (off, size) => fN off fun off => fN size fun size => bif Nat.ble (Nat.add off size) total then
      ⟨fun cs vs k => List.rec RC.no (fun v vs _ => scalK v fun vc => bif Nat.beq vc.length size then setLK cs off vc fun cs => ih.run cs vs k else RC.no) vs⟩
     else ⟨fun _ _ _ => RC.no⟩
   | none => ⟨fun _ _ _ => RC.no⟩) is
noncomputable def buildB (P : Program) (t : TypeId) (is : List Nat) : Box (List Value → (Value → RC) → RC) := match zeroT P t, P.underlying t with
 | some z, some (.struct fields) => match sizesOf P fields.toList with
   | some places => fSs z.cells.toList fun zs => fN zs.length fun m => ⟨fun vs k => (fillB (places[·]?) m is).run zs vs fun cs => k (.agg ⟨cs⟩)⟩
   | none => ⟨fun _ _ => RC.no⟩
 | some z, some (.array _ elem) => match sizeT P elem with
   | some size => fSs z.cells.toList fun zs => fN zs.length fun m => ⟨fun vs k => (fillB (fun i => some (i * size, size)) m is).run zs vs fun cs => k (.agg ⟨cs⟩)⟩
   | none => ⟨fun _ _ => RC.no⟩
 | _, _ => ⟨fun _ _ => RC.no⟩
noncomputable def buildSliceB (P : Program) (t : TypeId) (len : Nat) (is : List Nat) : Box (List Value → FH → (Value → FH → RC) → RC) := match sliceElem P t with
 | some (e, size) => bif Nat.ble 1 size && Nat.ble (len * size) 262144 then
    match zeros P e size len with
    | some z => fSs z fun zs => fN zs.length fun m => fN len fun len => fN size fun size => ⟨fun vs H k => (fillB (fun i => some (i * size, size)) m is).run zs vs fun cs => newK H cs m fun i H' => k (.slice (some ⟨i, 0, none⟩) len size) H'⟩
    | none => ⟨fun _ _ _ => RC.no⟩
   else ⟨fun _ _ _ => RC.no⟩
 | none => ⟨fun _ _ _ => RC.no⟩
noncomputable def replK (z : List Value) (n : Nat) (k : List Value → RC) : RC :=
 Nat.rec (motive := fun _ => (List Value → RC) → RC) (fun k => k []) (fun _ ih k => ih fun r => List.rec (motive := fun _ => (List Value → RC) → RC) (fun k => k r) (fun x _ ih k => ih fun l => k (x :: l)) z k) n k
noncomputable def makeSliceB (P : Program) (t : TypeId) : Box (Value → Value → FH → (Value → FH → RC) → RC) := match sliceElem P t with
 | some (e, size) => match bytesT P e, zeroT P e with
   | some bytes, some z => bif Nat.ble 1 size && (Nat.ble bytes 1048576 && Nat.beq z.cells.toList.length size) then
      fSs z.cells.toList fun zs => fN size fun size => ⟨fun l c H k => intK l fun n => intK c fun m => bif !bltZ n 0 && (!bltZ m n && !bltZ 1048576 m) then
       Int.rec (fun n => replK zs n fun cs => fN (Nat.mul n size) fun q => newK H cs q fun i H' => k (.slice (some ⟨i, 0, none⟩) n size) H') (fun _ => RC.no) n else RC.no⟩
     else ⟨fun _ _ _ _ => RC.no⟩
   | _, _ => ⟨fun _ _ _ _ => RC.no⟩
 | none => ⟨fun _ _ _ _ => RC.no⟩
noncomputable def appIntB (P : Program) (t t' : TypeId) : Box (Value → Value → FH → (Value → FH → RC) → RC) := match sliceElem P t, P.underlying t' with
 | some (e, size), some (.int _) => match zeroT P e with
   | some z => bif Nat.ble 1 size && ((bytesT P e).isSome && (Nat.ble ((bytesT P e).getD 0) maxA && Nat.beq z.cells.toList.length size)) then
      fSs z.cells.toList fun zs => fN size fun size => ⟨fun s x H k => sliceK s fun a n c => addrK (bif Nat.beq n 0 && Nat.beq c 0 then intK x fun m => Int.rec (fun m => fN (Nat.mul m size) fun q => bif Nat.ble 1 m && Nat.ble q 262144 then
       replK zs m fun cs => newK H cs q fun i H' => k (.slice (some ⟨i, 0, none⟩) m size) H' else RC.no) (fun _ => RC.no) m else RC.no) RC.no a fun _ _ => RC.no⟩
     else ⟨fun _ _ _ _ => RC.no⟩
   | none => ⟨fun _ _ _ _ => RC.no⟩
 | _, _ => ⟨fun _ _ _ _ => RC.no⟩
noncomputable def codeBsK (l : List UInt8) (a : Nat) (k : Nat → RC) : RC :=
 List.rec (motive := fun _ => Nat → RC) (fun a => k a) (fun b _ ih a => fN (Nat.add (Nat.mul a 256) b.toNat) ih) l a
noncomputable def codeK (kk : Nat) (v : Value) (k : Nat → RC) : RC := match v with
 | .string s => bif Nat.beq kk 1 then codeBsK s.data.toList 1 fun n => fN n k else RC.no
 | .bool b => bif Nat.beq kk 2 then Bool.rec (k 0) (k 1) b else RC.no
 | .int ik z => bif Nat.beq kk (ikNo ik) then Int.rec (fun n => fN (Nat.mul 2 n) k) (fun n => fN (Nat.add (Nat.mul 2 n) 1) k) z else RC.no
 | _ => RC.no
noncomputable def mfindK (c : Nat) (t : MT) (h : Nat) (kn : RC) (ks : Value → RC) : RC :=
 MT.rec (motive := fun _ => Nat → RC) (fun _ => kn) (fun c' v _ _ ihl ihr h => bif Nat.beq c c' then ks v else bif Nat.beq (Nat.mod h 2) 0 then ihl (Nat.div h 2) else ihr (Nat.div h 2)) t h
noncomputable def minsK (c : Nat) (v : Value) (t : MT) (h : Nat) (k : MT → RC) : RC :=
 MT.rec (motive := fun _ => Nat → (MT → RC) → RC) (fun _ k => k (.n c v .e .e))
  (fun c' v' l r ihl ihr h k => bif Nat.beq c c' then k (.n c v l r) else bif Nat.beq (Nat.mod h 2) 0 then ihl (Nat.div h 2) fun l => k (.n c' v' l r) else ihr (Nat.div h 2) fun r => k (.n c' v' l r)) t h k
noncomputable def mapsK (H : FH) (b : Nat) (k : Nat → List (Value × Value) → MT → Nat → List Nat → RC) : RC := ndK H b fun d => Nd.rec (fun x mx ms => FB.rec RC.no (fun _ _ _ _ => RC.no) (fun kk es mt => k kk es mt mx ms) (fun _ _ _ _ _ _ _ => RC.no) x) d
noncomputable def lookupB (P : Program) (t : TypeId) (ok : Bool) : Box (Value → Value → FH → (Value → RC) → RC) := match P.underlying t with
 | some (.map kt et) => match P.underlying kt, zeroT P et with
   | some kd, some z => fN (kdTag kd) fun kk => fV z fun z => bif ok then
      ⟨fun x key H k => mapK x fun r => mapsK H r fun kk' _ mt _ _ => bif Nat.beq kk kk' then codeK kk key fun c => mfindK c mt (mix c) (k (.tuple ⟨[z, .bool false]⟩)) (fun v => k (.tuple ⟨[v, .bool true]⟩)) else RC.no⟩
     else ⟨fun x key H k => mapK x fun r => mapsK H r fun kk' _ mt _ _ => bif Nat.beq kk kk' then codeK kk key fun c => mfindK c mt (mix c) (k z) k else RC.no⟩
   | _, _ => ⟨fun _ _ _ _ => RC.no⟩
 | _ => ⟨fun _ _ _ _ => RC.no⟩
noncomputable def updateB (P : Program) (t : TypeId) : Box (Value → Value → Value → FH → (FH → RC) → RC) := match P.underlying t with
 | some (.map kt _) => match P.underlying kt with
   | some kd => fN (kdTag kd) fun kk => ⟨fun x key v H k => mapK x fun r => scalK v fun _ => mapsK H r fun kk' es mt mx ms => bif Nat.beq kk kk' then codeK kk key fun c => minsK c v mt (mix c) fun mt => setNdK H r ⟨.map kk' (setA key v es) mt, mx, ms⟩ k else RC.no⟩
   | none => ⟨fun _ _ _ _ _ => RC.no⟩
 | _ => ⟨fun _ _ _ _ _ => RC.no⟩
noncomputable def makeMapB (P : Program) (t : TypeId) (r : Option Operand) : Box (FH → (Value → FH → RC) → RC) := match P.underlying t with
 | some (.map kt _) => match P.underlying kt with
   | some kd => bif r.all constInt && !Nat.beq (kdTag kd) 0 then fN (kdTag kd) fun kk => ⟨fun H k => pushK H (fun _ => ⟨.map kk [] .e, 0, []⟩) fun i H' => k (.map (some i)) H'⟩ else ⟨fun _ _ => RC.no⟩
   | none => ⟨fun _ _ => RC.no⟩
 | _ => ⟨fun _ _ => RC.no⟩
noncomputable def bytesK (l : List Value) (s : ByteArray) (k : Value → RC) : RC :=
 List.rec (motive := fun _ => ByteArray → RC) (fun s => fV (.string s) k) (fun v _ ih s => u8K v fun z => Int.rec (fun n => ih (s.push (UInt8.ofNat n))) (fun _ => RC.no) z) l s
noncomputable def convB (P : Program) (s d : TypeId) : Box (Value → FH → (Value → RC) → RC) := match P.underlying s, P.underlying d with
 | some (.slice e), some .string => match P.underlying e with
   | some (.int .u8) => ⟨fun x H k => readK H 1 x fun l _ => bytesK l .empty k⟩
   | _ => ⟨fun _ _ _ => RC.no⟩
 | _, _ => ⟨fun x H k => slowK P (.convert s d (.const x)) H k⟩
noncomputable def sliceB (P : Program) (t : TypeId) (lo hi : Bool) : Box (Value → Value → Value → (Value → RC) → RC) :=
 ⟨fun x l h k => match sliceExprA P t x (bif lo then some l else none) (bif hi then some h else none) with
  | some v => fV v k
  | none => RC.no⟩
noncomputable def copyB (P : Program) (t : TypeId) : Box (Value → Value → FH → (Value → FH → RC) → RC) := match sliceElem P t with
 | some (_, size) => fN size fun size => ⟨fun x y H k => sliceK x fun ad dn _ => sliceK y fun _ sn _ => fN (bif Nat.ble sn dn then sn else dn) fun m => bif Nat.beq m 0 then k (.int .i64 (.ofNat 0)) H else
  addrK RC.no RC.no ad fun b o => readK H size y fun cs _ => fN (Nat.mul m size) fun q => takeK q cs fun cs => writeK H b o q cs fun H' => k (.int .i64 (.ofNat m)) H'⟩
 | none => ⟨fun _ _ _ _ => RC.no⟩
noncomputable def lenB (P : Program) (t : TypeId) : Box (Value → (Value → RC) → RC) := match P.underlying t with
 | some (.slice _) => ⟨fun x k => sliceK x fun _ n _ => k (.int .i64 (.ofNat n))⟩
 | _ => ⟨fun x k => match lenA P t x with
   | some v => fV v k
   | none => RC.no⟩
noncomputable def builtB (P : Program) (b : Builtin) (ts : List TypeId) : Box (List Value → FH → (Value → FH → RC) → RC) := match b, ts with
 | .len, [t] => ⟨fun vs H k => List.rec RC.no (fun x r _ => List.rec ((lenB P t).run x fun v => k v H) (fun _ _ _ => RC.no) r) vs⟩
 | .append, [t, t'] => bif Nat.beq t t' then ⟨fun vs H k => List.rec RC.no (fun x r _ => List.rec RC.no (fun y r _ => List.rec ((appB P t).run x y H k) (fun _ _ _ => RC.no) r) r) vs⟩
   else ⟨fun vs H k => List.rec RC.no (fun x r _ => List.rec RC.no (fun y r _ => List.rec ((appIntB P t t').run x y H k) (fun _ _ _ => RC.no) r) r) vs⟩
 | .copy, [t, _] => ⟨fun vs H k => List.rec RC.no (fun x r _ => List.rec RC.no (fun y r _ => List.rec ((copyB P t).run x y H k) (fun _ _ _ => RC.no) r) r) vs⟩
 | .cap, [t] => ⟨fun vs H k => match vs with
   | [.slice none 0 0] => match sliceElem P t with
     | some _ => k (.int .i64 (.ofNat 0)) H
     | none => RC.no
   | _ => RC.no⟩
 | .min, [_, _] => ⟨fun vs H k => List.rec RC.no (fun x r _ => List.rec RC.no (fun y r _ => List.rec (intK x fun a => intK y fun b => bif bltZ b a then k y H else k x H) (fun _ _ _ => RC.no) r) r) vs⟩
 | .max, [_, _] => ⟨fun vs H k => List.rec RC.no (fun x r _ => List.rec RC.no (fun y r _ => List.rec (intK x fun a => intK y fun b => bif bltZ a b then k y H else k x H) (fun _ _ _ => RC.no) r) r) vs⟩
 | _, _ => ⟨fun _ _ _ => RC.no⟩
noncomputable def ptrsK (l : List Value) (k : RC) : RC := List.rec k (fun v _ ih => ptrK v fun _ _ => ih) l
noncomputable def cOp (P : Program) (L : Nat) (mp : Mpl) (n : Nat) (op : Op) : Box OpK := match op with
 | .call { callee := .value f, args, .. } => ⟨fun c E T H k => (opB L mp n f).run E T fun fv => (opsB L mp n args.toList).run E T fun vs => RC.rec (fun _ _ => RC.no) (fun _ _ _ => RC.no) (fun _ _ => RC.no) (fun v H' => k v H') RC.no RC.no (c.call fv vs H)⟩
 | .move x => ⟨fun _ E T H k => (opB L mp n x).run E T fun v => k v H⟩
 | .assign x => ⟨fun _ E T H k => (opB L mp n x).run E T fun v => k v H⟩
 | .pick c x y => ⟨fun _ E T H k => (opB L mp n c).run E T fun v => boolK v fun b => Bool.rec ((opB L mp n y).run E T fun v => k v H) ((opB L mp n x).run E T fun v => k v H) b⟩
 | .binOp op t x y t' => ⟨fun _ E T H k => (opB L mp n x).run E T fun a => (opB L mp n y).run E T fun b => (binB P op t t').run a b H fun v => k v H⟩
 | .unOp op t x => ⟨fun _ E T H k => (opB L mp n x).run E T fun a => slowK P (.unOp op t (.const a)) H fun v => k v H⟩
 | .index t x i => ⟨fun _ E T H k => (opB L mp n x).run E T fun a => (opB L mp n i).run E T fun b => slowK P (.index t (.const a) (.const b)) H fun v => k v H⟩
 | .convert s d x => ⟨fun _ E T H k => (opB L mp n x).run E T fun a => (convB P s d).run a H fun v => k v H⟩
 | .load t x => ⟨fun _ E T H k => (opB L mp n x).run E T fun p => (loadB P t).run p H fun v => k v H⟩
 | .store t x y => ⟨fun _ E T H k => (opB L mp n x).run E T fun p => (opB L mp n y).run E T fun v => (storeB P t).run p v H fun H' => k undef H'⟩
 | .indexAddr t x i => ⟨fun _ E T H k => (opB L mp n x).run E T fun x => (opB L mp n i).run E T fun i => (indexB P t).run x i fun v => k v H⟩
 | .fieldAddr t x i => ⟨fun _ E T H k => (opB L mp n x).run E T fun p => (fieldAddrB P t i).run p fun v => k v H⟩
 | .field t x i => ⟨fun _ E T H k => (opB L mp n x).run E T fun p => (fieldB P t i).run p fun v => k v H⟩
 | .extract x i => fN i fun i => ⟨fun _ E T H k => (opB L mp n x).run E T fun v => tupK v fun l => (egB i).run l fun v => k v H⟩
 | .nilCheck x => ⟨fun _ E T H k => (opB L mp n x).run E T fun v => ptrK v fun _ _ => k v H⟩
 | .alloc t => match zeroT P t with
   | some z => match scal z with
     | some cs => fSs cs fun cs => fN cs.length fun m => ⟨fun _ _ _ H k => newK H cs m fun i H' => k (.pointer (some ⟨i, 0, none⟩)) H'⟩
     | none => ⟨fun _ _ _ _ _ => RC.no⟩
   | none => ⟨fun _ _ _ _ _ => RC.no⟩
 | .box _ x => ⟨fun _ E T H k => (opB L mp n x).run E T fun v => scalK v fun cs => fN cs.length fun m => newK H cs m fun i H' => k (.pointer (some ⟨i, 0, none⟩)) H'⟩
 | .build t parts => ⟨fun _ E T H k => (opsB L mp n (parts.toList.map (·.2))).run E T fun vs => (buildB P t (parts.toList.map (·.1))).run vs fun v => k v H⟩
 | .buildSlice t len parts => ⟨fun _ E T H k => (opsB L mp n (parts.toList.map (·.2))).run E T fun vs => (buildSliceB P t len (parts.toList.map (·.1))).run vs H k⟩
 | .makeFunc (.func f) first captured => bif first.isEmpty then ⟨fun _ E T H k => (opsB L mp n captured.toList).run E T fun vs => ptrsK vs (k (.func (.func f) #[] ⟨vs⟩) H)⟩ else ⟨fun _ _ _ _ _ => RC.no⟩
 | .makeMap t r => ⟨fun _ _ _ H k => (makeMapB P t r).run H k⟩
 | .makeSlice t l c => ⟨fun _ E T H k => (opB L mp n l).run E T fun l => (opB L mp n c).run E T fun c => (makeSliceB P t).run l c H k⟩
 | .slice t x lo hi mx => bif mx.isSome then ⟨fun _ _ _ _ _ => RC.no⟩ else ⟨fun _ E T H k => (opB L mp n x).run E T fun x => (opB L mp n (lo.getD (.const undef))).run E T fun l => (opB L mp n (hi.getD (.const undef))).run E T fun h => (sliceB P t lo.isSome hi.isSome).run x l h fun v => k v H⟩
 | .lookup t x i ok => ⟨fun _ E T H k => (opB L mp n x).run E T fun x => (opB L mp n i).run E T fun i => (lookupB P t ok).run x i H fun v => k v H⟩
 | .mapUpdate t x i y => ⟨fun _ E T H k => (opB L mp n x).run E T fun x => (opB L mp n i).run E T fun i => (opB L mp n y).run E T fun v => (updateB P t).run x i v H fun H' => k undef H'⟩
 | .call { callee := .builtin b, args, argTypes } => ⟨fun _ E T H k => (opsB L mp n args.toList).run E T fun vs => (builtB P b argTypes.toList).run vs H k⟩
 | _ => ⟨fun _ _ _ _ _ => RC.no⟩
def unslot (d : Nat) (mp : Mpl) : Mpl := mp.map fun p => match p.2 with
 | .slot s => bif Nat.beq s d then (p.1, .bad) else p
 | _ => p
noncomputable def putB (d : Nat) : Box (FT → Value → (FT → RC) → RC) := bif Nat.ble (d + 1) 262144 then s2B d else ⟨fun _ _ _ => RC.no⟩
def srcOf (L : Nat) (mp : Mpl) (x : Operand) : Option Lc := match x with
 | .tmp t => match lk mp t with
   | some l => some l
   | none => bif L.testBit t || !Nat.ble (t + 1) 262144 then none else some (.slot t)
 | .const v => some (.cst v)
 | .func f => some (.cst (.func (.func f) #[] #[]))
 | .global _ => none
noncomputable def nextB (L : Nat) (mp : Mpl) (n : Nat) (dst : Option Nat) (rest : Mpl → Nat → Box (Ctx → Env → FT → FH → RC)) : Box (Ctx → Env → FT → FH → Value → RC) := match dst with
 | none => ⟨fun c E T H _ => (rest mp n).run c E T H⟩
 | some d => bif L.testBit d then ⟨fun c E T H v => (rest ((d, .env n) :: mp) (n + 1)).run c (v :: E) T H⟩
   else ⟨fun c E T H v => (putB d).run T v fun T' => (rest ((d, .env n) :: unslot d mp) (n + 1)).run c (v :: E) T' H⟩
noncomputable def truthK : Value → RC → RC → RC → RC := Value.rec (motive_1 := fun _ => RC → RC → RC → RC) (motive_2 := fun _ => RC → RC → RC → RC) (motive_3 := fun _ => RC → RC → RC → RC) (fun b y z _ => Bool.rec z y b) (fun _ _ _ _ o => o) (fun _ _ _ _ o => o) (fun _ _ _ _ _ o => o) (fun _ _ _ o => o) (fun _ _ _ o => o) (fun _ _ _ _ _ o => o) (fun _ _ _ o => o) (fun _ _ _ o => o) (fun _ _ _ _ _ _ _ o => o) (fun  _ _ o => o) (fun _ _ _ _ _ o => o) (fun  _ _ o => o) (fun _ _ _ _ o => o) (fun _ _ _ _ o => o) (fun _ _ _ _ o => o) (fun _ _ o => o) (fun _ _ _ _ _ _ o => o)
noncomputable def guardB (L : Nat) (mp : Mpl) (n : Nat) (ops : Array Oper) (j : Nat) (want : Bool) : Box (Env → FT → RC → RC → RC) := match (ops[j]?).bind (·.dst) with
 | some t => bif want then ⟨fun E T y z => (opB L mp n (.tmp t)).run E T fun v => truthK v y z z⟩ else ⟨fun E T y z => (opB L mp n (.tmp t)).run E T fun v => truthK v z y z⟩
 | none => ⟨fun _ _ _ z => z⟩
def moveOf (o : Oper) : Option (Nat × Operand) := match o.op, o.guard, o.dst with
 | .move x, none, some d => some (d, x)
 | _, _, _ => none
def mayAlias (L : Nat) (d : Nat) (l : Lc) (rest : List Oper) : Bool := L.testBit d && match l with
 | .slot s => rest.all fun o => match o.dst with
   | some e => !Nat.beq e s
   | none => true
 | _ => true
noncomputable def stepB (P : Program) (L : Nat) (ops : Array Oper) (mp : Mpl) (n : Nat) (o : Oper) (rest : Mpl → Nat → Box (Ctx → Env → FT → FH → RC)) : Box (Ctx → Env → FT → FH → RC) := match o.guard with
 | none => ⟨fun c E T H => (cOp P L mp n o.op).run c E T H fun v H' => (nextB L mp n o.dst rest).run c E T H' v⟩
 | some (j, want) => ⟨fun c E T H => (guardB L mp n ops j want).run E T ((cOp P L mp n o.op).run c E T H fun v H' => (nextB L mp n o.dst rest).run c E T H' v) ((nextB L mp n o.dst rest).run c E T H undef)⟩
noncomputable def regB (P : Program) (L : Nat) (ops : Array Oper) (l : List Oper) : Mpl → Nat → Box (Ctx → Env → FT → FH → RC) :=
 List.rec (motive := fun _ => Mpl → Nat → Box (Ctx → Env → FT → FH → RC)) (fun _ _ => ⟨fun _ _ T H => .nx T H⟩)
  (fun o os ih mp n => match moveOf o with
   | some (d, x) => match srcOf L mp x with
     | some l => bif mayAlias L d l os then ih ((d, l) :: mp) n else stepB P L ops mp n o ih
     | none => ⟨fun _ _ _ _ => RC.no⟩
   | none => stepB P L ops mp n o ih) l
end Go.Abs
namespace Go.Abs
def lval (l : Lc) (E : Env) (T : FT) : Value := match l with
 | .env i => (E[E.length - 1 - i]?).getD undef
 | .slot s => den T s
 | .cst v => v
 | .bad => undef
def lok (l : Lc) (n : Nat) : Prop := match l with
 | .env i => i < n
 | .slot s => s < 262144
 | .cst _ => True
 | .bad => True
structure FInv (L : Nat) (mp : Mpl) (n : Nat) (E : Env) (T : FT) (a : Fr) : Prop where
 len : E.length = n
 mp : ∀ t l, lk mp t = some l → l = .bad ∨ (lok l n ∧ a t = lval l E T)
 fr : ∀ t, L.testBit t = false → a t = den T t
theorem egB_or : ∀ (i : Nat) (E : Env) (k : Value → RC), (egB i).run E k = RC.no ∨ ∃ v, E[i]? = some v ∧ (egB i).run E k = k v := by
 intro i
 induction i with
 | zero => intro E k; cases E with | nil => exact .inl rfl | cons x xs => exact .inr ⟨x, rfl, rfl⟩
 | succ i ih =>
   intro E k
   cases E with
   | nil => exact .inl rfl
   | cons x xs =>
     have e : (egB (i + 1)).run (x :: xs) k = (egB i).run xs k := rfl
     rw [e]
     simpa using ih xs k
theorem den_lt {T : FT} {s : Nat} (h : s < 262144) : T2.get T s = den T s := by unfold den; rw [if_pos h]
theorem ble_lt {i n : Nat} : Nat.ble (i + 1) n = decide (i < n) := ble_if
section
variable {L : Nat} {mp : Mpl} {n : Nat} {E : Env} {T : FT} {a : Fr}
theorem opB_or (hi : FInv L mp n E T a) (x : Operand) (k : Value → RC) : (opB L mp n x).run E T k = RC.no ∨ (opB L mp n x).run E T k = k (ev a x) := by
 unfold opB
 cases x with
 | tmp t =>
   simp only
   split
   ·rename_i l hl
    rcases hi.mp t l hl with rfl | ⟨h1, h2⟩
    ·exact .inl rfl
    unfold lcB
    cases l with
    | env i =>
      simp only
      rcases egB_or (n - 1 - i) E k with h | ⟨v, hv, h⟩
      ·exact .inl h
      ·right; rw [h]; show k v = k (a t); rw [h2]; simp only [lval, hi.len, hv, Option.getD_some]
    | slot s => right; simp only; rw [g2B_eq]; show k _ = k (a t); rw [h2]; simp only [lval]; rw [den_lt h1]
    | cst v => right; show k v = k (a t); rw [h2]; rfl
    | bad => exact .inl rfl
   ·rename_i hl
    cases hb : (L.testBit t || !Nat.ble (t + 1) 262144) with
    | true => exact .inl rfl
    | false =>
      rw [Bool.or_eq_false_iff, Bool.not_eq_false', ble_lt, decide_eq_true_iff] at hb
      right
      simp only [cond_false]
      rw [g2B_eq, den_lt hb.2]
      show k _ = k (a t)
      rw [hi.fr t hb.1]
 | const v => right; simp only [fV_eq]; rfl
 | func f => exact .inr rfl
 | global g => exact .inl rfl
theorem opsB_or (hi : FInv L mp n E T a) : ∀ (l : List Operand) (k : List Value → RC), (opsB L mp n l).run E T k = RC.no ∨ (opsB L mp n l).run E T k = k (l.map (ev a)) := by
 intro l
 induction l with
 | nil => intro k; exact .inr rfl
 | cons x xs ih =>
   intro k
   have e : (opsB L mp n (x :: xs)).run E T k = (opB L mp n x).run E T fun v => (opsB L mp n xs).run E T fun vs => k (v :: vs) := rfl
   rw [e]
   rcases opB_or hi x (fun v => (opsB L mp n xs).run E T fun vs => k (v :: vs)) with h | h
   ·exact .inl h
   ·rw [h]
    exact ih _
end
section
variable {P : Program} {a : Fr}
theorem cmpK_eq (b : Bool) (k : Value → RC) : cmpK b k = k (.bool b) := by cases b <;> rfl
theorem slowK_or {op : Op} {o : Oper} {H : FH} (k : Value → RC) (hsame : ∀ G, aexec P nofr (opr op) G = aexec P a o G) (hheap : ∀ G v G', aexec P a o G = some (v, G') → G' = G) :
  slowK P op H k = RC.no ∨ ∃ v, aexec P a o (absH H) = some (v, absH H) ∧ slowK P op H k = k v := by
 unfold slowK
 rw [hsame]
 split
 ·rename_i v G' h
  have := hheap _ _ _ h
  subst this
  exact .inr ⟨v, h, fV_eq _ _⟩
 ·exact .inl rfl
theorem map_heap {α : Type} {x : Option α} {G G' : Heap} {v : α} (h : x.map (·, G) = some (v, G')) : G' = G := by
 cases x with
 | none => cases h
 | some y => simp only [Option.map_some] at h; injection h with h; injection h with _ h; exact h.symm
theorem eqGuard_plain {op : BinOp} {t : TypeId} {x y x' y' : Operand} {u v : Value} (hu : plain u = true) : eqGuard op t x y u v = eqGuard op t x' y' u v := by
 unfold eqGuard
 cases u <;> first | rfl | simp [plain] at hu
theorem bin_same {o : Oper} {op : BinOp} {t t' : TypeId} {x y : Operand} (ho : o.op = .binOp op t x y t') (G : Heap) : aexec P nofr (opr (.binOp op t (.const (ev a x)) (.const (ev a y)) t')) G = aexec P a o G := by
 have hp : plainA P nofr (opr (.binOp op t (.const (ev a x)) (.const (ev a y)) t')) = plainA P a o := by
  unfold plainA
  have e1 : (opr (.binOp op t (.const (ev a x)) (.const (ev a y)) t')).op.operands.toList.all (fun z => plain (ev nofr z)) = o.op.operands.toList.all (fun z => plain (ev a z)) := by rw [ho]; simp [opr, Op.operands, ev]
  rw [e1]
  split
  ·rename_i hall
   have hx : plain (ev a x) = true := by rw [ho] at hall; simp [Op.operands] at hall; exact hall.1
   have e2 : execOp (ev nofr) (opr (.binOp op t (.const (ev a x)) (.const (ev a y)) t')) = execOp (ev a) o := by
    have h1 : execOp (ev nofr) (opr (.binOp op t (.const (ev a x)) (.const (ev a y)) t')) = (do let v ← (do eqGuard op t (.const (ev a x)) (.const (ev a y)) (ev a x) (ev a y); binOp op t (ev a x) (ev a y)); pure (.value v)) := rfl
    have h2 : execOp (ev a) o = (do let v ← (do eqGuard op t x y (ev a x) (ev a y); binOp op t (ev a x) (ev a y)); pure (.value v)) := by unfold execOp; rw [ho]
    rw [h1, h2, eqGuard_plain (x := .const (ev a x)) (y := .const (ev a y)) (x' := x) (y' := y) hx]
   rw [e2]
  ·rfl
 unfold aexec
 rw [ho]
 cases op <;> simp only [opr] at hp ⊢ <;> simp only [hp] <;> rfl
theorem bin_heap {o : Oper} {op : BinOp} {t t' : TypeId} {x y : Operand} (ho : o.op = .binOp op t x y t') (G : Heap) (v : Value) (G' : Heap) (h : aexec P a o G = some (v, G')) : G' = G := by
 unfold aexec at h
 rw [ho] at h
 cases op <;> simp only at h <;> first | exact map_heap h | (split at h <;> first | (injection h with h; injection h with _ h; exact h.symm) | exact map_heap h)
theorem un_same {o : Oper} {op : UnOp} {t : TypeId} {x : Operand} (ho : o.op = .unOp op t x) (G : Heap) : aexec P nofr (opr (.unOp op t (.const (ev a x)))) G = aexec P a o G := by
 have hp : plainA P nofr (opr (.unOp op t (.const (ev a x)))) = plainA P a o := by
  unfold plainA
  have e1 : (opr (.unOp op t (.const (ev a x)))).op.operands.toList.all (fun z => plain (ev nofr z)) = o.op.operands.toList.all (fun z => plain (ev a z)) := by rw [ho]; simp [opr, Op.operands, ev]
  have e2 : execOp (ev nofr) (opr (.unOp op t (.const (ev a x)))) = execOp (ev a) o := by simp only [execOp, ho, opr, ev]
  rw [e1, e2]
 unfold aexec
 rw [ho]
 simp only [opr] at hp ⊢
 simp only [hp]
theorem un_heap {o : Oper} {op : UnOp} {t : TypeId} {x : Operand} (ho : o.op = .unOp op t x) (G : Heap) (v : Value) (G' : Heap) (h : aexec P a o G = some (v, G')) : G' = G := by
 unfold aexec at h
 rw [ho] at h
 exact map_heap h
theorem idx_same {o : Oper} {t : TypeId} {x i : Operand} (ho : o.op = .index t x i) (G : Heap) : aexec P nofr (opr (.index t (.const (ev a x)) (.const (ev a i)))) G = aexec P a o G := by
 have hp : plainA P nofr (opr (.index t (.const (ev a x)) (.const (ev a i)))) = plainA P a o := by
  unfold plainA
  have e1 : (opr (.index t (.const (ev a x)) (.const (ev a i)))).op.operands.toList.all (fun z => plain (ev nofr z)) = o.op.operands.toList.all (fun z => plain (ev a z)) := by rw [ho]; simp [opr, Op.operands, ev]
  have e2 : execOp (ev nofr) (opr (.index t (.const (ev a x)) (.const (ev a i)))) = execOp (ev a) o := by simp only [execOp, ho, opr, ev]
  rw [e1, e2]
 unfold aexec
 rw [ho]
 have c : ∀ v, ev nofr (.const v) = v := fun v => rfl
 simp only [opr] at hp ⊢
 simp only [hp, c]
theorem idx_heap {o : Oper} {t : TypeId} {x i : Operand} (ho : o.op = .index t x i) (G : Heap) (v : Value) (G' : Heap) (h : aexec P a o G = some (v, G')) : G' = G := by
 unfold aexec at h
 rw [ho] at h
 simp only at h
 split at h
 ·injection h with h; injection h with _ h; exact h.symm
 ·exact map_heap h
theorem conv_same {o : Oper} {s d : TypeId} {x : Operand} (ho : o.op = .convert s d x) (G : Heap) : aexec P nofr (opr (.convert s d (.const (ev a x)))) G = aexec P a o G := by
 have hp : plainA P nofr (opr (.convert s d (.const (ev a x)))) = plainA P a o := by
  unfold plainA
  have e1 : (opr (.convert s d (.const (ev a x)))).op.operands.toList.all (fun z => plain (ev nofr z)) = o.op.operands.toList.all (fun z => plain (ev a z)) := by rw [ho]; simp [opr, Op.operands, ev]
  have e2 : execOp (ev nofr) (opr (.convert s d (.const (ev a x)))) = execOp (ev a) o := by simp only [execOp, ho, opr, ev]
  rw [e1, e2]
 unfold aexec
 rw [ho]
 simp only [opr, ev] at hp ⊢
 simp only [hp]
theorem conv_heap {o : Oper} {s d : TypeId} {x : Operand} (ho : o.op = .convert s d x) (G : Heap) (v : Value) (G' : Heap) (h : aexec P a o G = some (v, G')) : G' = G := by
 unfold aexec at h
 rw [ho] at h
 simp only at h
 split at h
 ·injection h with h; injection h with _ h; exact h.symm
 ·exact map_heap h
theorem wrap_fits {z : Int} (h : Fits z) : IntKind.i64.wrap z = z := wrap_small h.1 h.2
theorem binB_or {o : Oper} {op : BinOp} {t t' : TypeId} {x y : Operand} (ho : o.op = .binOp op t x y t') (H : FH) (k : Value → RC) :
  (binB P op t t').run (ev a x) (ev a y) H k = RC.no ∨ ∃ v, aexec P a o (absH H) = some (v, absH H) ∧ (binB P op t t').run (ev a x) (ev a y) H k = k v := by
 have slow := slowK_or (H := H) k (bin_same (P := P) (a := a) ho) (bin_heap ho)
 unfold binB
 cases hf : arB op with
 | none => exact slow
 | some f =>
   simp only
   cases isI64 P t with
   | false => exact slow
   | true =>
     simp only [cond_true]
     rcases intK_or (ev a x) (fun x => intK (ev a y) fun y => f.run x y k) with h | ⟨m, hx, h⟩
     ·exact .inl h
     rw [h]
     clear h slow
     rcases intK_or (ev a y) (fun y => f.run m y k) with h | ⟨q, hy, h⟩
     ·exact .inl h
     rw [h]
     clear h
     have key : ∀ v, plain v = true → ((pureVal P (execOp (ev a) o)).bind valOf) = some v → aexec P a o (absH H) = some (v, absH H) := fun v hv hb => aexec_bin ho hx hy hb hv
     have ex : execOp (ev a) o = (do let v ← (do eqGuard op t x y (ev a x) (ev a y); binOp op t (ev a x) (ev a y)); pure (.value v)) := by unfold execOp; rw [ho]
     rw [hx, hy] at ex
     cases op with
     | and => cases hf
     | or => cases hf
     | xor => cases hf
     | shl => cases hf
     | shr => cases hf
     | andNot => cases hf
     | add =>
       cases hf
       rcases addZ_or m q (fun z => k (.int .i64 z)) with e | ⟨e, hw⟩
       ·exact .inl e
       ·exact .inr ⟨_, key _ rfl (by rw [ex]; simp [eqGuard, binOp, Op.intArith, pv, valOf, wrap_fits hw]), e⟩
     | sub =>
       cases hf
       rcases subZ_or m q (fun z => k (.int .i64 z)) with e | ⟨e, hw⟩
       ·exact .inl e
       ·exact .inr ⟨_, key _ rfl (by rw [ex]; simp [eqGuard, binOp, Op.intArith, pv, valOf, wrap_fits hw]), e⟩
     | mul =>
       cases hf
       rcases mulZ_or m q (fun z => k (.int .i64 z)) with e | ⟨e, hw⟩
       ·exact .inl e
       ·exact .inr ⟨_, key _ rfl (by rw [ex]; simp [eqGuard, binOp, Op.intArith, pv, valOf, wrap_fits hw]), e⟩
     | quo =>
       cases hf
       rcases quoZ_or m q (fun z => k (.int .i64 z)) with e | ⟨e, hw, h0⟩
       ·exact .inl e
       ·exact .inr ⟨_, key _ rfl (by rw [ex]; simp [eqGuard, binOp, Op.intDiv, h0, pv, valOf, wrap_fits hw]), e⟩
     | rem =>
       cases hf
       rcases remZ_or m q (fun z => k (.int .i64 z)) with e | ⟨e, h0⟩
       ·exact .inl e
       ·exact .inr ⟨_, key _ rfl (by rw [ex]; simp [eqGuard, binOp, Op.intDiv, h0, pv, valOf]), e⟩
     | eql =>
       cases hf
       exact .inr ⟨_, key (.bool (beqZ m q)) rfl (by rw [ex, beqZ_eq]; simp [eqGuard, binOp, Op.intCmp, pv, valOf]), cmpK_eq _ _⟩
     | neq =>
       cases hf
       exact .inr ⟨_, key (.bool (!beqZ m q)) rfl (by rw [ex, beqZ_eq]; simp [eqGuard, binOp, Op.intCmp, pv, valOf]; rfl), cmpK_eq _ _⟩
     | lss =>
       cases hf
       exact .inr ⟨_, key (.bool (bltZ m q)) rfl (by rw [ex, bltZ_eq]; simp [eqGuard, binOp, Op.intCmp, pv, valOf]), cmpK_eq _ _⟩
     | gtr =>
       cases hf
       exact .inr ⟨_, key (.bool (bltZ q m)) rfl (by rw [ex, bltZ_eq]; simp [eqGuard, binOp, Op.intCmp, pv, valOf]), cmpK_eq _ _⟩
     | leq =>
       cases hf
       exact .inr ⟨_, key (.bool (!bltZ q m)) rfl (by rw [ex, bltZ_eq]; simp [eqGuard, binOp, Op.intCmp, pv, valOf, ← decide_not]), cmpK_eq _ _⟩
     | geq =>
       cases hf
       exact .inr ⟨_, key (.bool (!bltZ m q)) rfl (by rw [ex, bltZ_eq]; simp [eqGuard, binOp, Op.intCmp, pv, valOf, ← decide_not]), cmpK_eq _ _⟩
end
section
variable {P : Program} {H : FH}
theorem cells_abs {b fam n : Nat} {own : Bool} {t : FT} (hb : b < H.n) (hx : (H.nd b).x = .cells fam own n t) : (absH H)[b]? = some (.cells fam own (toL n t)) := by
 rw [absH_get, if_pos hb, hx]; rfl
theorem loadB_or (t : TypeId) (p : Value) (k : Value → RC) : (loadB P t).run p H k = RC.no ∨ ∃ v, loadA P t p (absH H) = some v ∧ (loadB P t).run p H k = k v := by
 unfold loadB
 cases hag : isAggT P t with
 | none => exact .inl rfl
 | some ag =>
   cases ag with
   | false =>
     simp only
     rcases ptrK_or p (fun b o => cellsK H b fun _ _ n t => bif Nat.ble (Nat.add o 1) n then (g2B o).run t k else RC.no) with h | ⟨b, o, rfl, h⟩
     ·exact .inl h
     rw [h]; clear h
     rcases cellsK_or H b (fun _ _ n t => bif Nat.ble (Nat.add o 1) n then (g2B o).run t k else RC.no) with h | ⟨fam, own, n, t', hb, hx, h⟩
     ·exact .inl h
     rw [h]; clear h
     cases hc : Nat.ble (Nat.add o 1) n with
     | false => exact .inl rfl
     | true =>
       have hlt : o < n := Nat.le_of_ble_eq_true hc
       right
       refine ⟨T2.get t' o, ?_, by simp only [cond_true]; rw [g2B_eq]⟩
       simp only [loadA, hag, Heap.cell, cells_abs hb hx, toL_get, if_pos hlt]
   | true =>
     simp only
     cases hs : sizeT P t with
     | none => exact .inl rfl
     | some m =>
       simp only [fN_eq]
       rcases ptrK_or p (fun b o => cellsK H b fun _ _ n t => bif Nat.ble (Nat.add o m) n then rowK t o m fun l => k (.agg ⟨l⟩) else RC.no) with h | ⟨b, o, rfl, h⟩
       ·exact .inl h
       rw [h]; clear h
       rcases cellsK_or H b (fun _ _ n t => bif Nat.ble (Nat.add o m) n then rowK t o m fun l => k (.agg ⟨l⟩) else RC.no) with h | ⟨fam, own, n, t', hb, hx, h⟩
       ·exact .inl h
       rw [h]; clear h
       cases hc : Nat.ble (Nat.add o m) n with
       | false => exact .inl rfl
       | true =>
         have hle : o + m ≤ n := Nat.le_of_ble_eq_true hc
         right
         refine ⟨.agg ⟨((toL n t').drop o).take m⟩, ?_, by simp only [cond_true]; rw [rowK_eq hle]⟩
         simp only [loadA, hag, hs, Heap.cellsAt, cells_abs hb hx, toL_length, if_pos hle]
theorem storeB_or (hH : H.OK) (t : TypeId) (p v : Value) (k : FH → RC) : (storeB P t).run p v H k = RC.no ∨ ∃ H', H'.OK ∧ storeA P t p v (absH H) = some (absH H') ∧ (storeB P t).run p v H k = k H' := by
 unfold storeB
 cases hs : sizeT P t with
 | none => exact .inl rfl
 | some m =>
   simp only [fN_eq]
   rcases ptrK_or p (fun b o => scalK v fun cs => bif Nat.beq cs.length m then writeK H b o m cs k else RC.no) with h | ⟨b, o, rfl, h⟩
   ·exact .inl h
   rw [h]; clear h
   rcases scalK_or v (fun cs => bif Nat.beq cs.length m then writeK H b o m cs k else RC.no) with h | ⟨cs, hcs, h⟩
   ·exact .inl h
   rw [h]; clear h
   cases hl : Nat.beq cs.length m with
   | false => exact .inl rfl
   | true =>
     have hl := Nat.eq_of_beq_eq_true hl
     simp only [cond_true]
     rcases writeK_or hH b o m cs hl k with h | ⟨H', h1, h2, h3⟩
     ·exact .inl h
     ·exact .inr ⟨H', h1, by simp only [storeA, hcs, hs, if_pos hl, h2], h3⟩
theorem readK_or (size : Nat) (v : Value) (k : List Value → Nat → RC) : readK H size v k = RC.no ∨ ∃ cs ad n c, v = .slice ad n c ∧ readA (absH H) size v = some cs ∧ readK H size v k = k cs n ∧ (ad = none → c = 0) := by
 unfold readK
 rcases sliceK_or v (fun a n c => addrK (bif Nat.beq n 0 && Nat.beq c 0 then k [] 0 else RC.no) (bif Nat.beq n 0 then k [] 0 else RC.no) a fun b o => cellsK H b fun _ _ m t => fN (Nat.mul n size) fun q => bif Nat.ble (Nat.add o q) m then rowK t o q fun l => k l n else RC.no) with h | ⟨ad, n, c, rfl, h⟩
 ·exact .inl h
 rw [h]; clear h
 rcases addrK_or ad (bif Nat.beq n 0 && Nat.beq c 0 then k [] 0 else RC.no) (bif Nat.beq n 0 then k [] 0 else RC.no) (fun b o => cellsK H b fun _ _ m t => fN (Nat.mul n size) fun q => bif Nat.ble (Nat.add o q) m then rowK t o q fun l => k l n else RC.no) with ⟨rfl, h⟩ | ⟨b, o, p, rfl, h⟩ | ⟨b, o, rfl, h⟩
 ·rw [h]
  cases hc : (Nat.beq n 0 && Nat.beq c 0) with
  | false => exact .inl rfl
  | true =>
    simp only [Bool.and_eq_true] at hc
    have h1 := Nat.eq_of_beq_eq_true hc.1
    have h2 := Nat.eq_of_beq_eq_true hc.2
    subst h1; subst h2
    exact .inr ⟨[], none, 0, 0, rfl, rfl, rfl, fun _ => rfl⟩
 ·rw [h]
  cases hc : Nat.beq n 0 with
  | false => exact .inl rfl
  | true =>
    have h1 := Nat.eq_of_beq_eq_true hc
    subst h1
    exact .inr ⟨[], _, 0, c, rfl, rfl, rfl, fun h => by cases h⟩
 ·rw [h]; clear h
  rcases cellsK_or H b (fun _ _ m t => fN (Nat.mul n size) fun q => bif Nat.ble (Nat.add o q) m then rowK t o q fun l => k l n else RC.no) with h | ⟨fam, own, m, t', hb, hx, h⟩
  ·exact .inl h
  rw [h]; clear h
  rw [fN_eq]
  cases hc : Nat.ble (Nat.add o (Nat.mul n size)) m with
  | false => exact .inl rfl
  | true =>
    have hle : o + n * size ≤ m := Nat.le_of_ble_eq_true hc
    right
    refine ⟨((toL m t').drop o).take (n * size), _, n, c, rfl, ?_, by simp only [cond_true]; rw [rowK_eq (show o + Nat.mul n size ≤ m from hle)]; rfl, fun h => by cases h⟩
    simp only [readA, Heap.cellsAt, cells_abs hb hx, toL_length, if_pos hle]
end
end Go.Abs
