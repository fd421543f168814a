/- A region that draws its order: the run in the order of the text, step by step. -/
import Derived.Test.YtmmgdgmjkhcfaaaEngKc
namespace Go.Abs
section
variable (P : Program) (call : CallF) (ops : Array Oper) (a : Fr) (H : Heap)
def dStep (j : Nat) (s : Fr × Heap) : Value × (Fr × Heap) :=
  match ops[j]? with
  | none => (undef, s)
  | some o =>
    if Region.wanted o (yieldedA ops s.1) then
      match cls o.op with
      | .eff => match stepA P call s.1 o s.2 with
        | some (v, H') => (v, putA s.1 o.dst v, H')
        | none => (undef, s)
      | .all_ => match aexec P s.1 o s.2 with
        | some (v, H') => (v, putA s.1 o.dst v, H')
        | none => (undef, s)
      | _ => match aexec P s.1 o s.2 with
        | some (v, _) => (v, putA s.1 o.dst v, s.2)
        | none => (undef, s)
    else (undef, putA s.1 o.dst undef, s.2)
def tr : Nat → Fr × Heap
  | 0 => (a, H)
  | j + 1 => (dStep P call ops j (tr j)).2
def trA (j : Nat) : Fr := (tr P call ops a H j).1
def trH (j : Nat) : Heap := (tr P call ops a H j).2
def trV (j : Nat) : Value := (dStep P call ops j (tr P call ops a H j)).1
def opAt (j : Nat) : Oper := ops.getD j default
def trW (j : Nat) : Bool := Region.wanted (opAt ops j) (yieldedA ops (trA P call ops a H j))
def isE (j : Nat) : Prop := trW P call ops a H j = true ∧ cls (opAt ops j).op = .eff
instance (j : Nat) : Decidable (isE P call ops a H j) := by unfold isE; infer_instance
def trS : Nat → List (Option Nat × Heap)
  | 0 => [(none, H)]
  | j + 1 => if isE P call ops a H j then (some j, trH P call ops a H (j + 1)) :: trS j else trS j
def trP (bef : Array Nat) : Nat → Pend
  | 0 => []
  | j + 1 => if isE P call ops a H j then (trP bef j).filter (fun p => !(bef.getD j 0).testBit p.1)
    else if trW P call ops a H j = true ∧ cls (opAt ops j).op = .read then (j, trA P call ops a H j, opAt ops j, trV P call ops a H j) :: trP bef j
    else trP bef j
structure StepOk (bef : Array Nat) (j : Nat) : Prop where
  eff : isE P call ops a H j → stepA P call (trA P call ops a H j) (opAt ops j) (trH P call ops a H j) = some (trV P call ops a H j, trH P call ops a H (j + 1)) ∧
    ∀ p ∈ trP P call ops a H bef (j + 1), stillReads P (trH P call ops a H (j + 1)) p.2.1 p.2.2.1 p.2.2.2 = true
  alloc : trW P call ops a H j = true → cls (opAt ops j).op = .all_ → aexec P (trA P call ops a H j) (opAt ops j) (trH P call ops a H j) = some (trV P call ops a H j, trH P call ops a H (j + 1))
  read : trW P call ops a H j = true → cls (opAt ops j).op = .read → ∀ G ∈ window (bef.getD j 0) (trS P call ops a H j), stillReads P G (trA P call ops a H j) (opAt ops j) (trV P call ops a H j) = true
  quiet : trW P call ops a H j = true → cls (opAt ops j).op = .pure_ ∨ cls (opAt ops j).op = .read → ∃ G, aexec P (trA P call ops a H j) (opAt ops j) (trH P call ops a H j) = some (trV P call ops a H j, G)
  still : ¬ isE P call ops a H j → ¬ (trW P call ops a H j = true ∧ cls (opAt ops j).op = .all_) → trH P call ops a H (j + 1) = trH P call ops a H j
  not : trW P call ops a H j = false → trV P call ops a H j = undef
  next : trA P call ops a H (j + 1) = putA (trA P call ops a H j) (opAt ops j).dst (trV P call ops a H j)
variable {P call ops a H}
theorem opAt_get {j : Nat} (hj : j < ops.size) : ops[j]? = some (opAt ops j) := by
  rw [Array.getElem?_eq_getElem hj]; simp [opAt, Array.getD, hj]
theorem trace {bef : Array Nat} {a' : Fr} {H' : Heap} : ∀ (k i : Nat), i + k = ops.size → evDraw P call ops bef (List.range' i k) (trA P call ops a H i) (trH P call ops a H i) (trS P call ops a H i) (trP P call ops a H bef i) = some (a', H') →
    (trA P call ops a H ops.size = a' ∧ trH P call ops a H ops.size = H') ∧ ∀ j, i ≤ j → j < ops.size → StepOk P call ops a H bef j := by
  intro k
  induction k with
  | zero =>
    intro i hi h
    simp only [List.range'_zero, evDraw] at h
    injection h with h
    injection h with h1 h2
    obtain rfl : i = ops.size := by omega
    exact ⟨⟨h1, h2⟩, fun j h1 h2 => by omega⟩
  | succ k ih =>
    intro i hi h
    have hlt : i < ops.size := by omega
    have hget := opAt_get (ops := ops) hlt
    rw [List.range'_succ] at h
    simp only [evDraw, hget] at h
    have hd : dStep P call ops i (tr P call ops a H i) = (trV P call ops a H i, (trA P call ops a H (i + 1), trH P call ops a H (i + 1))) := rfl
    have hd0 := hd
    unfold dStep at hd
    rw [hget] at hd
    simp only at hd
    have hwd : Region.wanted (opAt ops i) (yieldedA ops (tr P call ops a H i).1) = trW P call ops a H i := rfl
    have hA : (tr P call ops a H i).1 = trA P call ops a H i := rfl
    have hH : (tr P call ops a H i).2 = trH P call ops a H i := rfl
    rw [hwd] at hd
    rw [hA, hH] at hd
    have hwd' : Region.wanted (opAt ops i) (yieldedA ops (trA P call ops a H i)) = trW P call ops a H i := rfl
    rw [hwd'] at h
    have finish : ∀ (hS : trS P call ops a H (i + 1) = trS P call ops a H (i + 1)), StepOk P call ops a H bef i → evDraw P call ops bef (List.range' (i + 1) k) (trA P call ops a H (i + 1)) (trH P call ops a H (i + 1)) (trS P call ops a H (i + 1)) (trP P call ops a H bef (i + 1)) = some (a', H') →
        (trA P call ops a H ops.size = a' ∧ trH P call ops a H ops.size = H') ∧ ∀ j, i ≤ j → j < ops.size → StepOk P call ops a H bef j := by
      intro _ hok hrest
      obtain ⟨h1, h2⟩ := ih (i + 1) (by omega) hrest
      refine ⟨h1, fun j hj1 hj2 => ?_⟩
      rcases Nat.eq_or_lt_of_le hj1 with e | e
      · rw [← e]; exact hok
      · exact h2 j e hj2
    cases hw : trW P call ops a H i with
    | false =>
      rw [hw] at h hd
      simp only [Bool.false_eq_true, if_false] at h hd
      injection hd with hd1 hd2
      injection hd2 with hd2 hd3
      have hnE : ¬ isE P call ops a H i := fun e => by have e1 := e.1; rw [hw] at e1; cases e1
      have hSn : trS P call ops a H (i + 1) = trS P call ops a H i := by simp only [trS]; rw [if_neg hnE]
      have hPn : trP P call ops a H bef (i + 1) = trP P call ops a H bef i := by simp only [trP]; rw [if_neg hnE, if_neg (fun e => by rw [hw] at e; cases e.1)]
      refine finish rfl ⟨fun e => absurd e hnE, fun e => ?_, fun e => ?_, fun e => ?_, fun _ _ => hd3.symm, fun _ => hd1.symm, by rw [← hd2, ← hd1]⟩ ?_
      · rw [hw] at e; cases e
      · rw [hw] at e; cases e
      · rw [hw] at e; cases e
      · rw [hSn, hPn, ← hd2, ← hd3]; exact h
    | true =>
      rw [hw] at h hd
      simp only [if_true] at h hd
      cases hc : cls (opAt ops i).op with
      | eff =>
        have hE : isE P call ops a H i := ⟨hw, hc⟩
        rw [hc] at h hd
        simp only at h hd
        cases hs : stepA P call (trA P call ops a H i) (opAt ops i) (trH P call ops a H i) with
        | none => rw [hs] at h; cases h
        | some r =>
          obtain ⟨v, H1⟩ := r
          rw [hs] at h hd
          simp only at h hd
          injection hd with hd1 hd2
          injection hd2 with hd2 hd3
          have hSn : trS P call ops a H (i + 1) = (some i, trH P call ops a H (i + 1)) :: trS P call ops a H i := by simp only [trS]; rw [if_pos hE]
          have hPn : trP P call ops a H bef (i + 1) = (trP P call ops a H bef i).filter (fun p => !(bef.getD i 0).testBit p.1) := by simp only [trP]; rw [if_pos hE]
          split at h
          · rename_i hall
            refine finish rfl ⟨fun _ => ⟨by rw [← hd1, ← hd3]; exact hs, fun p hp => ?_⟩, fun _ e => ?_, fun _ e => ?_, fun _ e => ?_, fun e => absurd hE e, fun e => ?_, by rw [← hd2, ← hd1]⟩ ?_
            · rw [hPn] at hp
              rw [← hd3]
              exact List.all_eq_true.1 hall p hp
            · rw [hc] at e; cases e
            · rw [hc] at e; cases e
            · rw [hc] at e; rcases e with e | e <;> cases e
            · rw [hw] at e; cases e
            · rw [hSn, hPn, ← hd2, ← hd3]; exact h
          · cases h
      | all_ =>
        have hnE : ¬ isE P call ops a H i := fun e => by have e2 := e.2; rw [hc] at e2; cases e2
        rw [hc] at h hd
        simp only at h hd
        cases hs : aexec P (trA P call ops a H i) (opAt ops i) (trH P call ops a H i) with
        | none => rw [hs] at h; cases h
        | some r =>
          obtain ⟨v, H1⟩ := r
          rw [hs] at h hd
          simp only at h hd
          injection hd with hd1 hd2
          injection hd2 with hd2 hd3
          have hSn : trS P call ops a H (i + 1) = trS P call ops a H i := by simp only [trS]; rw [if_neg hnE]
          have hPn : trP P call ops a H bef (i + 1) = trP P call ops a H bef i := by simp only [trP]; rw [if_neg hnE, if_neg (fun e => by have e2 := e.2; rw [hc] at e2; cases e2)]
          refine finish rfl ⟨fun e => absurd e hnE, fun _ _ => by rw [← hd1, ← hd3]; exact hs, fun _ e => ?_, fun _ e => ?_, fun _ e => absurd ⟨hw, hc⟩ e, fun e => ?_, by rw [← hd2, ← hd1]⟩ ?_
          · rw [hc] at e; cases e
          · rw [hc] at e; rcases e with e | e <;> cases e
          · rw [hw] at e; cases e
          · rw [hSn, hPn, ← hd2, ← hd3]; exact h
      | read =>
        have hnE : ¬ isE P call ops a H i := fun e => by have e2 := e.2; rw [hc] at e2; cases e2
        rw [hc] at h hd
        simp only at h hd
        cases hs : aexec P (trA P call ops a H i) (opAt ops i) (trH P call ops a H i) with
        | none => rw [hs] at h; cases h
        | some r =>
          obtain ⟨v, H1⟩ := r
          rw [hs] at h hd
          simp only at h hd
          injection hd with hd1 hd2
          injection hd2 with hd2 hd3
          have hSn : trS P call ops a H (i + 1) = trS P call ops a H i := by simp only [trS]; rw [if_neg hnE]
          have hPn : trP P call ops a H bef (i + 1) = (i, trA P call ops a H i, opAt ops i, trV P call ops a H i) :: trP P call ops a H bef i := by simp only [trP]; rw [if_neg hnE, if_pos ⟨hw, hc⟩]
          split at h
          · rename_i hall
            refine finish rfl ⟨fun e => absurd e hnE, fun _ e => ?_, fun _ _ G hG => ?_, fun _ _ => ⟨H1, by rw [← hd1]; exact hs⟩, fun _ _ => hd3.symm, fun e => ?_, by rw [← hd2, ← hd1]⟩ ?_
            · rw [hc] at e; cases e
            · rw [← hd1]; exact List.all_eq_true.1 hall G hG
            · rw [hw] at e; cases e
            · rw [hSn, hPn, ← hd2, ← hd3, ← hd1]; exact h
          · cases h
      | pure_ =>
        have hnE : ¬ isE P call ops a H i := fun e => by have e2 := e.2; rw [hc] at e2; cases e2
        rw [hc] at h hd
        simp only at h hd
        cases hs : aexec P (trA P call ops a H i) (opAt ops i) (trH P call ops a H i) with
        | none => rw [hs] at h; cases h
        | some r =>
          obtain ⟨v, H1⟩ := r
          rw [hs] at h hd
          simp only at h hd
          injection hd with hd1 hd2
          injection hd2 with hd2 hd3
          have hSn : trS P call ops a H (i + 1) = trS P call ops a H i := by simp only [trS]; rw [if_neg hnE]
          have hPn : trP P call ops a H bef (i + 1) = trP P call ops a H bef i := by simp only [trP]; rw [if_neg hnE, if_neg (fun e => by have e2 := e.2; rw [hc] at e2; cases e2)]
          refine finish rfl ⟨fun e => absurd e hnE, fun _ e => ?_, fun _ e => ?_, fun _ _ => ⟨H1, by rw [← hd1]; exact hs⟩, fun _ _ => hd3.symm, fun e => ?_, by rw [← hd2, ← hd1]⟩ ?_
          · rw [hc] at e; cases e
          · rw [hc] at e; cases e
          · rw [hw] at e; cases e
          · rw [hSn, hPn, ← hd2, ← hd3]; exact h
theorem win (m : Nat) : ∀ j, (∀ e, e < j → isE P call ops a H e → (∀ e', e < e' → e' < j → isE P call ops a H e' → m.testBit e' = false) → trH P call ops a H (e + 1) ∈ window m (trS P call ops a H j)) ∧
    ((∀ e', e' < j → isE P call ops a H e' → m.testBit e' = false) → H ∈ window m (trS P call ops a H j)) := by
  intro j
  induction j with
  | zero => exact ⟨fun e he => by omega, fun _ => by simp [trS, window]⟩
  | succ j ih =>
    by_cases hE : isE P call ops a H j
    · have hS : trS P call ops a H (j + 1) = (some j, trH P call ops a H (j + 1)) :: trS P call ops a H j := by simp only [trS]; rw [if_pos hE]
      rw [hS]
      refine ⟨fun e he hEe hno => ?_, fun hno => ?_⟩
      · rcases Nat.eq_or_lt_of_le (Nat.le_of_lt_succ he) with e1 | e1
        · subst e1
          simp only [window]
          split <;> simp
        · have := hno j e1 (by omega) hE
          simp only [window, this, Bool.false_eq_true, if_false]
          exact List.mem_cons_of_mem _ (ih.1 e e1 hEe fun e' h1 h2 h3 => hno e' h1 (by omega) h3)
      · have := hno j (by omega) hE
        simp only [window, this, Bool.false_eq_true, if_false]
        exact List.mem_cons_of_mem _ (ih.2 fun e' h1 h2 => hno e' (by omega) h2)
    · have hS : trS P call ops a H (j + 1) = trS P call ops a H j := by simp only [trS]; rw [if_neg hE]
      rw [hS]
      refine ⟨fun e he hEe hno => ?_, fun hno => ?_⟩
      · rcases Nat.eq_or_lt_of_le (Nat.le_of_lt_succ he) with e1 | e1
        · subst e1; exact absurd hEe hE
        · exact ih.1 e e1 hEe fun e' h1 h2 h3 => hno e' h1 (by omega) h3
      · exact ih.2 fun e' h1 h2 => hno e' (by omega) h2
theorem pnd (bef : Array Nat) {x : Nat} (hW : trW P call ops a H x = true) (hc : cls (opAt ops x).op = .read) : ∀ j, x < j → (∀ e, x < e → e < j → isE P call ops a H e → (bef.getD e 0).testBit x = false) → (x, trA P call ops a H x, opAt ops x, trV P call ops a H x) ∈ trP P call ops a H bef j := by
  intro j
  induction j with
  | zero => intro h; omega
  | succ j ih =>
    intro hx hno
    simp only [trP]
    rcases Nat.eq_or_lt_of_le (Nat.le_of_lt_succ hx) with e1 | e1
    · subst e1
      rw [if_neg (fun e => by have e2 := e.2; rw [hc] at e2; cases e2), if_pos ⟨hW, hc⟩]
      exact List.mem_cons_self ..
    · have := ih e1 fun e h1 h2 h3 => hno e h1 (by omega) h3
      split
      · rename_i hE
        exact List.mem_filter.2 ⟨this, by rw [hno j e1 (by omega) hE]; rfl⟩
      · split
        · exact List.mem_cons_of_mem _ this
        · exact this
/-- A reader reads the same behind each effect at which it may come. -/
theorem stable {bef : Array Nat} (hok : ∀ j, j < ops.size → StepOk P call ops a H bef j) {x c : Nat} (hx : x < ops.size) (hW : trW P call ops a H x = true) (hc : cls (opAt ops x).op = .read) (hcn : c ≤ ops.size) (hbd : c = 0 ∨ ∃ e, c = e + 1 ∧ isE P call ops a H e)
    (h1 : ∀ e, e < ops.size → isE P call ops a H e → c ≤ e → (bef.getD x 0).testBit e = false) (h2 : ∀ e, e < c → isE P call ops a H e → (bef.getD e 0).testBit x = false) :
    ∃ G, aexec P (trA P call ops a H x) (opAt ops x) (trH P call ops a H c) = some (trV P call ops a H x, G) := by
  have key : stillReads P (trH P call ops a H c) (trA P call ops a H x) (opAt ops x) (trV P call ops a H x) = true := by
    rcases Nat.lt_or_ge x c with hxc | hxc
    · rcases hbd with e | ⟨e, rfl, hE⟩
      · omega
      · have hne : e ≠ x := fun h => by have e2 := hE.2; rw [h, hc] at e2; cases e2
        exact ((hok e (by omega)).eff hE).2 _ (pnd bef hW hc (e + 1) (by omega) fun e' q1 q2 q3 => h2 e' q2 q3)
    · refine (hok x hx).read hW hc _ ?_
      rcases hbd with rfl | ⟨e, rfl, hE⟩
      · exact (win _ x).2 fun e' q1 q2 => h1 e' (by omega) q2 (by omega)
      · exact (win _ x).1 e (by omega) hE fun e' q1 q2 q3 => h1 e' (by omega) q3 (by omega)
  unfold stillReads at key
  split at key
  · rename_i v' G hs
    exact ⟨G, by rw [hs, vEq_sound key]⟩
  · cases key
end
end Go.Abs
