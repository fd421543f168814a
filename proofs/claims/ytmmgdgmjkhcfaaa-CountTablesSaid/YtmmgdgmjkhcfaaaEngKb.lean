/- What an operation hangs on: its operands; memory only where it reads or makes it. -/
import Derived.Test.YtmmgdgmjkhcfaaaEngKa
namespace Go.Abs
theorem sEq_sound {v u : Value} (h : sEq v u = true) : v = u := by
  cases v <;> cases u <;> first | (simp [sEq] at h; done) | skip
  · simp only [sEq, beq_iff_eq] at h; rw [h]
  · simp only [sEq, Bool.and_eq_true, beq_iff_eq] at h; rw [h.1, h.2]
  · simp only [sEq, ba_beq] at h; rw [h]
  · simp only [sEq, beq_iff_eq] at h; rw [h]
  · simp only [sEq, Bool.and_eq_true, beq_iff_eq] at h; rw [h.1.1, h.1.2, h.2]
  · simp only [sEq, beq_iff_eq] at h; rw [h]
  · rfl
  · rfl
theorem listEq_sound : ∀ {l k : List Value}, listEq l k = true → l = k := by
  intro l
  induction l with
  | nil => intro k h; cases k with | nil => rfl | cons _ _ => simp [listEq] at h
  | cons x l ih =>
    intro k h
    cases k with
    | nil => simp [listEq] at h
    | cons y k => simp only [listEq, Bool.and_eq_true] at h; rw [sEq_sound h.1, ih h.2]
theorem vEq_sound {v u : Value} (h : vEq v u = true) : v = u := by
  unfold vEq at h
  split at h
  · rename_i a b
    have := listEq_sound h
    rw [Array.toList_inj.1 this]
  · rename_i a b
    have := listEq_sound h
    rw [Array.toList_inj.1 this]
  · exact sEq_sound h
section
variable {P : Program} {call : CallF} {a b : Fr} {H : Heap}
theorem plainA_congr {o : Oper} (h : ∀ z ∈ o.op.operands.toList, ev a z = ev b z) (he : execOp (ev a) o = execOp (ev b) o) : plainA P a o = plainA P b o := by
  unfold plainA
  have : o.op.operands.toList.all (fun x => plain (ev a x)) = o.op.operands.toList.all (fun x => plain (ev b x)) := by
    rw [Bool.eq_iff_iff, List.all_eq_true, List.all_eq_true]
    exact ⟨fun k x hx => by rw [← h x hx]; exact k x hx, fun k x hx => by rw [h x hx]; exact k x hx⟩
  rw [this, he]
theorem aexec_congr {o : Oper} (h : ∀ z ∈ o.op.operands.toList, ev a z = ev b z) : aexec P a o H = aexec P b o H := by
  obtain ⟨dst, op, type, pos, after, guard⟩ := o
  cases op
  case move x => simp only [aexec, h x (by simp [Op.operands])]
  case assign x => simp only [aexec, h x (by simp [Op.operands])]
  case pick c x y => simp only [aexec, h c (by simp [Op.operands]), h x (by simp [Op.operands]), h y (by simp [Op.operands])]
  case alloc t => rfl
  case box t x => simp only [aexec, h x (by simp [Op.operands])]
  case build t parts =>
    have : parts.toList.map (fun p => (p.1, ev a p.2)) = parts.toList.map (fun p => (p.1, ev b p.2)) := List.map_congr_left fun p hp => by
      rw [h p.2 (by simp only [Op.operands]; simp; exact ⟨p.1, by simpa using hp⟩)]
    simp only [aexec, this]
  case buildSlice t len parts =>
    have : parts.toList.map (fun p => (p.1, ev a p.2)) = parts.toList.map (fun p => (p.1, ev b p.2)) := List.map_congr_left fun p hp => by
      rw [h p.2 (by simp only [Op.operands]; simp; exact ⟨p.1, by simpa using hp⟩)]
    simp only [aexec, this]
  case load t x => simp only [aexec, h x (by simp [Op.operands])]
  case store t x y => simp only [aexec, h x (by simp [Op.operands]), h y (by simp [Op.operands])]
  case nilCheck x => simp only [aexec, h x (by simp [Op.operands])]
  case binOp op t x y yt =>
    have hx := h x (by simp [Op.operands])
    have hy := h y (by simp [Op.operands])
    have hp : plainA P a ⟨dst, .binOp op t x y yt, type, pos, after, guard⟩ = plainA P b ⟨dst, .binOp op t x y yt, type, pos, after, guard⟩ := plainA_congr h (by simp only [execOp, hx, hy])
    cases op <;> simp only [aexec, hx, hy, hp]
  case unOp op t x =>
    have hx := h x (by simp [Op.operands])
    simp only [aexec]
    rw [plainA_congr h (by simp only [execOp, hx])]
  case convert s d x =>
    have hx := h x (by simp [Op.operands])
    simp only [aexec]
    rw [plainA_congr h (by simp only [execOp, hx]), hx]
  case makeFunc fn first captured =>
    have h1 : captured.map (ev a) = captured.map (ev b) := Array.map_congr_left fun x hx => h x (by simp [Op.operands]; exact .inr hx)
    have h2 : captured.toList.map (ev a) = captured.toList.map (ev b) := List.map_congr_left fun x hx => h x (by simp [Op.operands]; exact .inr (by simpa using hx))
    cases fn <;> simp only [aexec, h1, h2]
  case makeMap t r => rfl
  case makeSlice t l c => simp only [aexec, h l (by simp [Op.operands]), h c (by simp [Op.operands])]
  case slice t x lo hi mx =>
    have h1 : lo.map (ev a) = lo.map (ev b) := by cases lo with | none => rfl | some z => simp only [Option.map_some, h z (by simp [Op.operands])]
    have h2 : hi.map (ev a) = hi.map (ev b) := by cases hi with | none => rfl | some z => simp only [Option.map_some, h z (by simp [Op.operands])]
    simp only [aexec, h x (by simp [Op.operands]), h1, h2]
  case fieldAddr t x i => simp only [aexec, h x (by simp [Op.operands])]
  case field t x i => simp only [aexec, h x (by simp [Op.operands])]
  case indexAddr t x i => simp only [aexec, h x (by simp [Op.operands]), h i (by simp [Op.operands])]
  case index t x i =>
    have hx := h x (by simp [Op.operands])
    have hi := h i (by simp [Op.operands])
    simp only [aexec]
    rw [plainA_congr h (by simp only [execOp, hx, hi])]
  case lookup t x k ok => simp only [aexec, h x (by simp [Op.operands]), h k (by simp [Op.operands])]
  case mapUpdate t x k v => simp only [aexec, h x (by simp [Op.operands]), h k (by simp [Op.operands]), h v (by simp [Op.operands])]
  case extract x i => simp only [aexec, h x (by simp [Op.operands])]
  case call c =>
    obtain ⟨callee, args, ts⟩ := c
    cases callee
    case builtin bi =>
      have h1 : args.map (ev a) = args.map (ev b) := Array.map_congr_left fun x hx => h x (by simp [Op.operands, Call.operands]; exact hx)
      have h2 : args.toList.map (ev a) = args.toList.map (ev b) := List.map_congr_left fun x hx => h x (by simp [Op.operands, Call.operands]; simpa using hx)
      have hp := plainA_congr (P := P) (o := ⟨dst, .call ⟨.builtin bi, args, ts⟩, type, pos, after, guard⟩) h (by simp only [execOp, resolve, h1])
      simp only [aexec, h2]
      unfold builtinA
      rw [hp]
    all_goals rfl
  all_goals rfl
theorem stepA_congr {o : Oper} (h : ∀ z ∈ o.op.operands.toList, ev a z = ev b z) : stepA P call a o H = stepA P call b o H := by
  unfold stepA
  split
  · rename_i f args ts hop
    rw [hop] at h
    have h1 := h f (by simp [Op.operands, Call.operands])
    have h2 : args.toList.map (ev a) = args.toList.map (ev b) := List.map_congr_left fun x hx => h x (by simp [Op.operands, Call.operands]; exact .inr (by simpa using hx))
    rw [h1, h2]
  · exact aexec_congr h
theorem map_pair {α : Type} {x : Option α} {v : α} {H H' : Heap} (h : x.map (·, H) = some (v, H')) : x = some v ∧ H' = H := by
  cases x with
  | none => cases h
  | some y => simp only [Option.map_some] at h; injection h with h; injection h with h1 h2; exact ⟨by rw [h1], h2.symm⟩
/-- What touches no memory. -/
theorem aexec_pure {o : Oper} (hc : cls o.op = .pure_) {v : Value} {H' : Heap} (h : aexec P a o H = some (v, H')) : H' = H ∧ ∀ G, aexec P a o G = some (v, G) := by
  obtain ⟨dst, op, type, pos, after, guard⟩ := o
  cases op
  case move x => simp only [aexec] at h ⊢; injection h with h; injection h with h1 h2; exact ⟨h2.symm, fun G => by rw [h1]⟩
  case assign x => simp only [aexec] at h ⊢; injection h with h; injection h with h1 h2; exact ⟨h2.symm, fun G => by rw [h1]⟩
  case pick c x y =>
    simp only [aexec] at h ⊢
    split at h
    · injection h with h; injection h with h1 h2; exact ⟨h2.symm, fun G => by rw [h1]⟩
    · cases h
  case build t parts => simp only [aexec] at h ⊢; obtain ⟨h1, h2⟩ := map_pair h; exact ⟨h2, fun G => by rw [h1]; rfl⟩
  case nilCheck x =>
    simp only [aexec] at h ⊢
    split at h
    · rename_i hp; injection h with h; injection h with h1 h2; exact ⟨h2.symm, fun G => by rw [if_pos hp, h1]⟩
    · cases h
  case binOp op t x y yt =>
    cases op
    case eql =>
      simp only [aexec] at h ⊢
      split at h
      · injection h with h; injection h with h1 h2; exact ⟨h2.symm, fun G => by rw [h1]⟩
      · obtain ⟨h1, h2⟩ := map_pair h; exact ⟨h2, fun G => by rw [h1]; rfl⟩
    case neq =>
      simp only [aexec] at h ⊢
      split at h
      · injection h with h; injection h with h1 h2; exact ⟨h2.symm, fun G => by rw [h1]⟩
      · obtain ⟨h1, h2⟩ := map_pair h; exact ⟨h2, fun G => by rw [h1]; rfl⟩
    all_goals (simp only [aexec] at h ⊢; obtain ⟨h1, h2⟩ := map_pair h; exact ⟨h2, fun G => by rw [h1]; rfl⟩)
  case unOp op t x => simp only [aexec] at h ⊢; obtain ⟨h1, h2⟩ := map_pair h; exact ⟨h2, fun G => by rw [h1]; rfl⟩
  case makeFunc fn first captured =>
    cases fn
    case func f =>
      simp only [aexec] at h ⊢
      split at h
      · rename_i hp; injection h with h; injection h with h1 h2; exact ⟨h2.symm, fun G => by rw [if_pos hp, h1]⟩
      · cases h
    all_goals (simp only [aexec] at h; cases h)
  case slice t x lo hi mx =>
    simp only [aexec] at h ⊢
    split at h
    · cases h
    · rename_i hp; obtain ⟨h1, h2⟩ := map_pair h; exact ⟨h2, fun G => by rw [if_neg hp, h1]; rfl⟩
  case fieldAddr t x i => simp only [aexec] at h ⊢; obtain ⟨h1, h2⟩ := map_pair h; exact ⟨h2, fun G => by rw [h1]; rfl⟩
  case field t x i => simp only [aexec] at h ⊢; obtain ⟨h1, h2⟩ := map_pair h; exact ⟨h2, fun G => by rw [h1]; rfl⟩
  case indexAddr t x i => simp only [aexec] at h ⊢; obtain ⟨h1, h2⟩ := map_pair h; exact ⟨h2, fun G => by rw [h1]; rfl⟩
  case index t x i => simp only [aexec] at h ⊢; obtain ⟨h1, h2⟩ := map_pair h; exact ⟨h2, fun G => by rw [h1]; rfl⟩
  case extract x i =>
    simp only [aexec] at h ⊢
    split at h
    · obtain ⟨h1, h2⟩ := map_pair h; exact ⟨h2, fun G => by rw [h1]; rfl⟩
    · cases h
  case call c =>
    obtain ⟨callee, args, ts⟩ := c
    cases callee
    case builtin bi =>
      simp only [aexec] at h ⊢
      unfold builtinA at h ⊢
      cases bi <;> first | (simp [cls] at hc; done) | skip
      all_goals
        revert h
        generalize args.toList.map (ev a) = as
        generalize ts.toList = tl
        intro h
        simp only at h ⊢
        first
          | (obtain ⟨h1, h2⟩ := map_pair h; exact ⟨h2, fun G => by rw [h1]; rfl⟩)
          | (split at h <;> first | contradiction | (obtain ⟨h1, h2⟩ := map_pair h; exact ⟨h2, fun G => by rw [h1]; rfl⟩) | (cases h; done) | (
              rename_i t _
              cases he : sliceElem P t with
              | none => rw [he] at h; cases h
              | some es => rw [he] at h; simp only [Option.map_some] at h; injection h with h; injection h with h1 h2; exact ⟨h2.symm, fun G => by simp [← h1]⟩))
    all_goals (simp [cls] at hc)
  all_goals first | (simp [cls] at hc; done) | (simp only [aexec] at h; cases h)
def Sub (G H : Heap) : Prop := ∀ (b : Nat) x, G[b]? = some x → H[b]? = some x
theorem Sub.cell {G H : Heap} (h : Sub G H) {b o : Nat} {v : Value} (hc : G.cell b o = some v) : H.cell b o = some v := by
  unfold Heap.cell at hc ⊢
  split at hc
  · rename_i hb; rw [h _ _ hb]; exact hc
  · cases hc
theorem Sub.cellsAt {G H : Heap} (h : Sub G H) {b o n : Nat} {v : List Value} (hc : G.cellsAt b o n = some v) : H.cellsAt b o n = some v := by
  unfold Heap.cellsAt at hc ⊢
  split at hc
  · rename_i hb; rw [h _ _ hb]; exact hc
  · cases hc
theorem textA_plain {s d : TypeId} {x : Value} (h : plain x = true) : textA P s d x H = none := by
  unfold textA
  cases x <;> first | rfl | cases h
theorem readA_sub {n : Nat} {x : Value} {cs : List Value} {G H : Heap} (hs : Sub G H) (hr : readA G n x = some cs) : readA H n x = some cs := by
  unfold readA at hr ⊢
  split at hr
  · exact hr
  · exact hs.cellsAt hr
  · exact hr
  · cases hr
theorem textA_sub {s d : TypeId} {x v : Value} {G H : Heap} (hs : Sub G H) (h : textA P s d x G = some v) : textA P s d x H = some v := by
  unfold textA at h ⊢
  split at h
  case h_2 => cases h
  split at h
  case h_2 => cases h
  split at h
  case h_2 => cases h
  rename_i he hr
  simp only [readA_sub hs hr, he]
  exact h
theorem plainA_operands {o : Oper} {v : Value} (h : plainA P a o = some v) : ∀ z ∈ o.op.operands.toList, plain (ev a z) = true := by
  unfold plainA at h
  split at h
  · rename_i hall; exact List.all_eq_true.1 hall
  · cases h
theorem aexec_read {o : Oper} (hc : cls o.op = .read) {v : Value} {G G' : Heap} (h : aexec P a o G = some (v, G')) (hs : Sub G H) : aexec P a o H = some (v, H) := by
  obtain ⟨dst, op, type, pos, after, guard⟩ := o
  cases op <;> first | (simp [cls] at hc; done) | skip
  case load t x =>
    simp only [aexec] at h ⊢
    obtain ⟨h1, h2⟩ := map_pair h
    have : loadA P t (ev a x) H = some v := by
      unfold loadA at h1 ⊢
      split at h1
      · split at h1
        · split at h1
          · split at h1
            · rename_i hcs
              rw [hs.cellsAt hcs]; exact h1
            · cases h1
          · cases h1
        · exact hs.cell h1
        · cases h1
      · cases h1
    rw [this]; rfl
  case lookup t x k ok =>
    simp only [aexec] at h ⊢
    obtain ⟨h1, h2⟩ := map_pair h
    have : lookupA P t (ev a x) (ev a k) ok H = some v := by
      unfold lookupA at h1 ⊢
      split at h1
      · split at h1
        · split at h1
          · rename_i hb
            rw [hs _ _ hb]; exact h1
          · cases h1
        · cases h1
      · cases h1
    rw [this]; rfl
  case convert s d x =>
    simp only [aexec] at h ⊢
    split at h
    · rename_i u hu
      injection h with h; injection h with h1 h2; subst h1
      rw [textA_sub hs hu]
    · obtain ⟨h1, h2⟩ := map_pair h
      rw [textA_plain (plainA_operands h1 x (by simp [Op.operands])), h1]
      rfl
  case call c =>
    exfalso
    obtain ⟨callee, args, ts⟩ := c
    cases callee
    case builtin bi => cases bi <;> simp [cls] at hc
    all_goals simp [cls] at hc
theorem read_same {o : Oper} (hc : cls o.op = .read) {v : Value} {H' : Heap} (h : aexec P a o H = some (v, H')) : H' = H := by
  have := aexec_read (H := H) hc h (fun _ _ h => h)
  rw [h] at this
  injection this with this
  injection this
end
end Go.Abs
