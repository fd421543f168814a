/- The fast evaluator's operations are the abstract ones. -/
import Derived.Test.YtmmgdgmjkhcfaaaFastG
namespace Go.Abs
def lval (l : Lc) (E : Env) (T : FT) : Value := match l with
  | .env i => (E[E.length - 1 - i]?).getD undef
  | .slot s => den T s
  | .cst v => v
  | .bad => undef
def lok (l : Lc) (n : Nat) : Prop := match l with
  | .env i => i < n
  | .slot s => s < 262144
  | .cst _ => True
  | .bad => True
/-- The frame that a region has made so far. -/
structure FInv (L : Nat) (mp : Mpl) (n : Nat) (E : Env) (T : FT) (a : Fr) : Prop where
  len : E.length = n
  mp : ∀ t l, lk mp t = some l → l = .bad ∨ (lok l n ∧ a t = lval l E T)
  fr : ∀ t, L.testBit t = false → a t = den T t
theorem egB_or : ∀ (i : Nat) (E : Env) (k : Value → RC), (egB i).run E k = RC.no ∨ ∃ v, E[i]? = some v ∧ (egB i).run E k = k v := by
  intro i
  induction i with
  | zero => intro E k; cases E with | nil => exact .inl rfl | cons x xs => exact .inr ⟨x, rfl, rfl⟩
  | succ i ih =>
    intro E k
    cases E with
    | nil => exact .inl rfl
    | cons x xs =>
      have e : (egB (i + 1)).run (x :: xs) k = (egB i).run xs k := rfl
      rw [e]
      simpa using ih xs k
theorem den_lt {T : FT} {s : Nat} (h : s < 262144) : T2.get T s = den T s := by unfold den; rw [if_pos h]
theorem ble_lt {i n : Nat} : Nat.ble (i + 1) n = decide (i < n) := ble_if
section
variable {L : Nat} {mp : Mpl} {n : Nat} {E : Env} {T : FT} {a : Fr}
theorem opB_or (hi : FInv L mp n E T a) (x : Operand) (k : Value → RC) : (opB L mp n x).run E T k = RC.no ∨ (opB L mp n x).run E T k = k (ev a x) := by
  unfold opB
  cases x with
  | tmp t =>
    simp only
    split
    · rename_i l hl
      rcases hi.mp t l hl with rfl | ⟨h1, h2⟩
      · exact .inl rfl
      unfold lcB
      cases l with
      | env i =>
        simp only
        rcases egB_or (n - 1 - i) E k with h | ⟨v, hv, h⟩
        · exact .inl h
        · right; rw [h]; show k v = k (a t); rw [h2]; simp only [lval, hi.len, hv, Option.getD_some]
      | slot s => right; simp only; rw [g2B_eq]; show k _ = k (a t); rw [h2]; simp only [lval]; rw [den_lt h1]
      | cst v => right; show k v = k (a t); rw [h2]; rfl
      | bad => exact .inl rfl
    · rename_i hl
      cases hb : (L.testBit t || !Nat.ble (t + 1) 262144) with
      | true => exact .inl rfl
      | false =>
        rw [Bool.or_eq_false_iff, Bool.not_eq_false', ble_lt, decide_eq_true_iff] at hb
        right
        simp only [cond_false]
        rw [g2B_eq, den_lt hb.2]
        show k _ = k (a t)
        rw [hi.fr t hb.1]
  | const v => right; simp only [fV_eq]; rfl
  | func f => exact .inr rfl
  | global g => exact .inl rfl
theorem opsB_or (hi : FInv L mp n E T a) : ∀ (l : List Operand) (k : List Value → RC), (opsB L mp n l).run E T k = RC.no ∨ (opsB L mp n l).run E T k = k (l.map (ev a)) := by
  intro l
  induction l with
  | nil => intro k; exact .inr rfl
  | cons x xs ih =>
    intro k
    have e : (opsB L mp n (x :: xs)).run E T k = (opB L mp n x).run E T fun v => (opsB L mp n xs).run E T fun vs => k (v :: vs) := rfl
    rw [e]
    rcases opB_or hi x (fun v => (opsB L mp n xs).run E T fun vs => k (v :: vs)) with h | h
    · exact .inl h
    · rw [h]
      exact ih _
end
section
variable {P : Program} {a : Fr}
theorem cmpK_eq (b : Bool) (k : Value → RC) : cmpK b k = k (.bool b) := by cases b <;> rfl
/-- An operation whose answer hangs on its operands' values alone, asked of constants. -/
theorem slowK_or {op : Op} {o : Oper} {H : FH} (k : Value → RC) (hsame : ∀ G, aexec P nofr (opr op) G = aexec P a o G) (hheap : ∀ G v G', aexec P a o G = some (v, G') → G' = G) :
    slowK P op H k = RC.no ∨ ∃ v, aexec P a o (absH H) = some (v, absH H) ∧ slowK P op H k = k v := by
  unfold slowK
  rw [hsame]
  split
  · rename_i v G' h
    have := hheap _ _ _ h
    subst this
    exact .inr ⟨v, h, fV_eq _ _⟩
  · exact .inl rfl
theorem map_heap {α : Type} {x : Option α} {G G' : Heap} {v : α} (h : x.map (·, G) = some (v, G')) : G' = G := by
  cases x with
  | none => cases h
  | some y => simp only [Option.map_some] at h; injection h with h; injection h with _ h; exact h.symm
theorem eqGuard_plain {op : BinOp} {t : TypeId} {x y x' y' : Operand} {u v : Value} (hu : plain u = true) : eqGuard op t x y u v = eqGuard op t x' y' u v := by
  unfold eqGuard
  cases u <;> first | rfl | simp [plain] at hu
theorem bin_same {o : Oper} {op : BinOp} {t t' : TypeId} {x y : Operand} (ho : o.op = .binOp op t x y t') (G : Heap) : aexec P nofr (opr (.binOp op t (.const (ev a x)) (.const (ev a y)) t')) G = aexec P a o G := by
  have hp : plainA P nofr (opr (.binOp op t (.const (ev a x)) (.const (ev a y)) t')) = plainA P a o := by
    unfold plainA
    have e1 : (opr (.binOp op t (.const (ev a x)) (.const (ev a y)) t')).op.operands.toList.all (fun z => plain (ev nofr z)) = o.op.operands.toList.all (fun z => plain (ev a z)) := by rw [ho]; simp [opr, Op.operands, ev]
    rw [e1]
    split
    · rename_i hall
      have hx : plain (ev a x) = true := by rw [ho] at hall; simp [Op.operands] at hall; exact hall.1
      have e2 : execOp (ev nofr) (opr (.binOp op t (.const (ev a x)) (.const (ev a y)) t')) = execOp (ev a) o := by
        have h1 : execOp (ev nofr) (opr (.binOp op t (.const (ev a x)) (.const (ev a y)) t')) = (do let v ← (do eqGuard op t (.const (ev a x)) (.const (ev a y)) (ev a x) (ev a y); binOp op t (ev a x) (ev a y)); pure (.value v)) := rfl
        have h2 : execOp (ev a) o = (do let v ← (do eqGuard op t x y (ev a x) (ev a y); binOp op t (ev a x) (ev a y)); pure (.value v)) := by unfold execOp; rw [ho]
        rw [h1, h2, eqGuard_plain (x := .const (ev a x)) (y := .const (ev a y)) (x' := x) (y' := y) hx]
      rw [e2]
    · rfl
  unfold aexec
  rw [ho]
  cases op <;> simp only [opr] at hp ⊢ <;> simp only [hp] <;> rfl
theorem bin_heap {o : Oper} {op : BinOp} {t t' : TypeId} {x y : Operand} (ho : o.op = .binOp op t x y t') (G : Heap) (v : Value) (G' : Heap) (h : aexec P a o G = some (v, G')) : G' = G := by
  unfold aexec at h
  rw [ho] at h
  cases op <;> simp only at h <;> first | exact map_heap h | (split at h <;> first | (injection h with h; injection h with _ h; exact h.symm) | exact map_heap h)
theorem un_same {o : Oper} {op : UnOp} {t : TypeId} {x : Operand} (ho : o.op = .unOp op t x) (G : Heap) : aexec P nofr (opr (.unOp op t (.const (ev a x)))) G = aexec P a o G := by
  have hp : plainA P nofr (opr (.unOp op t (.const (ev a x)))) = plainA P a o := by
    unfold plainA
    have e1 : (opr (.unOp op t (.const (ev a x)))).op.operands.toList.all (fun z => plain (ev nofr z)) = o.op.operands.toList.all (fun z => plain (ev a z)) := by rw [ho]; simp [opr, Op.operands, ev]
    have e2 : execOp (ev nofr) (opr (.unOp op t (.const (ev a x)))) = execOp (ev a) o := by simp only [execOp, ho, opr, ev]
    rw [e1, e2]
  unfold aexec
  rw [ho]
  simp only [opr] at hp ⊢
  simp only [hp]
theorem un_heap {o : Oper} {op : UnOp} {t : TypeId} {x : Operand} (ho : o.op = .unOp op t x) (G : Heap) (v : Value) (G' : Heap) (h : aexec P a o G = some (v, G')) : G' = G := by
  unfold aexec at h
  rw [ho] at h
  exact map_heap h
theorem idx_same {o : Oper} {t : TypeId} {x i : Operand} (ho : o.op = .index t x i) (G : Heap) : aexec P nofr (opr (.index t (.const (ev a x)) (.const (ev a i)))) G = aexec P a o G := by
  have hp : plainA P nofr (opr (.index t (.const (ev a x)) (.const (ev a i)))) = plainA P a o := by
    unfold plainA
    have e1 : (opr (.index t (.const (ev a x)) (.const (ev a i)))).op.operands.toList.all (fun z => plain (ev nofr z)) = o.op.operands.toList.all (fun z => plain (ev a z)) := by rw [ho]; simp [opr, Op.operands, ev]
    have e2 : execOp (ev nofr) (opr (.index t (.const (ev a x)) (.const (ev a i)))) = execOp (ev a) o := by simp only [execOp, ho, opr, ev]
    rw [e1, e2]
  unfold aexec
  rw [ho]
  simp only [opr] at hp ⊢
  simp only [hp]
theorem idx_heap {o : Oper} {t : TypeId} {x i : Operand} (ho : o.op = .index t x i) (G : Heap) (v : Value) (G' : Heap) (h : aexec P a o G = some (v, G')) : G' = G := by
  unfold aexec at h
  rw [ho] at h
  exact map_heap h
theorem conv_same {o : Oper} {s d : TypeId} {x : Operand} (ho : o.op = .convert s d x) (G : Heap) : aexec P nofr (opr (.convert s d (.const (ev a x)))) G = aexec P a o G := by
  have hp : plainA P nofr (opr (.convert s d (.const (ev a x)))) = plainA P a o := by
    unfold plainA
    have e1 : (opr (.convert s d (.const (ev a x)))).op.operands.toList.all (fun z => plain (ev nofr z)) = o.op.operands.toList.all (fun z => plain (ev a z)) := by rw [ho]; simp [opr, Op.operands, ev]
    have e2 : execOp (ev nofr) (opr (.convert s d (.const (ev a x)))) = execOp (ev a) o := by simp only [execOp, ho, opr, ev]
    rw [e1, e2]
  unfold aexec
  rw [ho]
  simp only [opr, ev] at hp ⊢
  simp only [hp]
theorem conv_heap {o : Oper} {s d : TypeId} {x : Operand} (ho : o.op = .convert s d x) (G : Heap) (v : Value) (G' : Heap) (h : aexec P a o G = some (v, G')) : G' = G := by
  unfold aexec at h
  rw [ho] at h
  simp only at h
  split at h
  · injection h with h; injection h with _ h; exact h.symm
  · exact map_heap h
theorem wrap_fits {z : Int} (h : Fits z) : IntKind.i64.wrap z = z := wrap_small h.1 h.2
theorem binB_or {o : Oper} {op : BinOp} {t t' : TypeId} {x y : Operand} (ho : o.op = .binOp op t x y t') (H : FH) (k : Value → RC) :
    (binB P op t t').run (ev a x) (ev a y) H k = RC.no ∨ ∃ v, aexec P a o (absH H) = some (v, absH H) ∧ (binB P op t t').run (ev a x) (ev a y) H k = k v := by
  have slow := slowK_or (H := H) k (bin_same (P := P) (a := a) ho) (bin_heap ho)
  unfold binB
  cases hf : arB op with
  | none => exact slow
  | some f =>
    simp only
    cases isI64 P t with
    | false => exact slow
    | true =>
      simp only [cond_true]
      rcases intK_or (ev a x) (fun x => intK (ev a y) fun y => f.run x y k) with h | ⟨m, hx, h⟩
      · exact .inl h
      rw [h]
      clear h slow
      rcases intK_or (ev a y) (fun y => f.run m y k) with h | ⟨q, hy, h⟩
      · exact .inl h
      rw [h]
      clear h
      have key : ∀ v, plain v = true → ((pureVal P (execOp (ev a) o)).bind valOf) = some v → aexec P a o (absH H) = some (v, absH H) := fun v hv hb => aexec_bin ho hx hy hb hv
      have ex : execOp (ev a) o = (do let v ← (do eqGuard op t x y (ev a x) (ev a y); binOp op t (ev a x) (ev a y)); pure (.value v)) := by unfold execOp; rw [ho]
      rw [hx, hy] at ex
      cases op with
      | and => cases hf
      | or => cases hf
      | xor => cases hf
      | shl => cases hf
      | shr => cases hf
      | andNot => cases hf
      | add =>
        cases hf
        rcases addZ_or m q (fun z => k (.int .i64 z)) with e | ⟨e, hw⟩
        · exact .inl e
        · exact .inr ⟨_, key _ rfl (by rw [ex]; simp [eqGuard, binOp, Op.intArith, pv, valOf, wrap_fits hw]), e⟩
      | sub =>
        cases hf
        rcases subZ_or m q (fun z => k (.int .i64 z)) with e | ⟨e, hw⟩
        · exact .inl e
        · exact .inr ⟨_, key _ rfl (by rw [ex]; simp [eqGuard, binOp, Op.intArith, pv, valOf, wrap_fits hw]), e⟩
      | mul =>
        cases hf
        rcases mulZ_or m q (fun z => k (.int .i64 z)) with e | ⟨e, hw⟩
        · exact .inl e
        · exact .inr ⟨_, key _ rfl (by rw [ex]; simp [eqGuard, binOp, Op.intArith, pv, valOf, wrap_fits hw]), e⟩
      | quo =>
        cases hf
        rcases quoZ_or m q (fun z => k (.int .i64 z)) with e | ⟨e, hw, h0⟩
        · exact .inl e
        · exact .inr ⟨_, key _ rfl (by rw [ex]; simp [eqGuard, binOp, Op.intDiv, h0, pv, valOf, wrap_fits hw]), e⟩
      | rem =>
        cases hf
        rcases remZ_or m q (fun z => k (.int .i64 z)) with e | ⟨e, h0⟩
        · exact .inl e
        · exact .inr ⟨_, key _ rfl (by rw [ex]; simp [eqGuard, binOp, Op.intDiv, h0, pv, valOf]), e⟩
      | eql =>
        cases hf
        exact .inr ⟨_, key (.bool (beqZ m q)) rfl (by rw [ex, beqZ_eq]; simp [eqGuard, binOp, Op.intCmp, pv, valOf]), cmpK_eq _ _⟩
      | neq =>
        cases hf
        exact .inr ⟨_, key (.bool (!beqZ m q)) rfl (by rw [ex, beqZ_eq]; simp [eqGuard, binOp, Op.intCmp, pv, valOf]; rfl), cmpK_eq _ _⟩
      | lss =>
        cases hf
        exact .inr ⟨_, key (.bool (bltZ m q)) rfl (by rw [ex, bltZ_eq]; simp [eqGuard, binOp, Op.intCmp, pv, valOf]), cmpK_eq _ _⟩
      | gtr =>
        cases hf
        exact .inr ⟨_, key (.bool (bltZ q m)) rfl (by rw [ex, bltZ_eq]; simp [eqGuard, binOp, Op.intCmp, pv, valOf]), cmpK_eq _ _⟩
      | leq =>
        cases hf
        exact .inr ⟨_, key (.bool (!bltZ q m)) rfl (by rw [ex, bltZ_eq]; simp [eqGuard, binOp, Op.intCmp, pv, valOf, ← decide_not]), cmpK_eq _ _⟩
      | geq =>
        cases hf
        exact .inr ⟨_, key (.bool (!bltZ m q)) rfl (by rw [ex, bltZ_eq]; simp [eqGuard, binOp, Op.intCmp, pv, valOf, ← decide_not]), cmpK_eq _ _⟩
end
section
variable {P : Program} {H : FH}
theorem cells_abs {b fam n : Nat} {own : Bool} {t : FT} (hb : b < H.n) (hx : (H.nd b).x = .cells fam own n t) : (absH H)[b]? = some (.cells fam own (toL n t)) := by
  rw [absH_get, if_pos hb, hx]; rfl
theorem loadB_or (t : TypeId) (p : Value) (k : Value → RC) : (loadB P t).run p H k = RC.no ∨ ∃ v, loadA P t p (absH H) = some v ∧ (loadB P t).run p H k = k v := by
  unfold loadB
  cases hag : isAggT P t with
  | none => exact .inl rfl
  | some ag =>
    cases ag with
    | false =>
      simp only
      rcases ptrK_or p (fun b o => cellsK H b fun _ _ n t => bif Nat.ble (Nat.add o 1) n then (g2B o).run t k else RC.no) with h | ⟨b, o, rfl, h⟩
      · exact .inl h
      rw [h]; clear h
      rcases cellsK_or H b (fun _ _ n t => bif Nat.ble (Nat.add o 1) n then (g2B o).run t k else RC.no) with h | ⟨fam, own, n, t', hb, hx, h⟩
      · exact .inl h
      rw [h]; clear h
      cases hc : Nat.ble (Nat.add o 1) n with
      | false => exact .inl rfl
      | true =>
        have hlt : o < n := Nat.le_of_ble_eq_true hc
        right
        refine ⟨T2.get t' o, ?_, by simp only [cond_true]; rw [g2B_eq]⟩
        simp only [loadA, hag, Heap.cell, cells_abs hb hx, toL_get, if_pos hlt]
    | true =>
      simp only
      cases hs : sizeT P t with
      | none => exact .inl rfl
      | some m =>
        simp only [fN_eq]
        rcases ptrK_or p (fun b o => cellsK H b fun _ _ n t => bif Nat.ble (Nat.add o m) n then rowK t o m fun l => k (.agg ⟨l⟩) else RC.no) with h | ⟨b, o, rfl, h⟩
        · exact .inl h
        rw [h]; clear h
        rcases cellsK_or H b (fun _ _ n t => bif Nat.ble (Nat.add o m) n then rowK t o m fun l => k (.agg ⟨l⟩) else RC.no) with h | ⟨fam, own, n, t', hb, hx, h⟩
        · exact .inl h
        rw [h]; clear h
        cases hc : Nat.ble (Nat.add o m) n with
        | false => exact .inl rfl
        | true =>
          have hle : o + m ≤ n := Nat.le_of_ble_eq_true hc
          right
          refine ⟨.agg ⟨((toL n t').drop o).take m⟩, ?_, by simp only [cond_true]; rw [rowK_eq hle]⟩
          simp only [loadA, hag, hs, Heap.cellsAt, cells_abs hb hx, toL_length, if_pos hle]
theorem storeB_or (hH : H.OK) (t : TypeId) (p v : Value) (k : FH → RC) : (storeB P t).run p v H k = RC.no ∨ ∃ H', H'.OK ∧ storeA P t p v (absH H) = some (absH H') ∧ (storeB P t).run p v H k = k H' := by
  unfold storeB
  cases hs : sizeT P t with
  | none => exact .inl rfl
  | some m =>
    simp only [fN_eq]
    rcases ptrK_or p (fun b o => scalK v fun cs => bif Nat.beq cs.length m then writeK H b o m cs k else RC.no) with h | ⟨b, o, rfl, h⟩
    · exact .inl h
    rw [h]; clear h
    rcases scalK_or v (fun cs => bif Nat.beq cs.length m then writeK H b o m cs k else RC.no) with h | ⟨cs, hcs, h⟩
    · exact .inl h
    rw [h]; clear h
    cases hl : Nat.beq cs.length m with
    | false => exact .inl rfl
    | true =>
      have hl := Nat.eq_of_beq_eq_true hl
      simp only [cond_true]
      rcases writeK_or hH b o m cs hl k with h | ⟨H', h1, h2, h3⟩
      · exact .inl h
      · exact .inr ⟨H', h1, by simp only [storeA, hcs, hs, if_pos hl, h2], h3⟩
theorem readK_or (size : Nat) (v : Value) (k : List Value → Nat → RC) : readK H size v k = RC.no ∨ ∃ cs ad n c, v = .slice ad n c ∧ readA (absH H) size v = some cs ∧ readK H size v k = k cs n ∧ (ad = none → c = 0) := by
  unfold readK
  rcases sliceK_or v (fun a n c => addrK (bif Nat.beq n 0 && Nat.beq c 0 then k [] 0 else RC.no) (bif Nat.beq n 0 then k [] 0 else RC.no) a fun b o => cellsK H b fun _ _ m t => fN (Nat.mul n size) fun q => bif Nat.ble (Nat.add o q) m then rowK t o q fun l => k l n else RC.no) with h | ⟨ad, n, c, rfl, h⟩
  · exact .inl h
  rw [h]; clear h
  rcases addrK_or ad (bif Nat.beq n 0 && Nat.beq c 0 then k [] 0 else RC.no) (bif Nat.beq n 0 then k [] 0 else RC.no) (fun b o => cellsK H b fun _ _ m t => fN (Nat.mul n size) fun q => bif Nat.ble (Nat.add o q) m then rowK t o q fun l => k l n else RC.no) with ⟨rfl, h⟩ | ⟨b, o, p, rfl, h⟩ | ⟨b, o, rfl, h⟩
  · rw [h]
    cases hc : (Nat.beq n 0 && Nat.beq c 0) with
    | false => exact .inl rfl
    | true =>
      simp only [Bool.and_eq_true] at hc
      have h1 := Nat.eq_of_beq_eq_true hc.1
      have h2 := Nat.eq_of_beq_eq_true hc.2
      subst h1; subst h2
      exact .inr ⟨[], none, 0, 0, rfl, rfl, rfl, fun _ => rfl⟩
  · rw [h]
    cases hc : Nat.beq n 0 with
    | false => exact .inl rfl
    | true =>
      have h1 := Nat.eq_of_beq_eq_true hc
      subst h1
      exact .inr ⟨[], _, 0, c, rfl, rfl, rfl, fun h => by cases h⟩
  · rw [h]; clear h
    rcases cellsK_or H b (fun _ _ m t => fN (Nat.mul n size) fun q => bif Nat.ble (Nat.add o q) m then rowK t o q fun l => k l n else RC.no) with h | ⟨fam, own, m, t', hb, hx, h⟩
    · exact .inl h
    rw [h]; clear h
    rw [fN_eq]
    cases hc : Nat.ble (Nat.add o (Nat.mul n size)) m with
    | false => exact .inl rfl
    | true =>
      have hle : o + n * size ≤ m := Nat.le_of_ble_eq_true hc
      right
      refine ⟨((toL m t').drop o).take (n * size), _, n, c, rfl, ?_, by simp only [cond_true]; rw [rowK_eq (show o + Nat.mul n size ≤ m from hle)]; rfl, fun h => by cases h⟩
      simp only [readA, Heap.cellsAt, cells_abs hb hx, toL_length, if_pos hle]
end
end Go.Abs
