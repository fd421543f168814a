/- Values brought into their last form; arithmetic of the model on small numbers. -/
import Derived.Test.YtmmgdgmjkhcfaaaFastA
namespace Go.Abs
section
variable {α : Type}
noncomputable def fN (n : Nat) (f : Nat → α) : α := Nat.rec (motive := fun _ => α) (f 0) (fun k _ => f k) (Nat.add n 1)
noncomputable def fI (z : Int) (f : Int → α) : α := Int.rec (motive := fun _ => α) (fun n => fN n fun k => f (.ofNat k)) (fun n => fN n fun k => f (.negSucc k)) z
noncomputable def fB (b : Bool) (f : Bool → α) : α := Bool.rec (motive := fun _ => α) (f false) (f true) b
noncomputable def fP (a : Option Addr) (f : Option Addr → α) : α := match a with
  | none => f none
  | some ⟨b, o, none⟩ => fN b fun b => fN o fun o => f (some ⟨b, o, none⟩)
  | some ⟨b, o, some p⟩ => fN b fun b => fN o fun o => fN p fun p => f (some ⟨b, o, some p⟩)
noncomputable def fU (u : UInt8) (f : UInt8 → α) : α := fN u.toNat fun n => f (UInt8.ofNat n)
noncomputable def fUs (l : List UInt8) : (List UInt8 → α) → α := List.rec (motive := fun _ => (List UInt8 → α) → α) (fun f => f []) (fun x _ ih f => fU x fun x => ih fun xs => f (x :: xs)) l
noncomputable def fS (v : Value) (f : Value → α) : α := match v with
  | .int k z => fI z fun z => f (.int k z)
  | .bool b => fB b fun b => f (.bool b)
  | .slice a n c => fP a fun a => fN n fun n => fN c fun c => f (.slice a n c)
  | .pointer a => fP a fun a => f (.pointer a)
  | .map (some b) => fN b fun b => f (.map (some b))
  | .string s => fUs s.data.toList fun l => f (.string ⟨⟨l⟩⟩)
  | v => f v
noncomputable def fSs (l : List Value) : (List Value → α) → α := List.rec (motive := fun _ => (List Value → α) → α) (fun f => f []) (fun x _ ih f => fS x fun x => ih fun xs => f (x :: xs)) l
noncomputable def fA (v : Value) (f : Value → α) : α := match v with
  | .agg cs => fSs cs.toList fun l => f (.agg ⟨l⟩)
  | .func fn a cap => fSs cap.toList fun l => f (.func fn a ⟨l⟩)
  | v => fS v f
noncomputable def fAs (l : List Value) : (List Value → α) → α := List.rec (motive := fun _ => (List Value → α) → α) (fun f => f []) (fun x _ ih f => fA x fun x => ih fun xs => f (x :: xs)) l
noncomputable def fV (v : Value) (f : Value → α) : α := match v with
  | .tuple cs => fAs cs.toList fun l => f (.tuple ⟨l⟩)
  | v => fA v f
end
section
variable {α β : Type}
/-- The spine of a list. -/
noncomputable def fL (l : List β) : (List β → α) → α := List.rec (motive := fun _ => (List β → α) → α) (fun f => f []) (fun x _ ih f => ih fun xs => f (x :: xs)) l
end
def eqZ : Int → Int → Bool
  | .ofNat m, .ofNat n => Nat.beq m n
  | .negSucc m, .negSucc n => Nat.beq m n
  | _, _ => false
def ltZ : Int → Int → Bool
  | .ofNat m, .ofNat n => Nat.ble (m + 1) n
  | .negSucc _, .ofNat _ => true
  | .ofNat _, .negSucc _ => false
  | .negSucc m, .negSucc n => Nat.ble (n + 1) m
section
variable {α : Type}
theorem fN_eq (n : Nat) (f : Nat → α) : fN n f = f n := rfl
theorem fI_eq (z : Int) (f : Int → α) : fI z f = f z := by cases z <;> rfl
theorem fB_eq (b : Bool) (f : Bool → α) : fB b f = f b := by cases b <;> rfl
theorem fP_eq (a : Option Addr) (f : Option Addr → α) : fP a f = f a := by
  cases a with
  | none => rfl
  | some a => obtain ⟨b, o, s⟩ := a; cases s <;> rfl
theorem fU_eq (u : UInt8) (f : UInt8 → α) : fU u f = f u := by simp [fU, fN_eq]
theorem fUs_eq (l : List UInt8) (f : List UInt8 → α) : fUs l f = f l := by
  unfold fUs
  induction l generalizing f with
  | nil => rfl
  | cons x xs ih => exact (fU_eq _ _).trans (ih _)
theorem fS_eq (v : Value) (f : Value → α) : fS v f = f v := by
  unfold fS
  split <;> simp [fI_eq, fB_eq, fP_eq, fN_eq, fUs_eq]
theorem fSs_eq (l : List Value) (f : List Value → α) : fSs l f = f l := by
  unfold fSs
  induction l generalizing f with
  | nil => rfl
  | cons x xs ih => exact (fS_eq _ _).trans (ih _)
theorem fA_eq (v : Value) (f : Value → α) : fA v f = f v := by
  unfold fA
  split <;> simp [fSs_eq, fS_eq]
theorem fAs_eq (l : List Value) (f : List Value → α) : fAs l f = f l := by
  unfold fAs
  induction l generalizing f with
  | nil => rfl
  | cons x xs ih => exact (fA_eq _ _).trans (ih _)
theorem fV_eq (v : Value) (f : Value → α) : fV v f = f v := by
  unfold fV
  split <;> simp [fAs_eq, fA_eq]
end
section
variable {α β : Type}
theorem fL_eq (l : List β) (f : List β → α) : fL l f = f l := by
  unfold fL
  induction l generalizing f with
  | nil => rfl
  | cons x xs ih => exact ih _
end
theorem eqZ_eq (a b : Int) : eqZ a b = (a == b) := by
  rw [Bool.eq_iff_iff, beq_iff_eq]
  cases a <;> cases b <;> simp [eqZ, Nat.beq_eq] <;> omega
theorem ltZ_eq (a b : Int) : ltZ a b = decide (a < b) := by
  rw [Bool.eq_iff_iff, decide_eq_true_eq]
  cases a <;> cases b <;> simp [ltZ, Nat.ble_eq] <;> omega
theorem wrap_small {z : Int} (h1 : -9223372036854775808 ≤ z) (h2 : z ≤ 9223372036854775807) : IntKind.i64.wrap z = z := by
  simp only [IntKind.wrap, IntKind.bits, IntKind.signed]
  simp only [show ((2:Int)^64) = 18446744073709551616 from rfl, show ((2:Int)^(64-1)) = 9223372036854775808 from rfl, Bool.true_and, decide_eq_true_eq, ge_iff_le]
  split <;> omega
section
variable {P : Program}
theorem plainA_bin {a : Fr} {o : Oper} {op : BinOp} {t t' : TypeId} {x y : Operand} {v : Value} (ho : o.op = .binOp op t x y t') (hx : plain (ev a x) = true) (hy : plain (ev a y) = true) (hb : ((pureVal P (execOp (ev a) o)).bind valOf) = some v) (hv : plain v = true) : plainA P a o = some v := by
  unfold plainA
  have : (o.op.operands.toList.all fun x => plain (ev a x)) = true := by rw [ho]; simp [Op.operands, hx, hy]
  rw [if_pos this, hb]
  simp [hv]
theorem pv (x : Next) : pureVal P (pure x : Sem Next) = some x := rfl
theorem nilCmp_int {t : TypeId} {k l : IntKind} {m n : Int} : nilCmp P t (.int k m) (.int l n) = none := by
  unfold nilCmp
  split <;> first | rfl | (rename_i h1 h2; cases h1) | (rename_i h1 _; cases h1) | simp_all
theorem aexec_bin {a : Fr} {o : Oper} {op : BinOp} {t t' : TypeId} {x y : Operand} {v : Value} {m n : Int} {H : Heap} (ho : o.op = .binOp op t x y t') (hx : ev a x = .int .i64 m) (hy : ev a y = .int .i64 n) (hb : ((pureVal P (execOp (ev a) o)).bind valOf) = some v) (hv : plain v = true) : aexec P a o H = some (v, H) := by
  have hp := plainA_bin (P := P) ho (by rw [hx]; rfl) (by rw [hy]; rfl) hb hv
  unfold aexec
  rw [ho]
  cases op <;> simp only [hx, hy, nilCmp_int, hp, Option.map_some]
end
end Go.Abs
