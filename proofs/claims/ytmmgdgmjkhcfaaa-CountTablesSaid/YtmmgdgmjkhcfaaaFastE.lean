/- The fast evaluator: values taken apart, arithmetic, comparisons. -/
import Derived.Test.YtmmgdgmjkhcfaaaFastD
namespace Go.Abs
noncomputable def intK : Value → (Int → RC) → RC := Value.rec (motive_1 := fun _ => (Int → RC) → RC) (motive_2 := fun _ => (Int → RC) → RC) (motive_3 := fun _ => (Int → RC) → RC) (fun _ _ => RC.no) (fun kd z k => IntKind.rec RC.no RC.no RC.no (k z) RC.no RC.no RC.no RC.no kd) (fun _ _ _ => RC.no) (fun _ _ _ _ => RC.no) (fun _ _ => RC.no) (fun _ _ => RC.no) (fun _ _ _ _ => RC.no) (fun _ _ => RC.no) (fun _ _ => RC.no) (fun _ _ _ _ _ _ => RC.no) (fun _ => RC.no) (fun _ _ _ _ => RC.no) (fun _ => RC.no) (fun _ _ _ => RC.no) (fun _ _ _ => RC.no) (fun _ _ _ => RC.no) (fun _ => RC.no) (fun _ _ _ _ _ => RC.no)
noncomputable def u8K : Value → (Int → RC) → RC := Value.rec (motive_1 := fun _ => (Int → RC) → RC) (motive_2 := fun _ => (Int → RC) → RC) (motive_3 := fun _ => (Int → RC) → RC) (fun _ _ => RC.no) (fun kd z k => IntKind.rec RC.no RC.no RC.no RC.no (k z) RC.no RC.no RC.no kd) (fun _ _ _ => RC.no) (fun _ _ _ _ => RC.no) (fun _ _ => RC.no) (fun _ _ => RC.no) (fun _ _ _ _ => RC.no) (fun _ _ => RC.no) (fun _ _ => RC.no) (fun _ _ _ _ _ _ => RC.no) (fun _ => RC.no) (fun _ _ _ _ => RC.no) (fun _ => RC.no) (fun _ _ _ => RC.no) (fun _ _ _ => RC.no) (fun _ _ _ => RC.no) (fun _ => RC.no) (fun _ _ _ _ _ => RC.no)
noncomputable def boolK : Value → (Bool → RC) → RC := Value.rec (motive_1 := fun _ => (Bool → RC) → RC) (motive_2 := fun _ => (Bool → RC) → RC) (motive_3 := fun _ => (Bool → RC) → RC) (fun b k => k b) (fun _ _ _ => RC.no) (fun _ _ _ => RC.no) (fun _ _ _ _ => RC.no) (fun _ _ => RC.no) (fun _ _ => RC.no) (fun _ _ _ _ => RC.no) (fun _ _ => RC.no) (fun _ _ => RC.no) (fun _ _ _ _ _ _ => RC.no) (fun _ => RC.no) (fun _ _ _ _ => RC.no) (fun _ => RC.no) (fun _ _ _ => RC.no) (fun _ _ _ => RC.no) (fun _ _ _ => RC.no) (fun _ => RC.no) (fun _ _ _ _ _ => RC.no)
noncomputable def sliceK : Value → (Option Addr → Nat → Nat → RC) → RC := Value.rec (motive_1 := fun _ => (Option Addr → Nat → Nat → RC) → RC) (motive_2 := fun _ => (Option Addr → Nat → Nat → RC) → RC) (motive_3 := fun _ => (Option Addr → Nat → Nat → RC) → RC) (fun _ _ => RC.no) (fun _ _ _ => RC.no) (fun _ _ _ => RC.no) (fun _ _ _ _ => RC.no) (fun _ _ => RC.no) (fun _ _ => RC.no) (fun a n c k => k a n c) (fun _ _ => RC.no) (fun _ _ => RC.no) (fun _ _ _ _ _ _ => RC.no) (fun _ => RC.no) (fun _ _ _ _ => RC.no) (fun _ => RC.no) (fun _ _ _ => RC.no) (fun _ _ _ => RC.no) (fun _ _ _ => RC.no) (fun _ => RC.no) (fun _ _ _ _ _ => RC.no)
noncomputable def addrK (nn nl : RC) : Option Addr → (Nat → Nat → RC) → RC := Option.rec (fun _ => nn) (fun ad => Addr.rec (motive := fun _ => (Nat → Nat → RC) → RC) (fun b o s => Option.rec (motive := fun _ => (Nat → Nat → RC) → RC) (fun k => k b o) (fun _ _ => nl) s) ad)
noncomputable def ptrK : Value → (Nat → Nat → RC) → RC := Value.rec (motive_1 := fun _ => (Nat → Nat → RC) → RC) (motive_2 := fun _ => (Nat → Nat → RC) → RC) (motive_3 := fun _ => (Nat → Nat → RC) → RC) (fun _ _ => RC.no) (fun _ _ _ => RC.no) (fun _ _ _ => RC.no) (fun _ _ _ _ => RC.no) (fun _ _ => RC.no) (addrK RC.no RC.no) (fun _ _ _ _ => RC.no) (fun _ _ => RC.no) (fun _ _ => RC.no) (fun _ _ _ _ _ _ => RC.no) (fun _ => RC.no) (fun _ _ _ _ => RC.no) (fun _ => RC.no) (fun _ _ _ => RC.no) (fun _ _ _ => RC.no) (fun _ _ _ => RC.no) (fun _ => RC.no) (fun _ _ _ _ _ => RC.no)
noncomputable def aggK : Value → (List Value → RC) → RC := Value.rec (motive_1 := fun _ => (List Value → RC) → RC) (motive_2 := fun _ => (List Value → RC) → RC) (motive_3 := fun _ => (List Value → RC) → RC) (fun _ _ => RC.no) (fun _ _ _ => RC.no) (fun _ _ _ => RC.no) (fun _ _ _ _ => RC.no) (fun _ _ => RC.no) (fun _ _ => RC.no) (fun _ _ _ _ => RC.no) (fun _ _ => RC.no) (fun _ _ => RC.no) (fun _ _ _ _ _ _ => RC.no) (fun _ => RC.no) (fun _ _ _ _ => RC.no) (fun _ => RC.no) (fun cs _ k => Array.rec k cs) (fun _ _ _ => RC.no) (fun _ _ _ => RC.no) (fun _ => RC.no) (fun _ _ _ _ _ => RC.no)
noncomputable def tupK : Value → (List Value → RC) → RC := Value.rec (motive_1 := fun _ => (List Value → RC) → RC) (motive_2 := fun _ => (List Value → RC) → RC) (motive_3 := fun _ => (List Value → RC) → RC) (fun _ _ => RC.no) (fun _ _ _ => RC.no) (fun _ _ _ => RC.no) (fun _ _ _ _ => RC.no) (fun _ _ => RC.no) (fun _ _ => RC.no) (fun _ _ _ _ => RC.no) (fun _ _ => RC.no) (fun _ _ => RC.no) (fun _ _ _ _ _ _ => RC.no) (fun _ => RC.no) (fun _ _ _ _ => RC.no) (fun _ => RC.no) (fun _ _ _ => RC.no) (fun cs _ k => Array.rec k cs) (fun _ _ _ => RC.no) (fun _ => RC.no) (fun _ _ _ _ _ => RC.no)
noncomputable def mapK : Value → (Nat → RC) → RC := Value.rec (motive_1 := fun _ => (Nat → RC) → RC) (motive_2 := fun _ => (Nat → RC) → RC) (motive_3 := fun _ => (Nat → RC) → RC) (fun _ _ => RC.no) (fun _ _ _ => RC.no) (fun _ _ _ => RC.no) (fun _ _ _ _ => RC.no) (fun _ _ => RC.no) (fun _ _ => RC.no) (fun _ _ _ _ => RC.no) (fun r k => Option.rec RC.no k r) (fun _ _ => RC.no) (fun _ _ _ _ _ _ => RC.no) (fun _ => RC.no) (fun _ _ _ _ => RC.no) (fun _ => RC.no) (fun _ _ _ => RC.no) (fun _ _ _ => RC.no) (fun _ _ _ => RC.no) (fun _ => RC.no) (fun _ _ _ _ _ => RC.no)
noncomputable def isScal : Value → Bool := Value.rec (motive_1 := fun _ => Bool) (motive_2 := fun _ => Bool) (motive_3 := fun _ => Bool) (fun _ => true) (fun _ _ => true) (fun _ _ => true) (fun _ _ _ => true) (fun _ => true) (fun _ => true) (fun _ _ _ => true) (fun _ => true) (fun _ => true) (fun _ _ _ _ _ => true) true (fun _ _ _ => true) true (fun _ _ => false) (fun _ _ => false) (fun _ _ => true) true (fun _ _ _ _ => true)
noncomputable def scalK (v : Value) (k : List Value → RC) : RC := Bool.rec (aggK v k) (k [v]) (isScal v)
theorem intK_or (v : Value) (k : Int → RC) : intK v k = RC.no ∨ ∃ z, v = .int .i64 z ∧ intK v k = k z := by
  cases v with
  | int kd z => cases kd <;> first | exact .inl rfl | exact .inr ⟨_, rfl, rfl⟩
  | _ => exact .inl rfl
theorem u8K_or (v : Value) (k : Int → RC) : u8K v k = RC.no ∨ ∃ z, v = .int .u8 z ∧ u8K v k = k z := by
  cases v with
  | int kd z => cases kd <;> first | exact .inl rfl | exact .inr ⟨_, rfl, rfl⟩
  | _ => exact .inl rfl
theorem boolK_or (v : Value) (k : Bool → RC) : boolK v k = RC.no ∨ ∃ b, v = .bool b ∧ boolK v k = k b := by
  cases v <;> first | exact .inl rfl | exact .inr ⟨_, rfl, rfl⟩
theorem sliceK_or (v : Value) (k : Option Addr → Nat → Nat → RC) : sliceK v k = RC.no ∨ ∃ a n c, v = .slice a n c ∧ sliceK v k = k a n c := by
  cases v <;> first | exact .inl rfl | exact .inr ⟨_, _, _, rfl, rfl⟩
theorem addrK_or (a : Option Addr) (nn nl : RC) (k : Nat → Nat → RC) : (a = none ∧ addrK nn nl a k = nn) ∨ (∃ b o p, a = some ⟨b, o, some p⟩ ∧ addrK nn nl a k = nl) ∨ ∃ b o, a = some ⟨b, o, none⟩ ∧ addrK nn nl a k = k b o := by
  cases a with
  | none => exact .inl ⟨rfl, rfl⟩
  | some a => obtain ⟨b, o, s⟩ := a; cases s with
    | none => exact .inr (.inr ⟨_, _, rfl, rfl⟩)
    | some _ => exact .inr (.inl ⟨_, _, _, rfl, rfl⟩)
theorem ptrK_or (v : Value) (k : Nat → Nat → RC) : ptrK v k = RC.no ∨ ∃ b o, v = .pointer (some ⟨b, o, none⟩) ∧ ptrK v k = k b o := by
  cases v with
  | pointer a =>
    cases a with
    | none => exact .inl rfl
    | some a => obtain ⟨b, o, s⟩ := a; cases s with
      | none => exact .inr ⟨_, _, rfl, rfl⟩
      | some _ => exact .inl rfl
  | _ => exact .inl rfl
theorem aggK_or (v : Value) (k : List Value → RC) : aggK v k = RC.no ∨ ∃ cs : Array Value, v = .agg cs ∧ aggK v k = k cs.toList := by
  cases v <;> first | exact .inl rfl | (rename_i cs; cases cs; exact .inr ⟨_, rfl, rfl⟩)
theorem tupK_or (v : Value) (k : List Value → RC) : tupK v k = RC.no ∨ ∃ cs : Array Value, v = .tuple cs ∧ tupK v k = k cs.toList := by
  cases v <;> first | exact .inl rfl | (rename_i cs; cases cs; exact .inr ⟨_, rfl, rfl⟩)
theorem mapK_or (v : Value) (k : Nat → RC) : mapK v k = RC.no ∨ ∃ r, v = .map (some r) ∧ mapK v k = k r := by
  cases v with
  | map r => cases r with
    | none => exact .inl rfl
    | some r => exact .inr ⟨_, rfl, rfl⟩
  | _ => exact .inl rfl
theorem scalK_or (v : Value) (k : List Value → RC) : scalK v k = RC.no ∨ ∃ l, scal v = some l ∧ scalK v k = k l := by
  cases v with
  | agg cs => cases cs; exact .inr ⟨_, rfl, rfl⟩
  | tuple cs => exact .inl rfl
  | _ => exact .inr ⟨_, rfl, rfl⟩
/- arithmetic -/
noncomputable def posK (n : Nat) (k : Int → RC) : RC := fN n fun n => Bool.rec RC.no (k (.ofNat n)) (Nat.ble n 9223372036854775807)
noncomputable def negK (n : Nat) (k : Int → RC) : RC := fN n fun n => Bool.rec RC.no (k (.negSucc n)) (Nat.ble n 9223372036854775807)
noncomputable def subK (a b : Nat) (k : Int → RC) : RC := Bool.rec (negK (Nat.sub (Nat.sub b a) 1) k) (posK (Nat.sub a b) k) (Nat.ble b a)
noncomputable def addZ : Int → Int → (Int → RC) → RC := Int.rec (fun m => Int.rec (fun n k => posK (Nat.add m n) k) (fun n k => subK m (Nat.add n 1) k)) (fun m => Int.rec (fun n k => subK n (Nat.add m 1) k) (fun n k => negK (Nat.add (Nat.add m n) 1) k))
noncomputable def subZ : Int → Int → (Int → RC) → RC := Int.rec (fun m => Int.rec (fun n k => subK m n k) (fun n k => posK (Nat.add (Nat.add m n) 1) k)) (fun m => Int.rec (fun n k => negK (Nat.add m n) k) (fun n k => subK n m k))
noncomputable def anyK : Int → (Int → RC) → RC := Int.rec (fun n k => posK n k) (fun n k => negK n k)
noncomputable def mulZ : Int → Int → (Int → RC) → RC := Int.rec (fun m => Int.rec (fun n k => posK (Nat.mul m n) k) (fun n k => anyK (.ofNat m * .negSucc n) k)) (fun m y k => anyK (.negSucc m * y) k)
noncomputable def quoZ : Int → Int → (Int → RC) → RC := Int.rec (fun m => Int.rec (fun n k => Bool.rec (posK (Nat.div m n) k) RC.no (Nat.beq n 0)) (fun n k => anyK ((Int.ofNat m).tdiv (.negSucc n)) k)) (fun m y k => Bool.rec (anyK ((Int.negSucc m).tdiv y) k) RC.no (eqZ y 0))
noncomputable def remZ : Int → Int → (Int → RC) → RC := Int.rec (fun m => Int.rec (fun n k => Bool.rec (posK (Nat.mod m n) k) RC.no (Nat.beq n 0)) (fun n k => anyK ((Int.ofNat m).tmod (.negSucc n)) k)) (fun m y k => Bool.rec (anyK ((Int.negSucc m).tmod y) k) RC.no (eqZ y 0))
noncomputable def beqZ : Int → Int → Bool := Int.rec (fun m => Int.rec (fun n => Nat.beq m n) (fun _ => false)) (fun m => Int.rec (fun _ => false) (fun n => Nat.beq m n))
noncomputable def bltZ : Int → Int → Bool := Int.rec (fun m => Int.rec (fun n => Nat.ble (Nat.add m 1) n) (fun _ => false)) (fun m => Int.rec (fun _ => true) (fun n => Nat.ble (Nat.add n 1) m))
def Fits (z : Int) : Prop := -9223372036854775808 ≤ z ∧ z ≤ 9223372036854775807
theorem posK_or (n : Nat) (k : Int → RC) : posK n k = RC.no ∨ (posK n k = k (n : Int) ∧ Fits n) := by
  unfold posK
  rw [fN_eq]
  cases h : Nat.ble n 9223372036854775807 with
  | false => exact .inl rfl
  | true => have := Nat.le_of_ble_eq_true h; exact .inr ⟨rfl, by unfold Fits; omega⟩
theorem negK_or (n : Nat) (k : Int → RC) : negK n k = RC.no ∨ (negK n k = k (.negSucc n) ∧ Fits (.negSucc n)) := by
  unfold negK
  rw [fN_eq]
  cases h : Nat.ble n 9223372036854775807 with
  | false => exact .inl rfl
  | true => have := Nat.le_of_ble_eq_true h; exact .inr ⟨rfl, by unfold Fits; omega⟩
theorem subK_or (a b : Nat) (k : Int → RC) : subK a b k = RC.no ∨ (subK a b k = k ((a : Int) - b) ∧ Fits ((a : Int) - b)) := by
  unfold subK
  cases h : Nat.ble b a with
  | true =>
    have := Nat.le_of_ble_eq_true h
    have e : ((Nat.sub a b : Nat) : Int) = (a : Int) - b := by show ((a - b : Nat) : Int) = _; omega
    show posK _ _ = _ ∨ (posK _ _ = _ ∧ _)
    rw [← e]
    exact posK_or _ _
  | false =>
    have : ¬ b ≤ a := by intro h2; rw [Nat.ble_eq_true_of_le h2] at h; cases h
    have e : Int.negSucc (Nat.sub (Nat.sub b a) 1) = (a : Int) - b := by show Int.negSucc (b - a - 1) = _; omega
    show negK _ _ = _ ∨ (negK _ _ = _ ∧ _)
    rw [← e]
    exact negK_or _ _
theorem addZ_or (x y : Int) (k : Int → RC) : addZ x y k = RC.no ∨ (addZ x y k = k (x + y) ∧ Fits (x + y)) := by
  cases x with
  | ofNat m => cases y with
    | ofNat n => exact posK_or _ _
    | negSucc n =>
      have e : Int.ofNat m + Int.negSucc n = (m : Int) - ((Nat.add n 1 : Nat) : Int) := by show _ = (m : Int) - ((n + 1 : Nat) : Int); show (m : Int) + _ = _; omega
      rw [e]; exact subK_or _ _ _
  | negSucc m => cases y with
    | ofNat n =>
      have e : Int.negSucc m + Int.ofNat n = (n : Int) - ((Nat.add m 1 : Nat) : Int) := by show _ = (n : Int) - ((m + 1 : Nat) : Int); show _ + (n : Int) = _; omega
      rw [e]; exact subK_or _ _ _
    | negSucc n => exact negK_or _ _
theorem subZ_or (x y : Int) (k : Int → RC) : subZ x y k = RC.no ∨ (subZ x y k = k (x - y) ∧ Fits (x - y)) := by
  cases x with
  | ofNat m => cases y with
    | ofNat n => exact subK_or _ _ _
    | negSucc n =>
      have e : Int.ofNat m - Int.negSucc n = ((Nat.add (Nat.add m n) 1 : Nat) : Int) := by show (m : Int) - _ = ((m + n + 1 : Nat) : Int); omega
      rw [e]; exact posK_or _ _
  | negSucc m => cases y with
    | ofNat n =>
      have e : Int.negSucc m - Int.ofNat n = Int.negSucc (Nat.add m n) := by show _ - (n : Int) = Int.negSucc (m + n); omega
      rw [e]; exact negK_or _ _
    | negSucc n =>
      have e : Int.negSucc m - Int.negSucc n = (n : Int) - (m : Int) := by omega
      rw [e]; exact subK_or _ _ _
theorem anyK_or (z : Int) (k : Int → RC) : anyK z k = RC.no ∨ (anyK z k = k z ∧ Fits z) := by
  cases z with
  | ofNat n => exact posK_or _ _
  | negSucc n => exact negK_or _ _
theorem mulZ_or (x y : Int) (k : Int → RC) : mulZ x y k = RC.no ∨ (mulZ x y k = k (x * y) ∧ Fits (x * y)) := by
  cases x with
  | ofNat m => cases y with
    | ofNat n => exact posK_or _ _
    | negSucc n => exact anyK_or _ _
  | negSucc m => exact anyK_or _ _
theorem quoZ_or (x y : Int) (k : Int → RC) : quoZ x y k = RC.no ∨ (quoZ x y k = k (x.tdiv y) ∧ Fits (x.tdiv y) ∧ y ≠ 0) := by
  cases x with
  | ofNat m => cases y with
    | ofNat n =>
      show (Bool.rec (posK (Nat.div m n) k) RC.no (Nat.beq n 0) : RC) = RC.no ∨ ((Bool.rec (posK (Nat.div m n) k) RC.no (Nat.beq n 0) : RC) = _ ∧ _)
      cases h : Nat.beq n 0 with
      | true => exact .inl rfl
      | false =>
        have := Nat.ne_of_beq_eq_false h
        rcases posK_or (Nat.div m n) k with e | ⟨e, f⟩
        · exact .inl e
        · exact .inr ⟨e, f, by intro h; exact this (Int.ofNat.inj h)⟩
    | negSucc n =>
      rcases anyK_or ((Int.ofNat m).tdiv (Int.negSucc n)) k with e | ⟨e, f⟩
      · exact .inl e
      · exact .inr ⟨e, f, by intro h; cases h⟩
  | negSucc m =>
    show (Bool.rec (anyK ((Int.negSucc m).tdiv y) k) RC.no (eqZ y 0) : RC) = RC.no ∨ ((Bool.rec (anyK ((Int.negSucc m).tdiv y) k) RC.no (eqZ y 0) : RC) = _ ∧ _)
    cases h : eqZ y 0 with
    | true => exact .inl rfl
    | false =>
      rw [eqZ_eq] at h
      rcases anyK_or ((Int.negSucc m).tdiv y) k with e | ⟨e, f⟩
      · exact .inl e
      · exact .inr ⟨e, f, by simpa using h⟩
theorem remZ_or (x y : Int) (k : Int → RC) : remZ x y k = RC.no ∨ (remZ x y k = k (x.tmod y) ∧ y ≠ 0) := by
  cases x with
  | ofNat m => cases y with
    | ofNat n =>
      show (Bool.rec (posK (Nat.mod m n) k) RC.no (Nat.beq n 0) : RC) = RC.no ∨ ((Bool.rec (posK (Nat.mod m n) k) RC.no (Nat.beq n 0) : RC) = _ ∧ _)
      cases h : Nat.beq n 0 with
      | true => exact .inl rfl
      | false =>
        have := Nat.ne_of_beq_eq_false h
        rcases posK_or (Nat.mod m n) k with e | ⟨e, _⟩
        · exact .inl e
        · exact .inr ⟨e, by intro h; exact this (Int.ofNat.inj h)⟩
    | negSucc n =>
      rcases anyK_or ((Int.ofNat m).tmod (Int.negSucc n)) k with e | ⟨e, _⟩
      · exact .inl e
      · exact .inr ⟨e, by intro h; cases h⟩
  | negSucc m =>
    show (Bool.rec (anyK ((Int.negSucc m).tmod y) k) RC.no (eqZ y 0) : RC) = RC.no ∨ ((Bool.rec (anyK ((Int.negSucc m).tmod y) k) RC.no (eqZ y 0) : RC) = _ ∧ _)
    cases h : eqZ y 0 with
    | true => exact .inl rfl
    | false =>
      rw [eqZ_eq] at h
      rcases anyK_or ((Int.negSucc m).tmod y) k with e | ⟨e, _⟩
      · exact .inl e
      · exact .inr ⟨e, by simpa using h⟩
theorem beqZ_eq (a b : Int) : beqZ a b = (a == b) := by
  rw [← eqZ_eq]; cases a <;> cases b <;> rfl
theorem bltZ_eq (a b : Int) : bltZ a b = decide (a < b) := by
  rw [← ltZ_eq]; cases a <;> cases b <;> rfl
end Go.Abs
