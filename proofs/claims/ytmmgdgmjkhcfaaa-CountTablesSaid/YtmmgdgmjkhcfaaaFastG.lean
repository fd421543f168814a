/- The fast evaluator: code as closures that the kernel keeps. Definitions only. -/
import Derived.Test.YtmmgdgmjkhcfaaaFastE
namespace Go.Abs
abbrev CallFF := Value → List Value → FH → RC
structure Ctx where
  call : CallFF
  n : Nat
  rd : Option Nat
abbrev Env := List Value
abbrev OpK := Ctx → Env → FT → FH → (Value → FH → RC) → RC
/-- Where an operand lies: in the region's own row, in the frame, a constant. -/
inductive Lc where
  | env (i : Nat)
  | slot (s : Nat)
  | cst (v : Value)
  | bad
abbrev Mpl := List (Nat × Lc)
def lk : Mpl → Nat → Option Lc
  | [], _ => none
  | (t, l) :: m, i => if t = i then some l else lk m i
noncomputable def egB (i : Nat) : Box (Env → (Value → RC) → RC) :=
  Nat.rec (motive := fun _ => Box (Env → (Value → RC) → RC)) ⟨fun E k => List.rec RC.no (fun x _ _ => k x) E⟩ (fun _ ih => ⟨fun E k => List.rec RC.no (fun _ xs _ => ih.run xs k) E⟩) i
noncomputable def lcB (n : Nat) (l : Lc) : Box (Env → FT → (Value → RC) → RC) := match l with
  | .env i => ⟨fun E _ k => (egB (n - 1 - i)).run E k⟩
  | .slot s => ⟨fun _ T k => (g2B s).run T k⟩
  | .cst v => ⟨fun _ _ k => k v⟩
  | .bad => ⟨fun _ _ _ => RC.no⟩
noncomputable def opB (L : Nat) (mp : Mpl) (n : Nat) (x : Operand) : Box (Env → FT → (Value → RC) → RC) := match x with
  | .tmp t => match lk mp t with
    | some l => lcB n l
    | none => bif L.testBit t || !Nat.ble (t + 1) 262144 then ⟨fun _ _ _ => RC.no⟩ else ⟨fun _ T k => (g2B t).run T k⟩
  | .const v => fV v fun v => ⟨fun _ _ k => k v⟩
  | .func f => ⟨fun _ _ k => k (.func (.func f) #[] #[])⟩
  | .global _ => ⟨fun _ _ _ => RC.no⟩
noncomputable def opsB (L : Nat) (mp : Mpl) (n : Nat) (l : List Operand) : Box (Env → FT → (List Value → RC) → RC) :=
  List.rec (motive := fun _ => Box (Env → FT → (List Value → RC) → RC)) ⟨fun _ _ k => k []⟩ (fun x _ ih => ⟨fun E T k => (opB L mp n x).run E T fun v => ih.run E T fun vs => k (v :: vs)⟩) l
noncomputable def cmpK (b : Bool) (k : Value → RC) : RC := Bool.rec (k (.bool false)) (k (.bool true)) b
def nofr : Fr := fun _ => undef
def opr (op : Op) : Oper := ⟨none, op, 0, "", #[], none⟩
noncomputable def slowK (P : Program) (op : Op) (H : FH) (k : Value → RC) : RC := match aexec P nofr (opr op) (absH H) with
  | some (v, _) => fV v k
  | none => RC.no
noncomputable def arB (op : BinOp) : Option (Box (Int → Int → (Value → RC) → RC)) := match op with
  | .add => some ⟨fun x y k => addZ x y fun z => k (.int .i64 z)⟩
  | .sub => some ⟨fun x y k => subZ x y fun z => k (.int .i64 z)⟩
  | .mul => some ⟨fun x y k => mulZ x y fun z => k (.int .i64 z)⟩
  | .quo => some ⟨fun x y k => quoZ x y fun z => k (.int .i64 z)⟩
  | .rem => some ⟨fun x y k => remZ x y fun z => k (.int .i64 z)⟩
  | .eql => some ⟨fun x y k => cmpK (beqZ x y) k⟩
  | .neq => some ⟨fun x y k => cmpK (Bool.not (beqZ x y)) k⟩
  | .lss => some ⟨fun x y k => cmpK (bltZ x y) k⟩
  | .gtr => some ⟨fun x y k => cmpK (bltZ y x) k⟩
  | .leq => some ⟨fun x y k => cmpK (Bool.not (bltZ y x)) k⟩
  | .geq => some ⟨fun x y k => cmpK (Bool.not (bltZ x y)) k⟩
  | _ => none
def isI64 (P : Program) (t : TypeId) : Bool := match P.underlying t with
  | some (.int .i64) => true
  | _ => false
noncomputable def binB (P : Program) (op : BinOp) (t t' : TypeId) : Box (Value → Value → FH → (Value → RC) → RC) := match arB op with
  | some f => bif isI64 P t then ⟨fun a b _ k => intK a fun x => intK b fun y => f.run x y k⟩ else ⟨fun a b H k => slowK P (.binOp op t (.const a) (.const b) t') H k⟩
  | none => ⟨fun a b H k => slowK P (.binOp op t (.const a) (.const b) t') H k⟩
noncomputable def loadB (P : Program) (t : TypeId) : Box (Value → FH → (Value → RC) → RC) := match isAggT P t with
  | some false => ⟨fun p H k => ptrK p fun b o => cellsK H b fun _ _ n t => bif Nat.ble (Nat.add o 1) n then (g2B o).run t k else RC.no⟩
  | some true => match sizeT P t with
    | some m => fN m fun m => ⟨fun p H k => ptrK p fun b o => cellsK H b fun _ _ n t => bif Nat.ble (Nat.add o m) n then rowK t o m fun l => k (.agg ⟨l⟩) else RC.no⟩
    | none => ⟨fun _ _ _ => RC.no⟩
  | none => ⟨fun _ _ _ => RC.no⟩
noncomputable def storeB (P : Program) (t : TypeId) : Box (Value → Value → FH → (FH → RC) → RC) := match sizeT P t with
  | some m => fN m fun m => ⟨fun p v H k => ptrK p fun b o => scalK v fun cs => bif Nat.beq cs.length m then writeK H b o m cs k else RC.no⟩
  | none => ⟨fun _ _ _ _ => RC.no⟩
/-- The cells that a slice reads as; how many elements. -/
noncomputable def readK (H : FH) (size : Nat) (v : Value) (k : List Value → Nat → RC) : RC :=
  sliceK v fun a n c => addrK (bif Nat.beq n 0 && Nat.beq c 0 then k [] 0 else RC.no) (bif Nat.beq n 0 then k [] 0 else RC.no) a fun b o => cellsK H b fun _ _ m t => fN (Nat.mul n size) fun q => bif Nat.ble (Nat.add o q) m then rowK t o q fun l => k l n else RC.no
noncomputable def appB (P : Program) (t : TypeId) : Box (Value → Value → FH → (Value → FH → RC) → RC) := match sliceElem P t with
  | some (el, size) => bif decide ((bytesT P el).isSome ∧ (bytesT P el).getD 0 ≤ maxA ∧ (zeros P el size 1).isSome) && Nat.ble 1 size then
      fN size fun size => ⟨fun s x H k => readK H size x fun news m => sliceK s fun a n sz => bif Nat.beq m 0 then k s H else
        addrK (bif Nat.beq n 0 && Nat.beq sz 0 then fN (Nat.mul m size) fun q => newK H news q fun i H' => k (.slice (some ⟨i, 0, none⟩) m size) H' else RC.no) RC.no a fun b o =>
          bif Nat.beq o 0 && Nat.beq sz size then fN (Nat.mul n size) fun n0 => fN (Nat.add n m) fun nm => fN (Nat.mul nm size) fun n1 => growK H b n0 n1 news fun i H' => k (.slice (some ⟨i, 0, none⟩) nm size) H' else RC.no⟩
    else ⟨fun _ _ _ _ => RC.no⟩
  | none => ⟨fun _ _ _ _ => RC.no⟩
noncomputable def indexB (P : Program) (t : TypeId) : Box (Value → Value → (Value → RC) → RC) := match sliceElem P t with
  | some (_, size) => fN size fun size => ⟨fun x i k => sliceK x fun a n _ => addrK RC.no RC.no a fun b o => intK i fun z => Int.rec (fun j => bif Nat.ble (Nat.add j 1) n then fN (Nat.add o (Nat.mul j size)) fun o => k (.pointer (some ⟨b, o, none⟩)) else RC.no) (fun _ => RC.no) z⟩
  | none => ⟨fun _ _ _ => RC.no⟩
noncomputable def fieldAddrB (P : Program) (t : TypeId) (i : Nat) : Box (Value → (Value → RC) → RC) := match P.underlying t with
  | some (.struct fields) => match fields[i]? with
    | some f => match sizeT P f.type with
      | some (_ + 1) => fN f.offset fun off => ⟨fun p k => ptrK p fun b o => fN (Nat.add o off) fun o => k (.pointer (some ⟨b, o, none⟩))⟩
      | _ => ⟨fun _ _ => RC.no⟩
    | none => ⟨fun _ _ => RC.no⟩
  | _ => ⟨fun _ _ => RC.no⟩
noncomputable def takeK (n : Nat) (l : List Value) (k : List Value → RC) : RC :=
  Nat.rec (motive := fun _ => List Value → (List Value → RC) → RC) (fun _ k => k []) (fun _ ih l k => List.rec (k []) (fun x xs _ => ih xs fun r => k (x :: r)) l) n l k
noncomputable def dropK (n : Nat) (l : List Value) (k : List Value → RC) : RC :=
  Nat.rec (motive := fun _ => List Value → (List Value → RC) → RC) (fun l k => k l) (fun _ ih l k => List.rec (k []) (fun _ xs _ => ih xs k) l) n l k
noncomputable def fieldB (P : Program) (t : TypeId) (i : Nat) : Box (Value → (Value → RC) → RC) := match P.underlying t with
  | some (.struct fields) => match fields[i]? with
    | some f => match isAggT P f.type with
      | some false => fN f.offset fun off => ⟨fun v k => aggK v fun l => (egB off).run l k⟩
      | some true => match sizeT P f.type with
        | some n => fN f.offset fun off => fN n fun n => ⟨fun v k => aggK v fun l => dropK off l fun l => takeK n l fun l => k (.agg ⟨l⟩)⟩
        | none => ⟨fun _ _ => RC.no⟩
      | none => ⟨fun _ _ => RC.no⟩
    | none => ⟨fun _ _ => RC.no⟩
  | _ => ⟨fun _ _ => RC.no⟩
/-- 'setList', strict. -/
noncomputable def setL1 (l : List Value) (o : Nat) (v : Value) (k : List Value → RC) : RC :=
  Nat.rec (motive := fun _ => List Value → (List Value → RC) → RC) (fun l k => List.rec (k []) (fun _ xs _ => k (v :: xs)) l) (fun _ ih l k => List.rec (k []) (fun x xs _ => ih xs fun r => k (x :: r)) l) o l k
noncomputable def setLK (l : List Value) (o : Nat) (vs : List Value) (k : List Value → RC) : RC :=
  List.rec (motive := fun _ => List Value → Nat → RC) (fun l _ => k l) (fun v _ ih l o => setL1 l o v fun l => fN (Nat.add o 1) fun o => ih l o) vs l o
noncomputable def fillB (place : Nat → Option (Nat × Nat)) (total : Nat) (is : List Nat) : Box (List Value → List Value → (List Value → RC) → RC) :=
  List.rec (motive := fun _ => Box (List Value → List Value → (List Value → RC) → RC)) ⟨fun cs _ k => k cs⟩
    (fun i _ ih => match place i with
      | some (off, size) => fN off fun off => fN size fun size => bif Nat.ble (Nat.add off size) total then
          ⟨fun cs vs k => List.rec RC.no (fun v vs _ => scalK v fun vc => bif Nat.beq vc.length size then setLK cs off vc fun cs => ih.run cs vs k else RC.no) vs⟩
        else ⟨fun _ _ _ => RC.no⟩
      | none => ⟨fun _ _ _ => RC.no⟩) is
noncomputable def buildB (P : Program) (t : TypeId) (is : List Nat) : Box (List Value → (Value → RC) → RC) := match zeroT P t, P.underlying t with
  | some z, some (.struct fields) => match sizesOf P fields.toList with
    | some places => fSs z.cells.toList fun zs => fN zs.length fun m => ⟨fun vs k => (fillB (places[·]?) m is).run zs vs fun cs => k (.agg ⟨cs⟩)⟩
    | none => ⟨fun _ _ => RC.no⟩
  | some z, some (.array _ elem) => match sizeT P elem with
    | some size => fSs z.cells.toList fun zs => fN zs.length fun m => ⟨fun vs k => (fillB (fun i => some (i * size, size)) m is).run zs vs fun cs => k (.agg ⟨cs⟩)⟩
    | none => ⟨fun _ _ => RC.no⟩
  | _, _ => ⟨fun _ _ => RC.no⟩
noncomputable def buildSliceB (P : Program) (t : TypeId) (len : Nat) (is : List Nat) : Box (List Value → FH → (Value → FH → RC) → RC) := match sliceElem P t with
  | some (e, size) => bif Nat.ble 1 size && Nat.ble (len * size) 262144 then
      match zeros P e size len with
      | some z => fSs z fun zs => fN zs.length fun m => fN len fun len => fN size fun size => ⟨fun vs H k => (fillB (fun i => some (i * size, size)) m is).run zs vs fun cs => newK H cs m fun i H' => k (.slice (some ⟨i, 0, none⟩) len size) H'⟩
      | none => ⟨fun _ _ _ => RC.no⟩
    else ⟨fun _ _ _ => RC.no⟩
  | none => ⟨fun _ _ _ => RC.no⟩
noncomputable def replK (z : List Value) (n : Nat) (k : List Value → RC) : RC :=
  Nat.rec (motive := fun _ => (List Value → RC) → RC) (fun k => k []) (fun _ ih k => ih fun r => List.rec (motive := fun _ => (List Value → RC) → RC) (fun k => k r) (fun x _ ih k => ih fun l => k (x :: l)) z k) n k
noncomputable def makeSliceB (P : Program) (t : TypeId) : Box (Value → Value → FH → (Value → FH → RC) → RC) := match sliceElem P t with
  | some (e, size) => match bytesT P e, zeroT P e with
    | some bytes, some z => bif Nat.ble 1 size && (Nat.ble bytes 1048576 && Nat.beq z.cells.toList.length size) then
        fSs z.cells.toList fun zs => fN size fun size => ⟨fun l c H k => intK l fun n => intK c fun m => bif !bltZ n 0 && (!bltZ m n && !bltZ 1048576 m) then
          Int.rec (fun n => replK zs n fun cs => fN (Nat.mul n size) fun q => newK H cs q fun i H' => k (.slice (some ⟨i, 0, none⟩) n size) H') (fun _ => RC.no) n else RC.no⟩
      else ⟨fun _ _ _ _ => RC.no⟩
    | _, _ => ⟨fun _ _ _ _ => RC.no⟩
  | none => ⟨fun _ _ _ _ => RC.no⟩
noncomputable def appIntB (P : Program) (t t' : TypeId) : Box (Value → Value → FH → (Value → FH → RC) → RC) := match sliceElem P t, P.underlying t' with
  | some (e, size), some (.int _) => match zeroT P e with
    | some z => bif Nat.ble 1 size && ((bytesT P e).isSome && (Nat.ble ((bytesT P e).getD 0) maxA && Nat.beq z.cells.toList.length size)) then
        fSs z.cells.toList fun zs => fN size fun size => ⟨fun s x H k => sliceK s fun a n c => addrK (bif Nat.beq n 0 && Nat.beq c 0 then intK x fun m => Int.rec (fun m => fN (Nat.mul m size) fun q => bif Nat.ble 1 m && Nat.ble q 262144 then
          replK zs m fun cs => newK H cs q fun i H' => k (.slice (some ⟨i, 0, none⟩) m size) H' else RC.no) (fun _ => RC.no) m else RC.no) RC.no a fun _ _ => RC.no⟩
      else ⟨fun _ _ _ _ => RC.no⟩
    | none => ⟨fun _ _ _ _ => RC.no⟩
  | _, _ => ⟨fun _ _ _ _ => RC.no⟩
noncomputable def codeBsK (l : List UInt8) (a : Nat) (k : Nat → RC) : RC :=
  List.rec (motive := fun _ => Nat → RC) (fun a => k a) (fun b _ ih a => fN (Nat.add (Nat.mul a 256) b.toNat) ih) l a
/-- A key's number. -/
noncomputable def codeK (kk : Nat) (v : Value) (k : Nat → RC) : RC := match v with
  | .string s => bif Nat.beq kk 1 then codeBsK s.data.toList 1 fun n => fN n k else RC.no
  | .bool b => bif Nat.beq kk 2 then Bool.rec (k 0) (k 1) b else RC.no
  | .int ik z => bif Nat.beq kk (ikNo ik) then Int.rec (fun n => fN (Nat.mul 2 n) k) (fun n => fN (Nat.add (Nat.mul 2 n) 1) k) z else RC.no
  | _ => RC.no
noncomputable def mfindK (c : Nat) (t : MT) (h : Nat) (kn : RC) (ks : Value → RC) : RC :=
  MT.rec (motive := fun _ => Nat → RC) (fun _ => kn) (fun c' v _ _ ihl ihr h => bif Nat.beq c c' then ks v else bif Nat.beq (Nat.mod h 2) 0 then ihl (Nat.div h 2) else ihr (Nat.div h 2)) t h
noncomputable def minsK (c : Nat) (v : Value) (t : MT) (h : Nat) (k : MT → RC) : RC :=
  MT.rec (motive := fun _ => Nat → (MT → RC) → RC) (fun _ k => k (.n c v .e .e))
    (fun c' v' l r ihl ihr h k => bif Nat.beq c c' then k (.n c v l r) else bif Nat.beq (Nat.mod h 2) 0 then ihl (Nat.div h 2) fun l => k (.n c' v' l r) else ihr (Nat.div h 2) fun r => k (.n c' v' l r)) t h k
noncomputable def mapsK (H : FH) (b : Nat) (k : Nat → List (Value × Value) → MT → Nat → List Nat → RC) : RC := ndK H b fun d => Nd.rec (fun x mx ms => FB.rec RC.no (fun _ _ _ _ => RC.no) (fun kk es mt => k kk es mt mx ms) (fun _ _ _ _ _ _ _ => RC.no) x) d
noncomputable def lookupB (P : Program) (t : TypeId) (ok : Bool) : Box (Value → Value → FH → (Value → RC) → RC) := match P.underlying t with
  | some (.map kt et) => match P.underlying kt, zeroT P et with
    | some kd, some z => fN (kdTag kd) fun kk => fV z fun z => bif ok then
        ⟨fun x key H k => mapK x fun r => mapsK H r fun kk' _ mt _ _ => bif Nat.beq kk kk' then codeK kk key fun c => mfindK c mt (mix c) (k (.tuple ⟨[z, .bool false]⟩)) (fun v => k (.tuple ⟨[v, .bool true]⟩)) else RC.no⟩
      else ⟨fun x key H k => mapK x fun r => mapsK H r fun kk' _ mt _ _ => bif Nat.beq kk kk' then codeK kk key fun c => mfindK c mt (mix c) (k z) k else RC.no⟩
    | _, _ => ⟨fun _ _ _ _ => RC.no⟩
  | _ => ⟨fun _ _ _ _ => RC.no⟩
noncomputable def updateB (P : Program) (t : TypeId) : Box (Value → Value → Value → FH → (FH → RC) → RC) := match P.underlying t with
  | some (.map kt _) => match P.underlying kt with
    | some kd => fN (kdTag kd) fun kk => ⟨fun x key v H k => mapK x fun r => scalK v fun _ => mapsK H r fun kk' es mt mx ms => bif Nat.beq kk kk' then codeK kk key fun c => minsK c v mt (mix c) fun mt => setNdK H r ⟨.map kk' (setA key v es) mt, mx, ms⟩ k else RC.no⟩
    | none => ⟨fun _ _ _ _ _ => RC.no⟩
  | _ => ⟨fun _ _ _ _ _ => RC.no⟩
noncomputable def makeMapB (P : Program) (t : TypeId) (r : Option Operand) : Box (FH → (Value → FH → RC) → RC) := match P.underlying t with
  | some (.map kt _) => match P.underlying kt with
    | some kd => bif r.all constInt && !Nat.beq (kdTag kd) 0 then fN (kdTag kd) fun kk => ⟨fun H k => pushK H (fun _ => ⟨.map kk [] .e, 0, []⟩) fun i H' => k (.map (some i)) H'⟩ else ⟨fun _ _ => RC.no⟩
    | none => ⟨fun _ _ => RC.no⟩
  | _ => ⟨fun _ _ => RC.no⟩
noncomputable def bytesK (l : List Value) (s : ByteArray) (k : Value → RC) : RC :=
  List.rec (motive := fun _ => ByteArray → RC) (fun s => fV (.string s) k) (fun v _ ih s => u8K v fun z => Int.rec (fun n => ih (s.push (UInt8.ofNat n))) (fun _ => RC.no) z) l s
noncomputable def convB (P : Program) (s d : TypeId) : Box (Value → FH → (Value → RC) → RC) := match P.underlying s, P.underlying d with
  | some (.slice e), some .string => match P.underlying e with
    | some (.int .u8) => ⟨fun x H k => readK H 1 x fun l _ => bytesK l .empty k⟩
    | _ => ⟨fun _ _ _ => RC.no⟩
  | _, _ => ⟨fun x H k => slowK P (.convert s d (.const x)) H k⟩
noncomputable def sliceB (P : Program) (t : TypeId) (lo hi : Bool) : Box (Value → Value → Value → (Value → RC) → RC) :=
  ⟨fun x l h k => match sliceExprA P t x (bif lo then some l else none) (bif hi then some h else none) with
    | some v => fV v k
    | none => RC.no⟩
noncomputable def copyB (P : Program) (t : TypeId) : Box (Value → Value → FH → (Value → FH → RC) → RC) := match sliceElem P t with
  | some (_, size) => fN size fun size => ⟨fun x y H k => sliceK x fun ad dn _ => sliceK y fun _ sn _ => fN (bif Nat.ble sn dn then sn else dn) fun m => bif Nat.beq m 0 then k (.int .i64 (.ofNat 0)) H else
      addrK RC.no RC.no ad fun b o => readK H size y fun cs _ => fN (Nat.mul m size) fun q => takeK q cs fun cs => writeK H b o q cs fun H' => k (.int .i64 (.ofNat m)) H'⟩
  | none => ⟨fun _ _ _ _ => RC.no⟩
noncomputable def lenB (P : Program) (t : TypeId) : Box (Value → (Value → RC) → RC) := match P.underlying t with
  | some (.slice _) => ⟨fun x k => sliceK x fun _ n _ => k (.int .i64 (.ofNat n))⟩
  | _ => ⟨fun x k => match lenA P t x with
    | some v => fV v k
    | none => RC.no⟩
noncomputable def builtB (P : Program) (b : Builtin) (ts : List TypeId) : Box (List Value → FH → (Value → FH → RC) → RC) := match b, ts with
  | .len, [t] => ⟨fun vs H k => List.rec RC.no (fun x r _ => List.rec ((lenB P t).run x fun v => k v H) (fun _ _ _ => RC.no) r) vs⟩
  | .append, [t, t'] => bif Nat.beq t t' then ⟨fun vs H k => List.rec RC.no (fun x r _ => List.rec RC.no (fun y r _ => List.rec ((appB P t).run x y H k) (fun _ _ _ => RC.no) r) r) vs⟩
    else ⟨fun vs H k => List.rec RC.no (fun x r _ => List.rec RC.no (fun y r _ => List.rec ((appIntB P t t').run x y H k) (fun _ _ _ => RC.no) r) r) vs⟩
  | .copy, [t, _] => ⟨fun vs H k => List.rec RC.no (fun x r _ => List.rec RC.no (fun y r _ => List.rec ((copyB P t).run x y H k) (fun _ _ _ => RC.no) r) r) vs⟩
  | .cap, [t] => ⟨fun vs H k => match vs with
    | [.slice none 0 0] => match sliceElem P t with
      | some _ => k (.int .i64 (.ofNat 0)) H
      | none => RC.no
    | _ => RC.no⟩
  | .min, [_, _] => ⟨fun vs H k => List.rec RC.no (fun x r _ => List.rec RC.no (fun y r _ => List.rec (intK x fun a => intK y fun b => bif bltZ b a then k y H else k x H) (fun _ _ _ => RC.no) r) r) vs⟩
  | .max, [_, _] => ⟨fun vs H k => List.rec RC.no (fun x r _ => List.rec RC.no (fun y r _ => List.rec (intK x fun a => intK y fun b => bif bltZ a b then k y H else k x H) (fun _ _ _ => RC.no) r) r) vs⟩
  | _, _ => ⟨fun _ _ _ => RC.no⟩
noncomputable def ptrsK (l : List Value) (k : RC) : RC := List.rec k (fun v _ ih => ptrK v fun _ _ => ih) l
noncomputable def cOp (P : Program) (L : Nat) (mp : Mpl) (n : Nat) (op : Op) : Box OpK := match op with
  | .call { callee := .value f, args, .. } => ⟨fun c E T H k => (opB L mp n f).run E T fun fv => (opsB L mp n args.toList).run E T fun vs => RC.rec (fun _ _ => RC.no) (fun _ _ _ => RC.no) (fun _ _ => RC.no) (fun v H' => k v H') RC.no RC.no (c.call fv vs H)⟩
  | .move x => ⟨fun _ E T H k => (opB L mp n x).run E T fun v => k v H⟩
  | .assign x => ⟨fun _ E T H k => (opB L mp n x).run E T fun v => k v H⟩
  | .pick c x y => ⟨fun _ E T H k => (opB L mp n c).run E T fun v => boolK v fun b => Bool.rec ((opB L mp n y).run E T fun v => k v H) ((opB L mp n x).run E T fun v => k v H) b⟩
  | .binOp op t x y t' => ⟨fun _ E T H k => (opB L mp n x).run E T fun a => (opB L mp n y).run E T fun b => (binB P op t t').run a b H fun v => k v H⟩
  | .unOp op t x => ⟨fun _ E T H k => (opB L mp n x).run E T fun a => slowK P (.unOp op t (.const a)) H fun v => k v H⟩
  | .index t x i => ⟨fun _ E T H k => (opB L mp n x).run E T fun a => (opB L mp n i).run E T fun b => slowK P (.index t (.const a) (.const b)) H fun v => k v H⟩
  | .convert s d x => ⟨fun _ E T H k => (opB L mp n x).run E T fun a => (convB P s d).run a H fun v => k v H⟩
  | .load t x => ⟨fun _ E T H k => (opB L mp n x).run E T fun p => (loadB P t).run p H fun v => k v H⟩
  | .store t x y => ⟨fun _ E T H k => (opB L mp n x).run E T fun p => (opB L mp n y).run E T fun v => (storeB P t).run p v H fun H' => k undef H'⟩
  | .indexAddr t x i => ⟨fun _ E T H k => (opB L mp n x).run E T fun x => (opB L mp n i).run E T fun i => (indexB P t).run x i fun v => k v H⟩
  | .fieldAddr t x i => ⟨fun _ E T H k => (opB L mp n x).run E T fun p => (fieldAddrB P t i).run p fun v => k v H⟩
  | .field t x i => ⟨fun _ E T H k => (opB L mp n x).run E T fun p => (fieldB P t i).run p fun v => k v H⟩
  | .extract x i => fN i fun i => ⟨fun _ E T H k => (opB L mp n x).run E T fun v => tupK v fun l => (egB i).run l fun v => k v H⟩
  | .nilCheck x => ⟨fun _ E T H k => (opB L mp n x).run E T fun v => ptrK v fun _ _ => k v H⟩
  | .alloc t => match zeroT P t with
    | some z => match scal z with
      | some cs => fSs cs fun cs => fN cs.length fun m => ⟨fun _ _ _ H k => newK H cs m fun i H' => k (.pointer (some ⟨i, 0, none⟩)) H'⟩
      | none => ⟨fun _ _ _ _ _ => RC.no⟩
    | none => ⟨fun _ _ _ _ _ => RC.no⟩
  | .box _ x => ⟨fun _ E T H k => (opB L mp n x).run E T fun v => scalK v fun cs => fN cs.length fun m => newK H cs m fun i H' => k (.pointer (some ⟨i, 0, none⟩)) H'⟩
  | .build t parts => ⟨fun _ E T H k => (opsB L mp n (parts.toList.map (·.2))).run E T fun vs => (buildB P t (parts.toList.map (·.1))).run vs fun v => k v H⟩
  | .buildSlice t len parts => ⟨fun _ E T H k => (opsB L mp n (parts.toList.map (·.2))).run E T fun vs => (buildSliceB P t len (parts.toList.map (·.1))).run vs H k⟩
  | .makeFunc (.func f) first captured => bif first.isEmpty then ⟨fun _ E T H k => (opsB L mp n captured.toList).run E T fun vs => ptrsK vs (k (.func (.func f) #[] ⟨vs⟩) H)⟩ else ⟨fun _ _ _ _ _ => RC.no⟩
  | .makeMap t r => ⟨fun _ _ _ H k => (makeMapB P t r).run H k⟩
  | .makeSlice t l c => ⟨fun _ E T H k => (opB L mp n l).run E T fun l => (opB L mp n c).run E T fun c => (makeSliceB P t).run l c H k⟩
  | .slice t x lo hi mx => bif mx.isSome then ⟨fun _ _ _ _ _ => RC.no⟩ else ⟨fun _ E T H k => (opB L mp n x).run E T fun x => (opB L mp n (lo.getD (.const undef))).run E T fun l => (opB L mp n (hi.getD (.const undef))).run E T fun h => (sliceB P t lo.isSome hi.isSome).run x l h fun v => k v H⟩
  | .lookup t x i ok => ⟨fun _ E T H k => (opB L mp n x).run E T fun x => (opB L mp n i).run E T fun i => (lookupB P t ok).run x i H fun v => k v H⟩
  | .mapUpdate t x i y => ⟨fun _ E T H k => (opB L mp n x).run E T fun x => (opB L mp n i).run E T fun i => (opB L mp n y).run E T fun v => (updateB P t).run x i v H fun H' => k undef H'⟩
  | .call { callee := .builtin b, args, argTypes } => ⟨fun _ E T H k => (opsB L mp n args.toList).run E T fun vs => (builtB P b argTypes.toList).run vs H k⟩
  | _ => ⟨fun _ _ _ _ _ => RC.no⟩
/-- What a result's slot is called for: the region's row, or the frame too. -/
def unslot (d : Nat) (mp : Mpl) : Mpl := mp.map fun p => match p.2 with
  | .slot s => bif Nat.beq s d then (p.1, .bad) else p
  | _ => p
noncomputable def putB (d : Nat) : Box (FT → Value → (FT → RC) → RC) := bif Nat.ble (d + 1) 262144 then s2B d else ⟨fun _ _ _ => RC.no⟩
def srcOf (L : Nat) (mp : Mpl) (x : Operand) : Option Lc := match x with
  | .tmp t => match lk mp t with
    | some l => some l
    | none => bif L.testBit t || !Nat.ble (t + 1) 262144 then none else some (.slot t)
  | .const v => some (.cst v)
  | .func f => some (.cst (.func (.func f) #[] #[]))
  | .global _ => none
/-- Behind an operation: where its result lies. -/
noncomputable def nextB (L : Nat) (mp : Mpl) (n : Nat) (dst : Option Nat) (rest : Mpl → Nat → Box (Ctx → Env → FT → FH → RC)) : Box (Ctx → Env → FT → FH → Value → RC) := match dst with
  | none => ⟨fun c E T H _ => (rest mp n).run c E T H⟩
  | some d => bif L.testBit d then ⟨fun c E T H v => (rest ((d, .env n) :: mp) (n + 1)).run c (v :: E) T H⟩
    else ⟨fun c E T H v => (putB d).run T v fun T' => (rest ((d, .env n) :: unslot d mp) (n + 1)).run c (v :: E) T' H⟩
/-- True, false, or no truth value. -/
noncomputable def truthK : Value → RC → RC → RC → RC := Value.rec (motive_1 := fun _ => RC → RC → RC → RC) (motive_2 := fun _ => RC → RC → RC → RC) (motive_3 := fun _ => RC → RC → RC → RC) (fun b y z _ => Bool.rec z y b) (fun _ _ _ _ o => o) (fun _ _ _ _ o => o) (fun _ _ _ _ _ o => o) (fun _ _ _ o => o) (fun _ _ _ o => o) (fun _ _ _ _ _ o => o) (fun _ _ _ o => o) (fun _ _ _ o => o) (fun _ _ _ _ _ _ _ o => o) (fun  _ _ o => o) (fun _ _ _ _ _ o => o) (fun  _ _ o => o) (fun _ _ _ _ o => o) (fun _ _ _ _ o => o) (fun _ _ _ _ o => o) (fun _ _ o => o) (fun _ _ _ _ _ _ o => o)
noncomputable def guardB (L : Nat) (mp : Mpl) (n : Nat) (ops : Array Oper) (j : Nat) (want : Bool) : Box (Env → FT → RC → RC → RC) := match (ops[j]?).bind (·.dst) with
  | some t => bif want then ⟨fun E T y z => (opB L mp n (.tmp t)).run E T fun v => truthK v y z z⟩ else ⟨fun E T y z => (opB L mp n (.tmp t)).run E T fun v => truthK v z y z⟩
  | none => ⟨fun _ _ _ z => z⟩
def moveOf (o : Oper) : Option (Nat × Operand) := match o.op, o.guard, o.dst with
  | .move x, none, some d => some (d, x)
  | _, _, _ => none
/-- May a temporary stand for its source? -/
def mayAlias (L : Nat) (d : Nat) (l : Lc) (rest : List Oper) : Bool := L.testBit d && match l with
  | .slot s => rest.all fun o => match o.dst with
    | some e => !Nat.beq e s
    | none => true
  | _ => true
noncomputable def stepB (P : Program) (L : Nat) (ops : Array Oper) (mp : Mpl) (n : Nat) (o : Oper) (rest : Mpl → Nat → Box (Ctx → Env → FT → FH → RC)) : Box (Ctx → Env → FT → FH → RC) := match o.guard with
  | none => ⟨fun c E T H => (cOp P L mp n o.op).run c E T H fun v H' => (nextB L mp n o.dst rest).run c E T H' v⟩
  | some (j, want) => ⟨fun c E T H => (guardB L mp n ops j want).run E T ((cOp P L mp n o.op).run c E T H fun v H' => (nextB L mp n o.dst rest).run c E T H' v) ((nextB L mp n o.dst rest).run c E T H undef)⟩
noncomputable def regB (P : Program) (L : Nat) (ops : Array Oper) (l : List Oper) : Mpl → Nat → Box (Ctx → Env → FT → FH → RC) :=
  List.rec (motive := fun _ => Mpl → Nat → Box (Ctx → Env → FT → FH → RC)) (fun _ _ => ⟨fun _ _ T H => .nx T H⟩)
    (fun o os ih mp n => match moveOf o with
      | some (d, x) => match srcOf L mp x with
        | some l => bif mayAlias L d l os then ih ((d, l) :: mp) n else stepB P L ops mp n o ih
        | none => ⟨fun _ _ _ _ => RC.no⟩
      | none => stepB P L ops mp n o ih) l
end Go.Abs
