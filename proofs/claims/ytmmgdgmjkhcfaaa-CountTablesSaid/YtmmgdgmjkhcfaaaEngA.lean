/- The abstract evaluator: Go code of the model run over a heap of lists (no capacities, no addresses of the world), as a plain function. Definitions only. -/
import Derived.Calls
namespace Go.Abs
/-- A block of the abstract heap. 'fam': blocks of one family may lie in one block of the world (append in place). 'own': made by the call itself, so it may be written. -/
inductive Blk where
  | dead
  | cells (fam : Nat) (own : Bool) (cs : List Value)
  | map (es : List (Value × Value))
  | loop (st : LoopState) (pend : Option Code) (nt : Nat) (tmps : Nat → Value) (params : List Nat) (assign body : Code)
abbrev Heap := List Blk
abbrev Fr := Nat → Value
def upd (a : Fr) (t : Nat) (v : Value) : Fr := fun i => if i = t then v else a i
def putA (a : Fr) (dst : Option Nat) (v : Value) : Fr := match dst with | some d => upd a d v | none => a
def ev (a : Fr) : Operand → Value
  | .tmp t => a t
  | .const v => v
  | .func f => .func (.func f) #[] #[]
  | .global _ => undef
def frOf : List Value → Fr
  | [] => fun _ => undef
  | v :: vs => fun i => match i with | 0 => v | i + 1 => frOf vs i

def Heap.cell (H : Heap) (b o : Nat) : Option Value :=
  match H[b]? with
  | some (.cells _ _ cs) => cs[o]?
  | _ => none
def Heap.cellsAt (H : Heap) (b o n : Nat) : Option (List Value) :=
  match H[b]? with
  | some (.cells _ _ cs) => if o + n ≤ cs.length then some ((cs.drop o).take n) else none
  | _ => none
/-- The longer kin of a family lose what lies from k on. -/
def truncFam (fam k : Nat) (blk : Blk) : Blk :=
  match blk with
  | .cells f own cs => if f = fam then .cells f own (cs.take k) else .cells f own cs
  | x => x
def setList : List Value → Nat → List Value → List Value
  | cs, _, [] => cs
  | cs, o, v :: vs => setList (cs.set o v) (o + 1) vs
/-- Cells written from o on in block b. -/
def Heap.write (H : Heap) (b o : Nat) (vs : List Value) : Option Heap :=
  match H[b]? with
  | some (.cells fam true cs) =>
    if o + vs.length ≤ cs.length then some ((H.map (truncFam fam o)).set b (.cells fam true (setList cs o vs))) else none
  | _ => none

/-- The cells of a value that a variable holds: a scalar's one, a struct's or array's own. -/
def scal : Value → Option (List Value)
  | .agg cs => some cs.toList
  | .tuple _ => none
  | v => some [v]
def plain : Value → Bool
  | .bool _ | .int _ _ | .string _ => true
  | _ => false
/-- A constant without an address. -/
def constOk : Value → Bool
  | .bool _ | .int _ _ | .string _ | .pointer none | .slice none 0 0 | .map none | .nilFunc | .nilIface => true
  | _ => false
def constAgg : Value → Bool
  | .agg cs => cs.toList.all constOk
  | v => constOk v
def sizeT (P : Program) (t : TypeId) : Option Nat := (P.info? t).map (·.size)
def bytesT (P : Program) (t : TypeId) : Option Nat := (P.info? t).map (·.bytes)
def zeroT (P : Program) (t : TypeId) : Option Value :=
  match P.info? t with
  | some i => match i.zero with
    | some z => if constAgg z then some z else none
    | none => none
  | none => none
def isAggT (P : Program) (t : TypeId) : Option Bool :=
  match P.underlying t with
  | some (.struct _) | some (.array _ _) => some true
  | some _ => some false
  | none => none
/-- A computation that only asks the program's tables. -/
def pureVal {α : Type} (P : Program) : Sem α → Option α
  | .pure a => some a
  | .program k => pureVal P (k P)
  | _ => none

def sizesOf (P : Program) : List Field → Option (List (Nat × Nat))
  | [] => some []
  | f :: fs => match sizeT P f.type, sizesOf P fs with
    | some s, some r => some ((f.offset, s) :: r)
    | _, _ => none
def fillL (place : Nat → Option (Nat × Nat)) : List Value → List (Nat × Value) → Option (List Value)
  | cs, [] => some cs
  | cs, (i, v) :: rest =>
    match place i, scal v with
    | some (off, size), some vc => if vc.length = size ∧ off + vc.length ≤ cs.length then fillL place (setList cs off vc) rest else none
    | _, _ => none
def buildA (P : Program) (t : TypeId) (parts : List (Nat × Value)) : Option Value :=
  match zeroT P t, P.underlying t with
  | some z, some (.struct fields) =>
    match sizesOf P fields.toList with
    | some places => match fillL (places[·]?) z.cells.toList parts with
      | some cells => some (.agg cells.toArray)
      | none => none
    | none => none
  | some z, some (.array _ elem) =>
    match sizeT P elem with
    | some size => match fillL (fun i => some (i * size, size)) z.cells.toList parts with
      | some cells => some (.agg cells.toArray)
      | none => none
    | none => none
  | _, _ => none
def sliceElem (P : Program) (t : TypeId) : Option (TypeId × Nat) :=
  match P.underlying t with
  | some (.slice e) => match sizeT P e with
    | some s => some (e, s)
    | none => none
  | _ => none
def repl : Nat → List Value → List Value
  | 0, _ => []
  | n + 1, z => z ++ repl n z
def zeros (P : Program) (e : TypeId) (size n : Nat) : Option (List Value) :=
  match zeroT P e with
  | some z => if z.cells.toList.length = size then some (repl n z.cells.toList) else none
  | none => none
def ptrA (b o : Nat) : Value := .pointer (some ⟨b, o, none⟩)
/-- A slice of the abstract heap; in the place of the capacity: the cells of an element. -/
def sliceA (b o n size : Nat) : Value := .slice (some ⟨b, o, none⟩) n size
def lostSlice : Value := .slice (some ⟨0, 0, some 0⟩) 0 0
def maxA : Nat := 1048576
def buildSliceA (P : Program) (t : TypeId) (len : Nat) (parts : List (Nat × Value)) (H : Heap) : Option (Value × Heap) :=
  match sliceElem P t with
  | some (e, size) =>
    if 0 < size ∧ len * size ≤ maxA then
      match zeros P e size len with
      | some z => match fillL (fun i => some (i * size, size)) z parts with
        | some cells => some (sliceA H.length 0 len size, H ++ [.cells H.length true cells])
        | none => none
      | none => none
    else none
  | none => none
def loadA (P : Program) (t : TypeId) (v : Value) (H : Heap) : Option Value :=
  match v with
  | .pointer (some ⟨b, o, none⟩) =>
    match isAggT P t with
    | some true => match sizeT P t with
      | some n => match H.cellsAt b o n with
        | some cs => some (.agg cs.toArray)
        | none => none
      | none => none
    | some false => H.cell b o
    | none => none
  | _ => none
def storeA (P : Program) (t : TypeId) (p v : Value) (H : Heap) : Option Heap :=
  match p, scal v, sizeT P t with
  | .pointer (some ⟨b, o, none⟩), some cs, some n => if cs.length = n then H.write b o cs else none
  | _, _, _ => none
def fieldAddrA (P : Program) (t : TypeId) (v : Value) (i : Nat) : Option Value :=
  match P.underlying t, v with
  | some (.struct fields), .pointer (some ⟨b, o, none⟩) =>
    match fields[i]? with
    | some f => match sizeT P f.type with
      | some (_ + 1) => some (ptrA b (o + f.offset))
      | _ => none
    | none => none
  | _, _ => none
def partA (P : Program) (t : TypeId) (cs : List Value) (off : Nat) : Option Value :=
  match isAggT P t with
  | some true => match sizeT P t with
    | some n => some (.agg ((cs.drop off).take n).toArray)
    | none => none
  | some false => cs[off]?
  | none => none
def fieldA (P : Program) (t : TypeId) (v : Value) (i : Nat) : Option Value :=
  match P.underlying t, v with
  | some (.struct fields), .agg cs =>
    match fields[i]? with
    | some f => partA P f.type cs.toList f.offset
    | none => none
  | _, _ => none
def indexAddrA (P : Program) (t : TypeId) (x i : Value) : Option Value :=
  match sliceElem P t, x, i with
  | some (_, size), .slice (some ⟨b, o, none⟩) n _, .int _ k => if 0 ≤ k ∧ k < n then some (ptrA b (o + k.toNat * size)) else none
  | _, _, _ => none
def boundA (v : Option Value) (dflt most : Nat) : Option Nat :=
  match v with
  | none => some dflt
  | some (.int _ k) => if 0 ≤ k ∧ k ≤ most then some k.toNat else none
  | some _ => none
def sliceExprA (P : Program) (t : TypeId) (x : Value) (lo hi : Option Value) : Option Value :=
  match x with
  | .slice none 0 0 =>
    match sliceElem P t, boundA hi 0 0 with
    | some _, some h => match boundA lo 0 h with
      | some _ => some (.slice none 0 0)
      | none => none
    | _, _ => none
  | .slice (some ⟨b, o, s⟩) n sz =>
    match sliceElem P t, boundA hi n n with
    | some (_, size), some h => match boundA lo 0 h with
      | some l => if l = 0 then some (.slice (some ⟨b, o, s⟩) h sz) else if l = h then some lostSlice else if s.isNone ∧ size = sz then some (sliceA b (o + l * size) (h - l) size) else none
      | none => none
    | _, _ => none
  | _ => none
/-- The cells that a slice reads as. -/
def readA (H : Heap) (size : Nat) (v : Value) : Option (List Value) :=
  match v with
  | .slice none 0 0 => some []
  | .slice (some ⟨b, o, none⟩) n _ => H.cellsAt b o (n * size)
  | .slice (some ⟨_, _, some _⟩) 0 _ => some []
  | _ => none
def appendA (P : Program) (t : TypeId) (s x : Value) (H : Heap) : Option (Value × Heap) :=
  match sliceElem P t with
  | some (el, size) =>
    if (bytesT P el).isSome ∧ (bytesT P el).getD 0 ≤ maxA ∧ (zeros P el size 1).isSome then
    match readA H size x, x with
    | some news, .slice _ k _ =>
      if k = 0 then (match s with | .slice _ _ _ => some (s, H) | _ => none) else
      match s with
      | .slice none 0 0 => if 0 < size ∧ k * size ≤ maxA then some (sliceA H.length 0 k size, H ++ [.cells H.length true news]) else none
      | .slice (some ⟨b, 0, none⟩) n sz =>
        match H[b]? with
        | some (.cells fam true cs) =>
          if sz = size ∧ 0 < size ∧ n * size ≤ cs.length ∧ (n + k) * size ≤ maxA then
            some (sliceA H.length 0 (n + k) size, H.map (truncFam fam (n * size)) ++ [.cells fam true (cs.take (n * size) ++ news)])
          else none
        | _ => none
      | _ => none
    | _, _ => none
    else none
  | none => none
def sameKey : Value → Value → Bool
  | .int k a, .int l b => k == l && a == b
  | .string a, .string b => a == b
  | .bool a, .bool b => a == b
  | _, _ => false
def keyKind : TypeDesc → Value → Bool
  | .int k, .int l _ => k == l
  | .string, .string _ => true
  | .bool, .bool _ => true
  | _, _ => false
def findA (k : Value) : List (Value × Value) → Option Value
  | [] => none
  | (k', v) :: es => if sameKey k k' then some v else findA k es
def setA (k v : Value) : List (Value × Value) → List (Value × Value)
  | [] => [(k, v)]
  | (k', v') :: es => if sameKey k k' then (k, v) :: es else (k', v') :: setA k v es
def lookupA (P : Program) (t : TypeId) (x k : Value) (ok : Bool) (H : Heap) : Option Value :=
  match P.underlying t with
  | some (.map kt et) =>
    match P.underlying kt, zeroT P et, x with
    | some kd, some z, .map (some r) =>
      match H[r]? with
      | some (.map es) =>
        if keyKind kd k ∧ es.all (fun e => keyKind kd e.1) then
          match findA k es with
          | some v => some (if ok then .tuple #[v, .bool true] else v)
          | none => some (if ok then .tuple #[z, .bool false] else z)
        else none
      | _ => none
    | _, _, _ => none
  | _ => none
def mapUpdateA (P : Program) (t : TypeId) (x k v : Value) (H : Heap) : Option Heap :=
  match P.underlying t with
  | some (.map kt _) =>
    match P.underlying kt, x, scal v with
    | some kd, .map (some r), some _ =>
      match H[r]? with
      | some (.map es) =>
        if keyKind kd k ∧ es.all (fun e => keyKind kd e.1) then some (H.set r (.map (setA k v es))) else none
      | _ => none
    | _, _, _ => none
  | _ => none
def isPtr : Value → Bool
  | .pointer (some ⟨_, _, none⟩) => true
  | _ => false
def valOf : Next → Option Value
  | .value v => some v
  | _ => none
/-- An operation of plain operands that asks no memory: the model's own answer. -/
def plainA (P : Program) (a : Fr) (o : Oper) : Option Value :=
  if o.op.operands.toList.all (fun x => plain (ev a x)) then
    match (pureVal P (execOp (ev a) o)).bind valOf with
    | some v => if plain v then some v else none
    | none => none
  else none
def nilCmp (P : Program) (t : TypeId) (x y : Value) : Option Bool :=
  match P.underlying t, x, y with
  | some (.slice _), .slice none 0 0, .slice b _ _ => some b.isNone
  | some (.slice _), .slice b _ _, .slice none 0 0 => some b.isNone
  | some (.map _ _), .map none, .map b => some b.isNone
  | some (.map _ _), .map b, .map none => some b.isNone
  | some (.pointer _), .pointer none, .pointer b => some b.isNone
  | some (.pointer _), .pointer b, .pointer none => some b.isNone
  | _, _, _ => none
def lenA (P : Program) (t : TypeId) (x : Value) : Option Value :=
  match P.underlying t, x with
  | some (.slice _), .slice _ n _ => some (goInt n)
  | some .string, .string s => some (goInt s.size)
  | _, _ => none
def copyA (P : Program) (t : TypeId) (x y : Value) (H : Heap) : Option (Value × Heap) :=
  match sliceElem P t, x, y with
  | some (_, size), .slice ad dn _, .slice _ sn _ =>
    if min sn dn = 0 then some (goInt 0, H) else
    match ad, readA H size y with
    | some ⟨b, o, none⟩, some cs => match H.write b o (cs.take (min sn dn * size)) with
      | some H' => some (goInt ((min sn dn : Nat) : Int), H')
      | none => none
    | _, _ => none
  | _, _, _ => none
/-- 'append(s, make([]E, k)...)' to a nil slice. -/
def appendIntA (P : Program) (t t' : TypeId) (s x : Value) (H : Heap) : Option (Value × Heap) :=
  match sliceElem P t, P.underlying t', s, x with
  | some (el, size), some (.int _), .slice none 0 0, .int .i64 k =>
    if 0 < k ∧ 0 < size ∧ k.toNat * size ≤ maxA ∧ (bytesT P el).isSome ∧ (bytesT P el).getD 0 ≤ maxA then
      match zeros P el size k.toNat with
      | some z => some (sliceA H.length 0 k.toNat size, H ++ [.cells H.length true z])
      | none => none
    else none
  | _, _, _, _ => none
def builtinA (P : Program) (a : Fr) (o : Oper) (b : Builtin) (args : List Value) (ts : List TypeId) (H : Heap) : Option (Value × Heap) :=
  match b, args, ts with
  | .len, [x], [t] => (lenA P t x).map (·, H)
  | .append, [s, x], [t, t'] => if t = t' then appendA P t s x H else appendIntA P t t' s x H
  | .copy, [x, y], [t, _] => copyA P t x y H
  | .cap, [.slice none 0 0], [t] => (sliceElem P t).map fun _ => (goInt 0, H)
  | .min, _, _ => (plainA P a o).map (·, H)
  | .max, _, _ => (plainA P a o).map (·, H)
  | _, _, _ => none
def bytesFrom : ByteArray → List Value → Option ByteArray
  | s, [] => some s
  | s, .int .u8 n :: r => bytesFrom (s.push (UInt8.ofNat n.toNat)) r
  | _, _ => none
/-- A text made of a list of bytes. -/
def textA (P : Program) (s d : TypeId) (x : Value) (H : Heap) : Option Value :=
  match x with
  | .slice _ _ _ =>
    match P.underlying s, P.underlying d with
    | some (.slice e), some .string =>
      match P.underlying e, readA H 1 x with
      | some (.int .u8), some cs => (bytesFrom .empty cs).map .string
      | _, _ => none
    | _, _ => none
  | _ => none
def constInt : Operand → Bool
  | .const (.int _ _) => true
  | _ => false
/-- One operation that is no call of a function value. -/
def aexec (P : Program) (a : Fr) (o : Oper) (H : Heap) : Option (Value × Heap) :=
  match o.op with
  | .move x | .assign x => some (ev a x, H)
  | .pick c x y => match ev a c with
    | .bool t => some (if t then ev a x else ev a y, H)
    | _ => none
  | .alloc t => match zeroT P t with
    | some z => match scal z with
      | some cs => some (ptrA H.length 0, H ++ [.cells H.length true cs])
      | none => none
    | none => none
  | .box _ x => match scal (ev a x) with
    | some cs => some (ptrA H.length 0, H ++ [.cells H.length true cs])
    | none => none
  | .build t parts => (buildA P t (parts.toList.map fun p => (p.1, ev a p.2))).map (·, H)
  | .buildSlice t len parts => buildSliceA P t len (parts.toList.map fun p => (p.1, ev a p.2)) H
  | .load t x => (loadA P t (ev a x) H).map (·, H)
  | .store t x y => (storeA P t (ev a x) (ev a y) H).map (undef, ·)
  | .nilCheck x => if isPtr (ev a x) then some (ev a x, H) else none
  | .binOp .eql t x y _ => match nilCmp P t (ev a x) (ev a y) with
    | some b => some (.bool b, H)
    | none => (plainA P a o).map (·, H)
  | .binOp .neq t x y _ => match nilCmp P t (ev a x) (ev a y) with
    | some b => some (.bool !b, H)
    | none => (plainA P a o).map (·, H)
  | .binOp _ _ _ _ _ => (plainA P a o).map (·, H)
  | .unOp _ _ _ => (plainA P a o).map (·, H)
  | .convert s d x => match textA P s d (ev a x) H with
    | some v => some (v, H)
    | none => (plainA P a o).map (·, H)
  | .makeFunc (.func f) first captured =>
    if first.isEmpty && (captured.toList.map (ev a)).all isPtr then some (.func (.func f) #[] (captured.map (ev a)), H) else none
  | .makeMap t r => match P.underlying t with
    | some (.map _ _) => if r.all constInt then some (.map (some H.length), H ++ [.map []]) else none
    | _ => none
  | .makeSlice t l c => match sliceElem P t, bytesT P ((sliceElem P t).getD (0, 0)).1, ev a l, ev a c with
    | some (e, size), some bytes, .int _ n, .int _ m =>
      if 0 ≤ n ∧ n ≤ m ∧ m ≤ 1048576 ∧ 0 < size ∧ bytes ≤ 1048576 then
        match zeros P e size n.toNat with
        | some z => some (sliceA H.length 0 n.toNat size, H ++ [.cells H.length true z])
        | none => none
      else none
    | _, _, _, _ => none
  | .slice t x lo hi mx => if mx.isSome then none else (sliceExprA P t (ev a x) (lo.map (ev a)) (hi.map (ev a))).map (·, H)
  | .fieldAddr t x i => (fieldAddrA P t (ev a x) i).map (·, H)
  | .field t x i => (fieldA P t (ev a x) i).map (·, H)
  | .indexAddr t x i => (indexAddrA P t (ev a x) (ev a i)).map (·, H)
  | .index _ _ _ => (plainA P a o).map (·, H)
  | .lookup t x k ok => (lookupA P t (ev a x) (ev a k) ok H).map (·, H)
  | .mapUpdate t x k v => (mapUpdateA P t (ev a x) (ev a k) (ev a v) H).map (undef, ·)
  | .extract x i => match ev a x with
    | .tuple vs => (vs[i]?).map (·, H)
    | _ => none
  | .call { callee := .builtin b, args, argTypes } => builtinA P a o b (args.toList.map (ev a)) argTypes.toList H
  | _ => none

abbrev CallF := Value → List Value → Heap → Option (Value × Heap)
def stepA (P : Program) (call : CallF) (a : Fr) (o : Oper) (H : Heap) : Option (Value × Heap) :=
  match o.op with
  | .call { callee := .value f, args, .. } => call (ev a f) (args.toList.map (ev a)) H
  | _ => aexec P a o H
def yieldedA (ops : Array Oper) (a : Fr) (j : Nat) : Option Bool :=
  match (ops[j]?).bind (·.dst) with
  | some t => match a t with
    | .bool b => some b
    | _ => none
  | none => none
def evOps (P : Program) (call : CallF) (ops : Array Oper) : List Oper → Fr → Heap → Option (Fr × Heap)
  | [], a, H => some (a, H)
  | o :: os, a, H =>
    if Region.wanted o (yieldedA ops a) then
      match stepA P call a o H with
      | some (v, H') => evOps P call ops os (putA a o.dst v) H'
      | none => none
    else evOps P call ops os (putA a o.dst undef) H
inductive Cls where
  | eff | all_ | read | pure_
  deriving DecidableEq
/-- What an operation does to memory. -/
def cls : Op → Cls
  | .call { callee := .builtin .len, .. } | .call { callee := .builtin .min, .. } | .call { callee := .builtin .max, .. } | .call { callee := .builtin .cap, .. } => .pure_
  | .call _ | .store _ _ _ | .mapUpdate _ _ _ _ => .eff
  | .alloc _ | .box _ _ | .buildSlice _ _ _ | .makeMap _ _ | .makeSlice _ _ _ => .all_
  | .load _ _ | .lookup _ _ _ _ | .convert _ _ _ => .read
  | _ => .pure_
/-- Equality of two scalars, of two structs of scalars. -/
def sEq : Value → Value → Bool
  | .bool a, .bool b => a == b
  | .int k a, .int l b => k == l && a == b
  | .string a, .string b => a == b
  | .pointer a, .pointer b => a == b
  | .slice a n c, .slice b m d => a == b && n == m && c == d
  | .map a, .map b => a == b
  | .nilFunc, .nilFunc => true
  | .nilIface, .nilIface => true
  | _, _ => false
def listEq : List Value → List Value → Bool
  | [], [] => true
  | a :: l, b :: m => sEq a b && listEq l m
  | _, _ => false
def vEq : Value → Value → Bool
  | .agg a, .agg b => listEq a.toList b.toList
  | .tuple a, .tuple b => listEq a.toList b.toList
  | a, b => sEq a b
def effs (ops : Array Oper) : List Nat := (List.range ops.size).filter fun i => cls (ops.getD i default).op == .eff
/-- The readers that wait: place, frame, operation, what it read. -/
abbrev Pend := List (Nat × Fr × Oper × Value)
def stillReads (P : Program) (H : Heap) (a : Fr) (o : Oper) (v : Value) : Bool :=
  match aexec P a o H with
  | some (v', _) => vEq v v'
  | none => false
/-- The heaps at which a reader behind the places 'm' may read: the newest first. -/
def window (m : Nat) : List (Option Nat × Heap) → List Heap
  | [] => []
  | (none, G) :: r => G :: window m r
  | (some e, G) :: r => if m.testBit e then [G] else G :: window m r
/-- A region that draws its order, run in the order of the text; what may happen at another time is asked to be the same then. 'starts': the heaps behind each effect, the newest first. -/
def evDraw (P : Program) (call : CallF) (ops : Array Oper) (bef : Array Nat) : List Nat → Fr → Heap → List (Option Nat × Heap) → Pend → Option (Fr × Heap)
  | [], a, H, _, _ => some (a, H)
  | j :: rest, a, H, starts, pend =>
    match ops[j]? with
    | none => none
    | some o =>
      if Region.wanted o (yieldedA ops a) then
        match cls o.op with
        | .eff =>
          match stepA P call a o H with
          | some (v, H') =>
            let pend' := pend.filter fun p => !(bef.getD j 0).testBit p.1
            if pend'.all fun p => stillReads P H' p.2.1 p.2.2.1 p.2.2.2 then evDraw P call ops bef rest (putA a o.dst v) H' ((some j, H') :: starts) pend' else none
          | none => none
        | .all_ =>
          match aexec P a o H with
          | some (v, H') => evDraw P call ops bef rest (putA a o.dst v) H' starts pend
          | none => none
        | .read =>
          match aexec P a o H with
          | some (v, _) =>
            if (window (bef.getD j 0) starts).all fun G => stillReads P G a o v then
              evDraw P call ops bef rest (putA a o.dst v) H starts ((j, a, o, v) :: pend)
            else none
          | none => none
        | .pure_ =>
          match aexec P a o H with
          | some (v, _) => evDraw P call ops bef rest (putA a o.dst v) H starts pend
          | none => none
      else evDraw P call ops bef rest (putA a o.dst undef) H starts pend

inductive X where
  | normal
  | exit (id : Nat)
  | ret
def loopN (f : Fr → Heap → Option (X × Fr × Heap)) : Nat → Fr → Heap → Option (X × Fr × Heap)
  | 0, _, _ => none
  | n + 1, a, H =>
    match f a H with
    | some (.normal, a', H') => loopN f n a' H'
    | r => r
def jumpX : Option Code → Option X
  | none => some .normal
  | some (.exit id) => some (.exit id)
  | some .ret => some .ret
  | _ => none
/-- Inside a round the round's own loop must be there. -/
def rdOk (H : Heap) : Option Nat → Bool
  | none => true
  | some l => match H[l]? with
    | some (.loop ..) => true
    | _ => false
def evCode (P : Program) (call : CallF) (k nt : Nat) (rd : Option Nat) : Code → Fr → Heap → Option (X × Fr × Heap)
  | .skip, a, H => some (.normal, a, H)
  | .label _, a, H => some (.normal, a, H)
  | .region _ ops false, a, H => match evOps P call ops ops.toList a H with
    | some (a', H') => some (.normal, a', H')
    | none => none
  | .region _ ops true, a, H => match evDraw P call ops (Region.before ops) (List.range ops.size) a H [(none, H)] [] with
    | some (a', H') => some (.normal, a', H')
    | none => none
  | .seq x y, a, H => match evCode P call k nt rd x a H with
    | some (.normal, a', H') => evCode P call k nt rd y a' H'
    | r => r
  | .cond c x y, a, H => match ev a c with
    | .bool true => evCode P call k nt rd x a H
    | .bool false => evCode P call k nt rd y a H
    | _ => none
  | .block id c, a, H => match evCode P call k nt rd c a H with
    | some (.exit i, a', H') => if i = id then some (.normal, a', H') else some (.exit i, a', H')
    | r => r
  | .loop c, a, H => loopN (evCode P call k nt rd c) k a H
  | .exit id, a, H => some (.exit id, a, H)
  | .ret, a, H => some (.ret, a, H)
  | .rangeFunc f params assign body, a, H =>
    if rdOk H rd then
    match call (ev a f) [.func (.yield H.length) #[] #[]] (H ++ [.loop .ready none nt a params.toList assign body]) with
    | some (_, H') => match H'[H.length]? with
      | some (.loop st pend _ _ _ _ _) => if st = .busy then none else match jumpX pend with
        | some x => some (x, a, H'.set H.length .dead)
        | none => none
      | _ => none
    | none => none
    else none
  | .scope _, _, _ => none
  | .goto _, _, _ => none
  | .refuse _, _, _ => none

/- What is asked of a function's text, once. -/
def opndOk (nt : Nat) : Operand → Bool
  | .tmp t => t < nt
  | .const v => constAgg v
  | .func _ => true
  | .global _ => false
def operOk (nt : Nat) (o : Oper) : Bool := o.op.operands.toList.all (opndOk nt) && (match o.dst with | some d => d < nt | none => true)
def namesOf (o : Oper) : List Nat := o.dst.toList ++ o.op.operands.toList.filterMap fun | .tmp t => some t | _ => none
def clash (x y : Oper) : Bool := (match x.dst with | some d => (namesOf y).contains d | none => false) || (match y.dst with | some d => (namesOf x).contains d | none => false)
def preds (o : Oper) : List Nat := (o.after.toList.filter (Region.binds .any)).map (·.on)
def pairs (n : Nat) : List (Nat × Nat) := (List.range n).flatMap fun j => (List.range j).map fun i => (i, j)
def drawOk (ops : Array Oper) (bef : Array Nat) (es : List Nat) : Bool :=
  ((List.range ops.size).all fun j => (preds (ops.getD j default)).all fun i => i < j) &&
  ((pairs ops.size).all fun (i, j) =>
    let x := ops.getD i default
    let y := ops.getD j default
    (!clash x y || (bef.getD j 0).testBit i) && (!(cls x.op == .eff && cls y.op == .eff) || (bef.getD j 0).testBit i)) &&
  ((pairs ops.size).all fun (i, j) => match (ops.getD i default).dst, (ops.getD j default).dst with | some d, some e => d != e | _, _ => true) &&
  ((List.range ops.size).all fun i => !(cls (ops.getD i default).op == .all_) || es.all fun e => !(decide (i < e)) || (bef.getD e 0).testBit i) &&
  ((List.range ops.size).all fun j => match (ops.getD j default).guard with | some (i, _) => i < j && (bef.getD j 0).testBit i && (ops.getD i default).dst.isSome | none => true)
def codeOk (nt : Nat) : Code → Bool
  | .region _ ops draw => ops.toList.all (operOk nt) && (!draw || drawOk ops (Region.before ops) (effs ops))
  | .seq x y => codeOk nt x && codeOk nt y
  | .cond c x y => opndOk nt c && codeOk nt x && codeOk nt y
  | .block _ c | .loop c | .scope c => codeOk nt c
  | .rangeFunc f params assign body => opndOk nt f && params.toList.all (· < nt) && codeOk nt assign && codeOk nt body
  | _ => true
def resOk (nt : Nat) : ResultVar → Bool
  | .tmp t => t < nt
  | .cell t _ => t < nt
def funcOk (fn : Func) (c : Code) : Bool := codeOk fn.ntmps c && fn.results.toList.all (resOk fn.ntmps) && fn.name != "runtime.NumGoroutine"
def resList (P : Program) (a : Fr) (H : Heap) : List ResultVar → Option (List Value)
  | [] => some []
  | .tmp t :: rs => match scal (a t) with
    | some _ => (resList P a H rs).map (a t :: ·)
    | none => none
  | .cell t ty :: rs => match loadA P ty (a t) H, resList P a H rs with
    | some v, some r => some (v :: r)
    | _, _ => none
def pack : List Value → Value
  | [v] => v
  | vs => .tuple vs.toArray
def putAll (a : Fr) : List Nat → List Value → Fr
  | t :: ts, v :: vs => putAll (upd a t v) ts vs
  | _, _ => a
/-- What a round that ends so leaves of its loop. -/
def xState : X → LoopState
  | .normal => .ready
  | _ => .done
def xJump : X → Option Code
  | .normal => none
  | .exit id => some (.exit id)
  | .ret => some .ret
def xBool : X → Bool
  | .normal => true
  | _ => false
def evApply (P : Program) : Nat → CallF
  | 0, _, _, _ => none
  | n + 1, fv, args, H =>
    match fv with
    | .func (.func f) first captured =>
      match P.funcs[f]? with
      | some fn => match fn.body with
        | some c =>
          if funcOk fn c ∧ first.isEmpty ∧ (args ++ captured.toList).length ≤ fn.ntmps then
            match evCode P (evApply P n) n fn.ntmps none c (frOf (args ++ captured.toList)) H with
            | some (.normal, a, H') => (resList P a H' fn.results.toList).map fun vs => (pack vs, H')
            | some (.ret, a, H') => (resList P a H' fn.results.toList).map fun vs => (pack vs, H')
            | _ => none
          else none
        | none => none
      | none => none
    | .func (.yield l) _ _ =>
      match H[l]? with
      | some (.loop .ready _ nt tmps params assign body) =>
        if args.length = params.length then
          match evCode P (evApply P n) n nt (some l) assign (putAll tmps params args) H with
          | some (.normal, a, H1) =>
            match H1[l]? with
            | some (.loop .ready p1 nt1 tm1 pr1 as1 bd1) =>
              match evCode P (evApply P n) n nt (some l) body a (H1.set l (.loop .busy p1 nt1 tm1 pr1 as1 bd1)) with
              | some (x, _, H2) =>
                match H2[l]? with
                | some (.loop _ _ nt2 tm2 pr2 as2 bd2) => some (.bool (xBool x), H2.set l (.loop (xState x) (xJump x) nt2 tm2 pr2 as2 bd2))
                | _ => none
              | none => none
            | _ => none
          | _ => none
        else none
      | _ => none
    | _ => none
end Go.Abs
