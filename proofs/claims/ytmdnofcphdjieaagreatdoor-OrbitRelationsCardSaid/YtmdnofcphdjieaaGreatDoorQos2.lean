/- Of the law: texts of its proof, joined (part 2). -/
import Derived.Laws.StructEq
import Derived.Calls
import Derived.Laws.Entries
import Derived.Below
set_option linter.all false
namespace Go.Abs
inductive Blk where
 | dead
 | cells (fam:Nat) (own:Bool) (cs:List Value)
 | map (es:List (Value×Value))
 | loop (st:LoopState) (pend:Option Code) (nt:Nat) (tmps:Nat→Value) (params:List Nat) (assign body:Code)
 | bld (el:TypeId) (hb:Option Nat) (n:Nat)
 | held (s:List UInt8)
abbrev Heap:=List Blk
abbrev Fr:=Nat→Value
def upd (a:Fr) (t:Nat) (v:Value):Fr:=fun i=>if i=t then v else a i
def putA (a:Fr) (dst:Option Nat) (v:Value):Fr:=match dst with | some d=>upd a d v | none=>a
def ev (a:Fr):Operand→Value
 | .tmp t=>a t
 | .const v=>v
 | .func f=>.func (.func f) #[] #[]
 | .global _=>undef
def frOf:List Value→Fr
 | []=>fun _=>undef
 | v::vs=>fun i=>match i with | 0=>v | i+1=>frOf vs i
def Heap.cell (H:Heap) (b o:Nat):Option Value :=
 match H[b]? with
 | some (.cells _ _ cs)=>cs[o]?
 | _=>none
def Heap.cellsAt (H:Heap) (b o n:Nat):Option (List Value) :=
 match H[b]? with
 | some (.cells _ _ cs)=>if o+n≤cs.length then some ((cs.drop o).take n) else none
 | _=>none
def truncFam (fam k:Nat) (blk:Blk):Blk :=
 match blk with
 | .cells f own cs=>if f=fam then .cells f own (cs.take k) else .cells f own cs
 | x=>x
def setList:List Value→Nat→List Value→List Value
 | cs,_,[]=>cs
 | cs,o,v::vs=>setList (cs.set o v) (o+1) vs
def Heap.write (H:Heap) (b o:Nat) (vs:List Value):Option Heap :=
 match H[b]? with
 | some (.cells fam true cs) =>
   if o+vs.length≤cs.length then some ((H.map (truncFam fam o)).set b (.cells fam true (setList cs o vs))) else none
 | _=>none
def scal:Value→Option (List Value)
 | .agg cs=>some cs.toList
 | .tuple _=>none
 | v=>some [v]
def plain:Value→Bool
 | .bool _ | .int _ _ | .string _=>true
 | _=>false
def constOk:Value→Bool
 | .bool _ | .int _ _ | .string _ | .pointer none | .slice none 0 0 | .map none | .nilFunc | .nilIface=>true
 | _=>false
def constAgg:Value→Bool
 | .agg cs=>cs.toList.all constOk
 | v=>constOk v
def sizeT (P:Program) (t:TypeId):Option Nat:=(P.info? t).map (·.size)
def bytesT (P:Program) (t:TypeId):Option Nat:=(P.info? t).map (·.bytes)
def zeroT (P:Program) (t:TypeId):Option Value :=
 match P.info? t with
 | some i=>match i.zero with
   | some z=>if constAgg z then some z else none
   | none=>none
 | none=>none
def isAggT (P:Program) (t:TypeId):Option Bool :=
 match P.underlying t with
 | some (.struct _) | some (.array _ _)=>some true
 | some _=>some false
 | none=>none
def pureVal {α:Type} (P:Program):Sem α→Option α
 | .pure a=>some a
 | .program k=>pureVal P (k P)
 | _=>none
def sizesOf (P:Program):List Field→Option (List (Nat×Nat))
 | []=>some []
 | f::fs=>match sizeT P f.type,sizesOf P fs with
   | some s,some r=>some ((f.offset,s)::r)
   | _,_=>none
def fillL (place:Nat→Option (Nat×Nat)):List Value→List (Nat×Value)→Option (List Value)
 | cs,[]=>some cs
 | cs,(i,v)::rest =>
   match place i,scal v with
   | some (off,size),some vc=>if vc.length=size∧off+vc.length≤cs.length then fillL place (setList cs off vc) rest else none
   | _,_=>none
def buildA (P:Program) (t:TypeId) (parts:List (Nat×Value)):Option Value :=
 match zeroT P t,P.underlying t with
 | some z,some (.struct fields) =>
   match sizesOf P fields.toList with
   | some places=>match fillL (places[·]?) z.cells.toList parts with
     | some cells=>some (.agg cells.toArray)
     | none=>none
   | none=>none
 | some z,some (.array _ elem) =>
   match sizeT P elem with
   | some size=>match fillL (fun i=>some (i*size,size)) z.cells.toList parts with
     | some cells=>some (.agg cells.toArray)
     | none=>none
   | none=>none
 | _,_=>none
def sliceElem (P:Program) (t:TypeId):Option (TypeId×Nat) :=
 match P.underlying t with
 | some (.slice e)=>match sizeT P e with
   | some s=>some (e,s)
   | none=>none
 | _=>none
def repl:Nat→List Value→List Value
 | 0,_=>[]
 | n+1,z=>z++repl n z
def zeros (P:Program) (e:TypeId) (size n:Nat):Option (List Value) :=
 match zeroT P e with
 | some z=>if z.cells.toList.length=size then some (repl n z.cells.toList) else none
 | none=>none
def ptrA (b o:Nat):Value:=.pointer (some ⟨b,o,none⟩)
def sliceA (b o n size:Nat):Value:=.slice (some ⟨b,o,none⟩) n size
def lostSlice:Value:=.slice (some ⟨0,0,some 0⟩) 0 0
def maxA:Nat:=4194304
def buildSliceA (P:Program) (t:TypeId) (len:Nat) (parts:List (Nat×Value)) (H:Heap):Option (Value×Heap) :=
 match sliceElem P t with
 | some (e,size) =>
   if 0 < size∧len*size≤maxA then
    match zeros P e size len with
    | some z=>match fillL (fun i=>some (i*size,size)) z parts with
      | some cells=>some (sliceA H.length 0 len size,H++[.cells H.length true cells])
      | none=>none
    | none=>none
   else none
 | none=>none
def loadA (P:Program) (t:TypeId) (v:Value) (H:Heap):Option Value :=
 match v with
 | .pointer (some ⟨b,o,none⟩) =>
   match isAggT P t with
   | some true=>match sizeT P t with
     | some n=>match H.cellsAt b o n with
       | some cs=>some (.agg cs.toArray)
       | none=>none
     | none=>none
   | some false=>H.cell b o
   | none=>none
 | _=>none
def storeA (P:Program) (t:TypeId) (p v:Value) (H:Heap):Option Heap :=
 match p,scal v,sizeT P t with
 | .pointer (some ⟨b,o,none⟩),some cs,some n=>if cs.length=n then H.write b o cs else none
 | _,_,_=>none
def fieldAddrA (P:Program) (t:TypeId) (v:Value) (i:Nat):Option Value :=
 match P.underlying t,v with
 | some (.struct fields),.pointer (some ⟨b,o,none⟩) =>
   match fields[i]? with
   | some f=>match sizeT P f.type with
     | some (_+1)=>some (ptrA b (o+f.offset))
     | _=>none
   | none=>none
 | _,_=>none
def partA (P:Program) (t:TypeId) (cs:List Value) (off:Nat):Option Value :=
 match isAggT P t with
 | some true=>match sizeT P t with
   | some n=>some (.agg ((cs.drop off).take n).toArray)
   | none=>none
 | some false=>cs[off]?
 | none=>none
def fieldA (P:Program) (t:TypeId) (v:Value) (i:Nat):Option Value :=
 match P.underlying t,v with
 | some (.struct fields),.agg cs =>
   match fields[i]? with
   | some f=>partA P f.type cs.toList f.offset
   | none=>none
 | _,_=>none
def indexA (P:Program) (t:TypeId) (x i:Value):Option Value :=
 match P.underlying t,x,i with
 | some (.array len elem),.agg cs,.int _ k=>if 0≤k∧k < len then (match sizeT P elem with
   | some s=>partA P elem cs.toList (k.toNat*s)
   | none=>none) else none
 | _,_,_=>none
def indexAddrA (P:Program) (t:TypeId) (x i:Value):Option Value :=
 match sliceElem P t,x,i with
 | some (_,size),.slice (some ⟨b,o,none⟩) n _,.int _ k=>if 0≤k∧k < n then some (ptrA b (o+k.toNat*size)) else none
 | none,.pointer (some ⟨b,o,none⟩),.int _ k=>match P.underlying t with
   | some (.array len elem)=>match sizeT P elem with
     | some s=>if 0≤k∧k < len then some (ptrA b (o+k.toNat*s)) else none
     | none=>none
   | _=>none
 | _,_,_=>none
def boundA (v:Option Value) (dflt most:Nat):Option Nat :=
 match v with
 | none=>some dflt
 | some (.int _ k)=>if 0≤k∧k≤most then some k.toNat else none
 | some _=>none
def sliceExprA (P:Program) (t:TypeId) (x:Value) (lo hi:Option Value):Option Value :=
 match x with
 | .slice none 0 0 =>
   match sliceElem P t,boundA hi 0 0 with
   | some _,some h=>match boundA lo 0 h with
     | some _=>some (.slice none 0 0)
     | none=>none
   | _,_=>none
 | .slice (some ⟨b,o,s⟩) n sz =>
   match sliceElem P t,boundA hi n n with
   | some (_,size),some h=>match boundA lo 0 h with
     | some l=>if l=0 then some (.slice (some ⟨b,o,s⟩) h sz) else if l=h then some lostSlice else if s.isNone∧size=sz then some (sliceA b (o+l*size) (h - l) size) else none
     | none=>none
   | _,_=>none
 | .string s =>
   match P.underlying t,boundA hi s.size s.size with
   | some .string,some h=>match boundA lo 0 h with
     | some l=>some (.string (s.extract l h))
     | none=>none
   | _,_=>none
 | _=>none
def readA (H:Heap) (size:Nat) (v:Value):Option (List Value) :=
 match v with
 | .slice none 0 0=>some []
 | .slice (some ⟨b,o,none⟩) n _=>H.cellsAt b o (n*size)
 | .slice (some ⟨_,_,some _⟩) 0 _=>some []
 | _=>none
def dropFam (fam:Nat) (blk:Blk):Blk :=
 match blk with
 | .cells f true cs=>if f=fam then .dead else .cells f true cs
 | x=>x
def rebaseA (s x:Value) (H:Heap):Option (Value×Heap) :=
 match s with
 | .slice (some ⟨b,o+1,none⟩) n sz=>match x with
   | .slice (some ⟨bx,_,none⟩) (_+1) _=>match H[b]? with
     | some (.cells fam true cs)=>if bx < H.length∧0 < sz∧o+1+n*sz≤cs.length then some (sliceA H.length 0 n sz,H.map (dropFam fam)++[.cells H.length true ((cs.drop (o+1)).take (n*sz))]) else none
     | _=>none
   | _=>none
 | _=>none
def appendA (P:Program) (t:TypeId) (s x:Value) (H:Heap):Option (Value×Heap) :=
 match sliceElem P t with
 | some (el,size) =>
   if (bytesT P el).isSome∧(bytesT P el).getD 0≤maxA∧(zeros P el size 1).isSome then
   match readA H size x,x with
   | some news,.slice _ k _ =>
     if k=0 then (match s with | .slice _ _ _=>some (s,H) | _=>none) else
     match s with
     | .slice none 0 0=>if 0 < size∧k*size≤maxA then some (sliceA H.length 0 k size,H++[.cells H.length true news]) else none
     | .slice (some ⟨b,0,none⟩) n sz =>
       match H[b]? with
       | some (.cells fam true cs) =>
         if sz=size∧0 < size∧n*size≤cs.length∧(n+k)*size≤maxA then
          some (sliceA H.length 0 (n+k) size,H.map (truncFam fam (n*size))++[.cells fam true (cs.take (n*size)++news)])
         else none
       | _=>none
     | _=>none
   | _,_=>none
   else none
 | none=>none
def appendX (P:Program) (t:TypeId) (s x:Value) (H:Heap):Option (Value×Heap) :=
 match rebaseA s x H with
 | some (s1,H1)=>appendA P t s1 x H1
 | none=>appendA P t s x H
theorem qi1 {P:Program} {t:TypeId} {s x:Value} {H:Heap} (h:rebaseA s x H=none):appendX P t s x H=appendA P t s x H:=by
 unfold appendX
 rw [h]
def sameKey:Value→Value→Bool
 | .int k a,.int l b=>k == l && a == b
 | .string a,.string b=>a == b
 | .bool a,.bool b=>a == b
 | _,_=>false
def keyKind:TypeDesc→Value→Bool
 | .int k,.int l _=>k == l
 | .string,.string _=>true
 | .bool,.bool _=>true
 | _,_=>false
def findA (k:Value):List (Value×Value)→Option Value
 | []=>none
 | (k',v)::es=>if sameKey k k' then some v else findA k es
def setA (k v:Value):List (Value×Value)→List (Value×Value)
 | []=>[(k,v)]
 | (k',v')::es=>if sameKey k k' then (k,v)::es else (k',v')::setA k v es
def lookupA (P:Program) (t:TypeId) (x k:Value) (ok:Bool) (H:Heap):Option Value :=
 match P.underlying t with
 | some (.map kt et) =>
   match P.underlying kt,zeroT P et,x with
   | some kd,some z,.map (some r) =>
     match H[r]? with
     | some (.map es) =>
       if keyKind kd k∧es.all (fun e=>keyKind kd e.1) then
        match findA k es with
        | some v=>some (if ok then .tuple #[v,.bool true] else v)
        | none=>some (if ok then .tuple #[z,.bool false] else z)
       else none
     | _=>none
   | _,_,_=>none
 | _=>none
def mapUpdateA (P:Program) (t:TypeId) (x k v:Value) (H:Heap):Option Heap :=
 match P.underlying t with
 | some (.map kt _) =>
   match P.underlying kt,x,scal v with
   | some kd,.map (some r),some _ =>
     match H[r]? with
     | some (.map es) =>
       if keyKind kd k∧es.all (fun e=>keyKind kd e.1) then some (H.set r (.map (setA k v es))) else none
     | _=>none
   | _,_,_=>none
 | _=>none
def isPtr:Value→Bool
 | .pointer (some ⟨_,_,none⟩)=>true
 | _=>false
def valOf:Next→Option Value
 | .value v=>some v
 | _=>none
def plainA (P:Program) (a:Fr) (o:Oper):Option Value :=
 if o.op.operands.toList.all (fun x=>plain (ev a x)) then
  match (pureVal P (execOp (ev a) o)).bind valOf with
  | some v=>if plain v then some v else none
  | none=>none
 else none
def nilCmp0 (P:Program) (t:TypeId) (x y:Value):Option Bool :=
 match P.underlying t,x,y with
 | some (.slice _),.slice none 0 0,.slice b _ _=>some b.isNone
 | some (.slice _),.slice b _ _,.slice none 0 0=>some b.isNone
 | some (.map _ _),.map none,.map b=>some b.isNone
 | some (.map _ _),.map b,.map none=>some b.isNone
 | some (.pointer _),.pointer none,.pointer b=>some b.isNone
 | some (.pointer _),.pointer b,.pointer none=>some b.isNone
 | _,_,_=>none
def eqFieldsA (P:Program) (xs ys:List Value):List Field→Option Bool
 | []=>some true
 | f::fs=>if f.name ≠ "_" then match P.underlying f.type,partA P f.type xs f.offset,partA P f.type ys f.offset with
     | some (.int _),some (.int k a),some (.int l b)=>if k=l then (if a=b then eqFieldsA P xs ys fs else some false) else none
     | _,_,_=>none
   else eqFieldsA P xs ys fs
def structEqA (P:Program) (t:TypeId) (x y:Value):Option Bool :=
 match P.underlying t,x,y with
 | some (.struct fs),.agg xs,.agg ys=>if P.stoodInHeld t=false∧P.eqGuardType P.depth t=false then eqFieldsA P xs.toList ys.toList fs.toList else none
 | _,_,_=>none
def nilCmp (P:Program) (t:TypeId) (x y:Value):Option Bool:=match nilCmp0 P t x y with
 | some b=>some b
 | none=>structEqA P t x y
def lenA (P:Program) (t:TypeId) (x:Value):Option Value :=
 match P.underlying t,x with
 | some (.slice _),.slice _ n _=>some (goInt n)
 | some .string,.string s=>some (goInt s.size)
 | _,_=>none
def copyA (P:Program) (t:TypeId) (x y:Value) (H:Heap):Option (Value×Heap) :=
 match sliceElem P t,x,y with
 | some (_,size),.slice ad dn _,.slice _ sn _ =>
   if min sn dn=0 then some (goInt 0,H) else
   match ad,readA H size y with
   | some ⟨b,o,none⟩,some cs=>match H.write b o (cs.take (min sn dn*size)) with
     | some H'=>some (goInt ((min sn dn:Nat):Int),H')
     | none=>none
   | _,_=>none
 | _,_,_=>none
def appendIntA (P:Program) (t t':TypeId) (s x:Value) (H:Heap):Option (Value×Heap) :=
 match sliceElem P t,P.underlying t',s,x with
 | some (el,size),some (.int _),.slice none 0 0,.int .i64 k =>
   if 0 < k∧0 < size∧k.toNat*size≤maxA∧(bytesT P el).isSome∧(bytesT P el).getD 0≤maxA then
    match zeros P el size k.toNat with
    | some z=>some (sliceA H.length 0 k.toNat size,H++[.cells H.length true z])
    | none=>none
   else none
 | _,_,_,_=>none
def builtinA (P:Program) (a:Fr) (o:Oper) (b:Builtin) (args:List Value) (ts:List TypeId) (H:Heap):Option (Value×Heap) :=
 match b,args,ts with
 | .len,[x],[t]=>(lenA P t x).map (·,H)
 | .append,[s,x],[t,t']=>if t=t' then appendX P t s x H else appendIntA P t t' s x H
 | .copy,[x,y],[t,_]=>copyA P t x y H
 | .cap,[.slice none 0 0],[t]=>(sliceElem P t).map fun _=>(goInt 0,H)
 | .min,_,_=>(plainA P a o).map (·,H)
 | .max,_,_=>(plainA P a o).map (·,H)
 | _,_,_=>none
def bytesFrom:ByteArray→List Value→Option ByteArray
 | s,[]=>some s
 | s,.int .u8 n::r=>bytesFrom (s.push (UInt8.ofNat n.toNat)) r
 | _,_=>none
def textA (P:Program) (s d:TypeId) (x:Value) (H:Heap):Option Value :=
 match x with
 | .slice _ _ _ =>
   match P.underlying s,P.underlying d with
   | some (.slice e),some .string =>
     match P.underlying e,readA H 1 x with
     | some (.int .u8),some cs=>(bytesFrom .empty cs).map .string
     | _,_=>none
   | _,_=>none
 | _=>none
def constInt:Operand→Bool
 | .const (.int _ _)=>true
 | _=>false
def bldZ:List Value→Bool
 | [.pointer none,.slice none 0 0]=>true
 | _=>false
def aexec (P:Program) (a:Fr) (o:Oper) (H:Heap):Option (Value×Heap) :=
 match o.op with
 | .move x | .assign x=>some (ev a x,H)
 | .pick c x y=>match ev a c with
   | .bool t=>some (if t then ev a x else ev a y,H)
   | _=>none
 | .alloc t=>match zeroT P t with
   | some z=>match scal z with
     | some cs=>some (ptrA H.length 0,H++[if bldZ cs then .bld t none 0 else .cells H.length true cs])
     | none=>none
   | none=>none
 | .box _ x=>match scal (ev a x) with
   | some cs=>some (ptrA H.length 0,H++[.cells H.length true cs])
   | none=>none
 | .build t parts=>(buildA P t (parts.toList.map fun p=>(p.1,ev a p.2))).map (·,H)
 | .buildSlice t len parts=>buildSliceA P t len (parts.toList.map fun p=>(p.1,ev a p.2)) H
 | .load t x=>(loadA P t (ev a x) H).map (·,H)
 | .store t x y=>(storeA P t (ev a x) (ev a y) H).map (undef,·)
 | .nilCheck x=>if isPtr (ev a x) then some (ev a x,H) else none
 | .binOp .eql t x y _=>match nilCmp P t (ev a x) (ev a y) with
   | some b=>some (.bool b,H)
   | none=>(plainA P a o).map (·,H)
 | .binOp .neq t x y _=>match nilCmp P t (ev a x) (ev a y) with
   | some b=>some (.bool !b,H)
   | none=>(plainA P a o).map (·,H)
 | .binOp _ _ _ _ _=>(plainA P a o).map (·,H)
 | .unOp _ _ _=>(plainA P a o).map (·,H)
 | .convert s d x=>match textA P s d (ev a x) H with
   | some v=>some (v,H)
   | none=>(plainA P a o).map (·,H)
 | .makeFunc (.func f) first captured =>
   if first.isEmpty && (captured.toList.map (ev a)).all isPtr then some (.func (.func f) #[] (captured.map (ev a)),H) else none
 | .makeMap t r=>match P.underlying t with
   | some (.map _ _)=>if r.all constInt then some (.map (some H.length),H++[.map []]) else none
   | _=>none
 | .makeSlice t l c=>match sliceElem P t,bytesT P ((sliceElem P t).getD (0,0)).1,ev a l,ev a c with
   | some (e,size),some bytes,.int _ n,.int _ m =>
     if 0≤n∧n≤m∧m≤1048576∧0 < size∧bytes≤1048576 then
      match zeros P e size n.toNat with
      | some z=>some (sliceA H.length 0 n.toNat size,H++[.cells H.length true z])
      | none=>none
     else none
   | _,_,_,_=>none
 | .slice t x lo hi mx=>if mx.isSome then none else (sliceExprA P t (ev a x) (lo.map (ev a)) (hi.map (ev a))).map (·,H)
 | .fieldAddr t x i=>(fieldAddrA P t (ev a x) i).map (·,H)
 | .field t x i=>(fieldA P t (ev a x) i).map (·,H)
 | .indexAddr t x i=>(indexAddrA P t (ev a x) (ev a i)).map (·,H)
 | .index t x i=>match indexA P t (ev a x) (ev a i) with
   | some r=>some (r,H)
   | none=>(plainA P a o).map (·,H)
 | .lookup t x k ok=>(lookupA P t (ev a x) (ev a k) ok H).map (·,H)
 | .mapUpdate t x k v=>(mapUpdateA P t (ev a x) (ev a k) (ev a v) H).map (undef,·)
 | .insert t x k v=>(mapUpdateA P t (ev a x) (ev a k) (ev a v) H).map (undef,·)
 | .extract x i=>match ev a x with
   | .tuple vs=>(vs[i]?).map (·,H)
   | _=>none
 | .call { callee:=.builtin b,args,argTypes }=>builtinA P a o b (args.toList.map (ev a)) argTypes.toList H
 | _=>none
abbrev CallF:=Value→List Value→Heap→Option (Value×Heap)
def stepA (P:Program) (call:CallF) (a:Fr) (o:Oper) (H:Heap):Option (Value×Heap) :=
 match o.op with
 | .call { callee:=.value f,args,.. }=>call (ev a f) (args.toList.map (ev a)) H
 | _=>aexec P a o H
def yieldedA (ops:Array Oper) (a:Fr) (j:Nat):Option Bool :=
 match (ops[j]?).bind (·.dst) with
 | some t=>match a t with
   | .bool b=>some b
   | _=>none
 | none=>none
def evOps (P:Program) (call:CallF) (ops:Array Oper):List Oper→Fr→Heap→Option (Fr×Heap)
 | [],a,H=>some (a,H)
 | o::os,a,H =>
   if Region.wanted o (yieldedA ops a) then
    match stepA P call a o H with
    | some (v,H')=>evOps P call ops os (putA a o.dst v) H'
    | none=>none
   else evOps P call ops os (putA a o.dst undef) H
inductive Cls where
 | eff | all_ | read | pure_
 deriving DecidableEq
def cls:Op→Cls
 | .call { callee:=.builtin .len,.. } | .call { callee:=.builtin .min,.. } | .call { callee:=.builtin .max,.. } | .call { callee:=.builtin .cap,.. }=>.pure_
 | .call _ | .store _ _ _ | .mapUpdate _ _ _ _ | .insert _ _ _ _=>.eff
 | .alloc _ | .box _ _ | .buildSlice _ _ _ | .makeMap _ _ | .makeSlice _ _ _=>.all_
 | .load _ _ | .lookup _ _ _ _ | .convert _ _ _=>.read
 | _=>.pure_
def fnEq:Fn→Fn→Bool
 | .func a,.func b=>a == b
 | .yield a,.yield b=>a == b
 | _,_=>false
def ptrsOf:List Value→Option (List Addr)
 | []=>some []
 | .pointer (some a)::l=>(ptrsOf l).map (a::·)
 | _=>none
def sEq:Value→Value→Bool
 | .bool a,.bool b=>a == b
 | .int k a,.int l b=>k == l && a == b
 | .string a,.string b=>a == b
 | .pointer a,.pointer b=>a == b
 | .slice a n c,.slice b m d=>a == b && n == m && c == d
 | .map a,.map b=>a == b
 | .func a x c,.func b y d=>fnEq a b && x.isEmpty && y.isEmpty && (match ptrsOf c.toList,ptrsOf d.toList with
   | some p,some q=>p == q
   | _,_=>false)
 | .nilFunc,.nilFunc=>true
 | .nilIface,.nilIface=>true
 | _,_=>false
def listEq:List Value→List Value→Bool
 | [],[]=>true
 | a::l,b::m=>sEq a b && listEq l m
 | _,_=>false
def vEq:Value→Value→Bool
 | .agg a,.agg b=>listEq a.toList b.toList
 | .tuple a,.tuple b=>listEq a.toList b.toList
 | a,b=>sEq a b
def effs (ops:Array Oper):List Nat:=(List.range ops.size).filter fun i=>cls (ops.getD i default).op == .eff
abbrev Pend:=List (Nat×Fr×Oper×Value)
def stillReads (P:Program) (H:Heap) (a:Fr) (o:Oper) (v:Value):Bool :=
 match aexec P a o H with
 | some (v',_)=>vEq v v'
 | none=>false
def window (m:Nat):List (Option Nat×Heap)→List Heap
 | []=>[]
 | (none,G)::r=>G::window m r
 | (some e,G)::r=>if m.testBit e then [G] else G::window m r
def evDraw (P:Program) (call:CallF) (ops:Array Oper) (bef:Array Nat):List Nat→Fr→Heap→List (Option Nat×Heap)→Pend→Option (Fr×Heap)
 | [],a,H,_,_=>some (a,H)
 | j::rest,a,H,starts,pend =>
   match ops[j]? with
   | none=>none
   | some o =>
     if Region.wanted o (yieldedA ops a) then
      match cls o.op with
      | .eff =>
        match stepA P call a o H with
        | some (v,H') =>
          let pend':=pend.filter fun p=>!(bef.getD j 0).testBit p.1
          if pend'.all fun p=>stillReads P H' p.2.1 p.2.2.1 p.2.2.2 then evDraw P call ops bef rest (putA a o.dst v) H' ((some j,H')::starts) pend' else none
        | none=>none
      | .all_ =>
        match aexec P a o H with
        | some (v,H')=>evDraw P call ops bef rest (putA a o.dst v) H' starts pend
        | none=>none
      | .read =>
        match aexec P a o H with
        | some (v,_) =>
          if (window (bef.getD j 0) starts).all fun G=>stillReads P G a o v then
           evDraw P call ops bef rest (putA a o.dst v) H starts ((j,a,o,v)::pend)
          else none
        | none=>none
      | .pure_ =>
        match aexec P a o H with
        | some (v,_)=>evDraw P call ops bef rest (putA a o.dst v) H starts pend
        | none=>none
     else evDraw P call ops bef rest (putA a o.dst undef) H starts pend
inductive X where
 | normal
 | exit (id:Nat)
 | ret
def loopN (f:Fr→Heap→Option (X×Fr×Heap)):Nat→Fr→Heap→Option (X×Fr×Heap)
 | 0,_,_=>none
 | n+1,a,H =>
   match f a H with
   | some (.normal,a',H')=>loopN f n a' H'
   | r=>r
def jumpX:Option Code→Option X
 | none=>some .normal
 | some (.exit id)=>some (.exit id)
 | some .ret=>some .ret
 | _=>none
def rdOk (H:Heap):Option Nat→Bool
 | none=>true
 | some l=>match H[l]? with
   | some (.loop ..)=>true
   | _=>false
def evCode (P:Program) (call:CallF) (k nt:Nat) (rd:Option Nat):Code→Fr→Heap→Option (X×Fr×Heap)
 | .skip,a,H=>some (.normal,a,H)
 | .label _,a,H=>some (.normal,a,H)
 | .region _ ops false,a,H=>match evOps P call ops ops.toList a H with
   | some (a',H')=>some (.normal,a',H')
   | none=>none
 | .region _ ops true,a,H=>match evDraw P call ops (Region.before ops) (List.range ops.size) a H [(none,H)] [] with
   | some (a',H')=>some (.normal,a',H')
   | none=>none
 | .seq x y,a,H=>match evCode P call k nt rd x a H with
   | some (.normal,a',H')=>evCode P call k nt rd y a' H'
   | r=>r
 | .cond c x y,a,H=>match ev a c with
   | .bool true=>evCode P call k nt rd x a H
   | .bool false=>evCode P call k nt rd y a H
   | _=>none
 | .block id c,a,H=>match evCode P call k nt rd c a H with
   | some (.exit i,a',H')=>if i=id then some (.normal,a',H') else some (.exit i,a',H')
   | r=>r
 | .loop c,a,H=>loopN (evCode P call k nt rd c) k a H
 | .exit id,a,H=>some (.exit id,a,H)
 | .ret,a,H=>some (.ret,a,H)
 | .rangeFunc f params assign body,a,H =>
   if rdOk H rd then
   match call (ev a f) [.func (.yield H.length) #[] #[]] (H++[.loop .ready none nt a params.toList assign body]) with
   | some (_,H')=>match H'[H.length]? with
     | some (.loop st pend _ _ _ _ _)=>if st = .busy then none else match jumpX pend with
       | some x=>some (x,a,H'.set H.length .dead)
       | none=>none
     | _=>none
   | none=>none
   else none
 | .scope _,_,_=>none
 | .goto _,_,_=>none
 | .refuse _,_,_=>none
def opndOk (nt:Nat):Operand→Bool
 | .tmp t=>t < nt
 | .const v=>constAgg v
 | .func _=>true
 | .global _=>false
def operOk (nt:Nat) (o:Oper):Bool:=o.op.operands.toList.all (opndOk nt) && (match o.dst with | some d=>d < nt | none=>true)
def namesOf (o:Oper):List Nat:=o.dst.toList++o.op.operands.toList.filterMap fun | .tmp t=>some t | _=>none
def clash (x y:Oper):Bool:=(match x.dst with | some d=>(namesOf y).contains d | none=>false) || (match y.dst with | some d=>(namesOf x).contains d | none=>false)
def preds (o:Oper):List Nat:=(o.after.toList.filter (Region.binds .any)).map (·.on)
def pairs (n:Nat):List (Nat×Nat):=(List.range n).flatMap fun j=>(List.range j).map fun i=>(i,j)
def drawOk (ops:Array Oper) (bef:Array Nat) (es:List Nat):Bool :=
 ((List.range ops.size).all fun j=>(preds (ops.getD j default)).all fun i=>i < j) &&
 ((pairs ops.size).all fun (i,j) =>
   let x:=ops.getD i default
   let y:=ops.getD j default
   (!clash x y || (bef.getD j 0).testBit i) && (!(cls x.op == .eff && cls y.op == .eff) || (bef.getD j 0).testBit i)) &&
 ((pairs ops.size).all fun (i,j)=>match (ops.getD i default).dst,(ops.getD j default).dst with | some d,some e=>d != e | _,_=>true) &&
 ((List.range ops.size).all fun i=>!(cls (ops.getD i default).op == .all_) || es.all fun e=>!(decide (i < e)) || (bef.getD e 0).testBit i) &&
 ((List.range ops.size).all fun j=>match (ops.getD j default).guard with | some (i,_)=>i < j && (bef.getD j 0).testBit i && (ops.getD i default).dst.isSome | none=>true)
def codeOk (nt:Nat):Code→Bool
 | .region _ ops draw=>ops.toList.all (operOk nt) && (!draw || drawOk ops (Region.before ops) (effs ops))
 | .seq x y=>codeOk nt x && codeOk nt y
 | .cond c x y=>opndOk nt c && codeOk nt x && codeOk nt y
 | .block _ c | .loop c | .scope c=>codeOk nt c
 | .rangeFunc f params assign body=>opndOk nt f && params.toList.all (· < nt) && codeOk nt assign && codeOk nt body
 | _=>true
def resOk (nt:Nat):ResultVar→Bool
 | .tmp t=>t < nt
 | .cell t _=>t < nt
def funcOk (fn:Func) (c:Code):Bool:=codeOk fn.ntmps c && fn.results.toList.all (resOk fn.ntmps) && fn.name != "runtime.NumGoroutine"
def resList (P:Program) (a:Fr) (H:Heap):List ResultVar→Option (List Value)
 | []=>some []
 | .tmp t::rs=>match scal (a t) with
   | some _=>(resList P a H rs).map (a t::·)
   | none=>none
 | .cell t ty::rs=>match loadA P ty (a t) H,resList P a H rs with
   | some v,some r=>some (v::r)
   | _,_=>none
def pack:List Value→Value
 | [v]=>v
 | vs=>.tuple vs.toArray
def putAll (a:Fr):List Nat→List Value→Fr
 | t::ts,v::vs=>putAll (upd a t v) ts vs
 | _,_=>a
def xState:X→LoopState
 | .normal=>.ready
 | _=>.done
def xJump:X→Option Code
 | .normal=>none
 | .exit id=>some (.exit id)
 | .ret=>some .ret
def xBool:X→Bool
 | .normal=>true
 | _=>false
end Go.Abs
namespace Go.Abs
inductive All2 {α β:Type} (R:α→β→Prop):List α→List β→Prop
 | nil:All2 R [] []
 | cons {x y l l'}:R x y→All2 R l l'→All2 R (x::l) (y::l')
section
variable {α β:Type} {R S:α→β→Prop}
theorem All2.mono {l:List α} {l':List β} (h:All2 R l l') (f:∀ x y,R x y→S x y):All2 S l l':=by
 induction h with
 | nil=>exact .nil
 | cons h _ ih=>exact .cons (f _ _ h) ih
theorem All2.length {l:List α} {l':List β} (h:All2 R l l'):l.length=l'.length:=by
 induction h with
 | nil=>rfl
 | cons _ _ ih=>simp [ih]
theorem All2.get {l:List α} {l':List β} (h:All2 R l l'):∀ (i:Nat) (x:α),l[i]?=some x→∃ y,l'[i]?=some y∧R x y:=by
 induction h with
 | nil=>intro i x hx;simp at hx
 | cons h _ ih =>
   intro i x hx
   cases i with
   | zero=>simp at hx;subst hx;exact ⟨_,by simp,h⟩
   | succ i=>simp at hx;simpa using ih i x hx
theorem All2.getR {l:List α} {l':List β} (h:All2 R l l'):∀ (i:Nat) (y:β),l'[i]?=some y→∃ x,l[i]?=some x∧R x y:=by
 induction h with
 | nil=>intro i y hy;simp at hy
 | cons hxy _ ih =>
   intro i y hy
   cases i with
   | zero=>simp at hy;subst hy;exact ⟨_,rfl,hxy⟩
   | succ i=>simpa using ih i y (by simpa using hy)
theorem All2.append {l m:List α} {l' m':List β} (h:All2 R l l') (k:All2 R m m'):All2 R (l++m) (l'++m'):=by
 induction h with
 | nil=>exact k
 | cons h _ ih=>exact .cons h ih
theorem All2.take {l:List α} {l':List β} (h:All2 R l l'):∀ n,All2 R (l.take n) (l'.take n):=by
 induction h with
 | nil=>intro n;simp;exact .nil
 | cons h _ ih =>
   intro n
   cases n with
   | zero=>simp;exact .nil
   | succ n=>simp;exact .cons h (ih n)
theorem All2.drop {l:List α} {l':List β} (h:All2 R l l'):∀ n,All2 R (l.drop n) (l'.drop n):=by
 induction h with
 | nil=>intro n;simp;exact .nil
 | cons h t ih =>
   intro n
   cases n with
   | zero=>simp;exact .cons h t
   | succ n=>simp;exact ih n
theorem All2.set {l:List α} {l':List β} (h:All2 R l l') {x:α} {y:β} (hxy:R x y):∀ n,All2 R (l.set n x) (l'.set n y):=by
 induction h with
 | nil=>intro n;simp;exact .nil
 | cons h t ih =>
   intro n
   cases n with
   | zero=>simp;exact .cons hxy t
   | succ n=>simp;exact .cons h (ih n)
theorem All2.of_get {l:List α}:∀ {l':List β},l.length=l'.length→(∀ (i:Nat) x y,l[i]?=some x→l'[i]?=some y→R x y)→All2 R l l':=by
 induction l with
 | nil=>intro l' hl _;cases l' with | nil=>exact .nil | cons _ _=>simp at hl
 | cons x l ih =>
   intro l' hl h
   cases l' with
   | nil=>simp at hl
   | cons y l' =>
     refine .cons (h 0 x y (by simp) (by simp)) (ih (by simpa using hl) fun i a b ha hb=>h (i+1) a b (by simpa using ha) (by simpa using hb))
theorem All2.map_same {γ:Type} {R:β→β→Prop} {f g:γ→β} (l:List γ) (h:∀ x∈l,R (f x) (g x)):All2 R (l.map f) (l.map g):=by
 induction l with
 | nil=>exact .nil
 | cons x l ih=>exact .cons (h x (by simp)) (ih fun y hy=>h y (by simp [hy]))
end
structure Loc where
 g:Nat
 o:Nat
 N:Nat
abbrev Mp:=Nat→Option Loc
def psh (m:Mp) (n:Nat) (l:Loc):Mp:=fun b=>if b=n then some l else m b
theorem qcq (m:Mp) (n:Nat) (l:Loc):psh m n l n=some l:=by simp [psh]
theorem qci {m:Mp} {n b:Nat} (l:Loc) (h:b≠n):psh m n l b=m b:=by simp [psh,h]
inductive PR (m:Mp):Value→Value→Prop
 | ptr (b o:Nat) (l:Loc):m b=some l→PR m (.pointer (some ⟨b,o,none⟩)) (.pointer (some ⟨l.g,l.o+o,none⟩))
inductive SR (m:Mp):Value→Value→Prop
 | bool (b:Bool):SR m (.bool b) (.bool b)
 | int (k:IntKind) (n:Int):SR m (.int k n) (.int k n)
 | string (s:ByteArray):SR m (.string s) (.string s)
 | ptrNil:SR m (.pointer none) (.pointer none)
 | sliceNil:SR m (.slice none 0 0) (.slice none 0 0)
 | mapNil:SR m (.map none) (.map none)
 | nilFunc:SR m .nilFunc .nilFunc
 | nilIface:SR m .nilIface .nilIface
 | ptr (b o:Nat) (l:Loc):m b=some l→SR m (.pointer (some ⟨b,o,none⟩)) (.pointer (some ⟨l.g,l.o+o,none⟩))
 | slice (b o n e c:Nat) (l:Loc):m b=some l→n≤c→l.o+o+c*e≤l.N→SR m (.slice (some ⟨b,o,none⟩) n e) (.slice (some ⟨l.g,l.o+o,none⟩) n c)
 | lost (p:Nat) (c:Nat) (g:Addr) (c':Nat):SR m (.slice (some ⟨0,0,some p⟩) 0 c) (.slice (some g) 0 c')
 | map (b:Nat) (l:Loc):m b=some l→SR m (.map (some b)) (.map (some l.g))
 | func (f:Nat) (cap cap':Array Value):All2 (PR m) cap.toList cap'.toList→SR m (.func (.func f) #[] cap) (.func (.func f) #[] cap')
 | yield (b:Nat) (l:Loc):m b=some l→SR m (.func (.yield b) #[] #[]) (.func (.yield l.g) #[] #[])
inductive AR (m:Mp):Value→Value→Prop
 | s {v v'}:SR m v v'→AR m v v'
 | agg {cs cs':Array Value}:All2 (SR m) cs.toList cs'.toList→AR m (.agg cs) (.agg cs')
inductive VR (m:Mp):Value→Value→Prop
 | a {v v'}:AR m v v'→VR m v v'
 | tuple {vs vs':Array Value}:All2 (AR m) vs.toList vs'.toList→VR m (.tuple vs) (.tuple vs')
theorem VR.undef (m:Mp):VR m undef undef:=.tuple .nil
def Ext (m m':Mp):Prop:=∀ (b:Nat) (l:Loc),m b=some l→m' b=some l
theorem Ext.refl (m:Mp):Ext m m:=fun _ _ h=>h
theorem Ext.trans {a b c:Mp} (h:Ext a b) (k:Ext b c):Ext a c:=fun i l hi=>k i l (h i l hi)
theorem Ext.push {m:Mp} {n:Nat} (l:Loc) (hn:m n=none):Ext m (psh m n l):=fun b x h=>by
 rw [qci l (fun e=>by subst e;rw [hn] at h;cases h)];exact h
section
variable {m m':Mp} (hm:Ext m m')
include hm
theorem PR.mono {v v':Value} (h:PR m v v'):PR m' v v':=by
 cases h with
 | ptr b o l hl=>exact .ptr b o l (hm _ _ hl)
theorem SR.mono {v v':Value} (h:SR m v v'):SR m' v v':=by
 cases h with
 | bool b=>exact .bool b
 | int k n=>exact .int k n
 | string s=>exact .string s
 | ptrNil=>exact .ptrNil
 | sliceNil=>exact .sliceNil
 | mapNil=>exact .mapNil
 | nilFunc=>exact .nilFunc
 | nilIface=>exact .nilIface
 | ptr b o l hl=>exact .ptr b o l (hm _ _ hl)
 | slice b o n e c l hl h1 h2=>exact .slice b o n e c l (hm _ _ hl) h1 h2
 | lost p c g c'=>exact .lost p c g c'
 | map b l hl=>exact .map b l (hm _ _ hl)
 | func f c c' h=>exact .func f c c' (h.mono fun _ _=>PR.mono hm)
 | yield b l hl=>exact .yield b l (hm _ _ hl)
theorem AR.mono {v v':Value} (h:AR m v v'):AR m' v v':=by
 cases h with
 | s h=>exact .s (h.mono hm)
 | agg h=>exact .agg (h.mono fun _ _=>SR.mono hm)
theorem VR.mono {v v':Value} (h:VR m v v'):VR m' v v':=by
 cases h with
 | a h=>exact .a (h.mono hm)
 | tuple h=>exact .tuple (h.mono fun _ _=>AR.mono hm)
end
theorem SR.plain {m:Mp} {v v':Value} (hp:Abs.plain v=true) (h:SR m v v'):v'=v:=by
 cases h<;>first | rfl | simp [Abs.plain] at hp
theorem VR.plain {m:Mp} {v v':Value} (hp:Abs.plain v=true) (h:VR m v v'):v'=v:=by
 cases h with
 | a h=>cases h with
   | s h=>exact h.plain hp
   | agg h=>simp [Abs.plain] at hp
 | tuple h=>simp [Abs.plain] at hp
theorem VR.of_plain (m:Mp) {v:Value} (hp:Abs.plain v=true):VR m v v:=by
 cases v<;>first | exact .a (.s (.bool _)) | exact .a (.s (.int _ _)) | exact .a (.s (.string _)) | simp [Abs.plain] at hp
theorem SR.of_const (m:Mp) {v:Value} (h:constOk v=true):SR m v v:=by
 unfold constOk at h
 split at h<;>first | constructor | cases h
theorem AR.of_const (m:Mp) {v:Value} (h:constAgg v=true):AR m v v:=by
 unfold constAgg at h
 split at h
 ·rename_i cs
  refine .agg ?_
  have:=All2.map_same (R:=SR m) (f:=id) (g:=id) cs.toList (fun x hx=>SR.of_const m (List.all_eq_true.1 h x hx))
  simpa using this
 ·exact .s (.of_const m h)
def Blk.owned:Blk→Bool
 | .dead=>false
 | .cells _ own _=>own
 | .map _=>true
 | .loop ..=>true
 | .bld ..=>true
 | .held _=>true
def Blk.live:Blk→Bool
 | .dead=>false
 | _=>true
def Blk.kin:Blk→Blk→Prop
 | .cells f true _,.cells g true _=>f=g
 | _,_=>False
def FR (m:Mp) (nt:Nat) (a:Fr) (tmps:Array Value):Prop:=tmps.size=nt∧∀ t,t < nt→∃ v',tmps[t]?=some v'∧VR m (a t) v'
def BornOk (es:Array MapEntry) (ck:Nat):Prop:=(∀ x∈es.toList,x.born < ck)∧(es.toList.map (·.born)).Nodup
def BldV (m:Mp):Option Nat→Nat→Value→Prop
 | none,n,v=>v = .slice none 0 0∧n=0
 | some k,n,v=>∃ kl:Loc,m k=some kl∧v = .slice (some ⟨kl.g,0,none⟩) n kl.N∧n≤kl.N∧kl.N≤maxLen
theorem BldV.mono {m m':Mp} (hm:∀ (b:Nat) (l:Loc),m b=some l→m' b=some l) {hb:Option Nat} {n:Nat} {v:Value} (h:BldV m hb n v):BldV m' hb n v:=by
 cases hb with
 | none=>exact h
 | some k=>obtain ⟨kl,h1,h2⟩:=h;exact ⟨kl,hm _ _ h1,h2⟩
def BR (m:Mp) (w:World) (l:Loc):Blk→Prop
 | .dead=>True
 | .cells _ own cs=>∃ C el fr,w.heap[l.g]?=some (.cells C el fr)∧C.size=l.N∧(own=true→fr=(0,0))∧∀ i v,cs[i]?=some v→∃ v',C[l.o+i]?=some v'∧SR m v v'
 | .map es=>∃ es' ck,w.heap[l.g]?=some (.map es' ck)∧All2 (fun (e:Value×Value) (e':MapEntry)=>e'.key=e.1∧AR m e.2 e'.val) es es'.toList∧BornOk es' ck
 | .loop st pend nt tmps params assign body=>∃ fn ds tmps',w.heap[l.g]?=some (.loop { state:=st,pending:=pend,fn:=fn,tmps:=tmps',params:=params.toArray,assign:=assign,body:=body,defers:=ds }) ∧
  FR m nt tmps tmps'∧codeOk nt assign=true∧codeOk nt body=true∧params.all (· < nt)=true
 | .bld el hb n=>l.o=0∧∃ p v,w.heap[l.g]?=some (.cells #[p,v] el (0,0))∧(p = .pointer none∨p = .pointer (some ⟨l.g,0,none⟩))∧BldV m hb n v
 | .held s=>∃ cur fz,w.heap[l.g]?=some (.cells cur 5 fz)∧fz.2≤s.length∧cur.size=l.N∧cur.toList.take s.length=s.map fun b=>.int .u8 b.toNat
structure Rel (m:Mp) (H:Heap) (w:World):Prop where
 len:∀ b l,m b=some l→b < H.length
 has:∀ (b:Nat) x,H[b]?=some x→x.live=true→∃ l,m b=some l
 bnd:∀ b l,m b=some l→l.g < w.heap.size
 blk:∀ (b:Nat) x l,H[b]?=some x→m b=some l→BR m w l x
 sep:∀ (b c:Nat) x y l k,b≠c→H[b]?=some x→H[c]?=some y→m b=some l→m c=some k→x.owned=true→y.live=true→l.g=k.g→x.kin y∧l.o=k.o
def Owned (m:Mp) (H:Heap) (g:Nat):Prop:=∃ (b:Nat) (x:Blk) (l:Loc),H[b]?=some x∧m b=some l∧x.owned=true∧l.g=g
structure Keep (m:Mp) (H:Heap) (w w':World):Prop where
 os:w'.os=w.os
 tape:w'.tape=w.tape
 output:w'.output=w.output
 size:w.heap.size≤w'.heap.size
 block:∀ g,g < w.heap.size→¬ Owned m H g→w'.heap[g]?=w.heap[g]?
structure Sim (m:Mp) (H:Heap) (w:World) (m':Mp) (H':Heap) (w':World):Prop where
 ext:Ext m m'
 rel:Rel m' H' w'
 keep:Keep m H w w'
 fresh:∀ g,Owned m' H' g→Owned m H g∨w.heap.size≤g
 grow:H.length≤H'.length
 img:∀ b l,m' b=some l→(∃ c k,m c=some k∧k.g=l.g)∨w.heap.size≤l.g
theorem Keep.refl (m:Mp) (H:Heap) (w:World):Keep m H w w:=⟨rfl,rfl,rfl,Nat.le_refl _,fun _ _ _=>rfl⟩
theorem Sim.refl {m:Mp} {H:Heap} {w:World} (h:Rel m H w):Sim m H w m H w:=⟨.refl m,h,.refl m H w,fun _ h=>.inl h,Nat.le_refl _,fun b l h=>.inl ⟨b,l,h,rfl⟩⟩
theorem Sim.trans {m1 m2 m3:Mp} {H1 H2 H3:Heap} {w1 w2 w3:World} (h:Sim m1 H1 w1 m2 H2 w2) (k:Sim m2 H2 w2 m3 H3 w3):Sim m1 H1 w1 m3 H3 w3 where
 ext:=h.ext.trans k.ext
 rel:=k.rel
 keep:=⟨k.keep.os.trans h.keep.os,k.keep.tape.trans h.keep.tape,k.keep.output.trans h.keep.output,Nat.le_trans h.keep.size k.keep.size,fun g hg hn =>
  (k.keep.block g (Nat.lt_of_lt_of_le hg h.keep.size) fun ho=>by
   rcases h.fresh g ho with ho | ho
   ·exact hn ho
   ·omega).trans (h.keep.block g hg hn)⟩
 fresh:=fun g ho=>by
  rcases k.fresh g ho with ho | ho
  ·exact h.fresh g ho
  ·exact .inr (Nat.le_trans h.keep.size ho)
 grow:=Nat.le_trans h.grow k.grow
 img:=fun b l hb=>by
  rcases k.img b l hb with ⟨c,j,hc,hj⟩ | hg
  ·rcases h.img c j hc with ⟨d,i,hd,hi⟩ | hg
   ·exact .inl ⟨d,i,hd,hi.trans hj⟩
   ·exact .inr (by omega)
  ·exact .inr (Nat.le_trans h.keep.size hg)
theorem qa9 {α:Type} {l:List α} {i:Nat} {x:α} (h:l[i]?=some x):i < l.length:=by
 rcases Nat.lt_or_ge i l.length with hlt | hge
 ·exact hlt
 ·rw [List.getElem?_eq_none hge] at h;cases h
theorem Rel.free {m:Mp} {H:Heap} {w:World} (h:Rel m H w):m H.length=none:=by
 cases hm:m H.length with
 | none=>rfl
 | some l=>exact absurd (h.len _ _ hm) (Nat.lt_irrefl _)
theorem FR.mono {m m':Mp} (hm:Ext m m') {nt:Nat} {a:Fr} {tmps:Array Value} (h:FR m nt a tmps):FR m' nt a tmps :=
 ⟨h.1,fun t ht=>let ⟨v',h1,h2⟩:=h.2 t ht;⟨v',h1,h2.mono hm⟩⟩
theorem BR.lt {m:Mp} {w:World} {l:Loc} {x:Blk} (h:BR m w l x) (hl:x.live=true):l.g < w.heap.size:=by
 have:∀ o,w.heap[l.g]?=some o→l.g < w.heap.size:=fun o ho=>by
  rcases Nat.lt_or_ge l.g w.heap.size with hlt | hge
  ·exact hlt
  ·rw [Array.getElem?_eq_none hge] at ho;cases ho
 cases x with
 | dead=>cases hl
 | cells f own cs=>obtain ⟨C,el,fr,h,_⟩:=h;exact this _ h
 | map es=>obtain ⟨es',ck,h,_⟩:=h;exact this _ h
 | loop st pend nt tmps params assign body=>obtain ⟨fn,ds,tmps',h,_⟩:=h;exact this _ h
 | bld el hb n=>obtain ⟨_,p,v,h,_⟩:=h;exact this _ h
 | held s=>obtain ⟨cur,fz,h,_⟩:=h;exact this _ h
theorem BR.keep {m m':Mp} (hm:Ext m m') {w w':World} {l:Loc} {x:Blk} (h:BR m w l x) (hw:x.live=true→w'.heap[l.g]?=w.heap[l.g]?):BR m' w' l x:=by
 cases x with
 | dead=>trivial
 | cells f own cs =>
   obtain ⟨C,el,fr,h1,h2,h3,h4⟩:=h
   exact ⟨C,el,fr,(hw rfl).trans h1,h2,h3,fun i v hv=>let ⟨v',a,b⟩:=h4 i v hv;⟨v',a,b.mono hm⟩⟩
 | map es =>
   obtain ⟨es',ck,h1,h2,h3⟩:=h
   exact ⟨es',ck,(hw rfl).trans h1,h2.mono (fun _ _ h=>⟨h.1,h.2.mono hm⟩),h3⟩
 | loop st pend nt tmps params assign body =>
   obtain ⟨fn,ds,tmps',h1,h2,h3⟩:=h
   exact ⟨fn,ds,tmps',(hw rfl).trans h1,h2.mono hm,h3⟩
 | bld el hb n =>
   obtain ⟨h0,p,v,h1,h2,h3⟩:=h
   exact ⟨h0,p,v,(hw rfl).trans h1,h2,h3.mono hm⟩
 | held s =>
   obtain ⟨cur,fz,h1,h2⟩:=h
   exact ⟨cur,fz,(hw rfl).trans h1,h2⟩
theorem Rel.world {m:Mp} {H:Heap} {w w':World} (h:Rel m H w) (hw:∀ g,g < w.heap.size→w'.heap[g]?=w.heap[g]?):Rel m H w' where
 len:=h.len
 has:=h.has
 bnd:=fun b l hb=>by
  have h1:=h.bnd b l hb
  have h2:=hw _ h1
  rw [Array.getElem?_eq_getElem h1] at h2
  rcases Nat.lt_or_ge l.g w'.heap.size with hlt | hge
  ·exact hlt
  ·rw [Array.getElem?_eq_none hge] at h2;cases h2
 blk:=fun b x l hx hl=>(h.blk b x l hx hl).keep (.refl m) fun hlive=>hw _ ((h.blk b x l hx hl).lt hlive)
 sep:=h.sep
theorem qdo (w:World) (o:Obj) {g:Nat} (hg:g < w.heap.size):(w.heap.push o)[g]?=w.heap[g]? := by
 rw [Array.getElem?_push,if_neg (by omega)]
theorem qd0 (w:World) (o:Obj):(w.heap.push o)[w.heap.size]?=some o:=by
 rw [Array.getElem?_push,if_pos rfl]
theorem Sim.push {m:Mp} {H:Heap} {w:World} (h:Rel m H w) (o:Obj) (x:Blk) (l:Loc) (hl:l.g=w.heap.size) (hown:x.owned=true)
  (hbr:BR (psh m H.length l) { w with heap:=w.heap.push o } l x):Sim m H w (psh m H.length l) (H++[x]) { w with heap:=w.heap.push o } where
 ext:=.push l h.free
 keep:=⟨rfl,rfl,rfl,by simp,fun g hg _=>qdo w o hg⟩
 rel:=by
  have old:∀ (b:Nat) y k,b≠H.length→(H++[x])[b]?=some y→psh m H.length l b=some k→H[b]?=some y∧m b=some k:=by
   intro b y k hb hy hk
   have hlt:b < H.length:=by have:=qa9 hy;simp at this;omega
   rw [List.getElem?_append_left hlt] at hy
   rw [qci l hb] at hk
   exact ⟨hy,hk⟩
  have new:∀ y k,(H++[x])[H.length]?=some y→psh m H.length l H.length=some k→y=x∧k=l:=by
   intro y k hy hk
   rw [List.getElem?_append_right (Nat.le_refl _)] at hy
   rw [qcq] at hk
   simp at hy hk
   exact ⟨hy.symm,hk.symm⟩
  have oldlt:∀ (b:Nat) y k,H[b]?=some y→m b=some k→y.live=true→k.g < w.heap.size:=fun b y k hy hk hlv=>(h.blk b y k hy hk).lt hlv
  have liveOf:∀ y:Blk,y.owned=true→y.live=true:=fun y hy=>by cases y<;>first | rfl | cases hy
  refine ⟨fun b k hk=>?_,fun b y hy hlv=>?_,?_,?_,?_⟩
  ·by_cases hb:b=H.length
   ·subst hb;simp
   ·rw [qci l hb] at hk
    have:=h.len _ _ hk
    simp;omega
  ·by_cases hb:b=H.length
   ·subst hb;exact ⟨l,qcq ..⟩
   ·have hlt:b < H.length:=by have:=qa9 hy;simp at this;omega
    rw [List.getElem?_append_left hlt] at hy
    rw [qci l hb]
    exact h.has b y hy hlv
  ·intro b k hk
   by_cases hb:b=H.length
   ·subst hb
    rw [qcq] at hk
    injection hk with hk
    subst hk
    simp;omega
   ·rw [qci l hb] at hk
    have:=h.bnd b k hk
    simp;omega
  ·intro b y k hy hk
   by_cases hb:b=H.length
   ·subst hb
    obtain ⟨rfl,rfl⟩:=new y k hy hk
    exact hbr
   ·obtain ⟨hy,hk⟩:=old b y k hb hy hk
    exact (h.blk b y k hy hk).keep (.push l h.free) fun hlv=>qdo w o (oldlt b y k hy hk hlv)
  ·intro b c y z k j hbc hy hz hk hj hyo hzl hg
   by_cases hb:b=H.length
   ·subst hb
    obtain ⟨rfl,rfl⟩:=new y k hy hk
    obtain ⟨hz,hj⟩:=old c z j (fun e=>hbc e.symm) hz hj
    have:=oldlt c z j hz hj hzl
    omega
   ·obtain ⟨hy,hk⟩:=old b y k hb hy hk
    have hlt:=oldlt b y k hy hk (liveOf y hyo)
    by_cases hc:c=H.length
    ·subst hc
     obtain ⟨rfl,rfl⟩:=new z j hz hj
     omega
    ·obtain ⟨hz,hj⟩:=old c z j hc hz hj
     exact h.sep b c y z k j hbc hy hz hk hj hyo hzl hg
 fresh:=by
  rintro g ⟨b,y,k,hy,hk,ho,hg⟩
  by_cases hb:b=H.length
  ·subst hb
   rw [qcq] at hk
   injection hk with hk
   subst hk
   exact .inr (by omega)
  ·have hlt:b < H.length:=by have:=qa9 hy;simp at this;omega
   rw [List.getElem?_append_left hlt] at hy
   rw [qci l hb] at hk
   exact .inl ⟨b,y,k,hy,hk,ho,hg⟩
 grow:=by simp
 img:=fun b k hk=>by
  by_cases hb:b=H.length
  ·subst hb
   rw [qcq] at hk
   injection hk with hk
   subst hk
   exact .inr (by omega)
  ·rw [qci l hb] at hk
   exact .inl ⟨b,k,hk,rfl⟩
theorem Sim.pushCells {m:Mp} {H:Heap} {w:World} (h:Rel m H w) (C:Array Value) (el:TypeId) (cs:List Value) (hcs:∀ (i:Nat) (v:Value),cs[i]?=some v→∃ v',C[i]?=some v'∧SR m v v') :
  Sim m H w (psh m H.length ⟨w.heap.size,0,C.size⟩) (H++[.cells H.length true cs]) { w with heap:=w.heap.push (.cells C el) } :=
 Sim.push h _ _ ⟨w.heap.size,0,C.size⟩ rfl rfl ⟨C,el,(0,0),qd0 w _,rfl,fun _=>rfl,fun i v hv=>by
  obtain ⟨v',h1,h2⟩:=hcs i v hv
  exact ⟨v',by simpa using h1,h2.mono (.push _ h.free)⟩⟩
end Go.Abs
namespace Go.Abs
theorem qf2 (b o i:Nat):(⟨b,o,none⟩:Addr).add i=⟨b,o+i,none⟩:=by
 unfold Addr.add
 split
 ·rename_i h;subst h;rfl
 ·rfl
inductive Like:Blk→Blk→Prop
 | dead (x:Blk):Like x .dead
 | cells (f:Nat) (own:Bool) (cs cs':List Value):Like (.cells f own cs) (.cells f own cs')
 | map (es es':List (Value×Value)):Like (.map es) (.map es')
 | loop (a b c d e f g a' b' c' d' e' f' g'):Like (.loop a b c d e f g) (.loop a' b' c' d' e' f' g')
 | bld (el:TypeId) (hb hb':Option Nat) (n n':Nat):Like (.bld el hb n) (.bld el hb' n')
 | held (s s':List UInt8):Like (.held s) (.held s')
theorem Like.refl (x:Blk):Like x x:=by cases x<;>constructor
theorem Like.owned {x y:Blk} (h:Like x y) (ho:y.owned=true):x.owned=true:=by cases h<;>first | exact ho | cases ho
theorem Like.live {x y:Blk} (h:Like x y) (ho:y.live=true):x.live=true:=by cases h<;>first | exact ho | rfl | cases ho
theorem qhh {x y:Blk}:x.kin y↔∃ f cs ds,x = .cells f true cs∧y = .cells f true ds:=by
 constructor
 ·intro h
  unfold Blk.kin at h
  split at h
  ·subst h;exact ⟨_,_,_,rfl,rfl⟩
  ·exact h.elim
 ·rintro ⟨f,cs,ds,rfl,rfl⟩
  rfl
theorem Like.kin {x x' y y':Blk} (h:Like x x') (k:Like y y') (hx:x'.live=true) (hy:y'.live=true) (hk:x.kin y):x'.kin y':=by
 obtain ⟨f,cs,ds,rfl,rfl⟩:=qhh.1 hk
 cases h with
 | dead=>exact absurd hx (by simp [Blk.live])
 | cells _ _ _ cs'=>cases k with
   | dead=>exact absurd hy (by simp [Blk.live])
   | cells _ _ _ ds'=>rfl
theorem Rel.like {m:Mp} {H H':Heap} {w w':World} (h:Rel m H w) (hsz:w.heap.size≤w'.heap.size) (hlen:H'.length=H.length)
  (hl:∀ (b:Nat) x',H'[b]?=some x'→∃ x,H[b]?=some x∧Like x x')
  (hb:∀ (b:Nat) x' l,H'[b]?=some x'→m b=some l→BR m w' l x'):Rel m H' w' where
 len:=fun b l hb=>by rw [hlen];exact h.len b l hb
 has:=fun b x' hx' hlv=>by
  obtain ⟨x,hx,lx⟩:=hl b x' hx'
  exact h.has b x hx (lx.live hlv)
 bnd:=fun b l hb=>Nat.lt_of_lt_of_le (h.bnd b l hb) hsz
 blk:=hb
 sep:=by
  intro b c x' y' l k hbc hx' hy' hl' hk' ho hlv hg
  obtain ⟨x,hx,lx⟩:=hl b x' hx'
  obtain ⟨y,hy,ly⟩:=hl c y' hy'
  obtain ⟨h1,h2⟩:=h.sep b c x y l k hbc hx hy hl' hk' (lx.owned ho) (ly.live hlv) hg
  exact ⟨lx.kin ly (by cases x'<;>first | rfl | cases ho) hlv h1,h2⟩
theorem Sim.like {m:Mp} {H H':Heap} {w w':World} (h:Rel m H w) (hlen:H'.length=H.length)
  (hl:∀ (b:Nat) x',H'[b]?=some x'→∃ x,H[b]?=some x∧Like x x')
  (hb:∀ (b:Nat) x' l,H'[b]?=some x'→m b=some l→BR m w' l x') (hk:Keep m H w w'):Sim m H w m H' w' where
 ext:=.refl m
 rel:=h.like hk.size hlen hl hb
 keep:=hk
 fresh:=by
  rintro g ⟨b,x',l,hx',hm,ho,hg⟩
  obtain ⟨x,hx,lx⟩:=hl b x' hx'
  exact .inl ⟨b,x,l,hx,hm,lx.owned ho,hg⟩
 grow:=Nat.le_of_eq hlen.symm
 img:=fun b l h=>.inl ⟨b,l,h,rfl⟩
def setArr:Array Value→Nat→List Value→Array Value
 | C,_,[]=>C
 | C,o,v::vs=>setArr (C.setIfInBounds o v) (o+1) vs
theorem qf3 (vs:List Value):∀ (C:Array Value) (o:Nat),(setArr C o vs).size=C.size:=by
 induction vs with
 | nil=>intro C o;rfl
 | cons v vs ih=>intro C o;simp [setArr,ih]
theorem qeq (vs:List Value):∀ (cs:List Value) (o:Nat),(setList cs o vs).length=cs.length:=by
 induction vs with
 | nil=>intro C o;rfl
 | cons v vs ih=>intro C o;simp [setList,ih]
theorem qg5 (vs:List Value):∀ (C:Array Value) (o i:Nat),o+vs.length≤C.size→(setArr C o vs)[i]?=if o≤i∧i < o+vs.length then vs[i - o]? else C[i]? := by
 induction vs with
 | nil=>intro C o i _;simp [setArr];omega
 | cons v vs ih =>
   intro C o i h
   simp only [List.length_cons] at h
   rw [setArr,ih _ _ _ (by simp;omega),Array.getElem?_setIfInBounds]
   by_cases h1:o+1≤i∧i < o+1+vs.length
   ·rw [if_pos h1,if_pos (by simp;omega)]
    obtain ⟨k,rfl⟩:∃ k,i=o+1+k:=⟨i - (o+1),by omega⟩
    simp [show o+1+k - o=k+1 from by omega]
   ·rw [if_neg h1]
    by_cases h2:o=i
    ·subst h2;simp;omega
    ·rw [if_neg h2,if_neg (by simp;omega)]
theorem qkx (vs:List Value):∀ (cs:List Value) (o i:Nat),o+vs.length≤cs.length→(setList cs o vs)[i]?=if o≤i∧i < o+vs.length then vs[i - o]? else cs[i]? := by
 induction vs with
 | nil=>intro C o i _;simp [setList];omega
 | cons v vs ih =>
   intro C o i h
   simp only [List.length_cons] at h
   rw [setList,ih _ _ _ (by simp;omega),List.getElem?_set]
   by_cases h1:o+1≤i∧i < o+1+vs.length
   ·rw [if_pos h1,if_pos (by simp;omega)]
    obtain ⟨k,rfl⟩:∃ k,i=o+1+k:=⟨i - (o+1),by omega⟩
    simp [show o+1+k - o=k+1 from by omega]
   ·rw [if_neg h1]
    by_cases h2:o=i
    ·subst h2;simp;omega
    ·rw [if_neg h2,if_neg (by simp;omega)]
def one (v:Value):Prop:=match v with | .agg _=>False | .tuple _=>False | _=>True
theorem SR.one {m:Mp} {v v':Value} (h:SR m v v'):Abs.one v':=by cases h<;>trivial
theorem SR.one_left {m:Mp} {v v':Value} (h:SR m v v'):Abs.one v:=by cases h<;>trivial
structure Wrote (w w':World) (g:Nat) (o:Obj):Prop where
 os:w'.os=w.os
 tape:w'.tape=w.tape
 output:w'.output=w.output
 size:w'.heap.size=w.heap.size
 here:w'.heap[g]?=some o
 there:∀ k,k≠g→w'.heap[k]?=w.heap[k]?
 drawn:w'.drawn=w.drawn
theorem qm1 (P:Program) (w:World) (a:Addr) (v:Value) (h1:one v) {u:Value} (hc:w.cell? a=some u) (hf:w.frozen? a=false) :
  (store a v).run P w = .ok () (w.setCell a v):=by
 cases v<;>first | exact False.elim h1 | simp [store,Sem.run,hc,hf]
theorem qfi (P:Program) (g el:Nat) (vs:List Value):∀ (o i:Nat) (C:Array Value) (w:World),w.heap[g]?=some (.cells C el (0,0))→o+i+vs.length≤C.size→(∀ v∈vs,one v) →
  ∃ w',(storeCells ⟨g,o,none⟩ vs i).run P w = .ok () w'∧Wrote w w' g (.cells (setArr C (o+i) vs) el (0,0)):=by
 induction vs with
 | nil=>intro o i C w h _ _;exact ⟨w,rfl,rfl,rfl,rfl,rfl,h,fun _ _=>rfl,rfl⟩
 | cons v vs ih =>
   intro o i C w h hlen h1
   simp only [List.length_cons] at hlen
   have hlt:o+i < C.size:=by omega
   have hc:w.cell? ⟨g,o+i,none⟩=some C[o+i]:=by simp [World.cell?,h,hlt]
   have hf:w.frozen? ⟨g,o+i,none⟩=false:=by simp [World.frozen?,h]
   have hg:g < w.heap.size:=by
    rcases Nat.lt_or_ge g w.heap.size with hlt | hge
    ·exact hlt
    ·rw [Array.getElem?_eq_none hge] at h;cases h
   have hw:(w.setCell ⟨g,o+i,none⟩ v).heap[g]?=some (.cells (C.setIfInBounds (o+i) v) el (0,0)):=by
    simp [World.setCell,Array.getElem?_modify,h]
   obtain ⟨w',hr,hw'⟩:=ih o (i+1) (C.setIfInBounds (o+i) v) (w.setCell ⟨g,o+i,none⟩ v) hw (by simp;omega) (fun u hu=>h1 u (by simp [hu]))
   refine ⟨w',?_,hw'.os,hw'.tape,hw'.output,?_,by simpa [setArr,Nat.add_assoc] using hw'.here,fun k hk=>?_,hw'.drawn⟩
   ·rw [storeCells,Sem.run_bind,qf2,qm1 P w _ v (h1 v (by simp)) hc hf]
    exact hr
   ·rw [hw'.size];simp [World.setCell]
   ·rw [hw'.there k hk]
    exact RowKit.Below.heap_setCell _ _ _ _ hk
theorem qds (f k:Nat) (x:Blk):Like x (truncFam f k x):=by
 unfold truncFam
 split
 ·split<;>constructor
 ·exact .refl _
theorem qhi {H:Heap} {f:Blk→Blk} {b:Nat} {x':Blk} (h:(H.map f)[b]?=some x'):∃ x,H[b]?=some x∧x'=f x:=by
 rw [List.getElem?_map] at h
 cases hb:H[b]? with
 | none=>rw [hb] at h;cases h
 | some x=>rw [hb] at h;exact ⟨x,rfl,by simpa using h.symm⟩
theorem BR.trunc {m:Mp} {w w':World} {l:Loc} {f k:Nat} {x:Blk} (h:BR m w l x)
  (hw:x.live=true→w'.heap[l.g]?=w.heap[l.g]?∨∃ C C' el,x.kin (.cells f true [])∧w.heap[l.g]?=some (.cells C el (0,0))∧w'.heap[l.g]?=some (.cells C' el (0,0))∧C'.size=C.size∧∀ i,i < l.o+k→C'[i]?=C[i]?) :
  BR m w' l (truncFam f k x):=by
 cases x with
 | dead=>trivial
 | cells g own cs =>
   rcases hw rfl with e | ⟨C,C',el,hkin,e1,e2,e3,e4⟩
   ·have:=h.keep (.refl m) fun _=>e
    obtain ⟨C,el,fr,h1,h2,h3,h4⟩:=this
    by_cases hgf:g=f
    ·simp only [truncFam,if_pos hgf]
     refine ⟨C,el,fr,h1,h2,h3,fun i v hv=>?_⟩
     have hi:i < k:=by have:=qa9 hv;simp at this;omega
     rw [List.getElem?_take,if_pos hi] at hv
     exact h4 i v hv
    ·simp only [truncFam,if_neg hgf]
     exact ⟨C,el,fr,h1,h2,h3,h4⟩
   ·obtain ⟨C0,el0,fr,h1,h2,h3,h4⟩:=h
    have hgf:g=f∧own=true:=by
     cases own
     ·exact hkin.elim
     ·exact ⟨hkin,rfl⟩
    obtain ⟨rfl,rfl⟩:=hgf
    rw [e1] at h1
    injection h1 with h1
    injection h1 with h1 h1' h1''
    subst h1;subst h1'
    simp only [truncFam,if_true]
    refine ⟨C',el,(0,0),e2,by rw [e3,h2],fun _=>rfl,fun i v hv=>?_⟩
    have hi:i < k:=by have:=qa9 hv;simp at this;omega
    rw [List.getElem?_take,if_pos hi] at hv
    obtain ⟨v',a,b⟩:=h4 i v hv
    exact ⟨v',by rw [e4 _ (by omega)];exact a,b⟩
 | map es =>
   rcases hw rfl with e | ⟨_,_,_,hkin,_⟩
   ·exact h.keep (.refl m) fun _=>e
   ·exact hkin.elim
 | loop =>
   rcases hw rfl with e | ⟨_,_,_,hkin,_⟩
   ·exact h.keep (.refl m) fun _=>e
   ·exact hkin.elim
 | bld =>
   rcases hw rfl with e | ⟨_,_,_,hkin,_⟩
   ·exact h.keep (.refl m) fun _=>e
   ·exact hkin.elim
 | held =>
   rcases hw rfl with e | ⟨_,_,_,hkin,_⟩
   ·exact h.keep (.refl m) fun _=>e
   ·exact hkin.elim
theorem Sim.write {P:Program} {m:Mp} {H H':Heap} {w:World} {b o:Nat} {vs vs':List Value} {l:Loc} (h:Rel m H w) (hH:H.write b o vs=some H') (hl:m b=some l) (hv:All2 (SR m) vs vs') :
  ∃ w',(storeCells ⟨l.g,l.o+o,none⟩ vs').run P w = .ok () w'∧Sim m H w m H' w':=by
 unfold Heap.write at hH
 split at hH
 ·rename_i fam cs hb
  split at hH
  ·rename_i hle
   injection hH with hH
   subst hH
   obtain ⟨C,el,fr,h1,h2,h3,h4⟩:=h.blk b _ l hb hl
   obtain rfl:fr=(0,0):=h3 rfl
   have hlv:=hv.length
   have hC:∀ i,i < cs.length→l.o+i < C.size:=fun i hi=>by
    obtain ⟨v',a,_⟩:=h4 i _ (List.getElem?_eq_getElem hi)
    rcases Nat.lt_or_ge (l.o+i) C.size with hlt | hge
    ·exact hlt
    ·rw [Array.getElem?_eq_none hge] at a;cases a
   have hfit:vs'.length=0∨l.o+o+vs'.length≤C.size:=by
    rcases Nat.eq_zero_or_pos vs'.length with e | e
    ·exact .inl e
    ·exact .inr (by have:=hC (o+vs'.length - 1) (by omega);omega)
   have hone:∀ v∈vs',Abs.one v:=by
    intro v hv'
    obtain ⟨i,hi,rfl⟩:=List.getElem_of_mem hv'
    obtain ⟨y,hy,hr⟩:=hv.get i _ (List.getElem?_eq_getElem (by omega:i < vs.length))
    rw [List.getElem?_eq_getElem hi] at hy
    injection hy with hy
    rw [hy];exact hr.one
   have hrun:∃ w',(storeCells ⟨l.g,l.o+o,none⟩ vs').run P w = .ok () w'∧Wrote w w' l.g (.cells (setArr C (l.o+o) vs') el (0,0)):=by
    rcases hfit with e | e
    ·have:vs'=[]:=List.eq_nil_of_length_eq_zero e
     subst this
     exact ⟨w,rfl,rfl,rfl,rfl,rfl,h1,fun _ _=>rfl,rfl⟩
    ·exact qfi P l.g el vs' (l.o+o) 0 C w h1 e hone
   obtain ⟨w',hr,hw⟩:=hrun
   refine ⟨w',hr,Sim.like h (by simp) ?_ ?_ ⟨hw.os,hw.tape,hw.output,Nat.le_of_eq hw.size.symm,fun g hg hn=>?_⟩⟩
   ·intro c x' hx'
    by_cases hc:c=b
    ·subst hc
     refine ⟨_,hb,?_⟩
     rw [List.getElem?_set] at hx'
     simp only [if_true] at hx'
     split at hx'
     ·injection hx' with hx'
      subst hx'
      constructor
     ·cases hx'
    ·rw [List.getElem?_set,if_neg (fun e=>hc e.symm)] at hx'
     obtain ⟨x,hx,rfl⟩:=qhi hx'
     exact ⟨x,hx,qds _ _ _⟩
   ·intro c x' k hx' hk
    by_cases hc:c=b
    ·subst hc
     obtain rfl:k=l:=by rw [hk] at hl;injection hl
     rw [List.getElem?_set] at hx'
     simp only [if_true] at hx'
     split at hx'
     ·injection hx' with hx'
      subst hx'
      refine ⟨_,el,(0,0),hw.here,by rw [qf3,h2],fun _=>rfl,fun i v hi=>?_⟩
      rw [qkx _ _ _ _ hle] at hi
      have hgs:(setArr C (k.o+o) vs')[k.o+i]?=if k.o+o≤k.o+i∧k.o+i < k.o+o+vs'.length then vs'[k.o+i - (k.o+o)]? else C[k.o+i]? := by
       rcases hfit with e | e
       ·have:vs'=[]:=List.eq_nil_of_length_eq_zero e
        subst this
        simp [setArr];omega
       ·exact qg5 _ _ _ _ e
      rw [hgs]
      split at hi
      ·rename_i hin
       rw [if_pos (by omega),show k.o+i - (k.o+o)=i - o from by omega]
       exact hv.get _ _ hi
      ·rename_i hin
       rw [if_neg (by omega)]
       exact h4 i v hi
     ·cases hx'
    ·rw [List.getElem?_set,if_neg (fun e=>hc e.symm)] at hx'
     obtain ⟨x,hx,rfl⟩:=qhi hx'
     refine (h.blk c x k hx hk).trunc fun hlive=>?_
     by_cases hg:k.g=l.g
     ·obtain ⟨hkin,ho⟩:=h.sep b c _ x l k (fun e=>hc e.symm) hb hx hl hk rfl hlive hg.symm
      refine .inr ⟨C,setArr C (l.o+o) vs',el,?_,by rw [hg];exact h1,by rw [hg];exact hw.here,qf3 _ _ _,fun i hi=>?_⟩
      ·cases x with
       | cells f own cs' =>
         cases own
         ·exact hkin.elim
         ·exact Eq.symm hkin
       | dead=>exact hkin.elim
       | map=>exact hkin.elim
       | loop=>exact hkin.elim
       | bld=>exact hkin.elim
       | held=>exact hkin.elim
      ·rcases hfit with e | e
       ·have:vs'=[]:=List.eq_nil_of_length_eq_zero e
        subst this;rfl
       ·rw [qg5 _ _ _ _ e,if_neg (by omega)]
     ·exact .inl (hw.there _ hg)
   ·exact hw.there g fun e=>hn ⟨b,_,l,hb,hl,rfl,e.symm⟩
  ·cases hH
 ·cases hH
end Go.Abs
namespace Go.Abs
section
variable {P:Program}
theorem qlw {α:Type} {s:Sem α}:∀ {v:α} {w:World},pureVal P s=some v→s.run P w = .ok v w:=by
 induction s with
 | pure a=>intro v w h;simp [pureVal] at h;subst h;rfl
 | program k ih=>intro v w h;simp only [pureVal] at h;rw [Sem.run];exact ih P h
 | _=>intro v w h;simp [pureVal] at h
theorem qdg {t:TypeId} {s:Nat} (h:sizeT P t=some s) (w:World):(sizeOf t).run P w = .ok s w:=by
 unfold sizeT at h
 cases hi:P.info? t with
 | none=>rw [hi] at h;cases h
 | some i=>rw [hi] at h;simp at h;simp [sizeOf,typeInfo,hi,h]
theorem qh8 {t:TypeId} {b:Bool} (h:isAggT P t=some b) (w:World):(isAgg t).run P w = .ok b w:=by
 unfold isAggT at h
 split at h<;>first | cases h | skip
 ·rename_i hu;simp [isAgg,run_underlying hu]
 ·rename_i hu;simp [isAgg,run_underlying hu]
 ·rename_i d h1 h2 hu
  simp only [isAgg,Sem.run_bind,run_underlying hu,Result.andThen_ok]
  rfl
theorem qer {t:TypeId} {z:Value} (h:zeroT P t=some z) (w:World):(zeroValue t).run P w = .ok z w∧constAgg z=true:=by
 unfold zeroT at h
 split at h
 ·rename_i i hi
  split at h
  ·rename_i z' hz
   split at h
   ·rename_i hc
    injection h with h;subst h
    exact ⟨by simp [zeroValue,typeInfo,hi,hz],hc⟩
   ·cases h
  ·cases h
 ·cases h
variable {m:Mp} {H:Heap} {w:World} {nt:Nat} {a:Fr} {tmps:Array Value}
def evC (tmps:Array Value):Operand→Value
 | .tmp t=>tmps.getD t undef
 | .const v=>v
 | .global g=>.pointer (some ⟨g,0,none⟩)
 | .func f=>.func (.func f) #[] #[]
theorem FR.tmp (h:FR m nt a tmps) {t:Nat} (ht:t < nt):VR m (a t) (tmps.getD t undef):=by
 obtain ⟨v',h1,h2⟩:=h.2 t ht
 rw [Array.getD_eq_getD_getElem?,h1];exact h2
theorem FR.opnd (h:FR m nt a tmps) {x:Operand} (hx:opndOk nt x=true):VR m (ev a x) (evC tmps x):=by
 cases x with
 | tmp t=>exact h.tmp (by simpa [opndOk] using hx)
 | const v =>
   have hc:constAgg v=true:=by simpa [opndOk] using hx
   exact (VR.a (AR.of_const m hc):VR m v v)
 | func f=>exact .a (.s (.func f #[] #[] .nil))
 | global g=>simp [opndOk] at hx
theorem FR.put (h:FR m nt a tmps) {v v':Value} (hv:VR m v v') (d:Nat):FR m nt (upd a d v) (tmps.setIfInBounds d v'):=by
 refine ⟨by simp [h.1],fun t ht=>?_⟩
 obtain ⟨u,h1,h2⟩:=h.2 t ht
 rw [Array.getElem?_setIfInBounds]
 by_cases hd:d=t
 ·subst hd
  rw [if_pos rfl,if_pos (by rw [h.1];exact ht)]
  exact ⟨v',rfl,by simpa [upd] using hv⟩
 ·rw [if_neg hd]
  exact ⟨u,h1,by simpa [upd,show ¬ t=d from fun e=>hd e.symm] using h2⟩
theorem VR.int_ {k:IntKind} {n:Int} {v':Value} (h:VR m (.int k n) v'):v' = .int k n:=h.plain rfl
theorem VR.bool_ {b:Bool} {v':Value} (h:VR m (.bool b) v'):v' = .bool b:=h.plain rfl
theorem VR.ptr_ {b o:Nat} {v':Value} (h:VR m (.pointer (some ⟨b,o,none⟩)) v'):∃ l,m b=some l∧v' = .pointer (some ⟨l.g,l.o+o,none⟩):=by
 cases h with
 | a h=>cases h with
   | s h=>cases h with
     | ptr b o l hl=>exact ⟨l,hl,rfl⟩
theorem VR.slice_ {b o n e:Nat} {v':Value} (h:VR m (.slice (some ⟨b,o,none⟩) n e) v') :
  ∃ l c,m b=some l∧v' = .slice (some ⟨l.g,l.o+o,none⟩) n c∧n≤c∧l.o+o+c*e≤l.N:=by
 cases h with
 | a h=>cases h with
   | s h=>cases h with
     | slice b o n e c l hl h1 h2=>exact ⟨l,c,hl,rfl,h1,h2⟩
theorem VR.lost_ {b o p n e:Nat} {v':Value} (h:VR m (.slice (some ⟨b,o,some p⟩) n e) v'):n=0∧b=0∧o=0∧∃ g c,v' = .slice (some g) 0 c:=by
 cases h with
 | a h=>cases h with
   | s h=>cases h with
     | lost p c g c'=>exact ⟨rfl,rfl,rfl,g,c',rfl⟩
theorem VR.sliceNil_ {n c:Nat} {v':Value} (h:VR m (.slice none n c) v'):n=0∧c=0∧v' = .slice none 0 0:=by
 cases h with
 | a h=>cases h with
   | s h=>cases h with
     | sliceNil=>exact ⟨rfl,rfl,rfl⟩
theorem VR.map_ {b:Nat} {v':Value} (h:VR m (.map (some b)) v'):∃ l,m b=some l∧v' = .map (some l.g):=by
 cases h with
 | a h=>cases h with
   | s h=>cases h with
     | map b l hl=>exact ⟨l,hl,rfl⟩
theorem VR.agg_ {cs:Array Value} {v':Value} (h:VR m (.agg cs) v'):∃ cs',v' = .agg cs'∧All2 (SR m) cs.toList cs'.toList:=by
 cases h with
 | a h=>cases h with
   | s h=>cases h
   | agg h=>exact ⟨_,rfl,h⟩
theorem VR.tuple_ {vs:Array Value} {v':Value} (h:VR m (.tuple vs) v'):∃ vs',v' = .tuple vs'∧All2 (AR m) vs.toList vs'.toList:=by
 cases h with
 | a h=>cases h with
   | s h=>cases h
 | tuple h=>exact ⟨_,rfl,h⟩
theorem qfd {v v':Value} {cs:List Value} (hs:scal v=some cs) (h:VR m v v'):All2 (SR m) cs v'.cells.toList∧AR m v v':=by
 cases h with
 | a h=>cases h with
   | s h =>
     have h1:=h.one
     have h2:=h.one_left
     have hc:v'.cells = #[v']:=by cases v'<;>first | rfl | exact False.elim h1
     have hv:scal v=some [v]:=by cases v<;>first | rfl | exact False.elim h2
     rw [hv] at hs
     injection hs with hs
     subst hs
     exact ⟨by rw [hc];exact .cons h .nil,.s h⟩
   | agg h=>simp only [scal] at hs;injection hs with hs;subst hs;exact ⟨h,.agg h⟩
 | tuple h=>simp [scal] at hs
theorem Rel.cell (h:Rel m H w) {b o:Nat} {v:Value} {l:Loc} (hc:H.cell b o=some v) (hl:m b=some l):∃ v',w.cell? ⟨l.g,l.o+o,none⟩=some v'∧SR m v v':=by
 unfold Heap.cell at hc
 split at hc
 ·rename_i f own cs hb
  obtain ⟨C,el,fr,h1,h2,h3,h4⟩:=h.blk b _ l hb hl
  obtain ⟨v',h5,h6⟩:=h4 o v hc
  exact ⟨v',by simp [World.cell?,h1,h5],h6⟩
 ·cases hc
theorem qky {b o n:Nat} {cs:List Value} (h:H.cellsAt b o n=some cs):cs.length=n∧∀ i,i < n→H.cell b (o+i)=cs[i]? := by
 unfold Heap.cellsAt at h
 split at h
 ·rename_i f own ds hb
  split at h
  ·rename_i hle
   injection h with h
   subst h
   refine ⟨by simp;omega,fun i hi=>?_⟩
   simp [Heap.cell,hb,hi]
  ·cases h
 ·cases h
theorem run_load {p:Addr} {v:Value} (h:w.cell? p=some v):(load p).run P w = .ok v w:=by simp [load,Sem.run,h]
theorem qi2 {g o:Nat} (vs:List Value):∀ (i:Nat) (acc:Array Value),(∀ (j:Nat) v,vs[j]?=some v→w.cell? ⟨g,o+i+j,none⟩=some v) →
  (loadCellsFrom ⟨g,o,none⟩ i vs.length acc).run P w = .ok (acc++vs.toArray) w:=by
 induction vs with
 | nil=>intro i acc _;simp [loadCellsFrom]
 | cons v vs ih =>
   intro i acc h
   have h0:=h 0 v (by simp)
   rw [List.length_cons,loadCellsFrom,Sem.run_bind,qf2,run_load (by simpa using h0),Result.andThen_ok,ih (i+1) (acc.push v) (fun j u hj=>by
    have:=h (j+1) u (by simpa using hj)
    rw [show o+(i+1)+j=o+i+(j+1) from by omega];exact this)]
   simp
theorem Rel.loads (h:Rel m H w) {b o n:Nat} {cs:List Value} {l:Loc} (hc:H.cellsAt b o n=some cs) (hl:m b=some l) :
  ∃ vs:Array Value,(loadCells ⟨l.g,l.o+o,none⟩ n).run P w = .ok vs w∧All2 (SR m) cs vs.toList∧vs.size=n∧∀ (j:Nat) v,vs[j]?=some v→w.cell? ⟨l.g,l.o+o+j,none⟩=some v:=by
 obtain ⟨hn,hcell⟩:=qky hc
 have hall:∀ i,i < n→∃ v',w.cell? ⟨l.g,l.o+o+i,none⟩=some v'∧∀ v,cs[i]?=some v→SR m v v':=by
  intro i hi
  have hx:=hcell i hi
  rw [List.getElem?_eq_getElem (by omega)] at hx
  obtain ⟨v',h1,h2⟩:=h.cell hx hl
  exact ⟨v',by rw [Nat.add_assoc];exact h1,fun v hv=>by rw [List.getElem?_eq_getElem (by omega)] at hv;injection hv with hv;rw [← hv];exact h2⟩
 have hvs:∃ vs:List Value,vs.length=n∧(∀ (j:Nat) v,vs[j]?=some v→w.cell? ⟨l.g,l.o+o+j,none⟩=some v)∧All2 (SR m) cs vs:=by
  let f:Nat→Value:=fun i=>(w.cell? ⟨l.g,l.o+o+i,none⟩).getD undef
  refine ⟨(List.range n).map f,by simp,fun j v hj=>?_,.of_get (by simp [hn]) fun i x y hx hy=>?_⟩
  ·have hlt:j < n:=by have:=qa9 hj;simpa using this
   obtain ⟨v',h1,_⟩:=hall j hlt
   simp [hlt,f,h1] at hj
   rw [h1,hj]
  ·have hlt:i < n:=by have:=qa9 hy;simpa using this
   obtain ⟨v',h1,h2⟩:=hall i hlt
   simp [hlt,f,h1] at hy
   rw [← hy];exact h2 x hx
 obtain ⟨vs,h1,h2,h3⟩:=hvs
 refine ⟨vs.toArray,?_,by simpa using h3,by simpa using h1,fun j v hj=>h2 j v (by simpa using hj)⟩
 have:=qi2 (P:=P) (w:=w) (g:=l.g) (o:=l.o+o) vs 0 #[] (fun j v hj=>by simpa using h2 j v hj)
 rw [h1] at this
 simpa [loadCells] using this
theorem qkz (hR:Rel m H w) {t:TypeId} {v v' r:Value} (h:loadA P t v H=some r) (hv:VR m v v'):∃ r',(Instr.loadAt t v').run P w = .ok r' w∧AR m r r':=by
 unfold loadA at h
 split at h
 ·rename_i b o
  obtain ⟨l,hl,rfl⟩:=hv.ptr_
  split at h
  ·rename_i hagg
   split at h
   ·rename_i n hn
    split at h
    ·rename_i cs hcs
     injection h with h
     subst h
     obtain ⟨vs,h1,h2,_⟩:=hR.loads (P:=P) hcs hl
     exact ⟨.agg vs,by simp [Instr.loadAt,Instr.sureAddr,loadVar,qh8 hagg,qdg hn,h1],.agg (by simpa using h2)⟩
    ·cases h
   ·cases h
  ·rename_i hagg
   obtain ⟨r',h1,h2⟩:=hR.cell h hl
   exact ⟨r',by simp [Instr.loadAt,Instr.sureAddr,loadVar,qh8 hagg,h1],.s h2⟩
  ·cases h
 ·cases h
theorem qok (hR:Rel m H w) {t:TypeId} {p p' v v':Value} {H':Heap} (h:storeA P t p v H=some H') (hp:VR m p p') (hv:VR m v v') :
  ∃ w',(Instr.storeAt t p' v').run P w = .ok () w'∧Sim m H w m H' w':=by
 unfold storeA at h
 split at h
 ·rename_i b o cs n hs hn
  split at h
  ·rename_i hlen
   obtain ⟨l,hl,rfl⟩:=hp.ptr_
   obtain ⟨h1,_⟩:=qfd hs hv
   obtain ⟨w',h2,h3⟩:=Sim.write (P:=P) hR h hl h1
   refine ⟨w',?_,h3⟩
   have hsz:v'.cells.size=n:=by rw [← hlen,h1.length];simp
   simp [Instr.storeAt,Instr.sureAddr,storeVar,qdg hn,hsz,h2]
  ·cases h
 ·cases h
theorem qjy {t:TypeId} {v v' r:Value} {i:Nat} (h:fieldAddrA P t v i=some r) (hv:VR m v v'):∃ r',(Instr.fieldAt t v' i).run P w = .ok r' w∧VR m r r':=by
 unfold fieldAddrA at h
 split at h
 ·rename_i fields b o hu
  split at h
  ·rename_i f hf
   split at h
   ·rename_i s hs
    injection h with h
    subst h
    obtain ⟨l,hl,rfl⟩:=hv.ptr_
    refine ⟨_,?_,.a (.s (.ptr b (o+f.offset) l hl))⟩
    simp [Instr.fieldAt,run_underlying hu,hf,Instr.sureAddr,fieldPlace,qdg hs,qf2,Nat.add_assoc]
   ·cases h
  ·cases h
 ·cases h
theorem qf4 {t:TypeId} {cs cs':Array Value} {r:Value} {i:Nat} (h:partA P t cs.toList i=some r) (hv:All2 (SR m) cs.toList cs'.toList):∃ r',(part t cs' i).run P w = .ok r' w∧VR m r r':=by
 unfold partA at h
 split at h
 ·rename_i hagg
  split at h
  ·rename_i n hn
   injection h with h
   subst h
   refine ⟨_,by simp [part,qh8 hagg,qdg hn];rfl,.a (.agg ?_)⟩
   have:=(hv.drop i).take n
   simpa [Array.toList_extract,List.extract_eq_take_drop] using this
  ·cases h
 ·rename_i hagg
  obtain ⟨y,h1,h2⟩:=hv.get i r h
  refine ⟨y,?_,.a (.s h2)⟩
  have:cs'[i]?=some y:=by simpa using h1
  simp [part,qh8 hagg,this]
 ·cases h
theorem qol {t:TypeId} {v v' r:Value} {i:Nat} (h:fieldA P t v i=some r) (hv:VR m v v'):∃ r',(Instr.field t v' i).run P w = .ok r' w∧VR m r r':=by
 unfold fieldA at h
 split at h
 ·rename_i fields cs hu
  split at h
  ·rename_i f hf
   obtain ⟨cs',rfl,hcs⟩:=hv.agg_
   obtain ⟨r',h1,h2⟩:=qf4 (w:=w) h hcs
   exact ⟨r',by simp [Instr.field,run_underlying hu,hf,asAgg,h1],h2⟩
  ·cases h
 ·cases h
theorem qom {t:TypeId} {v v' i i' r:Value} (h:indexA P t v i=some r) (hv:VR m v v') (hi:VR m i i'):∃ r',(Instr.index t v' i').run P w = .ok r' w∧VR m r r':=by
 unfold indexA at h
 split at h
 ·rename_i len elem cs kk k hu
  split at h
  ·rename_i hk
   split at h
   ·rename_i s hs
    obtain ⟨cs',rfl,hcs⟩:=hv.agg_
    obtain rfl:=hi.plain rfl
    obtain ⟨r',h1,h2⟩:=qf4 (w:=w) h hcs
    exact ⟨r',by simp [Instr.index,run_underlying hu,asIntOf,hk,qdg hs,h1],h2⟩
   ·cases h
  ·cases h
 ·cases h
theorem qct {t e:TypeId} {s:Nat} (h:sliceElem P t=some (e,s)):P.underlying t=some (.slice e)∧sizeT P e=some s:=by
 unfold sliceElem at h
 split at h
 ·rename_i e' hu
  split at h
  ·rename_i s' hs
   injection h with h
   injection h with h1 h2
   subst h1;subst h2
   exact ⟨hu,hs⟩
  ·cases h
 ·cases h
theorem qjz {t:TypeId} {x x' i i' r:Value} (h:indexAddrA P t x i=some r) (hx:VR m x x') (hi:VR m i i'):∃ r',(Instr.indexAt t x' i').run P w = .ok r' w∧VR m r r':=by
 unfold indexAddrA at h
 split at h
 ·rename_i e size b o n ec kk k he
  split at h
  ·rename_i hk
   injection h with h
   subst h
   obtain ⟨l,c,hl,rfl,hn,_⟩:=hx.slice_
   obtain rfl:=hi.int_
   obtain ⟨hu,hs⟩:=qct he
   refine ⟨_,?_,.a (.s (.ptr b (o+k.toNat*size) l hl))⟩
   simp [Instr.indexAt,asIntOf,run_underlying hu,qdg hs,hk,qf2,Nat.add_assoc]
  ·cases h
 ·rename_i b o kk k he
  split at h
  ·rename_i len elem hu
   split at h
   ·rename_i s hs
    split at h
    ·rename_i hk
     injection h with h
     subst h
     obtain ⟨l,hl,rfl⟩:=hx.ptr_
     obtain rfl:=hi.int_
     refine ⟨_,?_,.a (.s (.ptr b (o+k.toNat*s) l hl))⟩
     simp [Instr.indexAt,asIntOf,run_underlying hu,qdg hs,hk,qf2,Instr.sureAddr,Nat.add_assoc]
    ·cases h
   ·cases h
  ·cases h
 ·cases h
def bnd (v:Option Value) (dflt most:Nat) (code:BoundsCode):Sem Nat:=match v with | some x=>Instr.sliceBound x most code | none=>pure dflt
theorem qd1 {v v':Option Value} {dflt most r:Nat} (code:BoundsCode) (h:boundA v dflt most=some r) (hv:∀ x,v=some x→∃ x',v'=some x'∧VR m x x') (h0:v=none→v'=none) :
  (bnd v' dflt most code).run P w = .ok r w∧(v.isSome→r≤most):=by
 unfold boundA at h
 unfold bnd
 split at h
 ·injection h with h
  subst h
  rw [h0 rfl]
  exact ⟨rfl,fun h=>by simp at h⟩
 ·rename_i k n
  split at h
  ·rename_i hk
   injection h with h
   subst h
   obtain ⟨x',rfl,hx⟩:=hv _ rfl
   obtain rfl:=hx.int_
   refine ⟨by simp [Instr.sliceBound,asIntOf,hk],fun _=>by omega⟩
  ·cases h
 ·cases h
theorem ql6 {lo hi:Option Value} {len cap l h:Nat} (hh:(bnd hi len cap .sliceAcap).run P w = .ok h w)
  (hlo:(bnd lo 0 h .sliceB).run P w = .ok l w):(Instr.sliceBounds true len cap lo hi none).run P w = .ok (l,h,cap) w:=by
 unfold bnd at hh hlo
 unfold Instr.sliceBounds
 cases hi<;>cases lo<;>simp_all
theorem qp4 {lo hi:Option Value} {len cap l h:Nat} (hh:(bnd hi len cap .sliceAlen).run P w = .ok h w)
  (hlo:(bnd lo 0 h .sliceB).run P w = .ok l w):(Instr.sliceBounds false len cap lo hi none).run P w = .ok (l,h,cap) w:=by
 unfold bnd at hh hlo
 unfold Instr.sliceBounds
 cases hi<;>cases lo<;>simp_all
theorem qj0 {t:TypeId} {x x' r:Value} {lo hi lo' hi':Option Value} (h:sliceExprA P t x lo hi=some r) (hx:VR m x x')
  (hlo:∀ y,lo=some y→∃ y',lo'=some y'∧VR m y y') (hlo0:lo=none→lo'=none) (hhi:∀ y,hi=some y→∃ y',hi'=some y'∧VR m y y') (hhi0:hi=none→hi'=none) :
  ∃ r',(Instr.sliceAt t x' lo' hi' none).run P w = .ok r' w∧VR m r r':=by
 unfold sliceExprA at h
 split at h
 ·split at h
  ·rename_i es hh he hb
   split at h
   ·rename_i l hl
    injection h with h
    subst h
    obtain ⟨_,_,rfl⟩:=hx.sliceNil_
    obtain ⟨e,s⟩:=es
    obtain ⟨hu,hs⟩:=qct he
    obtain ⟨b1,c1⟩:=qd1 (P:=P) (w:=w) .sliceAcap hb hhi hhi0
    obtain ⟨b2,c2⟩:=qd1 (P:=P) (w:=w) .sliceB hl hlo hlo0
    have hh0:hh=0:=by
     cases hi with
     | none=>simp [boundA] at hb;omega
     | some _=>have:=c1 rfl;omega
    subst hh0
    have hl0:l=0:=by
     cases lo with
     | none=>simp [boundA] at hl;omega
     | some _=>have:=c2 rfl;omega
    subst hl0
    refine ⟨_,?_,.a (.s .sliceNil)⟩
    simp [Instr.sliceAt,run_underlying hu,Instr.slice,ql6 b1 b2,qdg hs]
   ·cases h
  ·cases h
 ·rename_i b o sp n sz
  split at h
  ·rename_i e size hh he hb
   split at h
   ·rename_i l hl
    obtain ⟨hu,hs⟩:=qct he
    have key:∀ (ad:Addr) (c:Nat),x' = .slice (some ad) n c→n≤c →
      (Instr.sliceAt t x' lo' hi' none).run P w = .ok (.slice (if c=l then some ad else some (ad.add (l*size))) (hh - l) (c - l)) w∧hh≤c∧l≤hh:=by
     intro ad c hxe hnc
     have hb':boundA hi n c=some hh:=by
      unfold boundA at hb ⊢
      split
      ·exact hb
      ·rename_i k q
       simp only at hb
       split at hb
       ·rename_i hq
        rw [if_pos (by omega)];exact hb
       ·cases hb
      ·simp at hb
     obtain ⟨b1,c1⟩:=qd1 (P:=P) (w:=w) .sliceAcap hb' hhi hhi0
     obtain ⟨b2,c2⟩:=qd1 (P:=P) (w:=w) .sliceB hl hlo hlo0
     have hhc:hh≤c:=by
      cases hi with
      | none=>simp [boundA] at hb;omega
      | some _=>exact c1 rfl
     have hlh:l≤hh:=by
      cases lo with
      | none=>simp [boundA] at hl;omega
      | some _=>exact c2 rfl
     refine ⟨?_,hhc,hlh⟩
     subst hxe
     simp [Instr.sliceAt,run_underlying hu,Instr.slice,ql6 b1 b2,qdg hs]
    have hshape:∃ ad c,x' = .slice (some ad) n c∧n≤c∧(sp=none→∃ l0,m b=some l0∧ad=⟨l0.g,l0.o+o,none⟩∧l0.o+o+c*sz≤l0.N)∧(sp≠none→n=0∧b=0∧o=0):=by
     cases sp with
     | none =>
       obtain ⟨l0,c,hl0,rfl,h1,h2⟩:=hx.slice_
       exact ⟨_,c,rfl,h1,(fun _=>⟨l0,hl0,rfl,h2⟩),(fun h=>absurd rfl h)⟩
     | some p =>
       obtain ⟨h1,h2,h3,g,c,rfl⟩:=hx.lost_
       subst h1;subst h2;subst h3
       exact ⟨g,c,rfl,Nat.zero_le _,(fun h=>by cases h),(fun _=>⟨rfl,rfl,rfl⟩)⟩
    obtain ⟨ad,c,hxe,hnc,hsp,hlost⟩:=hshape
    obtain ⟨hrun,hhc,hlh⟩:=key ad c hxe hnc
    split at h
    ·rename_i hl0
     subst hl0
     injection h with h
     subst h
     refine ⟨_,hrun,?_⟩
     have hadd:(if c=0 then some ad else some (ad.add (0*size)))=some ad:=by
      split
      ·rfl
      ·simp [Addr.add]
     rw [hadd,Nat.sub_zero,Nat.sub_zero]
     cases sp with
     | none =>
       obtain ⟨l0,hl0,rfl,h2⟩:=hsp rfl
       exact .a (.s (.slice b o hh sz c l0 hl0 hhc h2))
     | some p =>
       obtain ⟨h1,h2,h3⟩:=hlost (by simp)
       subst h2;subst h3
       have:hh=0:=by
        cases hi with
        | none=>simp [boundA] at hb;omega
        | some y =>
          subst h1
          have:=(qd1 (P:=P) (w:=w) .sliceAcap hb hhi hhi0).2 rfl
          omega
       subst this
       exact .a (.s (.lost p sz ad c))
    ·rename_i hl0
     split at h
     ·rename_i hlh'
      injection h with h
      subst h
      subst hlh'
      refine ⟨_,hrun,?_⟩
      rw [Nat.sub_self]
      have:∃ g,(if c=l then some ad else some (ad.add (l*size)))=some g:=by split<;>exact ⟨_,rfl⟩
      obtain ⟨g,hg⟩:=this
      rw [hg]
      exact .a (.s (.lost 0 0 g _))
     ·rename_i hne
      split at h
      ·rename_i hsz
       injection h with h
       subst h
       obtain ⟨hspn,hsz⟩:=hsz
       obtain rfl:sp=none:=by cases sp with | none=>rfl | some _=>simp at hspn
       obtain ⟨l0,hl0',rfl,h2⟩:=hsp rfl
       refine ⟨_,hrun,?_⟩
       rw [if_neg (by omega),qf2,Nat.add_assoc]
       refine .a (.s (.slice b (o+l*size) (hh - l) size (c - l) l0 hl0' (by omega) ?_))
       subst hsz
       have:(c - l)*size=c*size - l*size:=Nat.sub_mul _ _ _
       have h3:l*size≤c*size:=Nat.mul_le_mul_right _ (by omega)
       omega
      ·cases h
   ·cases h
  ·cases h
 ·rename_i s
  split at h
  ·rename_i hh hu hb
   split at h
   ·rename_i l hl
    injection h with h
    subst h
    obtain rfl:x' = .string s:=hx.plain rfl
    have b1:=(qd1 (P:=P) (w:=w) .sliceAlen hb hhi hhi0).1
    have b2:=(qd1 (P:=P) (w:=w) .sliceB hl hlo hlo0).1
    refine ⟨_,?_,.a (.s (.string _))⟩
    simp [Instr.sliceAt,run_underlying hu,Instr.slice,qp4 b1 b2]
   ·cases h
  ·cases h
 ·cases h
end
end Go.Abs
namespace Go.Abs
section
variable {P:Program} {m:Mp} {H:Heap} {w:World} {nt:Nat} {a:Fr} {tmps:Array Value}
theorem qm2 (vs:List Value):∀ (C:Array Value) (o:Nat),(setArr C o vs).toList=setList C.toList o vs:=by
 induction vs with
 | nil=>intro C o;rfl
 | cons v vs ih=>intro C o;rw [setArr,setList,ih];simp
theorem foldZip (vs:List Value) (off:Nat):∀ (k:Nat) (C:Array Value),(vs.zipIdx k).foldl (fun cs (c:Value×Nat)=>cs.setIfInBounds (off+c.2) c.1) C=setArr C (off+k) vs:=by
 induction vs with
 | nil=>intro k C;rfl
 | cons v vs ih =>
   intro k C
   rw [List.zipIdx_cons,List.foldl_cons,ih (k+1),setArr]
   rfl
theorem qp5 {cs cs' vs vs':List Value} (hv:All2 (SR m) vs vs'):All2 (SR m) cs cs'→∀ o,All2 (SR m) (setList cs o vs) (setList cs' o vs'):=by
 induction hv generalizing cs cs' with
 | nil=>intro h o;exact h
 | cons h _ ih=>intro hc o;exact ih (hc.set h o) (o+1)
theorem qg6 {place:Nat→Option (Nat×Nat)} {parts parts':List (Nat×Value)} (hp:All2 (fun (p q:Nat×Value)=>q.1=p.1∧VR m p.2 q.2) parts parts'):∀ {cs r:List Value} {C:Array Value},
  fillL place cs parts=some r→All2 (SR m) cs C.toList→∃ R,Instr.fill place C parts'=some R∧All2 (SR m) r R.toList:=by
 induction hp with
 | nil=>intro cs r C h hc;simp only [fillL] at h;injection h with h;subst h;exact ⟨C,rfl,hc⟩
 | @cons p q l l' hpq _ ih =>
   intro cs r C h hc
   obtain ⟨i,v⟩:=p
   obtain ⟨i',v'⟩:=q
   obtain ⟨h1,h2⟩:=hpq
   simp only at h1 h2
   subst h1
   simp only [fillL] at h
   split at h
   ·rename_i off size vc hpl hs
    split at h
    ·rename_i hle
     obtain ⟨h3,_⟩:=qfd hs h2
     have hlen:=h3.length
     have hcl:=hc.length
     simp only [Array.length_toList] at hlen hcl
     have hnew:=qp5 h3 hc off
     rw [← qm2 v'.cells.toList C off] at hnew
     obtain ⟨R,hR,hr⟩:=ih h hnew
     refine ⟨R,?_,hr⟩
     rw [Instr.fill,hpl]
     simp only
     rw [if_neg (by simp;omega)]
     have hz:v'.cells.zipIdx.foldl (fun cs (x:Value×Nat)=>cs.setIfInBounds (off+x.2) x.1) C=setArr C off v'.cells.toList:=by
      rw [← Array.foldl_toList,Array.toList_zipIdx,foldZip];rfl
     exact (congrArg (fun x=>Instr.fill place x l') hz).trans hR
    ·cases h
   ·cases h
theorem qm3:∀ {fs:List Field} {r:List (Nat×Nat)},sizesOf P fs=some r→(fs.mapM (m:=Sem) fun f=>do pure (f.offset,← sizeOf f.type)).run P w = .ok r w:=by
 intro fs
 induction fs with
 | nil=>intro r h;simp only [sizesOf] at h;injection h with h;subst h;rfl
 | cons f fs ih =>
   intro r h
   simp only [sizesOf] at h
   split at h
   ·rename_i s r' hs hr
    injection h with h
    subst h
    simp only [List.mapM_cons,Sem.run_bind,qdg hs,Result.andThen_ok,ih hr,Sem.run_pure]
   ·cases h
theorem parts_rel {parts:List (Nat×Operand)} (hv:∀ p∈parts,VR m (ev a p.2) (evC tmps p.2)) :
  All2 (fun (p q:Nat×Value)=>q.1=p.1∧VR m p.2 q.2) (parts.map fun p=>(p.1,ev a p.2)) (parts.map fun p=>(p.1,evC tmps p.2)) :=
 All2.map_same parts fun p hp=>⟨rfl,hv p hp⟩
theorem qm4 {z:Value} (h:constAgg z=true):All2 (SR m) z.cells.toList z.cells.toList:=by
 have:=AR.of_const m h
 cases this with
 | s h' =>
   have h1:=h'.one
   have hc:z.cells = #[z]:=by cases z<;>first | rfl | exact False.elim h1
   rw [hc];exact .cons h' .nil
 | agg h'=>exact h'
theorem qon {t:TypeId} {parts parts':List (Nat×Value)} {r:Value} (h:buildA P t parts=some r) (hp:All2 (fun (p q:Nat×Value)=>q.1=p.1∧VR m p.2 q.2) parts parts') :
  ∃ r',(Instr.build t parts'.toArray).run P w = .ok r' w∧VR m r r':=by
 unfold buildA at h
 split at h
 ·rename_i z fields hz hu
  obtain ⟨hz1,hz2⟩:=qer hz w
  split at h
  ·rename_i places hpl
   split at h
   ·rename_i cells hc
    injection h with h
    subst h
    obtain ⟨R,hR,hr⟩:=qg6 (C:=z.cells) hp hc (qm4 hz2)
    refine ⟨.agg R,?_,.a (.agg (by simpa using hr))⟩
    have hpl':=qm3 (w:=w) hpl
    have hmap:(fields.mapM (m:=Sem) fun f=>do pure (f.offset,← sizeOf f.type)).run P w = .ok places.toArray w:=by
     rw [Array.mapM_eq_mapM_toList]
     simp only [← bind_pure_comp,Sem.run_bind,hpl',Result.andThen_ok]
     rfl
    simp only [Instr.build,Sem.run_bind,hz1,Result.andThen_ok,run_underlying hu,hmap]
    have:(fun (x:Nat)=>places.toArray[x]?)=fun (x:Nat)=>places[x]? := by funext x;simp
    rw [this,hR]
    rfl
   ·cases h
  ·cases h
 ·rename_i z n elem hz hu
  obtain ⟨hz1,hz2⟩:=qer hz w
  split at h
  ·rename_i size hs
   split at h
   ·rename_i cells hc
    injection h with h
    subst h
    obtain ⟨R,hR,hr⟩:=qg6 (C:=z.cells) hp hc (qm4 hz2)
    refine ⟨.agg R,?_,.a (.agg (by simpa using hr))⟩
    simp only [Instr.build,Sem.run_bind,hz1,Result.andThen_ok,run_underlying hu,qdg hs,hR]
    rfl
   ·cases h
  ·cases h
 ·cases h
theorem qe2 (z:List Value):∀ n,(repl n z).length=n*z.length:=by
 intro n
 induction n with
 | zero=>simp [repl]
 | succ n ih=>simp [repl,ih,Nat.succ_mul,Nat.add_comm]
theorem repl_get (z:List Value):∀ (n i:Nat) v,(repl n z)[i]?=some v→z[i % z.length]?=some v:=by
 intro n
 induction n with
 | zero=>intro i v h;simp [repl] at h
 | succ n ih =>
   intro i v h
   rw [repl] at h
   by_cases hi:i < z.length
   ·rw [List.getElem?_append_left hi] at h
    rw [Nat.mod_eq_of_lt hi];exact h
   ·rw [List.getElem?_append_right (by omega)] at h
    have:=ih _ _ h
    rw [Nat.mod_eq_sub_mod (by omega)];exact this
theorem qgk {e:TypeId} {size n c:Nat} {zs:List Value} (h:zeros P e size n=some zs) (hnc:n≤c) :
  ∃ z,zeroT P e=some z∧z.cells.size=size∧zs.length=n*size∧∀ (i:Nat) v,zs[i]?=some v→∃ v',((Array.range (c*size)).map (z.cells[· % z.cells.size]!))[i]?=some v'∧SR m v v':=by
 unfold zeros at h
 split at h
 ·rename_i z hz
  split at h
  ·rename_i hsz
   injection h with h
   subst h
   have hsz':z.cells.size=size:=by simpa using hsz
   refine ⟨z,hz,hsz',by rw [qe2,hsz],fun i v hv=>?_⟩
   have hi:i < n*size:=by have:=qa9 hv;rw [qe2,hsz] at this;exact this
   have hic:i < c*size:=Nat.lt_of_lt_of_le hi (Nat.mul_le_mul_right _ hnc)
   have h1:=repl_get _ _ _ _ hv
   have hc:=(qer hz default).2
   obtain ⟨y,h2,h3⟩:=(qm4 (m:=m) hc).get _ _ h1
   refine ⟨y,?_,h3⟩
   have h4:z.cells[i % z.cells.size]?=some y:=by simpa using h2
   have h5:z.cells[i % z.cells.size]! = y:=by rw [getElem!_def,h4]
   simp [hic,h5]
  ·cases h
 ·cases h
theorem Sim.newRow (hR:Rel m H w) {C:Array Value} {el:TypeId} {cs:List Value} (hcs:∀ (i:Nat) (v:Value),cs[i]?=some v→∃ v',C[i]?=some v'∧SR m v v') :
  ∃ w' m',(newRow el C).run P w = .ok ⟨w.heap.size,0,none⟩ w'∧m'=psh m H.length ⟨w.heap.size,0,C.size⟩∧Sim m H w m' (H++[.cells H.length true cs]) w' :=
 ⟨_,_,rfl,rfl,Sim.pushCells hR C el cs hcs⟩
theorem qd2 (_hR:Rel m H w) (l:Loc):psh m H.length l H.length=some l:=qcq ..
theorem qk0 (hR:Rel m H w) {v v':Value} {cs:List Value} {el:TypeId} (hs:scal v=some cs) (hv:VR m v v') :
  ∃ w' m' r',(Instr.box el v').run P w = .ok r' w'∧VR m' (ptrA H.length 0) r'∧Sim m H w m' (H++[.cells H.length true cs]) w':=by
 obtain ⟨h1,_⟩:=qfd hs hv
 obtain ⟨w',m',h2,h3,h4⟩:=Sim.newRow (P:=P) (el:=el) (C:=v'.cells) hR (cs:=cs) (fun i u hu=>by simpa using h1.get i u hu)
 refine ⟨w',m',.pointer (some ⟨w.heap.size,0,none⟩),by simp [Instr.box,newVar,h2],?_,h4⟩
 have:m' H.length=some ⟨w.heap.size,0,v'.cells.size⟩:=by rw [h3];exact qd2 hR _
 exact .a (.s (.ptr _ 0 _ this))
theorem bldZ_eq {cs:List Value} (h:bldZ cs=true):cs=[.pointer none,.slice none 0 0]:=by
 unfold bldZ at h
 split at h
 ·rfl
 ·cases h
theorem qoo {v:Value} (h1:All2 (SR m) [.pointer none,.slice none 0 0] v.cells.toList):v.cells = #[.pointer none,.slice none 0 0]:=by
 have hl:=h1.length
 obtain ⟨x,hx,rx⟩:=h1.get 0 _ rfl
 obtain ⟨y,hy,ry⟩:=h1.get 1 _ rfl
 have ex:x = .pointer none:=by cases rx;rfl
 have ey:y = .slice none 0 0:=by cases ry;rfl
 subst ex;subst ey
 apply Array.ext'
 match hl':v.cells.toList,hl,hx,hy with
 | [a,b],_,hx,hy=>simp at hx hy;subst hx;subst hy;rfl
theorem bld_sound (hR:Rel m H w) {v:Value} {cs:List Value} {t:TypeId} (hs:scal v=some cs) (hv:VR m v v) (hb:bldZ cs=true) :
  ∃ w' m' r',(Instr.box t v).run P w = .ok r' w'∧VR m' (ptrA H.length 0) r'∧Sim m H w m' (H++[.bld t none 0]) w':=by
 obtain ⟨h1,_⟩:=qfd hs hv
 obtain rfl:=bldZ_eq hb
 have hc:=qoo h1
 refine ⟨{ w with heap:=w.heap.push (.cells v.cells t) },psh m H.length ⟨w.heap.size,0,2⟩,.pointer (some ⟨w.heap.size,0,none⟩),by simp [Instr.box,newVar,newRow,newObj,Sem.run],.a (.s (.ptr _ 0 _ (qcq ..))),?_⟩
 refine Sim.push hR _ _ _ rfl rfl ⟨rfl,.pointer none,.slice none 0 0,?_,.inl rfl,rfl,rfl⟩
 rw [hc]
 exact qd0 w _
theorem qlx {t e:TypeId} {size len:Nat} {parts':Array (Nat×Value)} {z:Value} {R:Array Value} (hu:P.underlying t=some (.slice e)) (hs:sizeT P e=some size) (hlim:¬ (len*size > 2 ^ 24)) (hz1:zeroT P e=some z)
  (hR1:Instr.fill (fun i=>some (i*size,size)) ((Array.range (len*size)).map (z.cells[· % z.cells.size]!)) parts'.toList=some R) :
  (Instr.buildSlice t len parts').run P w = .ok (.slice (some ⟨w.heap.size,0,none⟩) len len) { w with heap:=w.heap.push (.cells R e) }:=by
 simp only [Instr.buildSlice,Sem.run_bind,run_underlying hu,Result.andThen_ok,qdg hs,if_neg hlim]
 by_cases h0:len*size=0
 ·have hsz0:((Array.range (len*size)).map (z.cells[· % z.cells.size]!))=(Array.range (len*size)).map ((#[]:Array Value)[· % (#[]:Array Value).size]!):=by
   rw [h0];simp
  rw [hsz0] at hR1
  simp only [h0] at hR1 ⊢
  simp only [if_true,Sem.run_pure,Result.andThen_ok,hR1,Sem.run_bind,newRow,newObj,Sem.run]
 ·simp only [if_neg h0,Sem.run_bind,(qer hz1 w).1,Result.andThen_ok,Sem.run_pure,hR1,newRow,newObj,Sem.run]
theorem qjm {place:Nat→Option (Nat×Nat)} {ps:List (Nat×Value)}:∀ {cs r:List Value},fillL place cs ps=some r→r.length=cs.length:=by
 induction ps with
 | nil=>intro cs r h;simp only [fillL] at h;injection h with h;rw [h]
 | cons p ps ih =>
   intro cs r h
   obtain ⟨i,v⟩:=p
   simp only [fillL] at h
   split at h
   ·split at h
    ·rw [ih h,qeq]
    ·cases h
   ·cases h
theorem qi3 (hR:Rel m H w) {t:TypeId} {len:Nat} {parts parts':List (Nat×Value)} {r:Value} {H':Heap} (h:buildSliceA P t len parts H=some (r,H'))
  (hp:All2 (fun (p q:Nat×Value)=>q.1=p.1∧VR m p.2 q.2) parts parts'):∃ w' m' r',(Instr.buildSlice t len parts'.toArray).run P w = .ok r' w'∧VR m' r r'∧Sim m H w m' H' w':=by
 unfold buildSliceA at h
 split at h
 ·rename_i e size he
  obtain ⟨hu,hs⟩:=qct he
  split at h
  ·rename_i hsz
   split at h
   ·rename_i zs hz
    split at h
    ·rename_i cells hc
     injection h with h
     injection h with h1 h2
     subst h1;subst h2
     obtain ⟨z,hz1,hz2,hz3,hz4⟩:=qgk (m:=m) hz (Nat.le_refl len)
     have hC:All2 (SR m) zs ((Array.range (len*size)).map (z.cells[· % z.cells.size]!)).toList :=
      .of_get (by simp [hz3]) fun i x y hx hy=>by
       obtain ⟨v',h1,h2⟩:=hz4 i x hx
       have hy':((Array.range (len*size)).map (z.cells[· % z.cells.size]!))[i]?=some y:=by rw [← Array.getElem?_toList];exact hy
       rw [h1] at hy'
       injection hy' with hy'
       rw [← hy'];exact h2
     obtain ⟨R,hR1,hr⟩:=qg6 hp hc hC
     obtain ⟨w',m',h2,h3,h4⟩:=Sim.newRow (P:=P) (el:=e) (C:=R) hR (cs:=cells) (fun i u hu=>by simpa using hr.get i u hu)
     refine ⟨w',m',.slice (some ⟨w.heap.size,0,none⟩) len len,?_,?_,h4⟩
     ·have hlim:¬ (len*size > 2 ^ 24):=by unfold maxA at hsz;omega
      simp only [Instr.buildSlice,Sem.run_bind,run_underlying hu,Result.andThen_ok,qdg hs,if_neg hlim]
      by_cases h0:len*size=0
      ·have hsz0:((Array.range (len*size)).map (z.cells[· % z.cells.size]!))=(Array.range (len*size)).map ((#[]:Array Value)[· % (#[]:Array Value).size]!):=by
        rw [h0];simp
       rw [hsz0] at hR1
       simp only [h0] at hR1 ⊢
       simp only [if_true,Sem.run_pure,Result.andThen_ok,hR1,Sem.run_bind,h2]
      ·simp only [if_neg h0,Sem.run_bind,(qer hz1 w).1,Result.andThen_ok,Sem.run_pure,hR1,h2]
     ·have hl:m' H.length=some ⟨w.heap.size,0,R.size⟩:=by rw [h3];exact qd2 hR _
      refine .a (.s (.slice _ 0 len size len _ hl (Nat.le_refl _) ?_))
      have:=hr.length
      have h5:∀ {place:Nat→Option (Nat×Nat)} {cs r:List Value} {ps:List (Nat×Value)},fillL place cs ps=some r→r.length=cs.length:=by
       intro place cs r ps
       induction ps generalizing cs with
       | nil=>intro h;simp only [fillL] at h;injection h with h;rw [h]
       | cons p ps ih =>
         intro h
         obtain ⟨i,v⟩:=p
         simp only [fillL] at h
         split at h
         ·split at h
          ·rw [ih h,qeq]
          ·cases h
         ·cases h
      have h6:=h5 hc
      simp only [Array.length_toList] at this
      simp only
      omega
    ·cases h
   ·cases h
  ·cases h
 ·cases h
theorem qh9 {t:TypeId} {e:TypeId} {size bytes n c:Nat} {z:Value} (he:sliceElem P t=some (e,size)) (hb:bytesT P e=some bytes)
  (hnc:n≤c) (hc:c≤1048576) (hbytes:bytes≤1048576) (hz1:zeroT P e=some z) (hz2:z.cells.size=size) (k k':IntKind) :
  (Instr.makeSlice t (.int k n) (.int k' c)).run P w = .ok (.slice (some ⟨w.heap.size,0,none⟩) n c) { w with heap:=w.heap.push (.cells ((Array.range (c*size)).map (z.cells[· % z.cells.size]!)) e) }:=by
 obtain ⟨hu,hs⟩:=qct he
 unfold bytesT at hb
 cases hi:P.info? e with
 | none=>rw [hi] at hb;cases hb
 | some i =>
   rw [hi] at hb
   simp at hb
   have hw1:IntKind.i64.wrap (n:Int)=n:=by rw [IntKind.wrap_i64];omega
   have hw2:IntKind.i64.wrap (c:Int)=c:=by rw [IntKind.wrap_i64];omega
   have hm:bytes*c≤1048576*1048576:=Nat.mul_le_mul hbytes hc
   have hmi:(bytes:Int)*(c:Int)≤1099511627776:=by
    have:((bytes*c:Nat):Int)≤1099511627776:=by omega
    rwa [Int.natCast_mul] at this
   have hn0:¬ ((c:Int) < 0):=by omega
   have htl:¬ ((i.bytes:Int)*(c:Int) > 2 ^ 48):=by rw [hb];omega
   have hroom:¬ (c*i.bytes > roomBytes):=by rw [hb,Nat.mul_comm];unfold roomBytes;omega
   have hcond:(decide ((c:Int) < 0) || decide ((i.bytes:Int)*(c:Int) > 2 ^ 48))=false:=by
    simp only [Bool.or_eq_false_iff,decide_eq_false_iff_not];exact ⟨hn0,htl⟩
   simp only [Instr.makeSlice,Sem.run_bind,run_underlying hu,Result.andThen_ok,asInt,asIntOf,Sem.run_pure,typeInfo,program,Sem.run,hi,hw1,hw2,hcond,Int.toNat_natCast,askRoom,if_neg hroom]
   simp only [Bool.false_or,Bool.or_eq_true,decide_eq_true_eq,if_neg (show ¬ (((n:Int) < 0)∨(n:Int) > c) from by omega)]
   simp only [Sem.run_bind,Result.andThen_ok,Sem.run_pure,qdg hs]
   by_cases h0:c*size=0
   ·simp only [h0,if_true]
    have hsz0:((Array.range 0).map (z.cells[· % z.cells.size]!))=(Array.range 0).map ((#[]:Array Value)[· % (#[]:Array Value).size]!):=by simp
    rw [hsz0]
    simp only [Sem.run_bind,newRow,newObj,Sem.run,Result.andThen_ok,Sem.run_pure]
   ·simp only [if_neg h0,Sem.run_bind,(qer hz1 w).1,Result.andThen_ok,Sem.run_pure,newRow,newObj,Sem.run]
theorem qk1 (hR:Rel m H w) {t:TypeId} {e:TypeId} {size bytes n c:Nat} {zs:List Value} (he:sliceElem P t=some (e,size)) (hb:bytesT P e=some bytes)
  (hnc:n≤c) (hc:c≤1048576) (hbytes:bytes≤1048576) (hz:zeros P e size n=some zs) (k k':IntKind) :
  ∃ w' m' r',(Instr.makeSlice t (.int k n) (.int k' c)).run P w = .ok r' w'∧VR m' (sliceA H.length 0 n size) r'∧Sim m H w m' (H++[.cells H.length true zs]) w':=by
 obtain ⟨z,hz1,hz2,hz3,hz4⟩:=qgk (m:=m) hz hnc
 have hrun:=qh9 (P:=P) (w:=w) he hb hnc hc hbytes hz1 hz2 k k'
 refine ⟨_,_,_,hrun,?_,Sim.pushCells hR _ e zs hz4⟩
 exact .a (.s (.slice _ 0 n size c _ (qd2 hR _) hnc (by simp)))
end
end Go.Abs
namespace Go.Abs
section
variable {P:Program} {m:Mp} {H:Heap} {w:World} {nt:Nat} {a:Fr} {tmps:Array Value}
theorem qhj (hR:Rel m H w) {size:Nat} {v v':Value} {cs:List Value} (h:readA H size v=some cs) (hv:VR m v v') :
  ∃ base n c,v' = .slice base n c∧cs.length=n*size∧∃ vs:Array Value,(Builtin.firstCells size n v').run P w = .ok vs w∧All2 (SR m) cs vs.toList∧(base=none→n=0):=by
 unfold readA at h
 split at h
 ·injection h with h;subst h
  obtain ⟨_,_,rfl⟩:=hv.sliceNil_
  exact ⟨none,0,0,rfl,by simp,#[],by simp [Builtin.firstCells],.nil,fun _=>rfl⟩
 ·rename_i b o n e
  obtain ⟨l,c,hl,rfl,h1,h2⟩:=hv.slice_
  obtain ⟨vs,h3,h4,h5,_⟩:=hR.loads (P:=P) h hl
  exact ⟨_,n,c,rfl,(qky h).1,vs,by simp [Builtin.firstCells,h3],h4,(fun h=>by cases h)⟩
 ·injection h with h;subst h
  rename_i b o p c
  obtain ⟨_,_,_,g,c',rfl⟩:=hv.lost_
  exact ⟨_,0,c',rfl,by simp,#[],by simp [Builtin.firstCells,loadCells,loadCellsFrom],.nil,fun _=>rfl⟩
 ·cases h
theorem growBy_le (newLen B:Nat) (hB:newLen+(newLen+768) / 4≤B):∀ r c,c≤B→Builtin.growBy newLen r c≤B:=by
 intro r
 induction r with
 | zero=>intro c h;exact h
 | succ r ih =>
   intro c h
   rw [Builtin.growBy]
   split
   ·exact h
   ·exact ih _ (by omega)
theorem qgl {n c:Nat} (h:c < n):Builtin.nextslicecap n c≤2*n+192:=by
 unfold Builtin.nextslicecap
 split
 ·omega
 ·split
  ·omega
  ·exact growBy_le n _ (by omega) 4 c (by omega)
theorem qfj (z:Array Value) (n:Nat):(Builtin.zeroCells z n).size=n*z.size:=by simp [Builtin.zeroCells]
theorem qj1 {t ty e:TypeId} {i:TypeInfo} {z:Value} {base:Option Addr} {n c k:Nat} {x':Value} {old new:Array Value} (hu:P.underlying t=some (.slice e)) (hi:P.info? e=some i) (hz:i.zero=some z)
  (hzs:z.cells.size=i.size) (hb:i.bytes≤maxA) (hnk:n+k≤maxA) (hc:¬ n+k≤c) (hx:Builtin.lenOf x'=(pure k:Sem Nat)) (hold:(Builtin.firstCells i.size n (.slice base n c)).run P { w with drawn:=w.drawn+1 } = .ok old { w with drawn:=w.drawn+1 })
  (hnew:(Builtin.firstCells i.size k x').run P { w with drawn:=w.drawn+1 } = .ok new { w with drawn:=w.drawn+1 }) (hos:old.size=n*i.size) (hns:new.size=k*i.size) :
  ∃ (newCap:Nat) (C:Array Value) (w1:World),w1.heap=w.heap∧w1.os=w.os∧w1.tape=w.tape∧w1.output=w.output∧w.drawn≤w1.drawn∧n+k≤newCap∧C.size=newCap*i.size∧(∀ j,j < (n+k)*i.size→C[j]?=(old++new)[j]?) ∧
    (Builtin.append_ #[t,t] ty #[.slice base n c,x']).run P w = .ok (.slice (some ⟨w.heap.size,0,none⟩) (n+k) newCap) { w1 with heap:=w1.heap.push (.cells C e) }:=by
 have hcap:=qgl (n:=n+k) (c:=c) (by omega)
 have hmul:Builtin.nextslicecap (n+k) c*i.bytes≤(2*maxA+192)*maxA:=Nat.mul_le_mul (by omega) hb
 have hno:¬ (Builtin.nextslicecap (n+k) c*i.bytes > 2 ^ 48):=by
  have:(2*maxA+192)*maxA≤2 ^ 48:=by decide
  omega
 have hmx:¬ (((n+k:Nat):Int) > IntKind.i64.max):=by
  have:(IntKind.i64.max:Int)=9223372036854775807:=by decide
  have hm:maxA=4194304:=rfl
  omega
 let q:=Question.appendCap (n+k) c e
 have hch:(choose q).run P w = .ok (q.cut (w.tape w.drawn q)) { w with drawn:=w.drawn+1 }:=by simp [choose,Sem.run,q,Question.forced]
 let w1:World:={ w with drawn:=w.drawn+1 }
 let newCap:=q.cut (w.tape w.drawn q)
 have hge:n+k≤newCap:=by show n+k≤(n+k)+_;omega
 let rest:=Builtin.zeroCells z.cells (newCap - (n+k))
 refine ⟨newCap,old++new++rest,w1,rfl,rfl,rfl,rfl,Nat.le_succ _,hge,?_,?_,?_⟩
 ·simp only [Array.size_append,hos,hns,rest,qfj,hzs]
  rw [← Nat.add_mul,← Nat.add_mul]
  congr 1
  omega
 ·intro j hj
  rw [Array.getElem?_append_left]
  simp only [Array.size_append,hos,hns]
  rw [← Nat.add_mul];exact hj
 ·have hzeros:(match (P.underlying t) with | some (.int _)=>true | _=>false)=false:=by rw [hu]
  have hroom:∀ b w2,(askRoom b).run P w2 = .ok () w2:=by
   intro b w2;unfold askRoom;split
   ·rfl
   ·rfl
  have hI:∀ w2,(typeInfo e).run P w2 = .ok i w2:=fun w2=>by simp [typeInfo,hi]
  have hS:∀ w2,(sizeOf e).run P w2 = .ok i.size w2:=fun w2=>by simp [sizeOf,hI]
  have hZ:∀ w2,(zeroValue e).run P w2 = .ok z w2:=fun w2=>by simp [zeroValue,hI,hz]
  have hmx':¬ (((n+k:Nat):Int) > IntKind.i64.max∧(False∨i.bytes=0)):=fun h=>hmx h.1
  simp only [Builtin.append_,List.getElem?_toArray,List.getElem?_cons_zero,List.getElem?_cons_succ,Sem.run_bind,run_underlying hu,Result.andThen_ok,Sem.run_pure,hS,hI,hx,
   Bool.false_eq_true,if_false,if_neg hc,if_neg hmx',if_neg hno]
  rw [hch]
  simp only [Result.andThen_ok,Sem.run_bind,hI,hroom,Bool.not_false,if_true,hZ,Sem.run_pure]
  simp only [hold,hnew,Result.andThen_ok]
  rfl
theorem Rel.grow {w':World} (h:Rel m H w) (hsz:w.heap.size≤w'.heap.size) (f:Blk→Blk) (hf:∀ x,Like x (f x)) (x:Blk) (l:Loc) (hlg:l.g < w'.heap.size) (hold:∀ (b:Nat) y k,H[b]?=some y→m b=some k→BR (psh m H.length l) w' k (f y)) (hnew:BR (psh m H.length l) w' l x)
  (hsep:∀ (b:Nat) y k,H[b]?=some y→m b=some k→(f y).live=true→k.g=l.g→x.kin (f y)∧(f y).kin x∧l.o=k.o):Rel (psh m H.length l) (H.map f++[x]) w':=by
 have old:∀ (b:Nat) y k,b≠H.length→(H.map f++[x])[b]?=some y→psh m H.length l b=some k→∃ z,H[b]?=some z∧y=f z∧m b=some k:=by
  intro b y k hb hy hk
  have hlt:b < H.length:=by have:=qa9 hy;simp at this;omega
  rw [List.getElem?_append_left (by simpa using hlt)] at hy
  rw [qci l hb] at hk
  obtain ⟨z,hz,rfl⟩:=qhi hy
  exact ⟨z,hz,rfl,hk⟩
 have new:∀ y k,(H.map f++[x])[H.length]?=some y→psh m H.length l H.length=some k→y=x∧k=l:=by
  intro y k hy hk
  rw [List.getElem?_append_right (by simp)] at hy
  rw [qcq] at hk
  simp at hy hk
  exact ⟨hy.symm,hk.symm⟩
 refine ⟨fun b k hk=>?_,fun b y hy hlv=>?_,fun b k hk=>?_,?_,?_⟩
 ·by_cases hb:b=H.length
  ·subst hb;simp
  ·rw [qci l hb] at hk
   have:=h.len _ _ hk
   simp;omega
 ·by_cases hb:b=H.length
  ·subst hb;exact ⟨l,qcq ..⟩
  ·have hlt:b < H.length:=by have:=qa9 hy;simp at this;omega
   rw [List.getElem?_append_left (by simpa using hlt)] at hy
   obtain ⟨z,hz,rfl⟩:=qhi hy
   rw [qci l hb]
   exact h.has b z hz ((hf z).live hlv)
 ·by_cases hb:b=H.length
  ·subst hb
   rw [qcq] at hk
   injection hk with hk
   subst hk
   exact hlg
  ·rw [qci l hb] at hk
   exact Nat.lt_of_lt_of_le (h.bnd b k hk) hsz
 ·intro b y k hy hk
  by_cases hb:b=H.length
  ·subst hb
   obtain ⟨rfl,rfl⟩:=new y k hy hk
   exact hnew
  ·obtain ⟨z,hz,rfl,hk⟩:=old b y k hb hy hk
   exact hold b z k hz hk
 ·intro b c y z k j hbc hy hz hk hj hyo hzl hg
  by_cases hb:b=H.length
  ·subst hb
   obtain ⟨rfl,rfl⟩:=new y k hy hk
   obtain ⟨z',hz',rfl,hj'⟩:=old c z j (fun e=>hbc e.symm) hz hj
   have:=hsep c z' j hz' hj' hzl hg.symm
   exact ⟨this.1,this.2.2⟩
  ·obtain ⟨y',hy',rfl,hk'⟩:=old b y k hb hy hk
   have hyl:(f y').live=true:=by cases hfy:f y'<;>first | rfl | (rw [hfy] at hyo;cases hyo)
   by_cases hc:c=H.length
   ·subst hc
    obtain ⟨rfl,rfl⟩:=new z j hz hj
    have:=hsep b y' k hy' hk' hyl hg
    exact ⟨this.2.1,this.2.2.symm⟩
   ·obtain ⟨z',hz',rfl,hj'⟩:=old c z j hc hz hj
    obtain ⟨h1,h2⟩:=h.sep b c y' z' k j hbc hy' hz' hk' hj' ((hf y').owned hyo) ((hf z').live hzl) hg
    exact ⟨(hf y').kin (hf z') hyl hzl h1,h2⟩
theorem kin_symm {x y:Blk} (h:x.kin y):y.kin x:=by
 obtain ⟨f,cs,ds,rfl,rfl⟩:=qhh.1 h
 exact qhh.2 ⟨f,ds,cs,rfl,rfl⟩
theorem Sim.growHere (hR:Rel m H w) {b fam q:Nat} {cs news:List Value} {l:Loc} (hb:H[b]?=some (.cells fam true cs)) (hl:m b=some l) (hq:q≤cs.length) {vs:List Value} (hv:All2 (SR m) news vs)
  (hfit:l.o+q+vs.length≤l.N):∃ w',(storeCells ⟨l.g,l.o+q,none⟩ vs).run P w = .ok () w'∧Sim m H w (psh m H.length l) (H.map (truncFam fam q)++[.cells fam true (cs.take q++news)]) w':=by
 obtain ⟨C,el,fr,h1,h2,h3,h4⟩:=hR.blk b _ l hb hl
 obtain rfl:fr=(0,0):=h3 rfl
 have hone:∀ v∈vs,Abs.one v:=by
  intro v hv'
  obtain ⟨i,hi,rfl⟩:=List.getElem_of_mem hv'
  obtain ⟨y,hy,hr⟩:=hv.get i _ (List.getElem?_eq_getElem (by rw [hv.length];exact hi))
  rw [List.getElem?_eq_getElem hi] at hy
  injection hy with hy
  rw [hy];exact hr.one
 obtain ⟨w',hr,hw⟩:=qfi P l.g el vs (l.o+q) 0 C w h1 (by omega) hone
 simp only [Nat.add_zero] at hw
 have hget:∀ i,(setArr C (l.o+q) vs)[i]?=if l.o+q≤i∧i < l.o+q+vs.length then vs[i - (l.o+q)]? else C[i]? := fun i=>qg5 vs C _ i (by omega)
 refine ⟨w',hr,.push l hR.free,?_,⟨hw.os,hw.tape,hw.output,Nat.le_of_eq hw.size.symm,fun g hg hn=>hw.there g fun e=>hn ⟨b,_,l,hb,hl,rfl,e.symm⟩⟩,?_,by simp,fun c k hk=>by
  by_cases hc:c=H.length
  ·subst hc
   rw [qcq] at hk
   injection hk with hk
   subst hk
   exact .inl ⟨b,_,hl,rfl⟩
  ·rw [qci _ hc] at hk
   exact .inl ⟨c,k,hk,rfl⟩⟩
 ·refine hR.grow (Nat.le_of_eq hw.size.symm) _ (qds fam q) _ l (by rw [hw.size];exact hR.bnd b l hl) (fun c y k hy hk=>?_) ⟨_,el,(0,0),hw.here,by rw [qf3,h2],fun _=>rfl,fun i v hi=>?_⟩ (fun c y k hy hk hyl hg=>?_)
  ·refine BR.keep (m:=m) (.push l hR.free) (w:=w') ?_ (fun _=>rfl)
   refine (hR.blk c y k hy hk).trunc fun hlive=>?_
   by_cases hg:k.g=l.g
   ·refine .inr ⟨C,_,el,?_,by rw [hg];exact h1,by rw [hg];exact hw.here,qf3 _ _ _,fun i hi=>?_⟩
    ·by_cases hcb:c=b
     ·subst hcb;rw [hy] at hb;injection hb with hb;subst hb;exact rfl
     ·obtain ⟨hkin,_⟩:=hR.sep b c _ y l k (fun e=>hcb e.symm) hb hy hl hk rfl hlive hg.symm
      obtain ⟨f,ds,es,e1,rfl⟩:=qhh.1 hkin
      injection e1 with e1
      subst e1
      exact rfl
    ·have hko:k.o=l.o:=by
      by_cases hcb:c=b
      ·subst hcb;rw [hk] at hl;injection hl with hl;rw [hl]
      ·exact (hR.sep b c _ y l k (fun e=>hcb e.symm) hb hy hl hk rfl hlive hg.symm).2.symm
     rw [hget,if_neg (by omega)]
   ·exact .inl (hw.there _ hg)
  ·rw [hget]
   have hsplit:cs.length≥q:=hq
   by_cases hiq:i < q
   ·rw [List.getElem?_append_left (by simp;omega),List.getElem?_take,if_pos hiq] at hi
    obtain ⟨v',a1,a2⟩:=h4 i v hi
    exact ⟨v',by rw [if_neg (by omega)];exact a1,a2.mono (.push l hR.free)⟩
   ·rw [List.getElem?_append_right (by simp;omega)] at hi
    simp only [List.length_take,Nat.min_eq_left hq] at hi
    obtain ⟨y,a1,a2⟩:=hv.get _ _ hi
    have:=qa9 a1
    exact ⟨y,by rw [if_pos (by omega),show l.o+i - (l.o+q)=i - q from by omega];exact a1,a2.mono (.push l hR.free)⟩
  ·have hlive:y.live=true:=(qds fam q y).live hyl
   have hkin:(Blk.cells fam true cs).kin y∧l.o=k.o:=by
    by_cases hcb:c=b
    ·subst hcb
     rw [hy] at hb;injection hb with hb;subst hb
     rw [hk] at hl;injection hl with hl;subst hl
     exact ⟨rfl,rfl⟩
    ·exact hR.sep b c _ y l k (fun e=>hcb e.symm) hb hy hl hk rfl hlive hg.symm
   have h5:(Blk.cells fam true (cs.take q++news)).kin (truncFam fam q y):=by
    obtain ⟨f,ds,es,e1,rfl⟩:=qhh.1 hkin.1
    injection e1 with e1
    subst e1
    simp only [truncFam,if_true]
    rfl
   exact ⟨h5,kin_symm h5,hkin.2⟩
 ·rintro g ⟨c,y,k,hy,hk,ho,hg⟩
  by_cases hc:c=H.length
  ·subst hc
   rw [qcq] at hk
   injection hk with hk
   subst hk
   exact .inl ⟨b,_,l,hb,hl,rfl,hg⟩
  ·have hlt:c < H.length:=by have:=qa9 hy;simp at this;omega
   rw [List.getElem?_append_left (by simpa using hlt)] at hy
   rw [qci _ hc] at hk
   obtain ⟨z,hz,rfl⟩:=qhi hy
   exact .inl ⟨c,z,k,hz,hk,(qds fam q z).owned ho,hg⟩
theorem Sim.growAway (hR:Rel m H w) {fam q fam':Nat} {w1:World} (hw1:w1.heap=w.heap) (h1:w1.os=w.os) (h2:w1.tape=w.tape) (h3:w1.output=w.output) (h4:w.drawn≤w1.drawn) (C:Array Value) (el:TypeId) (cs:List Value)
  (hcs:∀ (i:Nat) (v:Value),cs[i]?=some v→∃ v',C[i]?=some v'∧SR m v v') :
  Sim m H w (psh m H.length ⟨w.heap.size,0,C.size⟩) (H.map (truncFam fam q)++[.cells fam' true cs]) { w1 with heap:=w1.heap.push (.cells C el) }:=by
 have hold:∀ (b:Nat) y k,H[b]?=some y→m b=some k→y.live=true→k.g < w.heap.size:=fun b y k hy hk hlv=>(hR.blk b y k hy hk).lt hlv
 refine ⟨.push _ hR.free,?_,⟨h1,h2,h3,by simp [hw1],fun g hg _=>by simp only [hw1];exact qdo w _ hg⟩,?_,by simp,fun c k hk=>by
  by_cases hc:c=H.length
  ·subst hc
   rw [qcq] at hk
   injection hk with hk
   subst hk
   exact .inr (Nat.le_refl _)
  ·rw [qci _ hc] at hk
   exact .inl ⟨c,k,hk,rfl⟩⟩
 ·refine hR.grow (by simp [hw1]) _ (qds fam q) _ _ (by simp [hw1]) (fun c y k hy hk=>?_) ⟨C,el,(0,0),by simp only [hw1];exact qd0 w _,rfl,fun _=>rfl,fun i v hi=>?_⟩ (fun c y k hy hk hyl hg=>?_)
  ·refine BR.keep (m:=m) (.push _ hR.free) (w:={ w1 with heap:=w1.heap.push (.cells C el) }) ?_ (fun _=>rfl)
   refine (hR.blk c y k hy hk).trunc fun hlive=>.inl ?_
   simp only [hw1]
   exact qdo w _ (hold c y k hy hk hlive)
  ·obtain ⟨v',a1,a2⟩:=hcs i v hi
   exact ⟨v',by simpa using a1,a2.mono (.push _ hR.free)⟩
  ·have:=hold c y k hy hk ((qds fam q y).live hyl)
   simp only at hg
   omega
 ·rintro g ⟨c,y,k,hy,hk,ho,hg⟩
  by_cases hc:c=H.length
  ·subst hc
   rw [qcq] at hk
   injection hk with hk
   subst hk
   exact .inr (by simp only at hg;omega)
  ·have hlt:c < H.length:=by have:=qa9 hy;simp at this;omega
   rw [List.getElem?_append_left (by simpa using hlt)] at hy
   rw [qci _ hc] at hk
   obtain ⟨z,hz,rfl⟩:=qhi hy
   exact .inl ⟨c,z,k,hz,hk,(qds fam q z).owned ho,hg⟩
theorem qgm (f:Nat) (x:Blk):Like x (dropFam f x):=by
 unfold dropFam
 split
 ·split<;>constructor
 ·exact .refl _
theorem qop (hR:Rel m H w) {s s' x s1:Value} {H1:Heap} (h:rebaseA s x H=some (s1,H1)) (hs:VR m s s'):∃ m1,VR m1 s1 s'∧Sim m H w m1 H1 w:=by
 unfold rebaseA at h
 split at h
 case h_2=>cases h
 rename_i b o n sz
 split at h
 case h_2=>cases h
 split at h
 case h_2=>cases h
 rename_i fam cs hb
 split at h
 case isFalse=>cases h
 rename_i hc
 injection h with h
 injection h with e1 e2
 subst e1;subst e2
 obtain ⟨l,c,hl,rfl,hnc,hfit⟩:=hs.slice_
 obtain ⟨C,el,fr,h1,h2,h3,h4⟩:=hR.blk b _ l hb hl
 obtain rfl:fr=(0,0):=h3 rfl
 let l1:Loc:=⟨l.g,l.o+(o+1),l.N⟩
 have hdead:∀ (d:Nat) y k,H[d]?=some y→m d=some k→k.g=l.g→y.live=true→dropFam fam y = .dead:=by
  intro d y k hy hk hg hlv
  by_cases hd:d=b
  ·subst hd;rw [hy] at hb;injection hb with hb;subst hb;simp [dropFam]
  ·obtain ⟨hkin,_⟩:=hR.sep b d _ y l k (fun e=>hd e.symm) hb hy hl hk rfl hlv hg.symm
   obtain ⟨f,ds,es,e1,rfl⟩:=qhh.1 hkin
   injection e1 with e1
   subst e1
   simp [dropFam]
 refine ⟨psh m H.length l1,.a (.s (.slice _ 0 n sz c l1 (qcq ..) hnc (by show l.o+(o+1)+0+c*sz≤l.N;omega))),⟨.push l1 hR.free,?_,.refl m H w,?_,by simp,fun d k hk=>?_⟩⟩
 ·refine hR.grow (Nat.le_refl _) _ (qgm fam) _ l1 (hR.bnd b l hl) (fun d y k hy hk=>?_) ⟨C,el,(0,0),h1,h2,fun _=>rfl,fun i v hi=>?_⟩ (fun d y k hy hk hyl hg=>?_)
  ·have hk0:=BR.keep (m:=m) (.push l1 hR.free) (w':=w) (hR.blk d y k hy hk) (fun _=>rfl)
   cases y with
   | cells f own ds =>
     cases own with
     | false=>exact hk0
     | true =>
       simp only [dropFam]
       split
       ·trivial
       ·exact hk0
   | _=>exact hk0
  ·have hlt:=qa9 hi
   rw [List.getElem?_take] at hi
   split at hi
   ·rw [List.getElem?_drop] at hi
    obtain ⟨v',a1,a2⟩:=h4 _ v hi
    exact ⟨v',by show C[l.o+(o+1)+i]?=some v';rw [Nat.add_assoc];exact a1,a2.mono (.push l1 hR.free)⟩
   ·cases hi
  ·rw [hdead d y k hy hk hg ((qgm fam y).live hyl)] at hyl
   cases hyl
 ·rintro g ⟨d,y,k,hy,hk,ho,hg⟩
  by_cases hd:d=H.length
  ·subst hd
   rw [qcq] at hk
   injection hk with hk
   subst hk
   exact .inl ⟨b,_,l,hb,hl,rfl,hg⟩
  ·have hlt:d < H.length:=by have:=qa9 hy;simp at this;omega
   rw [List.getElem?_append_left (by simpa using hlt)] at hy
   rw [qci _ hd] at hk
   obtain ⟨z,hz,rfl⟩:=qhi hy
   exact .inl ⟨d,z,k,hz,hk,(qgm fam z).owned ho,hg⟩
 ·by_cases hd:d=H.length
  ·subst hd
   rw [qcq] at hk
   injection hk with hk
   subst hk
   exact .inl ⟨b,_,hl,rfl⟩
  ·rw [qci _ hd] at hk
   exact .inl ⟨d,k,hk,rfl⟩
theorem qk2 {t ty e:TypeId} {i:TypeInfo} {base:Option Addr} {n c:Nat} {x':Value} (hu:P.underlying t=some (.slice e)) (hi:P.info? e=some i) (hnc:n≤c) (hx:∃ b' c',x' = .slice b' 0 c') :
  (Builtin.append_ #[t,t] ty #[.slice base n c,x']).run P w = .ok (.slice base n c) w:=by
 obtain ⟨b',c',rfl⟩:=hx
 have hS:∀ w2,(sizeOf e).run P w2 = .ok i.size w2:=fun w2=>by simp [sizeOf,typeInfo,hi]
 simp only [Builtin.append_,List.getElem?_toArray,List.getElem?_cons_zero,List.getElem?_cons_succ,Sem.run_bind,run_underlying hu,Result.andThen_ok,Sem.run_pure,hS,Bool.false_eq_true,if_false,Builtin.lenOf,Nat.add_zero,if_pos hnc,Bool.not_false,if_true]
 have hf:(Builtin.firstCells i.size 0 (.slice b' 0 c')).run P w = .ok #[] w:=by
  cases b'<;>simp [Builtin.firstCells,loadCells,loadCellsFrom]
 rw [hf]
 cases base<;>simp [storeCells]
theorem qk3 {t ty e:TypeId} {i:TypeInfo} {ad:Addr} {n c k:Nat} {x':Value} {new:Array Value} {w':World} (hu:P.underlying t=some (.slice e)) (hi:P.info? e=some i) (hc:n+k≤c) (hx:Builtin.lenOf x'=(pure k:Sem Nat))
  (hnew:(Builtin.firstCells i.size k x').run P w = .ok new w) (hst:(storeCells (ad.add (n*i.size)) new.toList).run P w = .ok () w') :
  (Builtin.append_ #[t,t] ty #[.slice (some ad) n c,x']).run P w = .ok (.slice (some ad) (n+k) c) w':=by
 have hS:∀ w2,(sizeOf e).run P w2 = .ok i.size w2:=fun w2=>by simp [sizeOf,typeInfo,hi]
 simp only [Builtin.append_,List.getElem?_toArray,List.getElem?_cons_zero,List.getElem?_cons_succ,Sem.run_bind,run_underlying hu,Result.andThen_ok,Sem.run_pure,hS,hx,Bool.false_eq_true,if_false,if_pos hc,Bool.not_false,if_true,hnew,hst]
end
end Go.Abs
namespace Go.Abs
section
variable {P:Program} {m:Mp} {H:Heap} {w:World} {nt:Nat} {a:Fr} {tmps:Array Value}
theorem info_of {e:TypeId} {s b:Nat} {zs:List Value} (hs:sizeT P e=some s) (hb:bytesT P e=some b) (hz:zeros P e s 1=some zs) :
  ∃ i z,P.info? e=some i∧i.size=s∧i.bytes=b∧i.zero=some z∧z.cells.size=s:=by
 unfold sizeT at hs
 unfold bytesT at hb
 cases hi:P.info? e with
 | none=>rw [hi] at hs;cases hs
 | some i =>
   rw [hi] at hs hb
   simp at hs hb
   unfold zeros zeroT at hz
   rw [hi] at hz
   simp only at hz
   cases hzz:i.zero with
   | none=>rw [hzz] at hz;cases hz
   | some z =>
     rw [hzz] at hz
     simp only at hz
     split at hz
     ·rename_i z' hz'
      split at hz'
      ·injection hz' with hz'
       subst hz'
       split at hz
       ·rename_i hsz
        exact ⟨i,z,rfl,hs,hb,hzz,by simpa using hsz⟩
       ·cases hz
      ·cases hz'
     ·cases hz
theorem qr0 (f:Nat):∀ H:Heap,∃ q,∀ q',q≤q'→H.map (truncFam f q')=H:=by
 intro H
 induction H with
 | nil=>exact ⟨0,fun _ _=>rfl⟩
 | cons x H ih =>
   obtain ⟨q,hq⟩:=ih
   refine ⟨q+(match x with | .cells _ _ cs=>cs.length | _=>0),fun q' h=>?_⟩
   rw [List.map_cons,hq q' (by omega)]
   congr 1
   cases x with
   | cells g own cs =>
     simp only [truncFam]
     split
     ·rw [List.take_of_length_le (by simp only at h;omega)]
     ·rfl
   | _=>rfl
theorem qia (hR:Rel m H w) {t ty:TypeId} {s s' x x' r:Value} {H':Heap} (h:appendA P t s x H=some (r,H')) (hs:VR m s s') (hx:VR m x x') :
  ∃ w' m' r',(Builtin.append_ #[t,t] ty #[s',x']).run P w = .ok r' w'∧VR m' r r'∧Sim m H w m' H' w':=by
 unfold appendA at h
 split at h
 ·rename_i el size he
  obtain ⟨hu,hsz⟩:=qct he
  split at h
  ·rename_i hcond
   obtain ⟨hbs,hbl,hzs⟩:=hcond
   obtain ⟨bytes,hb⟩:=Option.isSome_iff_exists.1 hbs
   obtain ⟨zs1,hz1⟩:=Option.isSome_iff_exists.1 hzs
   obtain ⟨i,z,hi,hi1,hi2,hi3,hi4⟩:=info_of hsz hb hz1
   have hib:i.bytes≤maxA:=by rw [hi2];simpa [hb] using hbl
   split at h
   ·rename_i news ba k cc hread
    obtain ⟨xbase,xn,xc,hxe,hlen,vs,hv1,hv2,_⟩:=qhj (P:=P) hR hread hx
    have hxn:xn=k:=by
     cases ba with
     | none=>obtain ⟨h1,_,h3⟩:=hx.sliceNil_;subst h1;rw [h3] at hxe;injection hxe with _ e _;exact e.symm
     | some ad =>
       obtain ⟨b,o,sp⟩:=ad
       cases sp with
       | none=>obtain ⟨l,c,_,h3,_⟩:=hx.slice_;rw [h3] at hxe;injection hxe with _ e _;exact e.symm
       | some p=>obtain ⟨h1,_,_,g,c,h3⟩:=hx.lost_;subst h1;rw [h3] at hxe;injection hxe with _ e _;exact e.symm
    subst hxn
    have hlenOf:Builtin.lenOf x'=(pure xn:Sem Nat):=by rw [hxe];rfl
    split at h
    ·rename_i hk0
     subst hk0
     split at h
     ·rename_i sb sn sc
      injection h with h
      injection h with h1 h2
      subst h1;subst h2
      have hshape:∃ base c,s' = .slice base sn c∧sn≤c:=by
       cases sb with
       | none=>obtain ⟨h1,_,h3⟩:=hs.sliceNil_;subst h1;exact ⟨_,_,h3,Nat.le_refl _⟩
       | some ad =>
         obtain ⟨b,o,sp⟩:=ad
         cases sp with
         | none=>obtain ⟨l,c,_,h3,h4,_⟩:=hs.slice_;exact ⟨_,_,h3,h4⟩
         | some p=>obtain ⟨h1,_,_,g,c,h3⟩:=hs.lost_;subst h1;exact ⟨_,_,h3,Nat.zero_le _⟩
      obtain ⟨base,c,rfl,hnc⟩:=hshape
      exact ⟨w,m,_,qk2 hu hi hnc ⟨_,_,hxe⟩,hs,.refl hR⟩
     ·cases h
    ·rename_i hk0
     -- behind one draw
     have hR1:Rel m H { w with drawn:=w.drawn+1 }:=hR.world fun _ _=>rfl
     have moves:∀ (base:Option Addr) (n c:Nat) (ocs:List Value) (fam q fam':Nat),s' = .slice base n c→n≤c→¬ n+xn≤c→(n+xn)*size≤maxA→0 < size→ocs.length=n*size →
       (∃ vs:Array Value,(Builtin.firstCells size n (.slice base n c)).run P { w with drawn:=w.drawn+1 } = .ok vs { w with drawn:=w.drawn+1 }∧All2 (SR m) ocs vs.toList) →
       ∃ w' m' r',(Builtin.append_ #[t,t] ty #[s',x']).run P w = .ok r' w'∧VR m' (sliceA H.length 0 (n+xn) size) r'∧Sim m H w m' (H.map (truncFam fam q)++[.cells fam' true (ocs++news)]) w':=by
      rintro base n c ocs fam q fam' rfl hnc hno hmax hpos hol ⟨old,ho1,ho2⟩
      obtain ⟨xb2,xn2,xc2,hxe2,hlen2,vs2,hw1,hw2,_⟩:=qhj (P:=P) hR1 hread hx
      have:xn2=xn:=by rw [hxe] at hxe2;injection hxe2 with _ e _;exact e.symm
      subst this
      have hos:old.size=n*i.size:=by rw [hi1];have:=ho2.length;simp at this;omega
      have hns:vs2.size=xn2*i.size:=by rw [hi1];have:=hw2.length;simp at this;omega
      have hnk:n+xn2≤maxA:=Nat.le_trans (Nat.le_mul_of_pos_right _ hpos) hmax
      obtain ⟨newCap,C,w1,e1,e2,e3,e4,e5,hge,hCs,hCget,hrun⟩:=qj1 (ty:=ty) hu hi hi3 (by rw [hi4,hi1]) hib hnk hno hlenOf (by rw [hi1];exact ho1) (by rw [hi1];exact hw1) hos hns
      have hall:All2 (SR m) (ocs++news) (old++vs2).toList:=by simpa using ho2.append hw2
      have hlall:(ocs++news).length=(n+xn2)*size:=by rw [List.length_append,hol,hlen,Nat.add_mul]
      have hsim:=Sim.growAway hR (fam:=fam) (q:=q) (fam':=fam') e1 e2 e3 e4 e5 C el (ocs++news) fun j v hj=>by
       obtain ⟨y,a1,a2⟩:=hall.get j v hj
       refine ⟨y,?_,a2⟩
       rw [hCget j (by rw [hi1,← hlall];exact qa9 hj),← Array.getElem?_toList]
       exact a1
      refine ⟨_,_,_,hrun,?_,hsim⟩
      have hl:=qd2 hR (⟨w.heap.size,0,C.size⟩:Loc)
      exact .a (.s (.slice _ 0 (n+xn2) size newCap _ hl hge (by simp only;rw [hCs,hi1];omega)))
     split at h
     ·split at h
      ·rename_i hc
       injection h with h
       injection h with h1 h2
       subst h1;subst h2
       obtain ⟨_,_,rfl⟩:=hs.sliceNil_
       obtain ⟨q,hq⟩:=qr0 H.length H
       obtain ⟨w',m',r',h1,h2,h3⟩:=moves none 0 0 [] (H.length) q H.length rfl (Nat.le_refl _) (by omega) (by simpa using hc.2) hc.1 (by simp) ⟨#[],by simp [Builtin.firstCells],.nil⟩
       rw [hq q (Nat.le_refl _)] at h3
       exact ⟨w',m',r',h1,by simpa using h2,by simpa using h3⟩
      ·cases h
     ·rename_i b n sz
      split at h
      ·rename_i fam cs hbk
       split at h
       ·rename_i hc
        obtain ⟨hszz,hpos,hncs,hmax⟩:=hc
        subst hszz
        injection h with h
        injection h with h1 h2
        subst h1;subst h2
        obtain ⟨l,c,hl,rfl,hnc,hfit⟩:=hs.slice_
        simp only [Nat.add_zero] at hfit
        by_cases hroom:n+xn≤c
        ·have hvl:vs.toList.length=xn*sz:=by rw [← hv2.length,hlen]
         have hmul:(n+xn)*sz≤c*sz:=Nat.mul_le_mul_right _ hroom
         rw [Nat.add_mul] at hmul
         obtain ⟨w',hr,hsim⟩:=Sim.growHere (P:=P) hR hbk hl hncs hv2 (by omega)
         refine ⟨w',_,_,qk3 hu hi hroom hlenOf (by rw [hi1];exact hv1) (by rw [hi1,qf2,Nat.add_zero];exact hr),?_,hsim⟩
         exact .a (.s (.slice _ 0 (n+xn) sz c _ (qd2 hR l) hroom (by simpa using hfit)))
        ·refine moves _ n c (cs.take (n*sz)) fam (n*sz) fam rfl hnc hroom hmax hpos (by simp;omega) ?_
         have hca:H.cellsAt b 0 (n*sz)=some (cs.take (n*sz)):=by simp [Heap.cellsAt,hbk,hncs]
         obtain ⟨vs',h3,h4,_⟩:=hR1.loads (P:=P) hca hl
         exact ⟨vs',h3,h4⟩
       ·cases h
      ·cases h
     ·cases h
   ·cases h
  ·cases h
 ·cases h
theorem qm5 (hR:Rel m H w) {t ty:TypeId} {s s' x x' r:Value} {H':Heap} (h:appendX P t s x H=some (r,H')) (hs:VR m s s') (hx:VR m x x') :
  ∃ w' m' r',(Builtin.append_ #[t,t] ty #[s',x']).run P w = .ok r' w'∧VR m' r r'∧Sim m H w m' H' w':=by
 unfold appendX at h
 split at h
 ·rename_i s1 H1 hreb
  obtain ⟨m1,h1,h2⟩:=qop hR hreb hs
  obtain ⟨w',m',r',q1,q2,q3⟩:=qia (P:=P) (ty:=ty) h2.rel h h1 (hx.mono h2.ext)
  exact ⟨w',m',r',q1,q2,h2.trans q3⟩
 ·exact qia hR h hs hx
theorem qj2 (hR:Rel m H w) {t t' ty:TypeId} {s s' x x' r:Value} {H':Heap} (h:appendIntA P t t' s x H=some (r,H')) (hs:VR m s s') (hx:VR m x x') :
  ∃ w' m' r',(Builtin.append_ #[t,t'] ty #[s',x']).run P w = .ok r' w'∧VR m' r r'∧Sim m H w m' H' w':=by
 unfold appendIntA at h
 split at h
 case h_2=>cases h
 rename_i el size ik k he ht'
 split at h
 case isFalse=>cases h
 rename_i hc
 obtain ⟨hk0,hpos,hmax,hbs,hbl⟩:=hc
 split at h
 case h_2=>cases h
 rename_i zs hz
 injection h with h
 injection h with h1 h2
 subst h1;subst h2
 obtain ⟨_,_,rfl⟩:=hs.sliceNil_
 have hx:=hx.int_
 subst hx
 obtain ⟨n,rfl⟩:∃ n:Nat,k=n:=⟨k.toNat,by omega⟩
 simp only [Int.toNat_natCast] at hmax hz ⊢
 obtain ⟨hu,hsz⟩:=qct he
 obtain ⟨bytes,hb⟩:=Option.isSome_iff_exists.1 hbs
 obtain ⟨z,hz1,hz2,hz3,hz4⟩:=qgk (m:=m) hz (Nat.le_refl n)
 cases hi:P.info? el with
 | none=>unfold bytesT at hb;rw [hi] at hb;cases hb
 | some i =>
   have hib:i.bytes≤maxA:=by
    unfold bytesT at hb hbl;rw [hi] at hbl;simpa using hbl
   have hmA:maxA=4194304:=rfl
   have hnA:n≤maxA:=Nat.le_trans (Nat.le_mul_of_pos_right _ hpos) hmax
   have hcap:=qgl (n:=n) (c:=0) (by omega)
   have hmul:Builtin.nextslicecap n 0*i.bytes≤(2*maxA+192)*maxA:=Nat.mul_le_mul (by omega) hib
   have hno:¬ (Builtin.nextslicecap n 0*i.bytes > 2 ^ 48):=by
    have:(2*maxA+192)*maxA≤2 ^ 48:=by decide
    omega
   have hmx:¬ (((n:Nat):Int) > IntKind.i64.max∧(True∨i.bytes=0)):=by
    have:(IntKind.i64.max:Int)=9223372036854775807:=by decide
    omega
   have hw1:IntKind.i64.wrap (n:Int)=n:=by rw [IntKind.wrap_i64];omega
   have hneg:¬ ((n:Int) < 0):=by omega
   have hbig:¬ ((n:Int)*(i.bytes:Int) > 2 ^ 48):=by
    have h1:n*i.bytes≤maxA*maxA:=Nat.mul_le_mul hnA hib
    have h2:((n*i.bytes:Nat):Int)≤17592186044416:=by rw [hmA] at h1;omega
    rw [Int.natCast_mul] at h2
    omega
   let q:=Question.appendCap n 0 el
   have hch:(choose q).run P w = .ok (q.cut (w.tape w.drawn q)) { w with drawn:=w.drawn+1 }:=by simp [choose,Sem.run,q,Question.forced]
   let w1:World:={ w with drawn:=w.drawn+1 }
   let newCap:=q.cut (w.tape w.drawn q)
   have hge:n≤newCap:=by show n≤n+_;omega
   have hroom:∀ b w2,(askRoom b).run P w2 = .ok () w2:=by
    intro b w2;unfold askRoom;split
    ·rfl
    ·rfl
   have hI:∀ w2,(typeInfo el).run P w2 = .ok i w2:=fun w2=>by simp [typeInfo,hi]
   have hS:∀ w2,(sizeOf el).run P w2 = .ok size w2:=fun w2=>qdg hsz w2
   have hZ:∀ w2,(zeroValue el).run P w2 = .ok z w2:=fun w2=>(qer hz1 w2).1
   have hn0:¬ n*size=0:=by
    have:0 < n*size:=Nat.mul_pos (by omega) hpos
    omega
   have hlt:¬ n≤0:=by omega
   let C:Array Value:=#[]++Builtin.zeroCells z.cells n++Builtin.zeroCells z.cells (newCap - n)
   have hrun:(Builtin.append_ #[t,t'] ty #[.slice none 0 0,.int .i64 n]).run P w = .ok (.slice (some ⟨w.heap.size,0,none⟩) n newCap) { w1 with heap:=w1.heap.push (.cells C el) }:=by
    simp only [Builtin.append_,List.getElem?_toArray,List.getElem?_cons_zero,List.getElem?_cons_succ,Sem.run_bind,run_underlying hu,run_underlying ht',Result.andThen_ok,Sem.run_pure,hS,hI,asInt,asIntOf,hw1,
     if_true,if_neg hneg,if_neg hbig,Int.toNat_natCast,Nat.zero_add,if_neg hlt,if_neg hmx,if_neg hno]
    rw [hch]
    simp only [Result.andThen_ok,Sem.run_bind,hI,hroom,Bool.not_true,Bool.false_eq_true,if_false,if_neg hn0,hZ,Sem.run_pure,Builtin.firstCells]
    rfl
   have hCs:C.size=newCap*size:=by
    simp only [C,Array.size_append,qfj,hz2,List.size_toArray,List.length_nil,Nat.zero_add]
    rw [← Nat.add_mul];congr 1;omega
   have hcs:∀ (j:Nat) (v:Value),zs[j]?=some v→∃ v',C[j]?=some v'∧SR m v v':=by
    intro j v hj
    obtain ⟨y,a1,a2⟩:=hz4 j v hj
    refine ⟨y,?_,a2⟩
    have hjl:j < n*size:=by have:=qa9 hj;omega
    have e:C[j]?=(Builtin.zeroCells z.cells n)[j]? := by
     show (#[]++Builtin.zeroCells z.cells n++Builtin.zeroCells z.cells (newCap - n))[j]?=_
     rw [Array.getElem?_append_left (by simp only [Array.size_append,qfj,hz2,List.size_toArray,List.length_nil,Nat.zero_add];exact hjl)]
     simp
    rw [e,← a1]
    unfold Builtin.zeroCells
    rw [hz2]
   obtain ⟨q0,hq0⟩:=qr0 H.length H
   have hsim:=Sim.growAway hR (fam:=H.length) (q:=q0) (fam':=H.length) (w1:=w1) rfl rfl rfl rfl (Nat.le_succ _) C el zs hcs
   rw [hq0 q0 (Nat.le_refl _)] at hsim
   refine ⟨_,_,_,hrun,?_,hsim⟩
   exact .a (.s (.slice _ 0 n size newCap _ (qd2 hR _) hge (by simp only;rw [hCs];omega)))
theorem qp6 (hR:Rel m H w) {t t' ty:TypeId} {x x' y y' r:Value} {H':Heap} (h:copyA P t x y H=some (r,H')) (hx:VR m x x') (hy:VR m y y') :
  ∃ w' r',(Builtin.copy_ #[t,t'] ty #[x',y']).run P w = .ok r' w'∧VR m r r'∧Sim m H w m H' w':=by
 unfold copyA at h
 split at h
 ·rename_i el size ad dn dc sb sn sc he
  obtain ⟨hu,hsz⟩:=qct he
  have hyshape:∃ base c,y' = .slice base sn c:=by
   cases sb with
   | none=>obtain ⟨h1,_,h3⟩:=hy.sliceNil_;subst h1;exact ⟨_,_,h3⟩
   | some ad =>
     obtain ⟨b,o,sp⟩:=ad
     cases sp with
     | none=>obtain ⟨l,c,_,h3,h4,_⟩:=hy.slice_;exact ⟨_,_,h3⟩
     | some p=>obtain ⟨h1,_,_,g,c,h3⟩:=hy.lost_;subst h1;exact ⟨_,_,h3⟩
  have hxshape:∃ base c,x' = .slice base dn c:=by
   cases ad with
   | none=>obtain ⟨h1,_,h3⟩:=hx.sliceNil_;subst h1;exact ⟨_,_,h3⟩
   | some ad =>
     obtain ⟨b,o,sp⟩:=ad
     cases sp with
     | none=>obtain ⟨l,c,_,h3,h4,_⟩:=hx.slice_;exact ⟨_,_,h3⟩
     | some p=>obtain ⟨h1,_,_,g,c,h3⟩:=hx.lost_;subst h1;exact ⟨_,_,h3⟩
  obtain ⟨yb,yc,rfl⟩:=hyshape
  obtain ⟨xb,xc,rfl⟩:=hxshape
  split at h
  ·rename_i h0
   injection h with h
   injection h with h1 h2
   subst h1;subst h2
   refine ⟨w,goInt 0,?_,.a (.s (.int _ _)),.refl hR⟩
   have hf:(Builtin.firstCells size (Nat.min sn dn) (.slice yb sn yc)).run P w = .ok #[] w:=by
    have:Nat.min sn dn=0:=h0
    rw [this]
    cases yb<;>simp [Builtin.firstCells,loadCells,loadCellsFrom]
   have hm:Nat.min sn dn=0:=h0
   simp only [Builtin.copy_,List.getElem?_toArray,List.getElem?_cons_zero,List.getElem?_cons_succ,Sem.run_bind,run_underlying hu,Result.andThen_ok,Builtin.lenOf,Sem.run_pure,qdg hsz,hf]
   cases xb<;>simp [storeCells,hm]
  ·rename_i h0
   split at h
   ·rename_i b o cs hread
    split at h
    ·rename_i H1 hw
     injection h with h
     injection h with h1 h2
     subst h1;subst h2
     obtain ⟨l,c,hl,hxe,hnc,hfit⟩:=hx.slice_
     injection hxe with e1 _ e3
     subst e1
     subst e3
     -- the first cells of the source
     have hsrc:∃ vs:Array Value,(Builtin.firstCells size (min sn dn) (.slice yb sn yc)).run P w = .ok vs w∧All2 (SR m) (cs.take (min sn dn*size)) vs.toList:=by
      unfold readA at hread
      split at hread
      ·rename_i heq
       injection heq with _ e _
       subst e
       exact absurd (by simp) h0
      ·rename_i b2 o2 n2 e2 heq
       injection heq with q1 q2 q3
       subst q1;subst q2;subst q3
       obtain ⟨l2,c2,hl2,hye,_,_⟩:=hy.slice_
       injection hye with r1 _ _
       subst r1
       have hca:H.cellsAt b2 o2 (min sn dn*size)=some (cs.take (min sn dn*size)):=by
        unfold Heap.cellsAt at hread ⊢
        have hle:min sn dn*size≤sn*size:=Nat.mul_le_mul_right _ (Nat.min_le_left _ _)
        split at hread
        ·rename_i hbk
         split at hread
         ·injection hread with hread
          subst hread
          rw [if_pos (by omega),List.take_take,Nat.min_eq_left hle]
         ·cases hread
        ·cases hread
       obtain ⟨vs,h3,h4,_⟩:=hR.loads (P:=P) hca hl2
       exact ⟨vs,h3,h4⟩
      ·rename_i heq
       injection heq with q1 q2 q3
       subst q2
       exact absurd (by simp) h0
      ·cases hread
     obtain ⟨vs,h3,h4⟩:=hsrc
     obtain ⟨w',h5,h6⟩:=Sim.write (P:=P) hR hw hl h4
     refine ⟨w',goInt ((min sn dn:Nat):Int),?_,.a (.s (.int _ _)),h6⟩
     have hm:Nat.min sn dn=min sn dn:=rfl
     simp only [Builtin.copy_,List.getElem?_toArray,List.getElem?_cons_zero,List.getElem?_cons_succ,Sem.run_bind,run_underlying hu,Result.andThen_ok,Builtin.lenOf,Sem.run_pure,qdg hsz,hm,h3,h5]
    ·cases h
   ·cases h
 ·cases h
theorem qtk {kd:TypeDesc} {k k':Value} (h:keyKind kd k=true) (h':keyKind kd k'=true):Instr.sameNow kd k k'=some (sameKey k k'):=by
 cases kd<;>cases k<;>first | (simp [keyKind] at h;done) | skip
 all_goals (cases k'<;>first | (simp [keyKind] at h';done) | skip)
 ·simp [Instr.sameNow,sameKey]
 ·simp only [keyKind,beq_iff_eq] at h h'
  subst h;subst h'
  simp [Instr.sameNow,sameKey]
 ·simp [Instr.sameNow,sameKey]
abbrev ER (m:Mp) (e:Value×Value) (e':MapEntry):Prop:=e'.key=e.1∧AR m e.2 e'.val
theorem qib {kd:TypeDesc} {k:Value} (hk:keyKind kd k=true) {es:List (Value×Value)} {es':List MapEntry} (h:All2 (ER m) es es') (hes:es.all (fun e=>keyKind kd e.1)=true):∀ i0,
  (∃ i v v',findA k es=some v∧Instr.findNow kd k es' i0=some (some (i0+i,v'))∧AR m v v'∧(∃ e',es'[i]?=some e'∧sameKey k e'.key=true ∧
   ∀ u u' (f:MapEntry→MapEntry),AR m u u'→(∀ e:MapEntry,(f e).key=k∧(f e).val=u')→All2 (ER m) (setA k u es) (es'.modify i f))) ∨
  (findA k es=none∧Instr.findNow kd k es' i0=some none∧∀ u u' b,AR m u u'→All2 (ER m) (setA k u es) (es'++[{ key:=k,val:=u',born:=b }])):=by
 induction h with
 | nil=>intro i0;exact .inr ⟨rfl,rfl,fun u u' b hu=>.cons ⟨rfl,hu⟩ .nil⟩
 | @cons e e' l l' he hl ih =>
   intro i0
   obtain ⟨he1,he2⟩:=he
   simp only [List.all_cons,Bool.and_eq_true] at hes
   have hsn:Instr.sameNow kd k e'.key=some (sameKey k e.1):=by rw [he1];exact qtk hk hes.1
   obtain ⟨ek,evv⟩:=e
   simp only at he1 he2 hsn
   cases hs:sameKey k ek with
   | true =>
     refine .inl ⟨0,evv,e'.val,by simp [findA,hs],by simp [Instr.findNow,hsn,hs],he2,e',by simp,by rw [he1];exact hs,fun u u' f hu hf=>?_⟩
     simp only [setA,hs,if_true]
     have:(e'::l').modify 0 f=f e'::l':=by simp
     rw [this]
     exact .cons ⟨(hf e').1,by rw [(hf e').2];exact hu⟩ hl
   | false =>
     have hne:(if sameKey k ek=true then (k,evv)::l else (ek,evv)::setA k evv l)=(ek,evv)::setA k evv l:=by simp [hs]
     rcases ih hes.2 (i0+1) with ⟨i,v,v',h1,h2,h3,e2,h4,h5,h6⟩ | ⟨h1,h2,h3⟩
     ·refine .inl ⟨i+1,v,v',by simp [findA,hs,h1],by simp [Instr.findNow,hsn,hs,h2];omega,h3,e2,by simpa using h4,h5,fun u u' f hu hf=>?_⟩
      have:(e'::l').modify (i+1) f=e'::l'.modify i f:=by simp
      rw [this]
      simp only [setA,hs,Bool.false_eq_true,if_false]
      exact .cons ⟨he1,he2⟩ (h6 u u' f hu hf)
     ·refine .inr ⟨by simp [findA,hs,h1],by simp [Instr.findNow,hsn,hs,h2],fun u u' b hu=>?_⟩
      simp only [setA,hs,Bool.false_eq_true,if_false]
      exact .cons ⟨he1,he2⟩ (h3 u u' b hu)
theorem qjn {kt:TypeId} {kd:TypeDesc} {k:Value} (hkt:P.underlying kt=some kd) (hk:keyKind kd k=true) (e:Bool) (w:World):(Instr.checkKey e 10000 kt k).run P w = .ok () w:=by
 show (Instr.checkKey e (9999+1) kt k).run P w = .ok () w
 rw [Instr.checkKey]
 simp only [Sem.run_bind,run_underlying hkt,Result.andThen_ok]
 cases kd<;>first | (simp [keyKind] at hk;done) | rfl
theorem qf5 {kt:TypeId} {kd:TypeDesc} {k:Value} {es:List MapEntry} {r:Option (Nat×Value)} (hkt:P.underlying kt=some kd) (h:Instr.findNow kd k es 0=some r) (w:World):(Instr.findKey kt k es).run P w = .ok r w:=by
 simp only [Instr.findKey,Sem.run_bind,run_underlying hkt,Result.andThen_ok,h]
 rfl
theorem qic {kd:TypeDesc} {k:Value} (h:keyKind kd k=true):Abs.plain k=true:=by
 cases kd<;>cases k<;>first | rfl | (simp [keyKind] at h;done)
theorem qm6 (hR:Rel m H w) {t:TypeId} {x x' k k' r:Value} {ok:Bool} (h:lookupA P t x k ok H=some r) (hx:VR m x x') (hk:VR m k k') :
  ∃ r',(Instr.lookup t x' k' ok).run P w = .ok r' w∧VR m r r':=by
 unfold lookupA at h
 split at h
 ·rename_i kt et hu
  split at h
  ·rename_i kd z b hkt hz
   split at h
   ·rename_i es hb
    split at h
    ·rename_i hcond
     obtain ⟨hkk,hes⟩:=hcond
     obtain ⟨l,hl,rfl⟩:=hx.map_
     obtain rfl:=hk.plain (qic hkk)
     obtain ⟨es',ck,h1,h2,_⟩:=hR.blk b _ l hb hl
     have hget:(getObj l.g).run P w = .ok (.map es' ck) w:=by simp [getObj,Sem.run,h1]
     have hck:=qjn (P:=P) hkt hkk es'.isEmpty w
     obtain ⟨hz1,hz2⟩:=qer hz w
     rcases qib hkk h2 hes 0 with ⟨i,v,v',a1,a2,a3,_⟩ | ⟨a1,a2,_⟩
     ·rw [a1] at h
      injection h with h
      subst h
      have hf:=qf5 (P:=P) hkt a2 w
      refine ⟨if ok then .tuple #[v',.bool true] else v',?_,?_⟩
      ·simp only [Instr.lookup,Sem.run_bind,run_underlying hu,Result.andThen_ok,hget,hck,hf,Sem.run_pure]
      ·cases ok
       ·exact .a a3
       ·exact .tuple (.cons a3 (.cons (.s (.bool true)) .nil))
     ·rw [a1] at h
      injection h with h
      subst h
      have hf:=qf5 (P:=P) hkt a2 w
      refine ⟨if ok then .tuple #[z,.bool false] else z,?_,?_⟩
      ·simp only [Instr.lookup,Sem.run_bind,run_underlying hu,Result.andThen_ok,hget,hck,hf,Sem.run_pure,hz1]
      ·cases ok
       ·exact .a (.of_const m hz2)
       ·exact .tuple (.cons (.of_const m hz2) (.cons (.s (.bool false)) .nil))
    ·cases h
   ·cases h
  ·cases h
 ·cases h
theorem Sim.setObj (hR:Rel m H w) {b:Nat} {l:Loc} {x y:Blk} {o:Obj} (hb:H[b]?=some x) (hl:m b=some l) (hown:x.owned=true) (hlike:Like x y) (hncells:∀ f o cs,x≠.cells f o cs) (hbr:BR m { w with heap:=w.heap.setIfInBounds l.g o } l y) :
  Sim m H w m (H.set b y) { w with heap:=w.heap.setIfInBounds l.g o }:=by
 have hlive:x.live=true:=by cases x<;>first | rfl | cases hown
 refine Sim.like hR (by simp) ?_ ?_ ⟨rfl,rfl,rfl,by simp,fun g hg hn=>?_⟩
 ·intro c x' hx'
  by_cases hc:c=b
  ·subst hc
   rw [List.getElem?_set] at hx'
   simp only [if_true] at hx'
   split at hx'
   ·injection hx' with hx';subst hx';exact ⟨x,hb,hlike⟩
   ·cases hx'
  ·rw [List.getElem?_set,if_neg (fun e=>hc e.symm)] at hx'
   exact ⟨x',hx',.refl _⟩
 ·intro c x' k hx' hk
  by_cases hc:c=b
  ·subst hc
   obtain rfl:k=l:=by rw [hk] at hl;injection hl
   rw [List.getElem?_set] at hx'
   simp only [if_true] at hx'
   split at hx'
   ·injection hx' with hx';subst hx';exact hbr
   ·cases hx'
  ·rw [List.getElem?_set,if_neg (fun e=>hc e.symm)] at hx'
   refine (hR.blk c x' k hx' hk).keep (.refl m) fun hlv=>?_
   have hne:k.g≠l.g:=fun e=>by
    obtain ⟨hkin,_⟩:=hR.sep b c x x' l k (fun e=>hc e.symm) hb hx' hl hk hown hlv e.symm
    obtain ⟨f,cs,ds,rfl,rfl⟩:=qhh.1 hkin
    exact hncells _ _ _ rfl
   simp only
   rw [Array.getElem?_setIfInBounds,if_neg (fun e=>hne e.symm)]
 ·have hne:l.g≠g:=fun e=>hn ⟨b,x,l,hb,hl,hown,e⟩
  simp only
  rw [Array.getElem?_setIfInBounds,if_neg hne]
theorem ql7 {a b:ByteArray}:(a == b)=true↔a=b:=by
 obtain ⟨x⟩:=a
 obtain ⟨y⟩:=b
 show (x == y)=true↔_
 rw [beq_iff_eq]
 exact ⟨fun h=>by rw [h],fun h=>by injection h⟩
theorem qtl {k k':Value} (h:sameKey k k'=true):Instr.sameBits 10000 k' k=true:=by
 cases k<;>cases k'<;>first | (simp [sameKey] at h;done) | skip
 ·simp only [sameKey,beq_iff_eq] at h;subst h;simp [Instr.sameBits]
 ·simp only [sameKey,Bool.and_eq_true,beq_iff_eq] at h;obtain ⟨rfl,rfl⟩:=h;simp [Instr.sameBits]
 ·simp only [sameKey,ql7] at h;subst h;simp [Instr.sameBits,ql7]
theorem ql8:BornOk #[] 0:=⟨fun x hx=>by simp at hx,by simp⟩
theorem qm7 {es:Array MapEntry} {ck:Nat} (h:BornOk es ck) (i:Nat) (k v:Value):BornOk (es.modify i fun e=>{ e with key:=k,val:=v }) ck:=by
 have e:(es.modify i fun e=>{ e with key:=k,val:=v }).toList.map (·.born)=es.toList.map (·.born):=by
  rw [Array.toList_modify]
  apply List.ext_getElem?
  intro j
  rw [List.getElem?_map,List.getElem?_map,List.getElem?_modify]
  cases es.toList[j]? with
  | none=>rfl
  | some x=>by_cases hj:i=j<;>simp [hj]
 refine ⟨fun x hx=>?_,by rw [e];exact h.2⟩
 have:x.born∈(es.modify i fun e=>{ e with key:=k,val:=v }).toList.map (·.born):=List.mem_map.2 ⟨x,hx,rfl⟩
 rw [e] at this
 obtain ⟨y,hy,hyx⟩:=List.mem_map.1 this
 rw [← hyx];exact h.1 y hy
theorem qp7 {es:Array MapEntry} {ck:Nat} (h:BornOk es ck) (k v:Value):BornOk (es.push { key:=k,val:=v,born:=ck }) (ck+1):=by
 refine ⟨fun x hx=>?_,?_⟩
 ·rw [Array.toList_push] at hx
  rcases List.mem_append.1 hx with hx | hx
  ·have:=h.1 x hx;omega
  ·simp at hx;subst hx;exact Nat.lt_succ_self _
 ·rw [Array.toList_push,List.map_append]
  refine List.nodup_append.2 ⟨h.2,by simp,fun a ha b hb=>?_⟩
  obtain ⟨x,hx,rfl⟩:=List.mem_map.1 ha
  simp at hb
  have:=h.1 x hx
  omega
theorem qgc (hR:Rel m H w) {t:TypeId} {x x' k k' v v':Value} {H':Heap} (h:mapUpdateA P t x k v H=some H') (hx:VR m x x') (hk:VR m k k') (hv:VR m v v') :
  ∃ w',(Instr.mapUpdate t x' k' v').run P w = .ok () w'∧Sim m H w m H' w':=by
 unfold mapUpdateA at h
 split at h
 ·rename_i kt et hu
  split at h
  ·rename_i kd b vs hkt hsc
   split at h
   ·rename_i es hb
    split at h
    ·rename_i hcond
     injection h with h
     subst h
     obtain ⟨hkk,hes⟩:=hcond
     obtain ⟨l,hl,rfl⟩:=hx.map_
     obtain rfl:=hk.plain (qic hkk)
     obtain ⟨_,hav⟩:=qfd hsc hv
     obtain ⟨es',ck,h1,h2,hbo⟩:=hR.blk b _ l hb hl
     have hget:(getObj l.g).run P w = .ok (.map es' ck) w:=by simp [getObj,Sem.run,h1]
     have hck:=qjn (P:=P) hkt hkk false w
     have hset:∀ o,(setObj l.g o).run P w = .ok () { w with heap:=w.heap.setIfInBounds l.g o }:=fun o=>by simp [setObj,Sem.run,h1]
     have hlt:l.g < w.heap.size:=by
      rcases Nat.lt_or_ge l.g w.heap.size with hlt | hge
      ·exact hlt
      ·rw [Array.getElem?_eq_none hge] at h1;cases h1
     have fin:∀ (o:Array MapEntry) ck',All2 (ER m) (setA k' v es) o.toList→BornOk o ck'→Sim m H w m (H.set b (.map (setA k' v es))) { w with heap:=w.heap.setIfInBounds l.g (.map o ck') }:=fun o ck' ho hb2 =>
      Sim.setObj hR hb hl rfl (.map _ _) (fun _ _ _ e=>by cases e) ⟨o,ck',by simp [hlt],ho,hb2⟩
     rcases qib hkk h2 hes 0 with ⟨i,u,u',a1,a2,a3,e',a4,a5,a6⟩ | ⟨a1,a2,a3⟩
     ·have hf:=qf5 (P:=P) hkt a2 w
      simp only [Nat.zero_add] at hf
      have hkeep:(Instr.keyThatStays (((es'[i]?).map (·.key)).getD k') k').run P w = .ok k' w:=by
       have:es'[i]?=some e':=by simpa using a4
       simp only [this,Option.map_some,Option.getD_some,Instr.keyThatStays,qtl a5,if_true,Sem.run_pure]
      refine ⟨_,?_,fin (es'.modify i fun e=>{ e with key:=k',val:=v' }) ck ?_ (qm7 hbo _ _ _)⟩
      ·simp only [Instr.mapUpdate,Sem.run_bind,run_underlying hu,Result.andThen_ok,hget,hck,hf,hkeep,hset]
      ·rw [Array.toList_modify]
       exact a6 v v' _ hav fun _=>⟨rfl,rfl⟩
     ·have hf:=qf5 (P:=P) hkt a2 w
      refine ⟨_,?_,fin (es'.push { key:=k',val:=v',born:=ck }) (ck+1) ?_ (qp7 hbo _ _)⟩
      ·simp only [Instr.mapUpdate,Sem.run_bind,run_underlying hu,Result.andThen_ok,hget,hck,hf,hset]
      ·rw [Array.toList_push]
       exact a3 v v' ck hav
    ·cases h
   ·cases h
  ·cases h
 ·cases h
end
end Go.Abs
namespace Go.Abs
def nextVal:Next→Option Value
 | .value v=>some v
 | .skip=>some undef
 | _=>none
section
variable {P:Program} {m:Mp} {H:Heap} {w:World} {nt:Nat} {a:Fr} {tmps:Array Value}
theorem qm8 {t:TypeId} {x y x' y':Value} {b:Bool} (h:nilCmp0 P t x y=some b) (hx:VR m x x') (hy:VR m y y') :
  (Op.equal t x' y').run P w = .ok b w∧(∀ op k l,eqGuard op t k l x' y'=pure ())∧binOp .eql t x' y'=(do pure (.bool (← Op.equal t x' y')))∧binOp .neq t x' y'=(do pure (.bool (!(← Op.equal t x' y')))):=by
 have hd:∀ x y,Op.equal t x y=Op.equalIn (9999+1) t x y:=fun _ _=>rfl
 unfold nilCmp0 at h
 split at h
 ·rename_i e b0 n c hu
  injection h with h;subst h
  obtain ⟨_,_,rfl⟩:=hx.sliceNil_
  have:∃ b' n' c',y' = .slice b' n' c'∧b'.isNone=b0.isNone:=by
   cases b0 with
   | none=>obtain ⟨_,_,rfl⟩:=hy.sliceNil_;exact ⟨_,_,_,rfl,rfl⟩
   | some ad =>
     obtain ⟨b,o,sp⟩:=ad
     cases sp with
     | none=>obtain ⟨l,c,_,rfl,_⟩:=hy.slice_;exact ⟨_,_,_,rfl,rfl⟩
     | some p=>obtain ⟨_,_,_,g,c,rfl⟩:=hy.lost_;exact ⟨_,_,_,rfl,rfl⟩
  obtain ⟨b',n',c',rfl,hb⟩:=this
  refine ⟨?_,fun op k l=>eqGuard_at_slice ..,rfl,rfl⟩
  rw [hd,Op.equalIn]
  simp only [Sem.run_bind,run_underlying hu,Result.andThen_ok]
  rw [← hb];rfl
 ·rename_i e b0 n c hne hu
  injection h with h;subst h
  obtain ⟨_,_,rfl⟩:=hy.sliceNil_
  have:∃ b' n' c',x' = .slice b' n' c'∧b'.isNone=b0.isNone:=by
   cases b0 with
   | none=>obtain ⟨_,_,rfl⟩:=hx.sliceNil_;exact ⟨_,_,_,rfl,rfl⟩
   | some ad =>
     obtain ⟨b,o,sp⟩:=ad
     cases sp with
     | none=>obtain ⟨l,c,_,rfl,_⟩:=hx.slice_;exact ⟨_,_,_,rfl,rfl⟩
     | some p=>obtain ⟨_,_,_,g,c,rfl⟩:=hx.lost_;exact ⟨_,_,_,rfl,rfl⟩
  obtain ⟨b',n',c',rfl,hb⟩:=this
  refine ⟨?_,fun op k l=>eqGuard_at_slice ..,rfl,rfl⟩
  rw [hd,Op.equalIn]
  simp only [Sem.run_bind,run_underlying hu,Result.andThen_ok]
  rw [← hb]
  cases b'<;>rfl
 ·rename_i k e b0 hu
  injection h with h;subst h
  have hx':x' = .map none:=by cases hx with | a h=>cases h with | s h=>cases h;rfl
  subst hx'
  have:∃ b',y' = .map b'∧b'.isNone=b0.isNone:=by
   cases b0 with
   | none=>cases hy with | a h=>cases h with | s h=>cases h;exact ⟨_,rfl,rfl⟩
   | some r=>obtain ⟨l,_,rfl⟩:=hy.map_;exact ⟨_,rfl,rfl⟩
  obtain ⟨b',rfl,hb⟩:=this
  refine ⟨?_,fun op k l=>eqGuard_at_map ..,rfl,rfl⟩
  rw [hd,Op.equalIn]
  simp only [Sem.run_bind,run_underlying hu,Result.andThen_ok]
  rw [← hb];rfl
 ·rename_i k e b0 hne hu
  injection h with h;subst h
  have hy':y' = .map none:=by cases hy with | a h=>cases h with | s h=>cases h;rfl
  subst hy'
  have:∃ b',x' = .map b'∧b'.isNone=b0.isNone:=by
   cases b0 with
   | none=>cases hx with | a h=>cases h with | s h=>cases h;exact ⟨_,rfl,rfl⟩
   | some r=>obtain ⟨l,_,rfl⟩:=hx.map_;exact ⟨_,rfl,rfl⟩
  obtain ⟨b',rfl,hb⟩:=this
  refine ⟨?_,fun op k l=>eqGuard_at_map ..,rfl,rfl⟩
  rw [hd,Op.equalIn]
  simp only [Sem.run_bind,run_underlying hu,Result.andThen_ok]
  rw [← hb]
  cases b'<;>rfl
 ·rename_i e b0 hu
  injection h with h;subst h
  have hx':x' = .pointer none:=by cases hx with | a h=>cases h with | s h=>cases h;rfl
  subst hx'
  have:∃ b',y' = .pointer b'∧b'.isNone=b0.isNone:=by
   cases hy with | a h=>cases h with | s h=>cases h<;>exact ⟨_,rfl,rfl⟩
  obtain ⟨b',rfl,hb⟩:=this
  refine ⟨?_,fun op k l=>by cases op<;>rfl,rfl,rfl⟩
  rw [hd,Op.equalIn]
  simp only [Sem.run_bind,run_underlying hu,Result.andThen_ok]
  rw [← hb];rfl
 ·rename_i e b0 hne hu
  injection h with h;subst h
  have hy':y' = .pointer none:=by cases hy with | a h=>cases h with | s h=>cases h;rfl
  subst hy'
  have:∃ b',x' = .pointer b'∧b'.isNone=b0.isNone:=by
   cases hx with | a h=>cases h with | s h=>cases h<;>exact ⟨_,rfl,rfl⟩
  obtain ⟨b',rfl,hb⟩:=this
  refine ⟨?_,fun op k l=>by cases op<;>rfl,rfl,rfl⟩
  rw [hd,Op.equalIn]
  simp only [Sem.run_bind,run_underlying hu,Result.andThen_ok]
  rw [← hb]
  cases b'<;>rfl
 ·cases h
theorem qk4 {xs ys xs' ys':Array Value} (hx:All2 (SR m) xs.toList xs'.toList) (hy:All2 (SR m) ys.toList ys'.toList) (d:Nat):∀ {fs:List Field} {b:Bool},eqFieldsA P xs.toList ys.toList fs=some b→(Op.eqFields (d+1) xs' ys' fs).run P w = .ok b w:=by
 intro fs
 induction fs with
 | nil=>intro b h;cases h;rfl
 | cons f fs ih =>
   intro b h
   unfold eqFieldsA at h
   unfold Op.eqFields
   split at h
   ·rename_i hn
    rw [if_pos hn]
    split at h
    ·rename_i k0 k a l c hu ha hc
     obtain ⟨r1,q1,v1⟩:=qf4 (P:=P) (w:=w) ha hx
     obtain ⟨r2,q2,v2⟩:=qf4 (P:=P) (w:=w) hc hy
     obtain rfl:=v1.plain rfl
     obtain rfl:=v2.plain rfl
     split at h
     ·rename_i hkl
      subst hkl
      simp only [Sem.run_bind,q1,q2,Result.andThen_ok,run_equalIn_int w d f.type k k0 a c hu]
      split at h
      ·rename_i hac
       subst hac
       simpa using ih h
      ·rename_i hac
       injection h with h
       subst h
       have:(a == c)=false:=by simpa using hac
       rw [this]
       rfl
     ·cases h
    ·cases h
   ·rename_i hn
    rw [if_neg hn]
    exact ih h
theorem qjo {t:TypeId} {x y x' y':Value} {b:Bool} (h:nilCmp P t x y=some b) (hx:VR m x x') (hy:VR m y y') :
  (∀ k l,(do eqGuard .eql t k l x' y';binOp .eql t x' y').run P w = .ok (.bool b) w)∧∀ k l,(do eqGuard .neq t k l x' y';binOp .neq t x' y').run P w = .ok (.bool !b) w:=by
 unfold nilCmp at h
 split at h
 ·rename_i b' hb
  injection h with h
  subst h
  obtain ⟨h1,h2,h3,h4⟩:=qm8 (w:=w) hb hx hy
  refine ⟨fun k l=>?_,fun k l=>?_⟩
  ·rw [h2,h3];simp [h1]
  ·rw [h2,h4];simp [h1]
 ·unfold structEqA at h
  split at h
  ·rename_i fs xs ys hu0
   have hu:=‹P.underlying t=_›
   split at h
   ·rename_i hc
    obtain ⟨xs',rfl,hxs⟩:=hx.agg_
    obtain ⟨ys',rfl,hys⟩:=hy.agg_
    have hf:=(show P.fieldsOf t=_ by unfold Program.fieldsOf;rw [hu])
    have e:=run_equalIn_struct (P:=P) w 9999 t xs' ys' (by rw [hf];exact hu) hc.1
    rw [hf,qk4 hxs hys 9998 h] at e
    refine ⟨fun k l=>?_,fun k l=>?_⟩
    ·rw [Sem.run_bind,run_eqGuard_agg w .eql t k l xs' ys' hc.2,Result.andThen_ok,run_eql_struct,e];rfl
    ·rw [Sem.run_bind,run_eqGuard_agg w .neq t k l xs' ys' hc.2,Result.andThen_ok,run_neq_struct,e];rfl
   ·cases h
  ·cases h
theorem qtm {o:Oper} {ρ:Operand→Value} {v:Value} (h:(pureVal P (execOp ρ o)).bind valOf=some v) (w:World):(execOp ρ o).run P w = .ok (.value v) w:=by
 cases hp:pureVal P (execOp ρ o) with
 | none=>rw [hp] at h;cases h
 | some nx =>
   rw [hp] at h
   have hn:nx = .value v:=by cases nx<;>first | (simp [valOf] at h;subst h;rfl) | (simp [valOf] at h;done)
   subst hn
   exact qlw hp
theorem qoq {o:Oper} (hv:∀ z∈o.op.operands.toList,VR m (ev a z) (evC tmps z)) {v:Value} (h:plainA P a o=some v) (hcong:(∀ x∈o.op.operands.toList,evC tmps x=ev a x)→execOp (evC tmps) o=execOp (ev a) o) (w:World) :
  (execOp (evC tmps) o).run P w = .ok (.value v) w∧VR m v v:=by
 unfold plainA at h
 split at h
 ·rename_i hall
  have hops:∀ x∈o.op.operands.toList,evC tmps x=ev a x:=by
   intro x hx
   exact (hv x hx).plain (List.all_eq_true.1 hall x hx)
  split at h
  ·rename_i v' hvv
   split at h
   ·rename_i hp
    injection h with h
    subst h
    rw [hcong hops]
    exact ⟨qtm hvv w,.of_plain m hp⟩
   ·cases h
  ·cases h
 ·cases h
theorem qtn {t ty:TypeId} {x x' r:Value} (h:lenA P t x=some r) (hx:VR m x x') (w:World):(Builtin.len_ #[t] ty #[x']).run P w = .ok r w∧VR m r r:=by
 unfold lenA at h
 split at h
 ·rename_i e b n c hu
  injection h with h;subst h
  refine ⟨?_,.a (.s (.int _ _))⟩
  cases b with
  | none=>obtain ⟨rfl,_,rfl⟩:=hx.sliceNil_;simp [Builtin.len_,run_underlying hu]
  | some ad =>
    obtain ⟨b,o,sp⟩:=ad
    cases sp with
    | none=>obtain ⟨l,c,_,rfl,_⟩:=hx.slice_;simp [Builtin.len_,run_underlying hu]
    | some p=>obtain ⟨rfl,_,_,g,c,rfl⟩:=hx.lost_;simp [Builtin.len_,run_underlying hu]
 ·rename_i s hu
  injection h with h;subst h
  obtain rfl:=hx.plain rfl
  exact ⟨by simp [Builtin.len_,run_underlying hu],.a (.s (.int _ _))⟩
 ·cases h
end
end Go.Abs
namespace Go.Abs
def Good (P:Program) (m:Mp) (H:Heap) (w:World) (q:Prop) (s:Sem Next) (v:Value) (H':Heap):Prop :=
 ∃ nx w' m' v',s.run P w = .ok nx w'∧nextVal nx=some v'∧VR m' v v'∧Sim m H w m' H' w'∧(q→m'=m∧w'=w)
section
variable {P:Program} {m:Mp} {H H':Heap} {w w':World} {nt:Nat} {a:Fr} {tmps:Array Value}
theorem Good.same {q:Prop} (hR:Rel m H w) {s:Sem Value} {v v':Value} (h:s.run P w = .ok v' w) (hv:VR m v v'):Good P m H w q (do pure (.value (← s))) v H :=
 ⟨.value v',w,m,v',by simp [h],rfl,hv,.refl hR,fun _=>⟨rfl,rfl⟩⟩
theorem Good.value {q:Prop} {m':Mp} {s:Sem Value} {v v':Value} (h:s.run P w = .ok v' w') (hv:VR m' v v') (hs:Sim m H w m' H' w') (hq:¬ q:=by simp [cls]):Good P m H w q (do pure (.value (← s))) v H' :=
 ⟨.value v',w',m',v',by simp [h],rfl,hv,hs,fun h=>absurd h hq⟩
theorem Good.unit {q:Prop} {s:Sem Unit} (h:s.run P w = .ok () w') (hs:Sim m H w m H' w') (hq:¬ q:=by simp [cls]):Good P m H w q (do s;pure .skip) undef H' :=
 ⟨.skip,w',m,undef,by simp [h],rfl,.undef m,hs,fun h=>absurd h hq⟩
theorem qk5 {v v':Value} (h:isPtr v=true) (hv:VR m v v'):∃ p,v' = .pointer (some p)∧PR m v v':=by
 unfold isPtr at h
 split at h
 ·obtain ⟨l,hl,rfl⟩:=hv.ptr_
  exact ⟨_,rfl,.ptr _ _ l hl⟩
 ·cases h
theorem qgn {o:Oper} (ho:operOk nt o=true):∀ x∈o.op.operands.toList,opndOk nt x=true:=by
 unfold operOk at ho
 simp only [Bool.and_eq_true] at ho
 exact List.all_eq_true.1 ho.1
theorem partsOf {parts:Array (Nat×Operand)} (hv:∀ p∈parts.toList,VR m (ev a p.2) (evC tmps p.2)) :
  All2 (fun (p q:Nat×Value)=>q.1=p.1∧VR m p.2 q.2) (parts.toList.map fun p=>(p.1,ev a p.2)) (parts.map fun (i,x)=>(i,evC tmps x)).toList:=by
 rw [Array.toList_map]
 exact parts_rel hv
theorem bytes_run:∀ {cs vs:List Value} {s r:ByteArray},All2 (SR m) cs vs→bytesFrom s cs=some r →
  (ForIn.forIn vs s fun (c:Value) (s:ByteArray)=>(match c with
   | .int .u8 n=>pure (ForInStep.yield (s.push (UInt8.ofNat n.toNat)))
   | _=>do
     stuck "bytesToString: byte expected"
     pure (ForInStep.yield s):Sem (ForInStep ByteArray))).run P w = .ok r w:=by
 intro cs
 induction cs with
 | nil =>
   intro vs s r h hb
   cases h
   simp only [bytesFrom] at hb
   injection hb with hb;subst hb
   simp
 | cons c cs ih =>
   intro vs s r h hb
   cases h with
   | cons h1 h2 =>
     unfold bytesFrom at hb
     split at hb
     ·rename_i heq;cases heq
     ·rename_i heq
      injection heq with e1 e2
      subst e1;subst e2
      cases h1
      simp only [List.forIn_cons,Sem.run_bind,Sem.run_pure,Result.andThen_ok]
      exact ih h2 hb
     ·cases hb
theorem qp8 {s d:TypeId} {x x' v:Value} (hR:Rel m H w) (h:textA P s d x H=some v) (hv:VR m x x'):(Go.convert s d x').run P w = .ok v w∧VR m v v:=by
 unfold textA at h
 split at h
 case h_2=>cases h
 split at h
 case h_2=>cases h
 rename_i e hs hd
 split at h
 case h_2=>cases h
 rename_i cs he hr
 obtain ⟨base,n,c,rfl,_,vs,h1,h2,h3⟩:=qhj (P:=P) hR hr hv
 cases hb:bytesFrom .empty cs with
 | none=>rw [hb] at h;cases h
 | some t =>
   rw [hb] at h
   simp only [Option.map_some] at h
   injection h with h
   subst h
   refine ⟨?_,.a (.s (.string t))⟩
   have hrun:=bytes_run (P:=P) (w:=w) h2 hb
   cases base with
   | none =>
     have:=h3 rfl
     subst this
     simp only [Builtin.firstCells,Sem.run_pure] at h1
     injection h1 with h1
     subst h1
     simp at hrun
     simp [Go.convert,run_underlying hs,run_underlying hd,run_underlying he,Conv.bytesToString,hrun]
   | some ad =>
     simp only [Builtin.firstCells,Nat.mul_one] at h1
     simp only [Go.convert,Sem.run_bind,run_underlying hs,run_underlying hd,run_underlying he,Result.andThen_ok,Conv.bytesToString,h1]
     rw [← Array.forIn_toList]
     exact (congrArg (fun r:Result ByteArray=>r.andThen fun a w'=>Sem.run P (pure (Value.string a)) w') hrun).trans rfl
set_option maxHeartbeats 1000000 in
theorem qp9 (hR:Rel m H w) {o:Oper} (hv:∀ z∈o.op.operands.toList,VR m (ev a z) (evC tmps z)) {v:Value} (h:aexec P a o H=some (v,H')):Good P m H w (cls o.op = .pure_∨cls o.op = .read) (execOp (evC tmps) o) v H':=by
 have plainly:∀ {v:Value},(plainA P a o).map (·,H)=some (v,H')→((∀ x∈o.op.operands.toList,evC tmps x=ev a x)→execOp (evC tmps) o=execOp (ev a) o)→Good P m H w (cls o.op = .pure_∨cls o.op = .read) (execOp (evC tmps) o) v H':=by
  intro v h hc
  cases hp:plainA P a o with
  | none=>rw [hp] at h;cases h
  | some u =>
    rw [hp] at h
    simp only [Option.map_some] at h
    injection h with h
    injection h with h1 h2
    subst h1;subst h2
    obtain ⟨h1,h2⟩:=qoq hv hp hc w
    exact ⟨.value u,w,m,u,h1,rfl,h2,.refl hR,fun _=>⟨rfl,rfl⟩⟩
 obtain ⟨dst,op,type,pos,after,guard⟩:=o
 cases op
 case move x =>
  simp only [aexec] at h
  injection h with h;injection h with h1 h2;subst h1;subst h2
  exact ⟨.value _,w,m,_,rfl,rfl,hv x (by simp [Op.operands]),.refl hR,fun _=>⟨rfl,rfl⟩⟩
 case assign x =>
  simp only [aexec] at h
  injection h with h;injection h with h1 h2;subst h1;subst h2
  exact ⟨.value _,w,m,_,rfl,rfl,hv x (by simp [Op.operands]),.refl hR,fun _=>⟨rfl,rfl⟩⟩
 case pick c x y =>
  simp only [aexec] at h
  split at h
  ·rename_i t ht
   injection h with h;injection h with h1 h2;subst h1;subst h2
   have hc:=hv c (by simp [Op.operands])
   rw [ht] at hc
   have hc':=hc.bool_
   refine ⟨.value (if t then evC tmps x else evC tmps y),w,m,_,by simp [execOp,hc',asBool],rfl,?_,.refl hR,fun _=>⟨rfl,rfl⟩⟩
   cases t
   ·exact hv y (by simp [Op.operands])
   ·exact hv x (by simp [Op.operands])
  ·cases h
 case alloc t =>
  simp only [aexec] at h
  split at h
  ·rename_i z hz
   split at h
   ·rename_i cs hcs
    injection h with h;injection h with h1 h2;subst h1;subst h2
    obtain ⟨hz1,hz2⟩:=qer hz w
    obtain ⟨w',m',r',h1,h2,h3⟩:∃ w' m' r',(Instr.box t z).run P w = .ok r' w'∧VR m' (ptrA H.length 0) r'∧Sim m H w m' (H++[if bldZ cs then .bld t none 0 else .cells H.length true cs]) w':=by
     cases hb:bldZ cs
     ·exact qk0 (P:=P) (el:=t) hR hcs (.a (.of_const m hz2))
     ·exact bld_sound (P:=P) (t:=t) hR hcs (.a (.of_const m hz2)) hb
    refine Good.value (s:=Instr.alloc t true (.tuple #[])) (w':=w') (v':=r') ?_ h2 h3
    simp only [Instr.box,Sem.run_bind,Sem.run_pure] at h1
    simp only [Instr.alloc,Sem.run_bind,hz1,Result.andThen_ok,Sem.run_pure,h1]
   ·cases h
  ·cases h
 case box t x =>
  simp only [aexec] at h
  split at h
  ·rename_i cs hcs
   injection h with h;injection h with h1 h2;subst h1;subst h2
   obtain ⟨w',m',r',h1,h2,h3⟩:=qk0 (P:=P) (el:=t) hR hcs (hv x (by simp [Op.operands]))
   exact Good.value h1 h2 h3
  ·cases h
 case build t parts =>
  simp only [aexec] at h
  cases hb:buildA P t (parts.toList.map fun p=>(p.1,ev a p.2)) with
  | none=>rw [hb] at h;cases h
  | some r =>
    rw [hb] at h
    simp only [Option.map_some] at h
    injection h with h;injection h with h1 h2;subst h1;subst h2
    obtain ⟨r',h1,h2⟩:=qon (P:=P) (w:=w) hb (partsOf fun p hp=>hv _ (by simp only [Op.operands,List.mem_toArray,Array.toList_map];simp;exact ⟨p.1,by simpa using hp⟩))
    rw [Array.toArray_toList] at h1
    exact Good.same hR h1 h2
 case buildSlice t len parts =>
  simp only [aexec] at h
  obtain ⟨w',m',r',h1,h2,h3⟩:=qi3 (P:=P) hR h (partsOf fun p hp=>hv _ (by simp only [Op.operands,List.mem_toArray,Array.toList_map];simp;exact ⟨p.1,by simpa using hp⟩))
  rw [Array.toArray_toList] at h1
  exact Good.value h1 h2 h3
 case load t x =>
  simp only [aexec] at h
  cases hb:loadA P t (ev a x) H with
  | none=>rw [hb] at h;cases h
  | some r =>
    rw [hb] at h
    simp only [Option.map_some] at h
    injection h with h;injection h with h1 h2;subst h1;subst h2
    obtain ⟨r',h1,h2⟩:=qkz (P:=P) hR hb (hv x (by simp [Op.operands]))
    exact Good.same hR h1 (.a h2)
 case store t x y =>
  simp only [aexec] at h
  cases hb:storeA P t (ev a x) (ev a y) H with
  | none=>rw [hb] at h;cases h
  | some H1 =>
    rw [hb] at h
    simp only [Option.map_some] at h
    injection h with h;injection h with h1 h2;subst h1;subst h2
    obtain ⟨w',h1,h2⟩:=qok (P:=P) hR hb (hv x (by simp [Op.operands])) (hv y (by simp [Op.operands]))
    exact Good.unit h1 h2
 case nilCheck x =>
  simp only [aexec] at h
  split at h
  ·rename_i hp
   injection h with h;injection h with h1 h2;subst h1;subst h2
   have hx:=hv x (by simp [Op.operands])
   obtain ⟨p,hp',_⟩:=qk5 hp hx
   refine ⟨.value _,w,m,_,?_,rfl,hx,.refl hR,fun _=>⟨rfl,rfl⟩⟩
   simp only [execOp]
   rw [hp']
   rfl
  ·cases h
 case binOp op t x y yt =>
  have hx:=hv x (by simp [Op.operands])
  have hy:=hv y (by simp [Op.operands])
  have hcong:(∀ z∈(Op.binOp op t x y yt).operands.toList,evC tmps z=ev a z)→execOp (evC tmps) ⟨dst,.binOp op t x y yt,type,pos,after,guard⟩=execOp (ev a) ⟨dst,.binOp op t x y yt,type,pos,after,guard⟩:=by
   intro hz
   simp only [execOp]
   rw [hz x (by simp [Op.operands]),hz y (by simp [Op.operands])]
  cases op
  case eql =>
   simp only [aexec] at h
   split at h
   ·rename_i b hb
    injection h with h;injection h with h1 h2;subst h1;subst h2
    obtain ⟨h1,_⟩:=qjo (w:=w) hb hx hy
    refine Good.same (s:=do eqGuard .eql t x y (evC tmps x) (evC tmps y);binOp .eql t (evC tmps x) (evC tmps y)) hR (v':=.bool b) ?_ (.a (.s (.bool b)))
    exact h1 x y
   ·exact plainly h hcong
  case neq =>
   simp only [aexec] at h
   split at h
   ·rename_i b hb
    injection h with h;injection h with h1 h2;subst h1;subst h2
    obtain ⟨_,h1⟩:=qjo (w:=w) hb hx hy
    refine Good.same (s:=do eqGuard .neq t x y (evC tmps x) (evC tmps y);binOp .neq t (evC tmps x) (evC tmps y)) hR (v':=.bool !b) ?_ (.a (.s (.bool _)))
    exact h1 x y
   ·exact plainly h hcong
  all_goals
   simp only [aexec] at h
   exact plainly h hcong
 case unOp op t x =>
  simp only [aexec] at h
  refine plainly h fun hz=>?_
  simp only [execOp]
  rw [hz x (by simp [Op.operands])]
 case convert s d x =>
  simp only [aexec] at h
  split at h
  ·rename_i u hu
   injection h with h;injection h with h1 h2;subst h1;subst h2
   obtain ⟨h1,h2⟩:=qp8 (P:=P) (d:=d) hR hu (hv x (by simp [Op.operands]))
   exact Good.same hR h1 h2
  ·refine plainly h fun hz=>?_
   simp only [execOp]
   rw [hz x (by simp [Op.operands])]
 case makeFunc fn first captured =>
  cases fn
  case func f =>
   simp only [aexec] at h
   split at h
   ·rename_i hc
    injection h with h;injection h with h1 h2;subst h1;subst h2
    simp only [Bool.and_eq_true] at hc
    obtain ⟨hc1,hc2⟩:=hc
    have hfe:first = #[]:=by simpa using hc1
    subst hfe
    refine ⟨.value (.func (.func f) #[] (captured.map (evC tmps))),w,m,_,by simp [execOp,Instr.makeFunc],rfl,.a (.s (.func f _ _ ?_)),.refl hR,fun _=>⟨rfl,rfl⟩⟩
    rw [Array.toList_map,Array.toList_map]
    refine All2.map_same _ fun x hx=>?_
    have h1:=List.all_eq_true.1 hc2 (ev a x) (by simp;exact ⟨x,by simpa using hx,rfl⟩)
    obtain ⟨_,_,hpr⟩:=qk5 h1 (hv x (by simp [Op.operands];simpa using hx))
    exact hpr
   ·cases h
  all_goals (simp only [aexec] at h;cases h)
 case makeMap t r =>
  simp only [aexec] at h
  split at h
  ·rename_i k e hu
   split at h
   ·rename_i hc
    injection h with h;injection h with h1 h2;subst h1;subst h2
    have hsim:=Sim.push hR (.map #[] 0) (.map []) ⟨w.heap.size,0,0⟩ rfl rfl ⟨#[],0,qd0 w _,.nil,ql8⟩
    have hl:=qd2 hR (⟨w.heap.size,0,0⟩:Loc)
    refine Good.value (s:=Instr.makeMap t (r.map (evC tmps))) (v':=.map (some w.heap.size)) ?_ (.a (.s (.map H.length _ hl))) hsim
    cases r with
    | none=>simp [Instr.makeMap,newObj,Sem.run]
    | some x =>
      cases x with
      | const c =>
        cases c<;>first | (simp [constInt] at hc;done) | skip
        simp [Instr.makeMap,newObj,Sem.run,run_underlying hu,evC,asInt,asIntOf]
      | _=>simp [constInt] at hc
   ·cases h
  ·cases h
 case makeSlice t l c =>
  simp only [aexec] at h
  split at h
  ·rename_i e size bytes k n k' cc he hb hl hc
   split at h
   ·rename_i hcond
    obtain ⟨h0,h1,h2,h3,h4⟩:=hcond
    split at h
    ·rename_i zs hz
     injection h with h;injection h with e1 e2;subst e1;subst e2
     obtain ⟨n',rfl⟩:=Int.eq_ofNat_of_zero_le h0
     obtain ⟨c',rfl⟩:=Int.eq_ofNat_of_zero_le (Int.le_trans h0 h1)
     rw [he] at hb
     simp only [Option.getD_some] at hb
     have hl':=hv l (by simp [Op.operands])
     have hc':=hv c (by simp [Op.operands])
     rw [hl] at hl'
     rw [hc] at hc'
     have hl2:=hl'.int_
     have hc2:=hc'.int_
     simp only [Int.toNat_natCast] at hz
     obtain ⟨w',m',r',q1,q2,q3⟩:=qk1 (c:=c') hR he hb (by omega) (by omega) h4 hz k k'
     refine Good.value (s:=Instr.makeSlice t (evC tmps l) (evC tmps c)) (by rw [hl2,hc2];exact q1) ?_ q3
     simpa using q2
    ·cases h
   ·cases h
  ·cases h
 case slice t x lo hi mx =>
  simp only [aexec] at h
  split at h
  ·cases h
  ·rename_i hmx
   have hmx':mx=none:=by cases mx<;>simp_all
   subst hmx'
   cases hb:sliceExprA P t (ev a x) (lo.map (ev a)) (hi.map (ev a)) with
   | none=>rw [hb] at h;cases h
   | some r =>
     rw [hb] at h
     simp only [Option.map_some] at h
     injection h with h;injection h with h1 h2;subst h1;subst h2
     have hlo:∀ y,lo.map (ev a)=some y→∃ y',lo.map (evC tmps)=some y'∧VR m y y':=by
      intro y hy
      cases lo with
      | none=>cases hy
      | some z=>simp only [Option.map_some] at hy;injection hy with hy;subst hy;exact ⟨_,rfl,hv z (by simp [Op.operands])⟩
     have hhi:∀ y,hi.map (ev a)=some y→∃ y',hi.map (evC tmps)=some y'∧VR m y y':=by
      intro y hy
      cases hi with
      | none=>cases hy
      | some z=>simp only [Option.map_some] at hy;injection hy with hy;subst hy;exact ⟨_,rfl,hv z (by simp [Op.operands])⟩
     obtain ⟨r',h1,h2⟩:=qj0 (P:=P) (w:=w) hb (hv x (by simp [Op.operands])) hlo (fun h=>by cases lo<;>simp_all) hhi (fun h=>by cases hi<;>simp_all)
     exact Good.same hR h1 h2
 case fieldAddr t x i =>
  simp only [aexec] at h
  cases hb:fieldAddrA P t (ev a x) i with
  | none=>rw [hb] at h;cases h
  | some r =>
    rw [hb] at h
    simp only [Option.map_some] at h
    injection h with h;injection h with h1 h2;subst h1;subst h2
    obtain ⟨r',h1,h2⟩:=qjy (P:=P) (w:=w) hb (hv x (by simp [Op.operands]))
    exact Good.same hR h1 h2
 case field t x i =>
  simp only [aexec] at h
  cases hb:fieldA P t (ev a x) i with
  | none=>rw [hb] at h;cases h
  | some r =>
    rw [hb] at h
    simp only [Option.map_some] at h
    injection h with h;injection h with h1 h2;subst h1;subst h2
    obtain ⟨r',h1,h2⟩:=qol (P:=P) (w:=w) hb (hv x (by simp [Op.operands]))
    exact Good.same hR h1 h2
 case indexAddr t x i =>
  simp only [aexec] at h
  cases hb:indexAddrA P t (ev a x) (ev a i) with
  | none=>rw [hb] at h;cases h
  | some r =>
    rw [hb] at h
    simp only [Option.map_some] at h
    injection h with h;injection h with h1 h2;subst h1;subst h2
    obtain ⟨r',h1,h2⟩:=qjz (P:=P) (w:=w) hb (hv x (by simp [Op.operands])) (hv i (by simp [Op.operands]))
    exact Good.same hR h1 h2
 case index t x i =>
  simp only [aexec] at h
  split at h
  ·rename_i r hb
   injection h with h;injection h with h1 h2;subst h1;subst h2
   obtain ⟨r',h1,h2⟩:=qom (P:=P) (w:=w) hb (hv x (by simp [Op.operands])) (hv i (by simp [Op.operands]))
   exact Good.same hR h1 h2
  refine plainly h fun hz=>?_
  simp only [execOp]
  rw [hz x (by simp [Op.operands]),hz i (by simp [Op.operands])]
 case lookup t x k ok =>
  simp only [aexec] at h
  cases hb:lookupA P t (ev a x) (ev a k) ok H with
  | none=>rw [hb] at h;cases h
  | some r =>
    rw [hb] at h
    simp only [Option.map_some] at h
    injection h with h;injection h with h1 h2;subst h1;subst h2
    obtain ⟨r',h1,h2⟩:=qm6 (P:=P) hR hb (hv x (by simp [Op.operands])) (hv k (by simp [Op.operands]))
    exact Good.same hR h1 h2
 case mapUpdate t x k v =>
  simp only [aexec] at h
  cases hb:mapUpdateA P t (ev a x) (ev a k) (ev a v) H with
  | none=>rw [hb] at h;cases h
  | some H1 =>
    rw [hb] at h
    simp only [Option.map_some] at h
    injection h with h;injection h with h1 h2;subst h1;subst h2
    obtain ⟨w',h1,h2⟩:=qgc (P:=P) hR hb (hv x (by simp [Op.operands])) (hv k (by simp [Op.operands])) (hv v (by simp [Op.operands]))
    exact Good.unit h1 h2
 case insert t x k v =>
  simp only [aexec] at h
  cases hb:mapUpdateA P t (ev a x) (ev a k) (ev a v) H with
  | none=>rw [hb] at h;cases h
  | some H1 =>
    rw [hb] at h
    simp only [Option.map_some] at h
    injection h with h;injection h with h1 h2;subst h1;subst h2
    obtain ⟨w',h1,h2⟩:=qgc (P:=P) hR hb (hv x (by simp [Op.operands])) (hv k (by simp [Op.operands])) (hv v (by simp [Op.operands]))
    exact Good.unit h1 h2
 case extract x i =>
  simp only [aexec] at h
  split at h
  ·rename_i vs hvs
   cases hb:vs[i]? with
   | none=>rw [hb] at h;cases h
   | some r =>
     rw [hb] at h
     simp only [Option.map_some] at h
     injection h with h;injection h with h1 h2;subst h1;subst h2
     have hx:=hv x (by simp [Op.operands])
     rw [hvs] at hx
     obtain ⟨vs',hv1,hv2⟩:=hx.tuple_
     obtain ⟨r',h1,h2⟩:=hv2.get i r (by simpa using hb)
     refine Good.same (s:=Instr.extract (evC tmps x) i) hR (v':=r') ?_ (.a h2)
     have:vs'[i]?=some r':=by simpa using h1
     rw [hv1]
     simp [Instr.extract,this]
  ·cases h
 case call c =>
  obtain ⟨callee,args,ts⟩:=c
  cases callee
  case builtin b =>
   simp only [aexec] at h
   have hargs:∀ x∈args.toList,VR m (ev a x) (evC tmps x):=fun x hx=>hv x (by simp [Op.operands,Call.operands];simpa using hx)
   have hcong:(∀ z∈(Op.call ⟨.builtin b,args,ts⟩).operands.toList,evC tmps z=ev a z)→execOp (evC tmps) ⟨dst,.call ⟨.builtin b,args,ts⟩,type,pos,after,guard⟩=execOp (ev a) ⟨dst,.call ⟨.builtin b,args,ts⟩,type,pos,after,guard⟩:=by
    intro hz
    have:args.map (evC tmps)=args.map (ev a):=Array.map_congr_left fun x hx=>hz x (by simp [Op.operands,Call.operands];exact hx)
    simp only [execOp,resolve,this]
   unfold builtinA at h
   split at h
   ·rename_i x t hx ht
    cases hb:lenA P t x with
    | none=>rw [hb] at h;cases h
    | some r =>
      rw [hb] at h
      simp only [Option.map_some] at h
      injection h with h;injection h with h1 h2;subst h1;subst h2
      obtain ⟨ys⟩:=args
      obtain ⟨tl⟩:=ts
      simp only at hx ht
      obtain ⟨y,rfl⟩:∃ y,ys=[y]:=by cases ys with | nil=>cases hx | cons y ys=>cases ys with | nil=>exact ⟨y,rfl⟩ | cons=>simp at hx
      simp at hx
      subst hx;subst ht
      obtain ⟨h1,h2⟩:=qtn hb (hargs y (by simp)) w
      have hex:execOp (evC tmps) ⟨dst,.call ⟨.builtin .len,#[y],#[t]⟩,type,pos,after,guard⟩=(do pure (Next.value (← Builtin.len_ #[t] type #[evC tmps y]))):=by simp [execOp,resolve,invoke,builtin]
      rw [hex]
      exact Good.same (s:=Builtin.len_ #[t] type #[evC tmps y]) hR h1 h2
   ·rename_i s x t t' hx ht
    split at h
    ·rename_i htt
     subst htt
     obtain ⟨ys⟩:=args
     obtain ⟨tl⟩:=ts
     simp only at hx ht
     obtain ⟨y,z,rfl⟩:∃ y z,ys=[y,z]:=by
      cases ys with
      | nil=>cases hx
      | cons y ys=>cases ys with | nil=>simp at hx | cons z ys=>cases ys with | nil=>exact ⟨y,z,rfl⟩ | cons=>simp at hx
     simp at hx
     obtain ⟨rfl,rfl⟩:=hx
     subst ht
     obtain ⟨w',m',r',h1,h2,h3⟩:=qm5 (P:=P) (ty:=type) hR h (hargs y (by simp)) (hargs z (by simp))
     have hex:execOp (evC tmps) ⟨dst,.call ⟨.builtin .append,#[y,z],#[t,t]⟩,type,pos,after,guard⟩=(do pure (Next.value (← Builtin.append_ #[t,t] type #[evC tmps y,evC tmps z]))):=by simp [execOp,resolve,invoke,builtin]
     rw [hex]
     exact Good.value (s:=Builtin.append_ #[t,t] type #[evC tmps y,evC tmps z]) h1 h2 h3
    ·obtain ⟨ys⟩:=args
     obtain ⟨tl⟩:=ts
     simp only at hx ht
     obtain ⟨y,z,rfl⟩:∃ y z,ys=[y,z]:=by
      cases ys with
      | nil=>cases hx
      | cons y ys=>cases ys with | nil=>simp at hx | cons z ys=>cases ys with | nil=>exact ⟨y,z,rfl⟩ | cons=>simp at hx
     simp at hx
     obtain ⟨rfl,rfl⟩:=hx
     subst ht
     obtain ⟨w',m',r',h1,h2,h3⟩:=qj2 (P:=P) (ty:=type) hR h (hargs y (by simp)) (hargs z (by simp))
     have hex:execOp (evC tmps) ⟨dst,.call ⟨.builtin .append,#[y,z],#[t,t']⟩,type,pos,after,guard⟩=(do pure (Next.value (← Builtin.append_ #[t,t'] type #[evC tmps y,evC tmps z]))):=by simp [execOp,resolve,invoke,builtin]
     rw [hex]
     exact Good.value (s:=Builtin.append_ #[t,t'] type #[evC tmps y,evC tmps z]) h1 h2 h3
   ·rename_i x y t t' hx ht
    obtain ⟨ys⟩:=args
    obtain ⟨tl⟩:=ts
    simp only at hx ht
    obtain ⟨y',z',rfl⟩:∃ y z,ys=[y,z]:=by
     cases ys with
     | nil=>cases hx
     | cons y ys=>cases ys with | nil=>simp at hx | cons z ys=>cases ys with | nil=>exact ⟨y,z,rfl⟩ | cons=>simp at hx
    simp at hx
    obtain ⟨rfl,rfl⟩:=hx
    subst ht
    obtain ⟨w',r',h1,h2,h3⟩:=qp6 (P:=P) (t':=t') (ty:=type) hR h (hargs y' (by simp)) (hargs z' (by simp))
    have hex:execOp (evC tmps) ⟨dst,.call ⟨.builtin .copy,#[y',z'],#[t,t']⟩,type,pos,after,guard⟩=(do pure (Next.value (← Builtin.copy_ #[t,t'] type #[evC tmps y',evC tmps z']))):=by simp [execOp,resolve,invoke,builtin]
    rw [hex]
    exact Good.value (s:=Builtin.copy_ #[t,t'] type #[evC tmps y',evC tmps z']) h1 h2 h3
   ·rename_i t hx ht
    cases he:sliceElem P t with
    | none=>rw [he] at h;cases h
    | some es =>
      rw [he] at h
      simp only [Option.map_some] at h
      injection h with h;injection h with h1 h2;subst h1;subst h2
      obtain ⟨ys⟩:=args
      obtain ⟨tl⟩:=ts
      simp only at hx ht
      obtain ⟨y,rfl⟩:∃ y,ys=[y]:=by cases ys with | nil=>cases hx | cons y ys=>cases ys with | nil=>exact ⟨y,rfl⟩ | cons=>simp at hx
      simp at hx
      subst ht
      have hy:=hargs y (by simp)
      rw [hx] at hy
      obtain ⟨_,_,hy'⟩:=hy.sliceNil_
      obtain ⟨e,s⟩:=es
      obtain ⟨hu,_⟩:=qct he
      have hex:execOp (evC tmps) ⟨dst,.call ⟨.builtin .cap,#[y],#[t]⟩,type,pos,after,guard⟩=(do pure (Next.value (← Builtin.cap_ #[t] type #[evC tmps y]))):=by simp [execOp,resolve,invoke,builtin]
      rw [hex]
      refine Good.same (s:=Builtin.cap_ #[t] type #[evC tmps y]) hR (v':=goInt 0) ?_ (.a (.s (.int _ _)))
      rw [hy']
      simp [Builtin.cap_,run_underlying hu]
   ·exact plainly h hcong
   ·exact plainly h hcong
   ·cases h
  all_goals (simp only [aexec] at h;cases h)
 all_goals (simp only [aexec] at h;cases h)
end
end Go.Abs
namespace Go.Abs
def onF (b:Frame) (tmps:Array Value) (ds:List Deferred) (todo:List Item):Frame :=
 { fn:=b.fn,tmps:=tmps,todo:=todo,defers:=ds,mode:=.run,kind:=b.kind,roundOf:=b.roundOf }
theorem qm9 (b:Frame) (tmps:Array Value) (ds:List Deferred) (todo:List Item):(onF b tmps ds todo).eval=evC tmps:=by
 funext x;cases x<;>rfl
def putC (tmps:Array Value) (dst:Option Nat) (v:Value):Array Value:=match dst with | some d=>tmps.setIfInBounds d v | none=>tmps
section
variable {P:Program} {b:Frame} {tmps:Array Value} {ds:List Deferred} {k:List Item} {cs:List Frame} {w:World}
theorem st_skip:step P (lone (onF b tmps ds (.code .skip::k)) cs w) = .next (lone (onF b tmps ds k) cs w):=step_lone_go (by simp [stepG,stepG.exec,onF])
theorem st_label {l:Nat}:step P (lone (onF b tmps ds (.code (.label l)::k)) cs w) = .next (lone (onF b tmps ds k) cs w):=step_lone_go (by simp [stepG,stepG.exec,onF])
theorem qto {id:Nat}:step P (lone (onF b tmps ds (.inBlock id::k)) cs w) = .next (lone (onF b tmps ds k) cs w):=step_lone_go (by simp [stepG,stepG.exec,onF])
theorem ql9 {x y:Code}:step P (lone (onF b tmps ds (.code (.seq x y)::k)) cs w) = .next (lone (onF b tmps ds (.code x::.code y::k)) cs w):=step_lone_go (by simp [stepG,stepG.exec,onF])
theorem st_cond {c:Operand} {x y:Code} {t:Bool} (h:evC tmps c = .bool t):step P (lone (onF b tmps ds (.code (.cond c x y)::k)) cs w) = .next (lone (onF b tmps ds (.code (if t then x else y)::k)) cs w) :=
 step_lone_go (by
  have h1:=congrFun (qm9 b tmps ds (.code (.cond c x y)::k)) c
  simp only [onF] at h1
  simp [stepG,stepG.exec,onF,h1,h])
theorem qke {id:Nat} {c:Code}:step P (lone (onF b tmps ds (.code (.block id c)::k)) cs w) = .next (lone (onF b tmps ds (.code c::.inBlock id::k)) cs w):=step_lone_go (by simp [stepG,stepG.exec,onF])
theorem st_loop {c:Code}:step P (lone (onF b tmps ds (.code (.loop c)::k)) cs w) = .next (lone (onF b tmps ds (.code c::.inLoop c::k)) cs w):=step_lone_go (by simp [stepG,stepG.exec,onF])
theorem st_inLoop {c:Code}:step P (lone (onF b tmps ds (.inLoop c::k)) cs w) = .next (lone (onF b tmps ds (.code c::.inLoop c::k)) cs w):=step_lone_go (by simp [stepG,stepG.exec,onF])
theorem st_exit {id:Nat} {k':List Item} (h:exitTo id k=some k'):step P (lone (onF b tmps ds (.code (.exit id)::k)) cs w) = .next (lone (onF b tmps ds k') cs w):=step_lone_go (by simp [stepG,stepG.exec,onF,h])
theorem st_region {id:Nat} {ops:Array Oper}:step P (lone (onF b tmps ds (.code (.region id ops false)::k)) cs w) = .next (lone (onF b tmps ds (.inRegion ops (List.range ops.size)::k)) cs w):=step_lone_go (by simp [stepG,stepG.exec,onF])
theorem st_draw {id:Nat} {ops:Array Oper}:step P (lone (onF b tmps ds (.code (.region id ops true)::k)) cs w) =
  .next (lone (onF b tmps ds (.inRegion ops (Region.schedule (P.follows .mixedOrders) ops (w.tape w.drawn (.order b.fn id)))::k)) cs { w with drawn:=w.drawn+1 }) :=
 step_lone_go (by simp [stepG,stepG.exec,onF,choose,Sem.run,Question.forced,Question.cut])
theorem qgo {ops:Array Oper}:step P (lone (onF b tmps ds (.inRegion ops []::k)) cs w) = .next (lone (onF b tmps ds k) cs w):=step_lone_go (by simp [stepG,stepG.exec,onF])
theorem qi4 {ops:Array Oper} {i:Nat} {rest:List Nat} {o:Oper} (ho:ops[i]?=some o) (v:Value):(onF b tmps ds (.inRegion ops (i::rest)::k)).finish v=onF b (putC tmps o.dst v) ds (.inRegion ops rest::k):=by
 cases h:o.dst<;>simp [Frame.finish,onF,putC,ho,h]
theorem qjp {ops:Array Oper} {i:Nat} {rest:List Nat} {o:Oper} (ho:ops[i]?=some o) (hw:Region.wanted o (yielded ops tmps)=false) :
  step P (lone (onF b tmps ds (.inRegion ops (i::rest)::k)) cs w) = .next (lone (onF b (putC tmps o.dst undef) ds (.inRegion ops rest::k)) cs w):=by
 rw [← qi4 ho]
 exact step_lone_go (by simp [stepG,stepG.exec,onF,ho,hw])
theorem stG_op {ops:Array Oper} {i:Nat} {rest:List Nat} {o:Oper} (ho:ops[i]?=some o) (hw:Region.wanted o (yielded ops tmps)=true) (hd:∀ c,o.op≠.defer c) :
  stepG P true { frame:=onF b tmps ds (.inRegion ops (i::rest)::k),callers:=cs,status:=.running,dying:=none } w =
   stepG.apply P true (onF b tmps ds (.inRegion ops (i::rest)::k)) cs none (execOp (evC tmps) o) w:=by
 have he:=qm9 b tmps ds (.inRegion ops (i::rest)::k)
 simp only [onF] at he
 simp only [onF]
 simp only [stepG,stepG.exec,ho,Option.map_some,hw,Option.getD_some,if_true,stepG.oper,Frame.oper?,he]
 split
 ·rename_i h;exact absurd h (hd _)
 ·rfl
theorem qna {ops:Array Oper} {i:Nat} {rest:List Nat} {o:Oper} {nx:Next} {v:Value} {w':World} (ho:ops[i]?=some o) (hw:Region.wanted o (yielded ops tmps)=true) (hd:∀ c,o.op≠.defer c)
  (hr:(execOp (evC tmps) o).run P w = .ok nx w') (hn:nextVal nx=some v) :
  step P (lone (onF b tmps ds (.inRegion ops (i::rest)::k)) cs w) = .next (lone (onF b (putC tmps o.dst v) ds (.inRegion ops rest::k)) cs w'):=by
 rw [← qi4 ho]
 refine step_lone_go ?_
 rw [stG_op ho hw hd]
 cases nx<;>first | (simp [nextVal] at hn;done) | skip
 ·simp only [nextVal] at hn
  injection hn with hn
  subst hn
  simp [stepG.apply,hr]
 ·simp only [nextVal] at hn
  injection hn with hn
  subst hn
  simp [stepG.apply,hr]
inductive Starts (P:Program):Next→Frame→Prop
 | enter (f:FuncId) (args:Array Value):Starts P (.enter f args) (Frame.enter P f args .normal)
 | round (l:Nat) (f:FuncId) (tmps:Array Value) (assign body:Code):Starts P (.round l f tmps assign body) (Frame.round l f tmps assign body .normal)
theorem st_call {ops:Array Oper} {i:Nat} {rest:List Nat} {o:Oper} {nx:Next} {sf:Frame} {w':World} (ho:ops[i]?=some o) (hw:Region.wanted o (yielded ops tmps)=true) (hd:∀ c,o.op≠.defer c)
  (hr:(execOp (evC tmps) o).run P w = .ok nx w') (hn:Starts P nx sf) :
  step P (lone (onF b tmps ds (.inRegion ops (i::rest)::k)) cs w) = .next (lone sf (onF b tmps ds (.inRegion ops (i::rest)::k)::cs) w'):=by
 refine step_lone_go ?_
 rw [stG_op ho hw hd]
 cases hn with
 | enter f args=>simp [stepG.apply,hr,onF]
 | round l f t a c=>simp [stepG.apply,hr,onF]
end
def CallOK (P:Program) (call:CallF):Prop:=∀ fv args H v H',call fv args H=some (v,H')→∀ m w fv' (args':Array Value),Rel m H w→VR m fv fv'→All2 (VR m) args args'.toList →
 ∃ nx sf,(do let d ← Deferred.ofValue fv' args';invoke d.target d.args).run P w = .ok nx w∧Starts P nx sf∧∀ fr cs,∃ m' w' v',Sim m H w m' H' w'∧VR m' v v'∧Steps P (lone sf (fr::cs) w) (lone (fr.finish v') cs w')
section
variable {P:Program} {call:CallF} {m:Mp} {H H':Heap} {w w':World} {nt:Nat} {a a':Fr} {tmps:Array Value}
theorem VR.bool_right {v:Value} {b:Bool} (h:VR m v (.bool b)):v = .bool b:=by
 cases h with
 | a h=>cases h with
   | s h=>cases h;rfl
theorem qtp (hf:FR m nt a tmps) {ops:Array Oper} (hok:∀ o∈ops.toList,operOk nt o=true) (j:Nat):yielded ops tmps j=yieldedA ops a j:=by
 unfold yielded yieldedA
 cases ho:ops[j]? with
 | none=>rfl
 | some o =>
   have hmem:o∈ops.toList:=by
    have:ops.toList[j]?=some o:=by simpa using ho
    exact List.mem_of_getElem? this
   have h1:=hok o hmem
   unfold operOk at h1
   simp only [Bool.and_eq_true] at h1
   cases hd:o.dst with
   | none=>simp [hd]
   | some t =>
     rw [hd] at h1
     have ht:t < nt:=by simpa using h1.2
     obtain ⟨v',h2,h3⟩:=hf.2 t ht
     simp only [Option.bind_some,hd,h2]
     generalize hat:a t=u at h3
     cases u with
     | bool c=>rw [h3.bool_]
     | _ =>
       split
       ·rename_i c hc
        injection hc with hc
        subst hc
        cases h3.bool_right
       ·rfl
theorem qor (hf:FR m nt a tmps) {ops:Array Oper} (hok:∀ o∈ops.toList,operOk nt o=true) (o:Oper):Region.wanted o (yielded ops tmps)=Region.wanted o (yieldedA ops a):=by
 have:yielded ops tmps=yieldedA ops a:=funext fun j=>qtp hf hok j
 rw [this]
theorem qfk {o:Oper} {r:Value×Heap} (h:stepA P call a o H=some r):∀ c,o.op≠.defer c:=by
 intro c hc
 unfold stepA at h
 rw [hc] at h
 simp only at h
 unfold aexec at h
 rw [hc] at h
 cases h
theorem qos (hcall:CallOK P call) (hR:Rel m H w) {ops:Array Oper} {i:Nat} {o:Oper} (ho:ops[i]?=some o) (hv:∀ z∈o.op.operands.toList,VR m (ev a z) (evC tmps z))
  (hw:Region.wanted o (yielded ops tmps)=true) {v:Value} (h:stepA P call a o H=some (v,H')) :
  ∀ b ds rest k cs,∃ m' w' v',Sim m H w m' H' w'∧VR m' v v'∧Steps P (lone (onF b tmps ds (.inRegion ops (i::rest)::k)) cs w) (lone (onF b (putC tmps o.dst v') ds (.inRegion ops rest::k)) cs w') ∧
    (cls o.op = .pure_∨cls o.op = .read→m'=m∧w'=w):=by
 intro b ds rest k cs
 have hd:=qfk h
 unfold stepA at h
 split at h
 ·rename_i f args ts hop
  rw [hop] at hv
  have hfv:=hv f (by simp [Op.operands,Call.operands])
  have hargs:All2 (VR m) (args.toList.map (ev a)) (args.map (evC tmps)).toList:=by
   rw [Array.toList_map]
   exact All2.map_same _ fun x hx=>hv x (by simp [Op.operands,Call.operands];exact .inr (by simpa using hx))
  obtain ⟨nx,sf,h1,h2,h3⟩:=hcall _ _ _ _ _ h m w _ _ hR hfv hargs
  obtain ⟨m',w',v',h3,h4,h5⟩:=h3 (onF b tmps ds (.inRegion ops (i::rest)::k)) cs
  refine ⟨m',w',v',h3,h4,?_,fun hq=>by rw [hop] at hq;simp [cls] at hq⟩
  have hr:(execOp (evC tmps) o).run P w = .ok nx w:=by
   simp only [execOp,hop]
   simpa [resolve] using h1
  refine .head (st_call ho hw hd hr h2) ?_
  rw [← qi4 ho]
  exact h5
 ·obtain ⟨nx,w',m',v',h1,h2,h3,h4,h5⟩:=qp9 hR hv h
  exact ⟨m',w',v',h4,h3,.one (qna ho hw hd h1 h2),h5⟩
theorem op_sim (hcall:CallOK P call) (hR:Rel m H w) (hf:FR m nt a tmps) {ops:Array Oper} (hok:∀ o∈ops.toList,operOk nt o=true) {i:Nat} {o:Oper} (ho:ops[i]?=some o)
  (hw:Region.wanted o (yielded ops tmps)=true) {v:Value} (h:stepA P call a o H=some (v,H')) :
  ∀ b ds rest k cs,∃ m' w' v',Sim m H w m' H' w'∧VR m' v v'∧Steps P (lone (onF b tmps ds (.inRegion ops (i::rest)::k)) cs w) (lone (onF b (putC tmps o.dst v') ds (.inRegion ops rest::k)) cs w'):=by
 intro b ds rest k cs
 have hmem:o∈ops.toList:=List.mem_of_getElem? (by simpa using ho:ops.toList[i]?=some o)
 obtain ⟨m',w',v',h1,h2,h3,_⟩:=qos hcall hR ho (fun z hz=>hf.opnd (qgn (hok o hmem) z hz)) hw h b ds rest k cs
 exact ⟨m',w',v',h1,h2,h3⟩
theorem FR.putC (hf:FR m nt a tmps) {v v':Value} (hv:VR m v v') (d:Option Nat):FR m nt (Abs.putA a d v) (Abs.putC tmps d v'):=by
 cases d with
 | none=>exact hf
 | some d=>exact hf.put hv d
theorem ops_sim (hcall:CallOK P call) {ops:Array Oper} (hok:∀ o∈ops.toList,operOk nt o=true):∀ (l:List Oper) (i:Nat),ops.toList.drop i=l→∀ {a:Fr} {H:Heap} {m:Mp} {w:World} {tmps:Array Value},Rel m H w→FR m nt a tmps →
  evOps P call ops l a H=some (a',H') →
  ∀ b ds k cs,∃ m' w' tmps',Sim m H w m' H' w'∧FR m' nt a' tmps'∧Steps P (lone (onF b tmps ds (.inRegion ops (List.range' i l.length)::k)) cs w) (lone (onF b tmps' ds k) cs w'):=by
 intro l
 induction l with
 | nil =>
   intro i _ a H m w tmps hR hf h b ds k cs
   simp only [evOps] at h
   injection h with h;injection h with h1 h2;subst h1;subst h2
   exact ⟨m,w,tmps,.refl hR,hf,Steps.one qgo⟩
 | cons o l ih =>
   intro i hl a H m w tmps hR hf h b ds k cs
   have ho:ops[i]?=some o:=by
    have:(ops.toList.drop i)[0]?=some o:=by rw [hl];rfl
    simpa using this
   have hl':ops.toList.drop (i+1)=l:=by
    have:(ops.toList.drop i).drop 1=l:=by rw [hl];rfl
    rw [List.drop_drop] at this
    exact this
   simp only [evOps] at h
   rw [List.length_cons,List.range'_succ]
   cases hw:Region.wanted o (yieldedA ops a) with
   | true =>
     rw [hw] at h
     simp only [if_true] at h
     split at h
     ·rename_i v H1 hs
      obtain ⟨m1,w1,v',s1,s2,s3⟩:=op_sim hcall hR hf hok ho (by rw [qor hf hok];exact hw) hs b ds (List.range' (i+1) l.length) k cs
      obtain ⟨m2,w2,t2,q1,q2,q3⟩:=ih (i+1) hl' s1.rel ((hf.mono s1.ext).putC s2 o.dst) h b ds k cs
      exact ⟨m2,w2,t2,s1.trans q1,q2,s3.trans q3⟩
     ·cases h
   | false =>
     rw [hw] at h
     simp only [Bool.false_eq_true,if_false] at h
     obtain ⟨m2,w2,t2,q1,q2,q3⟩:=ih (i+1) hl' hR (hf.putC (.undef m) o.dst) h b ds k cs
     exact ⟨m2,w2,t2,q1,q2,.head (qjp ho (by rw [qor hf hok];exact hw)) q3⟩
end
end Go.Abs
