/- The fast evaluator: regions that draw their order, code, functions, calls; contracts by tables. Definitions only. -/
import Derived.Test.YtmmgdgmjkhcfaaaFastG
import Derived.Test.YtmmgdgmjkhcfaaaEngU
namespace Go.Abs
def RC.isEx : RC → Bool
  | .ex _ _ _ => true
  | _ => false
noncomputable def thenK (r k : RC) : RC := RC.rec (fun _ _ => RC.no) (fun _ _ _ => k) (fun _ _ => RC.no) (fun _ _ => RC.no) RC.no RC.no r
noncomputable def againK (f : OpK) (c : Ctx) (E : Env) (T : FT) (v : Value) (G : FH) : RC := f c E T G fun v' _ => bif vEq v v' then RC.ex 0 T G else RC.no
noncomputable def winK (m : Nat) (st : List (Option Nat × FH)) (test : FH → RC) (k : RC) : RC :=
  List.rec k (fun p _ ih => Prod.rec (fun e G => Option.rec (thenK (test G) ih) (fun e => bif Nat.testBit m e then thenK (test G) k else thenK (test G) ih) e) p) st
abbrev PdF := List (Nat × (FH → RC))
/-- What still waits behind an effect, each read again. -/
noncomputable def waitK (m : Nat) (pd : PdF) (H : FH) (k : PdF → RC) : RC :=
  List.rec (motive := fun _ => (PdF → RC) → RC) (fun k => k []) (fun p _ ih k => Prod.rec (fun j f => bif Nat.testBit m j then ih k else thenK (f H) (ih fun l => k ((j, f) :: l))) p) pd k
abbrev DrawK := Ctx → Env → FT → FH → List (Option Nat × FH) → PdF → RC
noncomputable def nextD (L : Nat) (mp : Mpl) (n : Nat) (dst : Option Nat) (rest : Mpl → Nat → Box DrawK) : Box (Ctx → Env → FT → FH → Value → List (Option Nat × FH) → PdF → RC) := match dst with
  | none => ⟨fun c E T H _ st pd => (rest mp n).run c E T H st pd⟩
  | some d => bif L.testBit d then ⟨fun c E T H v st pd => (rest ((d, .env n) :: mp) (n + 1)).run c (v :: E) T H st pd⟩
    else ⟨fun c E T H v st pd => (putB d).run T v fun T' => (rest ((d, .env n) :: unslot d mp) (n + 1)).run c (v :: E) T' H st pd⟩
noncomputable def wantB (L : Nat) (mp : Mpl) (n : Nat) (ops : Array Oper) (g : Option (Nat × Bool)) : Box (Env → FT → RC → RC → RC) := match g with
  | none => ⟨fun _ _ y _ => y⟩
  | some (j, want) => guardB L mp n ops j want
noncomputable def drawB (P : Program) (L : Nat) (ops : Array Oper) (bef : Array Nat) (l : List Nat) : Mpl → Nat → Box DrawK :=
  List.rec (motive := fun _ => Mpl → Nat → Box DrawK) (fun _ _ => ⟨fun _ _ T H _ _ => .nx T H⟩)
    (fun j _ ih mp n => match ops[j]? with
      | none => ⟨fun _ _ _ _ _ _ => RC.no⟩
      | some o => fN (bef.getD j 0) fun m => match cls o.op with
        | .eff => ⟨fun c E T H st pd => (wantB L mp n ops o.guard).run E T
            ((cOp P L mp n o.op).run c E T H fun v H' => waitK m pd H' fun pd' => (nextD L mp n o.dst ih).run c E T H' v ((some j, H') :: st) pd')
            ((nextD L mp n o.dst ih).run c E T H undef st pd)⟩
        | .read => ⟨fun c E T H st pd => (wantB L mp n ops o.guard).run E T
            ((cOp P L mp n o.op).run c E T H fun v _ => winK m st (againK (cOp P L mp n o.op).run c E T v) ((nextD L mp n o.dst ih).run c E T H v st ((j, againK (cOp P L mp n o.op).run c E T v) :: pd)))
            ((nextD L mp n o.dst ih).run c E T H undef st pd)⟩
        | .pure_ => ⟨fun c E T H st pd => (wantB L mp n ops o.guard).run E T
            ((cOp P L mp n o.op).run c E T H fun v _ => (nextD L mp n o.dst ih).run c E T H v st pd)
            ((nextD L mp n o.dst ih).run c E T H undef st pd)⟩
        | .all_ => ⟨fun c E T H st pd => (wantB L mp n ops o.guard).run E T
            ((cOp P L mp n o.op).run c E T H fun v H' => (nextD L mp n o.dst ih).run c E T H' v st pd)
            ((nextD L mp n o.dst ih).run c E T H undef st pd)⟩) l
def noRead (ops : Array Oper) : Bool := ops.toList.all fun o => !(cls o.op == .read)
noncomputable def rdOkK (H : FH) (rd : Option Nat) (k : RC) : RC := Option.rec k (fun l => ndK H l fun d => Nd.rec (fun x _ _ => FB.rec RC.no (fun _ _ _ _ => RC.no) (fun _ _ _ => RC.no) (fun _ _ _ _ _ _ _ => k) x) d) rd
noncomputable def loopK (H : FH) (l : Nat) (k : LoopState → Option Code → Nat → FT → List Nat → Code → Code → Nat → List Nat → RC) : RC := ndK H l fun d => Nd.rec (fun x mx ms => FB.rec RC.no (fun _ _ _ _ => RC.no) (fun _ _ _ => RC.no) (fun st pend nt T ps as bd => k st pend nt T ps as bd mx ms) x) d
abbrev CodeK := Ctx → FT → FH → RC
noncomputable def cc (P : Program) (L nt : Nat) (c : Code) : Box CodeK :=
  Code.rec (motive := fun _ => Box CodeK)
    ⟨fun _ T H => .nx T H⟩
    (fun _ ops draw => bif draw && !noRead ops then ⟨fun c T H => (drawB P L ops (Region.before ops) (List.range ops.size) [] 0).run c [] T H [(none, H)] []⟩
      else ⟨fun c T H => (regB P L ops ops.toList [] 0).run c [] T H⟩)
    (fun _ _ iha ihb => ⟨fun c T H => RC.rec (fun T H => ihb.run c T H) RC.ex RC.rt (fun _ _ => RC.no) RC.no RC.no (iha.run c T H)⟩)
    (fun x _ _ iha ihb => ⟨fun c T H => (opB L [] 0 x).run [] T fun v => boolK v fun t => Bool.rec (ihb.run c T H) (iha.run c T H) t⟩)
    (fun id _ ih => ⟨fun c T H => RC.rec RC.nx (fun i T H => bif Nat.beq i id then RC.nx T H else RC.ex i T H) RC.rt (fun _ _ => RC.no) RC.no RC.no (ih.run c T H)⟩)
    (fun _ ih => ⟨fun c T H => Nat.rec (motive := fun _ => FT → FH → RC) (fun _ _ => RC.no) (fun _ lo T H => RC.rec lo RC.ex RC.rt (fun _ _ => RC.no) RC.no RC.no (ih.run c T H)) c.n T H⟩)
    (fun f params assign body _ _ => bif Nat.beq L 0 then ⟨fun c T H => rdOkK H c.rd ((opB L [] 0 f).run [] T fun fv => pushK H (fun _ => ⟨.loop .ready none nt T params.toList assign body, 0, []⟩) fun hl H1 =>
        RC.rec (fun _ _ => RC.no) (fun _ _ _ => RC.no) (fun _ _ => RC.no) (fun _ H' => loopK H' hl fun st pend _ _ _ _ _ mx ms => LoopState.rec (motive := fun _ => RC → RC) id (fun _ => RC.no) id id st
          (Option.rec (setNdK H' hl ⟨.dead, mx, ms⟩ fun H2 => RC.nx T H2) (fun j => match j with
            | .exit id => setNdK H' hl ⟨.dead, mx, ms⟩ fun H2 => RC.ex id T H2
            | .ret => setNdK H' hl ⟨.dead, mx, ms⟩ fun H2 => RC.rt T H2
            | _ => RC.no) pend)) RC.no RC.no (c.call fv [.func (.yield hl) #[] #[]] H1))⟩
      else ⟨fun _ _ _ => RC.no⟩)
    (fun id => ⟨fun _ T H => .ex id T H⟩)
    (fun _ _ => ⟨fun _ _ _ => RC.no⟩)
    (fun _ => ⟨fun _ T H => .nx T H⟩)
    (fun _ => ⟨fun _ _ _ => RC.no⟩)
    ⟨fun _ T H => .rt T H⟩
    (fun _ => ⟨fun _ _ _ => RC.no⟩) c
/- Which temporaries live in one region alone. -/
def hasRange : Code → Bool
  | .seq a b | .cond _ a b => hasRange a || hasRange b
  | .block _ c | .loop c | .scope c => hasRange c
  | .rangeFunc _ _ _ _ => true
  | _ => false
def tmpOf : Operand → Option Nat
  | .tmp t => some t
  | _ => none
/-- (seen once, in one region alone; seen elsewhere) as sets of bits: (locals, others). -/
def maskOf (l : List Nat) : Nat := l.foldl (fun m t => m ||| (1 <<< t)) 0
def readsOf (ops : List Oper) : List Nat := ops.flatMap fun o => o.op.operands.toList.filterMap tmpOf
def defsOf (ops : List Oper) : List Nat := ops.filterMap fun o => o.dst
def guardsOf (ops : Array Oper) : List Nat := ops.toList.filterMap fun o => match o.guard with
  | some (j, _) => (ops[j]?).bind (·.dst)
  | none => none
/-- Each region's read slots that it has not laid before, its laid slots. -/
def lateReads : List Oper → List Nat → List Nat
  | [], _ => []
  | o :: os, seen => ((o.op.operands.toList.filterMap tmpOf).filter fun t => !seen.contains t) ++ lateReads os (match o.dst with | some d => d :: seen | none => seen)
def codeInfo : Code → List (List Nat × List Nat × List Nat) × List Nat   -- regions: defs, reads, late reads; reads outside of regions
  | .region _ ops _ => ([(defsOf ops.toList, readsOf ops.toList ++ guardsOf ops, lateReads ops.toList [])], [])
  | .seq a b => let x := codeInfo a; let y := codeInfo b; (x.1 ++ y.1, x.2 ++ y.2)
  | .cond c a b => let x := codeInfo a; let y := codeInfo b; (x.1 ++ y.1, (tmpOf c).toList ++ x.2 ++ y.2)
  | .block _ c | .loop c | .scope c => codeInfo c
  | .rangeFunc f _ _ _ => ([], (tmpOf f).toList)
  | _ => ([], [])
def masks (l : List (List Nat × List Nat × List Nat)) : List (Nat × Nat × Nat) := l.map fun r => (maskOf r.1, maskOf r.2.1, maskOf r.2.2)
/-- Slots that are laid somewhere and read nowhere but behind, in the same region. -/
def localsOf (fn : Func) (c : Code) : Nat :=
  if hasRange c then 0 else
  let info := codeInfo c
  let ms := masks info.1
  let out := maskOf info.2 ||| maskOf (fn.results.toList.map fun | .tmp t => t | .cell t _ => t) ||| ms.foldl (fun a r => a ||| r.2.2) 0
  -- read in a region that does not lay it, or laid in two regions and read
  let cross := ms.foldl (fun a r => a ||| (r.2.1 ^^^ (r.2.1 &&& r.1))) 0
  let defs := ms.foldl (fun a r => a ||| r.1) 0
  defs ^^^ (defs &&& (out ||| cross))
noncomputable def loadsB (P : Program) (L : Nat) (l : List ResultVar) : Box (FT → FH → (List Value → RC) → RC) :=
  List.rec (motive := fun _ => Box (FT → FH → (List Value → RC) → RC)) ⟨fun _ _ k => k []⟩ (fun r _ ih => match r with
    | .tmp t => ⟨fun T H k => (opB L [] 0 (.tmp t)).run [] T fun v => scalK v fun _ => ih.run T H fun vs => k (v :: vs)⟩
    | .cell t ty => ⟨fun T H k => (opB L [] 0 (.tmp t)).run [] T fun p => (loadB P ty).run p H fun v => ih.run T H fun vs => k (v :: vs)⟩) l
noncomputable def packK (vs : List Value) (k : Value → RC) : RC := List.rec (k (.tuple ⟨[]⟩)) (fun x r _ => List.rec (k x) (fun _ _ _ => k (.tuple ⟨vs⟩)) r) vs
noncomputable def resB (P : Program) (L : Nat) (l : List ResultVar) : Box (FT → FH → RC) := ⟨fun T H => (loadsB P L l).run T H fun vs => packK vs fun v => .val v H⟩
noncomputable def argsK (args : List Value) (k : FT → RC) : RC := List.rec (motive := fun _ => Nat → FT → RC) (fun _ T => k T) (fun v _ ih i T => (s2B i).run T v fun T => fN (Nat.add i 1) fun i => ih i T) args 0 blank
noncomputable def fnB (P : Program) (okF : Nat → Bool) (f : Nat) : Box (Ctx → List Value → FH → RC) := match P.funcs[f]? with
  | some fn => match fn.body with
    | some c => bif okF f && Nat.ble fn.ntmps 262144 then fN (localsOf fn c) fun L => fN fn.ntmps fun nt => ⟨fun ctx args H => bif Nat.ble args.length nt then argsK args fun T =>
        RC.rec (fun T H => (resB P L fn.results.toList).run T H) (fun _ _ _ => RC.no) (fun T H => (resB P L fn.results.toList).run T H) (fun _ _ => RC.no) RC.no RC.no ((cc P L nt c).run ctx T H) else RC.no⟩
      else ⟨fun _ _ _ => RC.no⟩
    | none => ⟨fun _ _ _ => RC.no⟩
  | none => ⟨fun _ _ _ => RC.no⟩
noncomputable def putsK (ps : List Nat) (args : List Value) (T : FT) (k : FT → RC) : RC :=
  List.rec (motive := fun _ => List Value → FT → RC) (fun _ T => k T) (fun p _ ih args T => List.rec (k T) (fun v vs _ => (putB p).run T v fun T => ih vs T) args) ps args T
noncomputable def roundK (P : Program) (call : CallFF) (n l : Nat) (args : List Value) (H : FH) : RC :=
  loopK H l fun st _ nt T ps as bd _ _ => LoopState.rec (motive := fun _ => RC) (bif Nat.beq args.length ps.length then putsK ps args T fun T =>
    RC.rec (fun T H1 => loopK H1 l fun st p1 nt1 T1 ps1 as1 bd1 mx1 ms1 => LoopState.rec (motive := fun _ => RC) (setNdK H1 l ⟨.loop .busy p1 nt1 T1 ps1 as1 bd1, mx1, ms1⟩ fun H2 =>
        RC.rec (fun _ H3 => loopK H3 l fun _ _ nt2 T2 ps2 as2 bd2 mx2 ms2 => setNdK H3 l ⟨.loop .ready none nt2 T2 ps2 as2 bd2, mx2, ms2⟩ fun H4 => .val (.bool true) H4)
          (fun id _ H3 => loopK H3 l fun _ _ nt2 T2 ps2 as2 bd2 mx2 ms2 => setNdK H3 l ⟨.loop .done (some (.exit id)) nt2 T2 ps2 as2 bd2, mx2, ms2⟩ fun H4 => .val (.bool false) H4)
          (fun _ H3 => loopK H3 l fun _ _ nt2 T2 ps2 as2 bd2 mx2 ms2 => setNdK H3 l ⟨.loop .done (some .ret) nt2 T2 ps2 as2 bd2, mx2, ms2⟩ fun H4 => .val (.bool false) H4)
          (fun _ _ => RC.no) RC.no RC.no ((cc P 0 nt bd).run ⟨call, n, some l⟩ T H2)) RC.no RC.no RC.no st)
      (fun _ _ _ => RC.no) (fun _ _ => RC.no) (fun _ _ => RC.no) RC.no RC.no ((cc P 0 nt as).run ⟨call, n, some l⟩ T H) else RC.no) RC.no RC.no RC.no st
noncomputable def bodyK (P : Program) (okF : Nat → Bool) (call : CallFF) (n : Nat) : CallFF := fun fv args H => match fv with
  | .func (.func f) first captured => bif first.isEmpty then (fnB P okF f).run ⟨call, n, none⟩ (args ++ captured.toList) H else RC.no
  | .func (.yield l) _ _ => roundK P call n l args H
  | _ => RC.no
/-- The evaluator: a contract's answer, or else the body's. -/
noncomputable def evF (P : Program) (okF : Nat → Bool) (base : CallFF) (n : Nat) : CallFF :=
  Nat.rec (motive := fun _ => CallFF) (fun fv args H => RC.rec (fun _ _ => RC.no) (fun _ _ _ => RC.no) (fun _ _ => RC.no) (fun v H' => .val v H') RC.no RC.no (base fv args H))
    (fun n ih fv args H => RC.rec (fun _ _ => RC.no) (fun _ _ _ => RC.no) (fun _ _ => RC.no) (fun v H' => .val v H') (bodyK P okF ih n fv args H) RC.no (base fv args H)) n
/- Contracts. -/
noncomputable def plainsK (l : List Value) (k : RC) : RC := List.rec k (fun v _ ih => Value.rec (motive_1 := fun _ => RC) (motive_2 := fun _ => RC) (motive_3 := fun _ => RC) (fun _ => ih) (fun _ _ => ih) (fun _ _ => RC.no) (fun _ _ _ => RC.no) (fun _ => ih) (fun _ => RC.no) (fun _ _ _ => RC.no) (fun _ => RC.no) (fun _ => RC.no) (fun _ _ _ _ _ => RC.no) RC.no (fun _ _ _ => RC.no) RC.no (fun _ _ => RC.no) (fun _ _ => RC.no) (fun _ _ => RC.no) RC.no (fun _ _ _ _ => RC.no) v) l
noncomputable def readArgK (H : FH) (v : Value) (k : Arg → RC) : RC :=
  Value.rec (motive_1 := fun _ => RC) (motive_2 := fun _ => RC) (motive_3 := fun _ => RC) (fun _ => k (.imm v)) (fun _ _ => k (.imm v)) (fun _ _ => RC.no) (fun _ _ _ => RC.no) (fun _ => k (.imm v)) (fun _ => RC.no)
    (fun a n c => Option.rec (bif Nat.beq n 0 && Nat.beq c 0 then k (.imm v) else RC.no) (fun ad => Addr.rec (fun b o s => Option.rec (bif Nat.beq c 1 then cellsK H b fun _ _ m t => bif Nat.ble (Nat.add o n) m then
        fN (Nat.sub m o) fun q => rowK t o q fun l => plainsK l (bif Nat.beq q n then k (.li l) else takeK n l fun l => k (.li l)) else RC.no else RC.no)
      (fun _ => bif Nat.beq b 0 && (Nat.beq o 0 && Nat.beq n 0) then k (.imm v) else RC.no) s) ad) a)
    (fun _ => RC.no) (fun _ => RC.no) (fun _ _ _ _ _ => RC.no) RC.no (fun _ _ _ => RC.no) RC.no (fun _ _ => RC.no) (fun _ _ => RC.no) (fun _ _ => RC.no) RC.no (fun _ _ _ _ => RC.no) v
noncomputable def readArgsK (H : FH) (l : List Value) (k : List Arg → RC) : RC := List.rec (motive := fun _ => (List Arg → RC) → RC) (fun k => k []) (fun v _ ih k => readArgK H v fun a => ih fun as => k (a :: as)) l k
noncomputable def renSK (d : Nat) (v : Value) (k : Value → RC) : RC :=
  Value.rec (motive_1 := fun _ => RC) (motive_2 := fun _ => RC) (motive_3 := fun _ => RC) (fun _ => k v) (fun _ _ => k v) (fun _ _ => RC.no) (fun _ _ _ => RC.no) (fun _ => k v) (fun _ => RC.no)
    (fun a n c => Option.rec (bif Nat.beq n 0 && Nat.beq c 0 then k v else RC.no) (fun ad => Addr.rec (fun b o s => Option.rec (fN (Nat.add b d) fun b => k (.slice (some ⟨b, o, none⟩) n c))
      (fun _ => bif Nat.beq b 0 && (Nat.beq o 0 && Nat.beq n 0) then k v else RC.no) s) ad) a)
    (fun _ => RC.no) (fun _ => RC.no) (fun _ _ _ _ _ => RC.no) RC.no (fun _ _ _ => RC.no) RC.no (fun _ _ => RC.no) (fun _ _ => RC.no) (fun _ _ => RC.no) RC.no (fun _ _ _ _ => RC.no) v
noncomputable def renSsK (d : Nat) (l : List Value) (k : List Value → RC) : RC := List.rec (motive := fun _ => (List Value → RC) → RC) (fun k => k []) (fun v _ ih k => renSK d v fun x => ih fun xs => k (x :: xs)) l k
noncomputable def renAK (d : Nat) (v : Value) (k : Value → RC) : RC := match v with
  | .agg cs => renSsK d cs.toList fun l => k (.agg ⟨l⟩)
  | v => renSK d v k
noncomputable def renAsK (d : Nat) (l : List Value) (k : List Value → RC) : RC := List.rec (motive := fun _ => (List Value → RC) → RC) (fun k => k []) (fun v _ ih k => renAK d v fun x => ih fun xs => k (x :: xs)) l k
noncomputable def renVK (d : Nat) (v : Value) (k : Value → RC) : RC := match v with
  | .tuple cs => renAsK d cs.toList fun l => k (.tuple ⟨l⟩)
  | v => renAK d v k
noncomputable def lenK (l : List Value) (k : Nat → RC) : RC := List.rec (motive := fun _ => Nat → RC) (fun n => k n) (fun _ _ ih n => fN (Nat.add n 1) ih) l 0
noncomputable def blksK (d : Nat) (bs : List (List Value)) (H : FH) (k : FH → RC) : RC :=
  List.rec (motive := fun _ => FH → RC) (fun H => k H) (fun cs _ ih H => renSsK d cs fun cs => lenK cs fun m => newK H cs m fun _ H => ih H) bs H
/-- A table by functions: which have one; what it says. -/
structure Spec where
  has : Nat
  get : Nat → List Arg → Option Res
noncomputable def tabF (sp : Spec) : CallFF := fun fv args H => match fv with
  | .func (.func f) first captured => bif Nat.testBit sp.has f then (bif first.isEmpty && captured.isEmpty then readArgsK H args fun as => Option.rec RC.skip (fun r => Prod.rec (fun v bs =>
      FH.rec (fun d _ => renVK d v fun v => blksK d bs H fun H' => .val v H') H) r) (sp.get f as) else RC.no) else RC.skip
  | _ => RC.skip
def noSpec : Spec := ⟨0, fun _ _ => none⟩
/-- The arguments as a heap. -/
noncomputable def startR (as : List Arg) : FH → (List Value → FH → RC) → RC :=
  List.rec (motive := fun _ => FH → (List Value → FH → RC) → RC) (fun H k => k [] H) (fun a _ ih H k => Arg.rec (motive := fun _ => RC) (fun v => ih H fun vs H => k (v :: vs) H)
    (fun l => lenK l fun m => setsK l blank 0 fun t => bif Nat.ble m 262144 then pushK H (fun i => ⟨.cells i false m t, m, [i]⟩) fun i H => ih H fun vs H => k (.slice (some ⟨i, 0, none⟩) m 1 :: vs) H else RC.no) a) as
noncomputable def startK (as : List Arg) (k : List Value → FH → RC) : RC := startR as ⟨0, deadT⟩ k
noncomputable def runF (call : CallFF) (f : Nat) (as : List Arg) : RC := startK as fun vs H => call (.func (.func f) #[] #[]) vs H
end Go.Abs
