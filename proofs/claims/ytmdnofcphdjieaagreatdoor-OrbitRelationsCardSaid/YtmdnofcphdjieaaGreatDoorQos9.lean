/- Of the law: texts of its proof, joined (part 9). -/
import Derived.Shelf.Sort.Plain
import Derived.Test.YtmdnofcphdjieaaGreatDoorQos1
import Derived.Test.YtmdnofcphdjieaaGreatDoorQos4
import Derived.Test.YtmdnofcphdjieaaGreatDoorQos6
import Derived.Test.YtmdnofcphdjieaaGreatDoorQos8
set_option linter.all false
namespace Go.Proofs.YtmdnofcphdjieaaGreatDoor
open Go Go.Abs
def posV (n:Nat):Value:=.int .i64 (Int.ofNat n)
def negV (n:Nat):Value:=.int .i64 (bif Nat.beq n 0 then Int.ofNat 0 else Int.negSucc (Nat.sub n 1))
def sl (l:List Value):Res:=(sliceA 0 0 l.length 1,[l])
def i (n:Nat):Arg:=.imm (posV n)
def lo:Arg:=.imm lostSlice
def L (l:List Nat):Arg:=.li (l.map posV)
noncomputable def run (sp:Abs.Spec):CallFF:=evF Tryz.prog okN (tabF sp) 200
def Seen (sp:Abs.Spec) (g:Nat) (l:List Line):Prop:=allK l (fun x=>seenK (run sp) g x.1 x.2)=RC.skip
abbrev Ok (sp:Abs.Spec):Prop:=SpOk Tryz.prog sp
theorem ok_of {sp:Abs.Spec} (h:Ok sp) {g:Nat} {l:List Line} (hs:Seen sp g l):∀ x∈l,LineOK Tryz.prog g x.1 x.2:=h.seen hF hmix hs
noncomputable def lay (sp:Abs.Spec) (g:Nat) (l:List Line):Abs.Spec:=sp.add g (linesT (treeOf l))
def isTrue (r:RC):Bool:=match r with
 | .val (.bool true) _=>true
 | _=>false
end Go.Proofs.YtmdnofcphdjieaaGreatDoor
namespace Go.Proofs.YtmdnofcphdjieaaGreatDoor
open Go Go.Abs
def rpvR (k:Nat):Res:=(sliceA 0 0 k 1,[ints (List.replicate k (-1))])
def rpvL (l:List Nat):List Line:=l.map fun (k:Nat)=>([.li (ints [-1]),.imm (vi k)],rpvR k)
theorem rpv_all:∀ x∈rpvL (List.range 101),LineOK Tryz.prog 70 x.1 x.2:=ok_of (qhz _) (show Seen noSpec 70 _ from by unfold Seen;kernel_rfl)
theorem rpv_line {k:Nat} (h:k≤100):LineOK Tryz.prog 70 [.li (ints [-1]),.imm (vi k)] (rpvR k):=rpv_all _ (List.mem_map.2 ⟨k,List.mem_range.2 (by omega),rfl⟩)
open Classical in
noncomputable def rpvS:Nat→List Arg→Option Res:=fun f xs=>if f=70 then (match xs with
 | [.li vs,.imm (.int .i64 z)]=>if vs=ints [-1]∧0≤z∧z≤100 then some (rpvR z.toNat) else none
 | _=>none) else none
theorem rpvS_ok:∀ f xs r,rpvS f xs=some r→LineOK Tryz.prog f xs r:=by
 intro f xs r h
 unfold rpvS at h
 split at h
 ·rename_i hf
  subst hf
  split at h
  ·split at h
   ·rename_i z hp
    cases h
    obtain ⟨rfl,h0,h1⟩:=hp
    have e:z=((z.toNat:Nat):Int):=by omega
    have:=rpv_line (k:=z.toNat) (by omega)
    rw [← e] at this
    exact this
   ·cases h
  ·cases h
 ·cases h
end Go.Proofs.YtmdnofcphdjieaaGreatDoor
namespace Go.Proofs.YtmdnofcphdjieaaGreatDoor
open Go Go.Abs
def sortI (l:List Int):List Int:=l.mergeSort fun x y=>decide (x≤y)
theorem sort1Says:Sort1Says Tryz.prog 136 sortI:=fun blk off cap zs w hH hblk hsz=>Go.Proofs.Any.slices_Sort_int (ρ:=srtRen) srtLays blk off cap zs w hH hblk hsz
theorem sort1_ent:∀ args w,(callFunc 136 args).run Tryz.prog w = .ok (.enter 136 args) w:=enters_of Tryz.func136 (by kernel_rfl) rfl
end Go.Proofs.YtmdnofcphdjieaaGreatDoor
