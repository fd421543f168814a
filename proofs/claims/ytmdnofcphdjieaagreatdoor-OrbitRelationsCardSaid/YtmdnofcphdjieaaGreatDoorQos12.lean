/- Of the law: texts of its proof, joined (part 12). -/
import Derived.Test.YtmdnofcphdjieaaGreatDoorQos11
import Derived.Test.YtmdnofcphdjieaaGreatDoorQos7
import Derived.Test.YtmdnofcphdjieaaGreatDoorQos9
set_option linter.all false
namespace Go.Proofs.YtmdnofcphdjieaaGreatDoor
open Go Go.Abs
def awkS:Nat→List Arg→Option Res:=fun f xs=>if f=9 then (match xs with
 | []=>some (.bool true,[])
 | _=>none) else none
theorem awkS_ok:∀ f xs r,awkS f xs=some r→LineOK Tryz.prog f xs r:=by
 intro f xs r h
 unfold awkS at h
 split at h
 ·rename_i hf
  subst hf
  split at h
  ·cases h
   exact qtd
  ·cases h
 ·cases h
noncomputable def rnB:Code:=(Tryz.f108.body).getD .skip
noncomputable def rnX:Code:=permAt [0,1,3,4,2,5,6,7,8] rnB
theorem rnX_ok:permCodeOk Tryz.f108.ntmps [0,1,3,4,2,5,6,7,8] rnB=true:=by kernel_rfl
noncomputable def rnC:CallF:=bodyC Tryz.prog (evB Tryz.prog noC 3) 2000 108 Tryz.f108 rnX
noncomputable def bC:CallF:=fun fv args H=>match fv with
 | .func (.func f) _ _=>if f=70 then tabC rpvS fv args H else if f=136 then sort1C 136 sortI fv args H
   else if f=9 then tabC awkS fv args H else if f=108 then rnC fv args H else strC fv args H
 | _=>none
theorem bC_ok:CallOK Tryz.prog bC:=by
 intro fv args H v H' h
 unfold bC at h
 split at h
 ·split at h
  ·exact qne rpvS_ok _ _ _ _ _ h
  ·split at h
   ·exact sort1C_ok sort1_ent sort1Says _ _ _ _ _ h
   ·split at h
    ·exact qne awkS_ok _ _ _ _ _ h
    ·split at h
     ·exact bodyC_perm (c:=rnB) hmix (qr7 hmix noC_ok qnd 3) (qih qnd 3) Tryz.func108 rfl (by decide) (by kernel_rfl) rnX_ok _ _ _ _ _ h
     ·exact strC_ok _ _ _ _ _ h
 ·cases h
theorem bC_grow:CallGrow bC:=by
 intro fv args H v H' h
 unfold bC at h
 split at h
 ·split at h
  ·exact qgs _ _ _ _ _ _ h
  ·split at h
   ·exact qre _ _ _ _ _ h
   ·split at h
    ·exact qgs _ _ _ _ _ _ h
    ·split at h
     ·exact bodyC_grow (qih qnd 3) _ _ _ _ _ h
     ·exact qpv _ _ _ _ _ h
 ·cases h
end Go.Proofs.YtmdnofcphdjieaaGreatDoor
