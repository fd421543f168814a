/- Of the law: texts of its proof, joined (part 11). -/
import Derived.Test.YtmdnofcphdjieaaGreatDoorQos10
import Derived.Test.YtmdnofcphdjieaaGreatDoorQos4
import Derived.Test.YtmdnofcphdjieaaGreatDoorQos6
import Derived.Test.YtmdnofcphdjieaaGreatDoorQos8
set_option linter.all false
namespace Go.Proofs.YtmdnofcphdjieaaGreatDoor
open Go Go.Abs
def awL1:List Line:=[([ellA],enuR)]
def awL2:List Line:=[([ellA],lyaR)]
noncomputable def awS:Nat→List Arg→Option Res:=fun f xs=>if f=37 then linesT (treeOf awL1) xs else if f=39 then linesT (treeOf awL2) xs else none
theorem awS_ok:∀ f xs r,awS f xs=some r→LineOK Tryz.prog f xs r:=by
 intro f xs r h
 unfold awS at h
 split at h
 ·rename_i hf
  subst hf
  have:=qmo h
  simp only [awL1,List.mem_singleton] at this
  injection this with h1 h2
  subst h1;subst h2
  exact enu_line
 ·split at h
  ·rename_i hf
   subst hf
   have:=qmo h
   simp only [awL2,List.mem_singleton] at this
   injection this with h1 h2
   subst h1;subst h2
   exact lya_line
  ·cases h
noncomputable def bC1:CallF:=orC strC (tabC awS)
theorem bC1_ok:CallOK Tryz.prog bC1:=orC_ok strC_ok (qne awS_ok)
theorem bC1_grow:CallGrow bC1:=qr6 qpv (qgs _)
theorem qn7:(evB Tryz.prog bC1 6 (.func (.func 9) #[] #[]) [] []).map (·.1)=some (.bool true):=by kernel_rfl
theorem qtd:LineOK Tryz.prog 9 [] (.bool true,[]):=by
 obtain ⟨v,H,h⟩:∃ v H,evB Tryz.prog bC1 6 (.func (.func 9) #[] #[]) [] []=some (v,H):=by
  have:=qn7
  cases h:evB Tryz.prog bC1 6 (.func (.func 9) #[] #[]) [] [] with
  | none=>rw [h] at this;cases this
  | some x=>exact ⟨x.1,x.2,rfl⟩
 have hv:v = .bool true:=by
  have:=qn7
  rw [h] at this
  injection this
 subst hv
 exact qr8 ⟨_,_,H,[],qr7 hmix bC1_ok bC1_grow 6,h,⟨.inr (.inr (.inl ⟨rfl,rfl⟩)),rfl,fun j b e=>(by cases e),fun i j b c f cs ds _ e=>(by cases e)⟩⟩
end Go.Proofs.YtmdnofcphdjieaaGreatDoor
