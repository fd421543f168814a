/- Of the law: texts of its proof, joined (part 8). -/
import Derived.Test.YtmdnofcphdjieaaGreatDoorChecked
import Derived.Test.YtmdnofcphdjieaaGreatDoorQos6
set_option linter.all false
namespace Go.Proofs.YtmdnofcphdjieaaGreatDoor
open Go Go.Abs
theorem hmix:Tryz.prog.follows .mixedOrders=true:=by kernel_rfl
def oknots:List Nat:=[108,149]
def okN (f:Nat):Bool:=Nat.ble 2 f && Nat.ble f 192 && !oknots.any (Nat.beq f)
theorem allOk:((List.range (192+1)).all fun f=>!(okN f) || match Tryz.prog.funcs[f]? with
 | some fn=>match fn.body with
   | some c=>funcOk fn c
   | none=>true
 | none=>true)=true:=by kernel_rfl
theorem hF (f:Nat) (fn:Func) (c:Code) (h:okN f=true) (h1:Tryz.prog.funcs[f]?=some fn) (h2:fn.body=some c):funcOk fn c=true:=by
 have h3:f < 192+1:=by
  unfold okN at h
  simp only [Bool.and_eq_true] at h
  have:=Nat.le_of_ble_eq_true h.1.2
  omega
 have:=List.all_eq_true.1 allOk f (List.mem_range.2 h3)
 simp only [h,h1,h2,Bool.not_true,Bool.false_or] at this
 exact this
end Go.Proofs.YtmdnofcphdjieaaGreatDoor
