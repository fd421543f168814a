/- Of the law: texts of its proof, joined (part 10). -/
import Derived.Test.YtmdnofcphdjieaaGreatDoorQos4
import Derived.Test.YtmdnofcphdjieaaGreatDoorQos9
set_option linter.all false
namespace Go.Proofs.YtmdnofcphdjieaaGreatDoor
open Go Go.Abs
def ellA:Arg:=.ag [vi 1,vi 0,vi 2] [vi 2,vi 1,vi 0]
def lyaR:Res:=(.tuple #[.agg #[vi 4,vi 3],vi 0],[])
theorem lya_line:LineOK Tryz.prog 39 [ellA] lyaR :=
 ok_of (qhz _) (l:=[([ellA],lyaR)]) (show Seen noSpec 39 [([ellA],lyaR)] from by unfold Seen;kernel_rfl) _ (List.mem_singleton.2 rfl)
def enuR:Res:=(.tuple #[.agg #[sliceA 0 0 3 2,sliceA 1 0 3 1,sliceA 2 0 3 1],vi 0],[[sliceA 3 0 3 1,sliceA 4 0 3 1,sliceA 5 0 3 1,sliceA 6 0 3 1,sliceA 7 0 3 1,sliceA 8 0 3 1],[vi 0,vi 2,vi 1],[vi 1,vi 0,vi 2],[vi 0,vi 2,vi 1],[vi 1,vi 0,vi 2],[vi 0,vi 2,vi 1],[vi 1,vi 2,vi 0],[vi 1,vi 2,vi 0],[vi 0,vi 2,vi 1]])
theorem enu_line:LineOK Tryz.prog 37 [ellA] enuR :=
 ok_of (qhz _) (l:=[([ellA],enuR)]) (show Seen noSpec 37 [([ellA],enuR)] from by unfold Seen;kernel_rfl) _ (List.mem_singleton.2 rfl)
end Go.Proofs.YtmdnofcphdjieaaGreatDoor
