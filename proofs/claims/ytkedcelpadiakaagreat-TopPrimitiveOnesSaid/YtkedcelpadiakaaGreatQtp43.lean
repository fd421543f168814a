/- Of the law: texts of its proof, joined (part 43). -/
import Derived.Test.YtkedcelpadiakaaGreatQtp42
set_option linter.all false
namespace Go.Proofs.YtkedcelpadiakaaGreat
open Go Go.Abs
def eqv4 : List Line := ([16969, 45641, 74313, 303689, 19173961, 16402, 45074, 16850962, 303122, 2396178, 16395, 16822283, 73739, 303115, 2396171] : List Nat).map (eqvL 4)
theorem eqv4_all : ∀ x ∈ eqv4, LineOK Tryz.prog 47 x.1 x.2 := ok_of (noSpec_good _) (show Seen noSpec 47 eqv4 from by unfold Seen; kernel_rfl)
def key4 : List Line := ([369857, 627408, 856273, 856784, 857281, 857288, 857736, 2203857, 2204865, 2719953, 2892825, 2949329, 2950337, 4296913, 4297424, 4298320, 4554961, 4985041, 4985552, 4986448, 5013713, 6361808, 6362312, 6620353, 6820560, 6848721] : List Nat).map (keyL 4)
theorem key4_all : ∀ x ∈ key4, LineOK Tryz.prog 49 x.1 x.2 := ok_of (noSpec_good _) (show Seen noSpec 49 key4 from by unfold Seen; kernel_rfl)
end Go.Proofs.YtkedcelpadiakaaGreat
