/- Of the law: texts of its proof, joined (part 33). -/
import Derived.Test.YtkedcelpadiakaaGreatQtp32
set_option linter.all false
namespace Go.Proofs.YtkedcelpadiakaaGreat
open Go Go.Abs
def eqvL (n c : Nat) : Line := ([.li ((dg n c).map posV), .li ((dg n (c / 8 ^ n)).map posV)], (.bool (Nat.beq (c / 8 ^ (2 * n)) 1), []))
def keyL (n c : Nat) : Line := ([.li ((pm n c).map posV), .li ((pm n (c / 8 ^ n)).map posV)], strR (pm n c ++ 0 :: pm n (c / 8 ^ n)))
end Go.Proofs.YtkedcelpadiakaaGreat
