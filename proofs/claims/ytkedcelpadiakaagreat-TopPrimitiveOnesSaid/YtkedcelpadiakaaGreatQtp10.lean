/- Of the law: texts of its proof, joined (part 10). -/
import Derived.Test.YtkedcelpadiakaaGreatQtp9
set_option linter.all false
namespace Go.Proofs.YtkedcelpadiakaaGreat
open Go Go.Abs
def pm : Nat → Nat → List Nat
  | 0, _ => []
  | n + 1, c => (c % 8) :: pm n (c / 8)
def dg : Nat → Nat → List Nat
  | 0, _ => []
  | f + 1, c => bif Nat.beq c 0 then [] else (c % 8) :: dg f (c / 8)
def leaL (n c : Nat) : Line := ([.li ((pm n c).map posV)], (.bool (Nat.beq (c / 8 ^ n) 1), []))
def kinL (n c : Nat) : Line := ([.li ((pm n c).map posV), .li ((pm n (c / 8 ^ n)).map posV)], sl ((dg n (c / 8 ^ (2 * n))).map posV))
def splitR : Res := (.tuple #[.agg #[nilV, nilV], nilV, posV 16], [])
def labR (n : Nat) (r u f : List Nat) : Res := (.tuple #[.agg #[sliceA 0 0 n 1, sliceA 1 0 n 1], sliceA 2 0 n 1, posV 0], [r.map posV, u.map posV, f.map posV])
def labL (n c : Nat) : Line := ([.ag ((pm n c).map posV) ((pm n (c / 8 ^ n)).map posV)], bif Nat.beq (c / 8 ^ (2 * n)) 0 then splitR else labR n (pm n (c / 8 ^ (2 * n))) (pm n (c / 8 ^ (3 * n))) (pm n (c / 8 ^ (4 * n))))
end Go.Proofs.YtkedcelpadiakaaGreat
