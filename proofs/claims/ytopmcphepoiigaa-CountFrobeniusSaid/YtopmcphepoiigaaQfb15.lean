/- Of the law: texts of its proof, joined (part 15). -/
import Derived.Test.YtopmcphepoiigaaQfb14
set_option linter.all false
namespace Go.Proofs.Ytopmcphepoiigaa
open Go Go.Abs
def parG : Nat → Nat → Nat → List (List Nat)
  | 0, _, _ => []
  | f + 1, 0, n => match n with
    | 0 => [[]]
    | _ + 1 => []
  | f + 1, m + 1, n => match n with
    | 0 => [[]]
    | n + 1 => bif Nat.ble (m + 1) (n + 1) then (parG f (m + 1) (n + 1 - (m + 1))).map ((m + 1) :: ·) ++ parG f m (n + 1) else parG f m (n + 1)
def parts (n : Nat) : List (List Nat) := parG (2 * n + 2) n n
end Go.Proofs.Ytopmcphepoiigaa
