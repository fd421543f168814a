/- Of the law: texts of its proof, joined (part 7). -/
import Derived.Test.YtmmgdgmjkhcfaaaQor6
set_option linter.all false
namespace Go.Proofs.Ytmmgdgmjkhcfaaa
open Go Go.Abs
def parG : Nat → Nat → Nat → List (List Nat)
  | 0, _, _ => []
  | f + 1, 0, n => match n with
    | 0 => [[]]
    | _ + 1 => []
  | f + 1, m + 1, n => match n with
    | 0 => [[]]
    | n + 1 => bif Nat.ble (m + 1) (n + 1) then (parG f (m + 1) (n + 1 - (m + 1))).map ((m + 1) :: ·) ++ parG f m (n + 1) else parG f m (n + 1)
def parts (n : Nat) : List (List Nat) := parG (2 * n + 2) n n
def rowsV : Nat → List (List Nat) → List Value
  | _, [] => []
  | j, l :: ls => sliceA j 0 l.length 1 :: rowsV (j + 1) ls
def llB (ls : List (List Nat)) : List (List Value) := rowsV 1 ls :: ls.map fun l => l.map posV
def cpR (n : Nat) : Res := (.tuple #[sliceA 0 0 (parts n).length 1, posV 0], llB (parts n))
def paC0 : List Line := (List.range 8).map fun k => ([i (k + 1)], cpR (k + 1))
theorem paC0_seen : ∀ x ∈ paC0, LineOK Try.prog 43 x.1 x.2 := ok_of (noSpec_good _) (show Seen noSpec 43 paC0 from by unfold Seen; kernel_rfl)
def paC1 : List Line := (List.range 4).map fun k => ([i (k + 9)], cpR (k + 9))
theorem paC1_seen : ∀ x ∈ paC1, LineOK Try.prog 43 x.1 x.2 := ok_of (noSpec_good _) (show Seen noSpec 43 paC1 from by unfold Seen; kernel_rfl)
end Go.Proofs.Ytmmgdgmjkhcfaaa
