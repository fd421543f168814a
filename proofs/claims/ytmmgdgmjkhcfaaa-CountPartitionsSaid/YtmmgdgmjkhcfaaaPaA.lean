/- The partitions of small numbers: what the program and the reference list. -/
import Derived.Test.YtmmgdgmjkhcfaaaNum
set_option linter.all false
namespace Go.Proofs.Ytmmgdgmjkhcfaaa
open Go Go.Abs
/-- The partitions of n with parts of at most m, the greatest first (f: more than enough). -/
def parG : Nat → Nat → Nat → List (List Nat)
  | 0, _, _ => []
  | f + 1, 0, n => match n with
    | 0 => [[]]
    | _ + 1 => []
  | f + 1, m + 1, n => match n with
    | 0 => [[]]
    | n + 1 => bif Nat.ble (m + 1) (n + 1) then (parG f (m + 1) (n + 1 - (m + 1))).map ((m + 1) :: ·) ++ parG f m (n + 1) else parG f m (n + 1)
def parts (n : Nat) : List (List Nat) := parG (2 * n + 2) n n
def rowsV : Nat → List (List Nat) → List Value
  | _, [] => []
  | j, l :: ls => sliceA j 0 l.length 1 :: rowsV (j + 1) ls
/-- A list of lists: the first block is the outer one. -/
def llB (ls : List (List Nat)) : List (List Value) := rowsV 1 ls :: ls.map fun l => l.map posV
def cpR (n : Nat) : Res := (.tuple #[sliceA 0 0 (parts n).length 1, posV 0], llB (parts n))
def rpR (n : Nat) : Res := (sliceA 0 0 (parts n).length 1, llB (parts n))
def paC0 : List Line := (List.range 8).map fun k => ([i (k + 1)], cpR (k + 1))
theorem paC0_seen : ∀ x ∈ paC0, LineOK Try.prog 43 x.1 x.2 := ok_of (noSpec_good _) (show Seen noSpec 43 paC0 from by unfold Seen; kernel_rfl)
def paR0 : List Line := (List.range 8).map fun k => ([i (k + 1)], rpR (k + 1))
theorem paR0_seen : ∀ x ∈ paR0, LineOK Try.prog 42 x.1 x.2 := ok_of (noSpec_good _) (show Seen noSpec 42 paR0 from by unfold Seen; kernel_rfl)
def paC1 : List Line := (List.range 4).map fun k => ([i (k + 9)], cpR (k + 9))
theorem paC1_seen : ∀ x ∈ paC1, LineOK Try.prog 43 x.1 x.2 := ok_of (noSpec_good _) (show Seen noSpec 43 paC1 from by unfold Seen; kernel_rfl)
theorem paC_zero : LineOK Try.prog 43 [i 0] (.tuple #[sliceA 0 0 1 1, posV 0], [[nilV]]) := ok_of (noSpec_good _) (l := [([i 0], (.tuple #[sliceA 0 0 1 1, posV 0], [[nilV]]))]) (show Seen noSpec 43 _ from by unfold Seen; kernel_rfl) _ (List.mem_singleton.2 rfl)
def paR1 : List Line := (List.range 4).map fun k => ([i (k + 9)], rpR (k + 9))
theorem paR1_seen : ∀ x ∈ paR1, LineOK Try.prog 42 x.1 x.2 := ok_of (noSpec_good _) (show Seen noSpec 42 paR1 from by unfold Seen; kernel_rfl)
theorem paR_zero : LineOK Try.prog 42 [i 0] (sliceA 0 0 1 1, [[sliceA 1 0 0 1], []]) := ok_of (noSpec_good _) (l := [([i 0], (sliceA 0 0 1 1, [[sliceA 1 0 0 1], []]))]) (show Seen noSpec 42 _ from by unfold Seen; kernel_rfl) _ (List.mem_singleton.2 rfl)
end Go.Proofs.Ytmmgdgmjkhcfaaa
