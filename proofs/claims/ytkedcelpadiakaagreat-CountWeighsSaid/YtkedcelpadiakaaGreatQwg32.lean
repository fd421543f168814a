/- Of the law: texts of its proof, joined (part 32). -/
import Derived.Test.YtkedcelpadiakaaGreatQwg29
set_option linter.all false
namespace Go.Proofs.YtkedcelpadiakaaGreat
open Go Go.Abs Go.Num
def L5 : List (List Int) := [[0, 1, 2, 3, 4], [1, 0, 2, 3, 4], [1, 0, 3, 2, 4], [1, 2, 0, 3, 4], [1, 2, 0, 4, 3], [1, 2, 3, 0, 4], [1, 2, 3, 4, 0]]
def chkLea (o : Option Res) (b : Bool) : Bool := match o with
  | some r => rEq r (.bool b, [])
  | none => false
theorem chkLea_eq {o : Option Res} {b : Bool} (h : chkLea o b = true) : o = some (.bool b, []) := by
  unfold chkLea at h
  split at h
  · rw [rEq_sound h]
  · cases h
theorem lea_all : ((permsP 5).all fun r => chkLea (linesT (treeOf lea5) [.li (ints r)]) (L5.contains r)) = true := by kernel_rfl
def rng5 (l : List Int) : Bool := Nat.beq l.length 5 && l.all fun z => decide (0 ≤ z) && decide (z < 5)
def labI (R U F : List Int) : Res := (.tuple #[.agg #[sliceA 0 0 R.length 1, sliceA 1 0 U.length 1], sliceA 2 0 F.length 1, vi 0], [ints R, ints U, ints F])
def keyS (R U : List Int) : Value := .string ⟨⟨(R ++ 0 :: U).map fun z => UInt8.ofNat z.toNat⟩⟩
noncomputable def labF (r u : List Int) : Option Res := linesT (treeOf lab5) [.ag (ints r) (ints u)]
def labQ (o : Option Res) : Option (List Int × List Int × List Int) := match o with
  | some (_, [a, b, f]) => some (unI a, unI b, unI f)
  | _ => none
noncomputable def keyF (R U : List Int) : Option Res := linesT (treeOf key5) [.li (ints R), .li (ints U)]
noncomputable def chkLab (o : Option Res) : Bool := match labQ o with
  | some (R, U, F) => (match o with
    | some r => rEq r (labI R U F)
    | none => false) && rng5 R && rng5 U && (match keyF R U with
    | some r => rEq r (keyS R U, [])
    | none => false)
  | none => match o with
    | some r => rEq r splitR
    | none => false
theorem lab_all : (L5.all fun r => (permsP 5).all fun u => chkLab (labF r u)) = true := by kernel_rfl
noncomputable def lb (r u : List Int) : Option (List Int × List Int) := (labQ (labF r u)).map fun x => (x.1, x.2.1)
theorem lab_cases {r u : List Int} (hr : r ∈ L5) (hu : u ∈ permsP 5) :
    (lb r u = none ∧ labF r u = some splitR) ∨ ∃ R U F, lb r u = some (R, U) ∧ labF r u = some (labI R U F) ∧ keyF R U = some (keyS R U, []) ∧ rng5 R = true ∧ rng5 U = true := by
  have h := List.all_eq_true.1 (List.all_eq_true.1 lab_all r hr) u hu
  unfold chkLab at h
  unfold lb
  split at h
  · rename_i R U F hq
    simp only [Bool.and_eq_true] at h
    obtain ⟨⟨⟨h1, h2⟩, h3⟩, h4⟩ := h
    refine .inr ⟨R, U, F, by rw [hq]; rfl, ?_, ?_, h2, h3⟩
    · split at h1
      · rename_i r' hl; rw [hl, rEq_sound h1]
      · cases h1
    · split at h4
      · rename_i r' hl; rw [hl, rEq_sound h4]
      · cases h4
  · rename_i hq
    refine .inl ⟨by rw [hq]; rfl, ?_⟩
    split at h
    · rename_i r' hl; rw [hl, rEq_sound h]
    · cases h
theorem lea_eq {r : List Int} (hr : r ∈ permsP 5) : linesT (treeOf lea5) [.li (ints r)] = some (.bool (L5.contains r), []) := chkLea_eq (List.all_eq_true.1 lea_all r hr)
end Go.Proofs.YtkedcelpadiakaaGreat
namespace Go.Proofs.YtkedcelpadiakaaGreat
open Go Go.Abs Go.Num
theorem comm_all : (L5.all fun r => (permsP 5).contains r && (permsP 5).all fun u => (permsP 5).contains (commP r u) && Nat.ble (kindP r u).length 1000) = true := by kernel_rfl
theorem comm5 {r u : List Int} (hr : r ∈ L5) (hu : u ∈ permsP 5) : r ∈ permsP 5 ∧ commP r u ∈ permsP 5 ∧ (kindP r u).length ≤ 1000 := by
  have h := List.all_eq_true.1 comm_all r hr
  rw [Bool.and_eq_true] at h
  have h2 := List.all_eq_true.1 h.2 u hu
  rw [Bool.and_eq_true] at h2
  exact ⟨by simpa using h.1, by simpa using h2.1, Nat.le_of_ble_eq_true h2.2⟩
end Go.Proofs.YtkedcelpadiakaaGreat
