/- Of the law: texts of its proof, joined (part 8). -/
import Derived.Test.YtkedcelpadiakaaGreatQwg3
import Derived.Test.YtkedcelpadiakaaGreatQwg6
import Derived.Test.YtkedcelpadiakaaGreatQwg7
set_option linter.all false
namespace Go.Proofs.YtkedcelpadiakaaGreat
open Go Go.Abs
def bigB : Nat := 100000000
def digs : Nat → Nat → List Nat
  | 0, _ => []
  | f + 1, n => bif Nat.beq n 0 then [] else (n % bigB) :: digs f (n / bigB)
def posV (n : Nat) : Value := .int .i64 (Int.ofNat n)
def negV (n : Nat) : Value := .int .i64 (bif Nat.beq n 0 then Int.ofNat 0 else Int.negSucc (Nat.sub n 1))
def nilV : Value := .slice none 0 0
def numA (c : Nat) : Arg :=
  bif Nat.beq c 0 then .imm nilV else bif Nat.beq c 1 then .li [] else bif Nat.beq c 2 then .imm lostSlice
  else bif Nat.beq (c % 2) 1 then .li ((digs 9 (c / 2)).map posV) else .li ((digs 9 (c / 2 - 1)).map negV)
def valC (c : Nat) : Int := bif Nat.ble c 2 then 0 else bif Nat.beq (c % 2) 1 then Int.ofNat (c / 2) else Int.negSucc (c / 2 - 2)
def dZ (z : Int) : List Value := match z with
  | .ofNat n => (digs 9 n).map posV
  | .negSucc n => (digs 9 (n + 1)).map negV
def sl (l : List Value) : Res := (sliceA 0 0 l.length 1, [l])
def pN (z : Int) : Res := match dZ z with
  | [] => (nilV, [])
  | l => sl l
def rN (z : Int) : Res := sl (dZ z)
def gcdZ (x y : Int) : Int := Int.ofNat (Int.gcd x y)
def bin (f : Int → Int → Int) (a : Int → Res) (l : List (Nat × Nat)) : List Line := l.map fun p => ([numA p.1, numA p.2], a (f (valC p.1) (valC p.2)))
def ofs (l : List Int) : List Line := l.map fun z => ([.imm (.int .i64 z)], pN z)
def i (n : Nat) : Arg := .imm (posV n)
def ni : Arg := .imm nilV
def lo : Arg := .imm lostSlice
def L (l : List Nat) : Arg := .li (l.map posV)
def hkC (e : Bool) : List (List Nat × Nat) → Nat → List Value
  | [], _ => []
  | (l, h) :: r, b => bif e && l.isEmpty then nilV :: posV h :: hkC e r b else sliceA b 0 l.length 1 :: posV h :: hkC e r (b + 1)
def hkB (e : Bool) : List (List Nat × Nat) → List (List Value)
  | [] => []
  | (l, _) :: r => bif e && l.isEmpty then hkB e r else l.map posV :: hkB e r
def hkR (e : Bool) (l : List (List Nat × Nat)) : Res := match l with
  | [] => (nilV, [])
  | l => (sliceA 0 0 l.length 2, hkC e l 1 :: hkB e l)
def strR (l : List Nat) : Res := (.string ⟨⟨l.map UInt8.ofNat⟩⟩, [])
def trueR : Res := (.bool true, [])
noncomputable def run (sp : Abs.Spec) : CallFF := evF Tryz.prog okN (tabF sp) 200
def Seen (sp : Abs.Spec) (g : Nat) (l : List Line) : Prop := allK l (fun x => seenK (run sp) g x.1 x.2) = RC.skip
abbrev Ok (sp : Abs.Spec) : Prop := SpOk Tryz.prog sp
theorem ok_of {sp : Abs.Spec} (h : Ok sp) {g : Nat} {l : List Line} (hs : Seen sp g l) : ∀ x ∈ l, LineOK Tryz.prog g x.1 x.2 := h.seen hF hmix hs
noncomputable def lay (sp : Abs.Spec) (g : Nat) (l : List Line) : Abs.Spec := sp.add g (linesT (treeOf l))
theorem ok_lay {sp : Abs.Spec} (h : Ok sp) {g : Nat} {l : List Line} (hl : ∀ x ∈ l, LineOK Tryz.prog g x.1 x.2) : Ok (lay sp g l) := h.add fun _ _ hr => hl _ (linesT_get hr)
theorem lines_append {g : Nat} {l m : List Line} (hl : ∀ x ∈ l, LineOK Tryz.prog g x.1 x.2) (hm : ∀ x ∈ m, LineOK Tryz.prog g x.1 x.2) : ∀ x ∈ l ++ m, LineOK Tryz.prog g x.1 x.2 := fun x hx => (List.mem_append.1 hx).elim (hl x) (hm x)
def isTrue (r : RC) : Bool := match r with
  | .val (.bool true) _ => true
  | _ => false
end Go.Proofs.YtkedcelpadiakaaGreat
namespace Go.Proofs.YtkedcelpadiakaaGreat
open Go Go.Abs Go.Num
def cycR (f : List Int) : Res := match cycP f with
  | [] => (nilV, [])
  | x :: l => (sliceA 0 0 (x :: l).length 1, [ints (x :: l)])
def cycL (l : List (List Int)) : List Line := l.map fun f => ([.li (ints f)], cycR f)
theorem cyc0 : ∀ x ∈ cycL (permsP 0), LineOK Tryz.prog 99 x.1 x.2 := ok_of (noSpec_good _) (show Seen noSpec 99 _ from by unfold Seen; kernel_rfl)
theorem cyc1 : ∀ x ∈ cycL (permsP 1), LineOK Tryz.prog 99 x.1 x.2 := ok_of (noSpec_good _) (show Seen noSpec 99 _ from by unfold Seen; kernel_rfl)
theorem cyc2 : ∀ x ∈ cycL (permsP 2), LineOK Tryz.prog 99 x.1 x.2 := ok_of (noSpec_good _) (show Seen noSpec 99 _ from by unfold Seen; kernel_rfl)
theorem cyc3 : ∀ x ∈ cycL (permsP 3), LineOK Tryz.prog 99 x.1 x.2 := ok_of (noSpec_good _) (show Seen noSpec 99 _ from by unfold Seen; kernel_rfl)
theorem cyc4 : ∀ x ∈ cycL (permsP 4), LineOK Tryz.prog 99 x.1 x.2 := ok_of (noSpec_good _) (show Seen noSpec 99 _ from by unfold Seen; kernel_rfl)
theorem cyc5a : ∀ x ∈ cycL ((permsP 5).take 60), LineOK Tryz.prog 99 x.1 x.2 := ok_of (noSpec_good _) (show Seen noSpec 99 _ from by unfold Seen; kernel_rfl)
theorem cyc5b : ∀ x ∈ cycL ((permsP 5).drop 60), LineOK Tryz.prog 99 x.1 x.2 := ok_of (noSpec_good _) (show Seen noSpec 99 _ from by unfold Seen; kernel_rfl)
theorem cycN : LineOK Tryz.prog 99 [.imm nilV] (nilV, []) := ok_of (noSpec_good _) (l := [([.imm nilV], (nilV, []))]) (show Seen noSpec 99 _ from by unfold Seen; kernel_rfl) _ (List.mem_singleton.2 rfl)
theorem cycLo : LineOK Tryz.prog 99 [.imm lostSlice] (nilV, []) := ok_of (noSpec_good _) (l := [([.imm lostSlice], (nilV, []))]) (show Seen noSpec 99 _ from by unfold Seen; kernel_rfl) _ (List.mem_singleton.2 rfl)
theorem cyc_all {n : Nat} (hn : n ≤ 5) {f : List Int} (hf : f ∈ permsP n) : LineOK Tryz.prog 99 [.li (ints f)] (cycR f) := by
  have mk : ∀ {l : List (List Int)}, (∀ x ∈ cycL l, LineOK Tryz.prog 99 x.1 x.2) → f ∈ l → LineOK Tryz.prog 99 [.li (ints f)] (cycR f) := fun h hm => h ([.li (ints f)], cycR f) (List.mem_map.2 ⟨f, hm, rfl⟩)
  have h : n = 0 ∨ n = 1 ∨ n = 2 ∨ n = 3 ∨ n = 4 ∨ n = 5 := by omega
  rcases h with rfl | rfl | rfl | rfl | rfl | rfl
  · exact mk cyc0 hf
  · exact mk cyc1 hf
  · exact mk cyc2 hf
  · exact mk cyc3 hf
  · exact mk cyc4 hf
  · rw [← List.take_append_drop 60 (permsP 5)] at hf
    rcases List.mem_append.1 hf with hf | hf
    · exact mk cyc5a hf
    · exact mk cyc5b hf
end Go.Proofs.YtkedcelpadiakaaGreat
namespace Go.Proofs.YtkedcelpadiakaaGreat
open Go Go.Abs Go.Num
def unI (vs : List Value) : List Int := vs.map fun v => match v with
  | .int _ z => z
  | _ => 0
theorem unI_ints (l : List Int) : unI (ints l) = l := by
  unfold unI ints
  rw [List.map_map]
  exact List.map_id' l
open Classical in
noncomputable def cycS : Nat → List Arg → Option Res := fun f xs => if f = 99 then (match xs with
  | [.imm v] => if v = nilV ∨ v = lostSlice then some (nilV, []) else none
  | [.li vs] => if ∃ n, n ≤ 5 ∧ ∃ p ∈ permsP n, vs = ints p then some (cycR (unI vs)) else none
  | _ => none) else none
theorem cycS_nil : cycS 99 [.imm (.slice none 0 0)] = some (nilV, []) := by
  unfold cycS
  rw [if_pos rfl]
  simp only
  rw [if_pos (.inl rfl)]
theorem cycS_li {f : List Int} {n : Nat} (hn : n ≤ 5) (hf : f ∈ permsP n) : cycS 99 [.li (ints f)] = some (cycR f) := by
  unfold cycS
  rw [if_pos rfl]
  simp only
  rw [if_pos ⟨n, hn, f, hf, rfl⟩, unI_ints]
theorem cycS_ok : ∀ f xs r, cycS f xs = some r → LineOK Tryz.prog f xs r := by
  intro f xs r h
  unfold cycS at h
  split at h
  · rename_i hf
    subst hf
    split at h
    · split at h
      · rename_i v hv
        cases h
        rcases hv with rfl | rfl
        · exact cycN
        · exact cycLo
      · cases h
    · split at h
      · rename_i vs hp
        obtain ⟨n, hn, p, hp, rfl⟩ := hp
        cases h
        rw [unI_ints]
        exact cyc_all hn hp
      · cases h
    · cases h
  · cases h
end Go.Proofs.YtkedcelpadiakaaGreat
namespace Go.Proofs.YtkedcelpadiakaaGreat
open Go Go.Abs
def pm : Nat → Nat → List Nat
  | 0, _ => []
  | n + 1, c => (c % 8) :: pm n (c / 8)
def dg : Nat → Nat → List Nat
  | 0, _ => []
  | f + 1, c => bif Nat.beq c 0 then [] else (c % 8) :: dg f (c / 8)
def leaL (n c : Nat) : Line := ([.li ((pm n c).map posV)], (.bool (Nat.beq (c / 8 ^ n) 1), []))
def kinL (n c : Nat) : Line := ([.li ((pm n c).map posV), .li ((pm n (c / 8 ^ n)).map posV)], sl ((dg n (c / 8 ^ (2 * n))).map posV))
def splitR : Res := (.tuple #[.agg #[nilV, nilV], nilV, posV 16], [])
def labR (n : Nat) (r u f : List Nat) : Res := (.tuple #[.agg #[sliceA 0 0 n 1, sliceA 1 0 n 1], sliceA 2 0 n 1, posV 0], [r.map posV, u.map posV, f.map posV])
def labL (n c : Nat) : Line := ([.ag ((pm n c).map posV) ((pm n (c / 8 ^ n)).map posV)], bif Nat.beq (c / 8 ^ (2 * n)) 0 then splitR else labR n (pm n (c / 8 ^ (2 * n))) (pm n (c / 8 ^ (3 * n))) (pm n (c / 8 ^ (4 * n))))
end Go.Proofs.YtkedcelpadiakaaGreat
