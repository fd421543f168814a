/- Calls answered by lines: the partitions of small numbers as lists of lists. -/
import Derived.Test.YtmmgdgmjkhcfaaaSxA
import Derived.Test.YtmmgdgmjkhcfaaaSyY
import Derived.Test.YtmmgdgmjkhcfaaaPaA
import Derived.Test.YtmmgdgmjkhcfaaaAwk
set_option linter.all false
namespace Go.Proofs.Ytmmgdgmjkhcfaaa
open Go Go.Abs Go.Num
set_option maxRecDepth 10000
attribute [local congr] bindO_congr bindF_congr bindX_congr condX_congr iteB_congr binS_congr pickS_congr eqB_congr nilS_congr clsW_congr maxS_congr minS_congr
def rowB : Nat → List (List Nat) → List Blk
  | _, [] => []
  | j, l :: ls => .cells j true (l.map posV) :: rowB (j + 1) ls
theorem ren_rows (d : Nat) : ∀ (ls : List (List Nat)) (j : Nat), mapO (renS fun b => some (b + d)) (rowsV j ls) = some (rowsV (j + d) ls) := by
  intro ls
  induction ls with
  | nil => intro j; rfl
  | cons l ls ih =>
    intro j
    rw [rowsV, mapO, ih (j + 1), rowsV]
    rw [show j + 1 + d = j + d + 1 from by omega]
    rfl
theorem ren_ints (d : Nat) : ∀ l : List Nat, mapO (renS fun b => some (b + d)) (l.map posV) = some (l.map posV) := by
  intro l
  induction l with
  | nil => rfl
  | cons x l ih => rw [List.map_cons, mapO, ih]; rfl
theorem mk_rows (d : Nat) : ∀ (ls : List (List Nat)) (j : Nat), mkBlks d j (ls.map fun l => l.map posV) = some (rowB j ls) := by
  intro ls
  induction ls with
  | nil => intro j; rfl
  | cons l ls ih => intro j; rw [List.map_cons, mkBlks, ih (j + 1), ren_ints, rowB]
theorem mk_llB (d j : Nat) (ls : List (List Nat)) : mkBlks d j (llB ls) = some (.cells j true (rowsV (1 + d) ls) :: rowB (j + 1) ls) := by
  rw [llB, mkBlks, mk_rows, ren_rows]
theorem rowsV_len : ∀ (ls : List (List Nat)) (j : Nat), (rowsV j ls).length = ls.length := by
  intro ls
  induction ls with
  | nil => intro j; rfl
  | cons l ls ih => intro j; rw [rowsV, List.length_cons, ih, List.length_cons]
theorem rowB_len : ∀ (ls : List (List Nat)) (j : Nat), (rowB j ls).length = ls.length := by
  intro ls
  induction ls with
  | nil => intro j; rfl
  | cons l ls ih => intro j; rw [rowB, List.length_cons, ih, List.length_cons]
theorem rowsV_get : ∀ (ls : List (List Nat)) (j i : Nat) (l : List Nat), ls[i]? = some l → (rowsV j ls)[i]? = some (sliceA (j + i) 0 l.length 1) := by
  intro ls
  induction ls with
  | nil => intro j i l h; simp at h
  | cons l0 ls ih =>
    intro j i l h
    cases i with
    | zero => simp at h; subst h; rfl
    | succ i =>
      rw [rowsV, List.getElem?_cons_succ, ih (j + 1) i l (by simpa using h)]
      rw [show j + 1 + i = j + (i + 1) from by omega]
theorem rowB_get : ∀ (ls : List (List Nat)) (j i : Nat) (l : List Nat), ls[i]? = some l → (rowB j ls)[i]? = some (.cells (j + i) true (l.map posV)) := by
  intro ls
  induction ls with
  | nil => intro j i l h; simp at h
  | cons l0 ls ih =>
    intro j i l h
    cases i with
    | zero => simp at h; subst h; rfl
    | succ i =>
      rw [rowB, List.getElem?_cons_succ, ih (j + 1) i l (by simpa using h)]
      rw [show j + 1 + i = j + (i + 1) from by omega]
theorem posV_ints (l : List Nat) : l.map posV = ints (l.map Int.ofNat) := by unfold ints; rw [List.map_map]; rfl
def natLL (ls : List (List Nat)) : List (List Int) := ls.map fun l => l.map Int.ofNat
theorem llB_RL {H : Heap} (hw : WF H) (ls : List (List Nat)) : RL (H ++ (.cells H.length true (rowsV (1 + H.length) ls) :: rowB (H.length + 1) ls)) (sliceA H.length 0 ls.length 1) (natLL ls) ∧ Old H.length H (H ++ (.cells H.length true (rowsV (1 + H.length) ls) :: rowB (H.length + 1) ls)) ∧ WF (H ++ (.cells H.length true (rowsV (1 + H.length) ls) :: rowB (H.length + 1) ls)) := by
  have hrow : ∀ (i : Nat) (l : List Nat), ls[i]? = some l → (H ++ (Blk.cells H.length true (rowsV (1 + H.length) ls) :: rowB (H.length + 1) ls))[1 + H.length + i]? = some (.cells (H.length + 1 + i) true (ints (l.map Int.ofNat))) := by
    intro i l h
    rw [List.getElem?_append_right (by omega), show 1 + H.length + i - H.length = i + 1 from by omega, List.getElem?_cons_succ, rowB_get _ _ _ _ h, posV_ints]
  refine ⟨.inr ⟨H.length, H.length, true, (rowsV (1 + H.length) ls).map fun v => [v], ?_, ?_, ?_, ?_, ?_⟩, Old.app _ _, ?_⟩
  · rw [List.length_map, rowsV_len]
  · rw [List.getElem?_append_right (Nat.le_refl _), Nat.sub_self, List.getElem?_cons_zero]
    congr 2
    induction rowsV (1 + H.length) ls with
    | nil => rfl
    | cons v vs ih => rw [List.map_cons, List.flatten_cons, ← ih]; rfl
  · intro c hc
    obtain ⟨v, _, rfl⟩ := List.mem_map.1 hc
    rfl
  · rw [List.length_map, rowsV_len]; unfold natLL; rw [List.length_map]
  · intro i c a hc ha
    unfold natLL at ha
    rw [List.getElem?_map] at ha hc
    cases hl : ls[i]? with
    | none => rw [hl] at ha; cases ha
    | some l =>
      rw [hl] at ha
      injection ha with ha
      subst ha
      rw [rowsV_get _ _ _ _ hl] at hc
      injection hc with hc
      subst hc
      refine ⟨_, rfl, .inr (.inr ⟨1 + H.length + i, 0, H.length + 1 + i, true, _, ?_, hrow i l hl, by simp, by simp⟩)⟩
      rw [ints_len, List.length_map]
  · intro b f o cs hb
    by_cases hlt : b < H.length
    · rw [List.getElem?_append_left hlt] at hb; exact hw b f o cs hb
    · rw [List.getElem?_append_right (by omega)] at hb
      cases hk : b - H.length with
      | zero => rw [hk] at hb; injection hb with hb; injection hb with hb; omega
      | succ k =>
        rw [hk, List.getElem?_cons_succ] at hb
        cases hl : ls[k]? with
        | none =>
          have : (rowB (H.length + 1) ls)[k]? = none := by rw [List.getElem?_eq_none_iff, rowB_len]; exact List.getElem?_eq_none_iff.1 hl
          rw [this] at hb; cases hb
        | some l =>
          rw [rowB_get _ _ _ _ hl] at hb
          injection hb with hb; injection hb with hb
          omega
noncomputable def lawS : Nat → List Arg → Option Res := fun f xs => match xs with
  | [] => if f = 15 then some trueR else none
  | [.imm (.int .i64 z)] =>
    if f = 43 then (if z = 0 then some (.tuple #[sliceA 0 0 1 1, posV 0], [[nilV]]) else if 1 ≤ z ∧ z ≤ 12 then some (cpR z.toNat) else none)
    else if f = 42 then (if z = 0 then some (sliceA 0 0 1 1, [[sliceA 1 0 0 1], []]) else if 1 ≤ z ∧ z ≤ 12 then some (rpR z.toNat) else none)
    else none
  | _ => none
theorem i_of {z : Int} (h : 1 ≤ z) : Ytmmgdgmjkhcfaaa.i z.toNat = .imm (.int .i64 z) := by
  show Arg.imm (.int .i64 (Int.ofNat z.toNat)) = _
  rw [show Int.ofNat z.toNat = z from by show ((z.toNat : Nat) : Int) = z; omega]
theorem pa_line {f : Nat} {g : Nat → Res} {l0 l1 : List Line} (e0 : l0 = (List.range 8).map fun k => ([Ytmmgdgmjkhcfaaa.i (k + 1)], g (k + 1))) (e1 : l1 = (List.range 4).map fun k => ([Ytmmgdgmjkhcfaaa.i (k + 9)], g (k + 9))) (h0 : ∀ x ∈ l0, LineOK Try.prog f x.1 x.2) (h1 : ∀ x ∈ l1, LineOK Try.prog f x.1 x.2) {z : Int} (hz : 1 ≤ z ∧ z ≤ 12) : LineOK Try.prog f [.imm (.int .i64 z)] (g z.toNat) := by
  rw [← i_of hz.1]
  obtain ⟨k, hk⟩ : ∃ k, z.toNat = k + 1 := ⟨z.toNat - 1, by omega⟩
  rw [hk]
  by_cases h8 : k < 8
  · exact h0 ([Ytmmgdgmjkhcfaaa.i (k + 1)], g (k + 1)) (by rw [e0]; exact List.mem_map.2 ⟨k, List.mem_range.2 h8, rfl⟩)
  · obtain ⟨m, rfl⟩ : ∃ m, k = m + 8 := ⟨k - 8, by omega⟩
    exact h1 ([Ytmmgdgmjkhcfaaa.i (m + 9)], g (m + 9)) (by rw [e1]; exact List.mem_map.2 ⟨m, List.mem_range.2 (by omega), rfl⟩)
theorem lawS_ok : ∀ f xs r, lawS f xs = some r → LineOK Try.prog f xs r := by
  intro f xs r h
  unfold lawS at h
  split at h
  · split at h
    · rename_i hf; subst hf; cases h; exact awake_line
    · cases h
  · split at h
    · rename_i hf
      subst hf
      split at h
      · rename_i hz; subst hz; cases h; exact paC_zero
      · split at h
        · rename_i hz; cases h; exact pa_line rfl rfl paC0_seen paC1_seen hz
        · cases h
    · split at h
      · rename_i hf
        subst hf
        split at h
        · rename_i hz; subst hz; cases h; exact paR_zero
        · split at h
          · rename_i hz; cases h; exact pa_line rfl rfl paR0_seen paR1_seen hz
          · cases h
      · cases h
  · cases h
noncomputable def callP (n : Nat) : CallF := Abs.orC (tabC lawS) (evB Try.prog noC n)
theorem callP_ok (n : Nat) : CallOK Try.prog (callP n) := Abs.orC_ok (tabC_ok lawS_ok) (evB_ok hmix noC_ok noC_grow n)
theorem callP_grow (n : Nat) : CallGrow (callP n) := Abs.orC_grow (tabC_grow _) (evB_grow noC_grow n)
theorem tab_none {sp : Nat → List Arg → Option Res} {f : Nat} (h : ∀ xs, sp f xs = none) (args : List Value) (H : Heap) : tabC sp (.func (.func f) #[] #[]) args H = none := by
  unfold tabC
  simp only
  split
  · split
    · rename_i xs _
      rw [h xs]
    · rfl
  · rfl
theorem cp_other {n f : Nat} {args : List Value} {H : Heap} (h : f ≠ 15) (h2 : f ≠ 43) (h3 : f ≠ 42) : callP n (.func (.func f) #[] #[]) args H = evB Try.prog noC n (.func (.func f) #[] #[]) args H := by
  unfold callP Abs.orC
  rw [tab_none (sp := lawS) (fun xs => by
    unfold lawS
    split
    · rw [if_neg h]
    · rw [if_neg h2, if_neg h3]
    · rfl)]
theorem cp_awake {n : Nat} {H : Heap} : callP n (.func (.func 15) #[] #[]) [] H = some (.bool true, H) := by
  unfold callP Abs.orC
  have e : tabC lawS (.func (.func 15) #[] #[]) [] H = some (.bool true, H ++ []) := rfl
  rw [e, List.append_nil]
theorem tab_int {sp : Nat → List Arg → Option Res} {f : Nat} {z : Int} {v : Value} {bs : List (List Value)} (h : sp f [.imm (.int .i64 z)] = some (v, bs)) {H : Heap} {v' : Value} {l : List Blk} (hv : renV (fun b => some (b + H.length)) v = some v') (hb : mkBlks H.length H.length bs = some l) : tabC sp (.func (.func f) #[] #[]) [vi z] H = some (v', H ++ l) := by
  have e : mapO (readArg H) [vi z] = some [.imm (.int .i64 z)] := rfl
  unfold tabC
  simp only
  rw [e]
  simp only
  rw [h]
  simp only
  rw [hv, hb]
  rfl
/-- The partitions of z: for z ≤ 12. -/
def partsZ (z : Int) : List (List Int) := natLL (parts z.toNat)
theorem cparts_run {H : Heap} {z : Int} (hw : WF H) (h0 : 0 ≤ z) (h1 : z ≤ 12) (n : Nat) : ∃ v H', callP n (.func (.func 43) #[] #[]) [vi z] H = some (.tuple #[v, vi 0], H') ∧ RL H' v (partsZ z) ∧ Old H.length H H' ∧ WF H' := by
  by_cases hz : z = 0
  · subst hz
    refine ⟨sliceA H.length 0 1 1, H ++ [.cells H.length true [.slice none 0 0]], ?_, .inr ⟨H.length, H.length, true, [[.slice none 0 0]], rfl, by simp, by simp, rfl, ?_⟩, Old.app _ _, hw.app (Nat.le_refl _)⟩
    · unfold callP Abs.orC
      rw [tab_int (sp := lawS) (v := .tuple #[sliceA 0 0 1 1, posV 0]) (bs := [[nilV]]) (v' := .tuple #[sliceA H.length 0 1 1, vi 0]) (l := [.cells H.length true [.slice none 0 0]]) rfl (by
        show some (Value.tuple #[sliceA (0 + H.length) 0 1 1, vi 0]) = _
        rw [Nat.zero_add]) rfl]
    · intro i c a hc ha
      cases i with
      | zero =>
        simp at hc
        replace ha : some [] = some a := ha
        injection ha with ha
        subst hc; subst ha; exact ⟨_, rfl, .inl ⟨rfl, rfl⟩⟩
      | succ i => simp at hc
  · obtain ⟨r1, r2, r3⟩ := llB_RL hw (parts z.toNat)
    refine ⟨_, _, ?_, r1, r2, r3⟩
    unfold callP Abs.orC
    rw [tab_int (sp := lawS) (v := .tuple #[sliceA 0 0 (parts z.toNat).length 1, posV 0]) (bs := llB (parts z.toNat)) (v' := .tuple #[sliceA H.length 0 (parts z.toNat).length 1, vi 0]) (by
      show (if z = 0 then _ else _) = _
      rw [if_neg hz, if_pos ⟨by omega, h1⟩]; rfl) (by
      show some (Value.tuple #[sliceA (0 + H.length) 0 (parts z.toNat).length 1, vi 0]) = _
      rw [Nat.zero_add]) (mk_llB _ _ _)]
theorem rparts_run {H : Heap} {z : Int} (hw : WF H) (h0 : 0 ≤ z) (h1 : z ≤ 12) (n : Nat) : ∃ v H', callP n (.func (.func 42) #[] #[]) [vi z] H = some (v, H') ∧ RL H' v (partsZ z) ∧ Old H.length H H' ∧ WF H' := by
  by_cases hz : z = 0
  · subst hz
    refine ⟨sliceA H.length 0 1 1, H ++ [.cells H.length true [sliceA (1 + H.length) 0 0 1], .cells (H.length + 1) true []], ?_, .inr ⟨H.length, H.length, true, [[sliceA (1 + H.length) 0 0 1]], rfl, by simp, by simp [], rfl, ?_⟩, Old.app _ _, ?_⟩
    · unfold callP Abs.orC
      rw [tab_int (sp := lawS) (v := sliceA 0 0 1 1) (bs := [[sliceA 1 0 0 1], []]) (v' := sliceA H.length 0 1 1) (l := [.cells H.length true [sliceA (1 + H.length) 0 0 1], .cells (H.length + 1) true []]) rfl (by
        show some (sliceA (0 + H.length) 0 1 1) = _
        rw [Nat.zero_add]) rfl]
    · intro i c a hc ha
      cases i with
      | zero =>
        simp at hc
        replace ha : some [] = some a := ha
        injection ha with ha
        subst hc; subst ha
        refine ⟨_, rfl, .inr (.inr ⟨1 + H.length, 0, H.length + 1, true, [], rfl, ?_, by simp [ints], by simp [ints]⟩)⟩
        rw [List.getElem?_append_right (by omega), show 1 + H.length - H.length = 1 from by omega]; rfl
      | succ i => simp at hc
    · have := (hw.app (Nat.le_refl H.length) (o := true) (cs := [sliceA (1 + H.length) 0 0 1])).app (f := H.length + 1) (by simp) (o := true) (cs := [])
      rwa [List.append_assoc] at this
  · obtain ⟨r1, r2, r3⟩ := llB_RL hw (parts z.toNat)
    refine ⟨_, _, ?_, r1, r2, r3⟩
    unfold callP Abs.orC
    rw [tab_int (sp := lawS) (v := sliceA 0 0 (parts z.toNat).length 1) (bs := llB (parts z.toNat)) (v' := sliceA H.length 0 (parts z.toNat).length 1) (by
      show (if z = 0 then _ else _) = _
      rw [if_neg hz, if_pos ⟨by omega, h1⟩]; rfl) (by
      show some (sliceA (0 + H.length) 0 (parts z.toNat).length 1) = _
      rw [Nat.zero_add]) (mk_llB _ _ _)]
end Go.Proofs.Ytmmgdgmjkhcfaaa
