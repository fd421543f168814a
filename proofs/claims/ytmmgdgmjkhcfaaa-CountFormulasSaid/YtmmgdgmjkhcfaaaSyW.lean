/- The law of the formulas: the walk. -/
import Derived.Test.YtmmgdgmjkhcfaaaSyV
import Derived.Test.YtmmgdgmjkhcfaaaAwk
set_option linter.all false
namespace Go.Proofs.Ytmmgdgmjkhcfaaa
open Go Go.Abs Go.Num
set_option maxRecDepth 10000
attribute [local congr] bindO_congr bindF_congr bindX_congr condX_congr iteB_congr binS_congr pickS_congr eqB_congr nilS_congr clsW_congr maxS_congr minS_congr
noncomputable def awkS : Nat → List Arg → Option Res := fun f xs => match xs with
  | [] => if f = 15 then some trueR else none
  | _ => none
theorem awkS_ok : ∀ f xs r, awkS f xs = some r → LineOK Try.prog f xs r := by
  intro f xs r h
  unfold awkS at h
  split at h
  · split at h
    · rename_i hf; subst hf; cases h; exact awake_line
    · cases h
  · cases h
/-- The calls of a law: the examples by their line, all others by their bodies. -/
noncomputable def callA (n : Nat) : CallF := Abs.orC (tabC awkS) (evB Try.prog noC n)
theorem callA_ok (n : Nat) : CallOK Try.prog (callA n) := Abs.orC_ok (tabC_ok awkS_ok) (evB_ok hmix noC_ok noC_grow n)
theorem callA_grow (n : Nat) : CallGrow (callA n) := Abs.orC_grow (tabC_grow _) (evB_grow noC_grow n)
theorem ca_other {n f : Nat} {args : List Value} {H : Heap} (h : f ≠ 15) : callA n (.func (.func f) #[] #[]) args H = evB Try.prog noC n (.func (.func f) #[] #[]) args H := by
  unfold callA Abs.orC
  have e : tabC awkS (.func (.func f) #[] #[]) args H = none := by
    unfold tabC
    simp only
    split
    · split
      · rename_i xs _
        have : awkS f xs = none := by
          unfold awkS
          split
          · rw [if_neg h]
          · rfl
        rw [this]
      · rfl
    · rfl
  rw [e]
theorem ca_awake {n : Nat} {H : Heap} : callA n (.func (.func 15) #[] #[]) [] H = some (.bool true, H) := by
  unfold callA Abs.orC
  have e : tabC awkS (.func (.func 15) #[] #[]) [] H = some (.bool true, H ++ []) := rfl
  rw [e, List.append_nil]
theorem wf_nil : WF [] := fun b f o cs h => by simp at h
theorem formulas_run (z : Int) : ∃ H', evBody Try.prog (callA 200000000) 200000000 (.func (.func 6) #[] #[]) [vi z] [] = some (.bool true, H') := by
  obtain ⟨n, hn⟩ : ∃ n, n = 200000000 := ⟨_, rfl⟩
  rw [← hn]
  rw [body_runS Try.func6 rfl (ok_fn (by rfl) Try.func6 rfl) (Nat.le_of_ble_eq_true rfl) (D := D0) (by kernel_rfl)]
  obtain ⟨v1, v2, H1, s1, o1, o2, old1, wf1⟩ := tori_run long_all (z := z) wf_nil n (by omega)
  have old2 := Old.app H1 [.cells H1.length true [.slice none 0 0, .slice none 0 0]]
  have wf2 := wf1.app (Nat.le_refl H1.length) (o := true) (cs := [.slice none 0 0, .slice none 0 0])
  have b2 := BxM.made (B := H1.length) (H := H1) (Nat.le_refl _) [.slice none 0 0, .slice none 0 0]
  generalize hH2 : H1 ++ [Blk.cells H1.length true [.slice none 0 0, .slice none 0 0]] = H2 at *
  have g2 : H2.length = H1.length + 1 := by rw [← hH2]; simp
  obtain ⟨H3, s3, b3, old3, wf3, k3⟩ := b2.store wf2 (vs := [v1, v2]) rfl
  have s3 : storeN 2 (ptrA H1.length 0) (.agg #[v1, v2]) H2 = some H3 := s3
  obtain ⟨u1, u2, H4, s4, q1, q2, old4, wf4⟩ := rtori_run (z := z) wf3 n (by omega)
  have old5 := Old.app H4 [.cells H4.length true [.slice none 0 0, .slice none 0 0]]
  have wf5 := wf4.app (Nat.le_refl H4.length) (o := true) (cs := [.slice none 0 0, .slice none 0 0])
  have b5 := BxM.made (B := H4.length) (H := H4) (Nat.le_refl _) [.slice none 0 0, .slice none 0 0]
  generalize hH5 : H4 ++ [Blk.cells H4.length true [.slice none 0 0, .slice none 0 0]] = H5 at *
  have g5 : H5.length = H4.length + 1 := by rw [← hH5]; simp
  obtain ⟨H6, s6, b6, old6, wf6, k6⟩ := b5.store wf5 (vs := [u1, u2]) rfl
  have s6 : storeN 2 (ptrA H4.length 0) (.agg #[u1, u2]) H5 = some H6 := s6
  obtain ⟨c, H7, s7, o7, old7, wf7⟩ := prim_run (z := z) wf6 n (by omega)
  obtain ⟨d, H8, s8, o8, old8, wf8⟩ := rprim_run (z := z) wf7 n (by omega)
  have e1 := old1.1
  have e3 := old3.1
  have e4 := old4.1
  have e6 := old6.1
  have e7 := old7.1
  have e8 := old8.1
  have old13 : Old H1.length H1 H3 := old2.trans old3
  have old46 : Old H4.length H4 H6 := old5.trans old6
  have old68 : Old H6.length H6 H8 := old7.trans (old8.mono e7)
  have old48 : Old H4.length H4 H8 := old46.trans (old68.mono (by omega))
  have old38 : Old H3.length H3 H8 := old4.trans (old48.mono (by omega))
  have old18 : Old H1.length H1 H8 := old13.trans (old38.mono (by omega))
  have b38 := b3.mono (old38.mono (by omega))
  have b68 := b6.mono (old68.mono (by omega))
  have l3 : loadN 2 (ptrA H1.length 0) H8 = some (.agg #[v1, v2]) := b38.loadAll
  have l6 : loadN 2 (ptrA H4.length 0) H8 = some (.agg #[u1, u2]) := b68.loadAll
  have lN : (torN z).length ≤ 10000 := by
    unfold torN
    split
    · simp
    · rename_i hz
      have hs := sig_le z z.toNat (by omega)
      have hq := Int.ediv_le_self (Int.gcd (sig z z.toNat) z : Int) hs.1
      have hq0 := Int.ediv_nonneg hs.1 (by omega : (0 : Int) ≤ (Int.gcd (sig z z.toNat) z : Int))
      have := few (z := sig z z.toNat / (Int.gcd (sig z z.toNat) z : Int)) hq0 (by omega)
      omega
  have lD : (torD z).length ≤ 10000 := by
    unfold torD
    split
    · simp
    · rename_i hz
      have hq := Int.ediv_le_self (Int.gcd (sig z z.toNat) z : Int) (by omega : 0 ≤ z)
      have hq0 := Int.ediv_nonneg (by omega : 0 ≤ z) (by omega : (0 : Int) ≤ (Int.gcd (sig z z.toNat) z : Int))
      have := few (z := z / (Int.gcd (sig z z.toNat) z : Int)) hq0 (by omega)
      omega
  have lP : (priL z).length ≤ 10000 := by
    unfold priL
    split
    · simp
    · rename_i hz
      have hb := rx_bd (N := z.toNat) (by omega) (by omega) (z.toNat - 1)
      have := few (z := rx z.toNat (z.toNat - 1) / 8) (by omega) (by omega)
      omega
  obtain ⟨H9, s9, old9, wf9⟩ := same_run wf8 (o1.R.mono old18) (o2.R.mono old18) (q1.R.mono old48) (q2.R.mono old48) rfl rfl lN lD n (by omega)
  have s10 := ints_run (o7.R.mono (old8.trans (old9.mono e8))) (o8.R.mono old9) lP lP n (by omega)
  rw [decide_eq_true rfl] at s10
  have d1 : decide (torE z = torE z) = true := decide_eq_true rfl
  have d2 : decide (priE z = priE z) = true := decide_eq_true rfl
  simp (disch := omega) only [Try.f6, es_seq, es_region, es_ret, ops_nil, ops_cons, ops_consG, st_move, st_assign, sy_pick, pickS_true, st_fun, sy_bin, sy_ext, ext_20, ext_21, binS_eql, bindO_some, bindF_some, bindX_normal, iteB_true, ev_tmp, ev_const, ev_func, putA, upd_at, Option.map_some, ↓reduceIte, Nat.reduceEqDiff, frOf_0, List.map_cons, List.map_nil, decide_true, yieldO_eq, yO, yV_bool, List.getElem?_cons_zero, List.getElem?_cons_succ, beq_self_eq_true, ↓bindO_some, ↓bindF_some, ↓bindX_normal, ↓iteB_true, fin_r, res_nil, res_tmp, pack_1, scal_bool, ca_other, ca_awake, sy_alloc iR scal_agg, sy_storeN zR, sy_loadN aR zR, s1, hH2, s3, s4, hH5, s6, s7, s8, l3, l6, s9, s10]
  exact ⟨_, rfl⟩
open Go.RowKit in
theorem CountFormulas_walk (a0 : Int) (w0 : (Lit.int .i64 a0).wf = true) (w : World) :
    Calls Try.prog 6 #[.int .i64 a0] w fun e w' => e = .returned (.bool true) ∧ Below w.heap.size w w' := by
  obtain ⟨H', h⟩ := formulas_run a0
  exact law_nil hmix (callA_ok _) (callA_grow _) h (fun v hv => by simp at hv; subst hv; rfl) w
end Go.Proofs.Ytmmgdgmjkhcfaaa
