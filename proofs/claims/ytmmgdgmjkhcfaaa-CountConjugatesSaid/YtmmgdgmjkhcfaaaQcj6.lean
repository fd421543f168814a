/- Of the law: texts of its proof, joined (part 6). -/
import Derived.Test.YtmmgdgmjkhcfaaaQcj5
set_option linter.all false
namespace Go.Abs
theorem RH.loadAll {H : Heap} {v : Value} {ls : List (List Int × Int)} (h : RH H v ls) {i : Nat} {a : List Int × Int} (hi : ls[i]? = some a) : ∃ r, loadN 2 (pt v (i * 2)) H = some (.agg #[r, vi a.2]) ∧ R H r (ints a.1) := by
  obtain ⟨r, h1, h2, h3⟩ := h.item hi
  refine ⟨r, ?_, h2⟩
  rcases h with ⟨_, rfl⟩ | ⟨b, f, w, css, rfl, hb, _⟩
  · simp at hi
  · simp only [pt, sliceA, ptrA, loadS, Heap.cell, hb, Nat.zero_add] at h1 h3
    simp only [loadN, pt, sliceA, ptrA, Heap.cellsAt, hb, Nat.zero_add]
    obtain ⟨l3, e3⟩ := List.getElem?_eq_some_iff.1 h3
    obtain ⟨l1, e1⟩ := List.getElem?_eq_some_iff.1 h1
    rw [if_pos (by omega), List.drop_eq_getElem_cons l1, List.drop_eq_getElem_cons l3, e1, e3]
    rfl
end Go.Abs
namespace Go.Proofs.Ytmmgdgmjkhcfaaa
open Go Go.Abs Go.Num
set_option maxRecDepth 10000
attribute [local congr] bindO_congr bindF_congr bindX_congr condX_congr iteB_congr binS_congr pickS_congr eqB_congr nilS_congr clsW_congr maxS_congr minS_congr
theorem aCh : isAggT Try.prog 78 = some true := by kernel_rfl
theorem zCh : sizeT Try.prog 78 = some 1 := by kernel_rfl
theorem fCh : fieldOff Try.prog 78 0 = some 0 := by kernel_rfl
theorem aMp : isAggT Try.prog 76 = some false := by kernel_rfl
theorem aHo : isAggT Try.prog 66 = some true := by kernel_rfl
theorem zHo : sizeT Try.prog 66 = some 2 := by kernel_rfl
theorem iHo : zeroT Try.prog 66 = some (.agg #[.slice none 0 0, vi 0]) := by kernel_rfl
theorem vEq_ch {m : Nat} : vEq (.agg #[.map (some m)]) (.agg #[.map (some m)]) = true := by simp [vEq, listEq, sEq]
theorem scal_ch {m : Nat} : scal (.agg #[.map (some m)]) = some [.map (some m)] := (rfl)
theorem scal_ho : scal (.agg #[.slice none 0 0, vi 0]) = some [.slice none 0 0, vi 0] := (rfl)
def OneC (m : Nat) (H : Heap) (r : Option (Value × Heap)) (x : Int) : Prop := ∃ w H' es, r = some (w, H') ∧ R H' w (ints (nf x)) ∧ OldX m H.length H H' ∧ H'[m]? = some (.map es) ∧ Known H' es ∧ WF H'
noncomputable def ofA : Code := atC [1, 1, 1, 1, 1, 0, 1, 0, 0] ((Try.f63.body).getD .skip)
theorem of_loop {H : Heap} {m : Nat} {px u vh vk : Value} {z : Int} {c l : List Int} (hp : Part l) (hz : 1 ≤ z) (hc : ∀ y ∈ c, 1 ≤ y ∧ y ≤ 20) (hcl : c.length ≤ 19) {w0 : Value} {es0 : List (Value × Value)} (hw : WF H) (hu : R H u (ints (z :: c))) (hh : RH H vh (rimsP l z)) (hx : BxM 0 H.length H px [.map (some m)]) (hm : H[m]? = some (.map es0)) (hk : Known H es0) (h0 : R H w0 (ints (nf 0))) (n nt : Nat) (hn : 2100 ≤ n)
    (ih : ∀ {H : Heap} {v u : Value} {l : List Int} {es : List (Value × Value)}, WF H → R H v (ints l) → Part l → R H u (ints c) → H[m]? = some (.map es) → Known H es → OneC m H (evB Try.prog noC n (.func (.func 63) #[] #[]) [.agg #[.map (some m)], v, u] H) (chi c l))
    {a0 : Fr} (h2 : a0 2 = u) (h3 : a0 3 = px) (h7 : a0 7 = vk) (h10 : a0 10 = w0) (h35 : a0 35 = vh) (h36 : a0 36 = vi (rimsP l z).length) (h37 : a0 37 = vi (0 : Nat)) :
    ∃ r a' H', loopN (evS Try.prog (evB Try.prog noC n) n nt none ofA) n a0 H = some (r, a', H') ∧ r = .exit 0 ∧ a' 3 = px ∧ a' 7 = vk ∧ ∃ w es, a' 10 = w ∧ R H' w (ints (nf (chi (z :: c) l))) ∧ OldX m H.length H H' ∧ H'[m]? = some (.map es) ∧ Known H' es ∧ WF H' := by
  have hlen : (rimsP l z).length ≤ 20 := Nat.le_trans (rimsP_le l z l.length) hp.len
  have hc1 : ∀ y ∈ c, 1 ≤ y := fun y hy => (hc y hy).1
  have hma : MapAt H m := ⟨_, hm⟩
  refine loop_up (rimsP l z).length (fun i a H' => a 2 = u ∧ a 3 = px ∧ a 7 = vk ∧ a 35 = vh ∧ a 36 = vi (rimsP l z).length ∧ a 37 = vi i ∧ ∃ w es, a 10 = w ∧ R H' w (ints (nf (chiT z c l i))) ∧ OldX m H.length H H' ∧ H'[m]? = some (.map es) ∧ Known H' es ∧ WF H') _ ?_ ?_ (by omega) ⟨h2, h3, h7, h35, h36, h37, _, _, h10, by rw [chiT_0]; exact h0, OldX.refl _ _ _, hm, hk, hw⟩
  · intro i a H' hi ⟨h2, h3, h7, h35, h36, h37, w, es, h10, hr, old, hm', hk', hw'⟩
    left
    rw [show ofA = atC [1, 1, 1, 1, 1, 0, 1, 0, 0] ((Try.f63.body).getD .skip) from rfl]
    have hlt : (i : Int) < (rimsP l z).length := by omega
    have e1 : IntKind.i64.wrap ((i : Int) + 1) = ((i + 1 : Nat) : Int) := by rw [wr64 (by omega) (by omega)]; omega
    have ei : (rimsP l z)[i]? = some (rimsP l z)[i] := List.getElem?_eq_getElem hi
    have hma' : MapAt H' m := ⟨_, hm'⟩
    have hh' := hh.monoX hma old
    obtain ⟨hq, q0, q20⟩ := rim_part hp hz (List.getElem_mem hi)
    have hs := chiT_succ (c := c) hi
    obtain ⟨x, lx, rx⟩ := hh'.loadAll ei
    have a1 := RG.addr hh hi
    -- the hook's box
    have oldb := Old.app H' [.cells H'.length true [.slice none 0 0, vi 0]]
    have wfb := hw'.app (Nat.le_refl H'.length) (o := true) (cs := [.slice none 0 0, vi 0])
    obtain ⟨H2, st, b2, oldc, wf2, kc⟩ := (BxM.made (B := H'.length) (H := H') (Nat.le_refl _) [.slice none 0 0, vi 0]).store wfb (vs := [x, vi ((rimsP l z)[i]).2]) rfl
    have old2 : Old H'.length H' H2 := oldb.trans oldc
    have hm2 : H2[m]? = some (.map es) := by rw [old2.2 m (lt_of_blk hm')]; exact hm'
    have hma2 : MapAt H2 m := ⟨_, hm2⟩
    have f0 := b2.faddr 0
    have l0 := b2.load 0
    have f1 := b2.faddr 1
    have bx2 : BxM 0 H.length H2 px [.map (some m)] := (hx.monoX hma old).mono (old2.mono old.1)
    have lx2 := bx2.loadAll
    obtain ⟨u2, su, ru⟩ := tail_R ((R.monoX hu hma old).mono old2)
    obtain ⟨v3, H3, es3, s3, r3, old3, hm3, hk3, wf3⟩ := ih wf2 (rx.mono old2) hq ru hm2 (hk'.monoX hma' (old2.X m))
    have b3 : BxM H'.length _ H3 (ptrA H'.length 0) [x, vi ((rimsP l z)[i]).2] := b2.monoX hma2 (old3.mono (by have := oldc.1; exact this))
    have l1 := b3.load 1
    have hr3 := R.monoX (hr.mono old2) hma2 old3
    have n1 := chiT_nf (c := c) (l := l) hz hc1 (by omega) hp i
    have n2 := chi_nf (c := c) hc1 (by omega) hq
    generalize hy : (rimsP l z)[i] = y at *
    have et : y.2.tmod 2 = y.2 % 2 := tmod_pos q0 _
    have l0 : loadS (bx (ptrA H'.length 0) 0) H2 = some x := l0
    have l1 : loadS (bx (ptrA H'.length 0) 1) H3 = some (vi y.2) := l1
    have lx2 : loadN 1 px H2 = some (.agg #[.map (some m)]) := lx2
    have st : storeN 2 (ptrA H'.length 0) (.agg #[x, vi y.2]) (H' ++ [.cells H'.length true [.slice none 0 0, vi 0]]) = some H2 := st
    have t3 := ((old2.X m).trans (old3.mono old2.1))
    by_cases hmo : y.2 % 2 = 1
    · have ed : decide (y.2 % 2 = 1) = true := decide_eq_true hmo
      obtain ⟨v4, H4, s4, o4, old4, wf4⟩ := subP_run wf3 (NumV.of hr3 (by omega)) (NumV.of r3 (by omega)) (by omega) (by omega) n (by omega)
      have hm4 : H4[m]? = some (.map es3) := by rw [old4.2 m (lt_of_blk hm3)]; exact hm3
      simp (disch := omega) only [Try.f63, Option.getD_some, atC, es_seq, es_region, es_draw, d0, es_cond, es_block, es_skip, ops_nil, ops_cons, opsV_nil, opsV_cons, st_move, st_assign, st_fun, sy_load aI, sy_bin, sy_slice eL, binS_lss, binS_eql, binS_add, binS_rem, bindO_some, bindF_some, bindX_normal, blkX_normal, condX_true, iteB_true, iteB_false, ev_tmp, ev_const, ev_func, putA, upd_at, Option.map_some, ↓reduceIte, Nat.reduceEqDiff, List.map_cons, List.map_nil, decide_true, ↓bindO_some, ↓bindF_some, ↓bindX_normal, ↓condX_true, ↓iteB_true, ↓iteB_false, reflV_load, reflV_move, reflV_assign, reflV_call, reflV_slice, sy_load aL, reflV_faddr, sy_addr eHH, sy_faddr fHo0, sy_faddr fHo1, sy_loadN aHo zHo, sy_storeN zHo, sy_alloc iHo scal_ho, sy_loadN aCh zCh, h2, h3, h10, h35, h36, h37, hlt, a1, lx, st, lx2, vEq_ch, f0, f1, l0, l1, rx.refl, Option.map_none, su, s3, et, ed, s4, e1]
      refine ⟨_, _, rfl, ?_, ?_, ?_, ?_, ?_, ?_, v4, es3, ?_, ?_, old.trans ((t3.trans ((old4.X m).mono (Nat.le_trans old2.1 old3.1))).mono old.1), hm4, hk3.monoX ⟨_, hm3⟩ (old4.X m), wf4⟩
      · exact h2
      · exact h3
      · exact h7
      · exact h35
      · exact h36
      · rfl
      · rfl
      · rw [hs, sgn, if_pos hmo]; exact o4.R
    · have ed : decide (y.2 % 2 = 1) = false := decide_eq_false hmo
      obtain ⟨v4, H4, s4, o4, old4, wf4⟩ := addP_run wf3 (NumV.of hr3 (by omega)) (NumV.of r3 (by omega)) (by omega) (by omega) n (by omega)
      have hm4 : H4[m]? = some (.map es3) := by rw [old4.2 m (lt_of_blk hm3)]; exact hm3
      simp (disch := omega) only [Try.f63, Option.getD_some, atC, es_seq, es_region, es_draw, d0, es_cond, es_block, es_skip, ops_nil, ops_cons, opsV_nil, opsV_cons, st_move, st_assign, st_fun, sy_load aI, sy_bin, sy_slice eL, binS_lss, binS_eql, binS_add, binS_rem, bindO_some, bindF_some, bindX_normal, blkX_normal, condX_true, condX_false, iteB_true, iteB_false, ev_tmp, ev_const, ev_func, putA, upd_at, Option.map_some, ↓reduceIte, Nat.reduceEqDiff, List.map_cons, List.map_nil, decide_true, ↓bindO_some, ↓bindF_some, ↓bindX_normal, ↓condX_true, ↓condX_false, ↓iteB_true, ↓iteB_false, reflV_load, reflV_move, reflV_assign, reflV_call, reflV_slice, sy_load aL, reflV_faddr, sy_addr eHH, sy_faddr fHo0, sy_faddr fHo1, sy_loadN aHo zHo, sy_storeN zHo, sy_alloc iHo scal_ho, sy_loadN aCh zCh, h2, h3, h10, h35, h36, h37, hlt, a1, lx, st, lx2, vEq_ch, f0, f1, l0, l1, rx.refl, Option.map_none, su, s3, et, ed, s4, e1]
      refine ⟨_, _, rfl, ?_, ?_, ?_, ?_, ?_, ?_, v4, es3, ?_, ?_, old.trans ((t3.trans ((old4.X m).mono (Nat.le_trans old2.1 old3.1))).mono old.1), hm4, hk3.monoX ⟨_, hm3⟩ (old4.X m), wf4⟩
      · exact h2
      · exact h3
      · exact h7
      · exact h35
      · exact h36
      · rfl
      · rfl
      · rw [hs, sgn, if_neg hmo]; exact o4.R
  · intro a H' ⟨h2, h3, h7, h35, h36, h37, w, es, h10, hr, old, hm', hk', hw'⟩
    rw [show ofA = atC [1, 1, 1, 1, 1, 0, 1, 0, 0] ((Try.f63.body).getD .skip) from rfl]
    simp (disch := omega) only [Try.f63, Option.getD_some, atC, es_seq, es_region, es_cond, es_exit, ops_nil, ops_cons, sy_bin, binS_lss, bindO_some, bindF_some, bindX_normal, bindX_exit, condX_false, ev_tmp, putA, upd_at, ↓reduceIte, decide_false, ↓bindO_some, ↓bindF_some, ↓bindX_normal, ↓bindX_exit, ↓condX_false, h36, h37, Int.lt_irrefl]
    refine ⟨_, _, _, rfl, by simp, rfl, ?_, ?_, w, es, ?_, by rw [chiT_all] at hr; exact hr, old, hm', hk', hw'⟩
    · exact h3
    · exact h7
    · exact h10
theorem cof_run (m : Nat) : ∀ (c : List Int), c.length ≤ 20 → (∀ y ∈ c, 1 ≤ y ∧ y ≤ 20) → ∀ {H : Heap} {v u : Value} {l : List Int} {es : List (Value × Value)}, WF H → R H v (ints l) → Part l → R H u (ints c) → H[m]? = some (.map es) → Known H es → ∀ n, 2101 + c.length ≤ n → OneC m H (evB Try.prog noC n (.func (.func 63) #[] #[]) [.agg #[.map (some m)], v, u] H) (chi c l) := by
  intro c
  induction c with
  | nil =>
    intro _ _ H v u l es hw hv hp hu hm hk n hn
    refine run_of (F := 2100) (Q := fun r => OneC m H r (chi [] l)) (fun n hn => ?_) n (by simpa using hn)
    rw [body_runS Try.func63 rfl (ok_fn (by rfl) Try.func63 rfl) (Nat.le_of_ble_eq_true rfl) (D := D0) (by kernel_rfl)]
    have old0 := Old.app H [.cells H.length true [.map (some m)]]
    have wf0 := hw.app (Nat.le_refl H.length) (o := true) (cs := [.map (some m)])
    have hlen := (hu.mono old0).lenI
    have c0 : decide ((([] : List Int).length : Int) = 0) = true := by decide
    obtain ⟨v1, H1, s1, o1, old1, wf1⟩ := of_run (z := 1) wf0 (by omega) (by omega) n (by omega)
    simp (disch := omega) only [Try.f63, es_seq, es_region, es_cond, es_ret, ops_nil, ops_cons, st_move, st_assign, st_fun, sy_len uL, sy_bin, binS_eql, bindO_some, bindF_some, bindX_normal, bindX_ret, condX_true, ev_tmp, ev_const, ev_func, putA, upd_at, Option.map_some, ↓reduceIte, Nat.reduceEqDiff, frOf_0, frOf_2, List.map_cons, List.map_nil, ↓bindO_some, ↓bindF_some, ↓bindX_normal, ↓bindX_ret, ↓condX_true, fin_r, res_nil, res_tmp, pack_1, sy_box, scal_agg, hlen, c0, s1, o1.R.scal]
    have t := old0.trans (old1.mono old0.1)
    exact ⟨_, _, es, rfl, o1.R, t.X m, by rw [t.2 m (lt_of_blk hm)]; exact hm, hk.monoX ⟨_, hm⟩ (t.X m), wf1⟩
  | cons z c ih =>
    intro hcl hc H v u l es hw hv hp hu hm hk n hn
    refine run_of (F := 2101 + c.length) (Q := fun r => OneC m H r (chi (z :: c) l)) (fun n hn => ?_) n (by simpa [Nat.add_assoc] using hn)
    rw [body_runS Try.func63 rfl (ok_fn (by rfl) Try.func63 rfl) (Nat.le_of_ble_eq_true rfl) (D := D0) (by kernel_rfl)]
    have hkc : Kc l (z :: c) := ⟨hp, hc, hcl⟩
    have hcl' : c.length ≤ 19 := by simpa using hcl
    have hz := hc z (by simp)
    have hc2 : ∀ y ∈ c, 1 ≤ y ∧ y ≤ 20 := fun y hy => hc y (by simp [hy])
    have old0 := Old.app H [.cells H.length true [.map (some m)]]
    have wf0 := hw.app (Nat.le_refl H.length) (o := true) (cs := [.map (some m)])
    have bx0 := BxM.made (B := H.length) (H := H) (Nat.le_refl _) [.map (some m)]
    have hlen := (hu.mono old0).lenI
    have c0 : decide (((z :: c).length : Int) = 0) = false := decide_eq_false (by rw [List.length_cons]; omega)
    have hlp := hp.len
    obtain ⟨H1, s1, old1, wf1⟩ := key_run wf0 (hv.mono old0) (hu.mono old0) (by omega) (by omega) (fun x hx => by have := hp.mem x hx; omega) (fun x hx => by have := hc x hx; omega) n (by omega)
    have t1 := old0.trans (old1.mono old0.1)
    have hm1 : H1[m]? = some (.map es) := by rw [t1.2 m (lt_of_blk hm)]; exact hm
    have hk1 := hk.monoX ⟨_, hm⟩ (t1.X m)
    have q1 := look_eq hm1 hk1 (txt (keyL l (z :: c)))
    have f0 := bx0.faddr 0
    have l0 : loadS (bx (ptrA H.length 0) 0) H1 = some (.map (some m)) := (bx0.mono old1).load 0
    cases hf : findA (.string (txt (keyL l (z :: c)))) es with
    | some w =>
      have g : getS es (txt (keyL l (z :: c))) = .tuple #[w, .bool true] := by unfold getS; rw [hf]
      rw [g] at q1
      have rw_ := hk1.find hkc hf
      simp (disch := omega) only [Try.f63, es_seq, es_region, es_cond, es_skip, es_ret, ops_nil, ops_cons, st_move, st_assign, st_fun, sy_len uL, sy_bin, sy_ext, ext_20, ext_21, binS_eql, bindO_some, bindF_some, bindX_normal, bindX_ret, condX_true, condX_false, ev_tmp, ev_const, ev_func, putA, upd_at, Option.map_some, ↓reduceIte, Nat.reduceEqDiff, frOf_0, frOf_1, frOf_2, List.map_cons, List.map_nil, ↓bindO_some, ↓bindF_some, ↓bindX_normal, ↓bindX_ret, ↓condX_true, ↓condX_false, fin_r, res_nil, res_tmp, pack_1, sy_box, scal_agg, sy_look, sy_faddr fCh, sy_load aMp, hlen, c0, s1, f0, l0, q1, rw_.scal]
      exact ⟨_, _, es, rfl, rw_, t1.X m, hm1, hk1, wf1⟩
    | none =>
      have g : getS es (txt (keyL l (z :: c))) = .tuple #[.slice none 0 0, .bool false] := by unfold getS; rw [hf]
      rw [g] at q1
      obtain ⟨v2, H2, s2, o2, old2, wf2⟩ := of_run (z := 0) wf1 (by omega) (by omega) n (by omega)
      have t2 := t1.trans (old2.mono t1.1)
      have hm2 : H2[m]? = some (.map es) := by rw [t2.2 m (lt_of_blk hm)]; exact hm
      have hu2 := hu.mono t2
      have a1 : addrS 1 u (vi 0) = some (pt u 0) := hu2.addrI (i := 0) (by omega) (by rw [List.length_cons]; omega)
      have l1 := hu2.loadI (i := 0) (by rw [List.length_cons]; omega)
      rw [show (z :: c).getD 0 0 = z from rfl] at l1
      obtain ⟨vh, H3, s3, oh, old3, wf3⟩ := rims_run wf2 (hv.mono t2) hp hz n (by omega)
      have t3 := t2.trans (old3.mono t2.1)
      have hm3 : H3[m]? = some (.map es) := by rw [t3.2 m (lt_of_blk hm)]; exact hm
      have bx3 : BxM 0 H3.length H3 (ptrA H.length 0) [.map (some m)] := by
        obtain ⟨b, f, e1, e2, e3, e4, e5, e6⟩ := (bx0.mono old1).mono ((old2.mono old1.1).trans (old3.mono (Nat.le_trans old1.1 old2.1)))
        exact ⟨b, f, e1, by omega, by omega, lt_of_blk e6, by have := wf3 _ _ _ _ e6; have := lt_of_blk e6; omega, e6⟩
      have ll := RG.len oh.RH
      have key := fun (A : Fr) => of_loop (a0 := A) (vk := .string (txt (keyL l (z :: c)))) (l := l) hp hz.1 hc2 hcl' wf3 (hu.mono t3) oh.RH bx3 hm3 (hk.monoX ⟨_, hm⟩ (t3.X m)) (o2.R.mono old3) n Try.f63.ntmps (by omega) (fun w1 w2 w3 w4 w5 w6 => ih (by omega) hc2 w1 w2 w3 w4 w5 w6 n (by omega))
      rw [show ofA = atC [1, 1, 1, 1, 1, 0, 1, 0, 0] ((Try.f63.body).getD .skip) from rfl] at key
      simp only [Try.f63, Option.getD_some, atC] at key
      simp (disch := omega) only [Try.f63, es_seq, es_region, es_cond, es_block, es_loop, es_skip, es_ret, ops_nil, ops_cons, st_move, st_assign, st_fun, sy_len uL, sy_addr eL, sy_load aI, sy_bin, sy_ext, ext_20, ext_21, binS_eql, bindO_some, bindF_some, bindX_normal, condX_false, ev_tmp, ev_const, ev_func, putA, upd_at, Option.map_some, ↓reduceIte, Nat.reduceEqDiff, frOf_0, frOf_1, frOf_2, List.map_cons, List.map_nil, ↓bindO_some, ↓bindF_some, ↓bindX_normal, ↓condX_false, sy_box, scal_agg, sy_look, sy_faddr fCh, sy_load aMp, sy_len uHH, hlen, c0, s1, f0, l0, q1, s2, a1, l1, s3, ll]
      generalize hA : upd _ 37 _ = A
      obtain ⟨r, a', H4, s, rfl, g3, g7, w, es4, g10, r4, old4, hm4, hk4, wf4⟩ := key A (by subst hA; rfl) (by subst hA; rfl) (by subst hA; rfl) (by subst hA; rfl) (by subst hA; rfl) (by subst hA; rfl) (by subst hA; rfl)
      have bx4 := bx3.monoX ⟨_, hm3⟩ old4
      have l4 : loadS (bx (ptrA H.length 0) 0) H4 = some (.map (some m)) := bx4.load 0
      have q4 := mapup_eq hm4 hk4 (txt (keyL l (z :: c))) r4.scal
      simp (disch := omega) only [s, bindO_some, bindF_some, bindX_normal, blkX_exit, ev_tmp, upd_at, Option.map_some, ↓reduceIte, Nat.reduceEqDiff, ↓bindO_some, ↓bindF_some, ↓bindX_normal, fin_r, res_nil, res_tmp, pack_1, sy_mapup, g3, g7, g10, f0, l4, q4, r4.scal]
      have ox := OldX.setMap H4 m (setA (.string (txt (keyL l (z :: c)))) w es4)
      exact ⟨_, _, _, rfl, R.monoX r4 ⟨_, hm4⟩ (ox _), ((t3.X m).trans (old4.mono t3.1)).trans (ox _), by rw [List.getElem?_set, if_pos rfl, if_pos (lt_of_blk hm4)], (hk4.set hkc r4).monoX ⟨_, hm4⟩ (ox _), wf4.setMap _ _⟩
end Go.Proofs.Ytmmgdgmjkhcfaaa
namespace Go.Proofs.Ytmmgdgmjkhcfaaa
open Go Go.Abs Go.Num
set_option maxRecDepth 10000
attribute [local congr] bindO_congr bindF_congr bindX_congr condX_congr iteB_congr binS_congr pickS_congr eqB_congr nilS_congr clsW_congr
theorem vEq_whole {H : Heap} {b : Bool} {v : Value} {l : List Value} (h : R H v l) : vEq (.agg #[.bool b, v]) (.agg #[.bool b, v]) = true := by
  rcases h with ⟨rfl, _⟩ | ⟨rfl, _⟩ | ⟨_, _, _, _, _, rfl, _⟩ <;> simp [vEq, listEq, sEq, sliceA, lostSlice]
theorem Kept.refl (C : Nat) (H : Heap) : Kept C H H := fun _ _ _ _ _ _ h => h
theorem Kept.trans {C : Nat} {H1 H2 H3 : Heap} (h : Kept C H1 H2) (h' : Kept C H2 H3) : Kept C H1 H3 := fun b f o cs h1 h2 h3 => h' b f o cs h1 h2 (h b f o cs h1 h2 h3)
theorem Kept.mono {C D : Nat} {H1 H2 : Heap} (h : Kept C H1 H2) (hc : C ≤ D) : Kept D H1 H2 := fun b f o cs h1 h2 h3 => h b f o cs (by omega) (by omega) h3
theorem ov_r12 {H H5 H6 : Heap} {p4 p5 w4 w5 : Value} (call : CallF) (k nt : Nat) (rd : Option Nat) {a : Fr} (h4 : a 4 = p4) (h5 : a 5 = p5)
    (l4 : ∀ G, G = H ∨ G = H5 ∨ G = H6 → loadN 2 p4 G = some w4) (l5 : ∀ G, G = H ∨ G = H5 ∨ G = H6 → loadN 2 p5 G = some w5) (r4 : vEq w4 w4 = true) (r5 : vEq w5 w5 = true)
    (s4 : storeN 2 p4 w4 H = some H5) (s5 : storeN 2 p5 w5 H5 = some H6) :
    ∃ a' H', evT Try.prog call k nt rd D1 (atC [1, 1, 1, 1, 0] ((Try.f146.body).getD .skip)) a H = some (.normal, a', H') ∧ H' = H6 ∧ a' 4 = p4 ∧ a' 5 = p5 := by
  simp only [Try.f146, Option.getD_some, atC]
  refine et_from (fun a' H' => H' = H6 ∧ a' 4 = p4 ∧ a' 5 = p5) ?_
  have e0 := l4 H (.inl rfl)
  have e1 := l5 H (.inl rfl)
  simp (disch := omega) only [bindO_some, ev_tmp, putA, upd_at, Option.map_some, ↓reduceIte, Nat.reduceEqDiff, ↓bindO_some, sy_loadN aW zW, sy_storeN zW, opsW_nil, opsW_cons, clsW_eff, clsW_read, ↓clsW_eff, ↓clsW_read, cls_load, cls_store, h4, h5, e0, e1, s4, s5]
  refine ⟨_, rfl, ?_, rfl, ?_, ?_⟩
  · intro G hG r hr
    simp only [List.mem_cons, List.not_mem_nil, or_false] at hG hr
    have hG' : G = H ∨ G = H5 ∨ G = H6 := by
      rcases hG with h | h | h
      · exact .inr (.inr h)
      · exact .inr (.inl h)
      · exact .inl h
    have e0 := l4 G hG'
    have e1 := l5 G hG'
    rcases hr with rfl | rfl
    all_goals simp only [still_ldN aW zW, ev_tmp, upd_at, ↓reduceIte, Nat.reduceEqDiff, h4, h5, e0, e1, r4, r5]
  · simp only [upd_at, ↓reduceIte, Nat.reduceEqDiff, h4]
  · simp only [upd_at, ↓reduceIte, Nat.reduceEqDiff, h5]
theorem ov_r6 {H H5 H6 : Heap} {pa pb p4 p5 va vb d : Value} {y z : Int} (call : CallF) (k nt : Nat) (rd : Option Nat) {a : Fr} {q1 q2 q3 q4 : Value} (h2 : a 2 = pa) (h3 : a 3 = pb) (h4 : a 4 = p4) (h5 : a 5 = p5)
    (f1 : faddrS 1 pa = some q1) (f2 : faddrS 1 pb = some q2) (f3 : faddrS 1 p4 = some q3) (ad : addrS 1 vb (vi 0) = some q4)
    (l1 : ∀ G, G = H ∨ G = H5 ∨ G = H6 → loadS q1 G = some va) (l2 : ∀ G, G = H ∨ G = H5 ∨ G = H6 → loadS q2 G = some vb) (l4 : ∀ G, G = H ∨ G = H5 ∨ G = H6 → loadS q4 G = some (vi y)) (r1 : vEq va va = true) (r2 : vEq vb vb = true)
    (s1 : call (.func (.func 154) #[] #[]) [va, vi y] H = some (.tuple #[d, vi z], H5)) (s2 : storeS q3 d H5 = some H6) :
    ∃ a' H', evT Try.prog call k nt rd D1 (atC [1, 0, 0, 1, 1, 1, 0, 1, 0] ((Try.f146.body).getD .skip)) a H = some (.normal, a', H') ∧ H' = H6 ∧ a' 2 = pa ∧ a' 3 = pb ∧ a' 4 = p4 ∧ a' 5 = p5 ∧ a' 6 = vi z := by
  simp only [Try.f146, Option.getD_some, atC]
  refine et_from (fun a' H' => H' = H6 ∧ a' 2 = pa ∧ a' 3 = pb ∧ a' 4 = p4 ∧ a' 5 = p5 ∧ a' 6 = vi z) ?_
  have e0 := l1 H (.inl rfl)
  have e1 := l2 H (.inl rfl)
  have e2 := l4 H (.inl rfl)
  simp (disch := omega) only [st_move, st_assign, st_fun, sy_addr eL, sy_load aI, sy_ext, ext_20, ext_21, bindO_some, ev_tmp, ev_const, ev_func, putA, upd_at, Option.map_some, ↓reduceIte, Nat.reduceEqDiff, List.map_cons, List.map_nil, ↓bindO_some, sy_load aL, sy_store zL, sy_faddr fW1, opsW_nil, opsW_cons, clsW_eff, clsW_read, clsW_pure, ↓clsW_eff, ↓clsW_read, ↓clsW_pure, cls_move, cls_assign, cls_addr, cls_load, cls_callF, cls_store, cls_faddr, cls_extract, h2, h3, h4, f1, f2, f3, ad, e0, e1, e2, s1, s2]
  refine ⟨_, rfl, ?_, rfl, ?_, ?_, ?_, ?_, ?_⟩
  · intro G hG r hr
    simp only [List.mem_cons, List.not_mem_nil, or_false] at hG hr
    have hG' : G = H ∨ G = H5 ∨ G = H6 := by
      rcases hG with h | h | h
      · exact .inr (.inr h)
      · exact .inr (.inl h)
      · exact .inl h
    have e0 := l1 G hG'
    have e1 := l2 G hG'
    have e2 := l4 G hG'
    rcases hr with rfl | rfl | rfl
    all_goals simp only [still_ld aL, still_ld aI, ev_tmp, upd_at, ↓reduceIte, vEq_vi, e0, e1, e2, r1, r2]
  · simp only [upd_at, ↓reduceIte, Nat.reduceEqDiff, h2]
  · simp only [upd_at, ↓reduceIte, Nat.reduceEqDiff, h3]
  · simp only [upd_at, ↓reduceIte, Nat.reduceEqDiff, h4]
  · simp only [upd_at, ↓reduceIte, Nat.reduceEqDiff, h5]
  · simp only [upd_at, ↓reduceIte]
theorem ov_tail {H : Heap} {B1 C1 B2 C2 A1 A2 A3 A4 : Nat} {pa pb p4 p5 va vb dq dr : Value} {q r : Int} (hw : WF H) (call : CallF) (k nt : Nat) (rd : Option Nat) {a : Fr} (h2 : a 2 = pa) (h3 : a 3 = pb) (h4 : a 4 = p4) (h5 : a 5 = p5)
    (b2 : BxM A1 A2 H pa [.bool false, va]) (b3 : BxM A3 A4 H pb [.bool false, vb]) (b4 : BxM B1 C1 H p4 [.bool false, dq]) (b5 : BxM B2 C2 H p5 [.bool false, dr]) (o1 : C1 ≤ B2) (o2 : B2 ≤ C2) (o3 : A2 ≤ B1) (o4 : A4 ≤ B1) (o5 : B1 ≤ C1)
    (kq : ∀ G, Old B1 H G → Kept C2 H G → R G dq (ints (nf q))) (kr : ∀ G, Old B1 H G → Kept C2 H G → R G dr (ints (nf r))) :
    ∃ a' G, evT Try.prog call k nt rd D1 (atC [1, 1] ((Try.f146.body).getD .skip)) a H = some (.ret, a', G) ∧ a' 4 = p4 ∧ a' 5 = p5 ∧ loadN 2 p4 G = some (.agg #[.bool false, dq]) ∧ loadN 2 p5 G = some (.agg #[.bool false, dr]) ∧ Old B1 H G ∧ Kept C2 H G ∧ WF G := by
  have f20 := b2.faddr 0
  have f30 := b3.faddr 0
  have f40 := b4.faddr 0
  have f41 := b4.faddr 1
  have l20 : loadS (bx pa 0) H = some (.bool false) := b2.load 0
  have l30 : loadS (bx pb 0) H = some (.bool false) := b3.load 0
  have l41 : loadS (bx p4 1) H = some dq := b4.load 1
  have hq := kq H (Old.refl _ _) (Kept.refl _ _)
  obtain ⟨H1, s1, b41, old1, wf1, k1⟩ := b4.set hw (i := 0) (by simp) (v := .bool false) rfl
  have s1 : storeS (bx p4 0) (.bool false) H = some H1 := s1
  have b41 : BxM B1 C1 H1 p4 [.bool false, dq] := b41
  have b51 := b5.kept k1 o1
  obtain ⟨H2, s2, b42, old2, wf2, k2⟩ := b41.store wf1 (vs := [.bool false, dq]) rfl
  have s2 : storeN 2 p4 (.agg #[.bool false, dq]) H1 = some H2 := s2
  have b52 := b51.kept k2 o1
  obtain ⟨H3, s3, b53, old3, wf3, k3⟩ := b52.store wf2 (vs := [.bool false, dr]) rfl
  have s3 : storeN 2 p5 (.agg #[.bool false, dr]) H2 = some H3 := s3
  have b43 := b42.mono (old3.mono o1)
  have oldf := (old1.trans old2).trans (old3.mono (by omega))
  have kf := Kept.trans (Kept.mono (Kept.trans k1 k2) (by omega : C1 ≤ C2)) k3
  have kk := fun (A : Fr) => ov_r12 (H := H1) (H5 := H2) (H6 := H3) (a := A) (p4 := p4) (p5 := p5) (w4 := .agg #[.bool false, dq]) (w5 := .agg #[.bool false, dr]) call k nt rd
  simp only [Try.f146, Option.getD_some, atC] at kk
  have hlen := hq.lenI
  by_cases hq0 : (0 : Int) < (nf q).length
  all_goals
    simp (disch := omega) only [Try.f146, Option.getD_some, atC, es_seq, es_region, es_cond, es_skip, es_ret, ops_nil, ops_cons, ops_consG, st_move, sy_pick, pickS_true, pickS_false, sy_len uL, sy_bin, binS_gtr, bindO_some, bindF_some, bindX_normal, condX_false, iteB_true, iteB_false, ev_tmp, ev_const, putA, upd_at, Option.map_some, ↓reduceIte, Nat.reduceEqDiff, decide_true, decide_false, Bool.not_true, yieldO_eq, yO, yV_bool, some_true, List.getElem?_cons_zero, List.getElem?_cons_succ, beq_self_eq_true, ↓bindO_some, ↓bindF_some, ↓bindX_normal, ↓condX_false, ↓iteB_true, ↓iteB_false, sy_load aL, sy_load aB, sy_store zB, sy_faddr fW0, sy_faddr fW1, sy_ne nB, eqB_bool, Bool.true_xor, h2, h3, h4, f20, f30, f40, f41, l20, l30, l41, hlen, hq0, s1]
    generalize hA : upd _ 73 _ = A
    obtain ⟨a2, G2, e2, hG, g4, g5⟩ := kk A (by subst hA; exact h4) (by subst hA; exact h5) (fun G h => by
        rcases h with rfl | rfl | rfl
        · exact b41.loadAll
        · exact b42.loadAll
        · exact b43.loadAll) (fun G h => by
        rcases h with rfl | rfl | rfl
        · exact b51.loadAll
        · exact b52.loadAll
        · exact b53.loadAll) (vEq_whole hq) (vEq_whole (kr H (Old.refl _ _) (Kept.refl _ _))) s2 s3
    rw [e2]
    subst hG
    simp (disch := omega) only [bindX_normal, ↓bindX_normal]
    exact ⟨_, _, rfl, g4, g5, b43.loadAll, b53.loadAll, oldf, kf, wf3⟩
theorem ov_split (call : CallF) (k nt : Nat) (rd : Option Nat) (a : Fr) (H : Heap) : evT Try.prog call k nt rd D1 ((Try.f146.body).getD .skip) a H =
    bindX (evT Try.prog call k nt rd D1 (atC [0] ((Try.f146.body).getD .skip)) a H) fun a H => bindX (evT Try.prog call k nt rd D1 (atC [1, 0] ((Try.f146.body).getD .skip)) a H) fun a H => evT Try.prog call k nt rd D1 (atC [1, 1] ((Try.f146.body).getD .skip)) a H := rfl
def LongOK (F : Nat) (x y : Int) : Prop := ∀ (G : Heap) (va vb : Value), WF G → R G va (ints (nf x)) → R G vb (ints (nf y)) → ∀ n, F ≤ n →
  ∃ v1 v2 G', evB Try.prog noC n (.func (.func 155) #[] #[]) [va, vb] G = some (.tuple #[v1, v2], G') ∧ RO G.length G' v1 (ints (nf (x / y))) ∧ RO G.length G' v2 (ints (nf (x % y))) ∧ Old G.length G G' ∧ WF G'
def TwoW (va : Value) (x : Int) (H : Heap) (r : Option (Value × Heap)) (q z : Int) : Prop := ∃ v1 v2 H', r = some (.tuple #[.agg #[.bool false, v1], .agg #[.bool false, v2]], H') ∧ RO H.length H' v1 (ints (nf q)) ∧ R H' v2 (ints (nf z)) ∧ (RO H.length H' v2 (ints (nf z)) ∨ v2 = va ∧ z = x) ∧ Old H.length H H' ∧ WF H'
theorem over_run {H : Heap} {va vb : Value} {x y : Int} {FL : Nat} (hw : WF H) (hx : R H va (ints (nf x))) (hy : R H vb (ints (nf y))) (x0 : 0 ≤ x) (y0 : 0 < y) (lx : (nf x).length ≤ 390) (ly : (nf y).length ≤ 390) (hL : y ≤ x → 2 ≤ (nf y).length → LongOK FL x y) (n : Nat) (hn : FL + 2012 ≤ n) :
    TwoW va x H (evB Try.prog noC n (.func (.func 146) #[] #[]) [.agg #[.bool false, va], .agg #[.bool false, vb]] H) (x / y) (x % y) := by
  refine run_of (F := FL + 2011) (Q := fun r => TwoW va x H r (x / y) (x % y)) (fun n hn => ?_) n (by omega)
  rw [body_runS (c := (Try.f146.body).getD .skip) Try.func146 rfl (ok_fn (by rfl) Try.func146 rfl) (Nat.le_of_ble_eq_true rfl) (D := D1) (by kernel_rfl)]
  rw [ov_split]
  have old1 := Old.app H [.cells H.length true [.bool false, va]]
  have wf1 := hw.app (Nat.le_refl H.length) (o := true) (cs := [.bool false, va])
  have b1 := BxM.made (B := H.length) (H := H) (Nat.le_refl _) [.bool false, va]
  generalize hH1 : H ++ [Blk.cells H.length true [.bool false, va]] = H1 at *
  have old2 := Old.app H1 [.cells H1.length true [.bool false, vb]]
  have wf2 := wf1.app (Nat.le_refl H1.length) (o := true) (cs := [.bool false, vb])
  have b2 := BxM.made (B := H1.length) (H := H1) (Nat.le_refl _) [.bool false, vb]
  generalize hH2 : H1 ++ [Blk.cells H1.length true [.bool false, vb]] = H2 at *
  have old3 := Old.app H2 [.cells H2.length true [.bool false, .slice none 0 0]]
  have wf3 := wf2.app (Nat.le_refl H2.length) (o := true) (cs := [.bool false, .slice none 0 0])
  have b3 := BxM.made (B := H2.length) (H := H2) (Nat.le_refl _) [.bool false, .slice none 0 0]
  generalize hH3 : H2 ++ [Blk.cells H2.length true [.bool false, .slice none 0 0]] = H3 at *
  have old4 := Old.app H3 [.cells H3.length true [.bool false, .slice none 0 0]]
  have wf4 := wf3.app (Nat.le_refl H3.length) (o := true) (cs := [.bool false, .slice none 0 0])
  have b4 := BxM.made (B := H3.length) (H := H3) (Nat.le_refl _) [.bool false, .slice none 0 0]
  generalize hH4 : H3 ++ [Blk.cells H3.length true [.bool false, .slice none 0 0]] = H4 at *
  have o1 := old1.1
  have o2 := old2.1
  have o3 := old3.1
  have o4 := old4.1
  have g1 : H1.length = H.length + 1 := by rw [← hH1]; simp
  have g2 : H2.length = H1.length + 1 := by rw [← hH2]; simp
  have g3 : H3.length = H2.length + 1 := by rw [← hH3]; simp
  have g4 : H4.length = H3.length + 1 := by rw [← hH4]; simp
  have old34 := old3.trans (old4.mono o3)
  have old24 := old2.trans (old34.mono o2)
  have old04 := old1.trans (old24.mono o1)
  have b1 := b1.mono old24
  have b2 := b2.mono old34
  have b3 := b3.mono old4
  have hx4 := hx.mono old04
  have hy4 := hy.mono old04
  have head : ∀ {a : Fr}, a 2 = ptrA H.length 0 → a 3 = ptrA H1.length 0 → a 4 = ptrA H2.length 0 → a 5 = ptrA H3.length 0 → ∃ a' G dq dr, evT Try.prog (evB Try.prog noC n) n Try.f146.ntmps none D1 (atC [1, 0] ((Try.f146.body).getD .skip)) a H4 = some (.normal, a', G) ∧
      a' 2 = ptrA H.length 0 ∧ a' 3 = ptrA H1.length 0 ∧ a' 4 = ptrA H2.length 0 ∧ a' 5 = ptrA H3.length 0 ∧ Old H2.length H4 G ∧ WF G ∧ BxM H2.length H3.length G (ptrA H2.length 0) [.bool false, dq] ∧ BxM H3.length H4.length G (ptrA H3.length 0) [.bool false, dr] ∧
      (∀ G', Old H2.length G G' → Kept H4.length G G' → RO H.length G' dq (ints (nf (x / y)))) ∧ (∀ G', Old H2.length G G' → Kept H4.length G G' → R G' dr (ints (nf (x % y))) ∧ (RO H.length G' dr (ints (nf (x % y))) ∨ dr = va ∧ x % y = x)) := by
    intro a h2 h3 h4 h5
    have f21 := b1.faddr 1
    have f31 := b2.faddr 1
    have f41 := b3.faddr 1
    have f51 := b4.faddr 1
    have l21 : loadS (bx (ptrA H.length 0) 1) H4 = some va := b1.load 1
    have l31 : loadS (bx (ptrA H1.length 0) 1) H4 = some vb := b2.load 1
    have s0 := sizes_run hx4 hy4 x0 (by omega) (by omega) (by omega) n (by omega)
    by_cases hlt : x < y
    · have hc : cmpZ x y = -1 := if_pos hlt
      have hd : decide ((-1 : Int) < 0) = true := rfl
      obtain ⟨G, s1, b41, old5, wf5, k5⟩ := b4.set wf4 (i := 1) (by simp) hx.scal
      have s1 : storeS (bx (ptrA H3.length 0) 1) va H4 = some G := s1
      have b41 : BxM H3.length H4.length G (ptrA H3.length 0) [.bool false, va] := b41
      simp (disch := omega) only [Try.f146, Option.getD_some, atC, es_seq, es_region, es_cond, es_block, ops_nil, ops_cons, st_assign, st_fun, sy_bin, binS_lss, bindO_some, bindF_some, bindX_normal, blkX_normal, condX_true, ev_tmp, ev_const, ev_func, putA, upd_at, Option.map_some, ↓reduceIte, Nat.reduceEqDiff, List.map_cons, List.map_nil, ↓bindO_some, ↓bindF_some, ↓bindX_normal, ↓condX_true, sy_load aL, sy_store zL, sy_faddr fW1, h2, h3, h5, f21, f31, f51, l21, l31, s0, hc, hd, s1]
      refine ⟨_, _, .slice none 0 0, va, rfl, h2, h3, h4, h5, old5.mono (by omega), wf5, b3.mono (old5.mono (by omega)), b41, ?_, ?_⟩
      · intro G' _ _
        rw [Int.ediv_eq_zero_of_lt x0 hlt, nf_zero]
        exact .inl ⟨rfl, rfl⟩
      · intro G' ho _
        have e := Int.emod_eq_of_lt x0 hlt
        exact ⟨by rw [e]; exact hx.mono (old04.trans ((old5.mono (by omega)).trans (ho.mono (by omega)))), .inr ⟨rfl, e⟩⟩
    · have hc : decide (cmpZ x y < 0) = false := by
        unfold cmpZ
        rw [if_neg hlt]
        split <;> rfl
      have hlen := hy4.lenI
      by_cases h1 : (nf y).length = 1
      · have c1 : ((nf y).length : Int) = 1 := by omega
        have hy1 : (nf y).getD 0 0 = y := by
          have := nf_val y
          match hn : nf y, h1 with
          | [z], _ => rw [hn] at this; simpa [val] using this
        have y1 : y < 100000000 := by rw [← hy1]; exact ((nf_dg (by omega : 0 ≤ y)).getD 0).2
        have ad : addrS 1 vb (vi 0) = some (pt vb 0) := hy4.addrI (i := 0) (by omega) (by omega)
        have ld : ∀ G, Old H4.length H4 G ∨ Old H.length H4 G → loadS (pt vb 0) G = some (vi y) := fun G h => by
          have : R G vb (ints (nf y)) := by
            rcases h with h | h
            · exact hy4.mono h
            · exact hy.mono (old04.trans h)
          rw [this.loadI (by omega), hy1]
        obtain ⟨d, H5, s1, r5, old5, wf5⟩ := short_run wf4 hx4 x0 y0 y1 (by omega) n (by omega)
        have b35 := b3.mono (old5.mono (by omega))
        obtain ⟨H6, s2, b36, old6, wf6, k6⟩ := b35.set wf5 (i := 1) (by simp) r5.R.scal
        have s2 : storeS (bx (ptrA H2.length 0) 1) d H5 = some H6 := s2
        have b36 : BxM H2.length H3.length H6 (ptrA H2.length 0) [.bool false, d] := b36
        have r6 := r5.kept (Kept.mono k6 (by omega))
        have old46 := (old5.mono (by omega : H2.length ≤ H4.length)).trans old6
        have kr := fun (A : Fr) => ov_r6 (H := H4) (H5 := H5) (H6 := H6) (pa := ptrA H.length 0) (pb := ptrA H1.length 0) (p4 := ptrA H2.length 0) (p5 := ptrA H3.length 0) (va := va) (vb := vb) (d := d) (y := y) (z := x % y) (evB Try.prog noC n) n Try.f146.ntmps none (a := A) (q1 := bx (ptrA H.length 0) 1) (q2 := bx (ptrA H1.length 0) 1) (q3 := bx (ptrA H2.length 0) 1) (q4 := pt vb 0)
        simp only [Try.f146, Option.getD_some, atC] at kr
        obtain ⟨w, H7, s7, ⟨dr, rfl, r7⟩, old7, wf7⟩ := small_run (z := x % y) wf6 (by have := Int.emod_nonneg x (by omega : y ≠ 0); omega) (by have := Int.emod_lt_of_pos x y0; omega) n (by omega)
        have hz : decide (x % y < 0) = false := by have := Int.emod_nonneg x (by omega : y ≠ 0); simp; omega
        rw [hz] at s7
        rw [natAbs_pos (Int.emod_nonneg x (by omega : y ≠ 0))] at r7
        have g6 : H4.length ≤ H6.length := Nat.le_trans old5.1 old6.1
        have b47 := ((b4.mono old5).kept k6 (Nat.le_refl _)).mono (old7.mono g6)
        obtain ⟨H8, s8, b48, old8, wf8, k8⟩ := b47.store wf7 (vs := [.bool false, dr]) rfl
        have s8 : storeN 2 (ptrA H3.length 0) (.agg #[.bool false, dr]) H7 = some H8 := s8
        simp (disch := omega) only [Try.f146, Option.getD_some, atC, es_seq, es_region, es_cond, es_block, ops_nil, ops_cons, st_move, st_assign, st_fun, sy_len uL, sy_bin, binS_lss, binS_eql, bindO_some, bindF_some, bindX_normal, condX_true, condX_false, ev_tmp, ev_const, ev_func, putA, upd_at, Option.map_some, ↓reduceIte, Nat.reduceEqDiff, List.map_cons, List.map_nil, decide_true, ↓bindO_some, ↓bindF_some, ↓bindX_normal, ↓condX_true, ↓condX_false, sy_load aL, sy_faddr fW1, sy_storeN zW, h2, h3, f21, f31, l21, l31, s0, hc, hlen, c1]
        generalize hA : upd _ 6 _ = A
        obtain ⟨a', H', e, hH, g2', g3', g4', g5', g6'⟩ := kr A (by subst hA; exact h2) (by subst hA; exact h3) (by subst hA; exact h4) (by subst hA; exact h5) f21 f31 f41 ad (fun G h => by
          rcases h with rfl | rfl | rfl
          · exact l21
          · exact (b1.mono (old5.mono (by omega))).load 1
          · exact (b1.mono (old46.mono (by omega))).load 1) (fun G h => by
          rcases h with rfl | rfl | rfl
          · exact l31
          · exact (b2.mono (old5.mono (by omega))).load 1
          · exact (b2.mono (old46.mono (by omega))).load 1) (fun G h => by
          rcases h with rfl | rfl | rfl
          · exact ld _ (.inl (Old.refl _ _))
          · exact ld _ (.inl old5)
          · exact ld _ (.inr (old46.mono (by omega)))) hx.refl hy.refl s1 s2
        rw [e]
        subst hH
        simp (disch := omega) only [bindO_some, bindF_some, bindX_normal, blkX_normal, Option.map_some, ↓bindO_some, ↓bindF_some, ↓bindX_normal, g5', g6', s7, s8]
        refine ⟨_, _, d, dr, rfl, by simp only [upd_at, ↓reduceIte, Nat.reduceEqDiff, g2'], by simp only [upd_at, ↓reduceIte, Nat.reduceEqDiff, g3'], by simp only [upd_at, ↓reduceIte, Nat.reduceEqDiff, g4'], by simp only [upd_at, ↓reduceIte, Nat.reduceEqDiff, g5'], (old46.trans (old7.mono (by omega))).trans (old8.mono (by omega)), wf8, (b36.mono (old7.mono (by omega))).mono (old8.mono (by omega)), b48, ?_, ?_⟩
        · intro G' _ hk
          exact (((r6.mono old7).kept k8).kept hk).below (by omega)
        · intro G' _ hk
          have := ((r7.below g6).kept k8).kept hk
          exact ⟨this.R, .inl (this.below (by omega))⟩
      · have c1 : ¬ ((nf y).length : Int) = 1 := by omega
        have hl2 : 2 ≤ (nf y).length := by
          have := (nf_last (z := y) (by omega)).1
          omega
        obtain ⟨v1, v2, H5, s1, r1, r2, old5, wf5⟩ := hL (by omega) hl2 H4 va vb wf4 hx4 hy4 n (by omega)
        have b35 := b3.mono (old5.mono (by omega))
        obtain ⟨H6, s2, b36, old6, wf6, k6⟩ := b35.set wf5 (i := 1) (by simp) r1.R.scal
        have s2 : storeS (bx (ptrA H2.length 0) 1) v1 H5 = some H6 := s2
        have b36 : BxM H2.length H3.length H6 (ptrA H2.length 0) [.bool false, v1] := b36
        have b46 := (b4.mono old5).kept k6 (Nat.le_refl _)
        obtain ⟨H7, s3, b47, old7, wf7, k7⟩ := b46.set wf6 (i := 1) (by simp) r2.R.scal
        have s3 : storeS (bx (ptrA H3.length 0) 1) v2 H6 = some H7 := s3
        have b47 : BxM H3.length H4.length H7 (ptrA H3.length 0) [.bool false, v2] := b47
        simp (disch := omega) only [Try.f146, Option.getD_some, atC, es_seq, es_region, es_cond, es_block, ops_nil, ops_cons, st_move, st_assign, st_fun, sy_len uL, sy_bin, sy_ext, ext_20, ext_21, binS_lss, binS_eql, bindO_some, bindF_some, bindX_normal, blkX_normal, condX_false, ev_tmp, ev_const, ev_func, putA, upd_at, Option.map_some, ↓reduceIte, Nat.reduceEqDiff, List.map_cons, List.map_nil, decide_false, ↓bindO_some, ↓bindF_some, ↓bindX_normal, ↓condX_false, sy_load aL, sy_store zL, sy_faddr fW1, h2, h3, h4, h5, f21, f31, f41, f51, l21, l31, s0, hc, hlen, c1, s1, s2, s3]
        refine ⟨_, _, v1, v2, rfl, h2, h3, h4, h5, ((old5.mono (by omega)).trans old6).trans (old7.mono (by omega)), wf7, b36.mono (old7.mono (by omega)), b47, ?_, ?_⟩
        · intro G' _ hk
          exact (((r1.kept (Kept.mono k6 (by omega))).kept k7).kept hk).below (by omega)
        · intro G' _ hk
          have := ((r2.kept (Kept.mono k6 (by omega))).kept k7).kept hk
          exact ⟨this.R, .inl (this.below (by omega))⟩
  have first : ∃ A, evT Try.prog (evB Try.prog noC n) n Try.f146.ntmps none D1 (atC [0] ((Try.f146.body).getD .skip)) (frOf [.agg #[.bool false, va], .agg #[.bool false, vb]]) H = some (.normal, A, H4) ∧
      A 2 = ptrA H.length 0 ∧ A 3 = ptrA H1.length 0 ∧ A 4 = ptrA H2.length 0 ∧ A 5 = ptrA H3.length 0 := by
    simp (disch := omega) only [Try.f146, Option.getD_some, atC, es_region, ops_nil, ops_cons, bindO_some, bindF_some, ev_tmp, putA, upd_at, Option.map_some, ↓reduceIte, Nat.reduceEqDiff, frOf_0, frOf_1, ↓bindO_some, ↓bindF_some, sy_alloc iW scal_agg, sy_box, scal_agg, hH1, hH2, hH3, hH4]
    exact ⟨_, rfl, rfl, rfl, rfl, rfl⟩
  obtain ⟨A, e0, i2, i3, i4, i5⟩ := first
  obtain ⟨a1, G, dq, dr, e1, h2, h3, h4, h5, oldG, wfG, bq, br, kq, kr⟩ := head i2 i3 i4 i5
  obtain ⟨a2, G2, e2, j4, j5, m4, m5, oldT, kT, wfT⟩ := ov_tail wfG (evB Try.prog noC n) n Try.f146.ntmps none h2 h3 h4 h5 (b1.mono (oldG.mono (by omega))) (b2.mono (oldG.mono (by omega))) bq br (by omega) (by omega) (by omega) (by omega) (by omega) (fun G h k => (kq G h k).R) (fun G h k => (kr G h k).1)
  rw [e0, bindX_normal, e1, bindX_normal, e2]
  simp only [Try.f146, fin_r, res_cell aW zW, j4, j5, m4, m5, res_nil, Option.map_some, pack_2]
  exact ⟨_, _, _, rfl, kq G2 oldT kT, (kr G2 oldT kT).1, (kr G2 oldT kT).2, old04.trans ((oldG.mono (by omega)).trans (oldT.mono (by omega))), wfT⟩
end Go.Proofs.Ytmmgdgmjkhcfaaa
namespace Go.Proofs.Ytmmgdgmjkhcfaaa
open Go Go.Abs Go.Num
set_option maxRecDepth 10000
attribute [local congr] bindO_congr bindF_congr bindX_congr condX_congr iteB_congr binS_congr pickS_congr eqB_congr nilS_congr clsW_congr
def Held (B C : Nat) (H : Heap) (v : Value) (l : List Value) : Prop := ∀ G, Old B H G → Kept C H G → R G v l
theorem Held.R {B C : Nat} {H : Heap} {v : Value} {l : List Value} (h : Held B C H v l) : R H v l := h H (Old.refl _ _) (Kept.refl _ _)
theorem Held.go {B C : Nat} {H G : Heap} {v : Value} {l : List Value} (h : Held B C H v l) (ho : Old B H G) (hk : Kept C H G) : Held B C G v l := fun G' h1 h2 => h G' (ho.trans h1) (Kept.trans hk h2)
theorem Old.kept {C : Nat} {H H' : Heap} (h : Old H.length H H') : Kept C H H' := fun b f o cs _ _ hb => by rw [h.2 b (lt_of_blk hb)]; exact hb
theorem wh_of {H : Heap} {v : Value} {z : Int} (z0 : 0 ≤ z) (h : R H v (ints (nf z))) : Wh 0 H (.agg #[.bool false, v]) z := ⟨v, by rw [show decide (z < 0) = false from by simp; omega], by rw [natAbs_pos z0]; exact h.RO⟩
def LongAll (F : Nat) : Prop := ∀ x y : Int, 0 ≤ x → 0 < y → y ≤ x → (nf x).length ≤ 390 → 2 ≤ (nf y).length → LongOK F x y
theorem read_pos {H : Heap} {v : Value} {z : Int} (hw : WF H) (hv : NumV H v z) (z0 : 0 ≤ z) (n : Nat) (hn : 2001 ≤ n) :
    ∃ d H', evB Try.prog noC n (.func (.func 83) #[] #[]) [v] H = some (.agg #[.bool false, d], H') ∧ R H' d (ints (nf z)) ∧ Old H.length H H' ∧ WF H' := by
  obtain ⟨w, H', e, ⟨d, rfl, hd⟩, ho, hw'⟩ := read_run hw hv n hn
  rw [show decide (z < 0) = false from by simp; omega] at e
  rw [natAbs_pos z0] at hd
  exact ⟨d, H', e, hd.R, ho, hw'⟩
end Go.Proofs.Ytmmgdgmjkhcfaaa
namespace Go.Proofs.Ytmmgdgmjkhcfaaa
open Go Go.Abs Go.Num
set_option maxRecDepth 10000
attribute [local congr] bindO_congr bindF_congr bindX_congr condX_congr iteB_congr binS_congr pickS_congr eqB_congr nilS_congr clsW_congr
theorem dm_r4 {H H1 H2 H5 H6 : Heap} {vx pb dx wb w1 w2 : Value} (call : CallF) (k nt : Nat) (rd : Option Nat) {a : Fr} (h0 : a 0 = vx) (h7 : a 7 = pb)
    (s1 : call (.func (.func 83) #[] #[]) [vx] H = some (dx, H1)) (lb : ∀ G, G = H ∨ G = H1 ∨ G = H2 ∨ G = H5 ∨ G = H6 → loadN 2 pb G = some wb) (rb : vEq wb wb = true)
    (s2 : call (.func (.func 146) #[] #[]) [dx, wb] H1 = some (.tuple #[w1, w2], H2))
    (s5 : storeN 2 (ptrA H2.length 0) w1 ((H2 ++ [Blk.cells H2.length true [.bool false, .slice none 0 0]]) ++ [Blk.cells (H2 ++ [Blk.cells H2.length true [.bool false, .slice none 0 0]]).length true [.bool false, .slice none 0 0]]) = some H5)
    (s6 : storeN 2 (ptrA (H2 ++ [Blk.cells H2.length true [.bool false, .slice none 0 0]]).length 0) w2 H5 = some H6) :
    ∃ a' H', evT Try.prog call k nt rd D1 (atC [1, 1, 1, 0] ((Try.f125.body).getD .skip)) a H = some (.normal, a', H') ∧ H' = H6 ∧ a' 8 = ptrA H2.length 0 ∧ a' 9 = ptrA (H2 ++ [Blk.cells H2.length true [.bool false, .slice none 0 0]]).length 0 := by
  simp only [Try.f125, Option.getD_some, atC]
  refine et_from (fun a' H' => H' = H6 ∧ a' 8 = ptrA H2.length 0 ∧ a' 9 = ptrA (H2 ++ [Blk.cells H2.length true [.bool false, .slice none 0 0]]).length 0) ?_
  have e0 := lb H1 (.inr (.inl rfl))
  simp (disch := omega) only [st_move, st_fun, sy_ext, ext_20, ext_21, bindO_some, ev_tmp, ev_func, putA, upd_at, Option.map_some, ↓reduceIte, Nat.reduceEqDiff, List.map_cons, List.map_nil, ↓bindO_some, sy_loadN aW zW, sy_storeN zW, sy_alloc iW scal_agg, opsW_nil, opsW_cons, clsW_eff, clsW_all, clsW_read, clsW_pure, ↓clsW_eff, ↓clsW_all, ↓clsW_read, ↓clsW_pure, cls_move, cls_load, cls_callF, cls_store, cls_extract, cls_alloc, h0, h7, s1, e0, s2, s5, s6]
  refine ⟨_, rfl, ?_, rfl, ?_, ?_⟩
  · intro G hG r hr
    simp only [List.mem_cons, List.not_mem_nil, or_false] at hG hr
    have hG' : G = H ∨ G = H1 ∨ G = H2 ∨ G = H5 ∨ G = H6 := by
      rcases hG with h | h | h | h | h
      · exact .inr (.inr (.inr (.inr h)))
      · exact .inr (.inr (.inr (.inl h)))
      · exact .inr (.inr (.inl h))
      · exact .inr (.inl h)
      · exact .inl h
    have e1 := lb G hG'
    subst hr
    simp only [still_ldN aW zW, ev_tmp, upd_at, ↓reduceIte, Nat.reduceEqDiff, h7, e1, rb]
  · simp only [upd_at, ↓reduceIte, Nat.reduceEqDiff]
  · simp only [upd_at, ↓reduceIte]
theorem dm_r5 {H H1 H2 : Heap} {p8 p9 v1 v2 w1 w2 : Value} (call : CallF) (k nt : Nat) (rd : Option Nat) {a : Fr} (h8 : a 8 = p8) (h9 : a 9 = p9)
    (l8 : ∀ G, G = H ∨ G = H1 ∨ G = H2 → loadN 2 p8 G = some w1) (l9 : ∀ G, G = H ∨ G = H1 ∨ G = H2 → loadN 2 p9 G = some w2) (r1 : vEq w1 w1 = true) (r2 : vEq w2 w2 = true)
    (s1 : call (.func (.func 86) #[] #[]) [w1] H = some (v1, H1)) (s2 : call (.func (.func 86) #[] #[]) [w2] H1 = some (v2, H2)) :
    ∃ a' H', evT Try.prog call k nt rd D1 (atC [1, 1, 1, 1, 0] ((Try.f125.body).getD .skip)) a H = some (.normal, a', H') ∧ H' = H2 ∧ a' 4 = v1 ∧ a' 5 = v2 ∧ a' 6 = vi 0 := by
  simp only [Try.f125, Option.getD_some, atC]
  refine et_from (fun a' H' => H' = H2 ∧ a' 4 = v1 ∧ a' 5 = v2 ∧ a' 6 = vi 0) ?_
  have e0 := l8 H (.inl rfl)
  have e1 := l9 H1 (.inr (.inl rfl))
  simp (disch := omega) only [st_assign, st_fun, bindO_some, ev_tmp, ev_const, ev_func, putA, upd_at, Option.map_some, ↓reduceIte, Nat.reduceEqDiff, List.map_cons, List.map_nil, ↓bindO_some, sy_loadN aW zW, opsW_nil, opsW_cons, clsW_eff, clsW_read, clsW_pure, ↓clsW_eff, ↓clsW_read, ↓clsW_pure, cls_assign, cls_load, cls_callF, h8, h9, e0, e1, s1, s2]
  refine ⟨_, rfl, ?_, rfl, ?_, ?_, ?_⟩
  · intro G hG r hr
    simp only [List.mem_cons, List.not_mem_nil, or_false] at hG hr
    have hG' : G = H ∨ G = H1 ∨ G = H2 := by
      rcases hG with h | h | h
      · exact .inr (.inr h)
      · exact .inr (.inl h)
      · exact .inl h
    have e0 := l8 G hG'
    have e1 := l9 G hG'
    rcases hr with rfl | rfl
    all_goals simp only [still_ldN aW zW, ev_tmp, upd_at, ↓reduceIte, Nat.reduceEqDiff, h8, h9, e0, e1, r1, r2]
  · simp only [upd_at, ↓reduceIte, Nat.reduceEqDiff]
  · simp only [upd_at, ↓reduceIte, Nat.reduceEqDiff]
  · simp only [upd_at, ↓reduceIte]
theorem divmodP_run {FL : Nat} (hLA : LongAll FL) {H : Heap} {vx vy : Value} {x y : Int} (hw : WF H) (hx : NumV H vx x) (hy : NumV H vy y) (x0 : 0 ≤ x) (y0 : 0 < y) (lx : (nf x).length ≤ 390) (ly : (nf y).length ≤ 390) (n : Nat) (hn : FL + 2014 ≤ n) :
    TwoL H (evB Try.prog noC n (.func (.func 125) #[] #[]) [vx, vy] H) (fun a b => .tuple #[a, b, vi 0]) (nf (x / y)) (nf (x % y)) := by
  refine run_of (F := FL + 2013) (Q := fun r => TwoL H r (fun a b => .tuple #[a, b, vi 0]) (nf (x / y)) (nf (x % y))) (fun n hn => ?_) n (by omega)
  rw [body_runS Try.func125 rfl (ok_fn (by rfl) Try.func125 rfl) (Nat.le_of_ble_eq_true rfl) (D := D1) (by kernel_rfl)]
  obtain ⟨db, H1, s1, r1, old1, wf1⟩ := read_pos hw hy (by omega) n (by omega)
  have old2 := Old.app H1 [.cells H1.length true [.bool false, .slice none 0 0]]
  have wf2 := wf1.app (Nat.le_refl H1.length) (o := true) (cs := [.bool false, .slice none 0 0])
  have b2 := BxM.made (B := H1.length) (H := H1) (Nat.le_refl _) [.bool false, .slice none 0 0]
  generalize hH2 : H1 ++ [Blk.cells H1.length true [.bool false, .slice none 0 0]] = H2 at *
  have g2 : H2.length = H1.length + 1 := by rw [← hH2]; simp
  have g1 := old1.1
  obtain ⟨H3, s3, b3, old3, wf3, k3⟩ := b2.store wf2 (vs := [.bool false, db]) rfl
  have s3 : storeN 2 (ptrA H1.length 0) (.agg #[.bool false, db]) H2 = some H3 := s3
  have l3 : loadN 2 (ptrA H1.length 0) H3 = some (.agg #[.bool false, db]) := b3.loadAll
  have g3 := old3.1
  have old13 : Old H1.length H1 H3 := old2.trans old3
  have r3 := r1.mono old13
  obtain ⟨H4, s4, old4, wf4⟩ := sign_run wf3 (wh_of (by omega) r3) (by rw [natAbs_pos (by omega)]; omega) n (by omega)
  have hc : cmpZ y 0 = 1 := by unfold cmpZ; rw [if_neg (by omega), if_pos (by omega)]
  have c1 : decide ((1 : Int) = 0) = false := rfl
  have g4 := old4.1
  have old14 : Old H1.length H1 H4 := old13.trans (old4.mono (by omega))
  have old04 : Old H.length H H4 := old1.trans (old14.mono (by omega))
  obtain ⟨da, H5, s5, r5, old5, wf5⟩ := read_pos wf4 (hx.mono old04) x0 n (by omega)
  have g5 := old5.1
  obtain ⟨v1, v2, H6, s6, q1, q2, _, old6, wf6⟩ := over_run wf5 r5 (r1.mono (old14.trans (old5.mono (by omega)))) x0 y0 lx ly (fun h h' => hLA x y x0 y0 h lx h') n (by omega)
  have g6 := old6.1
  have old7 := Old.app H6 [.cells H6.length true [.bool false, .slice none 0 0]]
  have wf7 := wf6.app (Nat.le_refl H6.length) (o := true) (cs := [.bool false, .slice none 0 0])
  have b7 := BxM.made (B := H6.length) (H := H6) (Nat.le_refl _) [.bool false, .slice none 0 0]
  have kr4 := fun (A : Fr) {G5 G6 : Heap} => dm_r4 (H := H4) (H1 := H5) (H2 := H6) (H5 := G5) (H6 := G6) (vx := vx) (pb := ptrA H1.length 0) (dx := .agg #[.bool false, da]) (wb := .agg #[.bool false, db]) (w1 := .agg #[.bool false, v1]) (w2 := .agg #[.bool false, v2]) (evB Try.prog noC n) n Try.f125.ntmps none (a := A)
  generalize hH7 : H6 ++ [Blk.cells H6.length true [.bool false, .slice none 0 0]] = H7 at *
  have old8 := Old.app H7 [.cells H7.length true [.bool false, .slice none 0 0]]
  have wf8 := wf7.app (Nat.le_refl H7.length) (o := true) (cs := [.bool false, .slice none 0 0])
  have b8 := BxM.made (B := H7.length) (H := H7) (Nat.le_refl _) [.bool false, .slice none 0 0]
  generalize hH8 : H7 ++ [Blk.cells H7.length true [.bool false, .slice none 0 0]] = H8 at *
  have g7 : H7.length = H6.length + 1 := by rw [← hH7]; simp
  have g8 : H8.length = H7.length + 1 := by rw [← hH8]; simp
  obtain ⟨H9, s9, b9, old9, wf9, k9⟩ := (b7.mono old8).store wf8 (vs := [.bool false, v1]) rfl
  have s9 : storeN 2 (ptrA H6.length 0) (.agg #[.bool false, v1]) H8 = some H9 := s9
  obtain ⟨Ha, sa, ba, olda, wfa, ka⟩ := (b8.kept k9 (by omega)).store wf9 (vs := [.bool false, v2]) rfl
  have sa : storeN 2 (ptrA H7.length 0) (.agg #[.bool false, v2]) H9 = some Ha := sa
  have g9 := old9.1
  have ga := olda.1
  have old6a : Old H6.length H6 Ha := ((old7.trans (old8.mono (by omega))).trans old9).trans (olda.mono (by omega))
  have b34 := b3.mono (old4.mono (by omega : H2.length ≤ H3.length))
  have b35 := b34.mono (old5.mono (by omega : H2.length ≤ H4.length))
  have b36 := b35.mono (old6.mono (by omega : H2.length ≤ H5.length))
  have b39 := b36.mono (((old7.trans (old8.mono (by omega))).trans old9).mono (by omega : H2.length ≤ H6.length))
  have b3a := b39.mono (olda.mono (by omega : H2.length ≤ H7.length))
  have b9a := b9.mono (olda.mono (by omega : H7.length ≤ H7.length))
  have q1a := q1.R.mono old6a
  have q2a := q2.mono old6a
  have hq0 : 0 ≤ x / y := Int.ediv_nonneg x0 (by omega)
  have hr0 : 0 ≤ x % y := Int.emod_nonneg x (by omega)
  have lq : (nf (x / y)).length ≤ 390 := Nat.le_trans (nf_len_mono hq0 (Int.ediv_le_self y x0)) lx
  have lr : (nf (x % y)).length ≤ 390 := Nat.le_trans (nf_len_mono hr0 (Int.le_of_lt (Int.emod_lt_of_pos x y0))) ly
  obtain ⟨u1, Hb, sb, ob, oldb, wfb⟩ := list_run wfa (wh_of hq0 q1a) (by rw [abs_len]; omega) n (by omega)
  obtain ⟨u2, Hc, sc, oc, oldc, wfc⟩ := list_run wfb (wh_of hr0 (q2a.mono oldb)) (by rw [abs_len]; omega) n (by omega)
  have gb := oldb.1
  have gc := oldc.1
  have kr5 := fun (A : Fr) => dm_r5 (H := Ha) (H1 := Hb) (H2 := Hc) (p8 := ptrA H6.length 0) (p9 := ptrA H7.length 0) (v1 := u1) (v2 := u2) (w1 := .agg #[.bool false, v1]) (w2 := .agg #[.bool false, v2]) (evB Try.prog noC n) n Try.f125.ntmps none (a := A)
  simp only [Try.f125, Option.getD_some, atC] at kr4 kr5
  simp (disch := omega) only [Try.f125, es_seq, es_region, es_cond, es_skip, es_ret, ops_nil, ops_cons, st_move, st_assign, st_fun, sy_bin, binS_eql, bindO_some, bindF_some, bindX_normal, condX_false, ev_tmp, ev_const, ev_func, putA, upd_at, Option.map_some, ↓reduceIte, Nat.reduceEqDiff, frOf_1, List.map_cons, List.map_nil, ↓bindO_some, ↓bindF_some, ↓bindX_normal, ↓condX_false, sy_loadN aW zW, sy_storeN zW, sy_alloc iW scal_agg, s1, hH2, s3, l3, s4, hc, c1]
  generalize hA : upd _ 14 _ = A
  obtain ⟨a', _, e, hH', i8, i9⟩ := kr4 A (by subst hA; rfl) (by subst hA; rfl) s5 (fun G h => by
    rcases h with rfl | rfl | rfl | rfl | rfl
    · exact b34.loadAll
    · exact b35.loadAll
    · exact b36.loadAll
    · exact b39.loadAll
    · exact b3a.loadAll) (vEq_whole r1) s6 s9 sa
  rw [hH'] at e
  rw [e]
  simp (disch := omega) only [bindX_normal, ↓bindX_normal]
  obtain ⟨a'', _, e, hH', i4, i5, i6⟩ := kr5 a' i8 i9 (fun G h => by
    rcases h with rfl | rfl | rfl
    · exact b9a.loadAll
    · exact (b9a.mono (oldb.mono (by omega))).loadAll
    · exact ((b9a.mono (oldb.mono (by omega))).mono (oldc.mono (by omega))).loadAll) (fun G h => by
    rcases h with rfl | rfl | rfl
    · exact ba.loadAll
    · exact (ba.mono (oldb.mono (by omega))).loadAll
    · exact ((ba.mono (oldb.mono (by omega))).mono (oldc.mono (by omega))).loadAll) (vEq_whole q1a) (vEq_whole q2a) sb sc
  rw [hH'] at e
  rw [e]
  simp (disch := omega) only [bindX_normal, Option.map_some, ↓bindX_normal, fin_r, res_nil, res_tmp, pack_3, scal_vi, i4, i5, i6, ob.R.scal, oc.R.scal]
  have old0a : Old H.length H Ha := (old04.trans ((old5.mono (by omega)).trans (old6.mono (by omega)))).trans (old6a.mono (by omega))
  exact ⟨_, _, _, rfl, (ob.mono oldc).below (by omega), oc.below (by omega), (old0a.trans (oldb.mono (by omega))).trans (oldc.mono (by omega)), wfc⟩
theorem overC_run {FL : Nat} (hLA : LongAll FL) {H : Heap} {vx vy : Value} {x y : Int} (hw : WF H) (hx : NumV H vx x) (hy : NumV H vy y) (x0 : 0 ≤ x) (y0 : 0 < y) (lx : (nf x).length ≤ 390) (ly : (nf y).length ≤ 390) (n : Nat) (hn : FL + 2015 ≤ n) :
    OneL H (evB Try.prog noC n (.func (.func 102) #[] #[]) [vx, vy] H) (nf (x / y)) := by
  refine run_of (F := FL + 2014) (Q := fun r => OneL H r (nf (x / y))) (fun n hn => ?_) n (by omega)
  rw [body_runS Try.func102 rfl (ok_fn (by rfl) Try.func102 rfl) (Nat.le_of_ble_eq_true rfl) (D := D0) (by kernel_rfl)]
  obtain ⟨v1, v2, H1, s1, o1, o2, old1, wf1⟩ := divmodP_run hLA hw hx hy x0 y0 lx ly n (by omega)
  simp (disch := omega) only [Try.f102, es_seq, es_region, es_ret, ops_nil, ops_cons, st_move, st_assign, st_fun, sy_ext, bindO_some, bindF_some, bindX_normal, ev_tmp, ev_const, ev_func, putA, upd_at, Option.map_some, ↓reduceIte, Nat.reduceEqDiff, frOf_0, frOf_1, List.map_cons, List.map_nil, ↓bindO_some, ↓bindF_some, ↓bindX_normal, fin_r, res_nil, res_tmp, pack_1, s1, ext_30, ext_31, ext_32, o1.R.scal]
  exact ⟨_, _, rfl, o1, old1, wf1⟩
end Go.Proofs.Ytmmgdgmjkhcfaaa
namespace Go.Proofs.Ytmmgdgmjkhcfaaa
open Go Go.Abs Go.Num
set_option maxRecDepth 10000
attribute [local congr] bindO_congr bindF_congr bindX_congr condX_congr iteB_congr binS_congr pickS_congr eqB_congr nilS_congr clsW_congr maxS_congr minS_congr
theorem trimmedO_run {C : Nat} {H : Heap} {v : Value} {l : List Int} (hv : OP C H v (ints l)) (hl : l.length ≤ 1000) (n : Nat) (hn : 2000 ≤ n) : ∃ v', evB Try.prog noC n (.func (.func 114) #[] #[]) [v] H = some (v', H) ∧ OP C H v' (ints (trimL l)) := by
  refine run_of (F := 1999) (Q := fun x => ∃ v', x = some (v', H) ∧ OP C H v' (ints (trimL l))) (fun n hn => ?_) n hn
  rw [body_runS Try.func114 rfl (ok_fn (by rfl) Try.func114 rfl) (Nat.le_of_ble_eq_true rfl) (D := D0) (by kernel_rfl)]
  have key : ∀ A : Fr, A 0 = v → ∃ x a' H', loopN (evS Try.prog (evB Try.prog noC n) n Try.f114.ntmps none trmA) n A H = some (x, a', H') ∧ x = .exit 0 ∧ H' = H ∧ ∃ v', a' 0 = v' ∧ OP C H v' (ints (trimL l)) := by
    intro A h0
    refine loop_wf (fun n a H' => H' = H ∧ ∃ v', a 0 = v' ∧ OP C H v' (ints (l.take n)) ∧ n ≤ l.length ∧ trimL (l.take n) = trimL l) _ ?_ n l.length A H (by omega) ⟨rfl, v, h0, by rw [List.take_length]; exact hv, Nat.le_refl _, by rw [List.take_length]⟩
    intro c a H' ⟨hH, v', h0, hr, hc, ht⟩
    subst hH
    have hlc : (l.take c).length = c := by rw [List.length_take]; omega
    have hlen := hr.RO.R.lenI
    rw [hlc] at hlen
    rw [show trmA = atC [1, 0, 0, 0] ((Try.f114.body).getD .skip) from rfl]
    by_cases hz : c = 0
    · subst hz
      right
      have c1 : decide ((0 : Int) < ((0 : Nat) : Int)) = false := rfl
      simp (disch := omega) only [Try.f114, Option.getD_some, atC, es_seq, es_region, es_cond, es_exit, ops_nil, ops_cons, ops_consG, st_move, sy_pick, pickS_false, sy_len uL, sy_bin, binS_gtr, bindO_some, bindF_some, bindX_normal, bindX_exit, condX_false, iteB_false, ev_tmp, ev_const, putA, upd_at, Option.map_some, ↓reduceIte, Nat.reduceEqDiff, yieldO_eq, yO, yV_bool, some_true, List.getElem?_cons_zero, List.getElem?_cons_succ, ↓bindO_some, ↓bindF_some, ↓bindX_normal, ↓bindX_exit, ↓condX_false, ↓iteB_false, h0, hlen, c1]
      exact ⟨_, _, _, rfl, by simp, rfl, rfl, v', by simp only [upd_get, ↓reduceIte, Nat.reduceEqDiff, h0], by rw [← ht]; exact hr⟩
    · obtain ⟨d, rfl⟩ : ∃ d, c = d + 1 := ⟨c - 1, by omega⟩
      have c1 : (0 : Int) < ((d + 1 : Nat) : Int) := by omega
      have e1 : IntKind.i64.wrap (((d + 1 : Nat) : Int) - 1) = (d : Int) := by rw [wr64 (by omega) (by omega)]; omega
      have hx := take_snoc' (l := l) (c := d) (by omega)
      have a1 : addrS 1 v' (vi d) = some (pt v' d) := by have := hr.RO.R.addrI (i := (d : Int)) (by omega) (by omega); simpa using this
      have l1 : loadS (pt v' d) H' = some (vi (l.getD d 0)) := by
        have := hr.RO.R.loadI (i := d) (by omega)
        rw [this, hx, List.getD_eq_getElem?_getD, List.getElem?_append_right (by rw [List.length_take]; omega), List.length_take, Nat.min_eq_left (by omega), Nat.sub_self]
        rfl
      rw [hx, trimL_snoc] at ht
      by_cases hy : l.getD d 0 = 0
      · left
        rw [if_pos hy] at ht
        obtain ⟨v2, s2, r2⟩ := hr.upto (c := d) (by omega)
        rw [List.take_take, Nat.min_eq_left (by omega)] at r2
        simp (disch := omega) only [Try.f114, Option.getD_some, atC, es_seq, es_region, es_cond, es_block, es_skip, ops_nil, ops_cons, ops_consG, st_move, st_assign, sy_pick, pickS_true, sy_len uL, sy_addr eL, sy_load aI, sy_bin, sy_slice eL, binS_gtr, binS_eql, binS_sub, bindO_some, bindF_some, bindX_normal, blkX_normal, condX_true, iteB_true, ev_tmp, ev_const, putA, upd_at, Option.map_some, ↓reduceIte, Nat.reduceEqDiff, decide_true, yieldO_eq, yO, yV_bool, List.getElem?_cons_zero, List.getElem?_cons_succ, beq_self_eq_true, ↓bindO_some, ↓bindF_some, ↓bindX_normal, ↓condX_true, ↓iteB_true, h0, hlen, c1, e1, a1, l1, hy, Option.map_none, s2]
        exact ⟨_, _, rfl, d, by omega, rfl, v2, by simp only [upd_get, ↓reduceIte], r2, by omega, ht⟩
      · right
        rw [if_neg hy] at ht
        simp (disch := omega) only [Try.f114, Option.getD_some, atC, es_seq, es_region, es_cond, es_exit, ops_nil, ops_cons, ops_consG, st_move, sy_pick, pickS_true, sy_len uL, sy_addr eL, sy_load aI, sy_bin, binS_gtr, binS_eql, binS_sub, bindO_some, bindF_some, bindX_normal, bindX_exit, condX_false, iteB_true, ev_tmp, ev_const, putA, upd_at, Option.map_some, ↓reduceIte, Nat.reduceEqDiff, decide_true, decide_false, yieldO_eq, yO, yV_bool, List.getElem?_cons_zero, List.getElem?_cons_succ, beq_self_eq_true, ↓bindO_some, ↓bindF_some, ↓bindX_normal, ↓bindX_exit, ↓condX_false, ↓iteB_true, h0, hlen, c1, e1, a1, l1, hy]
        exact ⟨_, _, _, rfl, by simp, rfl, rfl, v', by simp only [upd_get, ↓reduceIte, Nat.reduceEqDiff, h0], by rw [← ht, ← hx]; exact hr⟩
  rw [show trmA = atC [1, 0, 0, 0] ((Try.f114.body).getD .skip) from rfl] at key
  simp only [Try.f114, Option.getD_some, atC] at key
  simp (disch := omega) only [Try.f114, es_seq, es_region, es_block, es_loop, es_ret, ops_nil, ops_cons, st_move, st_assign, bindO_some, bindF_some, bindX_normal, ev_tmp, ev_const, putA, upd_at, ↓reduceIte, ↓bindO_some, ↓bindF_some, ↓bindX_normal]
  generalize hA : upd _ 2 _ = A
  obtain ⟨x, a', H', e, hx, hH, v', h0, r⟩ := key A (by subst hA; rfl)
  subst hx
  subst hH
  rw [e]
  simp (disch := omega) only [bindX_normal, blkX_exit, upd_at, Option.map_some, ↓reduceIte, ↓bindX_normal, fin_r, res_nil, res_tmp, pack_1, h0, r.RO.R.scal]
  exact ⟨_, rfl, r⟩
def OneWO (H : Heap) (r : Option (Value × Heap)) (z : Int) : Prop := ∃ w H', r = some (w, H') ∧ (∃ v, w = .agg #[.bool (decide (z < 0)), v] ∧ OP H.length H' v (ints (nf z.natAbs))) ∧ Old H.length H H' ∧ WF H'
theorem timesO_run {C : Nat} {H : Heap} {wx wy : Value} {x y : Int} (hw : WF H) (hx : Wh C H wx x) (hy : Wh C H wy y) (lx : (nf x.natAbs).length ≤ 390) (ly : (nf y.natAbs).length ≤ 390) (n : Nat) (hn : 2010 ≤ n) :
    OneWO H (evB Try.prog noC n (.func (.func 88) #[] #[]) [wx, wy] H) (x * y) := by
  obtain ⟨vx, rfl, hx⟩ := hx
  obtain ⟨vy, rfl, hy⟩ := hy
  have hx := hx.R
  have hy := hy.R
  generalize hnx : decide (x < 0) = nx
  generalize hny : decide (y < 0) = ny
  refine run_of (F := 2009) (Q := fun r => OneWO H r (x * y)) (fun n hn => ?_) n hn
  rw [body_runS Try.func88 rfl (ok_fn (by rfl) Try.func88 rfl) (Nat.le_of_ble_eq_true rfl) (D := D1) (by kernel_rfl)]
  have old1 := Old.app H [.cells H.length true [.bool nx, vx]]
  have wf1 := hw.app (Nat.le_refl H.length) (o := true) (cs := [.bool nx, vx])
  have b1 := BxM.made (B := H.length) (H := H) (Nat.le_refl _) [.bool nx, vx]
  generalize hH1 : H ++ [Blk.cells H.length true [.bool nx, vx]] = H1 at *
  have old2 := Old.app H1 [.cells H1.length true [.bool ny, vy]]
  have wf2 := wf1.app (Nat.le_refl H1.length) (o := true) (cs := [.bool ny, vy])
  have b2 := BxM.made (B := H1.length) (H := H1) (Nat.le_refl _) [.bool ny, vy]
  generalize hH2 : H1 ++ [Blk.cells H1.length true [.bool ny, vy]] = H2 at *
  have old3 := Old.app H2 [.cells H2.length true [.bool false, .slice none 0 0]]
  have wf3 := wf2.app (Nat.le_refl H2.length) (o := true) (cs := [.bool false, .slice none 0 0])
  have b3 := BxM.made (B := H2.length) (H := H2) (Nat.le_refl _) [.bool false, .slice none 0 0]
  generalize hH3 : H2 ++ [Blk.cells H2.length true [.bool false, .slice none 0 0]] = H3 at *
  have old13 := old2.trans (old3.mono old2.1)
  have old03 := old1.trans (old13.mono old1.1)
  have b1 := b1.mono old13
  have b2 := b2.mono old3
  have f10 := b1.faddr 0
  have f11 := b1.faddr 1
  have f20 := b2.faddr 0
  have f21 := b2.faddr 1
  have l11 : loadS (bx (ptrA H.length 0) 1) H3 = some vx := b1.load 1
  have l21 : loadS (bx (ptrA H1.length 0) 1) H3 = some vy := b2.load 1
  have hx3 := hx.mono old03
  have hy3 := hy.mono old03
  have hlx := hx.lenI
  have hly := hy.lenI
  -- the end: the box of the result
  have fin : ∀ (H4 : Heap) (v : Value) (nb : Bool) (z : Int), Old H3.length H3 H4 → WF H4 → OP H3.length H4 v (ints (nf z.natAbs)) → decide (z < 0) = nb → ∃ H5, storeN 2 (ptrA H2.length 0) (.agg #[.bool nb, v]) H4 = some H5 ∧ loadN 2 (ptrA H2.length 0) H5 = some (.agg #[.bool nb, v]) ∧ OneWO H (some (.agg #[.bool nb, v], H5)) z ∧ Old H2.length H3 H5 := by
    intro H4 v nb z old4 wf4 r4 hz
    obtain ⟨H5, s5, b5, old5, wf5, keep5⟩ := (b3.mono old4).store wf4 (vs := [.bool nb, v]) rfl
    exact ⟨H5, s5, b5.loadAll, ⟨_, _, rfl, ⟨v, by rw [hz], (r4.kept keep5).below old03.1⟩, (old03.trans (old4.mono old03.1)).trans (old5.mono (Nat.le_trans old1.1 old2.1)), wf5⟩, (old4.mono old3.1).trans old5⟩
  by_cases hx0 : x = 0
  · have hz : x * y = 0 := by rw [hx0]; exact Int.zero_mul y
    have e0 : ((nf x.natAbs).length : Int) = 0 := by rw [hx0, show ((0 : Int).natAbs : Int) = 0 from rfl, nf_zero]; rfl
    have e1 : decide (((nf x.natAbs).length : Int) = 0) = true := by rw [e0]; rfl
    obtain ⟨H5, s5, s6, ow, _⟩ := fin H3 (.slice none 0 0) false (x * y) (Old.refl _ _) wf3 (by rw [hz, show ((0 : Int).natAbs : Int) = 0 from rfl, nf_zero]; exact .inl ⟨rfl, rfl⟩) (by rw [hz]; rfl)
    simp (disch := omega) only [Try.f88, es_seq, es_region, es_cond, es_ret, ops_nil, ops_cons, ops_consG, st_move, sy_pick, pickS_true, sy_len uL, sy_bin, binS_eql, bindO_some, bindF_some, bindX_normal, bindX_ret, condX_true, iteB_false, ev_tmp, ev_const, putA, upd_at, Option.map_some, ↓reduceIte, Nat.reduceEqDiff, frOf_0, frOf_1, List.map_nil, Bool.not_true, yieldO_eq, yO, yV_bool, some_false, List.getElem?_cons_zero, List.getElem?_cons_succ, ↓bindO_some, ↓bindF_some, ↓bindX_normal, ↓bindX_ret, ↓condX_true, ↓iteB_false, fin_r, res_nil, pack_1, sy_load aL, sy_faddr fW1, sy_storeN zW, sy_alloc iW scal_agg, sy_box, sy_build, bW0, res_cell aW zW, scal_agg, hH1, hH2, hH3, f11, l11, hlx, e1, s5, s6]
    exact ow
  · have ex : decide (((nf x.natAbs).length : Int) = 0) = false := decide_eq_false (by have := (nf_last (z := (x.natAbs : Int)) (by omega)).1; omega)
    by_cases hy0 : y = 0
    · have hz : x * y = 0 := by rw [hy0]; exact Int.mul_zero x
      have e0 : ((nf y.natAbs).length : Int) = 0 := by rw [hy0, show ((0 : Int).natAbs : Int) = 0 from rfl, nf_zero]; rfl
      have e1 : decide (((nf y.natAbs).length : Int) = 0) = true := by rw [e0]; rfl
      obtain ⟨H5, s5, s6, ow, _⟩ := fin H3 (.slice none 0 0) false (x * y) (Old.refl _ _) wf3 (by rw [hz, show ((0 : Int).natAbs : Int) = 0 from rfl, nf_zero]; exact .inl ⟨rfl, rfl⟩) (by rw [hz]; rfl)
      simp (disch := omega) only [Try.f88, es_seq, es_region, es_cond, es_ret, ops_nil, ops_cons, ops_consG, st_move, sy_pick, pickS_false, sy_len uL, sy_bin, binS_eql, bindO_some, bindF_some, bindX_normal, bindX_ret, condX_true, iteB_true, ev_tmp, ev_const, putA, upd_at, Option.map_some, ↓reduceIte, Nat.reduceEqDiff, frOf_0, frOf_1, List.map_nil, yieldO_eq, yO, yV_bool, List.getElem?_cons_zero, List.getElem?_cons_succ, beq_self_eq_true, ↓bindO_some, ↓bindF_some, ↓bindX_normal, ↓bindX_ret, ↓condX_true, ↓iteB_true, fin_r, res_nil, pack_1, sy_load aL, sy_faddr fW1, sy_storeN zW, sy_alloc iW scal_agg, sy_box, sy_build, bW0, res_cell aW zW, scal_agg, hH1, hH2, hH3, f11, f21, l11, l21, hlx, hly, ex, e1, s5, s6]
      exact ow
    · have ey : decide (((nf y.natAbs).length : Int) = 0) = false := decide_eq_false (by have := (nf_last (z := (y.natAbs : Int)) (by omega)).1; omega)
      have hsg := mul_sign hnx hny hx0 hy0
      have hab : ((x * y).natAbs : Int) = x.natAbs * y.natAbs := by rw [Int.natAbs_mul]; exact Int.natCast_mul ..
      have e1 : IntKind.i64.wrap (((nf x.natAbs).length : Int) + ((nf y.natAbs).length : Int)) = (((nf y.natAbs).length + (nf x.natAbs).length : Nat) : Int) := by rw [wr64 (by omega) (by omega)]; omega
      have c2 : (0 : Int) ≤ (((nf y.natAbs).length + (nf x.natAbs).length : Nat) : Int) := by omega
      have c3 : (((nf y.natAbs).length + (nf x.natAbs).length : Nat) : Int) ≤ 1048576 := by omega
      have hz := zeros_I ((nf y.natAbs).length + (nf x.natAbs).length)
      have hlr : (ints (List.replicate ((nf y.natAbs).length + (nf x.natAbs).length) (0 : Int))).length = (nf y.natAbs).length + (nf x.natAbs).length := by rw [ints_len, List.length_replicate]
      have or := O.made (B := H3.length) (Nat.le_refl H3.length) (ints (List.replicate ((nf y.natAbs).length + (nf x.natAbs).length) (0 : Int)))
      rw [hlr] at or
      have oldm := Old.app H3 [.cells H3.length true (ints (List.replicate ((nf y.natAbs).length + (nf x.natAbs).length) (0 : Int)))]
      have wfm := wf3.app (Nat.le_refl H3.length) (o := true) (cs := ints (List.replicate ((nf y.natAbs).length + (nf x.natAbs).length) (0 : Int)))
      have l11m : loadS (bx (ptrA H.length 0) 1) (H3 ++ [.cells H3.length true (ints (List.replicate ((nf y.natAbs).length + (nf x.natAbs).length) (0 : Int)))]) = some vx := (b1.mono (oldm.mono (by have := old2.1; have := old3.1; omega))).load 1
      have key := fun (A : Fr) => tim_outer (p2 := ptrA H.length 0) (p4 := ptrA H2.length 0) oldm.1 f21 (fun G hG => (b2.mono ((oldm.trans hG).mono old3.1)).load 1) (fun G hG => hx3.mono (oldm.trans hG)) (fun G hG => hy3.mono (oldm.trans hG)) (by omega) (by omega) (by omega) (by omega) or wfm (evB Try.prog noC n) n Try.f88.ntmps (by omega) (a := A) (k := n) (by omega)
      rw [show timA = atC [1, 1, 1, 0, 1, 0, 0] ((Try.f88.body).getD .skip) from rfl] at key
      have kr := fun (A : Fr) {G G' : Heap} {vo d : Value} => tim_r16 (H := G) (H6 := G') (px := ptrA H.length 0) (py := ptrA H1.length 0) (p4 := ptrA H2.length 0) (vo := vo) (d := d) (nx := nx) (ny := ny) (evB Try.prog noC n) n Try.f88.ntmps none (a := A) (q0 := bx (ptrA H.length 0) 0) (q1 := bx (ptrA H1.length 0) 0)
      simp only [Try.f88, Option.getD_some, atC] at key kr
      simp (disch := omega) only [Try.f88, es_seq, es_region, es_cond, es_block, es_loop, es_skip, es_ret, ops_nil, ops_cons, ops_consG, st_move, st_assign, sy_pick, pickS_false, sy_len uL, sy_bin, sy_make eL yI (by decide), binS_eql, binS_add, bindO_some, bindF_some, bindX_normal, condX_false, iteB_true, ev_tmp, ev_const, putA, upd_at, Option.map_some, ↓reduceIte, Nat.reduceEqDiff, Int.toNat_natCast, frOf_0, frOf_1, yieldO_eq, yO, yV_bool, List.getElem?_cons_zero, List.getElem?_cons_succ, beq_self_eq_true, ↓bindO_some, ↓bindF_some, ↓bindX_normal, ↓condX_false, ↓iteB_true, sy_load aL, sy_faddr fW1, sy_alloc iW scal_agg, sy_box, scal_agg, hH1, hH2, hH3, f11, f21, l11, l21, hlx, hly, ex, ey, e1, c2, c3, Int.le_refl, and_self, hz, l11m]
      generalize hA : upd _ 34 _ = A
      obtain ⟨r, a', H', e, hr, g2, g3, g4, g5, old4, wf4, lo, ol, hd, hll, hval⟩ := key A (by subst hA; rfl) (by subst hA; rfl) (by subst hA; rfl) (by subst hA; rfl) (by subst hA; rfl) (by subst hA; rfl) (by subst hA; rfl)
      subst hr
      rw [e]
      clear e key
      have old34 := oldm.trans old4
      obtain ⟨d, sd, rd⟩ := trimmedO_run ol.OP (by omega) n (by omega)
      rw [nf_of_digs hd hval, ← hab] at rd
      obtain ⟨H5, s5, s6, ow, old5⟩ := fin H' d _ (x * y) old34 wf4 rd hsg
      have old5' := old5.mono old2.1
      have old35 := old34.mono (Nat.le_trans old2.1 old3.1)
      obtain ⟨a2, H2', e2, hH', g4'⟩ := kr a' (G := H') (G' := H5) g2 g3 g4 g5 f10 f20 (fun G h => by
        rcases h with rfl | rfl
        · exact (b1.mono old35).load 0
        · exact (b1.mono old5').load 0) (fun G h => by
        rcases h with rfl | rfl
        · exact (b2.mono (old34.mono old3.1)).load 0
        · exact (b2.mono old5).load 0) sd rd.RO.R.scal s5
      subst hH'
      simp (disch := omega) only [bindX_normal, blkX_exit, ↓reduceIte, ↓bindX_normal]
      rw [e2]
      simp (disch := omega) only [bindX_normal, Option.map_some, ↓bindX_normal, fin_r, res_nil, pack_1, res_cell aW zW, g4', s6]
      exact ow
end Go.Proofs.Ytmmgdgmjkhcfaaa
namespace Go.Proofs.Ytmmgdgmjkhcfaaa
open Go Go.Abs Go.Num
set_option maxRecDepth 10000
attribute [local congr] bindO_congr bindF_congr bindX_congr condX_congr iteB_congr binS_congr pickS_congr eqB_congr nilS_congr clsW_congr maxS_congr minS_congr
theorem mid_get {A w Y : List Int} {i : Nat} (h : i < w.length) : (A ++ (w ++ Y)).getD (i + A.length) 0 = w.getD i 0 := by
  rw [List.getD_eq_getElem?_getD, List.getElem?_append_right (by omega), Nat.add_sub_cancel, List.getElem?_append_left h, ← List.getD_eq_getElem?_getD]
theorem mid_set {A w Y : List Int} {i : Nat} (h : i < w.length) (x : Int) : (A ++ (w ++ Y)).set (i + A.length) x = A ++ (w.set i x ++ Y) := by
  rw [List.set_append_right _ _ (by omega), Nat.add_sub_cancel, List.set_append_left _ _ h]
theorem top_get {A w Z : List Int} {e : Int} : (A ++ (w ++ (e :: Z))).getD (A.length + w.length) 0 = e := by
  rw [List.getD_eq_getElem?_getD, List.getElem?_append_right (by omega), Nat.add_sub_cancel_left, List.getElem?_append_right (Nat.le_refl _), Nat.sub_self]; rfl
theorem top_set {A w Z : List Int} {e : Int} (x : Int) : (A ++ (w ++ (e :: Z))).set (A.length + w.length) x = A ++ (w ++ (x :: Z)) := by
  rw [List.set_append_right _ _ (by omega), Nat.add_sub_cancel_left, List.set_append_right _ _ (Nat.le_refl _), Nat.sub_self]; rfl
theorem sub_step {w : List Int} {i : Nat} {c g m : Int} (h : i < w.length) : val (w.set i ((w.getD i 0 - g * m + c) % 100000000)) + B ^ (i + 1) * ((w.getD i 0 - g * m + c) / 100000000) = (val w + B ^ i * c) - B ^ i * (g * m) := by
  have := times_step (n := -g) (m := m) (c := c) h
  rw [show w.getD i 0 + -g * m + c = w.getD i 0 - g * m + c from by rw [Int.neg_mul]; omega, Int.neg_mul, Int.mul_neg] at this
  omega
theorem add_step {w : List Int} {i : Nat} {c m : Int} (h : i < w.length) : val (w.set i ((w.getD i 0 + m + c) % 100000000)) + B ^ (i + 1) * ((w.getD i 0 + m + c) / 100000000) = (val w + B ^ i * c) + B ^ i * m := by
  have := times_step (n := 1) (m := m) (c := c) h
  rw [Int.one_mul] at this
  exact this
structure LS (a : Fr) (f : Int) (vu vv vo : Value) (n j : Int) : Prop where
  s6 : a 6 = vi f
  s7 : a 7 = vu
  s8 : a 8 = vv
  s9 : a 9 = vi n
  s10 : a 10 = vo
  s11 : a 11 = vi j
theorem LS.upd {a : Fr} {f : Int} {vu vv vo : Value} {n j : Int} (h : LS a f vu vv vo n j) {t : Nat} (ht : 12 ≤ t) (v : Value) : LS (Abs.upd a t v) f vu vv vo n j := by
  constructor <;> rw [upd_at, if_neg (by omega)]
  · exact h.s6
  · exact h.s7
  · exact h.s8
  · exact h.s9
  · exact h.s10
  · exact h.s11
noncomputable def lgS : Code := atC [1, 1, 1, 1, 1, 1, 0, 1, 0, 0, 1, 0, 0, 1, 1, 0, 1, 0, 0] ((Try.f155.body).getD .skip)
noncomputable def lgD : Code := atC [1, 1, 1, 1, 1, 1, 0, 1, 0, 0, 1, 0, 0, 1, 1, 1, 1, 0, 0, 0, 1, 0, 1, 1, 0, 1, 0, 0] ((Try.f155.body).getD .skip)
noncomputable def lgW : Code := atC [1, 1, 1, 1, 1, 1, 0, 1, 0, 0, 1, 0, 0, 1, 1, 1, 1, 0, 0, 0] ((Try.f155.body).getD .skip)
noncomputable def lgO : Code := atC [1, 1, 1, 1, 1, 1, 0, 1, 0, 0] ((Try.f155.body).getD .skip)
theorem lg_sub {B0 C0 : Nat} {H : Heap} {vu vv vo : Value} {f V g : Int} {A w Y : List Int} (hv : ∀ G, Old B0 H G → Kept C0 H G → R G vv (ints (nf V))) (V0 : 0 ≤ V) (hg : 0 ≤ g ∧ g < 100000000) (ho : OM B0 C0 H vu (ints (A ++ (w ++ Y)))) (hd : Dg w) (hl : w.length = (nf V).length) (hA : A.length ≤ 900) (ln : (nf V).length ≤ 400) (hw : WF H)
    (n m nt : Nat) (hn : 10 ≤ n) {a : Fr} {k : Nat} (hk : (nf V).length < k) (hs : LS a f vu vv vo (nf V).length A.length) (h12 : a 12 = vi g) (h13 : a 13 = vi 0) (h81 : a 81 = vi (nf V).length) (h82 : a 82 = vi (0 : Nat)) :
    ∃ r a' H', loopN (evS Try.prog (evB Try.prog noC n) m nt none lgS) k a H = some (r, a', H') ∧ r = .exit 2 ∧ LS a' f vu vv vo (nf V).length A.length ∧ a' 12 = vi g ∧ Old B0 H H' ∧ Kept C0 H H' ∧ WF H' ∧ ∃ w' c, a' 13 = vi c ∧ OM B0 C0 H' vu (ints (A ++ (w' ++ Y))) ∧ w'.length = w.length ∧ Dg w' ∧ -100000000 < c ∧ c ≤ 0 ∧ val w' + B ^ (nf V).length * c = val w - g * V := by
  refine loop_up (nf V).length (fun i a H' => LS a f vu vv vo (nf V).length A.length ∧ a 12 = vi g ∧ a 81 = vi (nf V).length ∧ a 82 = vi i ∧ Old B0 H H' ∧ Kept C0 H H' ∧ WF H' ∧ ∃ w' c, a 13 = vi c ∧ OM B0 C0 H' vu (ints (A ++ (w' ++ Y))) ∧ w'.length = w.length ∧ Dg w' ∧ -100000000 < c ∧ c ≤ 0 ∧ val w' + B ^ i * c = val w - g * val ((nf V).take i)) _ ?_ ?_ hk
    ⟨hs, h12, h81, h82, Old.refl _ _, Kept.refl _ _, hw, w, 0, h13, ho, rfl, hd, by omega, by omega, by simp [val]⟩
  · intro i a H' hi ⟨hs, h12, h81, h82, old, kept, hw, w', c, h13, ho, hl', hd, c0, c1, hval⟩
    left
    rw [show lgS = atC [1, 1, 1, 1, 1, 1, 0, 1, 0, 0, 1, 0, 0, 1, 1, 0, 1, 0, 0] ((Try.f155.body).getD .skip) from rfl]
    have hrv := hv H' old kept
    have hm := (nf_dg V0).getD i
    have hx := hd.getD i
    have hp := prod_le hg hm
    have hro := ho.O.R
    have hil : i < w'.length := by omega
    have hlt : (i : Int) < (nf V).length := by omega
    have hlen : (A ++ (w' ++ Y)).length = A.length + (w'.length + Y.length) := by rw [List.length_append, List.length_append]
    have e0 : IntKind.i64.wrap ((i : Int) + (A.length : Int)) = ((i + A.length : Nat) : Int) := by rw [wr64 (by omega) (by omega)]; omega
    have a1 : addrS 1 vu (vi ((i + A.length : Nat) : Int)) = some (pt vu (i + A.length)) := by have := hro.addrI (i := ((i + A.length : Nat) : Int)) (by omega) (by omega); rwa [Int.toNat_natCast] at this
    have l1 : loadS (pt vu (i + A.length)) H' = some (vi (w'.getD i 0)) := by rw [hro.loadI (by omega), mid_get hil]
    have e1 : IntKind.i64.wrap (g * (nf V).getD i 0) = g * (nf V).getD i 0 := wr64 (by omega) (by omega)
    have e2 : IntKind.i64.wrap (w'.getD i 0 - g * (nf V).getD i 0) = w'.getD i 0 - g * (nf V).getD i 0 := wr64 (by omega) (by omega)
    have e3 : IntKind.i64.wrap (w'.getD i 0 - g * (nf V).getD i 0 + c) = w'.getD i 0 - g * (nf V).getD i 0 + c := wr64 (by omega) (by omega)
    have s1 := floored_run (z := w'.getD i 0 - g * (nf V).getD i 0 + c) (by omega) (by omega) n H' hn
    have e7 : IntKind.i64.wrap ((i : Int) + 1) = ((i + 1 : Nat) : Int) := by rw [wr64 (by omega) (by omega)]; omega
    obtain ⟨H2, s2, o2, old2, wf2, k2⟩ := ho.setKI hw (i := i + A.length) (by omega) ((w'.getD i 0 - g * (nf V).getD i 0 + c) % 100000000)
    rw [mid_set hil] at o2
    simp (disch := omega) only [Try.f155, Option.getD_some, atC, es_seq, es_region, es_draw, d0, es_cond, es_block, es_skip, ops_nil, ops_cons, opsV_nil, opsV_cons, st_move, st_assign, st_fun, sy_addr eL, sy_load aI, sy_store zI, sy_bin, sy_ext, ext_20, ext_21, binS_lss, binS_add, binS_sub, binS_mul, bindO_some, bindF_some, bindX_normal, blkX_normal, condX_true, iteB_true, iteB_false, ev_tmp, ev_const, ev_func, putA, upd_at, Option.map_some, ↓reduceIte, Nat.reduceEqDiff, Int.toNat_natCast, List.map_cons, List.map_nil, decide_true, ↓bindO_some, ↓bindF_some, ↓bindX_normal, ↓condX_true, ↓iteB_true, ↓iteB_false, reflV_load, reflV_move, reflV_assign, reflV_bin, reflV_addr, reflV_call, reflV_extract, vEq_vi, hs.s7, hs.s8, hs.s11, h12, h13, h81, h82, hlt, hrv.addrI, hrv.loadI, e0, a1, l1, e1, e2, e3, s1, s2, e7]
    refine ⟨_, _, rfl, (by repeat refine LS.upd ?_ (by decide) _
                           exact hs), h12, h81, rfl, old.trans old2, Kept.trans kept k2, wf2, _, _, by simp only [upd_at, ↓reduceIte, Nat.reduceEqDiff]; rfl, o2, by rw [List.length_set]; exact hl', hd.set i (by omega) (by omega), by omega, by omega, ?_⟩
    rw [sub_step hil, hval, val_take_succ, Int.mul_add, Int.mul_left_comm g (B ^ i)]
    omega
  · intro a H' ⟨hs, h12, h81, h82, old, kept, hw, w', c, h13, ho, hl', hd, c0, c1, hval⟩
    rw [show lgS = atC [1, 1, 1, 1, 1, 1, 0, 1, 0, 0, 1, 0, 0, 1, 1, 0, 1, 0, 0] ((Try.f155.body).getD .skip) from rfl]
    simp (disch := omega) only [Try.f155, Option.getD_some, atC, es_seq, es_region, es_cond, es_exit, ops_nil, ops_cons, sy_bin, binS_lss, bindO_some, bindF_some, bindX_normal, bindX_exit, condX_false, ev_tmp, putA, upd_at, ↓reduceIte, decide_false, ↓bindO_some, ↓bindF_some, ↓bindX_normal, ↓bindX_exit, ↓condX_false, h81, h82, Int.lt_irrefl]
    exact ⟨_, _, _, rfl, by simp, rfl, (by repeat refine LS.upd ?_ (by decide) _
                                           exact hs), h12, old, kept, hw, w', c, h13, ho, hl', hd, c0, c1, by rw [hval, List.take_length, nf_val]⟩
theorem lg_add {B0 C0 : Nat} {H : Heap} {vu vv vo : Value} {f V g : Int} {A w Y : List Int} (hv : ∀ G, Old B0 H G → Kept C0 H G → R G vv (ints (nf V))) (V0 : 0 ≤ V) (ho : OM B0 C0 H vu (ints (A ++ (w ++ Y)))) (hd : Dg w) (hl : w.length = (nf V).length) (hA : A.length ≤ 900) (ln : (nf V).length ≤ 400) (hw : WF H)
    (n m nt : Nat) (hn : 10 ≤ n) {a : Fr} {k : Nat} (hk : (nf V).length < k) (hs : LS a f vu vv vo (nf V).length A.length) (h12 : a 12 = vi g) (h13 : a 13 = vi 0) (h81 : a 130 = vi (nf V).length) (h82 : a 131 = vi (0 : Nat)) :
    ∃ r a' H', loopN (evS Try.prog (evB Try.prog noC n) m nt none lgD) k a H = some (r, a', H') ∧ r = .exit 6 ∧ LS a' f vu vv vo (nf V).length A.length ∧ a' 12 = vi g ∧ Old B0 H H' ∧ Kept C0 H H' ∧ WF H' ∧ ∃ w' c, a' 13 = vi c ∧ OM B0 C0 H' vu (ints (A ++ (w' ++ Y))) ∧ w'.length = w.length ∧ Dg w' ∧ 0 ≤ c ∧ c ≤ 1 ∧ val w' + B ^ (nf V).length * c = val w + V := by
  refine loop_up (nf V).length (fun i a H' => LS a f vu vv vo (nf V).length A.length ∧ a 12 = vi g ∧ a 130 = vi (nf V).length ∧ a 131 = vi i ∧ Old B0 H H' ∧ Kept C0 H H' ∧ WF H' ∧ ∃ w' c, a 13 = vi c ∧ OM B0 C0 H' vu (ints (A ++ (w' ++ Y))) ∧ w'.length = w.length ∧ Dg w' ∧ 0 ≤ c ∧ c ≤ 1 ∧ val w' + B ^ i * c = val w + val ((nf V).take i)) _ ?_ ?_ hk
    ⟨hs, h12, h81, h82, Old.refl _ _, Kept.refl _ _, hw, w, 0, h13, ho, rfl, hd, by omega, by omega, by simp [val]⟩
  · intro i a H' hi ⟨hs, h12, h81, h82, old, kept, hw, w', c, h13, ho, hl', hd, c0, c1, hval⟩
    left
    rw [show lgD = atC [1, 1, 1, 1, 1, 1, 0, 1, 0, 0, 1, 0, 0, 1, 1, 1, 1, 0, 0, 0, 1, 0, 1, 1, 0, 1, 0, 0] ((Try.f155.body).getD .skip) from rfl]
    have hrv := hv H' old kept
    have hm := (nf_dg V0).getD i
    have hx := hd.getD i
    have hro := ho.O.R
    have hil : i < w'.length := by omega
    have hlt : (i : Int) < (nf V).length := by omega
    have hlen : (A ++ (w' ++ Y)).length = A.length + (w'.length + Y.length) := by rw [List.length_append, List.length_append]
    have e0 : IntKind.i64.wrap ((i : Int) + (A.length : Int)) = ((i + A.length : Nat) : Int) := by rw [wr64 (by omega) (by omega)]; omega
    have a1 : addrS 1 vu (vi ((i + A.length : Nat) : Int)) = some (pt vu (i + A.length)) := by have := hro.addrI (i := ((i + A.length : Nat) : Int)) (by omega) (by omega); rwa [Int.toNat_natCast] at this
    have l1 : loadS (pt vu (i + A.length)) H' = some (vi (w'.getD i 0)) := by rw [hro.loadI (by omega), mid_get hil]
    have e2 : IntKind.i64.wrap (w'.getD i 0 + (nf V).getD i 0) = w'.getD i 0 + (nf V).getD i 0 := wr64 (by omega) (by omega)
    have e3 : IntKind.i64.wrap (w'.getD i 0 + (nf V).getD i 0 + c) = w'.getD i 0 + (nf V).getD i 0 + c := wr64 (by omega) (by omega)
    have s1 := floored_run (z := w'.getD i 0 + (nf V).getD i 0 + c) (by omega) (by omega) n H' hn
    have e7 : IntKind.i64.wrap ((i : Int) + 1) = ((i + 1 : Nat) : Int) := by rw [wr64 (by omega) (by omega)]; omega
    obtain ⟨H2, s2, o2, old2, wf2, k2⟩ := ho.setKI hw (i := i + A.length) (by omega) ((w'.getD i 0 + (nf V).getD i 0 + c) % 100000000)
    rw [mid_set hil] at o2
    simp (disch := omega) only [Try.f155, Option.getD_some, atC, es_seq, es_region, es_draw, d0, es_cond, es_block, es_skip, ops_nil, ops_cons, opsV_nil, opsV_cons, st_move, st_assign, st_fun, sy_addr eL, sy_load aI, sy_store zI, sy_bin, sy_ext, ext_20, ext_21, binS_lss, binS_add, bindO_some, bindF_some, bindX_normal, blkX_normal, condX_true, iteB_true, iteB_false, ev_tmp, ev_const, ev_func, putA, upd_at, Option.map_some, ↓reduceIte, Nat.reduceEqDiff, Int.toNat_natCast, List.map_cons, List.map_nil, decide_true, ↓bindO_some, ↓bindF_some, ↓bindX_normal, ↓condX_true, ↓iteB_true, ↓iteB_false, reflV_load, reflV_move, reflV_assign, reflV_bin, reflV_addr, reflV_call, reflV_extract, vEq_vi, hs.s7, hs.s8, hs.s11, h13, h81, h82, hlt, hrv.addrI, hrv.loadI, e0, a1, l1, e2, e3, s1, s2, e7]
    refine ⟨_, _, rfl, (by repeat refine LS.upd ?_ (by decide) _
                           exact hs), h12, h81, rfl, old.trans old2, Kept.trans kept k2, wf2, _, _, by simp only [upd_at, ↓reduceIte, Nat.reduceEqDiff]; rfl, o2, by rw [List.length_set]; exact hl', hd.set i (by omega) (by omega), by omega, by omega, ?_⟩
    rw [add_step hil, hval, val_take_succ]
    omega
  · intro a H' ⟨hs, h12, h81, h82, old, kept, hw, w', c, h13, ho, hl', hd, c0, c1, hval⟩
    rw [show lgD = atC [1, 1, 1, 1, 1, 1, 0, 1, 0, 0, 1, 0, 0, 1, 1, 1, 1, 0, 0, 0, 1, 0, 1, 1, 0, 1, 0, 0] ((Try.f155.body).getD .skip) from rfl]
    simp (disch := omega) only [Try.f155, Option.getD_some, atC, es_seq, es_region, es_cond, es_exit, ops_nil, ops_cons, sy_bin, binS_lss, bindO_some, bindF_some, bindX_normal, bindX_exit, condX_false, ev_tmp, putA, upd_at, ↓reduceIte, decide_false, ↓bindO_some, ↓bindF_some, ↓bindX_normal, ↓bindX_exit, ↓condX_false, h81, h82, Int.lt_irrefl]
    exact ⟨_, _, _, rfl, by simp, rfl, (by repeat refine LS.upd ?_ (by decide) _
                                           exact hs), h12, old, kept, hw, w', c, h13, ho, hl', hd, c0, c1, by rw [hval, List.take_length, nf_val]⟩
theorem divmod_of {T g V : Int} (h0 : 0 ≤ T - g * V) (h1 : T < (g + 1) * V) : T / V = g ∧ T % V = T - g * V := by
  rw [Int.add_mul, Int.one_mul] at h1
  have e : T = (T - g * V) + V * g := by rw [Int.mul_comm V g]; omega
  have hV : 0 < V := by omega
  constructor
  · rw [e, Int.add_mul_ediv_left _ _ (by omega), Int.ediv_eq_zero_of_lt h0 (by omega)]; omega
  · conv => lhs; rw [e]
    rw [Int.add_mul_emod_self_left, Int.emod_eq_of_lt h0 (by omega)]
theorem lg_while {B0 C0 : Nat} {H : Heap} {vu vv vo : Value} {f V g T e : Int} {A w Z : List Int} (hv : ∀ G, Old B0 H G → Kept C0 H G → R G vv (ints (nf V))) (V0 : 0 < V) (T0 : 0 ≤ T) (hg : 0 ≤ g ∧ g < 100000000) (ho : OM B0 C0 H vu (ints (A ++ (w ++ (e :: Z))))) (hd : Dg w) (hl : w.length = (nf V).length) (he : -100000000 < e ∧ e < 100000000)
    (hval : val w + B ^ (nf V).length * e = T - g * V) (hT : T < (g + 1) * V) (hA : A.length ≤ 900) (ln : (nf V).length ≤ 400) (hw : WF H)
    (n m nt : Nat) (hn : 10 ≤ n) (hm : 1000 ≤ m) {a : Fr} {k : Nat} (hk : 100000000 ≤ k) (hs : LS a f vu vv vo (nf V).length A.length) (h12 : a 12 = vi g) :
    ∃ r a' H', loopN (evS Try.prog (evB Try.prog noC n) m nt none lgW) k a H = some (r, a', H') ∧ r = .exit 4 ∧ LS a' f vu vv vo (nf V).length A.length ∧ a' 12 = vi (T / V) ∧ Old B0 H H' ∧ Kept C0 H H' ∧ WF H' ∧ ∃ w', OM B0 C0 H' vu (ints (A ++ (w' ++ (0 :: Z)))) ∧ w'.length = w.length ∧ Dg w' ∧ val w' = T % V := by
  refine loop_wf (fun j a H' => ∃ g w1 e, j = g.toNat ∧ 0 ≤ g ∧ g < 100000000 ∧ LS a f vu vv vo (nf V).length A.length ∧ a 12 = vi g ∧ Old B0 H H' ∧ Kept C0 H H' ∧ WF H' ∧ OM B0 C0 H' vu (ints (A ++ (w1 ++ (e :: Z)))) ∧ w1.length = w.length ∧ Dg w1 ∧ -100000000 < e ∧ e < 100000000 ∧ val w1 + B ^ (nf V).length * e = T - g * V ∧ T < (g + 1) * V) _ ?_ k g.toNat a H (by omega)
    ⟨g, w, e, rfl, hg.1, hg.2, hs, h12, Old.refl _ _, Kept.refl _ _, hw, ho, rfl, hd, he.1, he.2, hval, hT⟩
  intro j a H' ⟨g, w1, e, hj, g0, g1, hs, h12, old, kept, hw, ho, hl', hd, he0, he1, hval, hT⟩
  rw [show lgW = atC [1, 1, 1, 1, 1, 1, 0, 1, 0, 0, 1, 0, 0, 1, 1, 1, 1, 0, 0, 0] ((Try.f155.body).getD .skip) from rfl]
  have hro := ho.O.R
  have hlen : (A ++ (w1 ++ (e :: Z))).length = A.length + (w1.length + (Z.length + 1)) := by rw [List.length_append, List.length_append, List.length_cons]
  have e0 : IntKind.i64.wrap ((A.length : Int) + ((nf V).length : Int)) = ((A.length + w1.length : Nat) : Int) := by rw [wr64 (by omega) (by omega)]; omega
  have a1 : addrS 1 vu (vi ((A.length + w1.length : Nat) : Int)) = some (pt vu (A.length + w1.length)) := by have := hro.addrI (i := ((A.length + w1.length : Nat) : Int)) (by omega) (by omega); rwa [Int.toNat_natCast] at this
  have l1 : loadS (pt vu (A.length + w1.length)) H' = some (vi e) := by rw [hro.loadI (by omega), top_get]
  have hw1 := hd.val
  have hpB := pow_pos (nf V).length
  have hsV := (nf_size V).2
  rw [show w1.length = (nf V).length from by omega] at hw1
  by_cases hneg : e < 0
  · left
    have hBe : B ^ (nf V).length * e ≤ B ^ (nf V).length * (-1) := Int.mul_le_mul_of_nonneg_left (by omega) (by omega)
    have hg1 : 1 ≤ g := by
      apply Decidable.byContradiction
      intro h
      have : g = 0 := by omega
      subst this
      rw [Int.zero_mul] at hval
      omega
    have c1 : IntKind.i64.wrap (g - 1) = g - 1 := wr64 (by omega) (by omega)
    have key := fun (A' : Fr) => lg_add (f := f) (vo := vo) (g := g - 1) (A := A) (w := w1) (Y := e :: Z) (fun G h1 h2 => hv G (old.trans h1) (Kept.trans kept h2)) (by omega : 0 ≤ V) ho hd (by omega) hA ln hw n m nt hn (a := A') (k := m) (by omega)
    rw [show lgD = atC [1, 1, 1, 1, 1, 1, 0, 1, 0, 0, 1, 0, 0, 1, 1, 1, 1, 0, 0, 0, 1, 0, 1, 1, 0, 1, 0, 0] ((Try.f155.body).getD .skip) from rfl] at key
    simp only [Try.f155, Option.getD_some, atC] at key
    simp (disch := omega) only [Try.f155, Option.getD_some, atC, es_seq, es_region, es_cond, es_block, es_loop, es_skip, ops_nil, ops_cons, st_move, st_assign, sy_addr eL, sy_load aI, sy_store zI, sy_bin, binS_lss, binS_add, binS_sub, bindO_some, bindF_some, bindX_normal, condX_true, ev_tmp, ev_const, putA, upd_at, Option.map_some, ↓reduceIte, Nat.reduceEqDiff, decide_true, ↓bindO_some, ↓bindF_some, ↓bindX_normal, ↓condX_true, hs.s7, hs.s9, hs.s11, h12, e0, a1, l1, hneg, c1]
    generalize hA' : upd _ 131 _ = A'
    obtain ⟨r, a', H2, e', hr, hs', g12, old2, k2, wf2, w2, c, g13, ho2, hl2, hd2, c0, c2, hval2⟩ := key A' (by
      subst hA'
      repeat refine LS.upd ?_ (by decide) _
      exact hs) (by subst hA'; rfl) (by subst hA'; rfl) (by subst hA'; rfl) (by subst hA'; rfl)
    subst hr
    rw [e']
    clear e' key
    have hro2 := ho2.O.R
    have hlen2 : (A ++ (w2 ++ (e :: Z))).length = A.length + (w2.length + (Z.length + 1)) := by rw [List.length_append, List.length_append, List.length_cons]
    rw [show w1.length = w2.length from hl2.symm] at e0
    have a2 : addrS 1 vu (vi ((A.length + w2.length : Nat) : Int)) = some (pt vu (A.length + w2.length)) := by have := hro2.addrI (i := ((A.length + w2.length : Nat) : Int)) (by omega) (by omega); rwa [Int.toNat_natCast] at this
    have l2 : loadS (pt vu (A.length + w2.length)) H2 = some (vi e) := by rw [hro2.loadI (by omega), top_get]
    have c3 : IntKind.i64.wrap (e + c) = e + c := wr64 (by omega) (by omega)
    obtain ⟨H3, s3, o3, old3, wf3, k3⟩ := ho2.setKI wf2 (i := A.length + w2.length) (by omega) (e + c)
    rw [top_set] at o3
    simp (disch := omega) only [binS_add, bindO_some, bindF_some, bindX_normal, blkX_normal, blkX_exit, Option.map_some, ↓reduceIte, ↓bindO_some, ↓bindF_some, ↓bindX_normal, hs'.s7, hs'.s9, hs'.s11, g13, e0, a2, l2, c3, s3]
    refine ⟨_, _, rfl, (g - 1).toNat, by omega, g - 1, w2, e + c, rfl, by omega, by omega, (by
      repeat refine LS.upd ?_ (by decide) _
      exact hs'), g12, (old.trans old2).trans old3, Kept.trans (Kept.trans kept k2) k3, wf3, o3, by omega, hd2, by omega, by omega, ?_, ?_⟩
    · rw [Int.mul_add, Int.sub_mul, Int.one_mul]; omega
    · rw [Int.sub_add_cancel]; omega
  · right
    simp (disch := omega) only [Try.f155, Option.getD_some, atC, es_seq, es_region, es_cond, es_exit, ops_nil, ops_cons, st_move, sy_addr eL, sy_load aI, sy_bin, binS_lss, binS_add, bindO_some, bindF_some, bindX_normal, bindX_exit, condX_false, ev_tmp, ev_const, putA, upd_at, Option.map_some, ↓reduceIte, Nat.reduceEqDiff, decide_false, ↓bindO_some, ↓bindF_some, ↓bindX_normal, ↓bindX_exit, ↓condX_false, hs.s7, hs.s9, hs.s11, e0, a1, l1, hneg]
    have hBe := Int.mul_nonneg (Int.le_of_lt hpB) (by omega : 0 ≤ e)
    obtain ⟨q1, q2⟩ := divmod_of (T := T) (g := g) (V := V) (by omega) hT
    have hez : e = 0 := by
      apply Decidable.byContradiction
      intro h
      have : B ^ (nf V).length * 1 ≤ B ^ (nf V).length * e := Int.mul_le_mul_of_nonneg_left (by omega) (by omega)
      rw [Int.add_mul, Int.one_mul] at hT
      omega
    subst hez
    rw [Int.mul_zero] at hval
    refine ⟨_, _, _, rfl, by simp, rfl, (by
      repeat refine LS.upd ?_ (by decide) _
      exact hs), by simp only [upd_at, ↓reduceIte, Nat.reduceEqDiff, h12, q1], old, kept, hw, w1, ho, hl', hd, by omega⟩
end Go.Proofs.Ytmmgdgmjkhcfaaa
namespace Go.Proofs.Ytmmgdgmjkhcfaaa
open Go Go.Abs Go.Num
set_option maxRecDepth 10000
attribute [local congr] bindO_congr bindF_congr bindX_congr condX_congr iteB_congr binS_congr pickS_congr eqB_congr nilS_congr clsW_congr maxS_congr minS_congr
theorem split3 {L : List Int} {j n : Nat} (h : j + n < L.length) : L = L.take j ++ ((L.drop j).take n ++ (L.getD (j + n) 0 :: L.drop (j + n + 1))) := by
  have e1 : L.getD (j + n) 0 :: L.drop (j + n + 1) = (L.drop j).drop n := by
    rw [List.drop_drop, drop_getD (l := L) (i := j + n) h]
  rw [e1, List.take_append_drop, List.take_append_drop]
theorem val_drop_lt {L : List Int} (hd : Dg L) {j n : Nat} {V : Int} (hj : j + n < L.length) (hV : V < B ^ n) (h : val (L.drop (j + 1)) < V) :
    val (L.drop (j + n + 1)) = 0 ∧ val (L.drop j) = val ((L.drop j).take n) + B ^ n * L.getD (j + n) 0 := by
  have e1 := val_split (L.drop (j + 1)) n (by rw [List.length_drop]; omega)
  rw [List.drop_drop, show j + 1 + n = j + n + 1 from by omega] at e1
  have a1 := ((hd.drop (j + 1)).take n).val.1
  have a2 := (hd.drop (j + n + 1)).val.1
  have hz : val (L.drop (j + n + 1)) = 0 := by
    apply Decidable.byContradiction
    intro hne
    have : B ^ n * 1 ≤ B ^ n * val (L.drop (j + n + 1)) := Int.mul_le_mul_of_nonneg_left (by omega) (Int.le_of_lt (pow_pos n))
    omega
  refine ⟨hz, ?_⟩
  have e2 := val_split (L.drop j) n (by rw [List.length_drop]; omega)
  rw [List.drop_drop] at e2
  rw [e2, drop_getD (l := L) (i := j + n) hj]
  simp only [val, hz, Int.mul_zero, Int.add_zero]
theorem guess_ok {w : List Int} {n : Nat} {e V : Int} (hw : Dg w) (hl : w.length = n + 1) (he : 0 ≤ e) (hV : 0 < V) (hn : (nf V).length = n + 1) (ht : val w + B ^ (n + 1) * e < 100000000 * V) :
    let t := e * 100000000 + w.getD n 0
    let g := if (99999999 : Int) < t / (nf V).getD n 0 then 99999999 else t / (nf V).getD n 0
    val w + B ^ (n + 1) * e < (g + 1) * V ∧ 0 ≤ g ∧ g < 100000000 := by
  intro t g
  have ht0 : 0 ≤ t := by have := hw.getD n; simp only [t]; omega
  have hv : 0 < (nf V).getD n 0 := by
    have h1 := nf_last (z := V) (by omega)
    rw [hn, Nat.add_sub_cancel] at h1
    have h2 := (nf_dg (by omega : 0 ≤ V)).getD n
    have h3 : (nf V).getD n 0 ≠ 0 := by
      have := digsN_last (V.toNat + 1) V.toNat (by omega) (by omega)
      rw [← nf_pos (by omega : 0 ≤ V), hn, Nat.add_sub_cancel] at this
      omega
    omega
  have hq0 := Int.ediv_nonneg ht0 (Int.le_of_lt hv)
  have hg : 0 ≤ g ∧ g < 100000000 := by simp only [g]; split <;> omega
  refine ⟨?_, hg⟩
  by_cases hc : (99999999 : Int) < t / (nf V).getD n 0
  · have : g = 99999999 := if_pos hc
    rw [this]; exact ht
  · have hge : g = t / (nf V).getD n 0 := if_neg hc
    have e1 := val_take_succ w n
    rw [← hl, List.take_length] at e1
    have a1 := (hw.take n).val
    have hl2 : (w.take n).length = n := by rw [List.length_take]; omega
    rw [hl2] at a1
    have e2 := val_take_succ (nf V) n
    rw [← hn, List.take_length, nf_val] at e2
    have a2 := ((nf_dg (by omega : 0 ≤ V)).take n).val.1
    -- t < (g + 1) * top
    have h1 : t < (g + 1) * (nf V).getD n 0 := by
      rw [hge]
      have := Int.lt_ediv_add_one_mul_self t hv
      exact this
    have h2 : B ^ n * (t + 1) ≤ B ^ n * ((g + 1) * (nf V).getD n 0) := Int.mul_le_mul_of_nonneg_left (by omega) (Int.le_of_lt (pow_pos n))
    have h3 : (g + 1) * (B ^ n * (nf V).getD n 0) ≤ (g + 1) * V := Int.mul_le_mul_of_nonneg_left (by omega) (by omega)
    rw [Int.mul_left_comm] at h3
    have h4 : B ^ n * (t + 1) = B ^ n * w.getD n 0 + B ^ (n + 1) * e + B ^ n := by
      simp only [t]
      rw [pow_succ', Int.mul_add, Int.mul_add, Int.mul_one, Int.mul_comm 100000000 (B ^ n), Int.mul_assoc (B ^ n), Int.mul_comm 100000000 e]
      omega
    omega
theorem lg_outer {B0 C0 D0 : Nat} {H0 H : Heap} {vu vv vo : Value} {f V X : Int} {L0 : List Int} {U : Nat} (hC : C0 ≤ D0) (hB : B0 ≤ C0) (hD : D0 ≤ H.length) (V0 : 0 < V) (old0 : Old B0 H0 H) (hw : WF H) (hv : RM C0 D0 H vv (ints (nf V))) (ho : OM B0 C0 H vu (ints L0)) (hl : L0.length = U) (hd : Dg L0) (hq : O D0 H vo (ints (List.replicate (U - (nf V).length) 0))) (hn1 : 1 ≤ (nf V).length) (hnU : (nf V).length ≤ U) (hU : U ≤ 900) (ln : (nf V).length ≤ 400)
    (hX : val L0 = X) (hT : val (L0.drop (U - (nf V).length)) < V) (n m nt : Nat) (hn : 10 ≤ n) (hm : 100000000 ≤ m) {a : Fr} {k : Nat} (hk : 1000 ≤ k) (hs : LS a f vu vv vo (nf V).length (((U - (nf V).length : Nat) : Int) - 1)) :
    ∃ r a' H', loopN (evS Try.prog (evB Try.prog noC n) m nt none lgO) k a H = some (r, a', H') ∧ r = .exit 0 ∧ a' 6 = vi f ∧ a' 7 = vu ∧ a' 10 = vo ∧ Old B0 H0 H' ∧ WF H' ∧ ∃ L lo, OM B0 C0 H' vu (ints L) ∧ L.length = U ∧ Dg L ∧ val L = X % V ∧ O D0 H' vo (ints lo) ∧ lo.length ≤ 900 ∧ Dg lo ∧ val lo = X / V := by
  refine loop_wf (fun J a G => J ≤ U - (nf V).length ∧ LS a f vu vv vo (nf V).length ((J : Int) - 1) ∧ Old B0 H0 G ∧ D0 ≤ G.length ∧ WF G ∧ RM C0 D0 G vv (ints (nf V)) ∧ ∃ L lo, OM B0 C0 G vu (ints L) ∧ L.length = U ∧ Dg L ∧ O D0 G vo (ints lo) ∧ lo.length = U - (nf V).length ∧ Dg lo ∧ val L + V * val lo = X ∧ val (L.drop J) < V ∧ ∀ i, i < J → lo.getD i 0 = 0) _ ?_ k (U - (nf V).length) a H (by omega)
    ⟨Nat.le_refl _, hs, old0, hD, hw, hv, L0, _, ho, hl, hd, hq, by simp, fun x hx => by have := List.eq_of_mem_replicate hx; subst this; unfold B; omega, by rw [val_zeros]; omega, hT, fun i hi => by rw [List.getD_eq_getElem?_getD, List.getElem?_replicate]; split <;> rfl⟩
  intro J a G ⟨hJ, hs, old, hD, hw, hv, L, lo, ho, hl, hd, hq, hlo, hdl, hval, hT, hz⟩
  rw [show lgO = atC [1, 1, 1, 1, 1, 1, 0, 1, 0, 0] ((Try.f155.body).getD .skip) from rfl]
  by_cases hJ0 : J = 0
  · subst hJ0
    right
    have c1 : decide ((0 : Int) ≤ ((0 : Nat) : Int) - 1) = false := rfl
    simp (disch := omega) only [Try.f155, Option.getD_some, atC, es_seq, es_region, es_cond, es_exit, ops_nil, ops_cons, st_move, sy_bin, binS_geq, bindO_some, bindF_some, bindX_normal, bindX_exit, condX_false, ev_tmp, ev_const, putA, upd_at, ↓reduceIte, ↓bindO_some, ↓bindF_some, ↓bindX_normal, ↓bindX_exit, ↓condX_false, hs.s11, c1]
    rw [List.drop_zero] at hT
    have h0 := hd.val.1
    have e1 : X / V = val lo := by rw [← hval, Int.add_mul_ediv_left _ _ (by omega), Int.ediv_eq_zero_of_lt h0 hT]; omega
    have e2 : X % V = val L := by rw [← hval, Int.add_mul_emod_self_left, Int.emod_eq_of_lt h0 hT]
    exact ⟨_, _, _, rfl, by simp, rfl, by simp only [upd_at, ↓reduceIte, Nat.reduceEqDiff, hs.s6], by simp only [upd_at, ↓reduceIte, Nat.reduceEqDiff, hs.s7], by simp only [upd_at, ↓reduceIte, Nat.reduceEqDiff, hs.s10], old, hw, L, lo, ho, hl, hd, e2.symm, hq, by omega, hdl, e1.symm⟩
  · obtain ⟨j, rfl⟩ : ∃ j, J = j + 1 := ⟨J - 1, by omega⟩
    left
    rw [show ((j + 1 : Nat) : Int) - 1 = (j : Int) from by omega] at hs
    obtain ⟨p, hp⟩ : ∃ p, (nf V).length = p + 1 := ⟨(nf V).length - 1, by omega⟩
    have hjn : j + (nf V).length < L.length := by omega
    obtain ⟨hZ, hTT⟩ := val_drop_lt hd hjn (nf_size V).2 hT
    have hsp := split3 hjn
    have hA : (L.take j).length = j := by rw [List.length_take]; omega
    have hwl : ((L.drop j).take (nf V).length).length = (nf V).length := by rw [List.length_take, List.length_drop]; omega
    have hde := hd.getD (j + (nf V).length)
    have hdw := (hd.drop j).take (nf V).length
    have hdj := hd.getD j
    have hT100 : val (L.drop j) < 100000000 * V := by
      rw [drop_getD (by omega : j < L.length)]
      simp only [val]
      unfold B at *
      omega
    rw [hTT] at hT100
    rw [hsp] at ho
    have hvL : val L = val (L.take j) + B ^ j * (val ((L.drop j).take (nf V).length) + B ^ (nf V).length * L.getD (j + (nf V).length) 0) := by
      rw [← hTT]; exact val_split L j (by omega)
    generalize hAe : L.take j = A at *
    generalize hwe : (L.drop j).take (nf V).length = w at *
    generalize hee : L.getD (j + (nf V).length) 0 = e at *
    generalize hZe : L.drop (j + (nf V).length + 1) = Z at *
    have hdA : Dg A := by rw [← hAe]; exact hd.take j
    have hdZ : Dg Z := by rw [← hZe]; exact hd.drop _
    have hlZ : j + (nf V).length + 1 + Z.length = U := by rw [← hZe, List.length_drop]; omega
    have hgs := guess_ok (n := p) hdw (by omega) hde.1 V0 hp (by rw [← hp]; exact hT100)
    simp only at hgs
    generalize hg : (if (99999999 : Int) < (e * 100000000 + w.getD p 0) / (nf V).getD p 0 then (99999999 : Int) else (e * 100000000 + w.getD p 0) / (nf V).getD p 0) = g at *
    obtain ⟨hg1, hg2⟩ := hgs
    rw [← hp] at hg1
    have hro := ho.O.R
    have hlen : (A ++ (w ++ (e :: Z))).length = A.length + (w.length + (Z.length + 1)) := by rw [List.length_append, List.length_append, List.length_cons]
    have hrv := hv.R
    have c1 : (0 : Int) ≤ (j : Int) := by omega
    have e0 : IntKind.i64.wrap ((j : Int) + ((nf V).length : Int)) = ((A.length + w.length : Nat) : Int) := by rw [wr64 (by omega) (by omega)]; omega
    have a1 : addrS 1 vu (vi ((A.length + w.length : Nat) : Int)) = some (pt vu (A.length + w.length)) := by have := hro.addrI (i := ((A.length + w.length : Nat) : Int)) (by omega) (by omega); rwa [Int.toNat_natCast] at this
    have l1 : loadS (pt vu (A.length + w.length)) G = some (vi e) := by rw [hro.loadI (by omega), top_get]
    have e1 : IntKind.i64.wrap (((A.length + w.length : Nat) : Int) - 1) = ((p + A.length : Nat) : Int) := by rw [wr64 (by omega) (by omega)]; omega
    have a2 : addrS 1 vu (vi ((p + A.length : Nat) : Int)) = some (pt vu (p + A.length)) := by have := hro.addrI (i := ((p + A.length : Nat) : Int)) (by omega) (by omega); rwa [Int.toNat_natCast] at this
    have l2 : loadS (pt vu (p + A.length)) G = some (vi (w.getD p 0)) := by rw [hro.loadI (by omega), mid_get (by omega)]
    have hwp := hdw.getD p
    have e2 : IntKind.i64.wrap (e * 100000000) = e * 100000000 := wr64 (by omega) (by omega)
    have e3 : IntKind.i64.wrap (e * 100000000 + w.getD p 0) = e * 100000000 + w.getD p 0 := wr64 (by omega) (by omega)
    have e4 : IntKind.i64.wrap (((nf V).length : Int) - 1) = (p : Int) := by rw [wr64 (by omega) (by omega)]; omega
    have a3 : addrS 1 vv (vi (p : Int)) = some (pt vv p) := by have := hrv.addrI (i := (p : Int)) (by omega) (by omega); rwa [Int.toNat_natCast] at this
    have l3 : loadS (pt vv p) G = some (vi ((nf V).getD p 0)) := hrv.loadI (by omega)
    have htop : (nf V).getD p 0 ≠ 0 := by
      have := digsN_last (V.toNat + 1) V.toNat (by omega) (by omega)
      rw [← nf_pos (by omega : 0 ≤ V), hp, Nat.add_sub_cancel] at this
      omega
    have htop2 := (nf_dg (by omega : 0 ≤ V)).getD p
    have e5 : (e * 100000000 + w.getD p 0).tdiv ((nf V).getD p 0) = (e * 100000000 + w.getD p 0) / (nf V).getD p 0 := tdiv_pos (by omega) _
    have hq0 := Int.ediv_nonneg (by omega : 0 ≤ e * 100000000 + w.getD p 0) (by omega : 0 ≤ (nf V).getD p 0)
    have hq1 := Int.ediv_le_self ((nf V).getD p 0) (by omega : 0 ≤ e * 100000000 + w.getD p 0)
    have e6 : IntKind.i64.wrap ((e * 100000000 + w.getD p 0) / (nf V).getD p 0) = (e * 100000000 + w.getD p 0) / (nf V).getD p 0 := wr64 (by omega) (by omega)
    have k1 := fun (F : Fr) => lg_sub (B0 := B0) (C0 := C0) (H := G) (f := f) (vu := vu) (vo := vo) (V := V) (g := g) (A := A) (w := w) (Y := e :: Z) (fun G' h1 h2 => (hv.kept h2).R) (by omega) hg2 ho hdw hwl (by omega) ln hw n m nt hn (a := F) (k := m) (by omega)
    rw [show lgS = atC [1, 1, 1, 1, 1, 1, 0, 1, 0, 0, 1, 0, 0, 1, 1, 0, 1, 0, 0] ((Try.f155.body).getD .skip) from rfl] at k1
    simp only [Try.f155, Option.getD_some, atC] at k1
    have hs6 := hs.s6
    simp (disch := omega) only [Try.f155, Option.getD_some, atC, es_seq, es_region, es_draw, d0, es_cond, es_block, es_loop, es_skip, ops_nil, ops_cons, opsV_nil, opsV_cons, st_move, st_assign, sy_min, minS_vi, sy_addr eL, sy_load aI, sy_store zI, sy_bin, binS_geq, binS_add, binS_sub, binS_mul, binS_quo, bindO_some, bindF_some, bindX_normal, condX_true, iteB_true, iteB_false, ev_tmp, ev_const, putA, upd_at, Option.map_some, ↓reduceIte, Nat.reduceEqDiff, decide_true, ↓bindO_some, ↓bindF_some, ↓bindX_normal, ↓condX_true, ↓iteB_true, ↓iteB_false, reflV_load, reflV_move, reflV_assign, reflV_bin, reflV_addr, reflV_call, vEq_vi, hs.s7, hs.s8, hs.s9, hs.s11, c1, e0, a1, l1, e1, a2, l2, e2, e3, e4, a3, l3, e5, e6, hg]
    generalize hF : upd _ 82 _ = F
    rw [show (j : Int) = (A.length : Int) from by omega] at hs
    obtain ⟨r, a', G1, ev1, hr, hs', g12, old1, kp1, wf1, w1, c, g13, ho1, hl1, hd1, c0, c2, hv1⟩ := k1 F (by
      subst hF
      repeat refine LS.upd ?_ (by decide) _
      exact hs) (by subst hF; rfl) (by subst hF; rfl) (by subst hF; rfl) (by subst hF; rfl)
    subst hr
    rw [ev1]
    clear ev1 k1
    have hro1 := ho1.O.R
    have hlen1 : (A ++ (w1 ++ (e :: Z))).length = A.length + (w1.length + (Z.length + 1)) := by rw [List.length_append, List.length_append, List.length_cons]
    have f0 : IntKind.i64.wrap ((A.length : Int) + ((nf V).length : Int)) = ((A.length + w1.length : Nat) : Int) := by rw [wr64 (by omega) (by omega)]; omega
    have b1 : addrS 1 vu (vi ((A.length + w1.length : Nat) : Int)) = some (pt vu (A.length + w1.length)) := by have := hro1.addrI (i := ((A.length + w1.length : Nat) : Int)) (by omega) (by omega); rwa [Int.toNat_natCast] at this
    have m1 : loadS (pt vu (A.length + w1.length)) G1 = some (vi e) := by rw [hro1.loadI (by omega), top_get]
    have f1 : IntKind.i64.wrap (e + c) = e + c := wr64 (by omega) (by omega)
    obtain ⟨G2, s2, ho2, old2, wf2, kp2⟩ := ho1.setKI wf1 (i := A.length + w1.length) (by omega) (e + c)
    rw [top_set] at ho2
    have hv2 := (hv.kept kp1).kept kp2
    have k2 := fun (F : Fr) => lg_while (B0 := B0) (C0 := C0) (H := G2) (f := f) (vu := vu) (vo := vo) (V := V) (g := g) (T := val w + B ^ (nf V).length * e) (e := e + c) (A := A) (w := w1) (Z := Z) (fun G' h1 h2 => (hv2.kept h2).R) V0 (by have := hdw.val.1; have := Int.mul_nonneg (Int.le_of_lt (pow_pos (nf V).length)) hde.1; omega) hg2 ho2 hd1 (by omega) (by omega) (by rw [Int.mul_add]; omega) hg1 (by omega) ln wf2 n m nt hn (by omega) (a := F) (k := m) (by omega)
    rw [show lgW = atC [1, 1, 1, 1, 1, 1, 0, 1, 0, 0, 1, 0, 0, 1, 1, 1, 1, 0, 0, 0] ((Try.f155.body).getD .skip) from rfl] at k2
    simp only [Try.f155, Option.getD_some, atC] at k2
    simp (disch := omega) only [binS_add, bindO_some, bindF_some, bindX_normal, blkX_exit, Option.map_some, ↓reduceIte, ↓bindO_some, ↓bindF_some, ↓bindX_normal, hs'.s7, hs'.s9, hs'.s11, g13, f0, b1, m1, f1, s2]
    generalize hF2 : upd _ 120 _ = F2
    obtain ⟨r, a2', G3, ev2, hr, hs2, i12, old3, kp3, wf3, w2, ho3, hl3, hd3, hv3⟩ := k2 F2 (by
      subst hF2
      repeat refine LS.upd ?_ (by decide) _
      exact hs') (by subst hF2; exact g12)
    subst hr
    rw [ev2]
    clear ev2 k2
    have kp13 : Kept C0 G G3 := Kept.trans (Kept.trans kp1 kp2) kp3
    have old13 : Old B0 G G3 := (old1.trans old2).trans old3
    have hq3 := hq.kept (Kept.mono kp13 hC)
    have hv4 := hv2.kept kp3
    generalize hq4 : (val w + B ^ (nf V).length * e) / V = q at *
    have hqq0 : 0 ≤ q := by rw [← hq4]; exact Int.ediv_nonneg (by have := hdw.val.1; have := Int.mul_nonneg (Int.le_of_lt (pow_pos (nf V).length)) hde.1; omega) (by omega)
    have hqq1 : q < 100000000 := by rw [← hq4]; exact Int.ediv_lt_of_lt_mul V0 hT100
    have hro3 := hq3.R
    have a5 : addrS 1 vo (vi (A.length : Int)) = some (pt vo A.length) := by have := hro3.addrI (i := (A.length : Int)) (by omega) (by omega); rwa [Int.toNat_natCast] at this
    obtain ⟨G4, s4, hq4', old4, wf4⟩ := hq3.setI wf3 (i := A.length) (by omega) q
    have f3 : IntKind.i64.wrap ((A.length : Int) - 1) = (A.length : Int) - 1 := wr64 (by omega) (by omega)
    simp (disch := omega) only [binS_sub, bindO_some, bindF_some, bindX_normal, blkX_normal, blkX_exit, upd_at, Option.map_some, ↓reduceIte, Nat.reduceEqDiff, ↓bindO_some, ↓bindF_some, ↓bindX_normal, hs2.s10, hs2.s11, i12, a5, s4, f3]
    have hem := Int.mul_ediv_add_emod (val w + B ^ (nf V).length * e) V
    rw [hq4] at hem
    refine ⟨_, _, rfl, j, by omega, by omega, ⟨?_, ?_, ?_, ?_, ?_, ?_⟩, (old.trans old13).trans (old4.mono (by omega)), Nat.le_trans hD (Nat.le_trans old13.1 old4.1), wf4, hv4.mono old4, A ++ (w2 ++ (0 :: Z)), lo.set A.length q, ho3.mono (old4.mono hC), ?_, ?_, hq4', by rw [List.length_set]; exact hlo, hdl.set _ hqq0 hqq1, ?_, ?_, ?_⟩
    · simp only [upd_at, ↓reduceIte, Nat.reduceEqDiff, hs2.s6]
    · simp only [upd_at, ↓reduceIte, Nat.reduceEqDiff, hs2.s7]
    · simp only [upd_at, ↓reduceIte, Nat.reduceEqDiff, hs2.s8]
    · simp only [upd_at, ↓reduceIte, Nat.reduceEqDiff, hs2.s9]
    · simp only [upd_at, ↓reduceIte, Nat.reduceEqDiff, hs2.s10]
    · simp only [upd_at, ↓reduceIte]; rw [hA]
    · rw [List.length_append, List.length_append, List.length_cons]; omega
    · refine hdA.app (hd3.app ?_)
      intro x hx
      rcases List.mem_cons.1 hx with rfl | hx
      · unfold B; omega
      · exact hdZ x hx
    · rw [val_set (by omega), hz A.length (by omega), val_app, val_app]
      simp only [val, hZ, Int.mul_zero, Int.add_zero, Int.sub_zero]
      rw [hv3, hA]
      rw [hvL] at hval
      rw [← hval, Int.mul_add, ← hem, Int.mul_add, Int.mul_left_comm (B ^ j) V q]
      rw [hem]
      omega
    · rw [← hA, List.drop_append_of_le_length (Nat.le_refl _), List.drop_length, List.nil_append, val_app]
      simp only [val, hZ, Int.mul_zero, Int.add_zero]
      rw [hv3]
      exact Int.emod_lt_of_pos _ V0
    · intro i hi
      rw [List.getD_eq_getElem?_getD, List.getElem?_set, if_neg (by omega), ← List.getD_eq_getElem?_getD]
      exact hz i (by omega)
theorem oW1 : oneField Try.prog 85 1 1 = true := by kernel_rfl
theorem z2I : zeros Try.prog 3 1 2 = some [vi 0, vi 0] := by kernel_rfl
theorem nf_last_pos {y : Int} (hy : 0 < y) : 1 ≤ (nf y).length ∧ 0 < (nf y).getD ((nf y).length - 1) 0 ∧ (nf y).getD ((nf y).length - 1) 0 < 100000000 := by
  have h := digsN_last (y.toNat + 1) y.toNat (by omega) (by omega)
  rw [← nf_pos (by omega : 0 ≤ y)] at h
  exact ⟨by omega, h.2, ((nf_dg (by omega : 0 ≤ y)).getD _).2⟩
theorem top_lt {y : Int} (hy : 0 < y) : y < B ^ ((nf y).length - 1) * ((nf y).getD ((nf y).length - 1) 0 + 1) := by
  have h := nf_last_pos hy
  have e := val_take_succ (nf y) ((nf y).length - 1)
  rw [show (nf y).length - 1 + 1 = (nf y).length from by omega, List.take_length, nf_val] at e
  have a := ((nf_dg (by omega : 0 ≤ y)).take ((nf y).length - 1)).val.2
  rw [List.length_take, Nat.min_eq_left (by omega)] at a
  rw [Int.mul_add, Int.mul_one]
  omega
theorem nf_app00 {x : Int} {n : Nat} (x0 : 0 ≤ x) (h2 : 2 ≤ n) (hn : n ≤ (nf x).length + 2) : val ((nf x ++ [0, 0]).drop ((nf x).length + 2 - n)) < B ^ (n - 1) := by
  have hl : (nf x ++ [0, 0]).length = (nf x).length + 2 := by simp
  have hd : Dg (nf x ++ [0, 0]) := (nf_dg x0).app fun z hz => by simp at hz; subst hz; unfold B; omega
  have hs := val_split (nf x ++ [0, 0]) ((nf x).length + 2 - n) (by omega)
  have hv : val (nf x ++ [0, 0]) = x := by rw [val_app, nf_val]; simp [val]
  rw [hv] at hs
  have a := (hd.take ((nf x).length + 2 - n)).val.1
  have b := (nf_size x).2
  apply Decidable.byContradiction
  intro h
  have h3 : B ^ ((nf x).length + 2 - n) * B ^ (n - 1) ≤ B ^ ((nf x).length + 2 - n) * val ((nf x ++ [0, 0]).drop ((nf x).length + 2 - n)) := Int.mul_le_mul_of_nonneg_left (by omega) (Int.le_of_lt (pow_pos _))
  rw [← Int.pow_add, show (nf x).length + 2 - n + (n - 1) = (nf x).length + 1 from by omega] at h3
  have := pow_le (show (nf x).length ≤ (nf x).length + 1 from by omega)
  omega
theorem long_all : LongAll 100010000 := by
  intro x y x0 y0 hxy lx hy2 G va vb hw hx hy n hn
  have ly : (nf y).length ≤ 390 := Nat.le_trans (nf_len_mono (by omega) hxy) lx
  refine run_of (F := 100009999) (Q := fun r => ∃ v1 v2 G', r = some (.tuple #[v1, v2], G') ∧ RO G.length G' v1 (ints (nf (x / y))) ∧ RO G.length G' v2 (ints (nf (x % y))) ∧ Old G.length G G' ∧ WF G') (fun n hn => ?_) n hn
  rw [body_runS Try.func155 rfl (ok_fn (by rfl) Try.func155 rfl) (Nat.le_of_ble_eq_true rfl) (D := D0) (by kernel_rfl)]
  obtain ⟨t1, t2, t3⟩ := nf_last_pos y0
  have htl := top_lt y0
  generalize htop : (nf y).getD ((nf y).length - 1) 0 = top at *
  have e1 : IntKind.i64.wrap (((nf y).length : Int) - 1) = (((nf y).length - 1 : Nat) : Int) := by rw [wr64 (by omega) (by omega)]; omega
  have a1 : addrS 1 vb (vi (((nf y).length - 1 : Nat) : Int)) = some (pt vb ((nf y).length - 1)) := by have := hy.addrI (i := (((nf y).length - 1 : Nat) : Int)) (by omega) (by omega); rwa [Int.toNat_natCast] at this
  have l1 : loadS (pt vb ((nf y).length - 1)) G = some (vi top) := by rw [hy.loadI (by omega), htop]
  have e2 : IntKind.i64.wrap (top + 1) = top + 1 := wr64 (by omega) (by omega)
  have e3 : (100000000 : Int).tdiv (top + 1) = 100000000 / (top + 1) := tdiv_pos (by omega) _
  have hne : top + 1 ≠ 0 := by omega
  obtain ⟨f, hf⟩ : ∃ f : Int, f = 100000000 / (top + 1) := ⟨_, rfl⟩
  have hf1 : 1 ≤ f := by rw [hf]; exact (Int.le_ediv_iff_mul_le (by omega)).2 (by omega)
  have hf2 : f * (top + 1) ≤ 100000000 := by rw [hf]; exact Int.ediv_mul_le _ (by omega)
  have hf3 : f ≤ 50000000 := by
    have : f * 2 ≤ f * (top + 1) := Int.mul_le_mul_of_nonneg_left (by omega) (by omega)
    omega
  have e4 : IntKind.i64.wrap (100000000 / (top + 1)) = f := by rw [← hf]; exact wr64 (by omega) (by omega)
  have hlf : (nf f).length ≤ 1 := one_len (by omega) (by omega)
  -- the two products
  obtain ⟨w1, H1, s1, wh1, old1, wf1⟩ := small_run (z := f) hw (by omega) (by omega) n (by omega)
  obtain ⟨w2, H2, s2, ⟨d, rfl, hd⟩, old2, wf2⟩ := timesO_run wf1 (wh_of x0 (hx.mono old1)) (wh1.below (Nat.zero_le _)) (by rw [abs_len]; omega) (by rw [abs_len]; omega) n (by omega)
  have hX0 : 0 ≤ x * f := Int.mul_nonneg x0 (by omega)
  have hV0 : 0 < y * f := Int.mul_pos y0 (by omega)
  rw [natAbs_pos hX0] at hd
  have lX := nf_len_mul x f
  have lV := nf_len_mul y f
  have old3 := Old.app H2 [.cells H2.length true [vi 0, vi 0]]
  have wf3 := wf2.app (Nat.le_refl H2.length) (o := true) (cs := [vi 0, vi 0])
  have r3 : R (H2 ++ [.cells H2.length true [vi 0, vi 0]]) (sliceA H2.length 0 2 1) (ints [0, 0]) := .inr (.inr ⟨H2.length, 0, H2.length, true, _, rfl, by simp; rfl, by simp [ints], by simp [ints]⟩)
  have sb : ∀ (a : Fr) (dd : Option Nat) (ty : TypeId) (pos : String) (aft : Array Edge) (g : Option (Nat × Bool)), stepA Try.prog (evB Try.prog noC n) a ⟨dd, .buildSlice 22 2 #[(0, .const (vi 0)), (1, .const (vi 0))], ty, pos, aft, g⟩ H2 = some (sliceA H2.length 0 2 1, H2 ++ [.cells H2.length true [vi 0, vi 0]]) := fun a dd ty pos aft g => sy_build2 (u := vi 0) (v := vi 0) eL z2I (by simp only [ev_const]) (by simp only [ev_const]) rfl rfl
  generalize hH3 : H2 ++ [Blk.cells H2.length true [vi 0, vi 0]] = H3 at *
  have g1 := old1.1
  have g2 := old2.1
  have g3 := old3.1
  obtain ⟨vu, H4, s4, o4, old4, wf4⟩ := ((hd.mono old3).below g1).app wf3 (by omega) r3 (by simp [ints]) (by rw [ints_len]; simp [ints, maxA]; omega)
  rw [← ints_app] at o4
  have g4 := old4.1
  have om4 := OM.of o4 wf4
  have old04 : Old G.length G H4 := (old1.trans ((old2.mono g1).trans (old3.mono (by omega)))).trans old4
  obtain ⟨w5, H5, s5, wh5, old5, wf5⟩ := small_run (z := f) wf4 (by omega) (by omega) n (by omega)
  have g5 := old5.1
  obtain ⟨w6, H6, s6, ⟨dv, rfl, hdv⟩, old6, wf6⟩ := times_run wf5 (wh_of (by omega : 0 ≤ y) (hy.mono (old04.trans (old5.mono (by omega))))) (wh5.below (Nat.zero_le _)) (by rw [abs_len]; omega) (by rw [abs_len]; omega) n (by omega)
  rw [natAbs_pos (by omega : 0 ≤ y * f)] at hdv
  have g6 := old6.1
  have rm6 := RO.RM (hdv.below g5)
  have hsV : decide (y * f < 0) = false := decide_eq_false (by omega)
  have hsX : decide (x * f < 0) = false := decide_eq_false (by omega)
  rw [hsV] at s6
  rw [hsX] at s2
  -- the sizes
  have hVX : y * f ≤ x * f := Int.mul_le_mul_of_nonneg_right hxy (by omega)
  have hVB : y * f < B ^ (nf y).length := by
    have h1 : y * f < B ^ ((nf y).length - 1) * (top + 1) * f := Int.mul_lt_mul_of_pos_right htl (by omega)
    have h2 : B ^ ((nf y).length - 1) * ((top + 1) * f) ≤ B ^ ((nf y).length - 1) * 100000000 := Int.mul_le_mul_of_nonneg_left (by rw [Int.mul_comm]; exact hf2) (Int.le_of_lt (pow_pos _))
    rw [Int.mul_assoc] at h1
    have h3 := pow_succ' ((nf y).length - 1)
    rw [show (nf y).length - 1 + 1 = (nf y).length from by omega, Int.mul_comm] at h3
    omega
  have lV2 : (nf (y * f)).length ≤ (nf y).length := nf_len (by have := pow_pos (nf y).length; omega) hVB
  have hyV : y ≤ y * f := by have := Int.mul_le_mul_of_nonneg_left hf1 (by omega : 0 ≤ y); rwa [Int.mul_one] at this
  have lV3 : 2 ≤ (nf (y * f)).length := Nat.le_trans hy2 (nf_len_mono (by omega) hyV)
  have lVX : (nf (y * f)).length ≤ (nf (x * f)).length := nf_len_mono (by omega) hVX
  obtain ⟨U, hU⟩ : ∃ U, U = (nf (x * f)).length + 2 := ⟨_, rfl⟩
  have hlu : (nf (x * f) ++ [0, 0]).length = U := by simp; omega
  have hlenu := o4.R.mono ((old5.trans (old6.mono g5)) : Old H4.length H4 H6)
  have e7 : IntKind.i64.wrap ((U : Int) - ((nf (y * f)).length : Int)) = ((U - (nf (y * f)).length : Nat) : Int) := by rw [wr64 (by omega) (by omega)]; omega
  have e8 : (if (0 : Int) < ((U - (nf (y * f)).length : Nat) : Int) then ((U - (nf (y * f)).length : Nat) : Int) else 0) = ((U - (nf (y * f)).length : Nat) : Int) := if_pos (by omega)
  have hz := zeros_I (U - (nf (y * f)).length)
  have c2 : (0 : Int) ≤ ((U - (nf (y * f)).length : Nat) : Int) := by omega
  have c3 : ((U - (nf (y * f)).length : Nat) : Int) ≤ 1048576 := by omega
  have hlr : (ints (List.replicate (U - (nf (y * f)).length) (0 : Int))).length = U - (nf (y * f)).length := by rw [ints_len, List.length_replicate]
  have or := O.made (B := H6.length) (H := H6) (Nat.le_refl _) (ints (List.replicate (U - (nf (y * f)).length) (0 : Int)))
  rw [hlr] at or
  have old7 := Old.app H6 [.cells H6.length true (ints (List.replicate (U - (nf (y * f)).length) (0 : Int)))]
  have wf7 := wf6.app (Nat.le_refl H6.length) (o := true) (cs := ints (List.replicate (U - (nf (y * f)).length) (0 : Int)))
  have e9 : IntKind.i64.wrap (((U - (nf (y * f)).length : Nat) : Int) - 1) = ((U - (nf (y * f)).length : Nat) : Int) - 1 := wr64 (by omega) (by omega)
  have llu := hlenu.lenI
  rw [hlu] at llu
  have llv := hdv.R.lenI
  generalize hH7 : H6 ++ [Blk.cells H6.length true (ints (List.replicate (U - (nf (y * f)).length) (0 : Int)))] = H7 at *
  have g7 := old7.1
  have llo : lenS (sliceA H6.length 0 (U - (nf (y * f)).length) 1) = some (U - (nf (y * f)).length) := rfl
  have old47 : Old H4.length H4 H7 := (old5.trans (old6.mono g5)).trans (old7.mono (by omega))
  have hvX : val (nf (x * f) ++ [0, 0]) = x * f := by rw [val_app, nf_val]; simp [val]
  have hdL : Dg (nf (x * f) ++ [0, 0]) := (nf_dg hX0).app fun z hz => by simp at hz; subst hz; unfold B; omega
  have hTl : val ((nf (x * f) ++ [0, 0]).drop (U - (nf (y * f)).length)) < y * f := by
    have h1 := nf_app00 hX0 lV3 (by omega : (nf (y * f)).length ≤ (nf (x * f)).length + 2)
    have h2 := nf_ge hV0
    rw [hU]
    omega
  have key := fun (F : Fr) => lg_outer (B0 := G.length) (C0 := H4.length) (D0 := H6.length) (H0 := G) (vu := vu) (vv := dv) (vo := sliceA H6.length 0 (U - (nf (y * f)).length) 1) (f := f) (V := y * f) (X := x * f) (U := U) (by omega) (by omega) g7 hV0 (old04.trans (old47.mono (by omega))) wf7 (rm6.mono old7) (om4.mono old47) hlu hdL or (by omega) (by omega) (by omega) (by omega) hvX hTl n n Try.f155.ntmps (by omega) (by omega) (a := F) (k := n) (by omega)
  rw [show lgO = atC [1, 1, 1, 1, 1, 1, 0, 1, 0, 0] ((Try.f155.body).getD .skip) from rfl] at key
  simp only [Try.f155, Option.getD_some, atC] at key
  simp (disch := omega) only [Try.f155, es_seq, es_region, es_block, es_loop, es_ret, ops_nil, ops_cons, st_move, st_assign, sy_max, maxS_vi, st_fun, sy_len uL, sy_addr eL, sy_load aI, sy_bin, sy_append eL pI, sy_ext, sy_make eL yI (by decide), binS_add, binS_sub, binS_quo, bindO_some, bindF_some, bindX_normal, ev_tmp, ev_const, ev_func, putA, upd_at, Option.map_some, ↓reduceIte, Nat.reduceEqDiff, Int.toNat_natCast, frOf_0, frOf_1, List.map_cons, List.map_nil, ↓bindO_some, ↓bindF_some, ↓bindX_normal, sy_build, hy.lenI, e1, a1, l1, e2, e3, e4, bW1 va hx.scal, s1, s2, sy_field oW1, get_1, sb, s4, bW1 vb hy.scal, s5, s6, llu, llv, e7, e8, c2, c3, Int.le_refl, and_self, hz, hH7, llo, e9]
  generalize hF : upd _ 11 _ = F
  obtain ⟨r, a', H8, ev, hr, i6, i7, i10, old8, wf8, L, lo, oL, lL, dL, vL, oo, llo2, dlo, vlo⟩ := key F ⟨by subst hF; rfl, by subst hF; rfl, by subst hF; rfl, by subst hF; rfl, by subst hF; rfl, by subst hF; rfl⟩
  subst hr
  rw [ev]
  clear ev key
  have eq1 : x * f / (y * f) = x / y := Int.mul_ediv_mul_of_pos_left x y (by omega)
  have eq2 : x * f % (y * f) = (x % y) * f := by rw [Int.mul_comm x f, Int.mul_comm y f, Int.mul_emod_mul_of_pos _ _ (by omega), Int.mul_comm]
  have hr0 := Int.emod_nonneg x (by omega : y ≠ 0)
  have hr1 := Int.emod_lt_of_pos x y0
  rw [eq1] at vlo
  rw [eq2] at vL
  have hR0 : 0 ≤ (x % y) * f := Int.mul_nonneg hr0 (by omega)
  have lR : (nf ((x % y) * f)).length ≤ 900 := by
    have := nf_len_mul (x % y) f
    have := nf_len_mono hr0 (by omega : x % y ≤ y)
    omega
  obtain ⟨d1, sd1, rd1⟩ := trimmed_run oL.O.RO (by omega) n (by omega)
  rw [nf_of_digs dL vL] at rd1
  obtain ⟨d2, H9, s9, rd2, old9, wf9⟩ := short_run wf8 rd1.R hR0 (by omega : 0 < f) (by omega) lR n (by omega)
  rw [Int.mul_ediv_cancel _ (by omega : f ≠ 0)] at rd2
  obtain ⟨d3, sd3, rd3⟩ := trimmed_run (oo.mono old9).RO (by omega) n (by omega)
  rw [nf_of_digs dlo vlo] at rd3
  simp (disch := omega) only [ext_20, ext_21, bindO_some, bindF_some, bindX_normal, blkX_exit, upd_at, Option.map_some, ↓reduceIte, Nat.reduceEqDiff, ↓bindO_some, ↓bindF_some, ↓bindX_normal, fin_r, res_nil, res_tmp, pack_2, i6, i7, i10, sd1, s9, sd3, rd2.R.scal, rd3.R.scal]
  have g8 := old8.1
  have g46 : G.length ≤ H6.length := by omega
  exact ⟨_, _, _, rfl, rd3.below g46, rd2.below g8, old8.trans (old9.mono g8), wf9⟩
end Go.Proofs.Ytmmgdgmjkhcfaaa
namespace Go.Proofs.Ytmmgdgmjkhcfaaa
open Go Go.Abs Go.Num
set_option maxRecDepth 10000
attribute [local congr] bindO_congr bindF_congr bindX_congr condX_congr iteB_congr binS_congr pickS_congr eqB_congr nilS_congr clsW_congr maxS_congr minS_congr
theorem _root_.Go.Num.Part.sm {l : List Int} (h : Part l) : Sm l := ⟨by have := h.len; omega, fun x hx => by have := h.mem x hx; omega⟩
theorem _root_.Go.Num.Part.sum0 {l : List Int} (h : Part l) : 0 ≤ l.sum := by
  have : ∀ l : List Int, (∀ x ∈ l, 1 ≤ x ∧ x ≤ 20) → 0 ≤ l.sum := by
    intro l
    induction l with
    | nil => intro _; simp
    | cons x l ih =>
      intro h
      have h1 := h x (List.mem_cons_self ..)
      have h2 := ih fun y hy => h y (List.mem_cons_of_mem _ hy)
      rw [List.sum_cons]; omega
  exact this l h.mem
theorem ctimes_run {H : Heap} {vx : Value} {x z : Int} (hw : WF H) (hx : NumV H vx x) (lx : (nf x).length ≤ 380) (h1 : -4000000000000000000 ≤ z) (h2 : z ≤ 4000000000000000000) (n : Nat) (hn : 2014 ≤ n) :
    OneL H (evB Try.prog noC n (.func (.func 108) #[] #[]) [vx, vi z] H) (nf (x * z)) := by
  refine run_of (F := 2013) (Q := fun r => OneL H r (nf (x * z))) (fun n hn => ?_) n hn
  rw [body_runS Try.func108 rfl (ok_fn (by rfl) Try.func108 rfl) (Nat.le_of_ble_eq_true rfl) (D := D0) (by kernel_rfl)]
  obtain ⟨v1, H1, s1, o1, old1, wf1⟩ := of_run (z := z) hw h1 h2 n (by omega)
  have hl : (nf z).length ≤ 3 := nf_len (by rw [show B ^ 3 = 1000000000000000000000000 from rfl]; omega) (by rw [show B ^ 3 = 1000000000000000000000000 from rfl]; omega)
  obtain ⟨v2, H2, s2, o2, old2, wf2⟩ := mulP_run wf1 (hx.mono old1) (NumV.of o1.R (by omega)) (by omega) (by omega) n (by omega)
  simp (disch := omega) only [Try.f108, es_seq, es_region, es_ret, ops_nil, ops_cons, st_move, st_assign, st_fun, bindO_some, bindF_some, bindX_normal, ev_tmp, ev_const, ev_func, putA, upd_at, Option.map_some, ↓reduceIte, Nat.reduceEqDiff, frOf_0, frOf_1, List.map_cons, List.map_nil, ↓bindO_some, ↓bindF_some, ↓bindX_normal, fin_r, res_nil, res_tmp, pack_1, s1, s2, o2.R.scal]
  exact ⟨_, _, rfl, o2.below old1.1, old1.trans (old2.mono old1.1), wf2⟩
noncomputable def cfA : Code := atC [1, 1, 0, 1, 0, 0] ((Try.f73.body).getD .skip)
theorem cfact_run {H : Heap} {k : Nat} (hw : WF H) (hk : k ≤ 20) (n : Nat) (hn : 2020 ≤ n) : OneL H (evB Try.prog noC n (.func (.func 73) #[] #[]) [vi k] H) (nf (fct k)) := by
  refine run_of (F := 2019) (Q := fun r => OneL H r (nf (fct k))) (fun n hn => ?_) n hn
  rw [body_runS Try.func73 rfl (ok_fn (by rfl) Try.func73 rfl) (Nat.le_of_ble_eq_true rfl) (D := D0) (by kernel_rfl)]
  obtain ⟨v1, H1, s1, o1, old1, wf1⟩ := of_run (z := 1) hw (by omega) (by omega) n (by omega)
  have key : ∀ A : Fr, A 0 = vi k → A 3 = v1 → A 4 = vi 2 → ∃ r a' H', loopN (evS Try.prog (evB Try.prog noC n) n Try.f73.ntmps none cfA) n A H1 = some (r, a', H') ∧ r = .exit 0 ∧ ∃ vo, a' 3 = vo ∧ O H.length H' vo (ints (nf (fct k))) ∧ Old H.length H H' ∧ WF H' := by
    intro A h0 h3 h4
    refine loop_up (k - 1) (fun i a H' => a 0 = vi k ∧ a 4 = vi ((i + 2 : Nat) : Int) ∧ Old H.length H H' ∧ WF H' ∧ ∃ vo, a 3 = vo ∧ O H.length H' vo (ints (nf (fct (i + 1))))) _ ?_ ?_ (by omega) ⟨h0, h4, old1, wf1, v1, h3, o1⟩
    · intro i a H' hi ⟨h0, h4, old, hw, vo, h3, ho⟩
      left
      rw [show cfA = atC [1, 1, 0, 1, 0, 0] ((Try.f73.body).getD .skip) from rfl]
      have hlt : ((i + 2 : Nat) : Int) ≤ (k : Int) := by omega
      have e1 : IntKind.i64.wrap (((i + 2 : Nat) : Int) + 1) = ((i + 1 + 2 : Nat) : Int) := by rw [wr64 (by omega) (by omega)]; omega
      have hl := fct_len (k := i + 1) (by omega)
      obtain ⟨v2, H2, s2, o2, old2, wf2⟩ := ctimes_run (z := ((i + 2 : Nat) : Int)) hw (NumV.of ho.R (by omega)) (by omega) (by omega) (by omega) n (by omega)
      simp (disch := omega) only [Try.f73, Option.getD_some, atC, es_seq, es_region, es_cond, es_block, es_skip, ops_nil, ops_cons, st_move, st_assign, st_fun, sy_bin, binS_leq, binS_add, bindO_some, bindF_some, bindX_normal, blkX_normal, condX_true, ev_tmp, ev_const, ev_func, putA, upd_at, ↓reduceIte, Nat.reduceEqDiff, List.map_cons, List.map_nil, decide_true, ↓bindO_some, ↓bindF_some, ↓bindX_normal, ↓condX_true, h0, h3, h4, hlt, s2, e1]
      exact ⟨_, _, rfl, h0, rfl, old.trans (old2.mono old.1), wf2, v2, rfl, o2.below old.1⟩
    · intro a H' ⟨h0, h4, old, hw, vo, h3, ho⟩
      rw [show cfA = atC [1, 1, 0, 1, 0, 0] ((Try.f73.body).getD .skip) from rfl]
      have hlt : ¬ ((k - 1 + 2 : Nat) : Int) ≤ (k : Int) := by omega
      simp (disch := omega) only [Try.f73, Option.getD_some, atC, es_seq, es_region, es_cond, es_exit, ops_nil, ops_cons, st_move, sy_bin, binS_leq, bindO_some, bindF_some, bindX_normal, bindX_exit, condX_false, ev_tmp, putA, upd_at, ↓reduceIte, Nat.reduceEqDiff, decide_false, ↓bindO_some, ↓bindF_some, ↓bindX_normal, ↓bindX_exit, ↓condX_false, h0, h4, hlt]
      refine ⟨_, _, _, rfl, by simp, rfl, vo, h3, ?_, old, hw⟩
      cases k with
      | zero => exact ho
      | succ k => exact ho
  rw [show cfA = atC [1, 1, 0, 1, 0, 0] ((Try.f73.body).getD .skip) from rfl] at key
  simp only [Try.f73, Option.getD_some, atC] at key
  simp (disch := omega) only [Try.f73, es_seq, es_region, es_block, es_loop, es_ret, ops_nil, ops_cons, st_move, st_assign, st_fun, bindO_some, bindF_some, bindX_normal, ev_tmp, ev_const, ev_func, putA, upd_at, ↓reduceIte, List.map_cons, List.map_nil, ↓bindO_some, ↓bindF_some, ↓bindX_normal, s1]
  generalize hA : upd _ 4 _ = A
  obtain ⟨r, a', H', e, hr, vo, h3, ho, old, wf⟩ := key A (by subst hA; rfl) (by subst hA; rfl) (by subst hA; rfl)
  subst hr
  rw [e]
  simp (disch := omega) only [bindX_normal, blkX_exit, upd_at, Option.map_some, ↓reduceIte, ↓bindX_normal, fin_r, res_nil, res_tmp, pack_1, h3, ho.R.scal]
  exact ⟨_, _, rfl, ho, old, wf⟩
end Go.Proofs.Ytmmgdgmjkhcfaaa
namespace Go.Proofs.Ytmmgdgmjkhcfaaa
open Go Go.Abs Go.Num
set_option maxRecDepth 10000
attribute [local congr] bindO_congr bindF_congr bindX_congr condX_congr iteB_congr binS_congr pickS_congr eqB_congr nilS_congr clsW_congr maxS_congr minS_congr
theorem z2L : zeros Try.prog 22 1 2 = some [.slice none 0 0, .slice none 0 0] := by kernel_rfl
noncomputable def bld2 (t : TypeId) (u v : Value) (H : Heap) : Option (Value × Heap) := buildSliceA Try.prog t 2 [(0, u), (1, v)] H
theorem sy_bld2 {call : CallF} {a : Fr} {H : Heap} {d : Option Nat} {ty : TypeId} {pos : String} {aft : Array Edge} {g : Option (Nat × Bool)} {t : TypeId} {x y : Operand} : stepA Try.prog call a ⟨d, .buildSlice t 2 #[(0, x), (1, y)], ty, pos, aft, g⟩ H = bld2 t (ev a x) (ev a y) H := (rfl)
theorem bld2_LL {u v : Value} {H : Heap} (su : scal u = some [u]) (sv : scal v = some [v]) : bld2 53 u v H = some (sliceA H.length 0 2 1, H ++ [.cells H.length true [u, v]]) := by
  unfold bld2 buildSliceA
  simp only [eLL]
  rw [if_pos ⟨by omega, by unfold maxA; omega⟩]
  simp only [z2L, fillL, su, sv]
  rfl
def chk2 (l c : List Int) : Int := if chk l = 0 then chk c else chk l
noncomputable def chrA : Code := atC [1, 0, 1, 0, 0] ((Try.f18.body).getD .skip)
theorem chr_loop {H : Heap} {v u vl : Value} {l c : List Int} (hv : R H v (ints l)) (hu : R H u (ints c)) (hl : l.length ≤ 1000) (hc : c.length ≤ 1000) (hr : R H vl [v, u]) (n nt : Nat) (hn : 1020 ≤ n) {a0 : Fr} (h0 : a0 0 = v) (h1 : a0 1 = u) (h11 : a0 11 = vl) (h12 : a0 12 = vi (2 : Nat)) (h13 : a0 13 = vi (0 : Nat)) :
    ∃ r a' H', loopN (evS Try.prog (evB Try.prog noC n) n nt none chrA) n a0 H = some (r, a', H') ∧ H' = H ∧ ((r = .exit 0 ∧ chk l = 0 ∧ chk c = 0 ∧ a' 0 = v ∧ a' 1 = u) ∨ (r = .ret ∧ chk2 l c ≠ 0 ∧ a' 4 = .slice none 0 0 ∧ a' 5 = vi (chk2 l c))) := by
  refine loop_up 2 (fun i a H' => H' = H ∧ a 0 = v ∧ a 1 = u ∧ a 11 = vl ∧ a 12 = vi (2 : Nat) ∧ a 13 = vi i ∧ (1 ≤ i → chk l = 0) ∧ (2 ≤ i → chk c = 0)) _ ?_ ?_ (by omega) ⟨rfl, h0, h1, h11, h12, h13, fun h => by omega, fun h => by omega⟩
  · intro i a H' hi ⟨hH, h0, h1, h11, h12, h13, k1, k2⟩
    subst hH
    rw [show chrA = atC [1, 0, 1, 0, 0] ((Try.f18.body).getD .skip) from rfl]
    have hlt : (i : Int) < ((2 : Nat) : Int) := by omega
    have e1 : IntKind.i64.wrap ((i : Int) + 1) = ((i + 1 : Nat) : Int) := by rw [wr64 (by omega) (by omega)]; omega
    have a1 : addrS 1 vl (vi (i : Int)) = some (pt vl i) := by have := hr.addr (i := (i : Int)) (by omega) (by simp; omega); rwa [Int.toNat_natCast] at this
    have two : ∃ x m, loadS (pt vl i) H' = some x ∧ R H' x (ints m) ∧ m.length ≤ 1000 ∧ (i = 0 ∧ m = l ∨ i = 1 ∧ m = c) := by
      have hld := hr.load (i := i) (by simp; omega)
      match i, hi with
      | 0, _ => exact ⟨v, l, hld, hv, hl, .inl ⟨rfl, rfl⟩⟩
      | 1, _ => exact ⟨u, c, hld, hu, hc, .inr ⟨rfl, rfl⟩⟩
    obtain ⟨x, m, l1, rx, lm, hm⟩ := two
    have s1 := ccheck_run rx lm n (by omega)
    by_cases hz : chk m = 0
    · left
      have c1 : decide (chk m = 0) = true := decide_eq_true hz
      simp (disch := omega) only [Try.f18, Option.getD_some, atC, es_seq, es_region, es_cond, es_block, es_skip, ops_nil, ops_cons, st_move, st_assign, st_fun, sy_bin, binS_lss, binS_neq, binS_add, bindO_some, bindF_some, bindX_normal, blkX_normal, condX_true, condX_false, ev_tmp, ev_const, ev_func, putA, upd_at, Option.map_some, ↓reduceIte, Nat.reduceEqDiff, List.map_cons, List.map_nil, decide_true, Bool.not_true, ↓bindO_some, ↓bindF_some, ↓bindX_normal, ↓condX_true, ↓condX_false, sy_addr eLL, sy_load aL, h11, h12, h13, hlt, a1, l1, s1, c1, e1]
      refine ⟨_, _, rfl, rfl, ?_, ?_, ?_, ?_, ?_, fun h => ?_, fun h => ?_⟩
      · exact h0
      · exact h1
      · exact h11
      · exact h12
      · rfl
      · rcases hm with ⟨rfl, rfl⟩ | ⟨rfl, rfl⟩
        · exact hz
        · exact k1 (by omega)
      · rcases hm with ⟨rfl, rfl⟩ | ⟨rfl, rfl⟩
        · omega
        · exact hz
    · right
      have c1 : decide (chk m = 0) = false := decide_eq_false hz
      have hq : chk2 l c = chk m := by
        unfold chk2
        rcases hm with ⟨rfl, rfl⟩ | ⟨rfl, rfl⟩
        · rw [if_neg hz]
        · rw [if_pos (k1 (by omega))]
      simp (disch := omega) only [Try.f18, Option.getD_some, atC, es_seq, es_region, es_cond, es_block, es_skip, es_ret, ops_nil, ops_cons, st_move, st_assign, st_fun, sy_bin, binS_lss, binS_neq, bindO_some, bindF_some, bindX_normal, bindX_ret, blkX_ret, condX_true, ev_tmp, ev_const, ev_func, putA, upd_at, Option.map_some, ↓reduceIte, Nat.reduceEqDiff, List.map_cons, List.map_nil, decide_true, Bool.not_false, ↓bindO_some, ↓bindF_some, ↓bindX_normal, ↓bindX_ret, ↓condX_true, sy_addr eLL, sy_load aL, h11, h12, h13, hlt, a1, l1, s1, c1]
      refine ⟨_, _, _, rfl, by simp, rfl, .inr ⟨rfl, by rw [hq]; exact hz, ?_, ?_⟩⟩
      · rfl
      · rw [hq]; rfl
  · intro a H' ⟨hH, h0, h1, h11, h12, h13, k1, k2⟩
    subst hH
    rw [show chrA = atC [1, 0, 1, 0, 0] ((Try.f18.body).getD .skip) from rfl]
    simp (disch := omega) only [Try.f18, Option.getD_some, atC, es_seq, es_region, es_cond, es_exit, ops_nil, ops_cons, sy_bin, binS_lss, bindO_some, bindF_some, bindX_normal, bindX_exit, condX_false, ev_tmp, putA, upd_at, ↓reduceIte, decide_false, ↓bindO_some, ↓bindF_some, ↓bindX_normal, ↓bindX_exit, ↓condX_false, h12, h13, Int.lt_irrefl]
    refine ⟨_, _, _, rfl, by simp, rfl, .inl ⟨rfl, k1 (by omega), k2 (by omega), ?_, ?_⟩⟩
    · exact h0
    · exact h1
theorem WF.appMap {H : Heap} (h : WF H) (es : List (Value × Value)) : WF (H ++ [.map es]) := by
  intro b f' o' cs' hb
  by_cases hlt : b < H.length
  · rw [List.getElem?_append_left hlt] at hb; exact h b f' o' cs' hb
  · rw [List.getElem?_append_right (by omega)] at hb
    have : b - H.length = 0 := by
      have := lt_of_blk hb; simp at this; omega
    rw [this] at hb
    simp at hb
theorem sy_mkmap {call : CallF} {a : Fr} {H : Heap} {d : Option Nat} {ty : TypeId} {pos : String} {aft : Array Edge} {g : Option (Nat × Bool)} : stepA Try.prog call a ⟨d, .makeMap 76 none, ty, pos, aft, g⟩ H = some (.map (some H.length), H ++ [.map []]) := by
  show aexec Try.prog a ⟨d, .makeMap 76 none, ty, pos, aft, g⟩ H = _
  simp only [aexec, uMp]
  rfl
theorem iCh : zeroT Try.prog 78 = some (.agg #[.map none]) := by kernel_rfl
theorem uCh : Try.prog.underlying 78 = some (.struct (sfs 78)) := by kernel_rfl
theorem oCh : sizesOf Try.prog (sfs 78).toList = some [(0, 1)] := by kernel_rfl
theorem bCh (m : Nat) : buildA Try.prog 78 [(0, .map (some m))] = some (.agg #[.map (some m)]) := by
  have hb : scal (.map (some m)) = some [.map (some m)] := rfl
  simp only [buildA, iCh, uCh, oCh, fillL, hb]
  rfl
theorem scal_ch0 : scal (.agg #[.map none]) = some [.map none] := (rfl)
theorem newch_run {H : Heap} (hw : WF H) (n : Nat) (hn : 1 ≤ n) : ∃ H', evB Try.prog noC n (.func (.func 62) #[] #[]) [] H = some (.agg #[.map (some (H.length + 1))], H') ∧ H'[H.length + 1]? = some (.map []) ∧ Old H.length H H' ∧ WF H' := by
  refine run_of (F := 0) (Q := fun q => ∃ H', q = some (.agg #[.map (some (H.length + 1))], H') ∧ H'[H.length + 1]? = some (.map []) ∧ Old H.length H H' ∧ WF H') (fun n hn => ?_) n hn
  rw [body_runS Try.func62 rfl (ok_fn (by rfl) Try.func62 rfl) (Nat.le_of_ble_eq_true rfl) (D := D0) (by kernel_rfl)]
  have old1 := Old.app H [.cells H.length true [.map none]]
  have wf1 := hw.app (Nat.le_refl H.length) (o := true) (cs := [.map none])
  have hl1 : (H ++ [Blk.cells H.length true [.map none]]).length = H.length + 1 := by simp
  have b1 := BxM.made (B := H.length) (H := H) (Nat.le_refl _) [.map none]
  have old2 := Old.app (H ++ [.cells H.length true [.map none]]) [.map []]
  have wf2 := WF.appMap wf1 []
  have m2 : ((H ++ [Blk.cells H.length true [.map none]]) ++ [Blk.map []])[H.length + 1]? = some (.map []) := by rw [← hl1]; simp
  generalize hH1 : H ++ [Blk.cells H.length true [.map none]] = H1 at *
  obtain ⟨H3, s3, b3, old3, wf3, -⟩ := (b1.mono old2).store wf2 (vs := [.map (some (H.length + 1))]) rfl
  have m3 : H3[H.length + 1]? = some (.map []) := by
    obtain ⟨b, f, e1, e2, e3, e4, e5, e6⟩ := b1.mono old2
    obtain rfl : H.length = b := by
      have := e1
      simp only [ptrA, Value.pointer.injEq, Option.some.injEq, Addr.mk.injEq] at this
      exact this.1
    have e : storeN 1 (ptrA H.length 0) (.agg #[.map (some (H.length + 1))]) (H1 ++ [Blk.map []]) = some (((H1 ++ [Blk.map []]).map (truncFam f 0)).set H.length (.cells f true (setList [.map none] 0 [.map (some (H.length + 1))]))) := by
      simp [storeN, ptrA, scal_ch, Heap.write, e6]
    have s3 : storeN 1 (ptrA H.length 0) (.agg #[.map (some (H.length + 1))]) (H1 ++ [Blk.map []]) = some H3 := s3
    rw [e] at s3
    injection s3 with s3
    rw [← s3, List.getElem?_set, if_neg (by omega), List.getElem?_map, m2]
    rfl
  have s3 : storeN 1 (ptrA H.length 0) (.agg #[.map (some (H.length + 1))]) (H1 ++ [Blk.map []]) = some H3 := s3
  have ld : loadN 1 (ptrA H.length 0) H3 = some (.agg #[.map (some (H.length + 1))]) := b3.loadAll
  simp (disch := omega) only [Try.f62, es_seq, es_region, es_ret, ops_nil, ops_cons, bindO_some, bindF_some, bindX_normal, ev_tmp, putA, upd_at, Option.map_some, ↓reduceIte, Nat.reduceEqDiff, List.map_cons, List.map_nil, ↓bindO_some, ↓bindF_some, ↓bindX_normal, fin_r, res_nil, pack_1, sy_build, sy_mkmap, sy_alloc iCh scal_ch0, sy_storeN zCh, bCh, hH1, hl1, s3, res_cell aCh zCh, ld, List.map_cons, List.map_nil]
  exact ⟨_, rfl, m3, old1.trans ((old2.mono old1.1).trans old3), wf3⟩
end Go.Proofs.Ytmmgdgmjkhcfaaa
namespace Go.Proofs.Ytmmgdgmjkhcfaaa
open Go Go.Abs Go.Num
set_option maxRecDepth 10000
attribute [local congr] bindO_congr bindF_congr bindX_congr condX_congr iteB_congr binS_congr pickS_congr eqB_congr nilS_congr clsW_congr maxS_congr minS_congr
def wantC (l c : List Int) : Int := if chk2 l c = 0 then (if l.sum = c.sum then 0 else 10) else chk2 l c
theorem chrP_run {H : Heap} {v u : Value} {l c : List Int} (hw : WF H) (hv : R H v (ints l)) (hu : R H u (ints c)) (hl : l.length ≤ 1000) (hc : c.length ≤ 1000) (n : Nat) (hn : 2200 ≤ n) :
    ∃ w H', evB Try.prog noC n (.func (.func 18) #[] #[]) [v, u] H = some (.tuple #[w, vi (wantC l c)], H') ∧ Old H.length H H' ∧ WF H' ∧ (wantC l c ≠ 0 → w = .slice none 0 0) ∧ (wantC l c = 0 → O H.length H' w (ints (nf (chi c l)))) := by
  refine run_of (F := 2199) (Q := fun q => ∃ w H', q = some (.tuple #[w, vi (wantC l c)], H') ∧ Old H.length H H' ∧ WF H' ∧ (wantC l c ≠ 0 → w = .slice none 0 0) ∧ (wantC l c = 0 → O H.length H' w (ints (nf (chi c l))))) (fun n hn => ?_) n hn
  rw [body_runS Try.func18 rfl (ok_fn (by rfl) Try.func18 rfl) (Nat.le_of_ble_eq_true rfl) (D := D0) (by kernel_rfl)]
  have old1 := Old.app H [.cells H.length true [v, u]]
  have wf1 := hw.app (Nat.le_refl H.length) (o := true) (cs := [v, u])
  have r1 : R (H ++ [.cells H.length true [v, u]]) (sliceA H.length 0 2 1) [v, u] := (O.made (B := H.length) (H := H) (Nat.le_refl _) [v, u]).R
  have b1 := bld2_LL (H := H) hv.scal hu.scal
  have hv1 := hv.mono old1
  have hu1 := hu.mono old1
  have ll : lenS (sliceA H.length 0 2 1) = some 2 := rfl
  generalize hH1 : H ++ [Blk.cells H.length true [v, u]] = H1 at *
  have key := fun (A : Fr) => chr_loop (a0 := A) hv1 hu1 hl hc r1 n Try.f18.ntmps (by omega)
  rw [show chrA = atC [1, 0, 1, 0, 0] ((Try.f18.body).getD .skip) from rfl] at key
  simp only [Try.f18, Option.getD_some, atC] at key
  simp (disch := omega) only [Try.f18, es_seq, es_region, es_cond, es_block, es_loop, es_skip, es_ret, ops_nil, ops_cons, st_move, st_assign, st_fun, sy_bin, bindO_some, bindF_some, bindX_normal, ev_tmp, ev_const, ev_func, putA, upd_at, Option.map_some, ↓reduceIte, Nat.reduceEqDiff, frOf_0, frOf_1, List.map_cons, List.map_nil, ↓bindO_some, ↓bindF_some, ↓bindX_normal, sy_bld2, b1, sy_len uLL, ll]
  generalize hA : upd _ 13 _ = A
  obtain ⟨r, a', H2, s, e2, h⟩ := key A (by subst hA; rfl) (by subst hA; rfl) (by subst hA; rfl) (by subst hA; rfl) (by subst hA; rfl)
  subst e2
  rcases h with ⟨rfl, k1, k2, g0, g1⟩ | ⟨rfl, hne, g4, g5⟩
  · have hpl := chk_part k1
    have hpc := chk_part k2
    have hk : chk2 l c = 0 := by unfold chk2; rw [if_pos k1]; exact k2
    have s1 := csize_run hv1 hpl.sm n (by omega)
    have s2 := csize_run hu1 hpc.sm n (by omega)
    by_cases hq : l.sum = c.sum
    · have hwc : wantC l c = 0 := by unfold wantC; rw [if_pos hk, if_pos hq]
      have c1 : decide (l.sum = c.sum) = true := decide_eq_true hq
      obtain ⟨H3, s3, m3, old3, wf3⟩ := newch_run wf1 n (by omega)
      have t3 := old1.trans (old3.mono old1.1)
      obtain ⟨w4, H4, es, s4, r4, old4, hm4, hk4, wf4⟩ := cof_run (H2.length + 1) c hpc.len hpc.mem wf3 (hv1.mono old3) hpl (hu1.mono old3) m3 (fun e he => by cases he) n (by have := hpc.len; omega)
      have t4 : Old H2.length H3 H4 := ⟨old4.1, fun b hb => old4.2 b (by have := old3.1; omega) (by omega)⟩
      obtain ⟨w5, H5, s5, o5, old5, wf5⟩ := clone_run wf4 r4 (by have := (chi_nf (c := c) (l := l) (fun y hy => (hpc.mem y hy).1) hpc.len hpl).1; omega) n (by omega)
      simp (disch := omega) only [s, binS_neq, bindO_some, bindF_some, bindX_normal, blkX_exit, condX_false, upd_at, Option.map_some, ↓reduceIte, Nat.reduceEqDiff, Bool.not_true, ↓bindO_some, ↓bindF_some, ↓bindX_normal, ↓condX_false, fin_r, res_nil, res_tmp, pack_2, scal_vi, g0, g1, s1, s2, c1, s3, s4, s5, o5.R.scal]
      have t5 := (t3.trans (t4.mono old1.1)).trans (old5.mono (Nat.le_trans (Nat.le_trans old1.1 old3.1) old4.1))
      exact ⟨_, _, by rw [hwc], t5, wf5, fun h => absurd hwc h, fun _ => o5.below (Nat.le_trans (Nat.le_trans old1.1 old3.1) old4.1)⟩
    · have hwc : wantC l c = 10 := by unfold wantC; rw [if_pos hk, if_neg hq]
      have c1 : decide (l.sum = c.sum) = false := decide_eq_false hq
      simp (disch := omega) only [s, binS_neq, bindO_some, bindF_some, bindX_normal, bindX_ret, blkX_exit, condX_true, upd_at, Option.map_some, ↓reduceIte, Nat.reduceEqDiff, Bool.not_false, ↓bindO_some, ↓bindF_some, ↓bindX_normal, ↓bindX_ret, ↓condX_true, fin_r, res_nil, res_tmp, pack_2, scal_vi, scal_nil, g0, g1, s1, s2, c1]
      exact ⟨_, _, by rw [hwc], old1, wf1, fun _ => rfl, fun h => by rw [hwc] at h; cases h⟩
  · have hwc : wantC l c = chk2 l c := by unfold wantC; rw [if_neg hne]
    simp (disch := omega) only [s, bindX_ret, blkX_ret, Option.map_some, ↓bindX_ret, fin_r, res_nil, res_tmp, pack_2, scal_vi, scal_nil, g4, g5]
    exact ⟨_, _, by rw [hwc], old1, wf1, fun _ => rfl, fun h => by rw [hwc] at h; exact absurd h hne⟩
end Go.Proofs.Ytmmgdgmjkhcfaaa
namespace Go.Proofs.Ytmmgdgmjkhcfaaa
open Go Go.Abs
def Row (k : IntKind) (w : World) (a : Option Addr) (len cap : Nat) (zs : List Int) : Prop :=
  (a = none ∧ len = 0 ∧ cap = 0 ∧ zs = []) ∨
  ∃ x, a = some x ∧ len ≤ cap ∧ cap ≤ maxLen ∧ zs.length = cap ∧ (∀ i, i < zs.length → w.cell? (x.add i) = some (.int k (zs.getD i 0))) ∧ ∀ n ∈ zs, (Lit.int k n).wf = true
theorem row_at {w : World} {a : Option Addr} {len cap : Nat} {zs : List Int} (h : Row .i64 w a len cap zs) :
    ArgAt w (.imm (.slice none 0 0)) (.slice a len cap) ∨ ArgAt w (.imm lostSlice) (.slice a len cap) ∨ ∃ l : List Int, 0 < l.length ∧ ArgAt w (.li (ints l)) (.slice a len cap) := by
  rcases h with ⟨rfl, rfl, rfl, _⟩ | ⟨x, rfl, h1, h2, h3, h4, _⟩
  · exact .inl (.imm fun m => .a (.s .sliceNil))
  · by_cases h0 : len = 0
    · subst h0
      exact .inr (.inl (.imm fun m => .a (.s (.lost _ _ _ _))))
    · refine .inr (.inr ⟨zs.take len, by rw [List.length_take]; omega, ?_⟩)
      obtain ⟨g, o, s⟩ := x
      have hc0 := h4 0 (by omega)
      unfold World.cell? Addr.add at hc0
      simp only at hc0
      split at hc0
      case h_2 => cases hc0
      rename_i C el fr hh
      have hs : s = none := by
        cases s with
        | none => rfl
        | some p => simp at hc0
      subst hs
      have hG : w.heap[g]? = some (.cells C el fr) := hh
      have hcell : ∀ i, i < zs.length → C[o + i]? = some (.int .i64 (zs.getD i 0)) := fun i hi => by
        have := h4 i hi
        unfold World.cell? Addr.add at this
        by_cases hi0 : i = 0
        · subst hi0
          rw [if_pos rfl] at this
          simp only at this
          rw [hG] at this
          exact this
        · rw [if_neg hi0] at this
          simp only at this
          rw [hG] at this
          exact this
      have hlen : len = (zs.take len).length := by rw [List.length_take]; omega
      have hsz : o + cap ≤ C.size := by
        have := hcell (cap - 1) (by omega)
        have := Array.getElem?_eq_some_iff.1 this
        obtain ⟨h, _⟩ := this
        omega
      have key := ArgAt.li (w := w) (l := ints (zs.take len)) (g := g) (o := o) (cap := cap) hG (by rw [ints_len, ← hlen]; exact h1) hsz (fun i v hv => by
        unfold ints at hv
        rw [List.getElem?_map, List.getElem?_take] at hv
        split at hv
        · rename_i hi
          have h5 : i < zs.length := by omega
          rw [List.getElem?_eq_getElem h5] at hv
          cases hv
          rw [hcell i h5, List.getD_eq_getElem?_getD, List.getElem?_eq_getElem h5]
          rfl
        · cases hv) (fun v hv => by
        unfold ints at hv
        obtain ⟨z, _, rfl⟩ := List.mem_map.1 hv
        rfl)
      rw [ints_len, ← hlen] at key
      exact key
end Go.Proofs.Ytmmgdgmjkhcfaaa
namespace Go.Proofs.Ytmmgdgmjkhcfaaa
open Go Go.Abs
def posV (n : Nat) : Value := .int .i64 (Int.ofNat n)
def i (n : Nat) : Arg := .imm (posV n)
def lo : Arg := .imm lostSlice
def L (l : List Nat) : Arg := .li (l.map posV)
def trueR : Res := (.bool true, [])
noncomputable def run (sp : Abs.Spec) : CallFF := evF Try.prog okN (tabF sp) 200
def Seen (sp : Abs.Spec) (g : Nat) (l : List Line) : Prop := allK l (fun x => seenK (run sp) g x.1 x.2) = RC.skip
abbrev Ok (sp : Abs.Spec) : Prop := SpOk Try.prog sp
theorem ok_of {sp : Abs.Spec} (h : Ok sp) {g : Nat} {l : List Line} (hs : Seen sp g l) : ∀ x ∈ l, LineOK Try.prog g x.1 x.2 := h.seen hF hmix hs
noncomputable def lay (sp : Abs.Spec) (g : Nat) (l : List Line) : Abs.Spec := sp.add g (linesT (treeOf l))
def isTrue (r : RC) : Bool := match r with
  | .val (.bool true) _ => true
  | _ => false
end Go.Proofs.Ytmmgdgmjkhcfaaa
namespace Go.Proofs.Ytmmgdgmjkhcfaaa
open Go Go.Abs
theorem awake_line : LineOK Try.prog 15 [] trueR :=
  ok_of (noSpec_good _) (l := [([], trueR)]) (show Seen noSpec 15 [([], trueR)] from by unfold Seen; kernel_rfl) _ (List.mem_singleton.2 rfl)
end Go.Proofs.Ytmmgdgmjkhcfaaa
namespace Go.Proofs.Ytmmgdgmjkhcfaaa
open Go Go.Abs
set_option maxRecDepth 10000
noncomputable def awkS : Nat → List Arg → Option Res := fun f xs => match xs with
  | [] => if f = 15 then some trueR else none
  | _ => none
theorem awkS_ok : ∀ f xs r, awkS f xs = some r → LineOK Try.prog f xs r := by
  intro f xs r h
  unfold awkS at h
  split at h
  · split at h
    · rename_i hf; subst hf; cases h; exact awake_line
    · cases h
  · cases h
noncomputable def callA (n : Nat) : CallF := Abs.orC (tabC awkS) (evB Try.prog noC n)
theorem callA_ok (n : Nat) : CallOK Try.prog (callA n) := Abs.orC_ok (tabC_ok awkS_ok) (evB_ok hmix noC_ok noC_grow n)
theorem callA_grow (n : Nat) : CallGrow (callA n) := Abs.orC_grow (tabC_grow _) (evB_grow noC_grow n)
theorem ca_other {n f : Nat} {args : List Value} {H : Heap} (h : f ≠ 15) : callA n (.func (.func f) #[] #[]) args H = evB Try.prog noC n (.func (.func f) #[] #[]) args H := by
  unfold callA Abs.orC
  have e : tabC awkS (.func (.func f) #[] #[]) args H = none := by
    unfold tabC
    simp only
    split
    · split
      · rename_i xs _
        have : awkS f xs = none := by
          unfold awkS
          split
          · rw [if_neg h]
          · rfl
        rw [this]
      · rfl
    · rfl
  rw [e]
theorem ca_awake {n : Nat} {H : Heap} : callA n (.func (.func 15) #[] #[]) [] H = some (.bool true, H) := by
  unfold callA Abs.orC
  have e : tabC awkS (.func (.func 15) #[] #[]) [] H = some (.bool true, H ++ []) := rfl
  rw [e, List.append_nil]
end Go.Proofs.Ytmmgdgmjkhcfaaa
namespace Go.Proofs.Ytmmgdgmjkhcfaaa
open Go Go.Abs Go.Num
set_option maxRecDepth 10000
attribute [local congr] bindO_congr bindF_congr bindX_congr condX_congr iteB_congr binS_congr pickS_congr eqB_congr nilS_congr clsW_congr maxS_congr minS_congr
theorem row_two {w : World} {a b : Option Addr} {len cap len' cap' : Nat} {zs zs' : List Int} (h : Row .i64 w a len cap zs) (h' : Row .i64 w b len' cap' zs') : ∃ (x y : Arg) (l c : List Int) (v u : Value), ArgAt w x (.slice a len cap) ∧ ArgAt w y (.slice b len' cap') ∧ mkVals 0 [x, y] = [v, u] ∧ R (mkHeap 0 [x, y]) v (ints l) ∧ R (mkHeap 0 [x, y]) u (ints c) ∧ WF (mkHeap 0 [x, y]) := by
  have w1 : ∀ m : List Value, WF [.cells 0 false m] := fun m b f o cs hb => by
    cases b with
    | zero => simp at hb; omega
    | succ b => simp at hb
  have w2 : ∀ m k : List Value, WF [.cells 0 false m, .cells 1 false k] := fun m k b f o cs hb => by
    match b with
    | 0 => simp at hb; omega
    | 1 => simp at hb; omega
    | b + 2 => simp at hb
  have w0 : WF [] := fun b f o cs hb => by simp at hb
  have r1 : ∀ (l : List Int) (H : Heap) (j : Nat), H[j]? = some (.cells j false (ints l)) → R H (sliceA j 0 (ints l).length 1) (ints l) := fun l H j h => .inr (.inr ⟨j, 0, j, false, ints l, rfl, h, by simp, by simp⟩)
  rcases row_at h with h | h | ⟨l, hl, h⟩ <;> rcases row_at h' with h' | h' | ⟨c, hc, h'⟩
  · exact ⟨_, _, [], [], _, _, h, h', rfl, .inl ⟨rfl, rfl⟩, .inl ⟨rfl, rfl⟩, w0⟩
  · exact ⟨_, _, [], [], _, _, h, h', rfl, .inl ⟨rfl, rfl⟩, .inr (.inl ⟨rfl, rfl⟩), w0⟩
  · exact ⟨_, _, [], c, _, _, h, h', rfl, .inl ⟨rfl, rfl⟩, r1 c _ 0 rfl, w1 _⟩
  · exact ⟨_, _, [], [], _, _, h, h', rfl, .inr (.inl ⟨rfl, rfl⟩), .inl ⟨rfl, rfl⟩, w0⟩
  · exact ⟨_, _, [], [], _, _, h, h', rfl, .inr (.inl ⟨rfl, rfl⟩), .inr (.inl ⟨rfl, rfl⟩), w0⟩
  · exact ⟨_, _, [], c, _, _, h, h', rfl, .inr (.inl ⟨rfl, rfl⟩), r1 c _ 0 rfl, w1 _⟩
  · exact ⟨_, _, l, [], _, _, h, h', rfl, r1 l _ 0 rfl, .inl ⟨rfl, rfl⟩, w1 _⟩
  · exact ⟨_, _, l, [], _, _, h, h', rfl, r1 l _ 0 rfl, .inr (.inl ⟨rfl, rfl⟩), w1 _⟩
  · exact ⟨_, _, l, c, _, _, h, h', rfl, r1 l _ 0 rfl, r1 c _ 1 rfl, w2 _ _⟩
end Go.Proofs.Ytmmgdgmjkhcfaaa
namespace Go.Proofs.Ytmmgdgmjkhcfaaa
open Go Go.Abs Go.Num
set_option maxRecDepth 10000
attribute [local congr] bindO_congr bindF_congr bindX_congr condX_congr iteB_congr binS_congr pickS_congr eqB_congr nilS_congr clsW_congr maxS_congr minS_congr
noncomputable def hooA : Code := atC [1, 1, 1, 0, 1, 0, 0] ((Try.f91.body).getD .skip)
noncomputable def hooB : Code := atC [1, 1, 1, 0, 1, 0, 0, 1, 1, 0, 0, 1, 1, 0, 1, 0, 0] ((Try.f91.body).getD .skip)
theorem hk_inner {H : Heap} {vp vq : Value} {l : List Int} (hp : Part l) {i : Nat} (hi : i < l.length) (hw : WF H) (hq : R H vq (ints (conjP l))) (call : CallF) (m nt : Nat) {a : Fr} {k : Nat} (hk : 30 ≤ k) {v4 v12 v13 : Value} (h3 : a 3 = vq) (h4 : a 4 = v4) (h5 : a 5 = vi i) (h6 : a 6 = vi (l.getD i 0)) (h7 : a 7 = .slice none 0 0) (h11 : a 11 = vp) (h12 : a 12 = v12) (h13 : a 13 = v13) (h18 : a 18 = vi (l.getD i 0)) (h19 : a 19 = vi (0 : Nat)) :
    ∃ r a' H', loopN (evS Try.prog call m nt none hooB) k a H = some (r, a', H') ∧ r = .exit 2 ∧ a' 3 = vq ∧ a' 4 = v4 ∧ a' 11 = vp ∧ a' 12 = v12 ∧ a' 13 = v13 ∧ Old H.length H H' ∧ WF H' ∧ ∃ vr, a' 7 = vr ∧ O H.length H' vr (ints (hookRow l i)) := by
  have hg := hp.getD hi
  refine loop_up (l.getD i 0).toNat (fun j a H' => a 3 = vq ∧ a 4 = v4 ∧ a 5 = vi i ∧ a 6 = vi (l.getD i 0) ∧ a 11 = vp ∧ a 12 = v12 ∧ a 13 = v13 ∧ a 18 = vi (l.getD i 0) ∧ a 19 = vi j ∧ Old H.length H H' ∧ WF H' ∧ ∃ vr, a 7 = vr ∧ O H.length H' vr (ints ((List.range j).map (hkV l i)))) _ ?_ ?_ (by omega) ⟨h3, h4, h5, h6, h11, h12, h13, h18, h19, Old.refl _ _, hw, _, h7, O.nil _ _⟩
  · intro j a H' hj ⟨h3, h4, h5, h6, h11, h12, h13, h18, h19, old, hw, vr, h7, ho⟩
    left
    rw [show hooB = atC [1, 1, 1, 0, 1, 0, 0, 1, 1, 0, 0, 1, 1, 0, 1, 0, 0] ((Try.f91.body).getD .skip) from rfl]
    obtain ⟨b1, b2, b3, b4, b5⟩ := hk_bd hp hi hj
    have hq' := hq.mono old
    have hlen := hp.len
    have hlt : (j : Int) < l.getD i 0 := by omega
    have e1 : IntKind.i64.wrap (l.getD i 0 - (j : Int)) = l.getD i 0 - (j : Int) := wr64 (by omega) (by omega)
    have e2 : IntKind.i64.wrap (l.getD i 0 - (j : Int) + (conjP l).getD j 0) = l.getD i 0 - (j : Int) + (conjP l).getD j 0 := wr64 (by omega) (by omega)
    have e3 : IntKind.i64.wrap (l.getD i 0 - (j : Int) + (conjP l).getD j 0 - (i : Int)) = l.getD i 0 - (j : Int) + (conjP l).getD j 0 - (i : Int) := wr64 (by omega) (by omega)
    have e4 : IntKind.i64.wrap (l.getD i 0 - (j : Int) + (conjP l).getD j 0 - (i : Int) - 1) = hkV l i j := wr64 (by omega) (by omega)
    have e5 : IntKind.i64.wrap ((j : Int) + 1) = ((j + 1 : Nat) : Int) := by rw [wr64 (by omega) (by omega)]; omega
    obtain ⟨v2, H2, s2, o2, old2, wf2⟩ := ho.pushI hw old.1 (by rw [List.length_map, List.length_range]; unfold maxA; omega) (hkV l i j)
    simp (disch := omega) only [Try.f91, Option.getD_some, atC, es_seq, es_region, es_cond, es_block, es_skip, ops_nil, ops_cons, st_move, st_assign, sy_addr eL, sy_load aI, sy_bin, sy_append eL pI, sy_build1 eL oI, binS_lss, binS_add, binS_sub, bindO_some, bindF_some, bindX_normal, blkX_normal, condX_true, ev_tmp, ev_const, putA, upd_at, Option.map_some, ↓reduceIte, Nat.reduceEqDiff, Int.toNat_natCast, decide_true, ↓bindO_some, ↓bindF_some, ↓bindX_normal, ↓condX_true, scal_vi, h3, h5, h6, h7, h18, h19, hlt, hq'.addrI, hq'.loadI, e1, e2, e3, e4, scal_vi, s2, e5]
    exact ⟨_, _, rfl, h3, h4, h5, h6, h11, h12, h13, h18, rfl, old.trans old2, wf2, v2, rfl, by rw [map_range_succ]; exact o2⟩
  · intro a H' ⟨h3, h4, h5, h6, h11, h12, h13, h18, h19, old, hw, vr, h7, ho⟩
    rw [show hooB = atC [1, 1, 1, 0, 1, 0, 0, 1, 1, 0, 0, 1, 1, 0, 1, 0, 0] ((Try.f91.body).getD .skip) from rfl]
    have hlt : ¬ (((l.getD i 0).toNat : Nat) : Int) < l.getD i 0 := by omega
    simp (disch := omega) only [Try.f91, Option.getD_some, atC, es_seq, es_region, es_cond, es_exit, ops_nil, ops_cons, sy_bin, binS_lss, bindO_some, bindF_some, bindX_normal, bindX_exit, condX_false, ev_tmp, putA, upd_at, ↓reduceIte, decide_false, ↓bindO_some, ↓bindF_some, ↓bindX_normal, ↓bindX_exit, ↓condX_false, h18, h19, hlt]
    exact ⟨_, _, _, rfl, by simp, rfl, h3, h4, h11, h12, h13, old, hw, vr, h7, ho⟩
def OneLL (H : Heap) (r : Option (Value × Heap)) (ls : List (List Int)) : Prop := ∃ v H', r = some (v, H') ∧ OL H.length H' v ls ∧ Old H.length H H' ∧ WF H'
theorem hooks_run {H : Heap} {v : Value} {l : List Int} (hw : WF H) (hv : R H v (ints l)) (hp : Part l) (n : Nat) (hn : 1020 ≤ n) : OneLL H (evB Try.prog noC n (.func (.func 91) #[] #[]) [v] H) (hooksL l) := by
  refine run_of (F := 1019) (Q := fun r => OneLL H r (hooksL l)) (fun n hn => ?_) n hn
  rw [body_runS Try.func91 rfl (ok_fn (by rfl) Try.func91 rfl) (Nat.le_of_ble_eq_true rfl) (D := D0) (by kernel_rfl)]
  have hl := hp.len
  have hl0 : 0 ≤ l.getD 0 0 ∧ l.getD 0 0 ≤ 1000 := by have := hp.sm.getD 0; by_cases h : 0 < l.length
                                                      · have := hp.getD h; omega
                                                      · rw [List.getD_eq_getElem?_getD, List.getElem?_eq_none (by omega)]; simp
  obtain ⟨vq, H1, s1, oq, old1, wf1⟩ := conj_run hw hv (by omega) hl0.1 hl0.2 n (by omega)
  have hv1 := hv.mono old1
  have key : ∀ A : Fr, A 3 = vq → A 4 = .slice none 0 0 → A 11 = v → A 12 = vi l.length → A 13 = vi (0 : Nat) → ∃ r a' H', loopN (evS Try.prog (evB Try.prog noC n) n Try.f91.ntmps none hooA) n A H1 = some (r, a', H') ∧ r = .exit 0 ∧ ∃ vo, a' 4 = vo ∧ OL H.length H' vo (hooksL l) ∧ Old H.length H H' ∧ WF H' := by
    intro A h3 h4 h11 h12 h13
    refine loop_up l.length (fun i a H' => a 3 = vq ∧ a 11 = v ∧ a 12 = vi l.length ∧ a 13 = vi i ∧ Old H1.length H1 H' ∧ WF H' ∧ ∃ vo, a 4 = vo ∧ OL H1.length H' vo ((List.range i).map (hookRow l))) _ ?_ ?_ (by omega) ⟨h3, h11, h12, h13, Old.refl _ _, wf1, _, h4, OG.nil _ _⟩
    · intro i a H' hi ⟨h3, h11, h12, h13, old, hw, vo, h4, ho⟩
      left
      rw [show hooA = atC [1, 1, 1, 0, 1, 0, 0] ((Try.f91.body).getD .skip) from rfl]
      have hv' := hv1.mono old
      have hq' := oq.R.mono old
      have hlt : (i : Int) < l.length := by omega
      have e1 : IntKind.i64.wrap ((i : Int) + 1) = ((i + 1 : Nat) : Int) := by rw [wr64 (by omega) (by omega)]; omega
      have k1 := fun (F : Fr) => hk_inner (vp := v) hp hi hw hq' (evB Try.prog noC n) n Try.f91.ntmps (a := F) (k := n) (v4 := vo) (v12 := vi l.length) (v13 := vi i) (by omega)
      rw [show hooB = atC [1, 1, 1, 0, 1, 0, 0, 1, 1, 0, 0, 1, 1, 0, 1, 0, 0] ((Try.f91.body).getD .skip) from rfl] at k1
      simp only [Try.f91, Option.getD_some, atC] at k1
      simp (disch := omega) only [Try.f91, Option.getD_some, atC, es_seq, es_region, es_cond, es_block, es_loop, es_skip, ops_nil, ops_cons, st_move, st_assign, sy_addr eL, sy_load aI, sy_bin, binS_lss, bindO_some, bindF_some, bindX_normal, condX_true, ev_tmp, ev_const, putA, upd_at, Option.map_some, ↓reduceIte, Nat.reduceEqDiff, Int.toNat_natCast, decide_true, ↓bindO_some, ↓bindF_some, ↓bindX_normal, ↓condX_true, h11, h12, h13, hlt, hv'.addrI, hv'.loadI]
      generalize hF : upd _ 19 _ = F
      obtain ⟨r, a', H3, e, hr, g3, g4, g11, g12, g13, old3, wf3, vr, g7, hrow⟩ := k1 F (by subst hF; exact h3) (by subst hF; exact h4) (by subst hF; rfl) (by subst hF; rfl) (by subst hF; rfl) (by subst hF; exact h11) (by subst hF; exact h12) (by subst hF; exact h13) (by subst hF; rfl) (by subst hF; rfl)
      subst hr
      rw [e]
      clear e k1
      obtain ⟨v2, H4, s4, o4, old4, wf4⟩ := OL.push ho old3 wf3 old.1 hrow (Nat.le_refl _) (by rw [List.length_map, List.length_range]; unfold maxA; omega)
      simp (disch := omega) only [binS_add, bindO_some, bindF_some, bindX_normal, blkX_normal, blkX_exit, ev_tmp, upd_at, ↓reduceIte, Nat.reduceEqDiff, ↓bindO_some, ↓bindF_some, ↓bindX_normal, sy_appN eLL pLL, sy_build1 eLL oLL, g4, g7, g13, hrow.R.scal, s4, e1]
      exact ⟨_, _, rfl, g3, g11, g12, rfl, (old.trans (old3.mono old.1)).trans old4, wf4, v2, rfl, by rw [map_range_succ]; exact o4⟩
    · intro a H' ⟨h3, h11, h12, h13, old, hw, vo, h4, ho⟩
      rw [show hooA = atC [1, 1, 1, 0, 1, 0, 0] ((Try.f91.body).getD .skip) from rfl]
      simp (disch := omega) only [Try.f91, Option.getD_some, atC, es_seq, es_region, es_cond, es_exit, ops_nil, ops_cons, sy_bin, binS_lss, bindO_some, bindF_some, bindX_normal, bindX_exit, condX_false, ev_tmp, putA, upd_at, ↓reduceIte, decide_false, ↓bindO_some, ↓bindF_some, ↓bindX_normal, ↓bindX_exit, ↓condX_false, h12, h13, Int.lt_irrefl]
      exact ⟨_, _, _, rfl, by simp, rfl, vo, h4, OG.below ho old1.1, old1.trans (old.mono old1.1), hw⟩
  rw [show hooA = atC [1, 1, 1, 0, 1, 0, 0] ((Try.f91.body).getD .skip) from rfl] at key
  simp only [Try.f91, Option.getD_some, atC] at key
  simp (disch := omega) only [Try.f91, es_seq, es_region, es_block, es_loop, es_ret, ops_nil, ops_cons, st_move, st_assign, st_fun, sy_len uL, bindO_some, bindF_some, bindX_normal, ev_tmp, ev_const, ev_func, putA, upd_at, Option.map_some, ↓reduceIte, Nat.reduceEqDiff, frOf_0, List.map_cons, List.map_nil, ↓bindO_some, ↓bindF_some, ↓bindX_normal, s1, hv1.lenI]
  generalize hA : upd _ 13 _ = A
  obtain ⟨r, a', H', e, hr, vo, h4, ho, old, wf⟩ := key A (by subst hA; rfl) (by subst hA; rfl) (by subst hA; rfl) (by subst hA; rfl) (by subst hA; rfl)
  subst hr
  rw [e]
  simp (disch := omega) only [bindX_normal, blkX_exit, upd_at, Option.map_some, ↓reduceIte, ↓bindX_normal, fin_r, res_nil, res_tmp, pack_1, h4, ho.RL.scal]
  exact ⟨_, _, rfl, ho, old, wf⟩
end Go.Proofs.Ytmmgdgmjkhcfaaa
namespace Go.Proofs.Ytmmgdgmjkhcfaaa
open Go Go.Abs Go.Num
set_option maxRecDepth 10000
attribute [local congr] bindO_congr bindF_congr bindX_congr condX_congr iteB_congr binS_congr pickS_congr eqB_congr nilS_congr clsW_congr maxS_congr minS_congr
theorem row_take {r : List Int} {j : Nat} (h : j < r.length) (t : List Int) : t ++ r.take (j + 1) = (t ++ r.take j) ++ [r.getD j 0] := by rw [take_snoc' h, List.append_assoc]
noncomputable def dmA : Code := atC [1, 1, 0, 1, 0, 0] ((Try.f82.body).getD .skip)
noncomputable def dmB : Code := atC [1, 1, 0, 1, 0, 0, 1, 1, 0, 0, 1, 1, 0, 0] ((Try.f82.body).getD .skip)
theorem dm_inner {B0 : Nat} {H0 H : Heap} {vr vh vo : Value} {l : List Int} (hp : Part l) {i : Nat} (hi : i < l.length) (hB : B0 = H0.length) (old : Old B0 H0 H) (hw : WF H) (hr : R H vr (ints (hookRow l i))) (ho : O B0 H vo (ints (nf (prodL (hkT l i))))) (n m nt : Nat) (hn : 2020 ≤ n) {a : Fr} {k : Nat} (hk : 30 ≤ k) {v0 v11 v12 : Value} (h0 : a 0 = v0) (h3 : a 3 = vo) (h10 : a 10 = vh) (h11 : a 11 = v11) (h12 : a 12 = v12) (h16 : a 16 = vr) (h17 : a 17 = vi (hookRow l i).length) (h18 : a 18 = vi (0 : Nat)) :
    ∃ r a' H', loopN (evS Try.prog (evB Try.prog noC n) m nt none dmB) k a H = some (r, a', H') ∧ r = .exit 2 ∧ a' 0 = v0 ∧ a' 10 = vh ∧ a' 11 = v11 ∧ a' 12 = v12 ∧ Old H.length H H' ∧ WF H' ∧ ∃ vo, a' 3 = vo ∧ O B0 H' vo (ints (nf (prodL (hkT l (i + 1))))) := by
  have hg := hp.getD hi
  have hrl := hookRow_len l i
  refine loop_up (hookRow l i).length (fun j a H' => a 0 = v0 ∧ a 10 = vh ∧ a 11 = v11 ∧ a 12 = v12 ∧ a 16 = vr ∧ a 17 = vi (hookRow l i).length ∧ a 18 = vi j ∧ Old H.length H H' ∧ WF H' ∧ ∃ vo, a 3 = vo ∧ O B0 H' vo (ints (nf (prodL (hkT l i ++ (hookRow l i).take j))))) _ ?_ ?_ (by omega) ⟨h0, h10, h11, h12, h16, h17, h18, Old.refl _ _, hw, vo, h3, by rw [List.take_zero, List.append_nil]; exact ho⟩
  · intro j a H' hj ⟨h0, h10, h11, h12, h16, h17, h18, old2, hw, vo, h3, ho⟩
    left
    rw [show dmB = atC [1, 1, 0, 1, 0, 0, 1, 1, 0, 0, 1, 1, 0, 0] ((Try.f82.body).getD .skip) from rfl]
    have hr' := hr.mono old2
    have hlt : (j : Int) < (hookRow l i).length := by omega
    have e5 : IntKind.i64.wrap ((j : Int) + 1) = ((j + 1 : Nat) : Int) := by rw [wr64 (by omega) (by omega)]; omega
    have hm := hookRow_mem hp hi _ (getD_mem hj)
    have hb := dim_bd hp hi (Nat.le_of_lt hj)
    obtain ⟨v2, H2, s2, o2, old3, wf2⟩ := ctimes_run (z := (hookRow l i).getD j 0) hw (NumV.of ho.R (by omega)) (by omega) (by omega) (by omega) n (by omega)
    simp (disch := omega) only [Try.f82, Option.getD_some, atC, es_seq, es_region, es_cond, es_block, es_skip, ops_nil, ops_cons, st_move, st_assign, st_fun, sy_addr eL, sy_load aI, sy_bin, binS_lss, binS_add, bindO_some, bindF_some, bindX_normal, blkX_normal, condX_true, ev_tmp, ev_const, ev_func, putA, upd_at, Option.map_some, ↓reduceIte, Nat.reduceEqDiff, Int.toNat_natCast, List.map_cons, List.map_nil, decide_true, ↓bindO_some, ↓bindF_some, ↓bindX_normal, ↓condX_true, h3, h16, h17, h18, hlt, hr'.addrI, hr'.loadI, s2, e5]
    have g0 := old.1
    have g2 := old2.1
    exact ⟨_, _, rfl, h0, h10, h11, h12, h16, h17, rfl, old2.trans (old3.mono old2.1), wf2, v2, rfl, by rw [row_take hj, prodL_snoc]; exact o2.below (by omega)⟩
  · intro a H' ⟨h0, h10, h11, h12, h16, h17, h18, old2, hw, vo, h3, ho⟩
    rw [show dmB = atC [1, 1, 0, 1, 0, 0, 1, 1, 0, 0, 1, 1, 0, 0] ((Try.f82.body).getD .skip) from rfl]
    simp (disch := omega) only [Try.f82, Option.getD_some, atC, es_seq, es_region, es_cond, es_exit, ops_nil, ops_cons, sy_bin, binS_lss, bindO_some, bindF_some, bindX_normal, bindX_exit, condX_false, ev_tmp, putA, upd_at, ↓reduceIte, decide_false, ↓bindO_some, ↓bindF_some, ↓bindX_normal, ↓bindX_exit, ↓condX_false, h17, h18, Int.lt_irrefl]
    exact ⟨_, _, _, rfl, by simp, rfl, h0, h10, h11, h12, old2, hw, vo, h3, by rw [List.take_length] at ho; rw [hkT_succ hi]; exact ho⟩
theorem dim_run {H : Heap} {v : Value} {l : List Int} (hw : WF H) (hv : R H v (ints l)) (hp : Part l) (n : Nat) (hn : 100020000 ≤ n) : OneL H (evB Try.prog noC n (.func (.func 82) #[] #[]) [v] H) (nf (dimZ l)) := by
  refine run_of (F := 100019999) (Q := fun r => OneL H r (nf (dimZ l))) (fun n hn => ?_) n hn
  rw [body_runS Try.func82 rfl (ok_fn (by rfl) Try.func82 rfl) (Nat.le_of_ble_eq_true rfl) (D := D0) (by kernel_rfl)]
  have hl := hp.len
  have hs0 := hp.sum0
  have hs1 := hp.sum
  obtain ⟨v1, H1, s1, o1, old1, wf1⟩ := of_run (z := 1) hw (by omega) (by omega) n (by omega)
  obtain ⟨vh, H2, s2, oh, old2, wf2⟩ := hooks_run wf1 (hv.mono old1) hp n (by omega)
  have rl2 := oh.RL
  have ll2 := RG.len rl2
  rw [hooksL_len] at ll2
  have old02 := old1.trans (old2.mono old1.1)
  have g1 := old1.1
  have g2 := old2.1
  have key : ∀ A : Fr, A 0 = v → A 3 = v1 → A 10 = vh → A 11 = vi l.length → A 12 = vi (0 : Nat) → ∃ r a' H', loopN (evS Try.prog (evB Try.prog noC n) n Try.f82.ntmps none dmA) n A H2 = some (r, a', H') ∧ r = .exit 0 ∧ a' 0 = v ∧ ∃ vo, a' 3 = vo ∧ O H.length H' vo (ints (nf (prodL (hkT l l.length)))) ∧ Old H.length H H' ∧ WF H' := by
    intro A h0 h3 h10 h11 h12
    refine loop_up l.length (fun i a H' => a 0 = v ∧ a 10 = vh ∧ a 11 = vi l.length ∧ a 12 = vi i ∧ Old H2.length H2 H' ∧ WF H' ∧ ∃ vo, a 3 = vo ∧ O H.length H' vo (ints (nf (prodL (hkT l i))))) _ ?_ ?_ (by omega) ⟨h0, h10, h11, h12, Old.refl _ _, wf2, v1, h3, o1.mono old2⟩
    · intro i a H' hi ⟨h0, h10, h11, h12, old, hw, vo, h3, ho⟩
      left
      rw [show dmA = atC [1, 1, 0, 1, 0, 0] ((Try.f82.body).getD .skip) from rfl]
      have hlt : (i : Int) < l.length := by omega
      have e1 : IntKind.i64.wrap ((i : Int) + 1) = ((i + 1 : Nat) : Int) := by rw [wr64 (by omega) (by omega)]; omega
      have rl' := rl2.mono old
      obtain ⟨vr, lr, hr⟩ := rl'.row (i := i) (by rw [hooksL_len]; exact hi)
      rw [hooksL_get hi] at hr
      have ad := rl'.addr (i := i) (by rw [hooksL_len]; exact hi)
      have hrl := hookRow_len l i
      have hg := hp.getD hi
      have k1 := fun (F : Fr) => dm_inner (vh := vh) hp hi rfl (old02.trans (old.mono (by omega))) hw hr ho n n Try.f82.ntmps (by omega) (a := F) (k := n) (v0 := v) (v11 := vi l.length) (v12 := vi i) (by omega)
      rw [show dmB = atC [1, 1, 0, 1, 0, 0, 1, 1, 0, 0, 1, 1, 0, 0] ((Try.f82.body).getD .skip) from rfl] at k1
      simp only [Try.f82, Option.getD_some, atC] at k1
      simp (disch := omega) only [Try.f82, Option.getD_some, atC, es_seq, es_region, es_cond, es_block, es_loop, es_skip, ops_nil, ops_cons, st_move, st_assign, sy_len uL, sy_bin, binS_lss, bindO_some, bindF_some, bindX_normal, condX_true, ev_tmp, ev_const, putA, upd_at, Option.map_some, ↓reduceIte, Nat.reduceEqDiff, decide_true, ↓bindO_some, ↓bindF_some, ↓bindX_normal, ↓condX_true, sy_load aL, sy_addr eLL, h10, h11, h12, hlt, ad, lr, hr.lenI]
      generalize hF : upd _ 18 _ = F
      obtain ⟨r, a', H3, e, hr', g0, g10, g11, g12, old3, wf3, vo3, g3, ho3⟩ := k1 F (by subst hF; exact h0) (by subst hF; exact h3) (by subst hF; exact h10) (by subst hF; exact h11) (by subst hF; exact h12) (by subst hF; rfl) (by subst hF; rfl) (by subst hF; rfl)
      subst hr'
      rw [e]
      clear e k1
      simp (disch := omega) only [binS_add, bindO_some, bindF_some, bindX_normal, blkX_normal, blkX_exit, ↓reduceIte, ↓bindO_some, ↓bindF_some, ↓bindX_normal, g12, e1]
      exact ⟨_, _, rfl, g0, g10, g11, rfl, old.trans (old3.mono old.1), wf3, vo3, g3, ho3⟩
    · intro a H' ⟨h0, h10, h11, h12, old, hw, vo, h3, ho⟩
      rw [show dmA = atC [1, 1, 0, 1, 0, 0] ((Try.f82.body).getD .skip) from rfl]
      simp (disch := omega) only [Try.f82, Option.getD_some, atC, es_seq, es_region, es_cond, es_exit, ops_nil, ops_cons, sy_bin, binS_lss, bindO_some, bindF_some, bindX_normal, bindX_exit, condX_false, ev_tmp, putA, upd_at, ↓reduceIte, decide_false, ↓bindO_some, ↓bindF_some, ↓bindX_normal, ↓bindX_exit, ↓condX_false, h11, h12, Int.lt_irrefl]
      exact ⟨_, _, _, rfl, by simp, rfl, h0, vo, h3, ho, old02.trans (old.mono (by omega)), hw⟩
  rw [show dmA = atC [1, 1, 0, 1, 0, 0] ((Try.f82.body).getD .skip) from rfl] at key
  simp only [Try.f82, Option.getD_some, atC] at key
  simp (disch := omega) only [Try.f82, es_seq, es_region, es_block, es_loop, es_ret, ops_nil, ops_cons, st_move, st_assign, st_fun, bindO_some, bindF_some, bindX_normal, ev_tmp, ev_const, ev_func, putA, upd_at, Option.map_some, ↓reduceIte, Nat.reduceEqDiff, frOf_0, List.map_cons, List.map_nil, ↓bindO_some, ↓bindF_some, ↓bindX_normal, sy_len uLL, s1, s2, ll2]
  generalize hA : upd _ 12 _ = A
  obtain ⟨r, a', H', e, hr, h0, vo, h3, ho, old, wf⟩ := key A (by subst hA; rfl) (by subst hA; rfl) (by subst hA; rfl) (by subst hA; rfl) (by subst hA; rfl)
  subst hr
  rw [e]
  clear e key
  have s3 := csize_run (hv.mono old) hp.sm n (by omega)
  rw [show l.sum = ((l.sum.toNat : Nat) : Int) from by omega] at s3
  have lf := fct_len (k := l.sum.toNat) (by omega)
  have pf := fct_le (k := l.sum.toNat) (by omega)
  have hd := dimT_bd hp
  obtain ⟨v4, H4, s4, o4, old4, wf4⟩ := cfact_run (k := l.sum.toNat) wf (by omega) n (by omega)
  obtain ⟨v5, H5, s5, o5, old5, wf5⟩ := overC_run long_all wf4 (NumV.of o4.R (by omega)) (NumV.of (ho.R.mono old4) (by omega)) (by omega) (by omega) (by omega) (by omega) n (by omega)
  simp (disch := omega) only [bindO_some, bindF_some, bindX_normal, blkX_exit, upd_at, Option.map_some, ↓reduceIte, ↓bindO_some, ↓bindF_some, ↓bindX_normal, fin_r, res_nil, res_tmp, pack_1, h0, h3, s3, s4, s5, o5.R.scal]
  have old04 := old.trans (old4.mono old.1)
  exact ⟨_, _, rfl, o5.below old04.1, old04.trans (old5.mono old04.1), wf5⟩
end Go.Proofs.Ytmmgdgmjkhcfaaa
namespace Go.Proofs.Ytmmgdgmjkhcfaaa
open Go Go.Abs Go.Num
set_option maxRecDepth 10000
attribute [local congr] bindO_congr bindF_congr bindX_congr condX_congr iteB_congr binS_congr pickS_congr eqB_congr nilS_congr clsW_congr maxS_congr minS_congr
def dimE (l : List Int) : List Int := if chk l = 0 then nf (dimZ l) else []
theorem dimW_run {H : Heap} {v : Value} {l : List Int} (hw : WF H) (hv : R H v (ints l)) (hl : l.length ≤ 1000) (n : Nat) (hn : 100030000 ≤ n) : OneT H (evB Try.prog noC n (.func (.func 34) #[] #[]) [v] H) (fun u => .tuple #[u, vi (chk l)]) (dimE l) := by
  refine run_of (F := 100029999) (Q := fun r => OneT H r (fun u => .tuple #[u, vi (chk l)]) (dimE l)) (fun n hn => ?_) n hn
  rw [body_runS Try.func34 rfl (ok_fn (by rfl) Try.func34 rfl) (Nat.le_of_ble_eq_true rfl) (D := D0) (by kernel_rfl)]
  have s0 := ccheck_run hv hl n (by omega)
  by_cases hc : chk l = 0
  · rw [show dimE l = nf (dimZ l) from if_pos hc]
    obtain ⟨v1, H1, s1, o1, old1, wf1⟩ := dim_run hw hv (chk_part hc) n (by omega)
    have c1 : decide (chk l = 0) = true := decide_eq_true hc
    simp (disch := omega) only [Try.f34, es_seq, es_region, es_cond, es_skip, es_ret, ops_nil, ops_cons, st_move, st_assign, st_fun, sy_bin, binS_neq, bindO_some, bindF_some, bindX_normal, condX_false, ev_tmp, ev_const, ev_func, putA, upd_at, Option.map_some, ↓reduceIte, Nat.reduceEqDiff, frOf_0, List.map_cons, List.map_nil, Bool.not_true, ↓bindO_some, ↓bindF_some, ↓bindX_normal, ↓condX_false, fin_r, res_nil, res_tmp, pack_2, scal_vi, s0, c1, s1, o1.R.scal]
    exact ⟨_, _, by rw [hc], o1, old1, wf1⟩
  · rw [show dimE l = [] from if_neg hc]
    have c1 : decide (chk l = 0) = false := decide_eq_false hc
    simp (disch := omega) only [Try.f34, es_seq, es_region, es_cond, es_ret, ops_nil, ops_cons, st_move, st_assign, st_fun, sy_bin, binS_neq, bindO_some, bindF_some, bindX_normal, bindX_ret, condX_true, ev_tmp, ev_const, ev_func, putA, upd_at, Option.map_some, ↓reduceIte, Nat.reduceEqDiff, frOf_0, List.map_cons, List.map_nil, Bool.not_false, ↓bindO_some, ↓bindF_some, ↓bindX_normal, ↓bindX_ret, ↓condX_true, fin_r, res_nil, res_tmp, pack_2, scal_vi, scal_nil, s0, c1]
    exact ⟨_, _, rfl, O.nil _ _, Old.refl _ _, hw⟩
end Go.Proofs.Ytmmgdgmjkhcfaaa
namespace Go.Proofs.Ytmmgdgmjkhcfaaa
open Go Go.Abs
def parG : Nat → Nat → Nat → List (List Nat)
  | 0, _, _ => []
  | f + 1, 0, n => match n with
    | 0 => [[]]
    | _ + 1 => []
  | f + 1, m + 1, n => match n with
    | 0 => [[]]
    | n + 1 => bif Nat.ble (m + 1) (n + 1) then (parG f (m + 1) (n + 1 - (m + 1))).map ((m + 1) :: ·) ++ parG f m (n + 1) else parG f m (n + 1)
def parts (n : Nat) : List (List Nat) := parG (2 * n + 2) n n
end Go.Proofs.Ytmmgdgmjkhcfaaa
namespace Go.Proofs.Ytmmgdgmjkhcfaaa
open Go Go.Abs Go.Num
set_option maxRecDepth 10000
attribute [local congr] bindO_congr bindF_congr bindX_congr condX_congr iteB_congr binS_congr pickS_congr eqB_congr nilS_congr clsW_congr maxS_congr minS_congr
def conjE (l : List Int) : List Int := if chk l = 0 then conjP l else []
theorem conjW_run {H : Heap} {v : Value} {l : List Int} (hw : WF H) (hv : R H v (ints l)) (hl : l.length ≤ 1000) (n : Nat) (hn : 1020 ≤ n) : OneT H (evB Try.prog noC n (.func (.func 33) #[] #[]) [v] H) (fun v => .tuple #[v, vi (chk l)]) (conjE l) := by
  refine run_of (F := 1019) (Q := fun r => OneT H r (fun v => .tuple #[v, vi (chk l)]) (conjE l)) (fun n hn => ?_) n hn
  rw [body_runS Try.func33 rfl (ok_fn (by rfl) Try.func33 rfl) (Nat.le_of_ble_eq_true rfl) (D := D0) (by kernel_rfl)]
  have s0 := ccheck_run hv hl n (by omega)
  by_cases hc : chk l = 0
  · rw [show conjE l = conjP l from if_pos hc]
    have hp := chk_part hc
    have hh := Part.head hp
    obtain ⟨v1, H1, s1, o1, old1, wf1⟩ := conj_run hw hv hl hh.1 hh.2 n (by omega)
    have c1 : decide (chk l = 0) = true := decide_eq_true hc
    simp (disch := omega) only [Try.f33, es_seq, es_region, es_cond, es_skip, es_ret, ops_nil, ops_cons, st_move, st_assign, st_fun, sy_bin, binS_neq, bindO_some, bindF_some, bindX_normal, condX_false, ev_tmp, ev_const, ev_func, putA, upd_at, Option.map_some, ↓reduceIte, Nat.reduceEqDiff, frOf_0, List.map_cons, List.map_nil, Bool.not_true, ↓bindO_some, ↓bindF_some, ↓bindX_normal, ↓condX_false, fin_r, res_nil, res_tmp, pack_2, scal_vi, s0, c1, s1, o1.R.scal]
    refine ⟨_, _, ?_, o1, old1, wf1⟩
    rw [hc]
  · rw [show conjE l = [] from if_neg hc]
    have c1 : decide (chk l = 0) = false := decide_eq_false hc
    simp (disch := omega) only [Try.f33, es_seq, es_region, es_cond, es_ret, ops_nil, ops_cons, st_move, st_assign, st_fun, sy_bin, binS_neq, bindO_some, bindF_some, bindX_normal, bindX_ret, condX_true, ev_tmp, ev_const, ev_func, putA, upd_at, Option.map_some, ↓reduceIte, Nat.reduceEqDiff, frOf_0, List.map_cons, List.map_nil, Bool.not_false, ↓bindO_some, ↓bindF_some, ↓bindX_normal, ↓bindX_ret, ↓condX_true, fin_r, res_nil, res_tmp, pack_2, scal_vi, scal_nil, s0, c1]
    exact ⟨_, _, rfl, O.nil _ _, Old.refl _ _, hw⟩
end Go.Proofs.Ytmmgdgmjkhcfaaa
namespace Go.Proofs.Ytmmgdgmjkhcfaaa
open Go Go.Abs Go.Num
set_option maxRecDepth 10000
attribute [local congr] bindO_congr bindF_congr bindX_congr condX_congr iteB_congr binS_congr pickS_congr eqB_congr nilS_congr clsW_congr maxS_congr minS_congr
theorem rcheck_any {H : Heap} {v : Value} {l : List Int} (hv : R H v (ints l)) (n : Nat) (hn : 1011 ≤ n) : evB Try.prog noC n (.func (.func 16) #[] #[]) [v] H = some (vi (chk l), H) := by
  by_cases hl : l.length ≤ 1000
  · exact rcheck_run hv hl n hn
  refine run_of (F := 1010) (Q := fun r => r = some (vi (chk l), H)) (fun n hn => ?_) n hn
  rw [body_runS Try.func16 rfl (ok_fn (by rfl) Try.func16 rfl) (Nat.le_of_ble_eq_true rfl) (D := D0) (by kernel_rfl)]
  have c1 : (20 : Int) < (l.length : Int) := by omega
  rw [show chk l = 8 from if_pos (by omega)]
  simp (disch := omega) only [Try.f16, es_seq, es_region, es_cond, es_ret, ops_nil, ops_cons, st_move, st_assign, sy_len uL, sy_bin, binS_gtr, bindO_some, bindF_some, bindX_normal, bindX_ret, condX_true, ev_tmp, ev_const, putA, upd_at, Option.map_some, ↓reduceIte, Nat.reduceEqDiff, frOf_0, decide_true, ↓bindO_some, ↓bindF_some, ↓bindX_normal, ↓bindX_ret, ↓condX_true, fin_r, res_nil, res_tmp, pack_1, scal_vi, hv.lenI, c1]
theorem smallL_run {H : Heap} {v : Value} {l : List Int} (hv : R H v (ints l)) (m : Int) (n : Nat) (hn : 1020 ≤ n) : evB Try.prog noC n (.func (.func 32) #[] #[]) [v, vi m] H = some (.bool (decide (chk l = 0) && decide (l.sum ≤ m)), H) := by
  refine run_of (F := 1019) (Q := fun r => r = some (.bool (decide (chk l = 0) && decide (l.sum ≤ m)), H)) (fun n hn => ?_) n hn
  rw [body_runS Try.func32 rfl (ok_fn (by rfl) Try.func32 rfl) (Nat.le_of_ble_eq_true rfl) (D := D0) (by kernel_rfl)]
  have s0 := rcheck_any hv n (by omega)
  by_cases hc : chk l = 0
  · have hp := chk_part hc
    have s1 := rsize_run hv hp.sm n (by omega)
    have c1 : decide (chk l = 0) = true := decide_eq_true hc
    simp (disch := omega) only [Try.f32, es_seq, es_region, es_ret, ops_nil, ops_cons, ops_consG, st_move, st_assign, sy_pick, pickS_true, st_fun, sy_bin, binS_leq, binS_eql, bindO_some, bindF_some, bindX_normal, iteB_true, ev_tmp, ev_const, ev_func, putA, upd_at, Option.map_some, ↓reduceIte, Nat.reduceEqDiff, frOf_0, frOf_1, List.map_cons, List.map_nil, yieldO_eq, yO, yV_bool, List.getElem?_cons_zero, List.getElem?_cons_succ, beq_self_eq_true, ↓bindO_some, ↓bindF_some, ↓bindX_normal, ↓iteB_true, fin_r, res_nil, res_tmp, pack_1, scal_bool, s0, s1, c1, Bool.true_and]
  · have c1 : decide (chk l = 0) = false := decide_eq_false hc
    simp (disch := omega) only [Try.f32, es_seq, es_region, es_ret, ops_nil, ops_cons, ops_consG, st_move, st_assign, sy_pick, pickS_false, st_fun, sy_bin, binS_eql, bindO_some, bindF_some, bindX_normal, iteB_false, ev_tmp, ev_const, ev_func, putA, upd_at, Option.map_some, ↓reduceIte, Nat.reduceEqDiff, frOf_0, List.map_cons, List.map_nil, yieldO_eq, yO, yV_bool, some_true, List.getElem?_cons_zero, List.getElem?_cons_succ, ↓bindO_some, ↓bindF_some, ↓bindX_normal, ↓iteB_false, fin_r, res_nil, res_tmp, pack_1, scal_bool, s0, c1, Bool.false_and]
set_option maxHeartbeats 4000000 in
theorem conjLaw_run {H : Heap} {v u : Value} {l c : List Int} (hw : WF H) (hv : R H v (ints l)) (hu : R H u (ints c)) : ∃ H', evBody Try.prog (callA 200000000) 200000000 (.func (.func 7) #[] #[]) [v, u] H = some (.bool true, H') := by
  obtain ⟨n, hn⟩ : ∃ n, n = 200000000 := ⟨_, rfl⟩
  rw [← hn]
  rw [body_runS (c := (Try.f7.body).getD .skip) Try.func7 rfl (ok_fn (by rfl) Try.func7 rfl) (Nat.le_of_ble_eq_true rfl) (D := D0) (by kernel_rfl)]
  have s0 := smallL_run hv 12 n (by omega)
  have s1 := smallL_run hu 12 n (by omega)
  by_cases h1 : chk l = 0 ∧ l.sum ≤ 12
  case neg =>
    rw [show (decide (chk l = 0) && decide (l.sum ≤ 12)) = false from by rw [Bool.and_eq_false_iff]; rcases Decidable.not_and_iff_or_not.1 h1 with h | h; exact .inl (decide_eq_false h); exact .inr (decide_eq_false h)] at s0
    simp (disch := omega) only [Try.f7, Option.getD_some, es_seq, es_region, es_cond, es_ret, ops_nil, ops_cons, ops_consG, st_move, st_assign, sy_pick, pickS_true, st_fun, st_not, bindO_some, bindF_some, bindX_normal, bindX_ret, condX_true, iteB_false, ev_tmp, ev_const, ev_func, putA, upd_at, Option.map_some, ↓reduceIte, Nat.reduceEqDiff, frOf_0, List.map_cons, List.map_nil, Bool.not_true, Bool.not_false, yieldO_eq, yO, yV_bool, some_false, List.getElem?_cons_zero, List.getElem?_cons_succ, ↓bindO_some, ↓bindF_some, ↓bindX_normal, ↓bindX_ret, ↓condX_true, ↓iteB_false, fin_r, res_nil, res_tmp, pack_1, scal_bool, ca_other, ca_awake, s0]
    exact ⟨_, rfl⟩
  rw [show (decide (chk l = 0) && decide (l.sum ≤ 12)) = true from by rw [Bool.and_eq_true]; exact ⟨decide_eq_true h1.1, decide_eq_true h1.2⟩] at s0
  by_cases h2 : chk c = 0 ∧ c.sum ≤ 12
  case neg =>
    rw [show (decide (chk c = 0) && decide (c.sum ≤ 12)) = false from by rw [Bool.and_eq_false_iff]; rcases Decidable.not_and_iff_or_not.1 h2 with h | h; exact .inl (decide_eq_false h); exact .inr (decide_eq_false h)] at s1
    simp (disch := omega) only [Try.f7, Option.getD_some, es_seq, es_region, es_cond, es_ret, ops_nil, ops_cons, ops_consG, st_move, st_assign, sy_pick, pickS_true, pickS_false, st_fun, st_not, bindO_some, bindF_some, bindX_normal, bindX_ret, condX_true, iteB_true, iteB_false, ev_tmp, ev_const, ev_func, putA, upd_at, Option.map_some, ↓reduceIte, Nat.reduceEqDiff, frOf_0, frOf_1, List.map_cons, List.map_nil, Bool.not_true, Bool.not_false, yieldO_eq, yO, yV_bool, some_false, List.getElem?_cons_zero, List.getElem?_cons_succ, beq_self_eq_true, ↓bindO_some, ↓bindF_some, ↓bindX_normal, ↓bindX_ret, ↓condX_true, ↓iteB_true, ↓iteB_false, fin_r, res_nil, res_tmp, pack_1, scal_bool, ca_other, ca_awake, s0, s1]
    exact ⟨_, rfl⟩
  rw [show (decide (chk c = 0) && decide (c.sum ≤ 12)) = true from by rw [Bool.and_eq_true]; exact ⟨decide_eq_true h2.1, decide_eq_true h2.2⟩] at s1
  obtain ⟨k1, m1⟩ := h1
  obtain ⟨k2, m2⟩ := h2
  have hp := chk_part k1
  have hc := chk_part k2
  have s2 := rsize_run hv hp.sm n (by omega)
  have s3 := rsize_run hu hc.sm n (by omega)
  by_cases h3 : l.sum = c.sum
  case neg =>
    have c3 : decide (l.sum = c.sum) = false := decide_eq_false h3
    simp (disch := omega) only [Try.f7, Option.getD_some, es_seq, es_region, es_cond, es_ret, ops_nil, ops_cons, ops_consG, st_move, st_assign, sy_pick, pickS_false, st_fun, sy_bin, st_not, binS_neq, bindO_some, bindF_some, bindX_normal, bindX_ret, condX_true, iteB_true, ev_tmp, ev_const, ev_func, putA, upd_at, Option.map_some, ↓reduceIte, Nat.reduceEqDiff, frOf_0, frOf_1, List.map_cons, List.map_nil, Bool.not_true, Bool.not_false, yieldO_eq, yO, yV_bool, List.getElem?_cons_zero, List.getElem?_cons_succ, beq_self_eq_true, ↓bindO_some, ↓bindF_some, ↓bindX_normal, ↓bindX_ret, ↓condX_true, ↓iteB_true, fin_r, res_nil, res_tmp, pack_1, scal_bool, ca_other, ca_awake, s0, s1, s2, s3, c3]
    exact ⟨_, rfl⟩
  have c3 : decide (l.sum = c.sum) = true := decide_eq_true h3
  obtain ⟨g1, g2, g3, g4⟩ := conj_facts hp m1
  have hq := chk_part g3
  have hlp := hp.len
  have hlq := hq.len
  have hlc := hc.len
  obtain ⟨vq, H1, t1, o1, old1, wf1⟩ := conjW_run hw hv (by omega) n (by omega)
  rw [show conjE l = conjP l from if_pos k1] at o1
  rw [k1] at t1
  obtain ⟨vb, H2, t2, o2, old2, wf2⟩ := conjW_run wf1 o1.R (by omega) n (by omega)
  rw [show conjE (conjP l) = l from (if_pos g3).trans g1] at o2
  rw [g3] at t2
  have a2 := old1.trans (old2.mono old1.1)
  obtain ⟨vd, H3, t3, o3, old3, wf3⟩ := dimW_run wf2 (hv.mono a2) (by omega) n (by omega)
  rw [show dimE l = nf (dimZ l) from if_pos k1] at o3
  rw [k1] at t3
  have a3 := a2.trans (old3.mono a2.1)
  have q3 : R H3 vq (ints (conjP l)) := (o1.R.mono old2).mono old3
  obtain ⟨vm, H4, t4, o4, old4, wf4⟩ := dimW_run wf3 q3 (by omega) n (by omega)
  rw [show dimE (conjP l) = nf (dimZ l) from (if_pos g3).trans (by rw [g2])] at o4
  rw [g3] at t4
  have a4 := a3.trans (old4.mono a3.1)
  obtain ⟨vx, H5, t5, old5, wf5, -, hx⟩ := chrP_run wf4 (hv.mono a4) (hu.mono a4) (by omega) (by omega) n (by omega)
  have w5 : wantC l c = 0 := by unfold wantC chk2; rw [if_pos k1, if_pos k2, if_pos h3]
  have ox := hx w5
  rw [w5] at t5
  have a5 := a4.trans (old5.mono a4.1)
  obtain ⟨vy, H6, t6, old6, wf6, -, hy⟩ := chrP_run wf5 ((q3.mono old4).mono old5) (hu.mono a5) (by omega) (by omega) n (by omega)
  have w6 : wantC (conjP l) c = 0 := by unfold wantC chk2; rw [if_pos g3, if_pos k2, if_pos (by rw [g4]; exact h3)]
  have oy := hy w6
  rw [w6] at t6
  have a6 := a5.trans (old6.mono a5.1)
  have hc1 : ∀ y ∈ c, 1 ≤ y := fun y hy => (hc.mem y hy).1
  rw [chi_conj c hc1 l hp h3 m1] at oy
  have n1 := chi_nf hc1 hlc hp
  have cs : (c.length : Int) ≤ c.sum := by
    have : ∀ d : List Int, (∀ y ∈ d, 1 ≤ y) → (d.length : Int) ≤ d.sum := by
      intro d
      induction d with
      | nil => intro _; simp
      | cons y d ih => intro h; have := h y (by simp); have := ih fun z hz => h z (by simp [hz]); rw [List.length_cons, List.sum_cons]; omega
    exact this c hc1
  have s6 := rsize_run (hu.mono a6) hc.sm n (by omega)
  have lu := (hu.mono a6).lenI
  have e1 : IntKind.i64.wrap (c.sum - (c.length : Int)) = c.sum - c.length := wr64 (by omega) (by omega)
  have e2 : (c.sum - (c.length : Int)).tmod 2 = (c.sum - c.length) % 2 := tmod_pos (by omega) _
  have z0 : IntKind.i64.wrap (0 + 0) = 0 := by decide
  have z1 : decide ((0 : Int) = 0) = true := rfl
  have b6 : R H6 vb (ints l) := ((((o2.R.mono old3).mono old4).mono old5).mono old6)
  have d6 : R H6 vd (ints (nf (dimZ l))) := ((o3.R.mono old4).mono old5).mono old6
  have m6 : R H6 vm (ints (nf (dimZ l))) := (o4.R.mono old5).mono old6
  have ldz : (nf (dimZ l)).length ≤ 3 := by
    have hd := dimT_bd hp
    have lf := fct_len (k := l.sum.toNat) (by omega)
    have pf := fct_le (k := l.sum.toNat) (by omega)
    unfold dimZ
    exact Nat.le_trans (nf_len_mono (Int.ediv_nonneg (by omega) (by omega)) (Int.ediv_le_self _ (by omega))) lf
  by_cases hodd : (c.sum - c.length) % 2 = 1
  · have c4 : decide ((c.sum - (c.length : Int)) % 2 = 1) = true := decide_eq_true hodd
    rw [show sgn (c.sum - c.length) (chi c l) = - chi c l from if_pos hodd] at oy
    have nn : NumV H6 (.slice none 0 0) 0 := NumV.of (.inl ⟨rfl, by rw [nf_zero]; rfl⟩) (by rw [nf_zero]; simp)
    obtain ⟨vz, H7, t7, o7, old7, wf7⟩ := subP_run wf6 nn (NumV.of oy.R (by omega)) (by rw [nf_zero]; simp) (by omega) n (by omega)
    rw [show 0 - - chi c l = chi c l from by omega] at o7
    have u1 := ints_run (b6.mono old7) (hv.mono (a6.trans (old7.mono a6.1))) (by omega) (by omega) n (by omega)
    have u2 := ints_run (d6.mono old7) (m6.mono old7) (by omega) (by omega) n (by omega)
    have u3 := ints_run ((ox.R.mono old6).mono old7) o7.R (by omega) (by omega) n (by omega)
    rw [decide_eq_true rfl] at u1 u2 u3
    simp (maxSteps := 1000000) (disch := omega) only [Try.f7, Option.getD_some, es_seq, es_region, es_cond, es_skip, es_ret, ops_nil, ops_cons, ops_consG, st_move, st_assign, sy_pick, pickS_true, pickS_false, st_fun, sy_len uL, sy_bin, st_not, sy_ext, ext_20, ext_21, binS_eql, binS_neq, binS_add, binS_sub, binS_rem, bindO_some, bindF_some, bindX_normal, condX_true, condX_false, iteB_true, ev_tmp, ev_const, ev_func, putA, upd_at, Option.map_some, ↓reduceIte, Nat.reduceEqDiff, frOf_0, frOf_1, List.map_cons, List.map_nil, decide_true, Bool.not_true, yieldO_eq, yO, yV_bool, List.getElem?_cons_zero, List.getElem?_cons_succ, beq_self_eq_true, ↓bindO_some, ↓bindF_some, ↓bindX_normal, ↓condX_true, ↓condX_false, ↓iteB_true, fin_r, res_nil, res_tmp, pack_1, scal_bool, ca_other, ca_awake, s0, s1, s2, s3, c3, t1, t2, t3, t4, t5, t6, s6, lu, e1, e2, c4, t7, z0, u1, u2, u3]
    exact ⟨_, rfl⟩
  · have c4 : decide ((c.sum - (c.length : Int)) % 2 = 1) = false := decide_eq_false hodd
    rw [show sgn (c.sum - c.length) (chi c l) = chi c l from if_neg hodd] at oy
    have u1 := ints_run b6 (hv.mono a6) (by omega) (by omega) n (by omega)
    have u2 := ints_run d6 m6 (by omega) (by omega) n (by omega)
    have u3 := ints_run (ox.R.mono old6) oy.R (by omega) (by omega) n (by omega)
    rw [decide_eq_true rfl] at u1 u2 u3
    simp (maxSteps := 1000000) (disch := omega) only [Try.f7, Option.getD_some, es_seq, es_region, es_cond, es_skip, es_ret, ops_nil, ops_cons, ops_consG, st_move, st_assign, sy_pick, pickS_true, pickS_false, st_fun, sy_len uL, sy_bin, st_not, sy_ext, ext_20, ext_21, binS_eql, binS_neq, binS_add, binS_sub, binS_rem, bindO_some, bindF_some, bindX_normal, condX_false, iteB_true, ev_tmp, ev_const, ev_func, putA, upd_at, Option.map_some, ↓reduceIte, Nat.reduceEqDiff, frOf_0, frOf_1, List.map_cons, List.map_nil, decide_true, Bool.not_true, yieldO_eq, yO, yV_bool, List.getElem?_cons_zero, List.getElem?_cons_succ, beq_self_eq_true, ↓bindO_some, ↓bindF_some, ↓bindX_normal, ↓condX_false, ↓iteB_true, fin_r, res_nil, res_tmp, pack_1, scal_bool, ca_other, ca_awake, s0, s1, s2, s3, c3, t1, t2, t3, t4, t5, t6, s6, lu, e1, e2, c4, z0, u1, u2, u3]
    exact ⟨_, rfl⟩
open Go.RowKit in
theorem CountConjugates_walk (a0 : Option Addr) (len0 cap0 : Nat) (z0 : List Int) (a1 : Option Addr) (len1 cap1 : Nat) (z1 : List Int) (w : World) (w0 : Row .i64 w a0 len0 cap0 z0) (w1 : Row .i64 w a1 len1 cap1 z1) :
    Calls Try.prog 7 #[.slice a0 len0 cap0, .slice a1 len1 cap1] w fun e w' => e = .returned (.bool true) ∧ Below w.heap.size w w' := by
  obtain ⟨x, y, l, c, v, u, h1, h2, h3, h4, h5, h6⟩ := row_two w0 w1
  obtain ⟨H', h⟩ := conjLaw_run h6 h4 h5
  rw [← h3] at h
  exact law_args hmix (callA_ok _) (callA_grow _) h (.cons h1 (.cons h2 .nil))
end Go.Proofs.Ytmmgdgmjkhcfaaa
