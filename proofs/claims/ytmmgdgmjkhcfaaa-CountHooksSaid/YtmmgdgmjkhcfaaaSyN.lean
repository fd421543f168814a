/- Integers of the program: division. -/
import Derived.Test.YtmmgdgmjkhcfaaaSyL
set_option linter.all false
namespace Go.Proofs.Ytmmgdgmjkhcfaaa
open Go Go.Abs Go.Num
set_option maxRecDepth 10000
attribute [local congr] bindO_congr bindF_congr bindX_congr condX_congr iteB_congr binS_congr pickS_congr eqB_congr nilS_congr clsW_congr
theorem vEq_whole {H : Heap} {b : Bool} {v : Value} {l : List Value} (h : R H v l) : vEq (.agg #[.bool b, v]) (.agg #[.bool b, v]) = true := by
  rcases h with ⟨rfl, _⟩ | ⟨rfl, _⟩ | ⟨_, _, _, _, _, rfl, _⟩ <;> simp [vEq, listEq, sEq, sliceA, lostSlice]
theorem Kept.refl (C : Nat) (H : Heap) : Kept C H H := fun _ _ _ _ _ _ h => h
theorem Kept.trans {C : Nat} {H1 H2 H3 : Heap} (h : Kept C H1 H2) (h' : Kept C H2 H3) : Kept C H1 H3 := fun b f o cs h1 h2 h3 => h' b f o cs h1 h2 (h b f o cs h1 h2 h3)
theorem Kept.mono {C D : Nat} {H1 H2 : Heap} (h : Kept C H1 H2) (hc : C ≤ D) : Kept D H1 H2 := fun b f o cs h1 h2 h3 => h b f o cs (by omega) (by omega) h3
theorem ov_r12 {H H5 H6 : Heap} {p4 p5 w4 w5 : Value} (call : CallF) (k nt : Nat) (rd : Option Nat) {a : Fr} (h4 : a 4 = p4) (h5 : a 5 = p5)
    (l4 : ∀ G, G = H ∨ G = H5 ∨ G = H6 → loadN 2 p4 G = some w4) (l5 : ∀ G, G = H ∨ G = H5 ∨ G = H6 → loadN 2 p5 G = some w5) (r4 : vEq w4 w4 = true) (r5 : vEq w5 w5 = true)
    (s4 : storeN 2 p4 w4 H = some H5) (s5 : storeN 2 p5 w5 H5 = some H6) :
    ∃ a' H', evT Try.prog call k nt rd D1 (atC [1, 1, 1, 1, 0] ((Try.f146.body).getD .skip)) a H = some (.normal, a', H') ∧ H' = H6 ∧ a' 4 = p4 ∧ a' 5 = p5 := by
  simp only [Try.f146, Option.getD_some, atC]
  refine et_from (fun a' H' => H' = H6 ∧ a' 4 = p4 ∧ a' 5 = p5) ?_
  have e0 := l4 H (.inl rfl)
  have e1 := l5 H (.inl rfl)
  simp (disch := omega) only [bindO_some, ev_tmp, putA, upd_at, Option.map_some, ↓reduceIte, Nat.reduceEqDiff, ↓bindO_some, sy_loadN aW zW, sy_storeN zW, opsW_nil, opsW_cons, clsW_eff, clsW_read, ↓clsW_eff, ↓clsW_read, cls_load, cls_store, h4, h5, e0, e1, s4, s5]
  refine ⟨_, rfl, ?_, rfl, ?_, ?_⟩
  · intro G hG r hr
    simp only [List.mem_cons, List.not_mem_nil, or_false] at hG hr
    have hG' : G = H ∨ G = H5 ∨ G = H6 := by
      rcases hG with h | h | h
      · exact .inr (.inr h)
      · exact .inr (.inl h)
      · exact .inl h
    have e0 := l4 G hG'
    have e1 := l5 G hG'
    rcases hr with rfl | rfl
    all_goals simp only [still_ldN aW zW, ev_tmp, upd_at, ↓reduceIte, Nat.reduceEqDiff, h4, h5, e0, e1, r4, r5]
  · simp only [upd_at, ↓reduceIte, Nat.reduceEqDiff, h4]
  · simp only [upd_at, ↓reduceIte, Nat.reduceEqDiff, h5]
theorem ov_r6 {H H5 H6 : Heap} {pa pb p4 p5 va vb d : Value} {y z : Int} (call : CallF) (k nt : Nat) (rd : Option Nat) {a : Fr} {q1 q2 q3 q4 : Value} (h2 : a 2 = pa) (h3 : a 3 = pb) (h4 : a 4 = p4) (h5 : a 5 = p5)
    (f1 : faddrS 1 pa = some q1) (f2 : faddrS 1 pb = some q2) (f3 : faddrS 1 p4 = some q3) (ad : addrS 1 vb (vi 0) = some q4)
    (l1 : ∀ G, G = H ∨ G = H5 ∨ G = H6 → loadS q1 G = some va) (l2 : ∀ G, G = H ∨ G = H5 ∨ G = H6 → loadS q2 G = some vb) (l4 : ∀ G, G = H ∨ G = H5 ∨ G = H6 → loadS q4 G = some (vi y)) (r1 : vEq va va = true) (r2 : vEq vb vb = true)
    (s1 : call (.func (.func 154) #[] #[]) [va, vi y] H = some (.tuple #[d, vi z], H5)) (s2 : storeS q3 d H5 = some H6) :
    ∃ a' H', evT Try.prog call k nt rd D1 (atC [1, 0, 0, 1, 1, 1, 0, 1, 0] ((Try.f146.body).getD .skip)) a H = some (.normal, a', H') ∧ H' = H6 ∧ a' 2 = pa ∧ a' 3 = pb ∧ a' 4 = p4 ∧ a' 5 = p5 ∧ a' 6 = vi z := by
  simp only [Try.f146, Option.getD_some, atC]
  refine et_from (fun a' H' => H' = H6 ∧ a' 2 = pa ∧ a' 3 = pb ∧ a' 4 = p4 ∧ a' 5 = p5 ∧ a' 6 = vi z) ?_
  have e0 := l1 H (.inl rfl)
  have e1 := l2 H (.inl rfl)
  have e2 := l4 H (.inl rfl)
  simp (disch := omega) only [st_move, st_assign, st_fun, sy_addr eL, sy_load aI, sy_ext, ext_20, ext_21, bindO_some, ev_tmp, ev_const, ev_func, putA, upd_at, Option.map_some, ↓reduceIte, Nat.reduceEqDiff, List.map_cons, List.map_nil, ↓bindO_some, sy_load aL, sy_store zL, sy_faddr fW1, opsW_nil, opsW_cons, clsW_eff, clsW_read, clsW_pure, ↓clsW_eff, ↓clsW_read, ↓clsW_pure, cls_move, cls_assign, cls_addr, cls_load, cls_callF, cls_store, cls_faddr, cls_extract, h2, h3, h4, f1, f2, f3, ad, e0, e1, e2, s1, s2]
  refine ⟨_, rfl, ?_, rfl, ?_, ?_, ?_, ?_, ?_⟩
  · intro G hG r hr
    simp only [List.mem_cons, List.not_mem_nil, or_false] at hG hr
    have hG' : G = H ∨ G = H5 ∨ G = H6 := by
      rcases hG with h | h | h
      · exact .inr (.inr h)
      · exact .inr (.inl h)
      · exact .inl h
    have e0 := l1 G hG'
    have e1 := l2 G hG'
    have e2 := l4 G hG'
    rcases hr with rfl | rfl | rfl
    all_goals simp only [still_ld aL, still_ld aI, ev_tmp, upd_at, ↓reduceIte, vEq_vi, e0, e1, e2, r1, r2]
  · simp only [upd_at, ↓reduceIte, Nat.reduceEqDiff, h2]
  · simp only [upd_at, ↓reduceIte, Nat.reduceEqDiff, h3]
  · simp only [upd_at, ↓reduceIte, Nat.reduceEqDiff, h4]
  · simp only [upd_at, ↓reduceIte, Nat.reduceEqDiff, h5]
  · simp only [upd_at, ↓reduceIte]
/-- The end of a division of a number that is not negative by a positive one. -/
theorem ov_tail {H : Heap} {B1 C1 B2 C2 A1 A2 A3 A4 : Nat} {pa pb p4 p5 va vb dq dr : Value} {q r : Int} (hw : WF H) (call : CallF) (k nt : Nat) (rd : Option Nat) {a : Fr} (h2 : a 2 = pa) (h3 : a 3 = pb) (h4 : a 4 = p4) (h5 : a 5 = p5)
    (b2 : BxM A1 A2 H pa [.bool false, va]) (b3 : BxM A3 A4 H pb [.bool false, vb]) (b4 : BxM B1 C1 H p4 [.bool false, dq]) (b5 : BxM B2 C2 H p5 [.bool false, dr]) (o1 : C1 ≤ B2) (o2 : B2 ≤ C2) (o3 : A2 ≤ B1) (o4 : A4 ≤ B1) (o5 : B1 ≤ C1)
    (kq : ∀ G, Old B1 H G → Kept C2 H G → R G dq (ints (nf q))) (kr : ∀ G, Old B1 H G → Kept C2 H G → R G dr (ints (nf r))) :
    ∃ a' G, evT Try.prog call k nt rd D1 (atC [1, 1] ((Try.f146.body).getD .skip)) a H = some (.ret, a', G) ∧ a' 4 = p4 ∧ a' 5 = p5 ∧ loadN 2 p4 G = some (.agg #[.bool false, dq]) ∧ loadN 2 p5 G = some (.agg #[.bool false, dr]) ∧ Old B1 H G ∧ Kept C2 H G ∧ WF G := by
  have f20 := b2.faddr 0
  have f30 := b3.faddr 0
  have f40 := b4.faddr 0
  have f41 := b4.faddr 1
  have l20 : loadS (bx pa 0) H = some (.bool false) := b2.load 0
  have l30 : loadS (bx pb 0) H = some (.bool false) := b3.load 0
  have l41 : loadS (bx p4 1) H = some dq := b4.load 1
  have hq := kq H (Old.refl _ _) (Kept.refl _ _)
  obtain ⟨H1, s1, b41, old1, wf1, k1⟩ := b4.set hw (i := 0) (by simp) (v := .bool false) rfl
  have s1 : storeS (bx p4 0) (.bool false) H = some H1 := s1
  have b41 : BxM B1 C1 H1 p4 [.bool false, dq] := b41
  have b51 := b5.kept k1 o1
  obtain ⟨H2, s2, b42, old2, wf2, k2⟩ := b41.store wf1 (vs := [.bool false, dq]) rfl
  have s2 : storeN 2 p4 (.agg #[.bool false, dq]) H1 = some H2 := s2
  have b52 := b51.kept k2 o1
  obtain ⟨H3, s3, b53, old3, wf3, k3⟩ := b52.store wf2 (vs := [.bool false, dr]) rfl
  have s3 : storeN 2 p5 (.agg #[.bool false, dr]) H2 = some H3 := s3
  have b43 := b42.mono (old3.mono o1)
  have oldf := (old1.trans old2).trans (old3.mono (by omega))
  have kf := Kept.trans (Kept.mono (Kept.trans k1 k2) (by omega : C1 ≤ C2)) k3
  have kk := fun (A : Fr) => ov_r12 (H := H1) (H5 := H2) (H6 := H3) (a := A) (p4 := p4) (p5 := p5) (w4 := .agg #[.bool false, dq]) (w5 := .agg #[.bool false, dr]) call k nt rd
  simp only [Try.f146, Option.getD_some, atC] at kk
  have hlen := hq.lenI
  by_cases hq0 : (0 : Int) < (nf q).length
  all_goals
    simp (disch := omega) only [Try.f146, Option.getD_some, atC, es_seq, es_region, es_cond, es_skip, es_ret, ops_nil, ops_cons, ops_consG, st_move, sy_pick, pickS_true, pickS_false, sy_len uL, sy_bin, binS_gtr, bindO_some, bindF_some, bindX_normal, condX_false, iteB_true, iteB_false, ev_tmp, ev_const, putA, upd_at, Option.map_some, ↓reduceIte, Nat.reduceEqDiff, decide_true, decide_false, Bool.not_true, yieldO_eq, yO, yV_bool, some_true, List.getElem?_cons_zero, List.getElem?_cons_succ, beq_self_eq_true, ↓bindO_some, ↓bindF_some, ↓bindX_normal, ↓condX_false, ↓iteB_true, ↓iteB_false, sy_load aL, sy_load aB, sy_store zB, sy_faddr fW0, sy_faddr fW1, sy_ne nB, eqB_bool, Bool.true_xor, h2, h3, h4, f20, f30, f40, f41, l20, l30, l41, hlen, hq0, s1]
    generalize hA : upd _ 73 _ = A
    obtain ⟨a2, G2, e2, hG, g4, g5⟩ := kk A (by subst hA; exact h4) (by subst hA; exact h5) (fun G h => by
        rcases h with rfl | rfl | rfl
        · exact b41.loadAll
        · exact b42.loadAll
        · exact b43.loadAll) (fun G h => by
        rcases h with rfl | rfl | rfl
        · exact b51.loadAll
        · exact b52.loadAll
        · exact b53.loadAll) (vEq_whole hq) (vEq_whole (kr H (Old.refl _ _) (Kept.refl _ _))) s2 s3
    rw [e2]
    subst hG
    simp (disch := omega) only [bindX_normal, ↓bindX_normal]
    exact ⟨_, _, rfl, g4, g5, b43.loadAll, b53.loadAll, oldf, kf, wf3⟩
theorem ov_split (call : CallF) (k nt : Nat) (rd : Option Nat) (a : Fr) (H : Heap) : evT Try.prog call k nt rd D1 ((Try.f146.body).getD .skip) a H =
    bindX (evT Try.prog call k nt rd D1 (atC [0] ((Try.f146.body).getD .skip)) a H) fun a H => bindX (evT Try.prog call k nt rd D1 (atC [1, 0] ((Try.f146.body).getD .skip)) a H) fun a H => evT Try.prog call k nt rd D1 (atC [1, 1] ((Try.f146.body).getD .skip)) a H := rfl
def LongOK (F : Nat) (x y : Int) : Prop := ∀ (G : Heap) (va vb : Value), WF G → R G va (ints (nf x)) → R G vb (ints (nf y)) → ∀ n, F ≤ n →
  ∃ v1 v2 G', evB Try.prog noC n (.func (.func 155) #[] #[]) [va, vb] G = some (.tuple #[v1, v2], G') ∧ RO G.length G' v1 (ints (nf (x / y))) ∧ RO G.length G' v2 (ints (nf (x % y))) ∧ Old G.length G G' ∧ WF G'
/-- Quotient and rest, neither negative: lists made since, or the list 'va' itself as the rest. -/
def TwoW (va : Value) (x : Int) (H : Heap) (r : Option (Value × Heap)) (q z : Int) : Prop := ∃ v1 v2 H', r = some (.tuple #[.agg #[.bool false, v1], .agg #[.bool false, v2]], H') ∧ RO H.length H' v1 (ints (nf q)) ∧ R H' v2 (ints (nf z)) ∧ (RO H.length H' v2 (ints (nf z)) ∨ v2 = va ∧ z = x) ∧ Old H.length H H' ∧ WF H'
theorem over_run {H : Heap} {va vb : Value} {x y : Int} {FL : Nat} (hw : WF H) (hx : R H va (ints (nf x))) (hy : R H vb (ints (nf y))) (x0 : 0 ≤ x) (y0 : 0 < y) (lx : (nf x).length ≤ 390) (ly : (nf y).length ≤ 390) (hL : y ≤ x → 2 ≤ (nf y).length → LongOK FL x y) (n : Nat) (hn : FL + 2012 ≤ n) :
    TwoW va x H (evB Try.prog noC n (.func (.func 146) #[] #[]) [.agg #[.bool false, va], .agg #[.bool false, vb]] H) (x / y) (x % y) := by
  refine run_of (F := FL + 2011) (Q := fun r => TwoW va x H r (x / y) (x % y)) (fun n hn => ?_) n (by omega)
  rw [body_runS (c := (Try.f146.body).getD .skip) Try.func146 rfl (ok_fn (by rfl) Try.func146 rfl) (Nat.le_of_ble_eq_true rfl) (D := D1) (by kernel_rfl)]
  rw [ov_split]
  have old1 := Old.app H [.cells H.length true [.bool false, va]]
  have wf1 := hw.app (Nat.le_refl H.length) (o := true) (cs := [.bool false, va])
  have b1 := BxM.made (B := H.length) (H := H) (Nat.le_refl _) [.bool false, va]
  generalize hH1 : H ++ [Blk.cells H.length true [.bool false, va]] = H1 at *
  have old2 := Old.app H1 [.cells H1.length true [.bool false, vb]]
  have wf2 := wf1.app (Nat.le_refl H1.length) (o := true) (cs := [.bool false, vb])
  have b2 := BxM.made (B := H1.length) (H := H1) (Nat.le_refl _) [.bool false, vb]
  generalize hH2 : H1 ++ [Blk.cells H1.length true [.bool false, vb]] = H2 at *
  have old3 := Old.app H2 [.cells H2.length true [.bool false, .slice none 0 0]]
  have wf3 := wf2.app (Nat.le_refl H2.length) (o := true) (cs := [.bool false, .slice none 0 0])
  have b3 := BxM.made (B := H2.length) (H := H2) (Nat.le_refl _) [.bool false, .slice none 0 0]
  generalize hH3 : H2 ++ [Blk.cells H2.length true [.bool false, .slice none 0 0]] = H3 at *
  have old4 := Old.app H3 [.cells H3.length true [.bool false, .slice none 0 0]]
  have wf4 := wf3.app (Nat.le_refl H3.length) (o := true) (cs := [.bool false, .slice none 0 0])
  have b4 := BxM.made (B := H3.length) (H := H3) (Nat.le_refl _) [.bool false, .slice none 0 0]
  generalize hH4 : H3 ++ [Blk.cells H3.length true [.bool false, .slice none 0 0]] = H4 at *
  have o1 := old1.1
  have o2 := old2.1
  have o3 := old3.1
  have o4 := old4.1
  have g1 : H1.length = H.length + 1 := by rw [← hH1]; simp
  have g2 : H2.length = H1.length + 1 := by rw [← hH2]; simp
  have g3 : H3.length = H2.length + 1 := by rw [← hH3]; simp
  have g4 : H4.length = H3.length + 1 := by rw [← hH4]; simp
  have old34 := old3.trans (old4.mono o3)
  have old24 := old2.trans (old34.mono o2)
  have old04 := old1.trans (old24.mono o1)
  have b1 := b1.mono old24
  have b2 := b2.mono old34
  have b3 := b3.mono old4
  have hx4 := hx.mono old04
  have hy4 := hy.mono old04
  have head : ∀ {a : Fr}, a 2 = ptrA H.length 0 → a 3 = ptrA H1.length 0 → a 4 = ptrA H2.length 0 → a 5 = ptrA H3.length 0 → ∃ a' G dq dr, evT Try.prog (evB Try.prog noC n) n Try.f146.ntmps none D1 (atC [1, 0] ((Try.f146.body).getD .skip)) a H4 = some (.normal, a', G) ∧
      a' 2 = ptrA H.length 0 ∧ a' 3 = ptrA H1.length 0 ∧ a' 4 = ptrA H2.length 0 ∧ a' 5 = ptrA H3.length 0 ∧ Old H2.length H4 G ∧ WF G ∧ BxM H2.length H3.length G (ptrA H2.length 0) [.bool false, dq] ∧ BxM H3.length H4.length G (ptrA H3.length 0) [.bool false, dr] ∧
      (∀ G', Old H2.length G G' → Kept H4.length G G' → RO H.length G' dq (ints (nf (x / y)))) ∧ (∀ G', Old H2.length G G' → Kept H4.length G G' → R G' dr (ints (nf (x % y))) ∧ (RO H.length G' dr (ints (nf (x % y))) ∨ dr = va ∧ x % y = x)) := by
    intro a h2 h3 h4 h5
    have f21 := b1.faddr 1
    have f31 := b2.faddr 1
    have f41 := b3.faddr 1
    have f51 := b4.faddr 1
    have l21 : loadS (bx (ptrA H.length 0) 1) H4 = some va := b1.load 1
    have l31 : loadS (bx (ptrA H1.length 0) 1) H4 = some vb := b2.load 1
    have s0 := sizes_run hx4 hy4 x0 (by omega) (by omega) (by omega) n (by omega)
    by_cases hlt : x < y
    · have hc : cmpZ x y = -1 := if_pos hlt
      have hd : decide ((-1 : Int) < 0) = true := rfl
      obtain ⟨G, s1, b41, old5, wf5, k5⟩ := b4.set wf4 (i := 1) (by simp) hx.scal
      have s1 : storeS (bx (ptrA H3.length 0) 1) va H4 = some G := s1
      have b41 : BxM H3.length H4.length G (ptrA H3.length 0) [.bool false, va] := b41
      simp (disch := omega) only [Try.f146, Option.getD_some, atC, es_seq, es_region, es_cond, es_block, ops_nil, ops_cons, st_assign, st_fun, sy_bin, binS_lss, bindO_some, bindF_some, bindX_normal, blkX_normal, condX_true, ev_tmp, ev_const, ev_func, putA, upd_at, Option.map_some, ↓reduceIte, Nat.reduceEqDiff, List.map_cons, List.map_nil, ↓bindO_some, ↓bindF_some, ↓bindX_normal, ↓condX_true, sy_load aL, sy_store zL, sy_faddr fW1, h2, h3, h5, f21, f31, f51, l21, l31, s0, hc, hd, s1]
      refine ⟨_, _, .slice none 0 0, va, rfl, h2, h3, h4, h5, old5.mono (by omega), wf5, b3.mono (old5.mono (by omega)), b41, ?_, ?_⟩
      · intro G' _ _
        rw [Int.ediv_eq_zero_of_lt x0 hlt, nf_zero]
        exact .inl ⟨rfl, rfl⟩
      · intro G' ho _
        have e := Int.emod_eq_of_lt x0 hlt
        exact ⟨by rw [e]; exact hx.mono (old04.trans ((old5.mono (by omega)).trans (ho.mono (by omega)))), .inr ⟨rfl, e⟩⟩
    · have hc : decide (cmpZ x y < 0) = false := by
        unfold cmpZ
        rw [if_neg hlt]
        split <;> rfl
      have hlen := hy4.lenI
      by_cases h1 : (nf y).length = 1
      · have c1 : ((nf y).length : Int) = 1 := by omega
        have hy1 : (nf y).getD 0 0 = y := by
          have := nf_val y
          match hn : nf y, h1 with
          | [z], _ => rw [hn] at this; simpa [val] using this
        have y1 : y < 100000000 := by rw [← hy1]; exact ((nf_dg (by omega : 0 ≤ y)).getD 0).2
        have ad : addrS 1 vb (vi 0) = some (pt vb 0) := hy4.addrI (i := 0) (by omega) (by omega)
        have ld : ∀ G, Old H4.length H4 G ∨ Old H.length H4 G → loadS (pt vb 0) G = some (vi y) := fun G h => by
          have : R G vb (ints (nf y)) := by
            rcases h with h | h
            · exact hy4.mono h
            · exact hy.mono (old04.trans h)
          rw [this.loadI (by omega), hy1]
        obtain ⟨d, H5, s1, r5, old5, wf5⟩ := short_run wf4 hx4 x0 y0 y1 (by omega) n (by omega)
        have b35 := b3.mono (old5.mono (by omega))
        obtain ⟨H6, s2, b36, old6, wf6, k6⟩ := b35.set wf5 (i := 1) (by simp) r5.R.scal
        have s2 : storeS (bx (ptrA H2.length 0) 1) d H5 = some H6 := s2
        have b36 : BxM H2.length H3.length H6 (ptrA H2.length 0) [.bool false, d] := b36
        have r6 := r5.kept (Kept.mono k6 (by omega))
        have old46 := (old5.mono (by omega : H2.length ≤ H4.length)).trans old6
        have kr := fun (A : Fr) => ov_r6 (H := H4) (H5 := H5) (H6 := H6) (pa := ptrA H.length 0) (pb := ptrA H1.length 0) (p4 := ptrA H2.length 0) (p5 := ptrA H3.length 0) (va := va) (vb := vb) (d := d) (y := y) (z := x % y) (evB Try.prog noC n) n Try.f146.ntmps none (a := A) (q1 := bx (ptrA H.length 0) 1) (q2 := bx (ptrA H1.length 0) 1) (q3 := bx (ptrA H2.length 0) 1) (q4 := pt vb 0)
        simp only [Try.f146, Option.getD_some, atC] at kr
        obtain ⟨w, H7, s7, ⟨dr, rfl, r7⟩, old7, wf7⟩ := small_run (z := x % y) wf6 (by have := Int.emod_nonneg x (by omega : y ≠ 0); omega) (by have := Int.emod_lt_of_pos x y0; omega) n (by omega)
        have hz : decide (x % y < 0) = false := by have := Int.emod_nonneg x (by omega : y ≠ 0); simp; omega
        rw [hz] at s7
        rw [natAbs_pos (Int.emod_nonneg x (by omega : y ≠ 0))] at r7
        have g6 : H4.length ≤ H6.length := Nat.le_trans old5.1 old6.1
        have b47 := ((b4.mono old5).kept k6 (Nat.le_refl _)).mono (old7.mono g6)
        obtain ⟨H8, s8, b48, old8, wf8, k8⟩ := b47.store wf7 (vs := [.bool false, dr]) rfl
        have s8 : storeN 2 (ptrA H3.length 0) (.agg #[.bool false, dr]) H7 = some H8 := s8
        simp (disch := omega) only [Try.f146, Option.getD_some, atC, es_seq, es_region, es_cond, es_block, ops_nil, ops_cons, st_move, st_assign, st_fun, sy_len uL, sy_bin, binS_lss, binS_eql, bindO_some, bindF_some, bindX_normal, condX_true, condX_false, ev_tmp, ev_const, ev_func, putA, upd_at, Option.map_some, ↓reduceIte, Nat.reduceEqDiff, List.map_cons, List.map_nil, decide_true, ↓bindO_some, ↓bindF_some, ↓bindX_normal, ↓condX_true, ↓condX_false, sy_load aL, sy_faddr fW1, sy_storeN zW, h2, h3, f21, f31, l21, l31, s0, hc, hlen, c1]
        generalize hA : upd _ 6 _ = A
        obtain ⟨a', H', e, hH, g2', g3', g4', g5', g6'⟩ := kr A (by subst hA; exact h2) (by subst hA; exact h3) (by subst hA; exact h4) (by subst hA; exact h5) f21 f31 f41 ad (fun G h => by
          rcases h with rfl | rfl | rfl
          · exact l21
          · exact (b1.mono (old5.mono (by omega))).load 1
          · exact (b1.mono (old46.mono (by omega))).load 1) (fun G h => by
          rcases h with rfl | rfl | rfl
          · exact l31
          · exact (b2.mono (old5.mono (by omega))).load 1
          · exact (b2.mono (old46.mono (by omega))).load 1) (fun G h => by
          rcases h with rfl | rfl | rfl
          · exact ld _ (.inl (Old.refl _ _))
          · exact ld _ (.inl old5)
          · exact ld _ (.inr (old46.mono (by omega)))) hx.refl hy.refl s1 s2
        rw [e]
        subst hH
        simp (disch := omega) only [bindO_some, bindF_some, bindX_normal, blkX_normal, Option.map_some, ↓bindO_some, ↓bindF_some, ↓bindX_normal, g5', g6', s7, s8]
        refine ⟨_, _, d, dr, rfl, by simp only [upd_at, ↓reduceIte, Nat.reduceEqDiff, g2'], by simp only [upd_at, ↓reduceIte, Nat.reduceEqDiff, g3'], by simp only [upd_at, ↓reduceIte, Nat.reduceEqDiff, g4'], by simp only [upd_at, ↓reduceIte, Nat.reduceEqDiff, g5'], (old46.trans (old7.mono (by omega))).trans (old8.mono (by omega)), wf8, (b36.mono (old7.mono (by omega))).mono (old8.mono (by omega)), b48, ?_, ?_⟩
        · intro G' _ hk
          exact (((r6.mono old7).kept k8).kept hk).below (by omega)
        · intro G' _ hk
          have := ((r7.below g6).kept k8).kept hk
          exact ⟨this.R, .inl (this.below (by omega))⟩
      · have c1 : ¬ ((nf y).length : Int) = 1 := by omega
        have hl2 : 2 ≤ (nf y).length := by
          have := (nf_last (z := y) (by omega)).1
          omega
        obtain ⟨v1, v2, H5, s1, r1, r2, old5, wf5⟩ := hL (by omega) hl2 H4 va vb wf4 hx4 hy4 n (by omega)
        have b35 := b3.mono (old5.mono (by omega))
        obtain ⟨H6, s2, b36, old6, wf6, k6⟩ := b35.set wf5 (i := 1) (by simp) r1.R.scal
        have s2 : storeS (bx (ptrA H2.length 0) 1) v1 H5 = some H6 := s2
        have b36 : BxM H2.length H3.length H6 (ptrA H2.length 0) [.bool false, v1] := b36
        have b46 := (b4.mono old5).kept k6 (Nat.le_refl _)
        obtain ⟨H7, s3, b47, old7, wf7, k7⟩ := b46.set wf6 (i := 1) (by simp) r2.R.scal
        have s3 : storeS (bx (ptrA H3.length 0) 1) v2 H6 = some H7 := s3
        have b47 : BxM H3.length H4.length H7 (ptrA H3.length 0) [.bool false, v2] := b47
        simp (disch := omega) only [Try.f146, Option.getD_some, atC, es_seq, es_region, es_cond, es_block, ops_nil, ops_cons, st_move, st_assign, st_fun, sy_len uL, sy_bin, sy_ext, ext_20, ext_21, binS_lss, binS_eql, bindO_some, bindF_some, bindX_normal, blkX_normal, condX_false, ev_tmp, ev_const, ev_func, putA, upd_at, Option.map_some, ↓reduceIte, Nat.reduceEqDiff, List.map_cons, List.map_nil, decide_false, ↓bindO_some, ↓bindF_some, ↓bindX_normal, ↓condX_false, sy_load aL, sy_store zL, sy_faddr fW1, h2, h3, h4, h5, f21, f31, f41, f51, l21, l31, s0, hc, hlen, c1, s1, s2, s3]
        refine ⟨_, _, v1, v2, rfl, h2, h3, h4, h5, ((old5.mono (by omega)).trans old6).trans (old7.mono (by omega)), wf7, b36.mono (old7.mono (by omega)), b47, ?_, ?_⟩
        · intro G' _ hk
          exact (((r1.kept (Kept.mono k6 (by omega))).kept k7).kept hk).below (by omega)
        · intro G' _ hk
          have := ((r2.kept (Kept.mono k6 (by omega))).kept k7).kept hk
          exact ⟨this.R, .inl (this.below (by omega))⟩
  have first : ∃ A, evT Try.prog (evB Try.prog noC n) n Try.f146.ntmps none D1 (atC [0] ((Try.f146.body).getD .skip)) (frOf [.agg #[.bool false, va], .agg #[.bool false, vb]]) H = some (.normal, A, H4) ∧
      A 2 = ptrA H.length 0 ∧ A 3 = ptrA H1.length 0 ∧ A 4 = ptrA H2.length 0 ∧ A 5 = ptrA H3.length 0 := by
    simp (disch := omega) only [Try.f146, Option.getD_some, atC, es_region, ops_nil, ops_cons, bindO_some, bindF_some, ev_tmp, putA, upd_at, Option.map_some, ↓reduceIte, Nat.reduceEqDiff, frOf_0, frOf_1, ↓bindO_some, ↓bindF_some, sy_alloc iW scal_agg, sy_box, scal_agg, hH1, hH2, hH3, hH4]
    exact ⟨_, rfl, rfl, rfl, rfl, rfl⟩
  obtain ⟨A, e0, i2, i3, i4, i5⟩ := first
  obtain ⟨a1, G, dq, dr, e1, h2, h3, h4, h5, oldG, wfG, bq, br, kq, kr⟩ := head i2 i3 i4 i5
  obtain ⟨a2, G2, e2, j4, j5, m4, m5, oldT, kT, wfT⟩ := ov_tail wfG (evB Try.prog noC n) n Try.f146.ntmps none h2 h3 h4 h5 (b1.mono (oldG.mono (by omega))) (b2.mono (oldG.mono (by omega))) bq br (by omega) (by omega) (by omega) (by omega) (by omega) (fun G h k => (kq G h k).R) (fun G h k => (kr G h k).1)
  rw [e0, bindX_normal, e1, bindX_normal, e2]
  simp only [Try.f146, fin_r, res_cell aW zW, j4, j5, m4, m5, res_nil, Option.map_some, pack_2]
  exact ⟨_, _, _, rfl, kq G2 oldT kT, (kr G2 oldT kT).1, (kr G2 oldT kT).2, old04.trans ((oldG.mono (by omega)).trans (oldT.mono (by omega))), wfT⟩
end Go.Proofs.Ytmmgdgmjkhcfaaa
