/- Integers of the program: greatest common divisors, exported quotients. -/
import Derived.Test.YtmmgdgmjkhcfaaaSyN
set_option linter.all false
namespace Go.Proofs.Ytmmgdgmjkhcfaaa
open Go Go.Abs Go.Num
set_option maxRecDepth 10000
attribute [local congr] bindO_congr bindF_congr bindX_congr condX_congr iteB_congr binS_congr pickS_congr eqB_congr nilS_congr clsW_congr
/-- A list that stands while only the blocks from B to C are written. -/
def Held (B C : Nat) (H : Heap) (v : Value) (l : List Value) : Prop := ∀ G, Old B H G → Kept C H G → R G v l
theorem Held.R {B C : Nat} {H : Heap} {v : Value} {l : List Value} (h : Held B C H v l) : R H v l := h H (Old.refl _ _) (Kept.refl _ _)
theorem Held.go {B C : Nat} {H G : Heap} {v : Value} {l : List Value} (h : Held B C H v l) (ho : Old B H G) (hk : Kept C H G) : Held B C G v l := fun G' h1 h2 => h G' (ho.trans h1) (Kept.trans hk h2)
theorem Old.kept {C : Nat} {H H' : Heap} (h : Old H.length H H') : Kept C H H' := fun b f o cs _ _ hb => by rw [h.2 b (lt_of_blk hb)]; exact hb
theorem RO.held {B C : Nat} {H : Heap} {v : Value} {l : List Value} (h : RO C H v l) : Held B C H v l := fun _ _ hk => (h.kept hk).R
theorem R.held {C : Nat} {H G : Heap} {v : Value} {l : List Value} (h : R H v l) (ho : Old H.length H G) : Held H.length C G v l := fun _ h1 _ => h.mono (ho.trans h1)
theorem wh_of {H : Heap} {v : Value} {z : Int} (z0 : 0 ≤ z) (h : R H v (ints (nf z))) : Wh 0 H (.agg #[.bool false, v]) z := ⟨v, by rw [show decide (z < 0) = false from by simp; omega], by rw [natAbs_pos z0]; exact h.RO⟩
def LongAll (F : Nat) : Prop := ∀ x y : Int, 0 ≤ x → 0 < y → y ≤ x → (nf x).length ≤ 390 → 2 ≤ (nf y).length → LongOK F x y
theorem com_r3 {H H5 H6 : Heap} {pa pb pr wb wr : Value} (call : CallF) (k nt : Nat) (rd : Option Nat) {a : Fr} (h2 : a 2 = pa) (h3 : a 3 = pb) (h6 : a 6 = pr) {v4 : Value} (h4 : a 4 = v4)
    (l3 : loadN 2 pb H = some wb) (l6 : ∀ G, G = H ∨ G = H5 → loadN 2 pr G = some wr) (rb : vEq wb wb = true) (rr : vEq wr wr = true) (s2 : storeN 2 pa wb H = some H5) (s3 : storeN 2 pb wr H5 = some H6) :
    ∃ a' H', evT Try.prog call k nt rd D1 (atC [1, 0, 0, 0, 1, 0, 1] ((Try.f131.body).getD .skip)) a H = some (.normal, a', H') ∧ H' = H6 ∧ a' 2 = pa ∧ a' 3 = pb ∧ a' 4 = v4 := by
  simp only [Try.f131, Option.getD_some, atC]
  refine et_idx #[0, 0, 1, 7] (by kernel_rfl) (fun a' H' => H' = H6 ∧ a' 2 = pa ∧ a' 3 = pb ∧ a' 4 = v4) ?_
  have e1 := l6 H (.inl rfl)
  have e2 := l6 H5 (.inr rfl)
  simp (disch := omega) only [bindO_some, ev_tmp, putA, upd_at, Option.map_some, ↓reduceIte, Nat.reduceEqDiff, Nat.zero_add, ↓bindO_some, sy_loadN aW zW, sy_storeN zW, opsI_nil, opsI_cons, Nat.reduceAdd, clsW_eff, clsW_read, ↓clsW_eff, ↓clsW_read, cls_load, cls_store, h2, h3, h6, l3, e1, s2, s3]
  refine ⟨_, rfl, ?_, rfl, ?_, ?_, ?_⟩
  · intro G hG r hr
    simp only [List.mem_cons, List.not_mem_nil, or_false] at hG hr
    rcases hr with rfl | rfl
    · rcases hG with rfl | rfl | rfl
      · intro h; exact absurd (show ordB #[0, 0, 1, 7] (some 3) 1 = false from h) (by decide)
      · intro _; simp only [still_ldN aW zW, ev_tmp, upd_at, ↓reduceIte, Nat.reduceEqDiff, h6, e2, rr]
      · intro _; simp only [still_ldN aW zW, ev_tmp, upd_at, ↓reduceIte, Nat.reduceEqDiff, h6, e1, rr]
    · rcases hG with rfl | rfl | rfl
      · intro h; exact absurd (show ordB #[0, 0, 1, 7] (some 3) 0 = false from h) (by decide)
      · intro h; exact absurd (show ordB #[0, 0, 1, 7] (some 2) 0 = false from h) (by decide)
      · intro _; simp only [still_ldN aW zW, ev_tmp, h3, l3, rb]
  · simp only [upd_at, ↓reduceIte, Nat.reduceEqDiff, h2]
  · simp only [upd_at, ↓reduceIte, Nat.reduceEqDiff, h3]
  · simp only [upd_at, ↓reduceIte, Nat.reduceEqDiff, h4]
noncomputable def comA : Code := atC [1, 0, 0, 0] ((Try.f131.body).getD .skip)
theorem com_loop {p FL : Nat} {H0 H : Heap} {va vb p2 p3 p4 : Value} {x y : Int} (hLA : LongAll FL) (hp : p = H0.length) (old : Old p H0 H) (hw : WF H) (hH : p + 3 ≤ H.length) (x0 : 0 ≤ x) (y0 : 0 ≤ y) (lx : (nf x).length ≤ 380) (ly : (nf y).length ≤ 380) (b2 : BxM p (p + 1) H p2 [.bool false, va]) (b3 : BxM (p + 1) (p + 2) H p3 [.bool false, vb]) (b4 : BxM (p + 2) (p + 3) H p4 [.bool false, .slice none 0 0])
    (ha : Held p (p + 3) H va (ints (nf x))) (hb : Held p (p + 3) H vb (ints (nf y))) (n m nt : Nat) (hn : FL + 2012 ≤ n) {a : Fr} {k N : Nat} (hk : N < k) (hN : GM N x y) (h2 : a 2 = p2) (h3 : a 3 = p3) (h4 : a 4 = p4) :
    ∃ r a' G, loopN (evT Try.prog (evB Try.prog noC n) m nt none D1 comA) k a H = some (r, a', G) ∧ r = .exit 0 ∧ a' 2 = p2 ∧ a' 3 = p3 ∧ a' 4 = p4 ∧ ∃ v, Old p H0 G ∧ WF G ∧ p + 3 ≤ G.length ∧ BxM p (p + 1) G p2 [.bool false, v] ∧ BxM (p + 2) (p + 3) G p4 [.bool false, .slice none 0 0] ∧ Held p (p + 3) G v (ints (nf (Int.gcd x y))) := by
  refine loop_wf (fun N a G => a 2 = p2 ∧ a 3 = p3 ∧ a 4 = p4 ∧ ∃ u w va vb, GM N u w ∧ 0 ≤ u ∧ 0 ≤ w ∧ (nf u).length ≤ 380 ∧ (nf w).length ≤ 380 ∧ Int.gcd u w = Int.gcd x y ∧ Old p H0 G ∧ WF G ∧ p + 3 ≤ G.length ∧ BxM p (p + 1) G p2 [.bool false, va] ∧ BxM (p + 1) (p + 2) G p3 [.bool false, vb] ∧ BxM (p + 2) (p + 3) G p4 [.bool false, .slice none 0 0] ∧ Held p (p + 3) G va (ints (nf u)) ∧ Held p (p + 3) G vb (ints (nf w)))
    (fun r a' G => r = .exit 0 ∧ a' 2 = p2 ∧ a' 3 = p3 ∧ a' 4 = p4 ∧ ∃ v, Old p H0 G ∧ WF G ∧ p + 3 ≤ G.length ∧ BxM p (p + 1) G p2 [.bool false, v] ∧ BxM (p + 2) (p + 3) G p4 [.bool false, .slice none 0 0] ∧ Held p (p + 3) G v (ints (nf (Int.gcd x y)))) ?_ k N a H hk ⟨h2, h3, h4, x, y, va, vb, hN, x0, y0, lx, ly, rfl, old, hw, hH, b2, b3, b4, ha, hb⟩
  intro N a G ⟨h2, h3, h4, u, w, va, vb, hN, u0, w0, lu, lw, hg, old, hw, hG, b2, b3, b4, ha, hb⟩
  rw [show comA = atC [1, 0, 0, 0] ((Try.f131.body).getD .skip) from rfl]
  have la : loadN 2 p2 G = some (.agg #[.bool false, va]) := b2.loadAll
  have lb : loadN 2 p3 G = some (.agg #[.bool false, vb]) := b3.loadAll
  obtain ⟨G1, s1, old1, wf1⟩ := sign_run hw (wh_of w0 hb.R) (by rw [natAbs_pos w0]; omega) n (by omega)
  have oldp1 : Old p G G1 := old1.mono (by omega)
  have kp1 : Kept (p + 3) G G1 := Old.kept old1
  by_cases hz : w = 0
  · right
    subst hz
    have c1 : decide (cmpZ 0 0 = 0) = true := rfl
    simp (disch := omega) only [Try.f131, Option.getD_some, atC, es_seq, es_region, es_cond, es_exit, ops_nil, ops_cons, st_fun, sy_bin, binS_neq, bindO_some, bindF_some, bindX_normal, bindX_exit, condX_false, ev_tmp, ev_const, ev_func, putA, upd_at, Option.map_some, ↓reduceIte, List.map_cons, List.map_nil, Bool.not_true, ↓bindO_some, ↓bindF_some, ↓bindX_normal, ↓bindX_exit, ↓condX_false, sy_loadN aW zW, h3, lb, s1, c1]
    refine ⟨_, _, _, rfl, by simp, rfl, by simp only [upd_at, ↓reduceIte, Nat.reduceEqDiff, h2], by simp only [upd_at, ↓reduceIte, Nat.reduceEqDiff, h3], by simp only [upd_at, ↓reduceIte, Nat.reduceEqDiff, h4], va, old.trans oldp1, wf1, Nat.le_trans hG old1.1, b2.mono (old1.mono (by omega)), b4.mono (old1.mono (by omega)), ?_⟩
    rw [← hg, gcd_zero u0]
    exact ha.go oldp1 kp1
  · left
    have hc : cmpZ w 0 = 1 := by unfold cmpZ; rw [if_neg (by omega), if_pos (by omega)]
    have c1 : decide ((1 : Int) = 0) = false := rfl
    have ha1 := ha.go oldp1 kp1
    have hb1 := hb.go oldp1 kp1
    have b21 := b2.mono (old1.mono (by omega : p + 1 ≤ G.length))
    have b31 := b3.mono (old1.mono (by omega : p + 2 ≤ G.length))
    have b41 := b4.mono (old1.mono (by omega : p + 3 ≤ G.length))
    have la1 : loadN 2 p2 G1 = some (.agg #[.bool false, va]) := b21.loadAll
    have lb1 : loadN 2 p3 G1 = some (.agg #[.bool false, vb]) := b31.loadAll
    obtain ⟨v1, v2, G2, s2, r1, r2, q2, old2, wf2⟩ := over_run wf1 ha1.R hb1.R u0 (by omega) (by omega) (by omega) (fun h h' => hLA u w u0 (by omega) h (by omega) h') n hn
    have g1 := old1.1
    have g2 := old2.1
    have old3 := Old.app G2 [.cells G2.length true [.bool false, .slice none 0 0]]
    have wf3 := wf2.app (Nat.le_refl G2.length) (o := true) (cs := [.bool false, .slice none 0 0])
    have b5 := BxM.made (B := G2.length) (H := G2) (Nat.le_refl _) [.bool false, .slice none 0 0]
    generalize hH3 : G2 ++ [Blk.cells G2.length true [.bool false, .slice none 0 0]] = G3 at *
    have old4 := Old.app G3 [.cells G3.length true [.bool false, .slice none 0 0]]
    have wf4 := wf3.app (Nat.le_refl G3.length) (o := true) (cs := [.bool false, .slice none 0 0])
    have b6 := BxM.made (B := G3.length) (H := G3) (Nat.le_refl _) [.bool false, .slice none 0 0]
    generalize hH4 : G3 ++ [Blk.cells G3.length true [.bool false, .slice none 0 0]] = G4 at *
    have g3 : G3.length = G2.length + 1 := by rw [← hH3]; simp
    have g4 : G4.length = G3.length + 1 := by rw [← hH4]; simp
    obtain ⟨G5, s5, b55, old5, wf5, k5⟩ := (b5.mono old4).store wf4 (vs := [.bool false, v1]) rfl
    have s5 : storeN 2 (ptrA G2.length 0) (.agg #[.bool false, v1]) G4 = some G5 := s5
    obtain ⟨G6, s6, b66, old6, wf6, k6⟩ := (b6.kept k5 (by omega)).store wf5 (vs := [.bool false, v2]) rfl
    have s6 : storeN 2 (ptrA G3.length 0) (.agg #[.bool false, v2]) G5 = some G6 := s6
    have old26 : Old G2.length G2 G6 := ((old3.trans (old4.mono (by omega))).trans old5).trans (old6.mono (by omega))
    have old16 : Old G1.length G1 G6 := old2.trans (old26.mono (by omega))
    have g6 := old26.1
    have b26 := b21.mono (old16.mono (by omega))
    have b36 := b31.mono (old16.mono (by omega))
    have b46 := b41.mono (old16.mono (by omega))
    obtain ⟨G7, s7, b27, old7, wf7, k7⟩ := b26.store wf6 (vs := [.bool false, vb]) rfl
    have s7 : storeN 2 p2 (.agg #[.bool false, vb]) G6 = some G7 := s7
    have b37 := b36.kept k7 (Nat.le_refl _)
    obtain ⟨G8, s8, b38, old8, wf8, k8⟩ := b37.store wf7 (vs := [.bool false, v2]) rfl
    have s8 : storeN 2 p3 (.agg #[.bool false, v2]) G7 = some G8 := s8
    have b67 := b66.kept k7 (by omega)
    have kr := fun (A : Fr) => com_r3 (H := G6) (H5 := G7) (H6 := G8) (pa := p2) (pb := p3) (pr := ptrA G3.length 0) (wb := .agg #[.bool false, vb]) (wr := .agg #[.bool false, v2]) (evB Try.prog noC n) m nt none (a := A) (v4 := p4)
    simp only [Try.f131, Option.getD_some, atC] at kr
    simp (disch := omega) only [Try.f131, Option.getD_some, atC, es_seq, es_region, es_cond, es_block, es_skip, ops_nil, ops_cons, st_move, st_fun, sy_bin, sy_ext, ext_20, ext_21, binS_neq, bindO_some, bindF_some, bindX_normal, condX_true, ev_tmp, ev_const, ev_func, putA, upd_at, Option.map_some, ↓reduceIte, Nat.reduceEqDiff, List.map_cons, List.map_nil, Bool.not_false, ↓bindO_some, ↓bindF_some, ↓bindX_normal, ↓condX_true, sy_loadN aW zW, sy_storeN zW, sy_alloc iW scal_agg, h2, h3, lb, s1, hc, c1, la1, lb1, s2, hH3, hH4, s5, s6]
    generalize hA : upd _ 6 _ = A
    obtain ⟨a', _, e, hH', i2, i3, i4⟩ := kr A (by subst hA; exact h2) (by subst hA; exact h3) (by subst hA; rfl) (by subst hA; exact h4) b36.loadAll (fun G h => by
      rcases h with rfl | rfl
      · exact b66.loadAll
      · exact b67.loadAll) (vEq_whole hb1.R) (vEq_whole r2) s7 s8
    rw [hH'] at e
    rw [e]
    have oldp6 : Old p G1 G6 := old16.mono (by omega)
    have kp6 : Kept (p + 3) G1 G6 := Old.kept old16
    have oldp8 : Old p G6 G8 := old7.trans (old8.mono (by omega))
    have kp8 : Kept (p + 3) G6 G8 := Kept.trans (Kept.mono k7 (by omega)) (Kept.mono k8 (by omega))
    have hm0 := Int.emod_nonneg u (by omega : w ≠ 0)
    have hm1 := Int.emod_lt_of_pos u (by omega : 0 < w)
    obtain ⟨gm1, gm2⟩ := hN.step u0 (by omega : 0 < w)
    simp (disch := omega) only [blkX_normal]
    refine ⟨_, _, rfl, N - 1, by omega, i2, i3, i4, w, u % w, vb, v2, gm2, w0, hm0, lw, Nat.le_trans (nf_len_mono hm0 (by omega)) lw, by rw [gcd_step u0 w0]; exact hg, (old.trans oldp1).trans (oldp6.trans oldp8), wf8, ?_, b27.mono (old8.mono (by omega)), b38, (b46.kept k7 (by omega)).kept k8 (by omega), hb1.go (oldp6.trans oldp8) (Kept.trans kp6 kp8), ?_⟩
    · have := old7.1; have := old8.1; omega
    · rcases q2 with q2 | ⟨rfl, hq⟩
      · have r8 : RO (p + 3) G8 v2 (ints (nf (u % w))) := ((q2.mono old26).below (by omega)).kept kp8
        exact RO.held r8
      · rw [hq]
        exact ha1.go (oldp6.trans oldp8) (Kept.trans kp6 kp8)
theorem common_run {FL : Nat} (hLA : LongAll FL) {H : Heap} {va vb : Value} {x y : Int} (hw : WF H) (hx : R H va (ints (nf x))) (hy : R H vb (ints (nf y))) (x0 : 0 ≤ x) (y0 : 0 ≤ y) (lx : (nf x).length ≤ 15) (ly : (nf y).length ≤ 15) (n : Nat) (hn : FL + 3020 ≤ n) :
    ∃ v H', evB Try.prog noC n (.func (.func 131) #[] #[]) [.agg #[.bool false, va], .agg #[.bool false, vb]] H = some (.agg #[.bool false, v], H') ∧ R H' v (ints (nf (Int.gcd x y))) ∧ Old H.length H H' ∧ WF H' := by
  refine run_of (F := FL + 3019) (Q := fun r => ∃ v H', r = some (.agg #[.bool false, v], H') ∧ R H' v (ints (nf (Int.gcd x y))) ∧ Old H.length H H' ∧ WF H') (fun n hn => ?_) n (by omega)
  rw [body_runS Try.func131 rfl (ok_fn (by rfl) Try.func131 rfl) (Nat.le_of_ble_eq_true rfl) (D := D1) (by kernel_rfl)]
  have old1 := Old.app H [.cells H.length true [.bool false, va]]
  have wf1 := hw.app (Nat.le_refl H.length) (o := true) (cs := [.bool false, va])
  have b1 := BxM.made (B := H.length) (H := H) (Nat.le_refl _) [.bool false, va]
  generalize hH1 : H ++ [Blk.cells H.length true [.bool false, va]] = H1 at *
  have old2 := Old.app H1 [.cells H1.length true [.bool false, vb]]
  have wf2 := wf1.app (Nat.le_refl H1.length) (o := true) (cs := [.bool false, vb])
  have b2 := BxM.made (B := H1.length) (H := H1) (Nat.le_refl _) [.bool false, vb]
  generalize hH2 : H1 ++ [Blk.cells H1.length true [.bool false, vb]] = H2 at *
  have old3 := Old.app H2 [.cells H2.length true [.bool false, .slice none 0 0]]
  have wf3 := wf2.app (Nat.le_refl H2.length) (o := true) (cs := [.bool false, .slice none 0 0])
  have b3 := BxM.made (B := H2.length) (H := H2) (Nat.le_refl _) [.bool false, .slice none 0 0]
  generalize hH3 : H2 ++ [Blk.cells H2.length true [.bool false, .slice none 0 0]] = H3 at *
  have g1 : H1.length = H.length + 1 := by rw [← hH1]; simp
  have g2 : H2.length = H1.length + 1 := by rw [← hH2]; simp
  have g3 : H3.length = H2.length + 1 := by rw [← hH3]; simp
  have old23 := old2.trans (old3.mono (by omega))
  have old03 := old1.trans (old23.mono (by omega))
  have e1 : H1.length = H.length + 1 := g1
  have b1' : BxM H.length (H.length + 1) H3 (ptrA H.length 0) [.bool false, va] := by rw [← g1]; exact b1.mono old23
  have b2' : BxM (H.length + 1) (H.length + 2) H3 (ptrA H1.length 0) [.bool false, vb] := by
    have := b2.mono old3
    rw [show H2.length = H.length + 2 from by omega, g1] at this
    rw [g1]; exact this
  have b3' : BxM (H.length + 2) (H.length + 3) H3 (ptrA H2.length 0) [.bool false, .slice none 0 0] := by
    have := b3
    rw [show H3.length = H.length + 3 from by omega, show H2.length = H.length + 2 from by omega] at this
    rw [show H2.length = H.length + 2 from by omega]; exact this
  have key := fun (A : Fr) => com_loop hLA rfl old03 wf3 (by omega) x0 y0 (by omega) (by omega) b1' b2' b3' (R.held hx old03) (R.held hy old03) n n Try.f131.ntmps (by omega) (a := A) (k := n) (N := 900) (by omega) (GM.start x0 y0 lx ly)
  rw [show comA = atC [1, 0, 0, 0] ((Try.f131.body).getD .skip) from rfl] at key
  simp only [Try.f131, Option.getD_some, atC] at key
  simp (disch := omega) only [Try.f131, es_seq, es_region, es_block, es_loop, es_ret, ops_nil, ops_cons, bindO_some, bindF_some, bindX_normal, ev_tmp, ev_const, putA, upd_at, Option.map_some, ↓reduceIte, Nat.reduceEqDiff, frOf_0, frOf_1, ↓bindO_some, ↓bindF_some, ↓bindX_normal, sy_store zB, sy_faddr fW0, sy_loadN aW zW, sy_storeN zW, sy_alloc iW scal_agg, sy_box, scal_agg, hH1, hH2, hH3]
  generalize hA : upd _ 4 _ = A
  obtain ⟨r, a', G, e, hr, h2, h3, h4, v, old, wf, hG, b2, b4, hv⟩ := key A (by subst hA; rfl) (by subst hA; rfl) (by subst hA; rfl)
  subst hr
  rw [e]
  clear e key
  have f2 := b2.faddr 0
  obtain ⟨G1, s1, c2, o1, w1, k1⟩ := b2.set wf (i := 0) (by simp) (v := .bool false) rfl
  have s1 : storeS (bx (ptrA H.length 0) 0) (.bool false) G = some G1 := s1
  have c2 : BxM H.length (H.length + 1) G1 (ptrA H.length 0) [.bool false, v] := c2
  have l1 : loadN 2 (ptrA H.length 0) G1 = some (.agg #[.bool false, v]) := c2.loadAll
  obtain ⟨G2, s2, c4, o2, w2, k2⟩ := (b4.kept k1 (by omega)).store w1 (vs := [.bool false, v]) rfl
  have s2 : storeN 2 (ptrA H2.length 0) (.agg #[.bool false, v]) G1 = some G2 := s2
  have l2 : loadN 2 (ptrA H2.length 0) G2 = some (.agg #[.bool false, v]) := c4.loadAll
  simp (disch := omega) only [bindO_some, bindF_some, bindX_normal, blkX_exit, upd_at, Option.map_some, ↓reduceIte, Nat.reduceEqDiff, ↓bindO_some, ↓bindF_some, ↓bindX_normal, fin_r, res_nil, pack_1, res_cell aW zW, h2, h4, f2, s1, l1, s2, l2]
  have o12 : Old H.length G G2 := o1.trans (o2.mono (by omega))
  exact ⟨_, _, rfl, hv G2 o12 (Kept.trans (Kept.mono k1 (by omega)) k2), old.trans o12, w2⟩
/-- What 'read' makes of a number that is not negative. -/
theorem read_pos {H : Heap} {v : Value} {z : Int} (hw : WF H) (hv : NumV H v z) (z0 : 0 ≤ z) (n : Nat) (hn : 2001 ≤ n) :
    ∃ d H', evB Try.prog noC n (.func (.func 83) #[] #[]) [v] H = some (.agg #[.bool false, d], H') ∧ R H' d (ints (nf z)) ∧ Old H.length H H' ∧ WF H' := by
  obtain ⟨w, H', e, ⟨d, rfl, hd⟩, ho, hw'⟩ := read_run hw hv n hn
  rw [show decide (z < 0) = false from by simp; omega] at e
  rw [natAbs_pos z0] at hd
  exact ⟨d, H', e, hd.R, ho, hw'⟩
theorem gcd_le {x y : Int} (x0 : 0 ≤ x) (y0 : 0 ≤ y) : (nf (Int.gcd x y)).length ≤ max (nf x).length (nf y).length := by
  by_cases hx : x = 0
  · subst hx
    rw [Int.gcd_zero_left, natAbs_pos y0]; omega
  · have h1 : ((Int.gcd x y : Nat) : Int) ≤ x := Int.le_of_dvd (by omega) (Int.gcd_dvd_left ..)
    have := nf_len_mono (x := (Int.gcd x y : Int)) (by omega) h1
    omega
theorem gcdP_run {FL : Nat} (hLA : LongAll FL) {H : Heap} {vx vy : Value} {x y : Int} (hw : WF H) (hx : NumV H vx x) (hy : NumV H vy y) (x0 : 0 ≤ x) (y0 : 0 ≤ y) (lx : (nf x).length ≤ 15) (ly : (nf y).length ≤ 15) (n : Nat) (hn : FL + 3021 ≤ n) :
    OneL H (evB Try.prog noC n (.func (.func 107) #[] #[]) [vx, vy] H) (nf (Int.gcd x y)) := by
  refine run_of (F := FL + 3020) (Q := fun r => OneL H r (nf (Int.gcd x y))) (fun n hn => ?_) n (by omega)
  rw [body_runS Try.func107 rfl (ok_fn (by rfl) Try.func107 rfl) (Nat.le_of_ble_eq_true rfl) (D := D0) (by kernel_rfl)]
  obtain ⟨dx, H1, s1, r1, old1, wf1⟩ := read_pos hw hx x0 n (by omega)
  obtain ⟨dy, H2, s2, r2, old2, wf2⟩ := read_pos wf1 (hy.mono old1) y0 n (by omega)
  obtain ⟨v, H3, s3, r3, old3, wf3⟩ := common_run hLA wf2 (r1.mono old2) r2 x0 y0 lx ly n (by omega)
  have hl := gcd_le x0 y0
  obtain ⟨u, H4, s4, o4, old4, wf4⟩ := list_run wf3 (wh_of (by omega) r3) (by rw [abs_len]; omega) n (by omega)
  simp (disch := omega) only [Try.f107, es_seq, es_region, es_ret, ops_nil, ops_cons, st_move, st_assign, st_fun, bindO_some, bindF_some, bindX_normal, ev_tmp, ev_const, ev_func, putA, upd_at, Option.map_some, ↓reduceIte, Nat.reduceEqDiff, frOf_0, frOf_1, List.map_cons, List.map_nil, ↓bindO_some, ↓bindF_some, ↓bindX_normal, fin_r, res_nil, res_tmp, pack_1, s1, s2, s3, s4, o4.R.scal]
  have old12 := old1.trans (old2.mono old1.1)
  have old13 := old12.trans (old3.mono old12.1)
  exact ⟨_, _, rfl, o4.below old13.1, old13.trans (old4.mono old13.1), wf4⟩
end Go.Proofs.Ytmmgdgmjkhcfaaa
