/- Integers of the program: sums. -/
import Derived.Test.YtmmgdgmjkhcfaaaSyI
set_option linter.all false
namespace Go.Proofs.Ytmmgdgmjkhcfaaa
open Go Go.Abs Go.Num
set_option maxRecDepth 10000
attribute [local congr] bindO_congr bindF_congr bindX_congr condX_congr iteB_congr binS_congr pickS_congr eqB_congr nilS_congr clsW_congr
theorem cpl_sign {x y : Int} {nx : Bool} (hx : decide (x < 0) = nx) (hy : decide (y < 0) = nx) : decide (x + y < 0) = nx ∧ ((x + y).natAbs : Int) = x.natAbs + y.natAbs := by
  cases nx with
  | true =>
    have h1 : x < 0 := by simpa using hx
    have h2 : y < 0 := by simpa using hy
    exact ⟨by simp; omega, by omega⟩
  | false =>
    have h1 : ¬ x < 0 := by simpa using hx
    have h2 : ¬ y < 0 := by simpa using hy
    exact ⟨by simp; omega, by omega⟩
theorem mix_sign {x y : Int} {nx ny : Bool} (hx : decide (x < 0) = nx) (hy : decide (y < 0) = ny) (hn : nx ≠ ny) :
    ((y.natAbs : Int) < x.natAbs → decide (x + y < 0) = nx ∧ ((x + y).natAbs : Int) = x.natAbs - y.natAbs) ∧ ((x.natAbs : Int) < y.natAbs → decide (x + y < 0) = ny ∧ ((x + y).natAbs : Int) = y.natAbs - x.natAbs) ∧ ((x.natAbs : Int) = y.natAbs → x + y = 0) := by
  cases nx <;> cases ny <;> first | exact absurd rfl hn | skip
  · have h1 : ¬ x < 0 := by simpa using hx
    have h2 : y < 0 := by simpa using hy
    exact ⟨fun h => ⟨by simp; omega, by omega⟩, fun h => ⟨by simp; omega, by omega⟩, fun h => by omega⟩
  · have h1 : x < 0 := by simpa using hx
    have h2 : ¬ y < 0 := by simpa using hy
    exact ⟨fun h => ⟨by simp; omega, by omega⟩, fun h => ⟨by simp; omega, by omega⟩, fun h => by omega⟩
theorem plus_run {C : Nat} {H : Heap} {wx wy : Value} {x y : Int} (hw : WF H) (hx : Wh C H wx x) (hy : Wh C H wy y) (lx : (nf x.natAbs).length ≤ 890) (ly : (nf y.natAbs).length ≤ 890) (n : Nat) (hn : 2010 ≤ n) :
    OneW H (evB Try.prog noC n (.func (.func 84) #[] #[]) [wx, wy] H) (x + y) := by
  obtain ⟨vx, rfl, hx⟩ := hx
  obtain ⟨vy, rfl, hy⟩ := hy
  have hx := hx.R
  have hy := hy.R
  generalize hnx : decide (x < 0) = nx
  generalize hny : decide (y < 0) = ny
  refine run_of (F := 2009) (Q := fun r => OneW H r (x + y)) (fun n hn => ?_) n hn
  rw [body_runS Try.func84 rfl (ok_fn (by rfl) Try.func84 rfl) (Nat.le_of_ble_eq_true rfl) (D := D1) (by kernel_rfl)]
  have old1 := Old.app H [.cells H.length true [.bool nx, vx]]
  have wf1 := hw.app (Nat.le_refl H.length) (o := true) (cs := [.bool nx, vx])
  have b1 := BxM.made (B := H.length) (H := H) (Nat.le_refl _) [.bool nx, vx]
  generalize hH1 : H ++ [Blk.cells H.length true [.bool nx, vx]] = H1 at *
  have old2 := Old.app H1 [.cells H1.length true [.bool ny, vy]]
  have wf2 := wf1.app (Nat.le_refl H1.length) (o := true) (cs := [.bool ny, vy])
  have b2 := BxM.made (B := H1.length) (H := H1) (Nat.le_refl _) [.bool ny, vy]
  generalize hH2 : H1 ++ [Blk.cells H1.length true [.bool ny, vy]] = H2 at *
  have old3 := Old.app H2 [.cells H2.length true [.bool false, .slice none 0 0]]
  have wf3 := wf2.app (Nat.le_refl H2.length) (o := true) (cs := [.bool false, .slice none 0 0])
  have b3 := BxM.made (B := H2.length) (H := H2) (Nat.le_refl _) [.bool false, .slice none 0 0]
  generalize hH3 : H2 ++ [Blk.cells H2.length true [.bool false, .slice none 0 0]] = H3 at *
  have old13 := old2.trans (old3.mono old2.1)
  have old03 := old1.trans (old13.mono old1.1)
  have b1 := b1.mono old13
  have b2 := b2.mono old3
  have f10 := b1.faddr 0
  have f11 := b1.faddr 1
  have f20 := b2.faddr 0
  have f21 := b2.faddr 1
  have l10 : loadS (bx (ptrA H.length 0) 0) H3 = some (.bool nx) := b1.load 0
  have l11 : loadS (bx (ptrA H.length 0) 1) H3 = some vx := b1.load 1
  have l20 : loadS (bx (ptrA H1.length 0) 0) H3 = some (.bool ny) := b2.load 0
  have l21 : loadS (bx (ptrA H1.length 0) 1) H3 = some vy := b2.load 1
  have hx3 := hx.mono old03
  have hy3 := hy.mono old03
  have hlx := hx.lenI
  have hly := hy.lenI
  -- the end: the box of the result
  have fin : ∀ (H4 : Heap) (v : Value) (nb : Bool) (z : Int), Old H3.length H3 H4 → WF H4 → RO H3.length H4 v (ints (nf z.natAbs)) → decide (z < 0) = nb → ∃ H5, storeN 2 (ptrA H2.length 0) (.agg #[.bool nb, v]) H4 = some H5 ∧ loadN 2 (ptrA H2.length 0) H5 = some (.agg #[.bool nb, v]) ∧ OneW H (some (.agg #[.bool nb, v], H5)) z ∧ Old H2.length H3 H5 := by
    intro H4 v nb z old4 wf4 r4 hz
    obtain ⟨H5, s5, b5, old5, wf5, keep5⟩ := (b3.mono old4).store wf4 (vs := [.bool nb, v]) rfl
    exact ⟨H5, s5, b5.loadAll, ⟨_, _, rfl, ⟨v, by rw [hz], (r4.kept keep5).below old03.1⟩, (old03.trans (old4.mono old03.1)).trans (old5.mono (Nat.le_trans old1.1 old2.1)), wf5⟩, (old4.mono old3.1).trans old5⟩
  by_cases hs : nx = ny
  · subst hs
    obtain ⟨hsgn, hsum⟩ := cpl_sign hnx hny
    have key := fun (A : Fr) {vl vs vo : Value} {u w : Int} {H' : Heap} (hB : H3.length ≤ H'.length) (hlg : ∀ G, Old H3.length H' G → R G vl (ints (nf u))) (hsh : ∀ G, Old H3.length H' G → R G vs (ints (nf w))) (u0 : 0 ≤ u) (w0 : 0 ≤ w) (hlw : (nf w).length ≤ (nf u).length) (hw : WF H') (lu : (nf u).length ≤ 890) (ho : O H3.length H' vo (ints [])) => plu_loop (p2 := ptrA H.length 0) (p4 := ptrA H2.length 0) hB hlg hsh u0 w0 hlw hw (by omega) ho (evB Try.prog noC n) n Try.f84.ntmps (a := A) (k := n) (by omega)
    rw [show pluA = atC [1, 0, 1, 0, 1, 1, 1, 1, 0, 1, 0, 0] ((Try.f84.body).getD .skip) from rfl] at key
    have kr := fun (A : Fr) (h2 : A 2 = ptrA H.length 0) (h3 : A 3 = ptrA H1.length 0) => plu_r2 (evB Try.prog noC n) n Try.f84.ntmps none (a := A) h2 h3 f11 f21 l11 l21 hx.refl hy.refl
    simp only [Try.f84, Option.getD_some, atC] at key kr
    have heq : (nx == nx) = true := by cases nx <;> rfl
    have z0 : zeros Try.prog 3 1 (Int.toNat 0) = some [] := nI
    have z0' : zeros Try.prog 3 1 0 = some [] := nI
    have oldm := Old.app H3 [.cells H3.length true []]
    have wfm := wf3.app (Nat.le_refl H3.length) (o := true) (cs := [])
    have om := O.empty (H := H3) (Nat.le_refl H3.length)
    have stay : ∀ {v : Value} {l : List Value}, R H3 v l → ∀ G, Old H3.length (H3 ++ [.cells H3.length true []]) G → R G v l := fun h G hG => h.mono (oldm.trans hG)
    simp (disch := omega) only [Try.f84, es_seq, es_region, es_cond, es_block, es_loop, es_skip, es_ret, ops_nil, ops_cons, st_move, st_assign, st_fun, sy_len uL, sy_bin, sy_append eL pI, sy_build1 eL oI, sy_make eL yI (by decide), bindO_some, bindF_some, bindX_normal, condX_true, ev_tmp, ev_const, ev_func, putA, upd_at, Option.map_some, ↓reduceIte, Nat.reduceEqDiff, frOf_0, frOf_1, List.map_cons, List.map_nil, beq_self_eq_true, ↓bindO_some, ↓bindF_some, ↓bindX_normal, ↓condX_true, sy_load aL, sy_load aB, sy_faddr fW0, sy_faddr fW1, sy_storeN zW, sy_alloc iW scal_agg, sy_box, sy_build, bW0, sy_eq qB, eqB_bool, scal_agg, Bool.false_xor, hH1, hH2, hH3, f10, f20, l10, l20]
    generalize hA : upd _ 15 _ = A
    obtain ⟨a2, H', e2, hH', g5, g6, g2, g3, g4⟩ := kr A (by subst hA; rfl) (by subst hA; rfl)
    have g4 : a2 4 = ptrA H2.length 0 := by rw [g4]; subst hA; rfl
    subst hH'
    rw [e2]
    clear e2 kr
    by_cases hlen : (nf x.natAbs).length < (nf y.natAbs).length
    · have c1 : ((nf x.natAbs).length : Int) < (nf y.natAbs).length := by omega
      have e1 : IntKind.i64.wrap (((nf y.natAbs).length : Int) + 1) = ((nf y.natAbs).length : Int) + 1 := wr64 (by omega) (by omega)
      have c2 : (0 : Int) ≤ ((nf y.natAbs).length : Int) + 1 := by omega
      have c3 : ((nf y.natAbs).length : Int) + 1 ≤ 1048576 := by omega
      simp (disch := omega) only [binS_lss, binS_add, bindO_some, bindF_some, bindX_normal, condX_true, upd_at, Option.map_some, ↓reduceIte, Nat.reduceEqDiff, decide_true, ↓bindO_some, ↓bindF_some, ↓bindX_normal, ↓condX_true, g5, g6, hlx, hly, c1, e1, c2, c3, Int.le_refl, and_self, z0]
      generalize hA : upd _ 33 _ = A
      obtain ⟨r, a', H', e, hr, g2, g4, old4, wf4, vo, out, c, g7, g8, oo, hol, hd, c0, c1', hval⟩ := key A oldm.1 (stay hy3) (stay hx3) (by omega) (by omega) (by omega) wfm ly om (by subst hA; exact g2) (by subst hA; exact g4) (by subst hA; rfl) (by subst hA; rfl) (by subst hA; rfl) (by subst hA; rfl) (by subst hA; rfl) (by subst hA; rfl)
      subst hr
      rw [e]
      clear e key
      have old34 := oldm.trans old4
      obtain ⟨pf0, pf1⟩ := plu_fin hd hol (by omega) (by omega) (by omega) c0 c1' hval
      rw [show ((y.natAbs : Nat) : Int) + x.natAbs = (x + y).natAbs from by omega] at pf0 pf1
      by_cases hc : c = 0
      · subst hc
        rw [pf0 rfl] at oo
        have m10 : loadS (bx (ptrA H.length 0) 0) H' = some (.bool nx) := (b1.mono (old34.mono (by have := old2.1; have := old3.1; omega))).load 0
        obtain ⟨H5, s5, s6, ow, _⟩ := fin H' vo nx (x + y) old34 wf4 oo.RO hsgn
        simp (disch := omega) only [binS_gtr, bindO_some, bindF_some, bindX_normal, bindX_ret, blkX_exit, condX_false, upd_at, Option.map_some, ↓reduceIte, Nat.reduceEqDiff, dec00, ↓bindO_some, ↓bindF_some, ↓bindX_normal, ↓bindX_ret, ↓condX_false, fin_r, res_nil, pack_1, res_cell aW zW, g2, g4, g7, g8, f10, m10, bW2 nx vo oo.R.scal, s5, s6]
        exact ow
      · obtain rfl : c = 1 := by omega
        have hpos : (0 : Int) < 1 := by omega
        obtain ⟨v6, H6, s6', o6, old6, wf6⟩ := oo.pushI wf4 old34.1 (by unfold maxA; omega) 1
        rw [pf1 rfl] at o6
        have old36 := old34.trans old6
        have m10 : loadS (bx (ptrA H.length 0) 0) H6 = some (.bool nx) := (b1.mono (old36.mono (by have := old2.1; have := old3.1; omega))).load 0
        obtain ⟨H5, s5, s6, ow, _⟩ := fin H6 v6 nx (x + y) old36 wf6 o6.RO hsgn
        simp (disch := omega) only [binS_gtr, bindO_some, bindF_some, bindX_normal, bindX_ret, blkX_exit, condX_true, upd_at, Option.map_some, ↓reduceIte, Nat.reduceEqDiff, decide_true, ↓bindO_some, ↓bindF_some, ↓bindX_normal, ↓bindX_ret, ↓condX_true, fin_r, res_nil, pack_1, scal_vi, res_cell aW zW, g2, g4, g7, g8, hpos, s6', f10, m10, bW2 nx v6 o6.R.scal, s5, s6]
        exact ow
    · have c1 : ¬ ((nf x.natAbs).length : Int) < (nf y.natAbs).length := by omega
      have e1 : IntKind.i64.wrap (((nf x.natAbs).length : Int) + 1) = ((nf x.natAbs).length : Int) + 1 := wr64 (by omega) (by omega)
      have c2 : (0 : Int) ≤ ((nf x.natAbs).length : Int) + 1 := by omega
      have c3 : ((nf x.natAbs).length : Int) + 1 ≤ 1048576 := by omega
      simp (disch := omega) only [binS_lss, binS_add, bindO_some, bindF_some, bindX_normal, condX_false, upd_at, Option.map_some, ↓reduceIte, Nat.reduceEqDiff, decide_false, ↓bindO_some, ↓bindF_some, ↓bindX_normal, ↓condX_false, g5, g6, hlx, hly, c1, e1, c2, c3, Int.le_refl, and_self, z0]
      generalize hA : upd _ 33 _ = A
      obtain ⟨r, a', H', e, hr, g2, g4, old4, wf4, vo, out, c, g7, g8, oo, hol, hd, c0, c1', hval⟩ := key A oldm.1 (stay hx3) (stay hy3) (by omega) (by omega) (by omega) wfm lx om (by subst hA; exact g2) (by subst hA; exact g4) (by subst hA; exact g6) (by subst hA; rfl) (by subst hA; rfl) (by subst hA; rfl) (by subst hA; rfl) (by subst hA; rfl)
      subst hr
      rw [e]
      clear e key
      have old34 := oldm.trans old4
      obtain ⟨pf0, pf1⟩ := plu_fin hd hol (by omega) (by omega) (by omega) c0 c1' hval
      rw [show ((x.natAbs : Nat) : Int) + y.natAbs = (x + y).natAbs from by omega] at pf0 pf1
      by_cases hc : c = 0
      · subst hc
        rw [pf0 rfl] at oo
        have m10 : loadS (bx (ptrA H.length 0) 0) H' = some (.bool nx) := (b1.mono (old34.mono (by have := old2.1; have := old3.1; omega))).load 0
        obtain ⟨H5, s5, s6, ow, _⟩ := fin H' vo nx (x + y) old34 wf4 oo.RO hsgn
        simp (disch := omega) only [binS_gtr, bindO_some, bindF_some, bindX_normal, bindX_ret, blkX_exit, condX_false, upd_at, Option.map_some, ↓reduceIte, Nat.reduceEqDiff, dec00, ↓bindO_some, ↓bindF_some, ↓bindX_normal, ↓bindX_ret, ↓condX_false, fin_r, res_nil, pack_1, res_cell aW zW, g2, g4, g7, g8, f10, m10, bW2 nx vo oo.R.scal, s5, s6]
        exact ow
      · obtain rfl : c = 1 := by omega
        have hpos : (0 : Int) < 1 := by omega
        obtain ⟨v6, H6, s6', o6, old6, wf6⟩ := oo.pushI wf4 old34.1 (by unfold maxA; omega) 1
        rw [pf1 rfl] at o6
        have old36 := old34.trans old6
        have m10 : loadS (bx (ptrA H.length 0) 0) H6 = some (.bool nx) := (b1.mono (old36.mono (by have := old2.1; have := old3.1; omega))).load 0
        obtain ⟨H5, s5, s6, ow, _⟩ := fin H6 v6 nx (x + y) old36 wf6 o6.RO hsgn
        simp (disch := omega) only [binS_gtr, bindO_some, bindF_some, bindX_normal, bindX_ret, blkX_exit, condX_true, upd_at, Option.map_some, ↓reduceIte, Nat.reduceEqDiff, decide_true, ↓bindO_some, ↓bindF_some, ↓bindX_normal, ↓bindX_ret, ↓condX_true, fin_r, res_nil, pack_1, scal_vi, res_cell aW zW, g2, g4, g7, g8, hpos, s6', f10, m10, bW2 nx v6 o6.R.scal, s5, s6]
        exact ow
  · have hne : (nx == ny) = false := by cases nx <;> cases ny <;> first | rfl | exact absurd rfl hs
    obtain ⟨m1, m2, m3⟩ := mix_sign hnx hny hs
    have s0 := sizes_run hx3 hy3 (by omega) (by omega) (by omega) (by omega) n (by omega)
    have k23 := fun (A : Fr) {H4 H5 H6 : Heap} {c d : Value} {nb : Bool} => plu_r23 (H := H3) (H4 := H4) (H5 := H5) (H6 := H6) (px := ptrA H.length 0) (py := ptrA H1.length 0) (p4 := ptrA H2.length 0) (vx := vx) (vy := vy) (c := c) (d := d) (nb := nb) (q0 := bx (ptrA H.length 0) 0) (q1 := bx (ptrA H.length 0) 1) (qy := bx (ptrA H1.length 0) 1) (evB Try.prog noC n) n Try.f84.ntmps none (a := A)
    have k24 := fun (A : Fr) {H4 H5 H6 : Heap} {c d : Value} {nb : Bool} => plu_r24 (H := H3) (H4 := H4) (H5 := H5) (H6 := H6) (px := ptrA H1.length 0) (py := ptrA H.length 0) (p4 := ptrA H2.length 0) (vx := vy) (vy := vx) (c := c) (d := d) (nb := nb) (q0 := bx (ptrA H1.length 0) 0) (q1 := bx (ptrA H1.length 0) 1) (qy := bx (ptrA H.length 0) 1) (evB Try.prog noC n) n Try.f84.ntmps none (a := A)
    simp only [Try.f84, Option.getD_some, atC] at k23 k24
    have rd : ∀ (G : Heap), Old H2.length H3 G → loadS (bx (ptrA H.length 0) 0) G = some (.bool nx) ∧ loadS (bx (ptrA H.length 0) 1) G = some vx ∧ loadS (bx (ptrA H1.length 0) 0) G = some (.bool ny) ∧ loadS (bx (ptrA H1.length 0) 1) G = some vy := fun G hG =>
      ⟨(b1.mono (hG.mono old2.1)).load 0, (b1.mono (hG.mono old2.1)).load 1, (b2.mono hG).load 0, (b2.mono hG).load 1⟩
    by_cases h1 : (y.natAbs : Int) < x.natAbs
    · have ec : cmpZ (x.natAbs : Int) y.natAbs = 1 := by unfold cmpZ; rw [if_neg (by omega), if_pos h1]
      rw [ec] at s0
      obtain ⟨hsg, hab⟩ := m1 h1
      obtain ⟨v4, H4, s4, o4, old4, wf4⟩ := clone_run wf3 hx3 (by omega) n (by omega)
      obtain ⟨v5, H5, s5, r5, old5, wf5⟩ := les_run o4 (fun G hG => hy3.mono (old4.trans hG)) (by omega) (by omega) wf4 (by omega) n (by omega)
      rw [← hab] at r5
      obtain ⟨H6, s6, s7, ow, old6⟩ := fin H5 v5 nx (x + y) (old4.trans old5) wf5 r5 hsg
      have c1 : ¬ (1 : Int) = 0 := by omega
      simp (disch := omega) only [Try.f84, es_seq, es_region, es_cond, es_block, es_skip, es_ret, ops_nil, ops_cons, st_assign, st_fun, sy_bin, binS_eql, bindO_some, bindF_some, bindX_normal, condX_true, condX_false, ev_tmp, ev_const, ev_func, putA, upd_at, Option.map_some, ↓reduceIte, Nat.reduceEqDiff, frOf_0, frOf_1, List.map_cons, List.map_nil, decide_true, decide_false, ↓bindO_some, ↓bindF_some, ↓bindX_normal, ↓condX_true, ↓condX_false, sy_load aL, sy_load aB, sy_faddr fW0, sy_faddr fW1, sy_alloc iW scal_agg, sy_box, sy_eq qB, eqB_bool, scal_agg, Bool.false_xor, hH1, hH2, hH3, f10, f20, l10, l20, hne, f11, f21, l11, l21, s0, c1]
      generalize hA : upd _ 77 _ = A
      have hG : ∀ G, G = H3 ∨ G = H4 ∨ G = H5 ∨ G = H6 → Old H2.length H3 G := fun G h => by
        rcases h with rfl | rfl | rfl | rfl
        · exact Old.refl _ _
        · exact old4.mono old3.1
        · exact (old4.trans old5).mono old3.1
        · exact old6
      obtain ⟨a', H', e, hH', g4⟩ := k23 A (H4 := H4) (H5 := H5) (H6 := H6) (by subst hA; rfl) (by subst hA; rfl) (by subst hA; rfl) f10 f11 f21 (fun G h => (rd G (hG G h)).1) (fun G h => (rd G (hG G h)).2.1) (fun G h => (rd G (hG G h)).2.2.2) hx.refl hy.refl s4 s5 r5.R.scal s6
      subst hH'
      rw [e]
      simp (disch := omega) only [bindX_normal, bindX_ret, blkX_ret, Option.map_some, ↓bindX_normal, ↓bindX_ret, fin_r, res_nil, pack_1, res_cell aW zW, g4, s7]
      exact ow
    · by_cases h2 : (x.natAbs : Int) < y.natAbs
      · have ec : cmpZ (x.natAbs : Int) y.natAbs = -1 := by unfold cmpZ; rw [if_pos h2]
        rw [ec] at s0
        obtain ⟨hsg, hab⟩ := m2 h2
        obtain ⟨v4, H4, s4, o4, old4, wf4⟩ := clone_run wf3 hy3 (by omega) n (by omega)
        obtain ⟨v5, H5, s5, r5, old5, wf5⟩ := les_run o4 (fun G hG => hx3.mono (old4.trans hG)) (by omega) (by omega) wf4 (by omega) n (by omega)
        rw [← hab] at r5
        obtain ⟨H6, s6, s7, ow, old6⟩ := fin H5 v5 ny (x + y) (old4.trans old5) wf5 r5 hsg
        have c1 : decide ((-1 : Int) = 0) = false := by decide
        have c2 : decide ((-1 : Int) = 1) = false := by decide
        simp (disch := omega) only [Try.f84, es_seq, es_region, es_cond, es_block, es_skip, es_ret, ops_nil, ops_cons, st_assign, st_fun, sy_bin, binS_eql, bindO_some, bindF_some, bindX_normal, blkX_normal, condX_false, ev_tmp, ev_const, ev_func, putA, upd_at, Option.map_some, ↓reduceIte, Nat.reduceEqDiff, frOf_0, frOf_1, List.map_cons, List.map_nil, ↓bindO_some, ↓bindF_some, ↓bindX_normal, ↓condX_false, sy_load aL, sy_load aB, sy_faddr fW0, sy_faddr fW1, sy_alloc iW scal_agg, sy_box, sy_eq qB, eqB_bool, scal_agg, Bool.false_xor, hH1, hH2, hH3, f10, f20, l10, l20, hne, f11, f21, l11, l21, s0, c1, c2]
        generalize hA : upd _ 77 _ = A
        have hG : ∀ G, G = H3 ∨ G = H4 ∨ G = H5 ∨ G = H6 → Old H2.length H3 G := fun G h => by
          rcases h with rfl | rfl | rfl | rfl
          · exact Old.refl _ _
          · exact old4.mono old3.1
          · exact (old4.trans old5).mono old3.1
          · exact old6
        obtain ⟨a', H', e, hH', g4⟩ := k24 A (H4 := H4) (H5 := H5) (H6 := H6) (by subst hA; rfl) (by subst hA; rfl) (by subst hA; rfl) f20 f21 f11 (fun G h => (rd G (hG G h)).2.2.1) (fun G h => (rd G (hG G h)).2.2.2) (fun G h => (rd G (hG G h)).2.1) hy.refl hx.refl s4 s5 r5.R.scal s6
        subst hH'
        rw [e]
        simp (disch := omega) only [bindX_normal, Option.map_some, ↓bindX_normal, fin_r, res_nil, pack_1, res_cell aW zW, g4, s7]
        exact ow
      · have hxy : x + y = 0 := m3 (by omega)
        have ec : cmpZ (x.natAbs : Int) y.natAbs = 0 := by unfold cmpZ; rw [if_neg h2, if_neg h1]
        rw [ec] at s0
        obtain ⟨H5, s5, s6, ow, _⟩ := fin H3 (.slice none 0 0) false (x + y) (Old.refl _ _) wf3 (by rw [hxy, show ((0 : Int).natAbs : Int) = 0 from rfl, nf_zero]; exact .inl ⟨rfl, rfl⟩) (by rw [hxy]; rfl)
        have c1 : decide ((0 : Int) = 0) = true := by decide
        simp (disch := omega) only [Try.f84, es_seq, es_region, es_cond, es_block, es_skip, es_ret, ops_nil, ops_cons, st_assign, st_fun, sy_bin, binS_eql, bindO_some, bindF_some, bindX_normal, bindX_ret, blkX_ret, condX_true, condX_false, ev_tmp, ev_const, ev_func, putA, upd_at, Option.map_some, ↓reduceIte, Nat.reduceEqDiff, frOf_0, frOf_1, List.map_cons, List.map_nil, decide_true, ↓bindO_some, ↓bindF_some, ↓bindX_normal, ↓bindX_ret, ↓condX_true, ↓condX_false, fin_r, res_nil, pack_1, sy_load aL, sy_load aB, sy_faddr fW0, sy_faddr fW1, sy_storeN zW, sy_alloc iW scal_agg, sy_box, sy_build, bW0, sy_eq qB, eqB_bool, res_cell aW zW, scal_agg, Bool.false_xor, hH1, hH2, hH3, f10, f20, l10, l20, hne, f11, f21, l11, l21, s0, s5, s6]
        exact ow
end Go.Proofs.Ytmmgdgmjkhcfaaa
