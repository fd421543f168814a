/- Rim hooks of the program: the loops. -/
import Derived.Test.YtmmgdgmjkhcfaaaSzI
set_option linter.all false
namespace Go.Proofs.Ytmmgdgmjkhcfaaa
open Go Go.Abs Go.Num
set_option maxRecDepth 10000
attribute [local congr] bindO_congr bindF_congr bindX_congr condX_congr iteB_congr binS_congr pickS_congr eqB_congr nilS_congr clsW_congr maxS_congr minS_congr
/-- The frames agree on the slots S. -/
def Same (S : List Nat) (a b : Fr) : Prop := ∀ t ∈ S, b t = a t
theorem Same.refl (S : List Nat) (a : Fr) : Same S a a := fun _ _ => rfl
theorem Same.trans {S : List Nat} {a b c : Fr} (h : Same S a b) (h' : Same S b c) : Same S a c := fun t ht => (h' t ht).trans (h t ht)
theorem Same.upd {S : List Nat} {a b : Fr} (h : Same S a b) {t : Nat} (ht : t ∉ S) (v : Value) : Same S a (Abs.upd b t v) := fun s hs => by
  by_cases e : s = t
  · subst e; exact absurd hs ht
  · rw [upd_at, if_neg e]; exact h s hs
theorem Same.sub {S T : List Nat} {a b : Fr} (h : Same S a b) (hs : ∀ t ∈ T, t ∈ S) : Same T a b := fun t ht => h t (hs t ht)
noncomputable def rmL3 : Code := atC [1, 1, 1, 1, 1, 0, 1, 0, 0, 1, 1, 0, 0, 1, 1, 1, 1, 1, 0, 0, 0] ((Try.f92.body).getD .skip)
theorem rims_l3 {B0 : Nat} {H : Heap} {vn : Value} {l : List Int} (hp : Part l) {i : Nat} (hi : i < l.length) {t : Int} (hw : WF H) (ho : O B0 H vn (ints (nxL l i i))) (call : CallF) (m nt : Nat) {a0 : Fr} {k : Nat} (hk : 30 ≤ k) (h5 : a0 5 = vi l.length) (h12 : a0 12 = vi t) (h13 : a0 13 = vn) (h14 : a0 14 = vi i) :
    ∃ r a' H', loopN (evS Try.prog call m nt none rmL3) k a0 H = some (r, a', H') ∧ r = .exit 4 ∧ Same [1, 5, 6, 9, 10, 12, 13, 40, 41, 42] a0 a' ∧ a' 14 = vi (jmp l i t : Nat) ∧ Old B0 H H' ∧ WF H' ∧ O B0 H' vn (ints (nxL l i (jmp l i t))) := by
  have hl := hp.len
  obtain ⟨j1, j2, j3, j4⟩ := jmp_spec (t := t) hi
  generalize hJ : jmp l i t = J at *
  refine loop_wf (fun d a H' => ∃ j : Nat, d = J - j ∧ i ≤ j ∧ j ≤ J ∧ Same [1, 5, 6, 9, 10, 12, 13, 40, 41, 42] a0 a ∧ a 14 = vi j ∧ Old B0 H H' ∧ WF H' ∧ O B0 H' vn (ints (nxL l i j))) _ ?_ k (J - i) a0 H (by omega) ⟨i, rfl, Nat.le_refl _, j2, Same.refl _ _, h14, Old.refl _ _, hw, ho⟩
  intro d a H' ⟨j, hd, hij, hjJ, hs, h14, old, hw, ho⟩
  rw [show rmL3 = atC [1, 1, 1, 1, 1, 0, 1, 0, 0, 1, 1, 0, 0, 1, 1, 1, 1, 1, 0, 0, 0] ((Try.f92.body).getD .skip) from rfl]
  have g5 := (hs 5 (by decide)).trans h5
  have g12 := (hs 12 (by decide)).trans h12
  have g13 := (hs 13 (by decide)).trans h13
  have hlen : (nxL l i j).length = l.length := by unfold nxL; simp
  have e1 : IntKind.i64.wrap ((j : Int) + 1) = ((j + 1 : Nat) : Int) := by rw [wr64 (by omega) (by omega)]; omega
  by_cases hlt : j + 1 < l.length
  · have c1 : ((j + 1 : Nat) : Int) < (l.length : Int) := by omega
    have a1 : addrS 1 vn (vi ((j + 1 : Nat) : Int)) = some (pt vn (j + 1)) := by have := ho.R.addrI (i := ((j + 1 : Nat) : Int)) (by omega) (by omega); rwa [Int.toNat_natCast] at this
    have l1 : loadS (pt vn (j + 1)) H' = some (vi (bead l (j + 1))) := by
      rw [ho.R.loadI (by omega), show (nxL l i j).getD (j + 1) 0 = bead l (j + 1) from by
        unfold nxL; rw [map_range_getD _ hlt]; unfold nx; rw [if_neg (by omega)]]
    by_cases hb : t < bead l (j + 1)
    · left
      have hjJ2 : j < J := by
        apply Nat.lt_of_le_of_ne hjJ
        intro e
        have := j4 (by omega)
        rw [e] at hb
        omega
      have a2 : addrS 1 vn (vi (j : Int)) = some (pt vn j) := by have := ho.R.addrI (i := (j : Int)) (by omega) (by omega); rwa [Int.toNat_natCast] at this
      obtain ⟨H2, s2, o2, old2, wf2⟩ := ho.setI hw (i := j) (by omega) (bead l (j + 1))
      rw [nxL_set hij] at o2
      simp (disch := omega) only [Try.f92, Option.getD_some, atC, es_seq, es_region, es_cond, es_block, es_skip, ops_nil, ops_cons, ops_consG, st_move, st_assign, sy_pick, pickS_true, sy_addr eL, sy_load aI, sy_store zI, sy_bin, binS_lss, binS_gtr, binS_add, bindO_some, bindF_some, bindX_normal, blkX_normal, condX_true, iteB_true, ev_tmp, ev_const, putA, upd_at, Option.map_some, ↓reduceIte, Nat.reduceEqDiff, decide_true, yieldO_eq, yO, yV_bool, List.getElem?_cons_zero, List.getElem?_cons_succ, beq_self_eq_true, ↓bindO_some, ↓bindF_some, ↓bindX_normal, ↓condX_true, ↓iteB_true, g5, g12, g13, h14, e1, c1, a1, l1, hb, a2, s2]
      exact ⟨_, _, rfl, J - (j + 1), by omega, j + 1, rfl, by omega, by omega, (by
        repeat refine Same.upd ?_ (by decide) _
        exact hs), rfl, old.trans old2, wf2, o2⟩
    · right
      have hjJ2 : j = J := by
        apply Decidable.byContradiction
        intro e
        exact hb (j3 (j + 1) (by omega) (by omega))
      subst hjJ2
      simp (disch := omega) only [Try.f92, Option.getD_some, atC, es_seq, es_region, es_cond, es_exit, ops_nil, ops_cons, ops_consG, st_move, sy_pick, pickS_true, sy_addr eL, sy_load aI, sy_bin, binS_lss, binS_gtr, binS_add, bindO_some, bindF_some, bindX_normal, bindX_exit, condX_false, iteB_true, ev_tmp, ev_const, putA, upd_at, Option.map_some, ↓reduceIte, Nat.reduceEqDiff, decide_true, decide_false, yieldO_eq, yO, yV_bool, List.getElem?_cons_zero, List.getElem?_cons_succ, beq_self_eq_true, ↓bindO_some, ↓bindF_some, ↓bindX_normal, ↓bindX_exit, ↓condX_false, ↓iteB_true, g5, g12, g13, h14, e1, c1, a1, l1, hb]
      exact ⟨_, _, _, rfl, by simp, rfl, (by
        repeat refine Same.upd ?_ (by decide) _
        exact hs), h14, old, hw, ho⟩
  · right
    have hjJ2 : j = J := by omega
    have c1 : ¬ ((j + 1 : Nat) : Int) < (l.length : Int) := by omega
    subst hjJ2
    simp (disch := omega) only [Try.f92, Option.getD_some, atC, es_seq, es_region, es_cond, es_exit, ops_nil, ops_cons, ops_consG, st_move, sy_pick, pickS_false, sy_bin, binS_lss, binS_add, bindO_some, bindF_some, bindX_normal, bindX_exit, condX_false, iteB_false, ev_tmp, ev_const, putA, upd_at, ↓reduceIte, Nat.reduceEqDiff, decide_false, yieldO_eq, yO, yV_bool, some_true, List.getElem?_cons_zero, List.getElem?_cons_succ, ↓bindO_some, ↓bindF_some, ↓bindX_normal, ↓bindX_exit, ↓condX_false, ↓iteB_false, g5, h14, e1, c1]
    exact ⟨_, _, _, rfl, by simp, rfl, (by
      repeat refine Same.upd ?_ (by decide) _
      exact hs), h14, old, hw, ho⟩
theorem pf_bd {l : List Int} (hp : Part l) {i J r : Nat} {t : Int} (hi : i ≤ J) (hJ : J < l.length) (hr : r < l.length) (h0 : -100 ≤ t) (h1 : t ≤ 100) : -200 ≤ pf l i J t r ∧ pf l i J t r ≤ 200 := by
  have hl := hp.len
  have hg := hp.getD hr
  by_cases c1 : r < i
  · rw [pf_lo c1]; omega
  · by_cases c2 : r < J
    · rw [pf_mid (by omega) c2]; have := hp.getD (show r + 1 < l.length by omega); omega
    · by_cases c3 : r = J
      · subst c3; rw [pf_at hi]; omega
      · rw [pf_hi hi (by omega)]; omega
noncomputable def rmL4 : Code := atC [1, 1, 1, 1, 1, 0, 1, 0, 0, 1, 1, 0, 0, 1, 1, 1, 1, 1, 1, 1, 1, 0, 1, 0, 0] ((Try.f92.body).getD .skip)
def lfT (l : List Int) (i J : Nat) (t : Int) (r : Nat) : List Int := ((List.range r).map (pf l i J t)).filter fun x => decide (0 < x)
theorem lfT_succ (l : List Int) (i J : Nat) (t : Int) (r : Nat) : lfT l i J t (r + 1) = if 0 < pf l i J t r then lfT l i J t r ++ [pf l i J t r] else lfT l i J t r := by
  unfold lfT
  rw [map_range_succ, List.filter_append]
  by_cases h : 0 < pf l i J t r
  · rw [if_pos h, List.filter_cons_of_pos (by simpa using h)]; rfl
  · rw [if_neg h, List.filter_cons_of_neg (by simpa using h), List.filter_nil, List.append_nil]
theorem lfT_len (l : List Int) (i J : Nat) (t : Int) (r : Nat) : (lfT l i J t r).length ≤ r := by
  unfold lfT
  exact Nat.le_trans (List.length_filter_le ..) (by simp)
theorem rims_l4 {H : Heap} {vn : Value} {l : List Int} (hp : Part l) {i J : Nat} (hi : i ≤ J) (hJ : J < l.length) {t : Int} (h0 : -100 ≤ t) (h1 : t ≤ 100) (hw : WF H) (hr : R H vn (ints (fzL l i J t))) (call : CallF) (m nt : Nat) {a0 : Fr} {k : Nat} (hk : 30 ≤ k) (h5 : a0 5 = vi l.length) (h15 : a0 15 = .slice none 0 0) (h87 : a0 87 = vn) (h88 : a0 88 = vi l.length) (h89 : a0 89 = vi (0 : Nat)) :
    ∃ r a' H', loopN (evS Try.prog call m nt none rmL4) k a0 H = some (r, a', H') ∧ r = .exit 6 ∧ Same [1, 5, 6, 9, 10, 14, 40, 41, 42] a0 a' ∧ Old H.length H H' ∧ WF H' ∧ ∃ vl, a' 15 = vl ∧ O H.length H' vl (ints (leftP l i J t)) := by
  have hl := hp.len
  have hlen : (fzL l i J t).length = l.length := by unfold fzL; simp
  refine loop_up l.length (fun r a H' => Same [1, 5, 6, 9, 10, 14, 40, 41, 42, 87, 88] a0 a ∧ a 89 = vi r ∧ Old H.length H H' ∧ WF H' ∧ ∃ vl, a 15 = vl ∧ O H.length H' vl (ints (lfT l i J t r))) _ ?_ ?_ (by omega) ⟨Same.refl _ _, h89, Old.refl _ _, hw, _, h15, O.nil _ _⟩
  · intro r a H' hlt ⟨hs, h89, old, hw, vl, h15, ho⟩
    left
    rw [show rmL4 = atC [1, 1, 1, 1, 1, 0, 1, 0, 0, 1, 1, 0, 0, 1, 1, 1, 1, 1, 1, 1, 1, 0, 1, 0, 0] ((Try.f92.body).getD .skip) from rfl]
    have g5 := (hs 5 (by decide)).trans h5
    have g87 := (hs 87 (by decide)).trans h87
    have g88 := (hs 88 (by decide)).trans h88
    have hr' := hr.mono old
    have c1 : (r : Int) < (l.length : Int) := by omega
    have hfz : (fzL l i J t).getD r 0 = fz l i J t r := by unfold fzL; rw [map_range_getD _ hlt]
    have hpf := fz_pf (l := l) (i := i) (J := J) (r := r) (t := t) hi
    have hb := pf_bd hp hi hJ hlt h0 h1
    have a1 : addrS 1 vn (vi (r : Int)) = some (pt vn r) := by have := hr'.addrI (i := (r : Int)) (by omega) (by omega); rwa [Int.toNat_natCast] at this
    have l1 : loadS (pt vn r) H' = some (vi (fz l i J t r)) := by rw [hr'.loadI (by omega), hfz]
    have e1 : IntKind.i64.wrap ((r : Int) + 1) = ((r + 1 : Nat) : Int) := by rw [wr64 (by omega) (by omega)]; omega
    have e2 : IntKind.i64.wrap ((l.length : Int) - 1) = (l.length : Int) - 1 := wr64 (by omega) (by omega)
    have e3 : IntKind.i64.wrap ((l.length : Int) - 1 - (r : Int)) = (l.length : Int) - 1 - (r : Int) := wr64 (by omega) (by omega)
    have e4 : IntKind.i64.wrap (fz l i J t r - ((l.length : Int) - 1 - (r : Int))) = pf l i J t r := by rw [hpf]; exact wr64 (by omega) (by omega)
    by_cases hc : 0 < pf l i J t r
    · have hll := lfT_len l i J t r
      obtain ⟨v2, H2, s2, o2, old2, wf2⟩ := ho.pushI hw old.1 (by unfold maxA; omega) (pf l i J t r)
      simp (disch := omega) only [Try.f92, Option.getD_some, atC, es_seq, es_region, es_cond, es_block, es_skip, ops_nil, ops_cons, st_move, st_assign, sy_addr eL, sy_load aI, sy_bin, sy_append eL pI, sy_build1 eL oI, binS_lss, binS_gtr, binS_add, binS_sub, bindO_some, bindF_some, bindX_normal, blkX_normal, condX_true, ev_tmp, ev_const, putA, upd_at, Option.map_some, ↓reduceIte, Nat.reduceEqDiff, decide_true, ↓bindO_some, ↓bindF_some, ↓bindX_normal, ↓condX_true, scal_vi, g5, g87, g88, h15, h89, c1, a1, l1, e2, e3, e4, hc, scal_vi, s2, e1]
      exact ⟨_, _, rfl, (by
        repeat refine Same.upd ?_ (by decide) _
        exact hs), rfl, old.trans old2, wf2, v2, rfl, by rw [lfT_succ, if_pos hc]; exact o2⟩
    · simp (disch := omega) only [Try.f92, Option.getD_some, atC, es_seq, es_region, es_cond, es_block, es_skip, ops_nil, ops_cons, st_move, st_assign, sy_addr eL, sy_load aI, sy_bin, binS_lss, binS_gtr, binS_add, binS_sub, bindO_some, bindF_some, bindX_normal, blkX_normal, condX_true, condX_false, ev_tmp, ev_const, putA, upd_at, Option.map_some, ↓reduceIte, Nat.reduceEqDiff, decide_true, decide_false, ↓bindO_some, ↓bindF_some, ↓bindX_normal, ↓condX_true, ↓condX_false, g5, g87, g88, h89, c1, a1, l1, e2, e3, e4, hc, e1]
      exact ⟨_, _, rfl, (by
        repeat refine Same.upd ?_ (by decide) _
        exact hs), rfl, old, hw, vl, h15, by rw [lfT_succ, if_neg hc]; exact ho⟩
  · intro a H' ⟨hs, h89, old, hw, vl, h15, ho⟩
    rw [show rmL4 = atC [1, 1, 1, 1, 1, 0, 1, 0, 0, 1, 1, 0, 0, 1, 1, 1, 1, 1, 1, 1, 1, 0, 1, 0, 0] ((Try.f92.body).getD .skip) from rfl]
    have g88 := (hs 88 (by decide)).trans h88
    simp (disch := omega) only [Try.f92, Option.getD_some, atC, es_seq, es_region, es_cond, es_exit, ops_nil, ops_cons, sy_bin, binS_lss, bindO_some, bindF_some, bindX_normal, bindX_exit, condX_false, ev_tmp, putA, upd_at, ↓reduceIte, decide_false, ↓bindO_some, ↓bindF_some, ↓bindX_normal, ↓bindX_exit, ↓condX_false, g88, h89, Int.lt_irrefl]
    exact ⟨_, _, _, rfl, by simp, rfl, (by
      repeat refine Same.upd ?_ (by decide) _
      exact hs.sub (by decide)), old, hw, vl, h15, ho⟩
noncomputable def rmL2 : Code := atC [1, 1, 1, 1, 1, 0, 1, 0, 0] ((Try.f92.body).getD .skip)
/-- A list of hooks of the call's own. -/
def OneH (H : Heap) (r : Option (Value × Heap)) (ls : List (List Int × Int)) : Prop := ∃ v H', r = some (v, H') ∧ OH H.length H' v ls ∧ Old H.length H H' ∧ WF H'
theorem rimsP_len (l : List Int) (k : Int) (i : Nat) : ((List.range i).flatMap (rimP l k)).length ≤ i := by
  induction i with
  | zero => simp
  | succ i ih =>
    rw [List.range_succ, List.flatMap_append, List.length_append, List.flatMap_cons, List.flatMap_nil, List.append_nil]
    have : (rimP l k i).length ≤ 1 := by unfold rimP; split <;> simp
    omega
theorem rims_l2 {H1 : Heap} {vb : Value} {l : List Int} (hp : Part l) {z : Int} (hz : 1 ≤ z ∧ z ≤ 20) (hw1 : WF H1) (hb : R H1 vb (ints (beadsL l))) (n nt : Nat) (hn : 1020 ≤ n) {a0 : Fr} (h1 : a0 1 = vi z) (h5 : a0 5 = vi l.length) (h6 : a0 6 = vb) (h9 : a0 9 = .slice none 0 0) (h40 : a0 40 = vb) (h41 : a0 41 = vi l.length) (h42 : a0 42 = vi (0 : Nat)) :
    ∃ r a' H', loopN (evS Try.prog (evB Try.prog noC n) n nt none rmL2) n a0 H1 = some (r, a', H') ∧ r = .exit 2 ∧ ∃ vo, a' 9 = vo ∧ OH H1.length H' vo (rimsP l z) ∧ Old H1.length H1 H' ∧ WF H' := by
  have hl := hp.len
  refine loop_up l.length (fun i a H' => Same [1, 5, 6, 40, 41] a0 a ∧ a 42 = vi i ∧ Old H1.length H1 H' ∧ WF H' ∧ ∃ vo, a 9 = vo ∧ OH H1.length H' vo ((List.range i).flatMap (rimP l z))) _ ?_ ?_ (by omega) ⟨Same.refl _ _, h42, Old.refl _ _, hw1, _, h9, OG.nil _ _⟩
  · intro i a H' hi ⟨hs, h42, old, hw, vo, h9, ho⟩
    left
    rw [show rmL2 = atC [1, 1, 1, 1, 1, 0, 1, 0, 0] ((Try.f92.body).getD .skip) from rfl]
    have g1 := (hs 1 (by decide)).trans h1
    have g5 := (hs 5 (by decide)).trans h5
    have g6 := (hs 6 (by decide)).trans h6
    have g40 := (hs 40 (by decide)).trans h40
    have g41 := (hs 41 (by decide)).trans h41
    have hb' := hb.mono old
    have c1 : (i : Int) < (l.length : Int) := by omega
    have hbl := beadsL_len l
    have hbd := bead_bd hp i hi
    have a1 : addrS 1 vb (vi (i : Int)) = some (pt vb i) := by have := hb'.addrI (i := (i : Int)) (by omega) (by omega); rwa [Int.toNat_natCast] at this
    have l1 : loadS (pt vb i) H' = some (vi (bead l i)) := by rw [hb'.loadI (by omega), beadsL_get hi]
    have e1 : IntKind.i64.wrap ((i : Int) + 1) = ((i + 1 : Nat) : Int) := by rw [wr64 (by omega) (by omega)]; omega
    obtain ⟨t, ht⟩ : ∃ t, t = bead l i - z := ⟨_, rfl⟩
    have e2 : IntKind.i64.wrap (bead l i - z) = t := by rw [ht]; exact wr64 (by omega) (by omega)
    have hflat : (List.range (i + 1)).flatMap (rimP l z) = (List.range i).flatMap (rimP l z) ++ rimP l z i := by
      rw [List.range_succ, List.flatMap_append, List.flatMap_cons, List.flatMap_nil, List.append_nil]
    by_cases hneg : t < 0
    · have hr : rimP l z i = [] := by unfold rimP; rw [← ht]; exact if_pos (.inl hneg)
      rw [hr, List.append_nil] at hflat
      simp (disch := omega) only [Try.f92, Option.getD_some, atC, es_seq, es_region, es_cond, es_block, es_skip, es_exit, ops_nil, ops_cons, ops_consG, st_move, st_assign, sy_pick, pickS_true, sy_addr eL, sy_load aI, sy_bin, binS_lss, binS_add, binS_sub, bindO_some, bindF_some, bindX_normal, bindX_exit, blkX_exit, condX_true, iteB_false, ev_tmp, ev_const, putA, upd_at, Option.map_some, ↓reduceIte, Nat.reduceEqDiff, decide_true, Bool.not_true, yieldO_eq, yO, yV_bool, some_false, List.getElem?_cons_zero, List.getElem?_cons_succ, ↓bindO_some, ↓bindF_some, ↓bindX_normal, ↓bindX_exit, ↓condX_true, ↓iteB_false, g1, g40, g41, h42, c1, a1, l1, e2, hneg, e1]
      exact ⟨_, _, rfl, (by
        repeat refine Same.upd ?_ (by decide) _
        exact hs), rfl, old, hw, vo, h9, by rw [hflat]; exact ho⟩
    · have s1 := contains_run hb' (by omega) t n (by omega)
      by_cases hm : t ∈ beadsL l
      · have hr : rimP l z i = [] := by unfold rimP; rw [← ht]; exact if_pos (.inr hm)
        rw [hr, List.append_nil] at hflat
        rw [decide_eq_true hm] at s1
        simp (disch := omega) only [Try.f92, Option.getD_some, atC, es_seq, es_region, es_cond, es_block, es_skip, es_exit, ops_nil, ops_cons, ops_consG, st_move, st_assign, sy_pick, pickS_false, st_fun, sy_addr eL, sy_load aI, sy_bin, binS_lss, binS_add, binS_sub, bindO_some, bindF_some, bindX_normal, bindX_exit, blkX_exit, condX_true, iteB_true, ev_tmp, ev_const, ev_func, putA, upd_at, Option.map_some, ↓reduceIte, Nat.reduceEqDiff, List.map_cons, List.map_nil, decide_true, decide_false, yieldO_eq, yO, yV_bool, List.getElem?_cons_zero, List.getElem?_cons_succ, beq_self_eq_true, ↓bindO_some, ↓bindF_some, ↓bindX_normal, ↓bindX_exit, ↓condX_true, ↓iteB_true, g1, g6, g40, g41, h42, c1, a1, l1, e2, hneg, s1, e1]
        exact ⟨_, _, rfl, (by
          repeat refine Same.upd ?_ (by decide) _
          exact hs), rfl, old, hw, vo, h9, by rw [hflat]; exact ho⟩
      · have hr : rimP l z i = [(leftP l i (jmp l i t) t, ((jmp l i t - i : Nat) : Int))] := by unfold rimP; rw [← ht]; exact if_neg (fun h => h.elim hneg hm)
        rw [hr] at hflat
        rw [decide_eq_false hm] at s1
        obtain ⟨vn, H2, s2, o2, old2, wf2⟩ := clone_run hw hb' (by omega) n (by omega)
        rw [← nxL_0 l i] at o2
        obtain ⟨j1, j2, _, _⟩ := jmp_spec (t := t) hi
        have k3 := fun (A : Fr) => rims_l3 hp hi wf2 o2 (evB Try.prog noC n) n nt (a0 := A) (k := n) (t := t) (by omega)
        rw [show rmL3 = atC [1, 1, 1, 1, 1, 0, 1, 0, 0, 1, 1, 0, 0, 1, 1, 1, 1, 1, 0, 0, 0] ((Try.f92.body).getD .skip) from rfl] at k3
        simp only [Try.f92, Option.getD_some, atC] at k3
        simp (disch := omega) only [Try.f92, Option.getD_some, atC, es_seq, es_region, es_cond, es_block, es_loop, es_skip, ops_nil, ops_cons, ops_consG, st_move, st_assign, sy_pick, pickS_false, st_fun, sy_len uL, sy_addr eL, sy_load aI, sy_store zI, sy_bin, binS_lss, binS_sub, bindO_some, bindF_some, bindX_normal, condX_true, condX_false, iteB_true, ev_tmp, ev_const, ev_func, putA, upd_at, Option.map_some, ↓reduceIte, Nat.reduceEqDiff, List.map_cons, List.map_nil, decide_true, decide_false, yieldO_eq, yO, yV_bool, List.getElem?_cons_zero, List.getElem?_cons_succ, beq_self_eq_true, ↓bindO_some, ↓bindF_some, ↓bindX_normal, ↓condX_true, ↓condX_false, ↓iteB_true, g1, g6, g40, g41, h42, c1, a1, l1, e2, hneg, s1, s2]
        generalize hF : upd _ 14 _ = F
        have hsF : Same [1, 5, 6, 40, 41] a0 F := by
          subst hF
          repeat refine Same.upd ?_ (by decide) _
          exact hs
        have f42 : F 42 = vi i := by subst hF; exact h42
        have f9 : F 9 = vo := by subst hF; exact h9
        have f10 : F 10 = vi i := by subst hF; rfl
        have f12 : F 12 = vi t := by subst hF; rfl
        have f13 : F 13 = vn := by subst hF; rfl
        have f14 : F 14 = vi i := by subst hF; rfl
        obtain ⟨r, a', H3, ev, hr', hs3, g14, old3, wf3, o3⟩ := k3 F ((hsF 5 (by decide)).trans h5) f12 f13 f14
        subst hr'
        rw [ev]
        clear ev k3 hF
        have i13 := (hs3 13 (by decide)).trans f13
        have i12 := (hs3 12 (by decide)).trans f12
        have i5 := ((hs3 5 (by decide)).trans (hsF 5 (by decide))).trans h5
        generalize hJ : jmp l i t = J at *
        have hlen : (nxL l i J).length = l.length := by unfold nxL; simp
        have a2 : addrS 1 vn (vi (J : Int)) = some (pt vn J) := by have := o3.R.addrI (i := (J : Int)) (by omega) (by omega); rwa [Int.toNat_natCast] at this
        obtain ⟨H4, s4, o4, old4, wf4⟩ := o3.setI wf3 (i := J) (by omega) t
        rw [fzL_set] at o4
        have hlf : (fzL l i J t).length = l.length := by unfold fzL; simp
        have ln := o4.R.lenI
        rw [hlf] at ln
        have k4 := fun (A : Fr) => rims_l4 hp j2 j1 (t := t) (by omega) (by omega) wf4 o4.R (evB Try.prog noC n) n nt (a0 := A) (k := n) (by omega)
        rw [show rmL4 = atC [1, 1, 1, 1, 1, 0, 1, 0, 0, 1, 1, 0, 0, 1, 1, 1, 1, 1, 1, 1, 1, 0, 1, 0, 0] ((Try.f92.body).getD .skip) from rfl] at k4
        simp only [Try.f92, Option.getD_some, atC] at k4
        simp (disch := omega) only [bindO_some, bindF_some, bindX_normal, blkX_exit, upd_at, Option.map_some, ↓reduceIte, Nat.reduceEqDiff, ↓bindO_some, ↓bindF_some, ↓bindX_normal, i13, i12, g14, a2, s4, ln]
        generalize hF2 : upd _ 89 _ = F2
        have hs4 : Same [1, 5, 6, 9, 10, 40, 41, 42] F F2 := by
          subst hF2
          repeat refine Same.upd ?_ (by decide) _
          exact hs3.sub (by decide)
        have f214 : F2 14 = vi J := by subst hF2; exact g14
        obtain ⟨r, a2', H5, ev, hr', hs5, old5, wf5, vl, g15, o5⟩ := k4 F2 (((hs4 5 (by decide)).trans (hsF 5 (by decide))).trans h5) (by subst hF2; rfl) (by subst hF2; rfl) (by subst hF2; rfl) (by subst hF2; rfl)
        subst hr'
        rw [ev]
        clear ev k4 hF2
        have i14 := (hs5 14 (by decide)).trans f214
        have i9 := ((hs5 9 (by decide)).trans (hs4 9 (by decide))).trans f9
        have i10 := ((hs5 10 (by decide)).trans (hs4 10 (by decide))).trans f10
        have i42 := ((hs5 42 (by decide)).trans (hs4 42 (by decide))).trans f42
        have e3 : IntKind.i64.wrap ((J : Int) - (i : Int)) = ((J - i : Nat) : Int) := by rw [wr64 (by omega) (by omega)]; omega
        have old25 : Old H'.length H' H5 := ((old2.trans old3).trans old4).trans (old5.mono (by have := old2.1; have := old3.1; have := old4.1; omega))
        have hrl := rimsP_len l z i
        obtain ⟨v6, H6, s6, o6, old6, wf6⟩ := OH.push (z := ((J - i : Nat) : Int)) ho old25 wf5 old.1 o5 (by have := old2.1; have := old3.1; have := old4.1; omega) (by unfold maxA; omega)
        simp (disch := omega) only [binS_add, binS_sub, bindO_some, bindF_some, bindX_normal, blkX_normal, blkX_exit, ev_tmp, upd_at, Option.map_some, ↓reduceIte, Nat.reduceEqDiff, List.map_cons, List.map_nil, ↓bindO_some, ↓bindF_some, ↓bindX_normal, i9, i10, i14, i42, g15, e3, sy_build, bHk _ _ o5.R.scal, sy_buildN eHH oHH rfl rfl, sHk, buildS_2, sy_appN eHH pHH, s6, e1]
        exact ⟨_, _, rfl, (by
          repeat refine Same.upd ?_ (by decide) _
          exact (hsF.trans (hs4.sub (by decide))).trans (hs5.sub (by decide))), rfl, (old.trans (old25.mono old.1)).trans old6, wf6, v6, rfl, by rw [hflat]; exact o6⟩
  · intro a H' ⟨hs, h42, old, hw, vo, h9, ho⟩
    rw [show rmL2 = atC [1, 1, 1, 1, 1, 0, 1, 0, 0] ((Try.f92.body).getD .skip) from rfl]
    have g41 := (hs 41 (by decide)).trans h41
    simp (disch := omega) only [Try.f92, Option.getD_some, atC, es_seq, es_region, es_cond, es_exit, ops_nil, ops_cons, sy_bin, binS_lss, bindO_some, bindF_some, bindX_normal, bindX_exit, condX_false, ev_tmp, putA, upd_at, ↓reduceIte, decide_false, ↓bindO_some, ↓bindF_some, ↓bindX_normal, ↓bindX_exit, ↓condX_false, g41, h42, Int.lt_irrefl]
    exact ⟨_, _, _, rfl, by simp, rfl, vo, h9, ho, old, hw⟩
theorem rims_run {H : Heap} {v : Value} {l : List Int} (hw : WF H) (hv : R H v (ints l)) (hp : Part l) {z : Int} (hz : 1 ≤ z ∧ z ≤ 20) (n : Nat) (hn : 1030 ≤ n) : OneH H (evB Try.prog noC n (.func (.func 92) #[] #[]) [v, vi z] H) (rimsP l z) := by
  refine run_of (F := 1029) (Q := fun r => OneH H r (rimsP l z)) (fun n hn => ?_) n hn
  rw [body_runS Try.func92 rfl (ok_fn (by rfl) Try.func92 rfl) (Nat.le_of_ble_eq_true rfl) (D := D0) (by kernel_rfl)]
  have hl := hp.len
  have hz0 := zIn l.length
  have hlr : (ints (List.replicate l.length (0 : Int))).length = l.length := by rw [ints_len, List.length_replicate]
  have ob := O.made (B := H.length) (H := H) (Nat.le_refl _) (ints (List.replicate l.length (0 : Int)))
  rw [hlr] at ob
  have old1 := Old.app H [.cells H.length true (ints (List.replicate l.length (0 : Int)))]
  have wf1 := hw.app (Nat.le_refl H.length) (o := true) (cs := ints (List.replicate l.length (0 : Int)))
  have c2 : (0 : Int) ≤ (l.length : Int) := by omega
  have c3 : (l.length : Int) ≤ 1048576 := by omega
  generalize hH1 : H ++ [Blk.cells H.length true (ints (List.replicate l.length (0 : Int)))] = H1 at *
  have hv1 := hv.mono old1
  have k1 := fun (A : Fr) => rims_l1 hp hv old1 wf1 ob (evB Try.prog noC n) n Try.f92.ntmps (a := A) (k := n) (v1 := vi z) (by omega)
  rw [show rmL1 = atC [1, 1, 1, 0, 1, 0, 0] ((Try.f92.body).getD .skip) from rfl] at k1
  simp only [Try.f92, Option.getD_some, atC] at k1
  simp (disch := omega) only [Try.f92, es_seq, es_region, es_block, es_loop, es_ret, ops_nil, ops_cons, st_move, st_assign, sy_len uL, sy_make eL yI (by decide), bindO_some, bindF_some, bindX_normal, ev_tmp, ev_const, putA, upd_at, Option.map_some, ↓reduceIte, Nat.reduceEqDiff, Int.toNat_natCast, frOf_0, ↓bindO_some, ↓bindF_some, ↓bindX_normal, hv.lenI, c2, c3, Int.le_refl, and_self, hz0, hH1]
  generalize hA : upd _ 25 _ = A
  obtain ⟨r, a', H2, ev, hr, i1, i5, i6, old2, wf2, o2⟩ := k1 A (by subst hA; rfl) (by subst hA; rfl) (by subst hA; rfl) (by subst hA; rfl) (by subst hA; rfl) (by subst hA; rfl)
  subst hr
  rw [ev]
  clear ev k1
  have hbl := beadsL_len l
  have lb := o2.R.lenI
  rw [hbl] at lb
  have k2 := fun (A : Fr) => rims_l2 hp hz wf2 o2.R n Try.f92.ntmps (by omega) (a0 := A)
  rw [show rmL2 = atC [1, 1, 1, 1, 1, 0, 1, 0, 0] ((Try.f92.body).getD .skip) from rfl] at k2
  simp only [Try.f92, Option.getD_some, atC] at k2
  simp (disch := omega) only [bindO_some, bindF_some, bindX_normal, blkX_exit, Option.map_some, ↓reduceIte, ↓bindO_some, ↓bindF_some, ↓bindX_normal, i6, lb]
  generalize hB : upd _ 42 _ = A2
  obtain ⟨r, a2, H3, ev, hr, vo, j9, o3, old3, wf3⟩ := k2 A2 (by subst hB; exact i1) (by subst hB; exact i5) (by subst hB; exact i6) (by subst hB; rfl) (by subst hB; rfl) (by subst hB; rfl) (by subst hB; rfl)
  subst hr
  rw [ev]
  simp (disch := omega) only [bindX_normal, blkX_exit, upd_at, Option.map_some, ↓reduceIte, ↓bindX_normal, fin_r, res_nil, res_tmp, pack_1, j9, o3.RH.scal]
  exact ⟨_, _, rfl, OG.below o3 old2.1, old2.trans (old3.mono old2.1), wf3⟩
end Go.Proofs.Ytmmgdgmjkhcfaaa
