/- Integers of the program: digits, reading. -/
import Derived.Test.YtmmgdgmjkhcfaaaSyE
set_option linter.all false
namespace Go.Proofs.Ytmmgdgmjkhcfaaa
open Go Go.Abs Go.Num
set_option maxRecDepth 10000
attribute [local congr] bindO_congr bindF_congr bindX_congr condX_congr iteB_congr binS_congr pickS_congr eqB_congr
theorem floored_run {z : Int} (h1 : -4000000000000000000 ≤ z) (h2 : z ≤ 4000000000000000000) (n : Nat) (H : Heap) (hn : 10 ≤ n) : evB Try.prog noC n (.func (.func 113) #[] #[]) [vi z] H = some (.tuple #[vi (z / 100000000), vi (z % 100000000)], H) := by
  refine run_of (F := 9) (Q := fun x => x = some (.tuple #[vi (z / 100000000), vi (z % 100000000)], H)) (fun n _ => ?_) n hn
  rw [body_runS Try.func113 rfl (ok_fn (by rfl) Try.func113 rfl) (Nat.le_of_ble_eq_true rfl) (D := D0) (by kernel_rfl)]
  by_cases hz : 0 ≤ z
  · have e1 : z.tdiv 100000000 = z / 100000000 := tdiv_pos hz _
    have e2 : z.tmod 100000000 = z % 100000000 := tmod_pos hz _
    have h3 : ¬ z % 100000000 < 0 := by omega
    simp (disch := omega) only [Try.f113, es_seq, es_region, es_cond, es_skip, es_ret, ops_nil, ops_cons, st_move, st_assign, sy_bin, binS_lss, binS_quo, binS_rem, bindO_some, bindF_some, bindX_normal, condX_false, ev_tmp, ev_const, putA, upd_at, Option.map_some, ↓reduceIte, Nat.reduceEqDiff, frOf_0, decide_false, ↓bindO_some, ↓bindF_some, ↓bindX_normal, ↓condX_false, fin_r, res_nil, res_tmp, pack_2, scal_vi, e1, e2, wr64, h3]
  · have e1 : z.tdiv 100000000 = -((-z) / 100000000) := by rw [tdiv_neg', tdiv_pos (by omega)]
    have e2 : z.tmod 100000000 = -((-z) % 100000000) := by rw [tmod_neg', tmod_pos (by omega)]
    by_cases h3 : -((-z) % 100000000) < 0
    · simp (disch := omega) only [Try.f113, es_seq, es_region, es_cond, es_ret, ops_nil, ops_cons, st_move, st_assign, sy_bin, binS_lss, binS_add, binS_sub, binS_quo, binS_rem, bindO_some, bindF_some, bindX_normal, bindX_ret, condX_true, ev_tmp, ev_const, putA, upd_at, Option.map_some, ↓reduceIte, Nat.reduceEqDiff, frOf_0, decide_true, ↓bindO_some, ↓bindF_some, ↓bindX_normal, ↓bindX_ret, ↓condX_true, fin_r, res_nil, res_tmp, pack_2, scal_vi, e1, e2, wr64, h3]
      rw [show -(-z / 100000000) - 1 = z / 100000000 from by omega, show -(-z % 100000000) + 100000000 = z % 100000000 from by omega]
    · simp (disch := omega) only [Try.f113, es_seq, es_region, es_cond, es_skip, es_ret, ops_nil, ops_cons, st_move, st_assign, sy_bin, binS_lss, binS_quo, binS_rem, bindO_some, bindF_some, bindX_normal, condX_false, ev_tmp, ev_const, putA, upd_at, Option.map_some, ↓reduceIte, Nat.reduceEqDiff, frOf_0, decide_false, ↓bindO_some, ↓bindF_some, ↓bindX_normal, ↓condX_false, fin_r, res_nil, res_tmp, pack_2, scal_vi, e1, e2, wr64, h3]
      rw [show -(-z / 100000000) = z / 100000000 from by omega, show -(-z % 100000000) = z % 100000000 from by omega]
noncomputable def trmA : Code := atC [1, 0, 0, 0] ((Try.f114.body).getD .skip)
theorem trimmed_run {C : Nat} {H : Heap} {v : Value} {l : List Int} (hv : RO C H v (ints l)) (hl : l.length ≤ 1000) (n : Nat) (hn : 2000 ≤ n) : ∃ v', evB Try.prog noC n (.func (.func 114) #[] #[]) [v] H = some (v', H) ∧ RO C H v' (ints (trimL l)) := by
  refine run_of (F := 1999) (Q := fun x => ∃ v', x = some (v', H) ∧ RO C H v' (ints (trimL l))) (fun n hn => ?_) n hn
  rw [body_runS Try.func114 rfl (ok_fn (by rfl) Try.func114 rfl) (Nat.le_of_ble_eq_true rfl) (D := D0) (by kernel_rfl)]
  have key : ∀ A : Fr, A 0 = v → ∃ x a' H', loopN (evS Try.prog (evB Try.prog noC n) n Try.f114.ntmps none trmA) n A H = some (x, a', H') ∧ x = .exit 0 ∧ H' = H ∧ ∃ v', a' 0 = v' ∧ RO C H v' (ints (trimL l)) := by
    intro A h0
    refine loop_wf (fun n a H' => H' = H ∧ ∃ v', a 0 = v' ∧ RO C H v' (ints (l.take n)) ∧ n ≤ l.length ∧ trimL (l.take n) = trimL l) _ ?_ n l.length A H (by omega) ⟨rfl, v, h0, by rw [List.take_length]; exact hv, Nat.le_refl _, by rw [List.take_length]⟩
    intro c a H' ⟨hH, v', h0, hr, hc, ht⟩
    subst hH
    have hlc : (l.take c).length = c := by rw [List.length_take]; omega
    have hlen := hr.R.lenI
    rw [hlc] at hlen
    rw [show trmA = atC [1, 0, 0, 0] ((Try.f114.body).getD .skip) from rfl]
    by_cases hz : c = 0
    · subst hz
      right
      have c1 : decide ((0 : Int) < ((0 : Nat) : Int)) = false := rfl
      simp (disch := omega) only [Try.f114, Option.getD_some, atC, es_seq, es_region, es_cond, es_exit, ops_nil, ops_cons, ops_consG, st_move, sy_pick, pickS_false, sy_len uL, sy_bin, binS_gtr, bindO_some, bindF_some, bindX_normal, bindX_exit, condX_false, iteB_false, ev_tmp, ev_const, putA, upd_at, Option.map_some, ↓reduceIte, Nat.reduceEqDiff, yieldO_eq, yO, yV_bool, some_true, List.getElem?_cons_zero, List.getElem?_cons_succ, ↓bindO_some, ↓bindF_some, ↓bindX_normal, ↓bindX_exit, ↓condX_false, ↓iteB_false, h0, hlen, c1]
      exact ⟨_, _, _, rfl, by simp, rfl, rfl, v', by simp only [upd_get, ↓reduceIte, Nat.reduceEqDiff, h0], by rw [← ht]; exact hr⟩
    · obtain ⟨d, rfl⟩ : ∃ d, c = d + 1 := ⟨c - 1, by omega⟩
      have c1 : (0 : Int) < ((d + 1 : Nat) : Int) := by omega
      have e1 : IntKind.i64.wrap (((d + 1 : Nat) : Int) - 1) = (d : Int) := by rw [wr64 (by omega) (by omega)]; omega
      have hx := take_snoc' (l := l) (c := d) (by omega)
      have a1 : addrS 1 v' (vi d) = some (pt v' d) := by have := hr.R.addrI (i := (d : Int)) (by omega) (by omega); simpa using this
      have l1 : loadS (pt v' d) H' = some (vi (l.getD d 0)) := by
        have := hr.R.loadI (i := d) (by omega)
        rw [this, hx, List.getD_eq_getElem?_getD, List.getElem?_append_right (by rw [List.length_take]; omega), List.length_take, Nat.min_eq_left (by omega), Nat.sub_self]
        rfl
      rw [hx, trimL_snoc] at ht
      by_cases hy : l.getD d 0 = 0
      · left
        rw [if_pos hy] at ht
        obtain ⟨v2, s2, r2⟩ := hr.upto (c := d) (by omega)
        rw [List.take_take, Nat.min_eq_left (by omega)] at r2
        simp (disch := omega) only [Try.f114, Option.getD_some, atC, es_seq, es_region, es_cond, es_block, es_skip, ops_nil, ops_cons, ops_consG, st_move, st_assign, sy_pick, pickS_true, sy_len uL, sy_addr eL, sy_load aI, sy_bin, sy_slice eL, binS_gtr, binS_eql, binS_sub, bindO_some, bindF_some, bindX_normal, blkX_normal, condX_true, iteB_true, ev_tmp, ev_const, putA, upd_at, Option.map_some, ↓reduceIte, Nat.reduceEqDiff, decide_true, yieldO_eq, yO, yV_bool, List.getElem?_cons_zero, List.getElem?_cons_succ, beq_self_eq_true, ↓bindO_some, ↓bindF_some, ↓bindX_normal, ↓condX_true, ↓iteB_true, h0, hlen, c1, e1, a1, l1, hy, Option.map_none, s2]
        exact ⟨_, _, rfl, d, by omega, rfl, v2, by simp only [upd_get, ↓reduceIte], r2, by omega, ht⟩
      · right
        rw [if_neg hy] at ht
        simp (disch := omega) only [Try.f114, Option.getD_some, atC, es_seq, es_region, es_cond, es_exit, ops_nil, ops_cons, ops_consG, st_move, sy_pick, pickS_true, sy_len uL, sy_addr eL, sy_load aI, sy_bin, binS_gtr, binS_eql, binS_sub, bindO_some, bindF_some, bindX_normal, bindX_exit, condX_false, iteB_true, ev_tmp, ev_const, putA, upd_at, Option.map_some, ↓reduceIte, Nat.reduceEqDiff, decide_true, decide_false, yieldO_eq, yO, yV_bool, List.getElem?_cons_zero, List.getElem?_cons_succ, beq_self_eq_true, ↓bindO_some, ↓bindF_some, ↓bindX_normal, ↓bindX_exit, ↓condX_false, ↓iteB_true, h0, hlen, c1, e1, a1, l1, hy]
        exact ⟨_, _, _, rfl, by simp, rfl, rfl, v', by simp only [upd_get, ↓reduceIte, Nat.reduceEqDiff, h0], by rw [← ht, ← hx]; exact hr⟩
  rw [show trmA = atC [1, 0, 0, 0] ((Try.f114.body).getD .skip) from rfl] at key
  simp only [Try.f114, Option.getD_some, atC] at key
  simp (disch := omega) only [Try.f114, es_seq, es_region, es_block, es_loop, es_ret, ops_nil, ops_cons, st_move, st_assign, bindO_some, bindF_some, bindX_normal, ev_tmp, ev_const, putA, upd_at, ↓reduceIte, ↓bindO_some, ↓bindF_some, ↓bindX_normal]
  generalize hA : upd _ 2 _ = A
  obtain ⟨x, a', H', e, hx, hH, v', h0, r⟩ := key A (by subst hA; rfl)
  subst hx
  subst hH
  rw [e]
  simp (disch := omega) only [bindX_normal, blkX_exit, upd_at, Option.map_some, ↓reduceIte, ↓bindX_normal, fin_r, res_nil, res_tmp, pack_1, h0, r.R.scal]
  exact ⟨_, rfl, r⟩
/-- An integer of the program. -/
def Wh (C : Nat) (H : Heap) (w : Value) (z : Int) : Prop := ∃ v, w = .agg #[.bool (decide (z < 0)), v] ∧ RO C H v (ints (nf z.natAbs))
def OneW (H : Heap) (r : Option (Value × Heap)) (z : Int) : Prop := ∃ w H', r = some (w, H') ∧ Wh H.length H' w z ∧ Old H.length H H' ∧ WF H'
theorem Wh.mono {C : Nat} {H H' : Heap} {w : Value} {z : Int} (h : Wh C H w z) (ho : Old H.length H H') : Wh C H' w z := by
  obtain ⟨v, h1, h2⟩ := h
  exact ⟨v, h1, h2.mono ho⟩
theorem Wh.below {C C' : Nat} {H : Heap} {w : Value} {z : Int} (h : Wh C H w z) (hc : C' ≤ C) : Wh C' H w z := by
  obtain ⟨v, h1, h2⟩ := h
  exact ⟨v, h1, h2.below hc⟩
theorem Wh.kept {C : Nat} {H H' : Heap} {w : Value} {z : Int} (h : Wh C H w z) (k : Kept C H H') : Wh C H' w z := by
  obtain ⟨v, h1, h2⟩ := h
  exact ⟨v, h1, h2.kept k⟩
noncomputable def readA_ : Code := atC [1, 1, 1, 0, 1, 0, 0] ((Try.f83.body).getD .skip)
noncomputable def readB : Code := atC [1, 1, 1, 1, 1, 1, 0, 1, 0, 0] ((Try.f83.body).getD .skip)
theorem read_loop1 {H0 H : Heap} {v p : Value} {l : List Int} (hv : R H0 v (ints l)) (old0 : Old H0.length H0 H) (hw : WF H) (hl : l.length ≤ 900) (hb : ∀ x ∈ l, -4000000000000000000 ≤ x ∧ x ≤ 4000000000000000000) (n m nt : Nat) (hn : 10 ≤ n) {a : Fr} {k : Nat} (hk : l.length + 2 < k)
    (h0 : a 0 = v) (h2 : a 2 = p) (h3 : a 3 = .slice none 0 0) (h4 : a 4 = vi 0) (h5 : a 5 = vi (0 : Nat)) :
    ∃ x a' H', loopN (evS Try.prog (evB Try.prog noC n) m nt none readA_) k a H = some (x, a', H') ∧ x = .exit 0 ∧ a' 2 = p ∧ ∃ vo out c, a' 3 = vo ∧ a' 4 = vi c ∧ O H.length H' vo (ints out) ∧ Old H.length H H' ∧ WF H' ∧ out.length ≤ l.length + 2 ∧ Dg out ∧ val out + B ^ out.length * c = val l ∧ (c = 0 ∨ c = -1) := by
  refine loop_wf (fun q a H' => a 0 = v ∧ a 2 = p ∧ ∃ vo out c, a 3 = vo ∧ a 4 = vi c ∧ a 5 = vi (out.length : Nat) ∧ O H.length H' vo (ints out) ∧ Old H.length H H' ∧ WF H' ∧ out.length + q ≤ l.length + 2 ∧ Dg out ∧ val out + B ^ out.length * c = val (l.take out.length) ∧ ((out.length < l.length ∧ q = l.length - out.length + 2 ∧ -100000000000 ≤ c ∧ c ≤ 100000000000) ∨ (l.length ≤ out.length ∧ MM q c))) _ ?_ k (l.length + 2) a H hk ?_
  · intro q a H' ⟨h0, h2, vo, out, c, h3, h4, h5, ho, old, hw, hq, hd, hval, hM⟩
    rw [show readA_ = atC [1, 1, 1, 0, 1, 0, 0] ((Try.f83.body).getD .skip) from rfl]
    have hr := hv.keep (Nat.le_refl _) (old0.trans (old.mono old0.1))
    have e3 : IntKind.i64.wrap ((out.length : Int) + 1) = ((out.length + 1 : Nat) : Int) := by rw [wr64 (by omega) (by omega)]; omega
    rcases hM with ⟨hlt, hqe, hc1, hc2⟩ | ⟨hge, hM⟩
    · left
      have hx := hb _ (getD_mem hlt)
      have c1 : ((out.length : Int) < l.length) := by omega
      have s1 := floored_run hx.1 hx.2 n H' hn
      have e1 : IntKind.i64.wrap (l.getD out.length 0 % 100000000 + c) = l.getD out.length 0 % 100000000 + c := wr64 (by omega) (by omega)
      have s2 := floored_run (z := l.getD out.length 0 % 100000000 + c) (by omega) (by omega) n H' hn
      have e2 : IntKind.i64.wrap (l.getD out.length 0 / 100000000 + (l.getD out.length 0 % 100000000 + c) / 100000000) = l.getD out.length 0 / 100000000 + (l.getD out.length 0 % 100000000 + c) / 100000000 := wr64 (by omega) (by omega)
      obtain ⟨v2, H2, ep, o2, old2, wf2⟩ := ho.pushI hw old.1 (by unfold maxA; omega) ((l.getD out.length 0 % 100000000 + c) % 100000000)
      simp (disch := omega) only [Try.f83, Option.getD_some, atC, es_seq, es_region, es_cond, es_block, es_skip, ops_nil, ops_cons, ops_consG, st_move, st_assign, sy_pick, pickS_true, st_fun, sy_len uL, sy_addr eL, sy_load aI, sy_bin, sy_append eL pI, sy_build1 eL oI, sy_ext, ext_20, ext_21, binS_lss, binS_add, bindO_some, bindF_some, bindX_normal, blkX_normal, condX_true, iteB_false, ev_tmp, ev_const, ev_func, putA, upd_at, Option.map_some, ↓reduceIte, Nat.reduceEqDiff, Int.toNat_natCast, List.map_cons, List.map_nil, decide_true, Bool.not_true, yieldO_eq, yO, yV_bool, yV_undef, none_some, some_false, List.getElem?_cons_zero, List.getElem?_cons_succ, ↓bindO_some, ↓bindF_some, ↓bindX_normal, ↓condX_true, ↓iteB_false, scal_vi, h0, h3, h4, h5, hr.lenI, c1, hr.addrI, hr.loadI, s1, s2, e1, e2, e3, ep]
      have hvl := norm_step (x := l.getD out.length 0) rfl hval (by rw [List.length_take]; omega)
      rw [← take_snoc' hlt] at hvl
      refine ⟨_, _, rfl, q - 1, by omega, by simp only [upd_get, ↓reduceIte, Nat.reduceEqDiff, h0], by simp only [upd_get, ↓reduceIte, Nat.reduceEqDiff, h2], v2, out ++ [(l.getD out.length 0 % 100000000 + c) % 100000000], l.getD out.length 0 / 100000000 + (l.getD out.length 0 % 100000000 + c) / 100000000, by simp only [upd_get, ↓reduceIte, Nat.reduceEqDiff], by simp only [upd_get, ↓reduceIte, Nat.reduceEqDiff], by simp only [upd_get, ↓reduceIte, List.length_append, List.length_singleton], o2, old.trans old2, wf2, by rw [List.length_append, List.length_singleton]; omega, hd.app (Dg.one (by omega) (by unfold B; omega)), by rw [List.length_append, List.length_singleton]; exact hvl, ?_⟩
      rw [List.length_append, List.length_singleton]
      by_cases hl2 : out.length + 1 < l.length
      · exact .inl ⟨hl2, by omega, by omega, by omega⟩
      · exact .inr ⟨by omega, .inr (.inr ⟨by omega, by omega, by omega⟩)⟩
    · have c1 : ¬ ((out.length : Int) < l.length) := by omega
      have ht : l.take out.length = l := List.take_of_length_le hge
      rw [ht] at hval
      by_cases hz : c = 0
      · right
        simp (disch := omega) only [Try.f83, Option.getD_some, atC, es_seq, es_region, es_cond, es_exit, ops_nil, ops_cons, ops_consG, st_move, sy_pick, pickS_false, sy_len uL, sy_bin, binS_lss, binS_neq, bindO_some, bindF_some, bindX_normal, bindX_exit, condX_false, iteB_true, iteB_false, ev_tmp, ev_const, putA, upd_at, Option.map_some, ↓reduceIte, Nat.reduceEqDiff, decide_true, decide_false, Bool.not_true, yieldO_eq, yO, yV_bool, some_true, List.getElem?_cons_zero, List.getElem?_cons_succ, beq_self_eq_true, ↓bindO_some, ↓bindF_some, ↓bindX_normal, ↓bindX_exit, ↓condX_false, ↓iteB_true, ↓iteB_false, h0, h4, h5, hr.lenI, c1, hz]
        exact ⟨_, _, _, rfl, by simp, rfl, by simp only [upd_get, ↓reduceIte, Nat.reduceEqDiff, h2], vo, out, 0, by simp only [upd_get, ↓reduceIte, Nat.reduceEqDiff, h3], by simp only [upd_get, ↓reduceIte, Nat.reduceEqDiff, h4, hz], ho, old, hw, by omega, hd, by rw [← hz]; exact hval, .inl rfl⟩
      · by_cases hy : c = -1
        · right
          have d1 : decide (c = 0) = false := by simp [hz]
          have d2 : decide (c = -1) = true := by simp [hy]
          simp (disch := omega) only [Try.f83, Option.getD_some, atC, es_seq, es_region, es_cond, es_exit, ops_nil, ops_cons, ops_consG, st_move, sy_pick, pickS_true, pickS_false, sy_len uL, sy_bin, binS_lss, binS_neq, bindO_some, bindF_some, bindX_normal, bindX_exit, condX_false, iteB_true, ev_tmp, ev_const, putA, upd_at, Option.map_some, ↓reduceIte, Nat.reduceEqDiff, decide_false, Bool.not_true, Bool.not_false, yieldO_eq, yO, yV_bool, List.getElem?_cons_zero, List.getElem?_cons_succ, beq_self_eq_true, ↓bindO_some, ↓bindF_some, ↓bindX_normal, ↓bindX_exit, ↓condX_false, ↓iteB_true, h0, h4, h5, hr.lenI, c1, d1, d2]
          exact ⟨_, _, _, rfl, by simp, rfl, by simp only [upd_get, ↓reduceIte, Nat.reduceEqDiff, h2], vo, out, -1, by simp only [upd_get, ↓reduceIte, Nat.reduceEqDiff, h3], by simp only [upd_get, ↓reduceIte, Nat.reduceEqDiff, h4, hy], ho, old, hw, by omega, hd, by rw [← hy]; exact hval, .inr rfl⟩
        · left
          have s1 := floored_run (z := c) (by rcases hM with h | h | h <;> omega) (by rcases hM with h | h | h <;> omega) n H' hn
          have e0 : IntKind.i64.wrap (0 + c) = c := by rw [wr64 (by rcases hM with h | h | h <;> omega) (by rcases hM with h | h | h <;> omega)]; omega
          have e4 : IntKind.i64.wrap (0 + c / 100000000) = c / 100000000 := by rw [wr64 (by rcases hM with h | h | h <;> omega) (by rcases hM with h | h | h <;> omega)]; omega
          obtain ⟨v2, H2, ep, o2, old2, wf2⟩ := ho.pushI hw old.1 (by unfold maxA; omega) (c % 100000000)
          simp (disch := omega) only [Try.f83, Option.getD_some, atC, es_seq, es_region, es_cond, es_block, es_skip, ops_nil, ops_cons, ops_consG, st_move, st_assign, sy_pick, pickS_true, pickS_false, st_fun, sy_len uL, sy_bin, sy_append eL pI, sy_build1 eL oI, sy_ext, ext_20, ext_21, binS_lss, binS_neq, binS_add, bindO_some, bindF_some, bindX_normal, blkX_normal, condX_true, condX_false, iteB_true, ev_tmp, ev_const, ev_func, putA, upd_at, Option.map_some, ↓reduceIte, Nat.reduceEqDiff, List.map_cons, List.map_nil, decide_false, Bool.not_false, yieldO_eq, yO, yV_bool, List.getElem?_cons_zero, List.getElem?_cons_succ, beq_self_eq_true, ↓bindO_some, ↓bindF_some, ↓bindX_normal, ↓condX_true, ↓condX_false, ↓iteB_true, scal_vi, h0, h3, h4, h5, hr.lenI, c1, hz, hy, e0, s1, e4, e3, ep]
          refine ⟨_, _, rfl, q - 1, by rcases hM with h | h | h <;> omega, by simp only [upd_get, ↓reduceIte, Nat.reduceEqDiff, h0], by simp only [upd_get, ↓reduceIte, Nat.reduceEqDiff, h2], v2, out ++ [c % 100000000], c / 100000000, by simp only [upd_get, ↓reduceIte, Nat.reduceEqDiff], by simp only [upd_get, ↓reduceIte, Nat.reduceEqDiff], by simp only [upd_get, ↓reduceIte, List.length_append, List.length_singleton], o2, old.trans old2, wf2, by rw [List.length_append, List.length_singleton]; rcases hM with h | h | h <;> omega, hd.app (Dg.one (by omega) (by unfold B; omega)), by rw [List.take_of_length_le (by rw [List.length_append]; omega)]; exact carry_step _ hval, .inr ⟨by rw [List.length_append]; omega, ?_⟩⟩
          rcases hM with h | h | h
          · omega
          · exact .inl ⟨by omega, by omega⟩
          · exact .inr (.inl ⟨by omega, by omega, by omega⟩)
  · refine ⟨h0, h2, _, [], 0, h3, h4, h5, O.nil _ _, Old.refl _ _, hw, by simp, Dg.nil, by simp [val], ?_⟩
    by_cases hl0 : 0 < l.length
    · exact .inl ⟨by simpa using hl0, by simp, by omega, by omega⟩
    · have hl1 : l.length = 0 := by omega
      exact .inr ⟨by rw [hl1]; exact Nat.zero_le _, .inr (.inr ⟨by omega, by omega, by omega⟩)⟩
/-- The complement of the first i digits, the others as they were. -/
def cpl (l : List Int) (z : List Int) (i : Nat) : List Int := z ++ l.drop i
theorem cpl_get {l z : List Int} {i : Nat} (hz : z.length = i) (h : i < l.length) : (cpl l z i).getD i 0 = l.getD i 0 := by
  unfold cpl
  rw [List.getD_eq_getElem?_getD, List.getD_eq_getElem?_getD, List.getElem?_append_right (by omega), hz, Nat.sub_self, List.getElem?_drop, Nat.add_zero]
theorem cpl_set {l z : List Int} {i : Nat} (hz : z.length = i) (h : i < l.length) (x : Int) : (cpl l z i).set i x = cpl l (z ++ [x]) (i + 1) := by
  unfold cpl
  rw [List.set_append_right _ _ (by omega), hz, Nat.sub_self, drop_getD h, List.set_cons_zero]
  simp
theorem cpl_len {l z : List Int} {i : Nat} (hz : z.length = i) (h : i ≤ l.length) : (cpl l z i).length = l.length := by
  unfold cpl
  rw [List.length_append, List.length_drop]; omega
theorem read_loop2 {B0 : Nat} {H0 H : Heap} {vo p : Value} {out : List Int} (hB : B0 ≤ H.length) (ho : O B0 H vo (ints out)) (hd : Dg out) (old0 : Old B0 H0 H) (hw : WF H) (hol : out.length ≤ 1000) (call : CallF) (m nt : Nat) {a : Fr} {k : Nat} (hk : out.length < k)
    (h2 : a 2 = p) (h3 : a 3 = vo) (h10 : a 10 = vi 0) (h58 : a 58 = vo) (h59 : a 59 = vi (out.length : Nat)) (h60 : a 60 = vi (0 : Nat)) :
    ∃ x a' H', loopN (evS Try.prog call m nt none readB) k a H = some (x, a', H') ∧ x = .exit 2 ∧ a' 2 = p ∧ a' 3 = vo ∧ ∃ sz b, a' 10 = vi b ∧ O B0 H' vo (ints sz) ∧ Old B0 H0 H' ∧ WF H' ∧ sz.length = out.length ∧ Dg sz ∧ val sz = b * B ^ out.length - val out ∧ (b = 0 ∨ b = 1) ∧ H.length ≤ H'.length := by
  refine loop_up out.length (fun i a H' => a 2 = p ∧ a 3 = vo ∧ a 58 = vo ∧ a 59 = vi (out.length : Nat) ∧ a 60 = vi i ∧ H.length ≤ H'.length ∧ ∃ sz b, a 10 = vi b ∧ O B0 H' vo (ints (cpl out sz i)) ∧ Old B0 H0 H' ∧ WF H' ∧ sz.length = i ∧ Dg sz ∧ val sz = b * B ^ i - val (out.take i) ∧ (b = 0 ∨ b = 1)) _ ?_ ?_ hk
    ⟨h2, h3, h58, h59, h60, Nat.le_refl _, [], 0, h10, by simpa [cpl] using ho, old0, hw, rfl, Dg.nil, by simp [val], .inl rfl⟩
  · intro i a H' hi ⟨h2, h3, h58, h59, h60, hlen, sz, b, h10, ho, old, hw, hsl, hds, hval, hb⟩
    left
    rw [show readB = atC [1, 1, 1, 1, 1, 1, 0, 1, 0, 0] ((Try.f83.body).getD .skip) from rfl]
    have hx := hd.getD i
    have hr := ho.R
    have hcl := cpl_len hsl (by omega : i ≤ out.length)
    have hcg := cpl_get hsl hi
    have hlt : (i : Int) < out.length := by omega
    have e1 : IntKind.i64.wrap (0 - out.getD i 0) = - out.getD i 0 := by rw [wr64 (by omega) (by omega)]; omega
    have e2 : IntKind.i64.wrap (- out.getD i 0 - b) = - out.getD i 0 - b := wr64 (by omega) (by omega)
    have e3 : IntKind.i64.wrap ((i : Int) + 1) = ((i + 1 : Nat) : Int) := by rw [wr64 (by omega) (by omega)]; omega
    have a1 : addrS 1 vo (vi i) = some (pt vo i) := by have := hr.addrI (i := (i : Int)) (by omega) (by omega); simpa using this
    have l1 : loadS (pt vo i) H' = some (vi (out.getD i 0)) := by rw [hr.loadI (by omega), hcg]
    have hst := fun (b2 : Int) => compl_step (o := out.getD i 0) (b2 := b2) hsl (by rw [List.length_take]; omega) hval
    obtain ⟨H2, s2, o2, old2, wf2⟩ := ho.setI hw (i := i) (by omega) (- out.getD i 0 - b)
    rw [cpl_set hsl hi] at o2
    have l2 : loadS (pt vo i) H2 = some (vi (- out.getD i 0 - b)) := by
      rw [o2.R.loadI (by rw [cpl_len (by simp [hsl]) (by omega)]; omega)]
      unfold cpl
      rw [List.getD_eq_getElem?_getD, List.append_assoc, List.getElem?_append_right (by omega), hsl, Nat.sub_self]
      rfl
    by_cases hneg : - out.getD i 0 - b < 0
    · have e4 : IntKind.i64.wrap (- out.getD i 0 - b + 100000000) = - out.getD i 0 - b + 100000000 := wr64 (by omega) (by omega)
      obtain ⟨H3, s3, o3, old3, wf3⟩ := o2.setI wf2 (i := i) (by rw [cpl_len (by simp [hsl]) (by omega)]; omega) (- out.getD i 0 - b + 100000000)
      have e5 : (cpl out (sz ++ [- out.getD i 0 - b]) (i + 1)).set i (- out.getD i 0 - b + 100000000) = cpl out (sz ++ [- out.getD i 0 - b + 100000000]) (i + 1) := by
        unfold cpl
        rw [List.append_assoc, List.append_assoc, List.set_append_right _ _ (by omega), hsl, Nat.sub_self]; rfl
      rw [e5] at o3
      simp (disch := omega) only [Try.f83, Option.getD_some, atC, es_seq, es_region, es_cond, es_block, es_skip, ops_nil, ops_cons, st_move, st_assign, sy_addr eL, sy_load aI, sy_store zI, sy_bin, sy_neg, binS_lss, binS_add, binS_sub, bindO_some, bindF_some, bindX_normal, blkX_normal, condX_true, ev_tmp, ev_const, putA, upd_at, Option.map_some, ↓reduceIte, Nat.reduceEqDiff, decide_true, ↓bindO_some, ↓bindF_some, ↓bindX_normal, ↓condX_true, h3, h10, h58, h59, h60, hlt, a1, l1, e1, e2, s2, l2, hneg, e4, s3, e3]
      exact ⟨_, _, rfl, by simp only [upd_get, ↓reduceIte, Nat.reduceEqDiff, h2], by simp only [upd_get, ↓reduceIte, Nat.reduceEqDiff, h3], by simp only [upd_get, ↓reduceIte, Nat.reduceEqDiff, h58], by simp only [upd_get, ↓reduceIte, Nat.reduceEqDiff, h59], by simp only [upd_get, ↓reduceIte], Nat.le_trans hlen (Nat.le_trans old2.1 old3.1), _, 1, by simp only [upd_get, ↓reduceIte, Nat.reduceEqDiff], o3, (old.trans old2).trans old3, wf3, by simp [hsl], hds.app (Dg.one (by omega) (by unfold B; omega)), by rw [take_snoc' hi]; exact hst 1, .inr rfl⟩
    · simp (disch := omega) only [Try.f83, Option.getD_some, atC, es_seq, es_region, es_cond, es_block, es_skip, ops_nil, ops_cons, st_move, st_assign, sy_addr eL, sy_load aI, sy_store zI, sy_bin, sy_neg, binS_lss, binS_add, binS_sub, bindO_some, bindF_some, bindX_normal, blkX_normal, condX_true, condX_false, ev_tmp, ev_const, putA, upd_at, Option.map_some, ↓reduceIte, Nat.reduceEqDiff, decide_true, decide_false, ↓bindO_some, ↓bindF_some, ↓bindX_normal, ↓condX_true, ↓condX_false, h3, h10, h58, h59, h60, hlt, a1, l1, e1, e2, s2, l2, hneg, e3]
      exact ⟨_, _, rfl, by simp only [upd_get, ↓reduceIte, Nat.reduceEqDiff, h2], by simp only [upd_get, ↓reduceIte, Nat.reduceEqDiff, h3], by simp only [upd_get, ↓reduceIte, Nat.reduceEqDiff, h58], by simp only [upd_get, ↓reduceIte, Nat.reduceEqDiff, h59], by simp only [upd_get, ↓reduceIte], Nat.le_trans hlen old2.1, _, 0, by simp only [upd_get, ↓reduceIte, Nat.reduceEqDiff], o2, old.trans old2, wf2, by simp [hsl], hds.app (Dg.one (by omega) (by unfold B; omega)), by rw [take_snoc' hi]; have := hst 0; simpa using this, .inl rfl⟩
  · intro a H' ⟨h2, h3, h58, h59, h60, hlen, sz, b, h10, ho, old, hw, hsl, hds, hval, hb⟩
    rw [show readB = atC [1, 1, 1, 1, 1, 1, 0, 1, 0, 0] ((Try.f83.body).getD .skip) from rfl]
    simp (disch := omega) only [Try.f83, Option.getD_some, atC, es_seq, es_region, es_cond, es_exit, ops_nil, ops_cons, sy_bin, binS_lss, bindO_some, bindF_some, bindX_normal, bindX_exit, condX_false, ev_tmp, putA, upd_at, ↓reduceIte, decide_false, ↓bindO_some, ↓bindF_some, ↓bindX_normal, ↓bindX_exit, ↓condX_false, h59, h60, Int.lt_irrefl]
    have e0 : cpl out sz out.length = sz := by unfold cpl; rw [List.drop_length, List.append_nil]
    rw [e0] at ho
    exact ⟨_, _, _, rfl, by simp, rfl, by simp only [upd_get, ↓reduceIte, Nat.reduceEqDiff, h2], by simp only [upd_get, ↓reduceIte, Nat.reduceEqDiff, h3], sz, b, by simp only [upd_get, ↓reduceIte, Nat.reduceEqDiff, h10], ho, old, hw, hsl, hds, by rw [hval, List.take_length], hb, hlen⟩
theorem nf_natAbs_pos {z : Int} (h : 0 ≤ z) : nf z.natAbs = nf z := by rw [natAbs_pos h]
theorem read_run {H : Heap} {v : Value} {z : Int} (hw : WF H) (hv : NumV H v z) (n : Nat) (hn : 2001 ≤ n) :
    OneW H (evB Try.prog noC n (.func (.func 83) #[] #[]) [v] H) z := by
  obtain ⟨l, hr, hz, hl, hb⟩ := hv
  refine run_of (F := 2000) (Q := fun r => OneW H r z) (fun n hn => ?_) n hn
  rw [body_runS Try.func83 rfl (ok_fn (by rfl) Try.func83 rfl) (Nat.le_of_ble_eq_true rfl) (D := D0) (by kernel_rfl)]
  have oldb := Old.app H [.cells H.length true [.bool false, .slice none 0 0]]
  have wfb := hw.app (Nat.le_refl H.length) (o := true) (cs := [.bool false, .slice none 0 0])
  have bx := BxM.made (B := H.length) (H := H) (Nat.le_refl _) [.bool false, .slice none 0 0]
  have key1 := fun (A : Fr) => read_loop1 (p := ptrA H.length 0) hr oldb wfb hl hb n n Try.f83.ntmps (by omega) (a := A) (k := n) (by omega)
  have key2 := fun (A : Fr) {B0 : Nat} {H0 H1 : Heap} {vo : Value} {out : List Int} (hol : out.length ≤ 902) (hB : B0 ≤ H1.length) (ho : O B0 H1 vo (ints out)) (hd : Dg out) (old0 : Old B0 H0 H1) (hw : WF H1) => read_loop2 (p := ptrA H.length 0) hB ho hd old0 hw (by omega) (evB Try.prog noC n) n Try.f83.ntmps (a := A) (k := n) (by omega)
  rw [show readA_ = atC [1, 1, 1, 0, 1, 0, 0] ((Try.f83.body).getD .skip) from rfl] at key1
  rw [show readB = atC [1, 1, 1, 1, 1, 1, 0, 1, 0, 0] ((Try.f83.body).getD .skip) from rfl] at key2
  simp only [Try.f83, Option.getD_some, atC] at key1 key2
  simp (disch := omega) only [Try.f83, es_seq, es_region, es_cond, es_block, es_loop, es_skip, es_ret, ops_nil, ops_cons, st_move, st_assign, st_fun, sy_len uL, sy_bin, sy_append eL pI, sy_build1 eL oI, bindO_some, bindF_some, bindX_normal, ev_tmp, ev_const, ev_func, putA, upd_at, ↓reduceIte, Nat.reduceEqDiff, List.map_cons, List.map_nil, ↓bindO_some, ↓bindF_some, ↓bindX_normal, scal_vi, sy_storeN zW, sy_alloc iW scal_agg, sy_build]
  generalize hA : upd _ 5 _ = A
  obtain ⟨x, a1, H1, e1, hx, g2, vo, out, c, h3, h4, o1, old1, wf1, hol, hd, hval, hc⟩ := key1 A (by subst hA; rfl) (by subst hA; rfl) (by subst hA; rfl) (by subst hA; rfl) (by subst hA; rfl)
  subst hx
  rw [e1]
  clear key1 e1
  have bx1 := bx.mono old1
  rcases hc with rfl | rfl
  · rw [Int.mul_zero, Int.add_zero] at hval
    obtain ⟨v3, s3, r3⟩ := trimmed_run o1.RO (by omega) n (by omega)
    obtain ⟨H4, s4, bx4, old4, wf4, keep4⟩ := bx1.store wf1 (vs := [.bool false, v3]) rfl
    have s5 : loadN 2 (ptrA H.length 0) H4 = some (.agg #[.bool false, v3]) := bx4.loadAll
    have s4 : storeN 2 (ptrA H.length 0) (.agg #[.bool false, v3]) H1 = some H4 := s4
    have hz0 : 0 ≤ z := by have := hd.val; omega
    simp (disch := omega) only [binS_eql, bindO_some, bindF_some, bindX_normal, bindX_ret, blkX_exit, condX_true, upd_at, Option.map_some, ↓reduceIte, Nat.reduceEqDiff, decide_true, ↓bindO_some, ↓bindF_some, ↓bindX_normal, ↓bindX_ret, ↓condX_true, fin_r, res_nil, pack_1, res_cell aW zW, g2, h3, h4, s3, bW1 v3 r3.R.scal, s4, s5]
    have hzp : decide (z < 0) = false := by simp; omega
    refine ⟨_, _, rfl, ⟨v3, by rw [hzp], ?_⟩, (oldb.trans (old1.mono oldb.1)).trans old4, wf4⟩
    rw [nf_natAbs_pos hz0, ← nf_of_digs hd (hval.trans hz)]
    exact (r3.kept keep4).below oldb.1
  · have hneg := hd.val
    have hz1 : ¬ (-1 : Int) = 0 := by omega
    have hrl := o1.R.lenI
    simp (disch := omega) only [binS_eql, bindO_some, bindF_some, bindX_normal, blkX_exit, condX_false, upd_at, Option.map_some, ↓reduceIte, Nat.reduceEqDiff, decide_false, ↓bindO_some, ↓bindF_some, ↓bindX_normal, ↓condX_false, h3, h4, hz1, hrl]
    generalize hA : upd _ 60 _ = A
    obtain ⟨x, a2, H2, e2, hx, g2', g3, sz, b, h10, o2, old2, wf2, hsl, hds, hvs, hb', hlen2⟩ := key2 A (H0 := H ++ [.cells H.length true [.bool false, .slice none 0 0]]) (by omega) old1.1 o1 hd old1 wf1 (by subst hA; exact g2) (by subst hA; exact h3) (by subst hA; rfl) (by subst hA; rfl) (by subst hA; rfl) (by subst hA; rfl)
    subst hx
    rw [e2]
    clear key2 e2
    have bx2 := bx.mono old2
    have fin : ∀ (H3 : Heap) (v3 : Value) (l3 : List Int), RO (H ++ [Blk.cells H.length true [.bool false, .slice none 0 0]]).length H3 v3 (ints l3) → WF H3 → Old (H ++ [Blk.cells H.length true [.bool false, .slice none 0 0]]).length H2 H3 → Dg l3 → l3.length ≤ 1000 → val l3 = -z → ∃ v4 H4, evB Try.prog noC n (.func (.func 114) #[] #[]) [v3] H3 = some (v4, H3) ∧ Abs.scal v4 = some [v4] ∧ storeN 2 (ptrA H.length 0) (.agg #[.bool true, v4]) H3 = some H4 ∧ loadN 2 (ptrA H.length 0) H4 = some (.agg #[.bool true, v4]) ∧ RO H.length H4 v4 (ints (nf z.natAbs)) ∧ Old H.length H H4 ∧ WF H4 := by
      intro H3 v3 l3 r3 wf3 old3 hd3 hl3 hv3
      obtain ⟨v4, s4, r4⟩ := trimmed_run r3 hl3 n (by omega)
      obtain ⟨H4, s5, bx5, old5, wf5, keep5⟩ := (bx2.mono old3).store wf3 (vs := [.bool true, v4]) rfl
      have s6 := bx5.loadAll
      refine ⟨v4, H4, s4, r4.R.scal, s5, s6, ?_, ((oldb.trans (old2.mono oldb.1)).trans (old3.mono oldb.1)).trans old5, wf5⟩
      have hv := hd3.val
      rw [show ((z.natAbs : Nat) : Int) = -z from by omega, ← nf_of_digs hd3 hv3]
      exact (r4.kept keep5).below oldb.1
    have hzneg : decide (z < 0) = true := by simp; omega
    rcases hb' with rfl | rfl
    · obtain ⟨v5, H5, s5, o5, old5, wf5⟩ := o2.pushI wf2 (Nat.le_trans old1.1 hlen2) (by unfold maxA; omega) 1
      obtain ⟨v4, H4, s4, sc4, s6, s7, r4, old4, wf4⟩ := fin H5 v5 _ o5.RO wf5 old5 (hds.app (Dg.one (by omega) (by unfold B; omega))) (by rw [List.length_append, List.length_singleton]; omega) (by rw [val_snoc, hvs, hsl]; omega)
      simp (disch := omega) only [binS_eql, bindO_some, bindF_some, bindX_normal, blkX_exit, condX_true, upd_at, Option.map_some, ↓reduceIte, Nat.reduceEqDiff, decide_true, ↓bindO_some, ↓bindF_some, ↓bindX_normal, ↓condX_true, fin_r, res_nil, pack_1, res_cell aW zW, g2', g3, h10, s5, s4, bW2 true v4 sc4, s6, s7]
      exact ⟨_, _, rfl, ⟨v4, by rw [hzneg], r4⟩, old4, wf4⟩
    · obtain ⟨v4, H4, s4, sc4, s6, s7, r4, old4, wf4⟩ := fin H2 vo _ o2.RO wf2 (Old.refl _ _) hds (by omega) (by rw [hvs]; omega)
      have hone : ¬ (1 : Int) = 0 := by omega
      simp (disch := omega) only [binS_eql, bindO_some, bindF_some, bindX_normal, blkX_exit, condX_false, upd_at, Option.map_some, ↓reduceIte, Nat.reduceEqDiff, decide_false, ↓bindO_some, ↓bindF_some, ↓bindX_normal, ↓condX_false, fin_r, res_nil, pack_1, res_cell aW zW, g2', g3, h10, hone, s4, bW2 true v4 sc4, s6, s7]
      exact ⟨_, _, rfl, ⟨v4, by rw [hzneg], r4⟩, old4, wf4⟩
end Go.Proofs.Ytmmgdgmjkhcfaaa
