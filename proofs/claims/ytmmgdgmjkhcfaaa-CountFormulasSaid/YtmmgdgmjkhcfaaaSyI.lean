/- Integers of the program: differences of digits, sums. -/
import Derived.Test.YtmmgdgmjkhcfaaaSyH
set_option linter.all false
namespace Go.Proofs.Ytmmgdgmjkhcfaaa
open Go Go.Abs Go.Num
set_option maxRecDepth 10000
attribute [local congr] bindO_congr bindF_congr bindX_congr condX_congr iteB_congr binS_congr pickS_congr eqB_congr nilS_congr clsW_congr
theorem cpl_reset {l z : List Int} {i : Nat} {u w : Int} (hz : z.length = i) : (cpl l (z ++ [u]) (i + 1)).set i w = cpl l (z ++ [w]) (i + 1) := by
  unfold cpl
  rw [List.append_assoc, List.append_assoc, List.set_append_right _ _ (by omega), hz, Nat.sub_self]; rfl
theorem cpl_last {l z : List Int} {i : Nat} {u : Int} (hz : z.length = i) : (cpl l (z ++ [u]) (i + 1)).getD i 0 = u := by
  unfold cpl
  rw [List.getD_eq_getElem?_getD, List.append_assoc, List.getElem?_append_right (by omega), hz, Nat.sub_self]
  rfl
noncomputable def lesA : Code := atC [1, 1, 0, 1, 0, 0] ((Try.f116.body).getD .skip)
theorem les_loop {B0 : Nat} {H : Heap} {va vb : Value} {x y : Int} (ha : O B0 H va (ints (nf x))) (hb : ∀ H', Old B0 H H' → R H' vb (ints (nf y))) (x0 : 0 ≤ x) (y0 : 0 ≤ y) (hw : WF H) (lx : (nf x).length ≤ 900) (call : CallF) (m nt : Nat) {a : Fr} {k : Nat} (hk : (nf x).length < k)
    (h0 : a 0 = va) (h1 : a 1 = vb) (h5 : a 5 = vi 0) (h8 : a 8 = vi (nf x).length) (h9 : a 9 = vi (0 : Nat)) :
    ∃ r a' H', loopN (evS Try.prog call m nt none lesA) k a H = some (r, a', H') ∧ r = .exit 0 ∧ a' 0 = va ∧ Old B0 H H' ∧ WF H' ∧ ∃ sz b, O B0 H' va (ints sz) ∧ sz.length = (nf x).length ∧ Dg sz ∧ (b = 0 ∨ b = 1) ∧ val sz = x - val ((nf y).take (nf x).length) + b * B ^ (nf x).length := by
  refine loop_up (nf x).length (fun i a H' => a 0 = va ∧ a 1 = vb ∧ a 8 = vi (nf x).length ∧ a 9 = vi i ∧ Old B0 H H' ∧ WF H' ∧ ∃ sz b, a 5 = vi b ∧ O B0 H' va (ints (cpl (nf x) sz i)) ∧ sz.length = i ∧ Dg sz ∧ (b = 0 ∨ b = 1) ∧ val sz = val ((nf x).take i) - val ((nf y).take i) + b * B ^ i) _ ?_ ?_ hk
    ⟨h0, h1, h8, h9, Old.refl _ _, hw, [], 0, h5, by simpa [cpl] using ha, rfl, Dg.nil, .inl rfl, by simp [val]⟩
  · intro i a H' hi ⟨h0, h1, h8, h9, old, hw, sz, b, h5, ho, hsl, hds, hbb, hval⟩
    left
    rw [show lesA = atC [1, 1, 0, 1, 0, 0] ((Try.f116.body).getD .skip) from rfl]
    have hx := (nf_dg x0).getD i
    have hy := (nf_dg y0).getD i
    have hcl := cpl_len hsl (by omega : i ≤ (nf x).length)
    have hcg := cpl_get hsl hi
    have hlt : (i : Int) < (nf x).length := by omega
    have hr := ho.R
    have a1 : addrS 1 va (vi i) = some (pt va i) := by have := hr.addrI (i := (i : Int)) (by omega) (by omega); simpa using this
    have l1 : loadS (pt va i) H' = some (vi ((nf x).getD i 0)) := by rw [hr.loadI (by omega), hcg]
    have e1 : IntKind.i64.wrap ((nf x).getD i 0 - b) = (nf x).getD i 0 - b := wr64 (by omega) (by omega)
    have e3 : IntKind.i64.wrap ((i : Int) + 1) = ((i + 1 : Nat) : Int) := by rw [wr64 (by omega) (by omega)]; omega
    obtain ⟨H2, s2, o2, old2, wf2⟩ := ho.setI hw (i := i) (by omega) ((nf x).getD i 0 - b)
    rw [cpl_set hsl hi] at o2
    have hcl2 : ∀ u : Int, (cpl (nf x) (sz ++ [u]) (i + 1)).length = (nf x).length := fun u => cpl_len (by simp [hsl]) (by omega)
    have l2 : loadS (pt va i) H2 = some (vi ((nf x).getD i 0 - b)) := by rw [o2.R.loadI (by rw [hcl2]; exact hi), cpl_last hsl]
    have hb2 := hb H2 (old.trans old2)
    have hst := fun (b2 : Int) => less_step (x := (nf x).getD i 0) (y := (nf y).getD i 0) (b2 := b2) hsl hval
    rw [← val_take_succ, ← val_take_succ] at hst
    -- what stands behind the second difference
    have tail : ∀ (H3 : Heap), O B0 H3 va (ints (cpl (nf x) (sz ++ [(nf x).getD i 0 - b - (nf y).getD i 0]) (i + 1))) → WF H3 → Old B0 H H3 →
        loadS (pt va i) H3 = some (vi ((nf x).getD i 0 - b - (nf y).getD i 0)) ∧ ∃ H4, storeS (pt va i) (vi ((nf x).getD i 0 - b - (nf y).getD i 0 + 100000000)) H3 = some H4 ∧ O B0 H4 va (ints (cpl (nf x) (sz ++ [(nf x).getD i 0 - b - (nf y).getD i 0 + 100000000]) (i + 1))) ∧ WF H4 ∧ Old B0 H H4 := by
      intro H3 o3 wf3 old3
      refine ⟨by rw [o3.R.loadI (by rw [hcl2]; exact hi), cpl_last hsl], ?_⟩
      obtain ⟨H4, s4, o4, old4, wf4⟩ := o3.setI wf3 (i := i) (by rw [hcl2]; exact hi) ((nf x).getD i 0 - b - (nf y).getD i 0 + 100000000)
      rw [cpl_reset hsl] at o4
      exact ⟨H4, s4, o4, wf4, old3.trans old4⟩
    have e4 : IntKind.i64.wrap ((nf x).getD i 0 - b - (nf y).getD i 0) = (nf x).getD i 0 - b - (nf y).getD i 0 := wr64 (by omega) (by omega)
    have e5 : IntKind.i64.wrap ((nf x).getD i 0 - b - (nf y).getD i 0 + 100000000) = (nf x).getD i 0 - b - (nf y).getD i 0 + 100000000 := wr64 (by omega) (by omega)
    by_cases c2 : (i : Int) < (nf y).length
    · obtain ⟨H3, s3, o3, old3, wf3⟩ := o2.setI wf2 (i := i) (by rw [hcl2]; exact hi) ((nf x).getD i 0 - b - (nf y).getD i 0)
      rw [cpl_reset hsl] at o3
      obtain ⟨l3, H4, s4, o4, wf4, old4⟩ := tail H3 o3 wf3 ((old.trans old2).trans old3)
      by_cases c3 : (nf x).getD i 0 - b - (nf y).getD i 0 < 0
      · simp (disch := omega) only [Try.f116, Option.getD_some, atC, es_seq, es_region, es_draw, d0, es_cond, es_block, es_skip, ops_nil, ops_cons, opsV_nil, opsV_cons, st_move, st_assign, sy_len uL, sy_addr eL, sy_load aI, sy_store zI, sy_bin, binS_lss, binS_add, binS_sub, bindO_some, bindF_some, bindX_normal, blkX_normal, condX_true, iteB_true, iteB_false, ev_tmp, ev_const, putA, upd_at, Option.map_some, ↓reduceIte, Nat.reduceEqDiff, Int.toNat_natCast, decide_true, ↓bindO_some, ↓bindF_some, ↓bindX_normal, ↓condX_true, ↓iteB_true, ↓iteB_false, reflV_load, reflV_move, reflV_bin, reflV_addr, reflV_store, vEq_vi, h0, h1, h5, h8, h9, hlt, a1, l1, e1, s2, hb2.lenI, c2, l2, hb2.addrI, hb2.loadI, e4, s3, l3, c3, e5, s4, e3]
        exact ⟨_, _, rfl, by simp only [upd_get, ↓reduceIte, Nat.reduceEqDiff, h0], by simp only [upd_get, ↓reduceIte, Nat.reduceEqDiff, h1], by simp only [upd_get, ↓reduceIte, Nat.reduceEqDiff, h8], by simp only [upd_get, ↓reduceIte], old4, wf4, _, 1, by simp only [upd_get, ↓reduceIte, Nat.reduceEqDiff], o4, by simp [hsl], hds.app (Dg.one (by omega) (by unfold B; omega)), .inr rfl, by have := hst 1; rwa [Int.mul_one] at this⟩
      · simp (disch := omega) only [Try.f116, Option.getD_some, atC, es_seq, es_region, es_draw, d0, es_cond, es_block, es_skip, ops_nil, ops_cons, opsV_nil, opsV_cons, st_move, st_assign, sy_len uL, sy_addr eL, sy_load aI, sy_store zI, sy_bin, binS_lss, binS_add, binS_sub, bindO_some, bindF_some, bindX_normal, blkX_normal, condX_true, condX_false, iteB_true, iteB_false, ev_tmp, ev_const, putA, upd_at, Option.map_some, ↓reduceIte, Nat.reduceEqDiff, Int.toNat_natCast, decide_true, decide_false, ↓bindO_some, ↓bindF_some, ↓bindX_normal, ↓condX_true, ↓condX_false, ↓iteB_true, ↓iteB_false, reflV_load, reflV_move, reflV_bin, reflV_addr, reflV_store, vEq_vi, h0, h1, h5, h8, h9, hlt, a1, l1, e1, s2, hb2.lenI, c2, l2, hb2.addrI, hb2.loadI, e4, s3, l3, c3, e3]
        exact ⟨_, _, rfl, by simp only [upd_get, ↓reduceIte, Nat.reduceEqDiff, h0], by simp only [upd_get, ↓reduceIte, Nat.reduceEqDiff, h1], by simp only [upd_get, ↓reduceIte, Nat.reduceEqDiff, h8], by simp only [upd_get, ↓reduceIte], (old.trans old2).trans old3, wf3, _, 0, by simp only [upd_get, ↓reduceIte, Nat.reduceEqDiff], o3, by simp [hsl], hds.app (Dg.one (by omega) (by unfold B; omega)), .inl rfl, by have := hst 0; rwa [Int.mul_zero, Int.add_zero] at this⟩
    · have hz : (nf y).getD i 0 = 0 := by rw [List.getD_eq_getElem?_getD, List.getElem?_eq_none (by omega)]; rfl
      rw [hz, Int.sub_zero] at tail e5
      obtain ⟨_, H4, s4, o4, wf4, old4⟩ := tail H2 o2 wf2 (old.trans old2)
      rw [hz] at hst
      by_cases c3 : (nf x).getD i 0 - b < 0
      · simp (disch := omega) only [Try.f116, Option.getD_some, atC, es_seq, es_region, es_cond, es_block, es_skip, ops_nil, ops_cons, st_move, st_assign, sy_len uL, sy_addr eL, sy_load aI, sy_store zI, sy_bin, binS_lss, binS_add, binS_sub, bindO_some, bindF_some, bindX_normal, blkX_normal, condX_true, condX_false, ev_tmp, ev_const, putA, upd_at, Option.map_some, ↓reduceIte, Nat.reduceEqDiff, decide_true, decide_false, ↓bindO_some, ↓bindF_some, ↓bindX_normal, ↓condX_true, ↓condX_false, h0, h1, h5, h8, h9, hlt, a1, l1, e1, s2, hb2.lenI, c2, l2, c3, e5, s4, e3]
        exact ⟨_, _, rfl, by simp only [upd_get, ↓reduceIte, Nat.reduceEqDiff, h0], by simp only [upd_get, ↓reduceIte, Nat.reduceEqDiff, h1], by simp only [upd_get, ↓reduceIte, Nat.reduceEqDiff, h8], by simp only [upd_get, ↓reduceIte], old4, wf4, _, 1, by simp only [upd_get, ↓reduceIte, Nat.reduceEqDiff], o4, by simp [hsl], hds.app (Dg.one (by omega) (by unfold B; omega)), .inr rfl, by have := hst 1; rwa [Int.mul_one, Int.sub_zero] at this⟩
      · simp (disch := omega) only [Try.f116, Option.getD_some, atC, es_seq, es_region, es_cond, es_block, es_skip, ops_nil, ops_cons, st_move, st_assign, sy_len uL, sy_addr eL, sy_load aI, sy_store zI, sy_bin, binS_lss, binS_add, binS_sub, bindO_some, bindF_some, bindX_normal, blkX_normal, condX_true, condX_false, ev_tmp, ev_const, putA, upd_at, Option.map_some, ↓reduceIte, Nat.reduceEqDiff, decide_true, decide_false, ↓bindO_some, ↓bindF_some, ↓bindX_normal, ↓condX_true, ↓condX_false, h0, h1, h5, h8, h9, hlt, a1, l1, e1, s2, hb2.lenI, c2, l2, c3, e3]
        exact ⟨_, _, rfl, by simp only [upd_get, ↓reduceIte, Nat.reduceEqDiff, h0], by simp only [upd_get, ↓reduceIte, Nat.reduceEqDiff, h1], by simp only [upd_get, ↓reduceIte, Nat.reduceEqDiff, h8], by simp only [upd_get, ↓reduceIte], old.trans old2, wf2, _, 0, by simp only [upd_get, ↓reduceIte, Nat.reduceEqDiff], o2, by simp [hsl], hds.app (Dg.one (by omega) (by unfold B; omega)), .inl rfl, by have := hst 0; rwa [Int.mul_zero, Int.add_zero, Int.sub_zero] at this⟩
  · intro a H' ⟨h0, h1, h8, h9, old, hw, sz, b, h5, ho, hsl, hds, hbb, hval⟩
    rw [show lesA = atC [1, 1, 0, 1, 0, 0] ((Try.f116.body).getD .skip) from rfl]
    simp (disch := omega) only [Try.f116, Option.getD_some, atC, es_seq, es_region, es_cond, es_exit, ops_nil, ops_cons, sy_bin, binS_lss, bindO_some, bindF_some, bindX_normal, bindX_exit, condX_false, ev_tmp, putA, upd_at, ↓reduceIte, decide_false, ↓bindO_some, ↓bindF_some, ↓bindX_normal, ↓bindX_exit, ↓condX_false, h8, h9, Int.lt_irrefl]
    have e0 : cpl (nf x) sz (nf x).length = sz := by unfold cpl; rw [List.drop_length, List.append_nil]
    rw [e0] at ho
    exact ⟨_, _, _, rfl, by simp, rfl, by simp only [upd_get, ↓reduceIte, Nat.reduceEqDiff, h0], old, hw, sz, b, ho, hsl, hds, hbb, by rw [hval, List.take_length, nf_val]⟩
theorem les_run {B0 : Nat} {H : Heap} {va vb : Value} {x y : Int} (ha : O B0 H va (ints (nf x))) (hb : ∀ H', Old B0 H H' → R H' vb (ints (nf y))) (y0 : 0 ≤ y) (hxy : y ≤ x) (hw : WF H) (lx : (nf x).length ≤ 900) (n : Nat) (hn : 2002 ≤ n) :
    ∃ v' H', evB Try.prog noC n (.func (.func 116) #[] #[]) [va, vb] H = some (v', H') ∧ RO B0 H' v' (ints (nf (x - y))) ∧ Old B0 H H' ∧ WF H' := by
  refine run_of (F := 2001) (Q := fun r => ∃ v' H', r = some (v', H') ∧ RO B0 H' v' (ints (nf (x - y))) ∧ Old B0 H H' ∧ WF H') (fun n hn => ?_) n hn
  rw [body_runS Try.func116 rfl (ok_fn (by rfl) Try.func116 rfl) (Nat.le_of_ble_eq_true rfl) (D := D0) (by kernel_rfl)]
  have key := fun (A : Fr) => les_loop ha hb (by omega) y0 hw lx (evB Try.prog noC n) n Try.f116.ntmps (a := A) (k := n) (by omega)
  rw [show lesA = atC [1, 1, 0, 1, 0, 0] ((Try.f116.body).getD .skip) from rfl] at key
  simp only [Try.f116, Option.getD_some, atC] at key
  have hla := ha.R.lenI
  simp (disch := omega) only [Try.f116, es_seq, es_region, es_block, es_loop, es_ret, ops_nil, ops_cons, st_move, st_assign, st_fun, sy_len uL, bindO_some, bindF_some, bindX_normal, ev_tmp, ev_const, ev_func, putA, upd_at, Option.map_some, ↓reduceIte, Nat.reduceEqDiff, frOf_0, List.map_cons, List.map_nil, ↓bindO_some, ↓bindF_some, ↓bindX_normal, hla]
  generalize hA : upd _ 9 _ = A
  obtain ⟨r, a', H', e, hr, h0, old, wf, sz, b, ho, hsl, hds, hbb, hval⟩ := key A (by subst hA; rfl) (by subst hA; rfl) (by subst hA; rfl) (by subst hA; rfl) (by subst hA; rfl)
  subst hr
  rw [e]
  obtain ⟨v', s1, r1⟩ := trimmed_run ho.RO (by omega) n (by omega)
  simp (disch := omega) only [bindO_some, bindF_some, bindX_normal, blkX_exit, upd_at, Option.map_some, ↓reduceIte, ↓bindO_some, ↓bindF_some, ↓bindX_normal, fin_r, res_nil, res_tmp, pack_1, h0, s1, r1.R.scal]
  refine ⟨_, _, rfl, ?_, old, wf⟩
  rw [List.take_of_length_le (nf_len_mono y0 hxy), nf_val] at hval
  have hv := hds.val
  have hp := pow_pos (nf x).length
  rw [hsl] at hv
  have hb0 : b = 0 := by
    rcases hbb with h | h
    · exact h
    · subst h; omega
  subst hb0
  rw [Int.zero_mul, Int.add_zero] at hval
  rw [← nf_of_digs hds hval]
  exact r1
noncomputable def pluA : Code := atC [1, 0, 1, 0, 1, 1, 1, 1, 0, 1, 0, 0] ((Try.f84.body).getD .skip)
theorem plu_loop {B0 : Nat} {H : Heap} {vl vs vo p2 p4 : Value} {u w : Int} (hB : B0 ≤ H.length) (hlg : ∀ H', Old B0 H H' → R H' vl (ints (nf u))) (hsh : ∀ H', Old B0 H H' → R H' vs (ints (nf w))) (u0 : 0 ≤ u) (w0 : 0 ≤ w) (hlw : (nf w).length ≤ (nf u).length) (hw : WF H) (lu : (nf u).length ≤ 900) (ho : O B0 H vo (ints [])) (call : CallF) (m nt : Nat) {a : Fr} {k : Nat} (hk : (nf u).length < k)
    (h2 : a 2 = p2) (h4 : a 4 = p4) (h6 : a 6 = vs) (h7 : a 7 = vo) (h8 : a 8 = vi 0) (h31 : a 31 = vl) (h32 : a 32 = vi (nf u).length) (h33 : a 33 = vi (0 : Nat)) :
    ∃ r a' H', loopN (evT Try.prog call m nt none D1 pluA) k a H = some (r, a', H') ∧ r = .exit 0 ∧ a' 2 = p2 ∧ a' 4 = p4 ∧ Old B0 H H' ∧ WF H' ∧ ∃ vo out c, a' 7 = vo ∧ a' 8 = vi c ∧ O B0 H' vo (ints out) ∧ out.length = (nf u).length ∧ Dg out ∧ 0 ≤ c ∧ c ≤ 1 ∧ val out + B ^ out.length * c = u + w := by
  refine loop_up (nf u).length (fun i a H' => a 2 = p2 ∧ a 4 = p4 ∧ a 6 = vs ∧ a 31 = vl ∧ a 32 = vi (nf u).length ∧ a 33 = vi i ∧ Old B0 H H' ∧ WF H' ∧ ∃ vo out c, a 7 = vo ∧ a 8 = vi c ∧ O B0 H' vo (ints out) ∧ out.length = i ∧ Dg out ∧ 0 ≤ c ∧ c ≤ 1 ∧ val out + B ^ i * c = val ((nf u).take i) + val ((nf w).take i)) _ ?_ ?_ hk
    ⟨h2, h4, h6, h31, h32, h33, Old.refl _ _, hw, vo, [], 0, h7, h8, ho, rfl, Dg.nil, by omega, by omega, by simp [val]⟩
  · intro i a H' hi ⟨h2, h4, h6, h31, h32, h33, old, hw, vo, out, c, h7, h8, ho, hol, hd, c0, c1, hval⟩
    left
    rw [show pluA = atC [1, 0, 1, 0, 1, 1, 1, 1, 0, 1, 0, 0] ((Try.f84.body).getD .skip) from rfl]
    have hx := (nf_dg u0).getD i
    have hy := (nf_dg w0).getD i
    have hrl := hlg H' old
    have hrs := hsh H' old
    have hlt : (i : Int) < (nf u).length := by omega
    have e1 : IntKind.i64.wrap ((nf u).getD i 0 + c) = (nf u).getD i 0 + c := wr64 (by omega) (by omega)
    have e3 : IntKind.i64.wrap ((i : Int) + 1) = ((i + 1 : Nat) : Int) := by rw [wr64 (by omega) (by omega)]; omega
    have hst := plus_step (x := (nf u).getD i 0) (y := (nf w).getD i 0) hol hval
    rw [← val_take_succ, ← val_take_succ] at hst
    by_cases c2 : (i : Int) < (nf w).length
    · have e2 : IntKind.i64.wrap ((nf u).getD i 0 + c + (nf w).getD i 0) = (nf u).getD i 0 + c + (nf w).getD i 0 := wr64 (by omega) (by omega)
      have e4 : ((nf u).getD i 0 + c + (nf w).getD i 0).tdiv 100000000 = ((nf u).getD i 0 + c + (nf w).getD i 0) / 100000000 := tdiv_pos (by omega) _
      have e5 : ((nf u).getD i 0 + c + (nf w).getD i 0).tmod 100000000 = ((nf u).getD i 0 + c + (nf w).getD i 0) % 100000000 := tmod_pos (by omega) _
      have e6 : IntKind.i64.wrap (((nf u).getD i 0 + c + (nf w).getD i 0) / 100000000) = ((nf u).getD i 0 + c + (nf w).getD i 0) / 100000000 := wr64 (by omega) (by omega)
      obtain ⟨v2, H2, s2, o2, old2, wf2⟩ := ho.pushI hw (Nat.le_trans hB old.1) (by unfold maxA; omega) (((nf u).getD i 0 + c + (nf w).getD i 0) % 100000000)
      simp (disch := omega) only [Try.f84, Option.getD_some, atC, es_seq, es_region, es_cond, es_block, es_skip, ops_nil, ops_cons, st_move, st_assign, sy_len uL, sy_addr eL, sy_load aI, sy_bin, sy_append eL pI, sy_build1 eL oI, binS_lss, binS_add, binS_quo, binS_rem, bindO_some, bindF_some, bindX_normal, blkX_normal, condX_true, ev_tmp, ev_const, putA, upd_at, Option.map_some, ↓reduceIte, Nat.reduceEqDiff, Int.toNat_natCast, decide_true, ↓bindO_some, ↓bindF_some, ↓bindX_normal, ↓condX_true, scal_vi, h6, h7, h8, h31, h32, h33, hlt, hrl.addrI, hrl.loadI, e1, hrs.lenI, c2, hrs.addrI, hrs.loadI, e2, e4, e5, e6, s2, e3]
      exact ⟨_, _, rfl, by simp only [upd_get, ↓reduceIte, Nat.reduceEqDiff, h2], by simp only [upd_get, ↓reduceIte, Nat.reduceEqDiff, h4], by simp only [upd_get, ↓reduceIte, Nat.reduceEqDiff, h6], by simp only [upd_get, ↓reduceIte, Nat.reduceEqDiff, h31], by simp only [upd_get, ↓reduceIte, Nat.reduceEqDiff, h32], by simp only [upd_get, ↓reduceIte], old.trans old2, wf2, v2, _, _, by simp only [upd_get, ↓reduceIte, Nat.reduceEqDiff], by simp only [upd_get, ↓reduceIte, Nat.reduceEqDiff], o2, by simp [hol], hd.app (Dg.one (by omega) (by unfold B; omega)), by omega, by omega, hst⟩
    · have hz : (nf w).getD i 0 = 0 := by rw [List.getD_eq_getElem?_getD, List.getElem?_eq_none (by omega)]; rfl
      rw [hz, Int.add_zero] at hst
      have e4 : ((nf u).getD i 0 + c).tdiv 100000000 = ((nf u).getD i 0 + c) / 100000000 := tdiv_pos (by omega) _
      have e5 : ((nf u).getD i 0 + c).tmod 100000000 = ((nf u).getD i 0 + c) % 100000000 := tmod_pos (by omega) _
      have e6 : IntKind.i64.wrap (((nf u).getD i 0 + c) / 100000000) = ((nf u).getD i 0 + c) / 100000000 := wr64 (by omega) (by omega)
      obtain ⟨v2, H2, s2, o2, old2, wf2⟩ := ho.pushI hw (Nat.le_trans hB old.1) (by unfold maxA; omega) (((nf u).getD i 0 + c) % 100000000)
      simp (disch := omega) only [Try.f84, Option.getD_some, atC, es_seq, es_region, es_cond, es_block, es_skip, ops_nil, ops_cons, st_move, st_assign, sy_len uL, sy_addr eL, sy_load aI, sy_bin, sy_append eL pI, sy_build1 eL oI, binS_lss, binS_add, binS_quo, binS_rem, bindO_some, bindF_some, bindX_normal, blkX_normal, condX_true, condX_false, ev_tmp, ev_const, putA, upd_at, Option.map_some, ↓reduceIte, Nat.reduceEqDiff, Int.toNat_natCast, decide_true, decide_false, ↓bindO_some, ↓bindF_some, ↓bindX_normal, ↓condX_true, ↓condX_false, scal_vi, h6, h7, h8, h31, h32, h33, hlt, hrl.addrI, hrl.loadI, e1, hrs.lenI, c2, e4, e5, e6, s2, e3]
      exact ⟨_, _, rfl, by simp only [upd_get, ↓reduceIte, Nat.reduceEqDiff, h2], by simp only [upd_get, ↓reduceIte, Nat.reduceEqDiff, h4], by simp only [upd_get, ↓reduceIte, Nat.reduceEqDiff, h6], by simp only [upd_get, ↓reduceIte, Nat.reduceEqDiff, h31], by simp only [upd_get, ↓reduceIte, Nat.reduceEqDiff, h32], by simp only [upd_get, ↓reduceIte], old.trans old2, wf2, v2, _, _, by simp only [upd_get, ↓reduceIte, Nat.reduceEqDiff], by simp only [upd_get, ↓reduceIte, Nat.reduceEqDiff], o2, by simp [hol], hd.app (Dg.one (by omega) (by unfold B; omega)), by omega, by omega, hst⟩
  · intro a H' ⟨h2, h4, h6, h31, h32, h33, old, hw, vo, out, c, h7, h8, ho, hol, hd, c0, c1, hval⟩
    rw [show pluA = atC [1, 0, 1, 0, 1, 1, 1, 1, 0, 1, 0, 0] ((Try.f84.body).getD .skip) from rfl]
    simp (disch := omega) only [Try.f84, Option.getD_some, atC, es_seq, es_region, es_cond, es_exit, ops_nil, ops_cons, sy_bin, binS_lss, bindO_some, bindF_some, bindX_normal, bindX_exit, condX_false, ev_tmp, putA, upd_at, ↓reduceIte, decide_false, ↓bindO_some, ↓bindF_some, ↓bindX_normal, ↓bindX_exit, ↓condX_false, h32, h33, Int.lt_irrefl]
    exact ⟨_, _, _, rfl, by simp, rfl, by simp only [upd_get, ↓reduceIte, Nat.reduceEqDiff, h2], by simp only [upd_get, ↓reduceIte, Nat.reduceEqDiff, h4], old, hw, vo, out, c, by simp only [upd_get, ↓reduceIte, Nat.reduceEqDiff, h7], by simp only [upd_get, ↓reduceIte, Nat.reduceEqDiff, h8], ho, hol, hd, c0, c1, by rw [hol, hval, List.take_length, List.take_of_length_le hlw, nf_val, nf_val]⟩
/-- What the sum's digits are behind the loop. -/
theorem plu_fin {out : List Int} {c u w : Int} (hd : Dg out) (hol : out.length = (nf u).length) (u0 : 0 ≤ u) (w0 : 0 ≤ w) (hlw : (nf w).length ≤ (nf u).length) (c0 : 0 ≤ c) (c1 : c ≤ 1) (hval : val out + B ^ out.length * c = u + w) :
    (c = 0 → out = nf (u + w)) ∧ (c = 1 → out ++ [1] = nf (u + w)) := by
  refine ⟨fun h => ?_, fun h => ?_⟩
  · subst h
    rw [Int.mul_zero, Int.add_zero] at hval
    rw [← hval]
    refine nf_of_big hd ?_
    by_cases hu : u = 0
    · left
      subst hu
      rw [nf_zero] at hol
      exact List.eq_nil_of_length_eq_zero hol
    · right
      rw [hval, hol]
      have := nf_ge (x := u) (by omega)
      omega
  · subst h
    rw [← hval, Int.mul_one, ← Int.mul_one (B ^ out.length), ← val_snoc]
    refine nf_of_big (hd.app (Dg.one (by omega) (by unfold B; omega))) (.inr ?_)
    rw [List.length_append, List.length_singleton, Nat.add_sub_cancel, val_snoc]
    have := hd.val
    omega
theorem plu_r2 {H : Heap} {px py vx vy : Value} (call : CallF) (k nt : Nat) (rd : Option Nat) {a : Fr} {qx qy : Value} (h2 : a 2 = px) (h3 : a 3 = py) (fx : faddrS 1 px = some qx) (fy : faddrS 1 py = some qy) (lx : loadS qx H = some vx) (ly : loadS qy H = some vy) (rx : vEq vx vx = true) (ry : vEq vy vy = true) :
    ∃ a' H', evT Try.prog call k nt rd D1 (atC [1, 0, 1, 0, 0] ((Try.f84.body).getD .skip)) a H = some (.normal, a', H') ∧ H' = H ∧ a' 5 = vx ∧ a' 6 = vy ∧ a' 2 = px ∧ a' 3 = py ∧ a' 4 = a 4 := by
  simp only [Try.f84, Option.getD_some, atC]
  refine et_from (fun a' H' => H' = H ∧ a' 5 = vx ∧ a' 6 = vy ∧ a' 2 = px ∧ a' 3 = py ∧ a' 4 = a 4) ?_
  simp (disch := omega) only [st_assign, bindO_some, ev_tmp, putA, upd_at, Option.map_some, ↓reduceIte, Nat.reduceEqDiff, ↓bindO_some, sy_load aL, sy_faddr fW1, opsW_nil, opsW_cons, clsW_read, clsW_pure, ↓clsW_read, ↓clsW_pure, cls_assign, cls_load, cls_faddr, h2, h3, fx, fy, lx, ly]
  refine ⟨_, rfl, ?_, rfl, ?_⟩
  · intro G hG r hr
    simp only [List.mem_cons, List.not_mem_nil, or_false] at hG hr
    subst hG
    rcases hr with rfl | rfl
    all_goals simp only [still_ld aL, ev_tmp, upd_at, ↓reduceIte, lx, ly, rx, ry]
  · simp only [upd_get, ↓reduceIte, Nat.reduceEqDiff, h2, h3, and_self]
theorem plu_r23 {H H4 H5 H6 : Heap} {px py p4 vx vy c d : Value} {nb : Bool} (call : CallF) (k nt : Nat) (rd : Option Nat) {a : Fr} {q0 q1 qy : Value} (h2 : a 2 = px) (h3 : a 3 = py) (h4 : a 4 = p4) (f0 : faddrS 0 px = some q0) (f1 : faddrS 1 px = some q1) (fy : faddrS 1 py = some qy)
    (l0 : ∀ G, G = H ∨ G = H4 ∨ G = H5 ∨ G = H6 → loadS q0 G = some (.bool nb)) (l1 : ∀ G, G = H ∨ G = H4 ∨ G = H5 ∨ G = H6 → loadS q1 G = some vx) (ly : ∀ G, G = H ∨ G = H4 ∨ G = H5 ∨ G = H6 → loadS qy G = some vy) (rx : vEq vx vx = true) (ry : vEq vy vy = true)
    (s1 : call (.func (.func 61) #[] #[]) [vx] H = some (c, H4)) (s2 : call (.func (.func 116) #[] #[]) [c, vy] H4 = some (d, H5)) (sd : Abs.scal d = some [d]) (s3 : storeN 2 p4 (.agg #[.bool nb, d]) H5 = some H6) :
    ∃ a' H', evT Try.prog call k nt rd D1 (atC [1, 1, 0, 1, 0, 1, 1, 1, 0, 0] ((Try.f84.body).getD .skip)) a H = some (.normal, a', H') ∧ H' = H6 ∧ a' 4 = p4 := by
  simp only [Try.f84, Option.getD_some, atC]
  refine et_from (fun a' H' => H' = H6 ∧ a' 4 = p4) ?_
  have e0 := l0 H (.inl rfl)
  have e1 := l1 H (.inl rfl)
  have e2 := ly H4 (.inr (.inl rfl))
  simp (disch := omega) only [st_fun, bindO_some, ev_tmp, ev_func, putA, upd_at, Option.map_some, ↓reduceIte, Nat.reduceEqDiff, List.map_cons, List.map_nil, ↓bindO_some, sy_load aL, sy_load aB, sy_faddr fW0, sy_faddr fW1, sy_storeN zW, sy_build, opsW_nil, opsW_cons, clsW_eff, clsW_read, clsW_pure, ↓clsW_eff, ↓clsW_read, ↓clsW_pure, cls_load, cls_callF, cls_store, cls_faddr, cls_build, h2, h3, h4, f0, f1, fy, e0, e1, s1, e2, s2, bW2 nb d sd, s3]
  refine ⟨_, rfl, ?_, rfl, ?_⟩
  · intro G hG r hr
    simp only [List.mem_cons, List.not_mem_nil, or_false] at hG hr
    have hG' : G = H ∨ G = H4 ∨ G = H5 ∨ G = H6 := by
      rcases hG with h | h | h | h
      · exact .inr (.inr (.inr h))
      · exact .inr (.inr (.inl h))
      · exact .inr (.inl h)
      · exact .inl h
    have e0 := l0 G hG'
    have e1 := l1 G hG'
    have e2 := ly G hG'
    rcases hr with rfl | rfl | rfl
    all_goals simp only [still_ld aB, still_ld aL, ev_tmp, upd_at, ↓reduceIte, vEq_bool, e0, e1, e2, rx, ry]
  · simp only [upd_get, ↓reduceIte, Nat.reduceEqDiff, h4]
theorem plu_r24 {H H4 H5 H6 : Heap} {px py p4 vx vy c d : Value} {nb : Bool} (call : CallF) (k nt : Nat) (rd : Option Nat) {a : Fr} {q0 q1 qy : Value} (h2 : a 3 = px) (h3 : a 2 = py) (h4 : a 4 = p4) (f0 : faddrS 0 px = some q0) (f1 : faddrS 1 px = some q1) (fy : faddrS 1 py = some qy)
    (l0 : ∀ G, G = H ∨ G = H4 ∨ G = H5 ∨ G = H6 → loadS q0 G = some (.bool nb)) (l1 : ∀ G, G = H ∨ G = H4 ∨ G = H5 ∨ G = H6 → loadS q1 G = some vx) (ly : ∀ G, G = H ∨ G = H4 ∨ G = H5 ∨ G = H6 → loadS qy G = some vy) (rx : vEq vx vx = true) (ry : vEq vy vy = true)
    (s1 : call (.func (.func 61) #[] #[]) [vx] H = some (c, H4)) (s2 : call (.func (.func 116) #[] #[]) [c, vy] H4 = some (d, H5)) (sd : Abs.scal d = some [d]) (s3 : storeN 2 p4 (.agg #[.bool nb, d]) H5 = some H6) :
    ∃ a' H', evT Try.prog call k nt rd D1 (atC [1, 1, 1, 0] ((Try.f84.body).getD .skip)) a H = some (.normal, a', H') ∧ H' = H6 ∧ a' 4 = p4 := by
  simp only [Try.f84, Option.getD_some, atC]
  refine et_from (fun a' H' => H' = H6 ∧ a' 4 = p4) ?_
  have e0 := l0 H (.inl rfl)
  have e1 := l1 H (.inl rfl)
  have e2 := ly H4 (.inr (.inl rfl))
  simp (disch := omega) only [st_fun, bindO_some, ev_tmp, ev_func, putA, upd_at, Option.map_some, ↓reduceIte, Nat.reduceEqDiff, List.map_cons, List.map_nil, ↓bindO_some, sy_load aL, sy_load aB, sy_faddr fW0, sy_faddr fW1, sy_storeN zW, sy_build, opsW_nil, opsW_cons, clsW_eff, clsW_read, clsW_pure, ↓clsW_eff, ↓clsW_read, ↓clsW_pure, cls_load, cls_callF, cls_store, cls_faddr, cls_build, h2, h3, h4, f0, f1, fy, e0, e1, s1, e2, s2, bW2 nb d sd, s3]
  refine ⟨_, rfl, ?_, rfl, ?_⟩
  · intro G hG r hr
    simp only [List.mem_cons, List.not_mem_nil, or_false] at hG hr
    have hG' : G = H ∨ G = H4 ∨ G = H5 ∨ G = H6 := by
      rcases hG with h | h | h | h
      · exact .inr (.inr (.inr h))
      · exact .inr (.inr (.inl h))
      · exact .inr (.inl h)
      · exact .inl h
    have e0 := l0 G hG'
    have e1 := l1 G hG'
    have e2 := ly G hG'
    rcases hr with rfl | rfl | rfl
    all_goals simp only [still_ld aB, still_ld aL, ev_tmp, upd_at, ↓reduceIte, vEq_bool, e0, e1, e2, rx, ry]
  · simp only [upd_get, ↓reduceIte, Nat.reduceEqDiff, h4]
end Go.Proofs.Ytmmgdgmjkhcfaaa
