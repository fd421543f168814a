/- Of the law: texts of its proof, joined (part 6). -/
import Derived.Test.YtmmgdgmjkhcfaaaQch5
set_option linter.all false
namespace Go.Proofs.Ytmmgdgmjkhcfaaa
open Go Go.Abs Go.Num
set_option maxRecDepth 10000
attribute [local congr] bindO_congr bindF_congr bindX_congr condX_congr iteB_congr binS_congr pickS_congr eqB_congr nilS_congr clsW_congr
theorem cpl_reset {l z : List Int} {i : Nat} {u w : Int} (hz : z.length = i) : (cpl l (z ++ [u]) (i + 1)).set i w = cpl l (z ++ [w]) (i + 1) := by
  unfold cpl
  rw [List.append_assoc, List.append_assoc, List.set_append_right _ _ (by omega), hz, Nat.sub_self]; rfl
theorem cpl_last {l z : List Int} {i : Nat} {u : Int} (hz : z.length = i) : (cpl l (z ++ [u]) (i + 1)).getD i 0 = u := by
  unfold cpl
  rw [List.getD_eq_getElem?_getD, List.append_assoc, List.getElem?_append_right (by omega), hz, Nat.sub_self]
  rfl
noncomputable def lesA : Code := atC [1, 1, 0, 1, 0, 0] ((Try.f116.body).getD .skip)
theorem les_loop {B0 : Nat} {H : Heap} {va vb : Value} {x y : Int} (ha : O B0 H va (ints (nf x))) (hb : ∀ H', Old B0 H H' → R H' vb (ints (nf y))) (x0 : 0 ≤ x) (y0 : 0 ≤ y) (hw : WF H) (lx : (nf x).length ≤ 900) (call : CallF) (m nt : Nat) {a : Fr} {k : Nat} (hk : (nf x).length < k)
    (h0 : a 0 = va) (h1 : a 1 = vb) (h5 : a 5 = vi 0) (h8 : a 8 = vi (nf x).length) (h9 : a 9 = vi (0 : Nat)) :
    ∃ r a' H', loopN (evS Try.prog call m nt none lesA) k a H = some (r, a', H') ∧ r = .exit 0 ∧ a' 0 = va ∧ Old B0 H H' ∧ WF H' ∧ ∃ sz b, O B0 H' va (ints sz) ∧ sz.length = (nf x).length ∧ Dg sz ∧ (b = 0 ∨ b = 1) ∧ val sz = x - val ((nf y).take (nf x).length) + b * B ^ (nf x).length := by
  refine loop_up (nf x).length (fun i a H' => a 0 = va ∧ a 1 = vb ∧ a 8 = vi (nf x).length ∧ a 9 = vi i ∧ Old B0 H H' ∧ WF H' ∧ ∃ sz b, a 5 = vi b ∧ O B0 H' va (ints (cpl (nf x) sz i)) ∧ sz.length = i ∧ Dg sz ∧ (b = 0 ∨ b = 1) ∧ val sz = val ((nf x).take i) - val ((nf y).take i) + b * B ^ i) _ ?_ ?_ hk
    ⟨h0, h1, h8, h9, Old.refl _ _, hw, [], 0, h5, by simpa [cpl] using ha, rfl, Dg.nil, .inl rfl, by simp [val]⟩
  · intro i a H' hi ⟨h0, h1, h8, h9, old, hw, sz, b, h5, ho, hsl, hds, hbb, hval⟩
    left
    rw [show lesA = atC [1, 1, 0, 1, 0, 0] ((Try.f116.body).getD .skip) from rfl]
    have hx := (nf_dg x0).getD i
    have hy := (nf_dg y0).getD i
    have hcl := cpl_len hsl (by omega : i ≤ (nf x).length)
    have hcg := cpl_get hsl hi
    have hlt : (i : Int) < (nf x).length := by omega
    have hr := ho.R
    have a1 : addrS 1 va (vi i) = some (pt va i) := by have := hr.addrI (i := (i : Int)) (by omega) (by omega); simpa using this
    have l1 : loadS (pt va i) H' = some (vi ((nf x).getD i 0)) := by rw [hr.loadI (by omega), hcg]
    have e1 : IntKind.i64.wrap ((nf x).getD i 0 - b) = (nf x).getD i 0 - b := wr64 (by omega) (by omega)
    have e3 : IntKind.i64.wrap ((i : Int) + 1) = ((i + 1 : Nat) : Int) := by rw [wr64 (by omega) (by omega)]; omega
    obtain ⟨H2, s2, o2, old2, wf2⟩ := ho.setI hw (i := i) (by omega) ((nf x).getD i 0 - b)
    rw [cpl_set hsl hi] at o2
    have hcl2 : ∀ u : Int, (cpl (nf x) (sz ++ [u]) (i + 1)).length = (nf x).length := fun u => cpl_len (by simp [hsl]) (by omega)
    have l2 : loadS (pt va i) H2 = some (vi ((nf x).getD i 0 - b)) := by rw [o2.R.loadI (by rw [hcl2]; exact hi), cpl_last hsl]
    have hb2 := hb H2 (old.trans old2)
    have hst := fun (b2 : Int) => less_step (x := (nf x).getD i 0) (y := (nf y).getD i 0) (b2 := b2) hsl hval
    rw [← val_take_succ, ← val_take_succ] at hst
    -- what stands behind the second difference
    have tail : ∀ (H3 : Heap), O B0 H3 va (ints (cpl (nf x) (sz ++ [(nf x).getD i 0 - b - (nf y).getD i 0]) (i + 1))) → WF H3 → Old B0 H H3 →
        loadS (pt va i) H3 = some (vi ((nf x).getD i 0 - b - (nf y).getD i 0)) ∧ ∃ H4, storeS (pt va i) (vi ((nf x).getD i 0 - b - (nf y).getD i 0 + 100000000)) H3 = some H4 ∧ O B0 H4 va (ints (cpl (nf x) (sz ++ [(nf x).getD i 0 - b - (nf y).getD i 0 + 100000000]) (i + 1))) ∧ WF H4 ∧ Old B0 H H4 := by
      intro H3 o3 wf3 old3
      refine ⟨by rw [o3.R.loadI (by rw [hcl2]; exact hi), cpl_last hsl], ?_⟩
      obtain ⟨H4, s4, o4, old4, wf4⟩ := o3.setI wf3 (i := i) (by rw [hcl2]; exact hi) ((nf x).getD i 0 - b - (nf y).getD i 0 + 100000000)
      rw [cpl_reset hsl] at o4
      exact ⟨H4, s4, o4, wf4, old3.trans old4⟩
    have e4 : IntKind.i64.wrap ((nf x).getD i 0 - b - (nf y).getD i 0) = (nf x).getD i 0 - b - (nf y).getD i 0 := wr64 (by omega) (by omega)
    have e5 : IntKind.i64.wrap ((nf x).getD i 0 - b - (nf y).getD i 0 + 100000000) = (nf x).getD i 0 - b - (nf y).getD i 0 + 100000000 := wr64 (by omega) (by omega)
    by_cases c2 : (i : Int) < (nf y).length
    · obtain ⟨H3, s3, o3, old3, wf3⟩ := o2.setI wf2 (i := i) (by rw [hcl2]; exact hi) ((nf x).getD i 0 - b - (nf y).getD i 0)
      rw [cpl_reset hsl] at o3
      obtain ⟨l3, H4, s4, o4, wf4, old4⟩ := tail H3 o3 wf3 ((old.trans old2).trans old3)
      by_cases c3 : (nf x).getD i 0 - b - (nf y).getD i 0 < 0
      · simp (disch := omega) only [Try.f116, Option.getD_some, atC, es_seq, es_region, es_draw, d0, es_cond, es_block, es_skip, ops_nil, ops_cons, opsV_nil, opsV_cons, st_move, st_assign, sy_len uL, sy_addr eL, sy_load aI, sy_store zI, sy_bin, binS_lss, binS_add, binS_sub, bindO_some, bindF_some, bindX_normal, blkX_normal, condX_true, iteB_true, iteB_false, ev_tmp, ev_const, putA, upd_at, Option.map_some, ↓reduceIte, Nat.reduceEqDiff, Int.toNat_natCast, decide_true, ↓bindO_some, ↓bindF_some, ↓bindX_normal, ↓condX_true, ↓iteB_true, ↓iteB_false, reflV_load, reflV_move, reflV_bin, reflV_addr, reflV_store, vEq_vi, h0, h1, h5, h8, h9, hlt, a1, l1, e1, s2, hb2.lenI, c2, l2, hb2.addrI, hb2.loadI, e4, s3, l3, c3, e5, s4, e3]
        exact ⟨_, _, rfl, by simp only [upd_get, ↓reduceIte, Nat.reduceEqDiff, h0], by simp only [upd_get, ↓reduceIte, Nat.reduceEqDiff, h1], by simp only [upd_get, ↓reduceIte, Nat.reduceEqDiff, h8], by simp only [upd_get, ↓reduceIte], old4, wf4, _, 1, by simp only [upd_get, ↓reduceIte, Nat.reduceEqDiff], o4, by simp [hsl], hds.app (Dg.one (by omega) (by unfold B; omega)), .inr rfl, by have := hst 1; rwa [Int.mul_one] at this⟩
      · simp (disch := omega) only [Try.f116, Option.getD_some, atC, es_seq, es_region, es_draw, d0, es_cond, es_block, es_skip, ops_nil, ops_cons, opsV_nil, opsV_cons, st_move, st_assign, sy_len uL, sy_addr eL, sy_load aI, sy_store zI, sy_bin, binS_lss, binS_add, binS_sub, bindO_some, bindF_some, bindX_normal, blkX_normal, condX_true, condX_false, iteB_true, iteB_false, ev_tmp, ev_const, putA, upd_at, Option.map_some, ↓reduceIte, Nat.reduceEqDiff, Int.toNat_natCast, decide_true, decide_false, ↓bindO_some, ↓bindF_some, ↓bindX_normal, ↓condX_true, ↓condX_false, ↓iteB_true, ↓iteB_false, reflV_load, reflV_move, reflV_bin, reflV_addr, reflV_store, vEq_vi, h0, h1, h5, h8, h9, hlt, a1, l1, e1, s2, hb2.lenI, c2, l2, hb2.addrI, hb2.loadI, e4, s3, l3, c3, e3]
        exact ⟨_, _, rfl, by simp only [upd_get, ↓reduceIte, Nat.reduceEqDiff, h0], by simp only [upd_get, ↓reduceIte, Nat.reduceEqDiff, h1], by simp only [upd_get, ↓reduceIte, Nat.reduceEqDiff, h8], by simp only [upd_get, ↓reduceIte], (old.trans old2).trans old3, wf3, _, 0, by simp only [upd_get, ↓reduceIte, Nat.reduceEqDiff], o3, by simp [hsl], hds.app (Dg.one (by omega) (by unfold B; omega)), .inl rfl, by have := hst 0; rwa [Int.mul_zero, Int.add_zero] at this⟩
    · have hz : (nf y).getD i 0 = 0 := by rw [List.getD_eq_getElem?_getD, List.getElem?_eq_none (by omega)]; rfl
      rw [hz, Int.sub_zero] at tail e5
      obtain ⟨_, H4, s4, o4, wf4, old4⟩ := tail H2 o2 wf2 (old.trans old2)
      rw [hz] at hst
      by_cases c3 : (nf x).getD i 0 - b < 0
      · simp (disch := omega) only [Try.f116, Option.getD_some, atC, es_seq, es_region, es_cond, es_block, es_skip, ops_nil, ops_cons, st_move, st_assign, sy_len uL, sy_addr eL, sy_load aI, sy_store zI, sy_bin, binS_lss, binS_add, binS_sub, bindO_some, bindF_some, bindX_normal, blkX_normal, condX_true, condX_false, ev_tmp, ev_const, putA, upd_at, Option.map_some, ↓reduceIte, Nat.reduceEqDiff, decide_true, decide_false, ↓bindO_some, ↓bindF_some, ↓bindX_normal, ↓condX_true, ↓condX_false, h0, h1, h5, h8, h9, hlt, a1, l1, e1, s2, hb2.lenI, c2, l2, c3, e5, s4, e3]
        exact ⟨_, _, rfl, by simp only [upd_get, ↓reduceIte, Nat.reduceEqDiff, h0], by simp only [upd_get, ↓reduceIte, Nat.reduceEqDiff, h1], by simp only [upd_get, ↓reduceIte, Nat.reduceEqDiff, h8], by simp only [upd_get, ↓reduceIte], old4, wf4, _, 1, by simp only [upd_get, ↓reduceIte, Nat.reduceEqDiff], o4, by simp [hsl], hds.app (Dg.one (by omega) (by unfold B; omega)), .inr rfl, by have := hst 1; rwa [Int.mul_one, Int.sub_zero] at this⟩
      · simp (disch := omega) only [Try.f116, Option.getD_some, atC, es_seq, es_region, es_cond, es_block, es_skip, ops_nil, ops_cons, st_move, st_assign, sy_len uL, sy_addr eL, sy_load aI, sy_store zI, sy_bin, binS_lss, binS_add, binS_sub, bindO_some, bindF_some, bindX_normal, blkX_normal, condX_true, condX_false, ev_tmp, ev_const, putA, upd_at, Option.map_some, ↓reduceIte, Nat.reduceEqDiff, decide_true, decide_false, ↓bindO_some, ↓bindF_some, ↓bindX_normal, ↓condX_true, ↓condX_false, h0, h1, h5, h8, h9, hlt, a1, l1, e1, s2, hb2.lenI, c2, l2, c3, e3]
        exact ⟨_, _, rfl, by simp only [upd_get, ↓reduceIte, Nat.reduceEqDiff, h0], by simp only [upd_get, ↓reduceIte, Nat.reduceEqDiff, h1], by simp only [upd_get, ↓reduceIte, Nat.reduceEqDiff, h8], by simp only [upd_get, ↓reduceIte], old.trans old2, wf2, _, 0, by simp only [upd_get, ↓reduceIte, Nat.reduceEqDiff], o2, by simp [hsl], hds.app (Dg.one (by omega) (by unfold B; omega)), .inl rfl, by have := hst 0; rwa [Int.mul_zero, Int.add_zero, Int.sub_zero] at this⟩
  · intro a H' ⟨h0, h1, h8, h9, old, hw, sz, b, h5, ho, hsl, hds, hbb, hval⟩
    rw [show lesA = atC [1, 1, 0, 1, 0, 0] ((Try.f116.body).getD .skip) from rfl]
    simp (disch := omega) only [Try.f116, Option.getD_some, atC, es_seq, es_region, es_cond, es_exit, ops_nil, ops_cons, sy_bin, binS_lss, bindO_some, bindF_some, bindX_normal, bindX_exit, condX_false, ev_tmp, putA, upd_at, ↓reduceIte, decide_false, ↓bindO_some, ↓bindF_some, ↓bindX_normal, ↓bindX_exit, ↓condX_false, h8, h9, Int.lt_irrefl]
    have e0 : cpl (nf x) sz (nf x).length = sz := by unfold cpl; rw [List.drop_length, List.append_nil]
    rw [e0] at ho
    exact ⟨_, _, _, rfl, by simp, rfl, by simp only [upd_get, ↓reduceIte, Nat.reduceEqDiff, h0], old, hw, sz, b, ho, hsl, hds, hbb, by rw [hval, List.take_length, nf_val]⟩
theorem les_run {B0 : Nat} {H : Heap} {va vb : Value} {x y : Int} (ha : O B0 H va (ints (nf x))) (hb : ∀ H', Old B0 H H' → R H' vb (ints (nf y))) (y0 : 0 ≤ y) (hxy : y ≤ x) (hw : WF H) (lx : (nf x).length ≤ 900) (n : Nat) (hn : 2002 ≤ n) :
    ∃ v' H', evB Try.prog noC n (.func (.func 116) #[] #[]) [va, vb] H = some (v', H') ∧ RO B0 H' v' (ints (nf (x - y))) ∧ Old B0 H H' ∧ WF H' := by
  refine run_of (F := 2001) (Q := fun r => ∃ v' H', r = some (v', H') ∧ RO B0 H' v' (ints (nf (x - y))) ∧ Old B0 H H' ∧ WF H') (fun n hn => ?_) n hn
  rw [body_runS Try.func116 rfl (ok_fn (by rfl) Try.func116 rfl) (Nat.le_of_ble_eq_true rfl) (D := D0) (by kernel_rfl)]
  have key := fun (A : Fr) => les_loop ha hb (by omega) y0 hw lx (evB Try.prog noC n) n Try.f116.ntmps (a := A) (k := n) (by omega)
  rw [show lesA = atC [1, 1, 0, 1, 0, 0] ((Try.f116.body).getD .skip) from rfl] at key
  simp only [Try.f116, Option.getD_some, atC] at key
  have hla := ha.R.lenI
  simp (disch := omega) only [Try.f116, es_seq, es_region, es_block, es_loop, es_ret, ops_nil, ops_cons, st_move, st_assign, st_fun, sy_len uL, bindO_some, bindF_some, bindX_normal, ev_tmp, ev_const, ev_func, putA, upd_at, Option.map_some, ↓reduceIte, Nat.reduceEqDiff, frOf_0, List.map_cons, List.map_nil, ↓bindO_some, ↓bindF_some, ↓bindX_normal, hla]
  generalize hA : upd _ 9 _ = A
  obtain ⟨r, a', H', e, hr, h0, old, wf, sz, b, ho, hsl, hds, hbb, hval⟩ := key A (by subst hA; rfl) (by subst hA; rfl) (by subst hA; rfl) (by subst hA; rfl) (by subst hA; rfl)
  subst hr
  rw [e]
  obtain ⟨v', s1, r1⟩ := trimmed_run ho.RO (by omega) n (by omega)
  simp (disch := omega) only [bindO_some, bindF_some, bindX_normal, blkX_exit, upd_at, Option.map_some, ↓reduceIte, ↓bindO_some, ↓bindF_some, ↓bindX_normal, fin_r, res_nil, res_tmp, pack_1, h0, s1, r1.R.scal]
  refine ⟨_, _, rfl, ?_, old, wf⟩
  rw [List.take_of_length_le (nf_len_mono y0 hxy), nf_val] at hval
  have hv := hds.val
  have hp := pow_pos (nf x).length
  rw [hsl] at hv
  have hb0 : b = 0 := by
    rcases hbb with h | h
    · exact h
    · subst h; omega
  subst hb0
  rw [Int.zero_mul, Int.add_zero] at hval
  rw [← nf_of_digs hds hval]
  exact r1
noncomputable def pluA : Code := atC [1, 0, 1, 0, 1, 1, 1, 1, 0, 1, 0, 0] ((Try.f84.body).getD .skip)
theorem plu_loop {B0 : Nat} {H : Heap} {vl vs vo p2 p4 : Value} {u w : Int} (hB : B0 ≤ H.length) (hlg : ∀ H', Old B0 H H' → R H' vl (ints (nf u))) (hsh : ∀ H', Old B0 H H' → R H' vs (ints (nf w))) (u0 : 0 ≤ u) (w0 : 0 ≤ w) (hlw : (nf w).length ≤ (nf u).length) (hw : WF H) (lu : (nf u).length ≤ 900) (ho : O B0 H vo (ints [])) (call : CallF) (m nt : Nat) {a : Fr} {k : Nat} (hk : (nf u).length < k)
    (h2 : a 2 = p2) (h4 : a 4 = p4) (h6 : a 6 = vs) (h7 : a 7 = vo) (h8 : a 8 = vi 0) (h31 : a 31 = vl) (h32 : a 32 = vi (nf u).length) (h33 : a 33 = vi (0 : Nat)) :
    ∃ r a' H', loopN (evT Try.prog call m nt none D1 pluA) k a H = some (r, a', H') ∧ r = .exit 0 ∧ a' 2 = p2 ∧ a' 4 = p4 ∧ Old B0 H H' ∧ WF H' ∧ ∃ vo out c, a' 7 = vo ∧ a' 8 = vi c ∧ O B0 H' vo (ints out) ∧ out.length = (nf u).length ∧ Dg out ∧ 0 ≤ c ∧ c ≤ 1 ∧ val out + B ^ out.length * c = u + w := by
  refine loop_up (nf u).length (fun i a H' => a 2 = p2 ∧ a 4 = p4 ∧ a 6 = vs ∧ a 31 = vl ∧ a 32 = vi (nf u).length ∧ a 33 = vi i ∧ Old B0 H H' ∧ WF H' ∧ ∃ vo out c, a 7 = vo ∧ a 8 = vi c ∧ O B0 H' vo (ints out) ∧ out.length = i ∧ Dg out ∧ 0 ≤ c ∧ c ≤ 1 ∧ val out + B ^ i * c = val ((nf u).take i) + val ((nf w).take i)) _ ?_ ?_ hk
    ⟨h2, h4, h6, h31, h32, h33, Old.refl _ _, hw, vo, [], 0, h7, h8, ho, rfl, Dg.nil, by omega, by omega, by simp [val]⟩
  · intro i a H' hi ⟨h2, h4, h6, h31, h32, h33, old, hw, vo, out, c, h7, h8, ho, hol, hd, c0, c1, hval⟩
    left
    rw [show pluA = atC [1, 0, 1, 0, 1, 1, 1, 1, 0, 1, 0, 0] ((Try.f84.body).getD .skip) from rfl]
    have hx := (nf_dg u0).getD i
    have hy := (nf_dg w0).getD i
    have hrl := hlg H' old
    have hrs := hsh H' old
    have hlt : (i : Int) < (nf u).length := by omega
    have e1 : IntKind.i64.wrap ((nf u).getD i 0 + c) = (nf u).getD i 0 + c := wr64 (by omega) (by omega)
    have e3 : IntKind.i64.wrap ((i : Int) + 1) = ((i + 1 : Nat) : Int) := by rw [wr64 (by omega) (by omega)]; omega
    have hst := plus_step (x := (nf u).getD i 0) (y := (nf w).getD i 0) hol hval
    rw [← val_take_succ, ← val_take_succ] at hst
    by_cases c2 : (i : Int) < (nf w).length
    · have e2 : IntKind.i64.wrap ((nf u).getD i 0 + c + (nf w).getD i 0) = (nf u).getD i 0 + c + (nf w).getD i 0 := wr64 (by omega) (by omega)
      have e4 : ((nf u).getD i 0 + c + (nf w).getD i 0).tdiv 100000000 = ((nf u).getD i 0 + c + (nf w).getD i 0) / 100000000 := tdiv_pos (by omega) _
      have e5 : ((nf u).getD i 0 + c + (nf w).getD i 0).tmod 100000000 = ((nf u).getD i 0 + c + (nf w).getD i 0) % 100000000 := tmod_pos (by omega) _
      have e6 : IntKind.i64.wrap (((nf u).getD i 0 + c + (nf w).getD i 0) / 100000000) = ((nf u).getD i 0 + c + (nf w).getD i 0) / 100000000 := wr64 (by omega) (by omega)
      obtain ⟨v2, H2, s2, o2, old2, wf2⟩ := ho.pushI hw (Nat.le_trans hB old.1) (by unfold maxA; omega) (((nf u).getD i 0 + c + (nf w).getD i 0) % 100000000)
      simp (disch := omega) only [Try.f84, Option.getD_some, atC, es_seq, es_region, es_cond, es_block, es_skip, ops_nil, ops_cons, st_move, st_assign, sy_len uL, sy_addr eL, sy_load aI, sy_bin, sy_append eL pI, sy_build1 eL oI, binS_lss, binS_add, binS_quo, binS_rem, bindO_some, bindF_some, bindX_normal, blkX_normal, condX_true, ev_tmp, ev_const, putA, upd_at, Option.map_some, ↓reduceIte, Nat.reduceEqDiff, Int.toNat_natCast, decide_true, ↓bindO_some, ↓bindF_some, ↓bindX_normal, ↓condX_true, scal_vi, h6, h7, h8, h31, h32, h33, hlt, hrl.addrI, hrl.loadI, e1, hrs.lenI, c2, hrs.addrI, hrs.loadI, e2, e4, e5, e6, s2, e3]
      exact ⟨_, _, rfl, by simp only [upd_get, ↓reduceIte, Nat.reduceEqDiff, h2], by simp only [upd_get, ↓reduceIte, Nat.reduceEqDiff, h4], by simp only [upd_get, ↓reduceIte, Nat.reduceEqDiff, h6], by simp only [upd_get, ↓reduceIte, Nat.reduceEqDiff, h31], by simp only [upd_get, ↓reduceIte, Nat.reduceEqDiff, h32], by simp only [upd_get, ↓reduceIte], old.trans old2, wf2, v2, _, _, by simp only [upd_get, ↓reduceIte, Nat.reduceEqDiff], by simp only [upd_get, ↓reduceIte, Nat.reduceEqDiff], o2, by simp [hol], hd.app (Dg.one (by omega) (by unfold B; omega)), by omega, by omega, hst⟩
    · have hz : (nf w).getD i 0 = 0 := by rw [List.getD_eq_getElem?_getD, List.getElem?_eq_none (by omega)]; rfl
      rw [hz, Int.add_zero] at hst
      have e4 : ((nf u).getD i 0 + c).tdiv 100000000 = ((nf u).getD i 0 + c) / 100000000 := tdiv_pos (by omega) _
      have e5 : ((nf u).getD i 0 + c).tmod 100000000 = ((nf u).getD i 0 + c) % 100000000 := tmod_pos (by omega) _
      have e6 : IntKind.i64.wrap (((nf u).getD i 0 + c) / 100000000) = ((nf u).getD i 0 + c) / 100000000 := wr64 (by omega) (by omega)
      obtain ⟨v2, H2, s2, o2, old2, wf2⟩ := ho.pushI hw (Nat.le_trans hB old.1) (by unfold maxA; omega) (((nf u).getD i 0 + c) % 100000000)
      simp (disch := omega) only [Try.f84, Option.getD_some, atC, es_seq, es_region, es_cond, es_block, es_skip, ops_nil, ops_cons, st_move, st_assign, sy_len uL, sy_addr eL, sy_load aI, sy_bin, sy_append eL pI, sy_build1 eL oI, binS_lss, binS_add, binS_quo, binS_rem, bindO_some, bindF_some, bindX_normal, blkX_normal, condX_true, condX_false, ev_tmp, ev_const, putA, upd_at, Option.map_some, ↓reduceIte, Nat.reduceEqDiff, Int.toNat_natCast, decide_true, decide_false, ↓bindO_some, ↓bindF_some, ↓bindX_normal, ↓condX_true, ↓condX_false, scal_vi, h6, h7, h8, h31, h32, h33, hlt, hrl.addrI, hrl.loadI, e1, hrs.lenI, c2, e4, e5, e6, s2, e3]
      exact ⟨_, _, rfl, by simp only [upd_get, ↓reduceIte, Nat.reduceEqDiff, h2], by simp only [upd_get, ↓reduceIte, Nat.reduceEqDiff, h4], by simp only [upd_get, ↓reduceIte, Nat.reduceEqDiff, h6], by simp only [upd_get, ↓reduceIte, Nat.reduceEqDiff, h31], by simp only [upd_get, ↓reduceIte, Nat.reduceEqDiff, h32], by simp only [upd_get, ↓reduceIte], old.trans old2, wf2, v2, _, _, by simp only [upd_get, ↓reduceIte, Nat.reduceEqDiff], by simp only [upd_get, ↓reduceIte, Nat.reduceEqDiff], o2, by simp [hol], hd.app (Dg.one (by omega) (by unfold B; omega)), by omega, by omega, hst⟩
  · intro a H' ⟨h2, h4, h6, h31, h32, h33, old, hw, vo, out, c, h7, h8, ho, hol, hd, c0, c1, hval⟩
    rw [show pluA = atC [1, 0, 1, 0, 1, 1, 1, 1, 0, 1, 0, 0] ((Try.f84.body).getD .skip) from rfl]
    simp (disch := omega) only [Try.f84, Option.getD_some, atC, es_seq, es_region, es_cond, es_exit, ops_nil, ops_cons, sy_bin, binS_lss, bindO_some, bindF_some, bindX_normal, bindX_exit, condX_false, ev_tmp, putA, upd_at, ↓reduceIte, decide_false, ↓bindO_some, ↓bindF_some, ↓bindX_normal, ↓bindX_exit, ↓condX_false, h32, h33, Int.lt_irrefl]
    exact ⟨_, _, _, rfl, by simp, rfl, by simp only [upd_get, ↓reduceIte, Nat.reduceEqDiff, h2], by simp only [upd_get, ↓reduceIte, Nat.reduceEqDiff, h4], old, hw, vo, out, c, by simp only [upd_get, ↓reduceIte, Nat.reduceEqDiff, h7], by simp only [upd_get, ↓reduceIte, Nat.reduceEqDiff, h8], ho, hol, hd, c0, c1, by rw [hol, hval, List.take_length, List.take_of_length_le hlw, nf_val, nf_val]⟩
theorem plu_fin {out : List Int} {c u w : Int} (hd : Dg out) (hol : out.length = (nf u).length) (u0 : 0 ≤ u) (w0 : 0 ≤ w) (hlw : (nf w).length ≤ (nf u).length) (c0 : 0 ≤ c) (c1 : c ≤ 1) (hval : val out + B ^ out.length * c = u + w) :
    (c = 0 → out = nf (u + w)) ∧ (c = 1 → out ++ [1] = nf (u + w)) := by
  refine ⟨fun h => ?_, fun h => ?_⟩
  · subst h
    rw [Int.mul_zero, Int.add_zero] at hval
    rw [← hval]
    refine nf_of_big hd ?_
    by_cases hu : u = 0
    · left
      subst hu
      rw [nf_zero] at hol
      exact List.eq_nil_of_length_eq_zero hol
    · right
      rw [hval, hol]
      have := nf_ge (x := u) (by omega)
      omega
  · subst h
    rw [← hval, Int.mul_one, ← Int.mul_one (B ^ out.length), ← val_snoc]
    refine nf_of_big (hd.app (Dg.one (by omega) (by unfold B; omega))) (.inr ?_)
    rw [List.length_append, List.length_singleton, Nat.add_sub_cancel, val_snoc]
    have := hd.val
    omega
theorem plu_r2 {H : Heap} {px py vx vy : Value} (call : CallF) (k nt : Nat) (rd : Option Nat) {a : Fr} {qx qy : Value} (h2 : a 2 = px) (h3 : a 3 = py) (fx : faddrS 1 px = some qx) (fy : faddrS 1 py = some qy) (lx : loadS qx H = some vx) (ly : loadS qy H = some vy) (rx : vEq vx vx = true) (ry : vEq vy vy = true) :
    ∃ a' H', evT Try.prog call k nt rd D1 (atC [1, 0, 1, 0, 0] ((Try.f84.body).getD .skip)) a H = some (.normal, a', H') ∧ H' = H ∧ a' 5 = vx ∧ a' 6 = vy ∧ a' 2 = px ∧ a' 3 = py ∧ a' 4 = a 4 := by
  simp only [Try.f84, Option.getD_some, atC]
  refine et_from (fun a' H' => H' = H ∧ a' 5 = vx ∧ a' 6 = vy ∧ a' 2 = px ∧ a' 3 = py ∧ a' 4 = a 4) ?_
  simp (disch := omega) only [st_assign, bindO_some, ev_tmp, putA, upd_at, Option.map_some, ↓reduceIte, Nat.reduceEqDiff, ↓bindO_some, sy_load aL, sy_faddr fW1, opsW_nil, opsW_cons, clsW_read, clsW_pure, ↓clsW_read, ↓clsW_pure, cls_assign, cls_load, cls_faddr, h2, h3, fx, fy, lx, ly]
  refine ⟨_, rfl, ?_, rfl, ?_⟩
  · intro G hG r hr
    simp only [List.mem_cons, List.not_mem_nil, or_false] at hG hr
    subst hG
    rcases hr with rfl | rfl
    all_goals simp only [still_ld aL, ev_tmp, upd_at, ↓reduceIte, lx, ly, rx, ry]
  · simp only [upd_get, ↓reduceIte, Nat.reduceEqDiff, h2, h3, and_self]
theorem plu_r23 {H H4 H5 H6 : Heap} {px py p4 vx vy c d : Value} {nb : Bool} (call : CallF) (k nt : Nat) (rd : Option Nat) {a : Fr} {q0 q1 qy : Value} (h2 : a 2 = px) (h3 : a 3 = py) (h4 : a 4 = p4) (f0 : faddrS 0 px = some q0) (f1 : faddrS 1 px = some q1) (fy : faddrS 1 py = some qy)
    (l0 : ∀ G, G = H ∨ G = H4 ∨ G = H5 ∨ G = H6 → loadS q0 G = some (.bool nb)) (l1 : ∀ G, G = H ∨ G = H4 ∨ G = H5 ∨ G = H6 → loadS q1 G = some vx) (ly : ∀ G, G = H ∨ G = H4 ∨ G = H5 ∨ G = H6 → loadS qy G = some vy) (rx : vEq vx vx = true) (ry : vEq vy vy = true)
    (s1 : call (.func (.func 61) #[] #[]) [vx] H = some (c, H4)) (s2 : call (.func (.func 116) #[] #[]) [c, vy] H4 = some (d, H5)) (sd : Abs.scal d = some [d]) (s3 : storeN 2 p4 (.agg #[.bool nb, d]) H5 = some H6) :
    ∃ a' H', evT Try.prog call k nt rd D1 (atC [1, 1, 0, 1, 0, 1, 1, 1, 0, 0] ((Try.f84.body).getD .skip)) a H = some (.normal, a', H') ∧ H' = H6 ∧ a' 4 = p4 := by
  simp only [Try.f84, Option.getD_some, atC]
  refine et_from (fun a' H' => H' = H6 ∧ a' 4 = p4) ?_
  have e0 := l0 H (.inl rfl)
  have e1 := l1 H (.inl rfl)
  have e2 := ly H4 (.inr (.inl rfl))
  simp (disch := omega) only [st_fun, bindO_some, ev_tmp, ev_func, putA, upd_at, Option.map_some, ↓reduceIte, Nat.reduceEqDiff, List.map_cons, List.map_nil, ↓bindO_some, sy_load aL, sy_load aB, sy_faddr fW0, sy_faddr fW1, sy_storeN zW, sy_build, opsW_nil, opsW_cons, clsW_eff, clsW_read, clsW_pure, ↓clsW_eff, ↓clsW_read, ↓clsW_pure, cls_load, cls_callF, cls_store, cls_faddr, cls_build, h2, h3, h4, f0, f1, fy, e0, e1, s1, e2, s2, bW2 nb d sd, s3]
  refine ⟨_, rfl, ?_, rfl, ?_⟩
  · intro G hG r hr
    simp only [List.mem_cons, List.not_mem_nil, or_false] at hG hr
    have hG' : G = H ∨ G = H4 ∨ G = H5 ∨ G = H6 := by
      rcases hG with h | h | h | h
      · exact .inr (.inr (.inr h))
      · exact .inr (.inr (.inl h))
      · exact .inr (.inl h)
      · exact .inl h
    have e0 := l0 G hG'
    have e1 := l1 G hG'
    have e2 := ly G hG'
    rcases hr with rfl | rfl | rfl
    all_goals simp only [still_ld aB, still_ld aL, ev_tmp, upd_at, ↓reduceIte, vEq_bool, e0, e1, e2, rx, ry]
  · simp only [upd_get, ↓reduceIte, Nat.reduceEqDiff, h4]
theorem plu_r24 {H H4 H5 H6 : Heap} {px py p4 vx vy c d : Value} {nb : Bool} (call : CallF) (k nt : Nat) (rd : Option Nat) {a : Fr} {q0 q1 qy : Value} (h2 : a 3 = px) (h3 : a 2 = py) (h4 : a 4 = p4) (f0 : faddrS 0 px = some q0) (f1 : faddrS 1 px = some q1) (fy : faddrS 1 py = some qy)
    (l0 : ∀ G, G = H ∨ G = H4 ∨ G = H5 ∨ G = H6 → loadS q0 G = some (.bool nb)) (l1 : ∀ G, G = H ∨ G = H4 ∨ G = H5 ∨ G = H6 → loadS q1 G = some vx) (ly : ∀ G, G = H ∨ G = H4 ∨ G = H5 ∨ G = H6 → loadS qy G = some vy) (rx : vEq vx vx = true) (ry : vEq vy vy = true)
    (s1 : call (.func (.func 61) #[] #[]) [vx] H = some (c, H4)) (s2 : call (.func (.func 116) #[] #[]) [c, vy] H4 = some (d, H5)) (sd : Abs.scal d = some [d]) (s3 : storeN 2 p4 (.agg #[.bool nb, d]) H5 = some H6) :
    ∃ a' H', evT Try.prog call k nt rd D1 (atC [1, 1, 1, 0] ((Try.f84.body).getD .skip)) a H = some (.normal, a', H') ∧ H' = H6 ∧ a' 4 = p4 := by
  simp only [Try.f84, Option.getD_some, atC]
  refine et_from (fun a' H' => H' = H6 ∧ a' 4 = p4) ?_
  have e0 := l0 H (.inl rfl)
  have e1 := l1 H (.inl rfl)
  have e2 := ly H4 (.inr (.inl rfl))
  simp (disch := omega) only [st_fun, bindO_some, ev_tmp, ev_func, putA, upd_at, Option.map_some, ↓reduceIte, Nat.reduceEqDiff, List.map_cons, List.map_nil, ↓bindO_some, sy_load aL, sy_load aB, sy_faddr fW0, sy_faddr fW1, sy_storeN zW, sy_build, opsW_nil, opsW_cons, clsW_eff, clsW_read, clsW_pure, ↓clsW_eff, ↓clsW_read, ↓clsW_pure, cls_load, cls_callF, cls_store, cls_faddr, cls_build, h2, h3, h4, f0, f1, fy, e0, e1, s1, e2, s2, bW2 nb d sd, s3]
  refine ⟨_, rfl, ?_, rfl, ?_⟩
  · intro G hG r hr
    simp only [List.mem_cons, List.not_mem_nil, or_false] at hG hr
    have hG' : G = H ∨ G = H4 ∨ G = H5 ∨ G = H6 := by
      rcases hG with h | h | h | h
      · exact .inr (.inr (.inr h))
      · exact .inr (.inr (.inl h))
      · exact .inr (.inl h)
      · exact .inl h
    have e0 := l0 G hG'
    have e1 := l1 G hG'
    have e2 := ly G hG'
    rcases hr with rfl | rfl | rfl
    all_goals simp only [still_ld aB, still_ld aL, ev_tmp, upd_at, ↓reduceIte, vEq_bool, e0, e1, e2, rx, ry]
  · simp only [upd_get, ↓reduceIte, Nat.reduceEqDiff, h4]
end Go.Proofs.Ytmmgdgmjkhcfaaa
namespace Go.Proofs.Ytmmgdgmjkhcfaaa
open Go Go.Abs Go.Num
set_option maxRecDepth 10000
attribute [local congr] bindO_congr bindF_congr bindX_congr condX_congr iteB_congr binS_congr pickS_congr eqB_congr nilS_congr clsW_congr
theorem cpl_sign {x y : Int} {nx : Bool} (hx : decide (x < 0) = nx) (hy : decide (y < 0) = nx) : decide (x + y < 0) = nx ∧ ((x + y).natAbs : Int) = x.natAbs + y.natAbs := by
  cases nx with
  | true =>
    have h1 : x < 0 := by simpa using hx
    have h2 : y < 0 := by simpa using hy
    exact ⟨by simp; omega, by omega⟩
  | false =>
    have h1 : ¬ x < 0 := by simpa using hx
    have h2 : ¬ y < 0 := by simpa using hy
    exact ⟨by simp; omega, by omega⟩
theorem mix_sign {x y : Int} {nx ny : Bool} (hx : decide (x < 0) = nx) (hy : decide (y < 0) = ny) (hn : nx ≠ ny) :
    ((y.natAbs : Int) < x.natAbs → decide (x + y < 0) = nx ∧ ((x + y).natAbs : Int) = x.natAbs - y.natAbs) ∧ ((x.natAbs : Int) < y.natAbs → decide (x + y < 0) = ny ∧ ((x + y).natAbs : Int) = y.natAbs - x.natAbs) ∧ ((x.natAbs : Int) = y.natAbs → x + y = 0) := by
  cases nx <;> cases ny <;> first | exact absurd rfl hn | skip
  · have h1 : ¬ x < 0 := by simpa using hx
    have h2 : y < 0 := by simpa using hy
    exact ⟨fun h => ⟨by simp; omega, by omega⟩, fun h => ⟨by simp; omega, by omega⟩, fun h => by omega⟩
  · have h1 : x < 0 := by simpa using hx
    have h2 : ¬ y < 0 := by simpa using hy
    exact ⟨fun h => ⟨by simp; omega, by omega⟩, fun h => ⟨by simp; omega, by omega⟩, fun h => by omega⟩
theorem plus_run {C : Nat} {H : Heap} {wx wy : Value} {x y : Int} (hw : WF H) (hx : Wh C H wx x) (hy : Wh C H wy y) (lx : (nf x.natAbs).length ≤ 890) (ly : (nf y.natAbs).length ≤ 890) (n : Nat) (hn : 2010 ≤ n) :
    OneW H (evB Try.prog noC n (.func (.func 84) #[] #[]) [wx, wy] H) (x + y) := by
  obtain ⟨vx, rfl, hx⟩ := hx
  obtain ⟨vy, rfl, hy⟩ := hy
  have hx := hx.R
  have hy := hy.R
  generalize hnx : decide (x < 0) = nx
  generalize hny : decide (y < 0) = ny
  refine run_of (F := 2009) (Q := fun r => OneW H r (x + y)) (fun n hn => ?_) n hn
  rw [body_runS Try.func84 rfl (ok_fn (by rfl) Try.func84 rfl) (Nat.le_of_ble_eq_true rfl) (D := D1) (by kernel_rfl)]
  have old1 := Old.app H [.cells H.length true [.bool nx, vx]]
  have wf1 := hw.app (Nat.le_refl H.length) (o := true) (cs := [.bool nx, vx])
  have b1 := BxM.made (B := H.length) (H := H) (Nat.le_refl _) [.bool nx, vx]
  generalize hH1 : H ++ [Blk.cells H.length true [.bool nx, vx]] = H1 at *
  have old2 := Old.app H1 [.cells H1.length true [.bool ny, vy]]
  have wf2 := wf1.app (Nat.le_refl H1.length) (o := true) (cs := [.bool ny, vy])
  have b2 := BxM.made (B := H1.length) (H := H1) (Nat.le_refl _) [.bool ny, vy]
  generalize hH2 : H1 ++ [Blk.cells H1.length true [.bool ny, vy]] = H2 at *
  have old3 := Old.app H2 [.cells H2.length true [.bool false, .slice none 0 0]]
  have wf3 := wf2.app (Nat.le_refl H2.length) (o := true) (cs := [.bool false, .slice none 0 0])
  have b3 := BxM.made (B := H2.length) (H := H2) (Nat.le_refl _) [.bool false, .slice none 0 0]
  generalize hH3 : H2 ++ [Blk.cells H2.length true [.bool false, .slice none 0 0]] = H3 at *
  have old13 := old2.trans (old3.mono old2.1)
  have old03 := old1.trans (old13.mono old1.1)
  have b1 := b1.mono old13
  have b2 := b2.mono old3
  have f10 := b1.faddr 0
  have f11 := b1.faddr 1
  have f20 := b2.faddr 0
  have f21 := b2.faddr 1
  have l10 : loadS (bx (ptrA H.length 0) 0) H3 = some (.bool nx) := b1.load 0
  have l11 : loadS (bx (ptrA H.length 0) 1) H3 = some vx := b1.load 1
  have l20 : loadS (bx (ptrA H1.length 0) 0) H3 = some (.bool ny) := b2.load 0
  have l21 : loadS (bx (ptrA H1.length 0) 1) H3 = some vy := b2.load 1
  have hx3 := hx.mono old03
  have hy3 := hy.mono old03
  have hlx := hx.lenI
  have hly := hy.lenI
  -- the end: the box of the result
  have fin : ∀ (H4 : Heap) (v : Value) (nb : Bool) (z : Int), Old H3.length H3 H4 → WF H4 → RO H3.length H4 v (ints (nf z.natAbs)) → decide (z < 0) = nb → ∃ H5, storeN 2 (ptrA H2.length 0) (.agg #[.bool nb, v]) H4 = some H5 ∧ loadN 2 (ptrA H2.length 0) H5 = some (.agg #[.bool nb, v]) ∧ OneW H (some (.agg #[.bool nb, v], H5)) z ∧ Old H2.length H3 H5 := by
    intro H4 v nb z old4 wf4 r4 hz
    obtain ⟨H5, s5, b5, old5, wf5, keep5⟩ := (b3.mono old4).store wf4 (vs := [.bool nb, v]) rfl
    exact ⟨H5, s5, b5.loadAll, ⟨_, _, rfl, ⟨v, by rw [hz], (r4.kept keep5).below old03.1⟩, (old03.trans (old4.mono old03.1)).trans (old5.mono (Nat.le_trans old1.1 old2.1)), wf5⟩, (old4.mono old3.1).trans old5⟩
  by_cases hs : nx = ny
  · subst hs
    obtain ⟨hsgn, hsum⟩ := cpl_sign hnx hny
    have key := fun (A : Fr) {vl vs vo : Value} {u w : Int} {H' : Heap} (hB : H3.length ≤ H'.length) (hlg : ∀ G, Old H3.length H' G → R G vl (ints (nf u))) (hsh : ∀ G, Old H3.length H' G → R G vs (ints (nf w))) (u0 : 0 ≤ u) (w0 : 0 ≤ w) (hlw : (nf w).length ≤ (nf u).length) (hw : WF H') (lu : (nf u).length ≤ 890) (ho : O H3.length H' vo (ints [])) => plu_loop (p2 := ptrA H.length 0) (p4 := ptrA H2.length 0) hB hlg hsh u0 w0 hlw hw (by omega) ho (evB Try.prog noC n) n Try.f84.ntmps (a := A) (k := n) (by omega)
    rw [show pluA = atC [1, 0, 1, 0, 1, 1, 1, 1, 0, 1, 0, 0] ((Try.f84.body).getD .skip) from rfl] at key
    have kr := fun (A : Fr) (h2 : A 2 = ptrA H.length 0) (h3 : A 3 = ptrA H1.length 0) => plu_r2 (evB Try.prog noC n) n Try.f84.ntmps none (a := A) h2 h3 f11 f21 l11 l21 hx.refl hy.refl
    simp only [Try.f84, Option.getD_some, atC] at key kr
    have heq : (nx == nx) = true := by cases nx <;> rfl
    have z0 : zeros Try.prog 3 1 (Int.toNat 0) = some [] := nI
    have z0' : zeros Try.prog 3 1 0 = some [] := nI
    have oldm := Old.app H3 [.cells H3.length true []]
    have wfm := wf3.app (Nat.le_refl H3.length) (o := true) (cs := [])
    have om := O.empty (H := H3) (Nat.le_refl H3.length)
    have stay : ∀ {v : Value} {l : List Value}, R H3 v l → ∀ G, Old H3.length (H3 ++ [.cells H3.length true []]) G → R G v l := fun h G hG => h.mono (oldm.trans hG)
    simp (disch := omega) only [Try.f84, es_seq, es_region, es_cond, es_block, es_loop, es_skip, es_ret, ops_nil, ops_cons, st_move, st_assign, st_fun, sy_len uL, sy_bin, sy_append eL pI, sy_build1 eL oI, sy_make eL yI (by decide), bindO_some, bindF_some, bindX_normal, condX_true, ev_tmp, ev_const, ev_func, putA, upd_at, Option.map_some, ↓reduceIte, Nat.reduceEqDiff, frOf_0, frOf_1, List.map_cons, List.map_nil, beq_self_eq_true, ↓bindO_some, ↓bindF_some, ↓bindX_normal, ↓condX_true, sy_load aL, sy_load aB, sy_faddr fW0, sy_faddr fW1, sy_storeN zW, sy_alloc iW scal_agg, sy_box, sy_build, bW0, sy_eq qB, eqB_bool, scal_agg, Bool.false_xor, hH1, hH2, hH3, f10, f20, l10, l20]
    generalize hA : upd _ 15 _ = A
    obtain ⟨a2, H', e2, hH', g5, g6, g2, g3, g4⟩ := kr A (by subst hA; rfl) (by subst hA; rfl)
    have g4 : a2 4 = ptrA H2.length 0 := by rw [g4]; subst hA; rfl
    subst hH'
    rw [e2]
    clear e2 kr
    by_cases hlen : (nf x.natAbs).length < (nf y.natAbs).length
    · have c1 : ((nf x.natAbs).length : Int) < (nf y.natAbs).length := by omega
      have e1 : IntKind.i64.wrap (((nf y.natAbs).length : Int) + 1) = ((nf y.natAbs).length : Int) + 1 := wr64 (by omega) (by omega)
      have c2 : (0 : Int) ≤ ((nf y.natAbs).length : Int) + 1 := by omega
      have c3 : ((nf y.natAbs).length : Int) + 1 ≤ 1048576 := by omega
      simp (disch := omega) only [binS_lss, binS_add, bindO_some, bindF_some, bindX_normal, condX_true, upd_at, Option.map_some, ↓reduceIte, Nat.reduceEqDiff, decide_true, ↓bindO_some, ↓bindF_some, ↓bindX_normal, ↓condX_true, g5, g6, hlx, hly, c1, e1, c2, c3, Int.le_refl, and_self, z0]
      generalize hA : upd _ 33 _ = A
      obtain ⟨r, a', H', e, hr, g2, g4, old4, wf4, vo, out, c, g7, g8, oo, hol, hd, c0, c1', hval⟩ := key A oldm.1 (stay hy3) (stay hx3) (by omega) (by omega) (by omega) wfm ly om (by subst hA; exact g2) (by subst hA; exact g4) (by subst hA; rfl) (by subst hA; rfl) (by subst hA; rfl) (by subst hA; rfl) (by subst hA; rfl) (by subst hA; rfl)
      subst hr
      rw [e]
      clear e key
      have old34 := oldm.trans old4
      obtain ⟨pf0, pf1⟩ := plu_fin hd hol (by omega) (by omega) (by omega) c0 c1' hval
      rw [show ((y.natAbs : Nat) : Int) + x.natAbs = (x + y).natAbs from by omega] at pf0 pf1
      by_cases hc : c = 0
      · subst hc
        rw [pf0 rfl] at oo
        have m10 : loadS (bx (ptrA H.length 0) 0) H' = some (.bool nx) := (b1.mono (old34.mono (by have := old2.1; have := old3.1; omega))).load 0
        obtain ⟨H5, s5, s6, ow, _⟩ := fin H' vo nx (x + y) old34 wf4 oo.RO hsgn
        simp (disch := omega) only [binS_gtr, bindO_some, bindF_some, bindX_normal, bindX_ret, blkX_exit, condX_false, upd_at, Option.map_some, ↓reduceIte, Nat.reduceEqDiff, dec00, ↓bindO_some, ↓bindF_some, ↓bindX_normal, ↓bindX_ret, ↓condX_false, fin_r, res_nil, pack_1, res_cell aW zW, g2, g4, g7, g8, f10, m10, bW2 nx vo oo.R.scal, s5, s6]
        exact ow
      · obtain rfl : c = 1 := by omega
        have hpos : (0 : Int) < 1 := by omega
        obtain ⟨v6, H6, s6', o6, old6, wf6⟩ := oo.pushI wf4 old34.1 (by unfold maxA; omega) 1
        rw [pf1 rfl] at o6
        have old36 := old34.trans old6
        have m10 : loadS (bx (ptrA H.length 0) 0) H6 = some (.bool nx) := (b1.mono (old36.mono (by have := old2.1; have := old3.1; omega))).load 0
        obtain ⟨H5, s5, s6, ow, _⟩ := fin H6 v6 nx (x + y) old36 wf6 o6.RO hsgn
        simp (disch := omega) only [binS_gtr, bindO_some, bindF_some, bindX_normal, bindX_ret, blkX_exit, condX_true, upd_at, Option.map_some, ↓reduceIte, Nat.reduceEqDiff, decide_true, ↓bindO_some, ↓bindF_some, ↓bindX_normal, ↓bindX_ret, ↓condX_true, fin_r, res_nil, pack_1, scal_vi, res_cell aW zW, g2, g4, g7, g8, hpos, s6', f10, m10, bW2 nx v6 o6.R.scal, s5, s6]
        exact ow
    · have c1 : ¬ ((nf x.natAbs).length : Int) < (nf y.natAbs).length := by omega
      have e1 : IntKind.i64.wrap (((nf x.natAbs).length : Int) + 1) = ((nf x.natAbs).length : Int) + 1 := wr64 (by omega) (by omega)
      have c2 : (0 : Int) ≤ ((nf x.natAbs).length : Int) + 1 := by omega
      have c3 : ((nf x.natAbs).length : Int) + 1 ≤ 1048576 := by omega
      simp (disch := omega) only [binS_lss, binS_add, bindO_some, bindF_some, bindX_normal, condX_false, upd_at, Option.map_some, ↓reduceIte, Nat.reduceEqDiff, decide_false, ↓bindO_some, ↓bindF_some, ↓bindX_normal, ↓condX_false, g5, g6, hlx, hly, c1, e1, c2, c3, Int.le_refl, and_self, z0]
      generalize hA : upd _ 33 _ = A
      obtain ⟨r, a', H', e, hr, g2, g4, old4, wf4, vo, out, c, g7, g8, oo, hol, hd, c0, c1', hval⟩ := key A oldm.1 (stay hx3) (stay hy3) (by omega) (by omega) (by omega) wfm lx om (by subst hA; exact g2) (by subst hA; exact g4) (by subst hA; exact g6) (by subst hA; rfl) (by subst hA; rfl) (by subst hA; rfl) (by subst hA; rfl) (by subst hA; rfl)
      subst hr
      rw [e]
      clear e key
      have old34 := oldm.trans old4
      obtain ⟨pf0, pf1⟩ := plu_fin hd hol (by omega) (by omega) (by omega) c0 c1' hval
      rw [show ((x.natAbs : Nat) : Int) + y.natAbs = (x + y).natAbs from by omega] at pf0 pf1
      by_cases hc : c = 0
      · subst hc
        rw [pf0 rfl] at oo
        have m10 : loadS (bx (ptrA H.length 0) 0) H' = some (.bool nx) := (b1.mono (old34.mono (by have := old2.1; have := old3.1; omega))).load 0
        obtain ⟨H5, s5, s6, ow, _⟩ := fin H' vo nx (x + y) old34 wf4 oo.RO hsgn
        simp (disch := omega) only [binS_gtr, bindO_some, bindF_some, bindX_normal, bindX_ret, blkX_exit, condX_false, upd_at, Option.map_some, ↓reduceIte, Nat.reduceEqDiff, dec00, ↓bindO_some, ↓bindF_some, ↓bindX_normal, ↓bindX_ret, ↓condX_false, fin_r, res_nil, pack_1, res_cell aW zW, g2, g4, g7, g8, f10, m10, bW2 nx vo oo.R.scal, s5, s6]
        exact ow
      · obtain rfl : c = 1 := by omega
        have hpos : (0 : Int) < 1 := by omega
        obtain ⟨v6, H6, s6', o6, old6, wf6⟩ := oo.pushI wf4 old34.1 (by unfold maxA; omega) 1
        rw [pf1 rfl] at o6
        have old36 := old34.trans old6
        have m10 : loadS (bx (ptrA H.length 0) 0) H6 = some (.bool nx) := (b1.mono (old36.mono (by have := old2.1; have := old3.1; omega))).load 0
        obtain ⟨H5, s5, s6, ow, _⟩ := fin H6 v6 nx (x + y) old36 wf6 o6.RO hsgn
        simp (disch := omega) only [binS_gtr, bindO_some, bindF_some, bindX_normal, bindX_ret, blkX_exit, condX_true, upd_at, Option.map_some, ↓reduceIte, Nat.reduceEqDiff, decide_true, ↓bindO_some, ↓bindF_some, ↓bindX_normal, ↓bindX_ret, ↓condX_true, fin_r, res_nil, pack_1, scal_vi, res_cell aW zW, g2, g4, g7, g8, hpos, s6', f10, m10, bW2 nx v6 o6.R.scal, s5, s6]
        exact ow
  · have hne : (nx == ny) = false := by cases nx <;> cases ny <;> first | rfl | exact absurd rfl hs
    obtain ⟨m1, m2, m3⟩ := mix_sign hnx hny hs
    have s0 := sizes_run hx3 hy3 (by omega) (by omega) (by omega) (by omega) n (by omega)
    have k23 := fun (A : Fr) {H4 H5 H6 : Heap} {c d : Value} {nb : Bool} => plu_r23 (H := H3) (H4 := H4) (H5 := H5) (H6 := H6) (px := ptrA H.length 0) (py := ptrA H1.length 0) (p4 := ptrA H2.length 0) (vx := vx) (vy := vy) (c := c) (d := d) (nb := nb) (q0 := bx (ptrA H.length 0) 0) (q1 := bx (ptrA H.length 0) 1) (qy := bx (ptrA H1.length 0) 1) (evB Try.prog noC n) n Try.f84.ntmps none (a := A)
    have k24 := fun (A : Fr) {H4 H5 H6 : Heap} {c d : Value} {nb : Bool} => plu_r24 (H := H3) (H4 := H4) (H5 := H5) (H6 := H6) (px := ptrA H1.length 0) (py := ptrA H.length 0) (p4 := ptrA H2.length 0) (vx := vy) (vy := vx) (c := c) (d := d) (nb := nb) (q0 := bx (ptrA H1.length 0) 0) (q1 := bx (ptrA H1.length 0) 1) (qy := bx (ptrA H.length 0) 1) (evB Try.prog noC n) n Try.f84.ntmps none (a := A)
    simp only [Try.f84, Option.getD_some, atC] at k23 k24
    have rd : ∀ (G : Heap), Old H2.length H3 G → loadS (bx (ptrA H.length 0) 0) G = some (.bool nx) ∧ loadS (bx (ptrA H.length 0) 1) G = some vx ∧ loadS (bx (ptrA H1.length 0) 0) G = some (.bool ny) ∧ loadS (bx (ptrA H1.length 0) 1) G = some vy := fun G hG =>
      ⟨(b1.mono (hG.mono old2.1)).load 0, (b1.mono (hG.mono old2.1)).load 1, (b2.mono hG).load 0, (b2.mono hG).load 1⟩
    by_cases h1 : (y.natAbs : Int) < x.natAbs
    · have ec : cmpZ (x.natAbs : Int) y.natAbs = 1 := by unfold cmpZ; rw [if_neg (by omega), if_pos h1]
      rw [ec] at s0
      obtain ⟨hsg, hab⟩ := m1 h1
      obtain ⟨v4, H4, s4, o4, old4, wf4⟩ := clone_run wf3 hx3 (by omega) n (by omega)
      obtain ⟨v5, H5, s5, r5, old5, wf5⟩ := les_run o4 (fun G hG => hy3.mono (old4.trans hG)) (by omega) (by omega) wf4 (by omega) n (by omega)
      rw [← hab] at r5
      obtain ⟨H6, s6, s7, ow, old6⟩ := fin H5 v5 nx (x + y) (old4.trans old5) wf5 r5 hsg
      have c1 : ¬ (1 : Int) = 0 := by omega
      simp (disch := omega) only [Try.f84, es_seq, es_region, es_cond, es_block, es_skip, es_ret, ops_nil, ops_cons, st_assign, st_fun, sy_bin, binS_eql, bindO_some, bindF_some, bindX_normal, condX_true, condX_false, ev_tmp, ev_const, ev_func, putA, upd_at, Option.map_some, ↓reduceIte, Nat.reduceEqDiff, frOf_0, frOf_1, List.map_cons, List.map_nil, decide_true, decide_false, ↓bindO_some, ↓bindF_some, ↓bindX_normal, ↓condX_true, ↓condX_false, sy_load aL, sy_load aB, sy_faddr fW0, sy_faddr fW1, sy_alloc iW scal_agg, sy_box, sy_eq qB, eqB_bool, scal_agg, Bool.false_xor, hH1, hH2, hH3, f10, f20, l10, l20, hne, f11, f21, l11, l21, s0, c1]
      generalize hA : upd _ 77 _ = A
      have hG : ∀ G, G = H3 ∨ G = H4 ∨ G = H5 ∨ G = H6 → Old H2.length H3 G := fun G h => by
        rcases h with rfl | rfl | rfl | rfl
        · exact Old.refl _ _
        · exact old4.mono old3.1
        · exact (old4.trans old5).mono old3.1
        · exact old6
      obtain ⟨a', H', e, hH', g4⟩ := k23 A (H4 := H4) (H5 := H5) (H6 := H6) (by subst hA; rfl) (by subst hA; rfl) (by subst hA; rfl) f10 f11 f21 (fun G h => (rd G (hG G h)).1) (fun G h => (rd G (hG G h)).2.1) (fun G h => (rd G (hG G h)).2.2.2) hx.refl hy.refl s4 s5 r5.R.scal s6
      subst hH'
      rw [e]
      simp (disch := omega) only [bindX_normal, bindX_ret, blkX_ret, Option.map_some, ↓bindX_normal, ↓bindX_ret, fin_r, res_nil, pack_1, res_cell aW zW, g4, s7]
      exact ow
    · by_cases h2 : (x.natAbs : Int) < y.natAbs
      · have ec : cmpZ (x.natAbs : Int) y.natAbs = -1 := by unfold cmpZ; rw [if_pos h2]
        rw [ec] at s0
        obtain ⟨hsg, hab⟩ := m2 h2
        obtain ⟨v4, H4, s4, o4, old4, wf4⟩ := clone_run wf3 hy3 (by omega) n (by omega)
        obtain ⟨v5, H5, s5, r5, old5, wf5⟩ := les_run o4 (fun G hG => hx3.mono (old4.trans hG)) (by omega) (by omega) wf4 (by omega) n (by omega)
        rw [← hab] at r5
        obtain ⟨H6, s6, s7, ow, old6⟩ := fin H5 v5 ny (x + y) (old4.trans old5) wf5 r5 hsg
        have c1 : decide ((-1 : Int) = 0) = false := by decide
        have c2 : decide ((-1 : Int) = 1) = false := by decide
        simp (disch := omega) only [Try.f84, es_seq, es_region, es_cond, es_block, es_skip, es_ret, ops_nil, ops_cons, st_assign, st_fun, sy_bin, binS_eql, bindO_some, bindF_some, bindX_normal, blkX_normal, condX_false, ev_tmp, ev_const, ev_func, putA, upd_at, Option.map_some, ↓reduceIte, Nat.reduceEqDiff, frOf_0, frOf_1, List.map_cons, List.map_nil, ↓bindO_some, ↓bindF_some, ↓bindX_normal, ↓condX_false, sy_load aL, sy_load aB, sy_faddr fW0, sy_faddr fW1, sy_alloc iW scal_agg, sy_box, sy_eq qB, eqB_bool, scal_agg, Bool.false_xor, hH1, hH2, hH3, f10, f20, l10, l20, hne, f11, f21, l11, l21, s0, c1, c2]
        generalize hA : upd _ 77 _ = A
        have hG : ∀ G, G = H3 ∨ G = H4 ∨ G = H5 ∨ G = H6 → Old H2.length H3 G := fun G h => by
          rcases h with rfl | rfl | rfl | rfl
          · exact Old.refl _ _
          · exact old4.mono old3.1
          · exact (old4.trans old5).mono old3.1
          · exact old6
        obtain ⟨a', H', e, hH', g4⟩ := k24 A (H4 := H4) (H5 := H5) (H6 := H6) (by subst hA; rfl) (by subst hA; rfl) (by subst hA; rfl) f20 f21 f11 (fun G h => (rd G (hG G h)).2.2.1) (fun G h => (rd G (hG G h)).2.2.2) (fun G h => (rd G (hG G h)).2.1) hy.refl hx.refl s4 s5 r5.R.scal s6
        subst hH'
        rw [e]
        simp (disch := omega) only [bindX_normal, Option.map_some, ↓bindX_normal, fin_r, res_nil, pack_1, res_cell aW zW, g4, s7]
        exact ow
      · have hxy : x + y = 0 := m3 (by omega)
        have ec : cmpZ (x.natAbs : Int) y.natAbs = 0 := by unfold cmpZ; rw [if_neg h2, if_neg h1]
        rw [ec] at s0
        obtain ⟨H5, s5, s6, ow, _⟩ := fin H3 (.slice none 0 0) false (x + y) (Old.refl _ _) wf3 (by rw [hxy, show ((0 : Int).natAbs : Int) = 0 from rfl, nf_zero]; exact .inl ⟨rfl, rfl⟩) (by rw [hxy]; rfl)
        have c1 : decide ((0 : Int) = 0) = true := by decide
        simp (disch := omega) only [Try.f84, es_seq, es_region, es_cond, es_block, es_skip, es_ret, ops_nil, ops_cons, st_assign, st_fun, sy_bin, binS_eql, bindO_some, bindF_some, bindX_normal, bindX_ret, blkX_ret, condX_true, condX_false, ev_tmp, ev_const, ev_func, putA, upd_at, Option.map_some, ↓reduceIte, Nat.reduceEqDiff, frOf_0, frOf_1, List.map_cons, List.map_nil, decide_true, ↓bindO_some, ↓bindF_some, ↓bindX_normal, ↓bindX_ret, ↓condX_true, ↓condX_false, fin_r, res_nil, pack_1, sy_load aL, sy_load aB, sy_faddr fW0, sy_faddr fW1, sy_storeN zW, sy_alloc iW scal_agg, sy_box, sy_build, bW0, sy_eq qB, eqB_bool, res_cell aW zW, scal_agg, Bool.false_xor, hH1, hH2, hH3, f10, f20, l10, l20, hne, f11, f21, l11, l21, s0, s5, s6]
        exact ow
end Go.Proofs.Ytmmgdgmjkhcfaaa
namespace Go.Proofs.Ytmmgdgmjkhcfaaa
open Go Go.Abs Go.Num
set_option maxRecDepth 10000
attribute [local congr] bindO_congr bindF_congr bindX_congr condX_congr iteB_congr binS_congr pickS_congr eqB_congr nilS_congr clsW_congr
theorem addP_run {H : Heap} {vx vy : Value} {x y : Int} (hw : WF H) (hx : NumV H vx x) (hy : NumV H vy y) (lx : (nf x).length ≤ 880) (ly : (nf y).length ≤ 880) (n : Nat) (hn : 2012 ≤ n) :
    OneL H (evB Try.prog noC n (.func (.func 38) #[] #[]) [vx, vy] H) (nf (x + y)) := by
  refine run_of (F := 2011) (Q := fun r => OneL H r (nf (x + y))) (fun n hn => ?_) n hn
  rw [body_runS Try.func38 rfl (ok_fn (by rfl) Try.func38 rfl) (Nat.le_of_ble_eq_true rfl) (D := D0) (by kernel_rfl)]
  obtain ⟨wx, H1, s1, w1, old1, wf1⟩ := read_run hw hx n (by omega)
  obtain ⟨wy, H2, s2, w2, old2, wf2⟩ := read_run wf1 (hy.mono old1) n (by omega)
  obtain ⟨wz, H3, s3, w3, old3, wf3⟩ := plus_run wf2 (w1.mono old2) (w2.below old1.1) (by rw [abs_len]; omega) (by rw [abs_len]; omega) n (by omega)
  obtain ⟨v, H4, s4, o4, old4, wf4⟩ := list_run wf3 w3 (by rw [abs_len]; have := add_len lx ly; omega) n (by omega)
  simp (disch := omega) only [Try.f38, es_seq, es_region, es_ret, ops_nil, ops_cons, st_move, st_assign, st_fun, bindO_some, bindF_some, bindX_normal, ev_tmp, ev_const, ev_func, putA, upd_at, Option.map_some, ↓reduceIte, Nat.reduceEqDiff, frOf_0, frOf_1, List.map_cons, List.map_nil, ↓bindO_some, ↓bindF_some, ↓bindX_normal, fin_r, res_nil, res_tmp, pack_1, s1, s2, s3, s4, o4.R.scal]
  have old12 := old1.trans (old2.mono old1.1)
  have old13 := old12.trans (old3.mono old12.1)
  exact ⟨_, _, rfl, o4.below old13.1, old13.trans (old4.mono old13.1), wf4⟩
theorem subP_run {H : Heap} {vx vy : Value} {x y : Int} (hw : WF H) (hx : NumV H vx x) (hy : NumV H vy y) (lx : (nf x).length ≤ 880) (ly : (nf y).length ≤ 880) (n : Nat) (hn : 2012 ≤ n) :
    OneL H (evB Try.prog noC n (.func (.func 35) #[] #[]) [vx, vy] H) (nf (x - y)) := by
  refine run_of (F := 2011) (Q := fun r => OneL H r (nf (x - y))) (fun n hn => ?_) n hn
  rw [body_runS Try.func35 rfl (ok_fn (by rfl) Try.func35 rfl) (Nat.le_of_ble_eq_true rfl) (D := D0) (by kernel_rfl)]
  obtain ⟨wx, H1, s1, w1, old1, wf1⟩ := read_run hw hx n (by omega)
  obtain ⟨wy, H2, s2, ⟨v2, rfl, r2⟩, old2, wf2⟩ := read_run wf1 (hy.mono old1) n (by omega)
  obtain ⟨Hm, sm, oldm, wfm⟩ := minus_run wf2 r2.R n (by omega)
  have w2 : Wh H1.length Hm (.agg #[.bool (decide (-y < 0)), v2]) (-y) := ⟨v2, rfl, by rw [Int.natAbs_neg]; exact r2.mono oldm⟩
  have old2m := old2.trans (oldm.mono old2.1)
  obtain ⟨wz, H3, s3, w3, old3, wf3⟩ := plus_run wfm (w1.mono old2m) (w2.below old1.1) (by rw [abs_len]; omega) (by rw [abs_len, neg_len]; omega) n (by omega)
  rw [show x + -y = x - y from by omega] at w3
  obtain ⟨v, H4, s4, o4, old4, wf4⟩ := list_run wf3 w3 (by rw [abs_len, show x - y = x + -y from by omega]; have := add_len lx (y := -y) (by rw [neg_len]; exact ly); omega) n (by omega)
  simp (disch := omega) only [Try.f35, es_seq, es_region, es_ret, ops_nil, ops_cons, st_move, st_assign, st_fun, bindO_some, bindF_some, bindX_normal, ev_tmp, ev_const, ev_func, putA, upd_at, Option.map_some, ↓reduceIte, Nat.reduceEqDiff, frOf_0, frOf_1, List.map_cons, List.map_nil, ↓bindO_some, ↓bindF_some, ↓bindX_normal, fin_r, res_nil, res_tmp, pack_1, s1, s2, sm, s3, s4, o4.R.scal]
  have old12 := old1.trans (old2m.mono old1.1)
  have old13 := old12.trans (old3.mono old12.1)
  exact ⟨_, _, rfl, o4.below old13.1, old13.trans (old4.mono old13.1), wf4⟩
end Go.Proofs.Ytmmgdgmjkhcfaaa
namespace Go.Abs
theorem RH.loadAll {H : Heap} {v : Value} {ls : List (List Int × Int)} (h : RH H v ls) {i : Nat} {a : List Int × Int} (hi : ls[i]? = some a) : ∃ r, loadN 2 (pt v (i * 2)) H = some (.agg #[r, vi a.2]) ∧ R H r (ints a.1) := by
  obtain ⟨r, h1, h2, h3⟩ := h.item hi
  refine ⟨r, ?_, h2⟩
  rcases h with ⟨_, rfl⟩ | ⟨b, f, w, css, rfl, hb, _⟩
  · simp at hi
  · simp only [pt, sliceA, ptrA, loadS, Heap.cell, hb, Nat.zero_add] at h1 h3
    simp only [loadN, pt, sliceA, ptrA, Heap.cellsAt, hb, Nat.zero_add]
    obtain ⟨l3, e3⟩ := List.getElem?_eq_some_iff.1 h3
    obtain ⟨l1, e1⟩ := List.getElem?_eq_some_iff.1 h1
    rw [if_pos (by omega), List.drop_eq_getElem_cons l1, List.drop_eq_getElem_cons l3, e1, e3]
    rfl
end Go.Abs
namespace Go.Proofs.Ytmmgdgmjkhcfaaa
open Go Go.Abs Go.Num
set_option maxRecDepth 10000
attribute [local congr] bindO_congr bindF_congr bindX_congr condX_congr iteB_congr binS_congr pickS_congr eqB_congr nilS_congr clsW_congr maxS_congr minS_congr
theorem aCh : isAggT Try.prog 78 = some true := by kernel_rfl
theorem zCh : sizeT Try.prog 78 = some 1 := by kernel_rfl
theorem fCh : fieldOff Try.prog 78 0 = some 0 := by kernel_rfl
theorem aMp : isAggT Try.prog 76 = some false := by kernel_rfl
theorem aHo : isAggT Try.prog 66 = some true := by kernel_rfl
theorem zHo : sizeT Try.prog 66 = some 2 := by kernel_rfl
theorem iHo : zeroT Try.prog 66 = some (.agg #[.slice none 0 0, vi 0]) := by kernel_rfl
theorem vEq_ch {m : Nat} : vEq (.agg #[.map (some m)]) (.agg #[.map (some m)]) = true := by simp [vEq, listEq, sEq]
theorem scal_ch {m : Nat} : scal (.agg #[.map (some m)]) = some [.map (some m)] := (rfl)
theorem scal_ho : scal (.agg #[.slice none 0 0, vi 0]) = some [.slice none 0 0, vi 0] := (rfl)
def OneC (m : Nat) (H : Heap) (r : Option (Value × Heap)) (x : Int) : Prop := ∃ w H' es, r = some (w, H') ∧ R H' w (ints (nf x)) ∧ OldX m H.length H H' ∧ H'[m]? = some (.map es) ∧ Known H' es ∧ WF H'
noncomputable def ofA : Code := atC [1, 1, 1, 1, 1, 0, 1, 0, 0] ((Try.f63.body).getD .skip)
theorem of_loop {H : Heap} {m : Nat} {px u vh vk : Value} {z : Int} {c l : List Int} (hp : Part l) (hz : 1 ≤ z) (hc : ∀ y ∈ c, 1 ≤ y ∧ y ≤ 20) (hcl : c.length ≤ 19) {w0 : Value} {es0 : List (Value × Value)} (hw : WF H) (hu : R H u (ints (z :: c))) (hh : RH H vh (rimsP l z)) (hx : BxM 0 H.length H px [.map (some m)]) (hm : H[m]? = some (.map es0)) (hk : Known H es0) (h0 : R H w0 (ints (nf 0))) (n nt : Nat) (hn : 2100 ≤ n)
    (ih : ∀ {H : Heap} {v u : Value} {l : List Int} {es : List (Value × Value)}, WF H → R H v (ints l) → Part l → R H u (ints c) → H[m]? = some (.map es) → Known H es → OneC m H (evB Try.prog noC n (.func (.func 63) #[] #[]) [.agg #[.map (some m)], v, u] H) (chi c l))
    {a0 : Fr} (h2 : a0 2 = u) (h3 : a0 3 = px) (h7 : a0 7 = vk) (h10 : a0 10 = w0) (h35 : a0 35 = vh) (h36 : a0 36 = vi (rimsP l z).length) (h37 : a0 37 = vi (0 : Nat)) :
    ∃ r a' H', loopN (evS Try.prog (evB Try.prog noC n) n nt none ofA) n a0 H = some (r, a', H') ∧ r = .exit 0 ∧ a' 3 = px ∧ a' 7 = vk ∧ ∃ w es, a' 10 = w ∧ R H' w (ints (nf (chi (z :: c) l))) ∧ OldX m H.length H H' ∧ H'[m]? = some (.map es) ∧ Known H' es ∧ WF H' := by
  have hlen : (rimsP l z).length ≤ 20 := Nat.le_trans (rimsP_le l z l.length) hp.len
  have hc1 : ∀ y ∈ c, 1 ≤ y := fun y hy => (hc y hy).1
  have hma : MapAt H m := ⟨_, hm⟩
  refine loop_up (rimsP l z).length (fun i a H' => a 2 = u ∧ a 3 = px ∧ a 7 = vk ∧ a 35 = vh ∧ a 36 = vi (rimsP l z).length ∧ a 37 = vi i ∧ ∃ w es, a 10 = w ∧ R H' w (ints (nf (chiT z c l i))) ∧ OldX m H.length H H' ∧ H'[m]? = some (.map es) ∧ Known H' es ∧ WF H') _ ?_ ?_ (by omega) ⟨h2, h3, h7, h35, h36, h37, _, _, h10, by rw [chiT_0]; exact h0, OldX.refl _ _ _, hm, hk, hw⟩
  · intro i a H' hi ⟨h2, h3, h7, h35, h36, h37, w, es, h10, hr, old, hm', hk', hw'⟩
    left
    rw [show ofA = atC [1, 1, 1, 1, 1, 0, 1, 0, 0] ((Try.f63.body).getD .skip) from rfl]
    have hlt : (i : Int) < (rimsP l z).length := by omega
    have e1 : IntKind.i64.wrap ((i : Int) + 1) = ((i + 1 : Nat) : Int) := by rw [wr64 (by omega) (by omega)]; omega
    have ei : (rimsP l z)[i]? = some (rimsP l z)[i] := List.getElem?_eq_getElem hi
    have hma' : MapAt H' m := ⟨_, hm'⟩
    have hh' := hh.monoX hma old
    obtain ⟨hq, q0, q20⟩ := rim_part hp hz (List.getElem_mem hi)
    have hs := chiT_succ (c := c) hi
    obtain ⟨x, lx, rx⟩ := hh'.loadAll ei
    have a1 := RG.addr hh hi
    -- the hook's box
    have oldb := Old.app H' [.cells H'.length true [.slice none 0 0, vi 0]]
    have wfb := hw'.app (Nat.le_refl H'.length) (o := true) (cs := [.slice none 0 0, vi 0])
    obtain ⟨H2, st, b2, oldc, wf2, kc⟩ := (BxM.made (B := H'.length) (H := H') (Nat.le_refl _) [.slice none 0 0, vi 0]).store wfb (vs := [x, vi ((rimsP l z)[i]).2]) rfl
    have old2 : Old H'.length H' H2 := oldb.trans oldc
    have hm2 : H2[m]? = some (.map es) := by rw [old2.2 m (lt_of_blk hm')]; exact hm'
    have hma2 : MapAt H2 m := ⟨_, hm2⟩
    have f0 := b2.faddr 0
    have l0 := b2.load 0
    have f1 := b2.faddr 1
    have bx2 : BxM 0 H.length H2 px [.map (some m)] := (hx.monoX hma old).mono (old2.mono old.1)
    have lx2 := bx2.loadAll
    obtain ⟨u2, su, ru⟩ := tail_R ((R.monoX hu hma old).mono old2)
    obtain ⟨v3, H3, es3, s3, r3, old3, hm3, hk3, wf3⟩ := ih wf2 (rx.mono old2) hq ru hm2 (hk'.monoX hma' (old2.X m))
    have b3 : BxM H'.length _ H3 (ptrA H'.length 0) [x, vi ((rimsP l z)[i]).2] := b2.monoX hma2 (old3.mono (by have := oldc.1; exact this))
    have l1 := b3.load 1
    have hr3 := R.monoX (hr.mono old2) hma2 old3
    have n1 := chiT_nf (c := c) (l := l) hz hc1 (by omega) hp i
    have n2 := chi_nf (c := c) hc1 (by omega) hq
    generalize hy : (rimsP l z)[i] = y at *
    have et : y.2.tmod 2 = y.2 % 2 := tmod_pos q0 _
    have l0 : loadS (bx (ptrA H'.length 0) 0) H2 = some x := l0
    have l1 : loadS (bx (ptrA H'.length 0) 1) H3 = some (vi y.2) := l1
    have lx2 : loadN 1 px H2 = some (.agg #[.map (some m)]) := lx2
    have st : storeN 2 (ptrA H'.length 0) (.agg #[x, vi y.2]) (H' ++ [.cells H'.length true [.slice none 0 0, vi 0]]) = some H2 := st
    have t3 := ((old2.X m).trans (old3.mono old2.1))
    by_cases hmo : y.2 % 2 = 1
    · have ed : decide (y.2 % 2 = 1) = true := decide_eq_true hmo
      obtain ⟨v4, H4, s4, o4, old4, wf4⟩ := subP_run wf3 (NumV.of hr3 (by omega)) (NumV.of r3 (by omega)) (by omega) (by omega) n (by omega)
      have hm4 : H4[m]? = some (.map es3) := by rw [old4.2 m (lt_of_blk hm3)]; exact hm3
      simp (disch := omega) only [Try.f63, Option.getD_some, atC, es_seq, es_region, es_draw, d0, es_cond, es_block, es_skip, ops_nil, ops_cons, opsV_nil, opsV_cons, st_move, st_assign, st_fun, sy_load aI, sy_bin, sy_slice eL, binS_lss, binS_eql, binS_add, binS_rem, bindO_some, bindF_some, bindX_normal, blkX_normal, condX_true, iteB_true, iteB_false, ev_tmp, ev_const, ev_func, putA, upd_at, Option.map_some, ↓reduceIte, Nat.reduceEqDiff, List.map_cons, List.map_nil, decide_true, ↓bindO_some, ↓bindF_some, ↓bindX_normal, ↓condX_true, ↓iteB_true, ↓iteB_false, reflV_load, reflV_move, reflV_assign, reflV_call, reflV_slice, sy_load aL, reflV_faddr, sy_addr eHH, sy_faddr fHo0, sy_faddr fHo1, sy_loadN aHo zHo, sy_storeN zHo, sy_alloc iHo scal_ho, sy_loadN aCh zCh, h2, h3, h10, h35, h36, h37, hlt, a1, lx, st, lx2, vEq_ch, f0, f1, l0, l1, rx.refl, Option.map_none, su, s3, et, ed, s4, e1]
      refine ⟨_, _, rfl, ?_, ?_, ?_, ?_, ?_, ?_, v4, es3, ?_, ?_, old.trans ((t3.trans ((old4.X m).mono (Nat.le_trans old2.1 old3.1))).mono old.1), hm4, hk3.monoX ⟨_, hm3⟩ (old4.X m), wf4⟩
      · exact h2
      · exact h3
      · exact h7
      · exact h35
      · exact h36
      · rfl
      · rfl
      · rw [hs, sgn, if_pos hmo]; exact o4.R
    · have ed : decide (y.2 % 2 = 1) = false := decide_eq_false hmo
      obtain ⟨v4, H4, s4, o4, old4, wf4⟩ := addP_run wf3 (NumV.of hr3 (by omega)) (NumV.of r3 (by omega)) (by omega) (by omega) n (by omega)
      have hm4 : H4[m]? = some (.map es3) := by rw [old4.2 m (lt_of_blk hm3)]; exact hm3
      simp (disch := omega) only [Try.f63, Option.getD_some, atC, es_seq, es_region, es_draw, d0, es_cond, es_block, es_skip, ops_nil, ops_cons, opsV_nil, opsV_cons, st_move, st_assign, st_fun, sy_load aI, sy_bin, sy_slice eL, binS_lss, binS_eql, binS_add, binS_rem, bindO_some, bindF_some, bindX_normal, blkX_normal, condX_true, condX_false, iteB_true, iteB_false, ev_tmp, ev_const, ev_func, putA, upd_at, Option.map_some, ↓reduceIte, Nat.reduceEqDiff, List.map_cons, List.map_nil, decide_true, ↓bindO_some, ↓bindF_some, ↓bindX_normal, ↓condX_true, ↓condX_false, ↓iteB_true, ↓iteB_false, reflV_load, reflV_move, reflV_assign, reflV_call, reflV_slice, sy_load aL, reflV_faddr, sy_addr eHH, sy_faddr fHo0, sy_faddr fHo1, sy_loadN aHo zHo, sy_storeN zHo, sy_alloc iHo scal_ho, sy_loadN aCh zCh, h2, h3, h10, h35, h36, h37, hlt, a1, lx, st, lx2, vEq_ch, f0, f1, l0, l1, rx.refl, Option.map_none, su, s3, et, ed, s4, e1]
      refine ⟨_, _, rfl, ?_, ?_, ?_, ?_, ?_, ?_, v4, es3, ?_, ?_, old.trans ((t3.trans ((old4.X m).mono (Nat.le_trans old2.1 old3.1))).mono old.1), hm4, hk3.monoX ⟨_, hm3⟩ (old4.X m), wf4⟩
      · exact h2
      · exact h3
      · exact h7
      · exact h35
      · exact h36
      · rfl
      · rfl
      · rw [hs, sgn, if_neg hmo]; exact o4.R
  · intro a H' ⟨h2, h3, h7, h35, h36, h37, w, es, h10, hr, old, hm', hk', hw'⟩
    rw [show ofA = atC [1, 1, 1, 1, 1, 0, 1, 0, 0] ((Try.f63.body).getD .skip) from rfl]
    simp (disch := omega) only [Try.f63, Option.getD_some, atC, es_seq, es_region, es_cond, es_exit, ops_nil, ops_cons, sy_bin, binS_lss, bindO_some, bindF_some, bindX_normal, bindX_exit, condX_false, ev_tmp, putA, upd_at, ↓reduceIte, decide_false, ↓bindO_some, ↓bindF_some, ↓bindX_normal, ↓bindX_exit, ↓condX_false, h36, h37, Int.lt_irrefl]
    refine ⟨_, _, _, rfl, by simp, rfl, ?_, ?_, w, es, ?_, by rw [chiT_all] at hr; exact hr, old, hm', hk', hw'⟩
    · exact h3
    · exact h7
    · exact h10
theorem cof_run (m : Nat) : ∀ (c : List Int), c.length ≤ 20 → (∀ y ∈ c, 1 ≤ y ∧ y ≤ 20) → ∀ {H : Heap} {v u : Value} {l : List Int} {es : List (Value × Value)}, WF H → R H v (ints l) → Part l → R H u (ints c) → H[m]? = some (.map es) → Known H es → ∀ n, 2101 + c.length ≤ n → OneC m H (evB Try.prog noC n (.func (.func 63) #[] #[]) [.agg #[.map (some m)], v, u] H) (chi c l) := by
  intro c
  induction c with
  | nil =>
    intro _ _ H v u l es hw hv hp hu hm hk n hn
    refine run_of (F := 2100) (Q := fun r => OneC m H r (chi [] l)) (fun n hn => ?_) n (by simpa using hn)
    rw [body_runS Try.func63 rfl (ok_fn (by rfl) Try.func63 rfl) (Nat.le_of_ble_eq_true rfl) (D := D0) (by kernel_rfl)]
    have old0 := Old.app H [.cells H.length true [.map (some m)]]
    have wf0 := hw.app (Nat.le_refl H.length) (o := true) (cs := [.map (some m)])
    have hlen := (hu.mono old0).lenI
    have c0 : decide ((([] : List Int).length : Int) = 0) = true := by decide
    obtain ⟨v1, H1, s1, o1, old1, wf1⟩ := of_run (z := 1) wf0 (by omega) (by omega) n (by omega)
    simp (disch := omega) only [Try.f63, es_seq, es_region, es_cond, es_ret, ops_nil, ops_cons, st_move, st_assign, st_fun, sy_len uL, sy_bin, binS_eql, bindO_some, bindF_some, bindX_normal, bindX_ret, condX_true, ev_tmp, ev_const, ev_func, putA, upd_at, Option.map_some, ↓reduceIte, Nat.reduceEqDiff, frOf_0, frOf_2, List.map_cons, List.map_nil, ↓bindO_some, ↓bindF_some, ↓bindX_normal, ↓bindX_ret, ↓condX_true, fin_r, res_nil, res_tmp, pack_1, sy_box, scal_agg, hlen, c0, s1, o1.R.scal]
    have t := old0.trans (old1.mono old0.1)
    exact ⟨_, _, es, rfl, o1.R, t.X m, by rw [t.2 m (lt_of_blk hm)]; exact hm, hk.monoX ⟨_, hm⟩ (t.X m), wf1⟩
  | cons z c ih =>
    intro hcl hc H v u l es hw hv hp hu hm hk n hn
    refine run_of (F := 2101 + c.length) (Q := fun r => OneC m H r (chi (z :: c) l)) (fun n hn => ?_) n (by simpa [Nat.add_assoc] using hn)
    rw [body_runS Try.func63 rfl (ok_fn (by rfl) Try.func63 rfl) (Nat.le_of_ble_eq_true rfl) (D := D0) (by kernel_rfl)]
    have hkc : Kc l (z :: c) := ⟨hp, hc, hcl⟩
    have hcl' : c.length ≤ 19 := by simpa using hcl
    have hz := hc z (by simp)
    have hc2 : ∀ y ∈ c, 1 ≤ y ∧ y ≤ 20 := fun y hy => hc y (by simp [hy])
    have old0 := Old.app H [.cells H.length true [.map (some m)]]
    have wf0 := hw.app (Nat.le_refl H.length) (o := true) (cs := [.map (some m)])
    have bx0 := BxM.made (B := H.length) (H := H) (Nat.le_refl _) [.map (some m)]
    have hlen := (hu.mono old0).lenI
    have c0 : decide (((z :: c).length : Int) = 0) = false := decide_eq_false (by rw [List.length_cons]; omega)
    have hlp := hp.len
    obtain ⟨H1, s1, old1, wf1⟩ := key_run wf0 (hv.mono old0) (hu.mono old0) (by omega) (by omega) (fun x hx => by have := hp.mem x hx; omega) (fun x hx => by have := hc x hx; omega) n (by omega)
    have t1 := old0.trans (old1.mono old0.1)
    have hm1 : H1[m]? = some (.map es) := by rw [t1.2 m (lt_of_blk hm)]; exact hm
    have hk1 := hk.monoX ⟨_, hm⟩ (t1.X m)
    have q1 := look_eq hm1 hk1 (txt (keyL l (z :: c)))
    have f0 := bx0.faddr 0
    have l0 : loadS (bx (ptrA H.length 0) 0) H1 = some (.map (some m)) := (bx0.mono old1).load 0
    cases hf : findA (.string (txt (keyL l (z :: c)))) es with
    | some w =>
      have g : getS es (txt (keyL l (z :: c))) = .tuple #[w, .bool true] := by unfold getS; rw [hf]
      rw [g] at q1
      have rw_ := hk1.find hkc hf
      simp (disch := omega) only [Try.f63, es_seq, es_region, es_cond, es_skip, es_ret, ops_nil, ops_cons, st_move, st_assign, st_fun, sy_len uL, sy_bin, sy_ext, ext_20, ext_21, binS_eql, bindO_some, bindF_some, bindX_normal, bindX_ret, condX_true, condX_false, ev_tmp, ev_const, ev_func, putA, upd_at, Option.map_some, ↓reduceIte, Nat.reduceEqDiff, frOf_0, frOf_1, frOf_2, List.map_cons, List.map_nil, ↓bindO_some, ↓bindF_some, ↓bindX_normal, ↓bindX_ret, ↓condX_true, ↓condX_false, fin_r, res_nil, res_tmp, pack_1, sy_box, scal_agg, sy_look, sy_faddr fCh, sy_load aMp, hlen, c0, s1, f0, l0, q1, rw_.scal]
      exact ⟨_, _, es, rfl, rw_, t1.X m, hm1, hk1, wf1⟩
    | none =>
      have g : getS es (txt (keyL l (z :: c))) = .tuple #[.slice none 0 0, .bool false] := by unfold getS; rw [hf]
      rw [g] at q1
      obtain ⟨v2, H2, s2, o2, old2, wf2⟩ := of_run (z := 0) wf1 (by omega) (by omega) n (by omega)
      have t2 := t1.trans (old2.mono t1.1)
      have hm2 : H2[m]? = some (.map es) := by rw [t2.2 m (lt_of_blk hm)]; exact hm
      have hu2 := hu.mono t2
      have a1 : addrS 1 u (vi 0) = some (pt u 0) := hu2.addrI (i := 0) (by omega) (by rw [List.length_cons]; omega)
      have l1 := hu2.loadI (i := 0) (by rw [List.length_cons]; omega)
      rw [show (z :: c).getD 0 0 = z from rfl] at l1
      obtain ⟨vh, H3, s3, oh, old3, wf3⟩ := rims_run wf2 (hv.mono t2) hp hz n (by omega)
      have t3 := t2.trans (old3.mono t2.1)
      have hm3 : H3[m]? = some (.map es) := by rw [t3.2 m (lt_of_blk hm)]; exact hm
      have bx3 : BxM 0 H3.length H3 (ptrA H.length 0) [.map (some m)] := by
        obtain ⟨b, f, e1, e2, e3, e4, e5, e6⟩ := (bx0.mono old1).mono ((old2.mono old1.1).trans (old3.mono (Nat.le_trans old1.1 old2.1)))
        exact ⟨b, f, e1, by omega, by omega, lt_of_blk e6, by have := wf3 _ _ _ _ e6; have := lt_of_blk e6; omega, e6⟩
      have ll := RG.len oh.RH
      have key := fun (A : Fr) => of_loop (a0 := A) (vk := .string (txt (keyL l (z :: c)))) (l := l) hp hz.1 hc2 hcl' wf3 (hu.mono t3) oh.RH bx3 hm3 (hk.monoX ⟨_, hm⟩ (t3.X m)) (o2.R.mono old3) n Try.f63.ntmps (by omega) (fun w1 w2 w3 w4 w5 w6 => ih (by omega) hc2 w1 w2 w3 w4 w5 w6 n (by omega))
      rw [show ofA = atC [1, 1, 1, 1, 1, 0, 1, 0, 0] ((Try.f63.body).getD .skip) from rfl] at key
      simp only [Try.f63, Option.getD_some, atC] at key
      simp (disch := omega) only [Try.f63, es_seq, es_region, es_cond, es_block, es_loop, es_skip, es_ret, ops_nil, ops_cons, st_move, st_assign, st_fun, sy_len uL, sy_addr eL, sy_load aI, sy_bin, sy_ext, ext_20, ext_21, binS_eql, bindO_some, bindF_some, bindX_normal, condX_false, ev_tmp, ev_const, ev_func, putA, upd_at, Option.map_some, ↓reduceIte, Nat.reduceEqDiff, frOf_0, frOf_1, frOf_2, List.map_cons, List.map_nil, ↓bindO_some, ↓bindF_some, ↓bindX_normal, ↓condX_false, sy_box, scal_agg, sy_look, sy_faddr fCh, sy_load aMp, sy_len uHH, hlen, c0, s1, f0, l0, q1, s2, a1, l1, s3, ll]
      generalize hA : upd _ 37 _ = A
      obtain ⟨r, a', H4, s, rfl, g3, g7, w, es4, g10, r4, old4, hm4, hk4, wf4⟩ := key A (by subst hA; rfl) (by subst hA; rfl) (by subst hA; rfl) (by subst hA; rfl) (by subst hA; rfl) (by subst hA; rfl) (by subst hA; rfl)
      have bx4 := bx3.monoX ⟨_, hm3⟩ old4
      have l4 : loadS (bx (ptrA H.length 0) 0) H4 = some (.map (some m)) := bx4.load 0
      have q4 := mapup_eq hm4 hk4 (txt (keyL l (z :: c))) r4.scal
      simp (disch := omega) only [s, bindO_some, bindF_some, bindX_normal, blkX_exit, ev_tmp, upd_at, Option.map_some, ↓reduceIte, Nat.reduceEqDiff, ↓bindO_some, ↓bindF_some, ↓bindX_normal, fin_r, res_nil, res_tmp, pack_1, sy_mapup, g3, g7, g10, f0, l4, q4, r4.scal]
      have ox := OldX.setMap H4 m (setA (.string (txt (keyL l (z :: c)))) w es4)
      exact ⟨_, _, _, rfl, R.monoX r4 ⟨_, hm4⟩ (ox _), ((t3.X m).trans (old4.mono t3.1)).trans (ox _), by rw [List.getElem?_set, if_pos rfl, if_pos (lt_of_blk hm4)], (hk4.set hkc r4).monoX ⟨_, hm4⟩ (ox _), wf4.setMap _ _⟩
end Go.Proofs.Ytmmgdgmjkhcfaaa
namespace Go.Proofs.Ytmmgdgmjkhcfaaa
open Go Go.Abs Go.Num
set_option maxRecDepth 10000
attribute [local congr] bindO_congr bindF_congr bindX_congr condX_congr iteB_congr binS_congr pickS_congr eqB_congr nilS_congr clsW_congr
theorem Kept.refl (C : Nat) (H : Heap) : Kept C H H := fun _ _ _ _ _ _ h => h
theorem Kept.trans {C : Nat} {H1 H2 H3 : Heap} (h : Kept C H1 H2) (h' : Kept C H2 H3) : Kept C H1 H3 := fun b f o cs h1 h2 h3 => h' b f o cs h1 h2 (h b f o cs h1 h2 h3)
theorem Kept.mono {C D : Nat} {H1 H2 : Heap} (h : Kept C H1 H2) (hc : C ≤ D) : Kept D H1 H2 := fun b f o cs h1 h2 h3 => h b f o cs (by omega) (by omega) h3
end Go.Proofs.Ytmmgdgmjkhcfaaa
namespace Go.Proofs.Ytmmgdgmjkhcfaaa
open Go Go.Abs Go.Num
set_option maxRecDepth 10000
attribute [local congr] bindO_congr bindF_congr bindX_congr condX_congr iteB_congr binS_congr pickS_congr eqB_congr nilS_congr clsW_congr
def Held (B C : Nat) (H : Heap) (v : Value) (l : List Value) : Prop := ∀ G, Old B H G → Kept C H G → R G v l
theorem Held.R {B C : Nat} {H : Heap} {v : Value} {l : List Value} (h : Held B C H v l) : R H v l := h H (Old.refl _ _) (Kept.refl _ _)
theorem Held.go {B C : Nat} {H G : Heap} {v : Value} {l : List Value} (h : Held B C H v l) (ho : Old B H G) (hk : Kept C H G) : Held B C G v l := fun G' h1 h2 => h G' (ho.trans h1) (Kept.trans hk h2)
theorem Old.kept {C : Nat} {H H' : Heap} (h : Old H.length H H') : Kept C H H' := fun b f o cs _ _ hb => by rw [h.2 b (lt_of_blk hb)]; exact hb
end Go.Proofs.Ytmmgdgmjkhcfaaa
namespace Go.Proofs.Ytmmgdgmjkhcfaaa
open Go Go.Abs Go.Num
set_option maxRecDepth 10000
attribute [local congr] bindO_congr bindF_congr bindX_congr condX_congr iteB_congr binS_congr pickS_congr eqB_congr nilS_congr clsW_congr maxS_congr minS_congr
structure LS (a : Fr) (f : Int) (vu vv vo : Value) (n j : Int) : Prop where
  s6 : a 6 = vi f
  s7 : a 7 = vu
  s8 : a 8 = vv
  s9 : a 9 = vi n
  s10 : a 10 = vo
  s11 : a 11 = vi j
theorem LS.upd {a : Fr} {f : Int} {vu vv vo : Value} {n j : Int} (h : LS a f vu vv vo n j) {t : Nat} (ht : 12 ≤ t) (v : Value) : LS (Abs.upd a t v) f vu vv vo n j := by
  constructor <;> rw [upd_at, if_neg (by omega)]
  · exact h.s6
  · exact h.s7
  · exact h.s8
  · exact h.s9
  · exact h.s10
  · exact h.s11
end Go.Proofs.Ytmmgdgmjkhcfaaa
namespace Go.Proofs.Ytmmgdgmjkhcfaaa
open Go Go.Abs Go.Num
set_option maxRecDepth 10000
attribute [local congr] bindO_congr bindF_congr bindX_congr condX_congr iteB_congr binS_congr pickS_congr eqB_congr nilS_congr clsW_congr maxS_congr minS_congr
theorem _root_.Go.Num.Part.sm {l : List Int} (h : Part l) : Sm l := ⟨by have := h.len; omega, fun x hx => by have := h.mem x hx; omega⟩
end Go.Proofs.Ytmmgdgmjkhcfaaa
namespace Go.Proofs.Ytmmgdgmjkhcfaaa
open Go Go.Abs Go.Num
set_option maxRecDepth 10000
attribute [local congr] bindO_congr bindF_congr bindX_congr condX_congr iteB_congr binS_congr pickS_congr eqB_congr nilS_congr clsW_congr maxS_congr minS_congr
theorem z2L : zeros Try.prog 22 1 2 = some [.slice none 0 0, .slice none 0 0] := by kernel_rfl
noncomputable def bld2 (t : TypeId) (u v : Value) (H : Heap) : Option (Value × Heap) := buildSliceA Try.prog t 2 [(0, u), (1, v)] H
theorem sy_bld2 {call : CallF} {a : Fr} {H : Heap} {d : Option Nat} {ty : TypeId} {pos : String} {aft : Array Edge} {g : Option (Nat × Bool)} {t : TypeId} {x y : Operand} : stepA Try.prog call a ⟨d, .buildSlice t 2 #[(0, x), (1, y)], ty, pos, aft, g⟩ H = bld2 t (ev a x) (ev a y) H := (rfl)
theorem bld2_LL {u v : Value} {H : Heap} (su : scal u = some [u]) (sv : scal v = some [v]) : bld2 53 u v H = some (sliceA H.length 0 2 1, H ++ [.cells H.length true [u, v]]) := by
  unfold bld2 buildSliceA
  simp only [eLL]
  rw [if_pos ⟨by omega, by unfold maxA; omega⟩]
  simp only [z2L, fillL, su, sv]
  rfl
def chk2 (l c : List Int) : Int := if chk l = 0 then chk c else chk l
noncomputable def chrA : Code := atC [1, 0, 1, 0, 0] ((Try.f18.body).getD .skip)
theorem chr_loop {H : Heap} {v u vl : Value} {l c : List Int} (hv : R H v (ints l)) (hu : R H u (ints c)) (hl : l.length ≤ 1000) (hc : c.length ≤ 1000) (hr : R H vl [v, u]) (n nt : Nat) (hn : 1020 ≤ n) {a0 : Fr} (h0 : a0 0 = v) (h1 : a0 1 = u) (h11 : a0 11 = vl) (h12 : a0 12 = vi (2 : Nat)) (h13 : a0 13 = vi (0 : Nat)) :
    ∃ r a' H', loopN (evS Try.prog (evB Try.prog noC n) n nt none chrA) n a0 H = some (r, a', H') ∧ H' = H ∧ ((r = .exit 0 ∧ chk l = 0 ∧ chk c = 0 ∧ a' 0 = v ∧ a' 1 = u) ∨ (r = .ret ∧ chk2 l c ≠ 0 ∧ a' 4 = .slice none 0 0 ∧ a' 5 = vi (chk2 l c))) := by
  refine loop_up 2 (fun i a H' => H' = H ∧ a 0 = v ∧ a 1 = u ∧ a 11 = vl ∧ a 12 = vi (2 : Nat) ∧ a 13 = vi i ∧ (1 ≤ i → chk l = 0) ∧ (2 ≤ i → chk c = 0)) _ ?_ ?_ (by omega) ⟨rfl, h0, h1, h11, h12, h13, fun h => by omega, fun h => by omega⟩
  · intro i a H' hi ⟨hH, h0, h1, h11, h12, h13, k1, k2⟩
    subst hH
    rw [show chrA = atC [1, 0, 1, 0, 0] ((Try.f18.body).getD .skip) from rfl]
    have hlt : (i : Int) < ((2 : Nat) : Int) := by omega
    have e1 : IntKind.i64.wrap ((i : Int) + 1) = ((i + 1 : Nat) : Int) := by rw [wr64 (by omega) (by omega)]; omega
    have a1 : addrS 1 vl (vi (i : Int)) = some (pt vl i) := by have := hr.addr (i := (i : Int)) (by omega) (by simp; omega); rwa [Int.toNat_natCast] at this
    have two : ∃ x m, loadS (pt vl i) H' = some x ∧ R H' x (ints m) ∧ m.length ≤ 1000 ∧ (i = 0 ∧ m = l ∨ i = 1 ∧ m = c) := by
      have hld := hr.load (i := i) (by simp; omega)
      match i, hi with
      | 0, _ => exact ⟨v, l, hld, hv, hl, .inl ⟨rfl, rfl⟩⟩
      | 1, _ => exact ⟨u, c, hld, hu, hc, .inr ⟨rfl, rfl⟩⟩
    obtain ⟨x, m, l1, rx, lm, hm⟩ := two
    have s1 := ccheck_run rx lm n (by omega)
    by_cases hz : chk m = 0
    · left
      have c1 : decide (chk m = 0) = true := decide_eq_true hz
      simp (disch := omega) only [Try.f18, Option.getD_some, atC, es_seq, es_region, es_cond, es_block, es_skip, ops_nil, ops_cons, st_move, st_assign, st_fun, sy_bin, binS_lss, binS_neq, binS_add, bindO_some, bindF_some, bindX_normal, blkX_normal, condX_true, condX_false, ev_tmp, ev_const, ev_func, putA, upd_at, Option.map_some, ↓reduceIte, Nat.reduceEqDiff, List.map_cons, List.map_nil, decide_true, Bool.not_true, ↓bindO_some, ↓bindF_some, ↓bindX_normal, ↓condX_true, ↓condX_false, sy_addr eLL, sy_load aL, h11, h12, h13, hlt, a1, l1, s1, c1, e1]
      refine ⟨_, _, rfl, rfl, ?_, ?_, ?_, ?_, ?_, fun h => ?_, fun h => ?_⟩
      · exact h0
      · exact h1
      · exact h11
      · exact h12
      · rfl
      · rcases hm with ⟨rfl, rfl⟩ | ⟨rfl, rfl⟩
        · exact hz
        · exact k1 (by omega)
      · rcases hm with ⟨rfl, rfl⟩ | ⟨rfl, rfl⟩
        · omega
        · exact hz
    · right
      have c1 : decide (chk m = 0) = false := decide_eq_false hz
      have hq : chk2 l c = chk m := by
        unfold chk2
        rcases hm with ⟨rfl, rfl⟩ | ⟨rfl, rfl⟩
        · rw [if_neg hz]
        · rw [if_pos (k1 (by omega))]
      simp (disch := omega) only [Try.f18, Option.getD_some, atC, es_seq, es_region, es_cond, es_block, es_skip, es_ret, ops_nil, ops_cons, st_move, st_assign, st_fun, sy_bin, binS_lss, binS_neq, bindO_some, bindF_some, bindX_normal, bindX_ret, blkX_ret, condX_true, ev_tmp, ev_const, ev_func, putA, upd_at, Option.map_some, ↓reduceIte, Nat.reduceEqDiff, List.map_cons, List.map_nil, decide_true, Bool.not_false, ↓bindO_some, ↓bindF_some, ↓bindX_normal, ↓bindX_ret, ↓condX_true, sy_addr eLL, sy_load aL, h11, h12, h13, hlt, a1, l1, s1, c1]
      refine ⟨_, _, _, rfl, by simp, rfl, .inr ⟨rfl, by rw [hq]; exact hz, ?_, ?_⟩⟩
      · rfl
      · rw [hq]; rfl
  · intro a H' ⟨hH, h0, h1, h11, h12, h13, k1, k2⟩
    subst hH
    rw [show chrA = atC [1, 0, 1, 0, 0] ((Try.f18.body).getD .skip) from rfl]
    simp (disch := omega) only [Try.f18, Option.getD_some, atC, es_seq, es_region, es_cond, es_exit, ops_nil, ops_cons, sy_bin, binS_lss, bindO_some, bindF_some, bindX_normal, bindX_exit, condX_false, ev_tmp, putA, upd_at, ↓reduceIte, decide_false, ↓bindO_some, ↓bindF_some, ↓bindX_normal, ↓bindX_exit, ↓condX_false, h12, h13, Int.lt_irrefl]
    refine ⟨_, _, _, rfl, by simp, rfl, .inl ⟨rfl, k1 (by omega), k2 (by omega), ?_, ?_⟩⟩
    · exact h0
    · exact h1
theorem WF.appMap {H : Heap} (h : WF H) (es : List (Value × Value)) : WF (H ++ [.map es]) := by
  intro b f' o' cs' hb
  by_cases hlt : b < H.length
  · rw [List.getElem?_append_left hlt] at hb; exact h b f' o' cs' hb
  · rw [List.getElem?_append_right (by omega)] at hb
    have : b - H.length = 0 := by
      have := lt_of_blk hb; simp at this; omega
    rw [this] at hb
    simp at hb
theorem sy_mkmap {call : CallF} {a : Fr} {H : Heap} {d : Option Nat} {ty : TypeId} {pos : String} {aft : Array Edge} {g : Option (Nat × Bool)} : stepA Try.prog call a ⟨d, .makeMap 76 none, ty, pos, aft, g⟩ H = some (.map (some H.length), H ++ [.map []]) := by
  show aexec Try.prog a ⟨d, .makeMap 76 none, ty, pos, aft, g⟩ H = _
  simp only [aexec, uMp]
  rfl
theorem iCh : zeroT Try.prog 78 = some (.agg #[.map none]) := by kernel_rfl
theorem uCh : Try.prog.underlying 78 = some (.struct (sfs 78)) := by kernel_rfl
theorem oCh : sizesOf Try.prog (sfs 78).toList = some [(0, 1)] := by kernel_rfl
theorem bCh (m : Nat) : buildA Try.prog 78 [(0, .map (some m))] = some (.agg #[.map (some m)]) := by
  have hb : scal (.map (some m)) = some [.map (some m)] := rfl
  simp only [buildA, iCh, uCh, oCh, fillL, hb]
  rfl
theorem scal_ch0 : scal (.agg #[.map none]) = some [.map none] := (rfl)
theorem newch_run {H : Heap} (hw : WF H) (n : Nat) (hn : 1 ≤ n) : ∃ H', evB Try.prog noC n (.func (.func 62) #[] #[]) [] H = some (.agg #[.map (some (H.length + 1))], H') ∧ H'[H.length + 1]? = some (.map []) ∧ Old H.length H H' ∧ WF H' := by
  refine run_of (F := 0) (Q := fun q => ∃ H', q = some (.agg #[.map (some (H.length + 1))], H') ∧ H'[H.length + 1]? = some (.map []) ∧ Old H.length H H' ∧ WF H') (fun n hn => ?_) n hn
  rw [body_runS Try.func62 rfl (ok_fn (by rfl) Try.func62 rfl) (Nat.le_of_ble_eq_true rfl) (D := D0) (by kernel_rfl)]
  have old1 := Old.app H [.cells H.length true [.map none]]
  have wf1 := hw.app (Nat.le_refl H.length) (o := true) (cs := [.map none])
  have hl1 : (H ++ [Blk.cells H.length true [.map none]]).length = H.length + 1 := by simp
  have b1 := BxM.made (B := H.length) (H := H) (Nat.le_refl _) [.map none]
  have old2 := Old.app (H ++ [.cells H.length true [.map none]]) [.map []]
  have wf2 := WF.appMap wf1 []
  have m2 : ((H ++ [Blk.cells H.length true [.map none]]) ++ [Blk.map []])[H.length + 1]? = some (.map []) := by rw [← hl1]; simp
  generalize hH1 : H ++ [Blk.cells H.length true [.map none]] = H1 at *
  obtain ⟨H3, s3, b3, old3, wf3, -⟩ := (b1.mono old2).store wf2 (vs := [.map (some (H.length + 1))]) rfl
  have m3 : H3[H.length + 1]? = some (.map []) := by
    obtain ⟨b, f, e1, e2, e3, e4, e5, e6⟩ := b1.mono old2
    obtain rfl : H.length = b := by
      have := e1
      simp only [ptrA, Value.pointer.injEq, Option.some.injEq, Addr.mk.injEq] at this
      exact this.1
    have e : storeN 1 (ptrA H.length 0) (.agg #[.map (some (H.length + 1))]) (H1 ++ [Blk.map []]) = some (((H1 ++ [Blk.map []]).map (truncFam f 0)).set H.length (.cells f true (setList [.map none] 0 [.map (some (H.length + 1))]))) := by
      simp [storeN, ptrA, scal_ch, Heap.write, e6]
    have s3 : storeN 1 (ptrA H.length 0) (.agg #[.map (some (H.length + 1))]) (H1 ++ [Blk.map []]) = some H3 := s3
    rw [e] at s3
    injection s3 with s3
    rw [← s3, List.getElem?_set, if_neg (by omega), List.getElem?_map, m2]
    rfl
  have s3 : storeN 1 (ptrA H.length 0) (.agg #[.map (some (H.length + 1))]) (H1 ++ [Blk.map []]) = some H3 := s3
  have ld : loadN 1 (ptrA H.length 0) H3 = some (.agg #[.map (some (H.length + 1))]) := b3.loadAll
  simp (disch := omega) only [Try.f62, es_seq, es_region, es_ret, ops_nil, ops_cons, bindO_some, bindF_some, bindX_normal, ev_tmp, putA, upd_at, Option.map_some, ↓reduceIte, Nat.reduceEqDiff, List.map_cons, List.map_nil, ↓bindO_some, ↓bindF_some, ↓bindX_normal, fin_r, res_nil, pack_1, sy_build, sy_mkmap, sy_alloc iCh scal_ch0, sy_storeN zCh, bCh, hH1, hl1, s3, res_cell aCh zCh, ld, List.map_cons, List.map_nil]
  exact ⟨_, rfl, m3, old1.trans ((old2.mono old1.1).trans old3), wf3⟩
end Go.Proofs.Ytmmgdgmjkhcfaaa
namespace Go.Proofs.Ytmmgdgmjkhcfaaa
open Go Go.Abs Go.Num
set_option maxRecDepth 10000
attribute [local congr] bindO_congr bindF_congr bindX_congr condX_congr iteB_congr binS_congr pickS_congr eqB_congr nilS_congr clsW_congr maxS_congr minS_congr
def wantC (l c : List Int) : Int := if chk2 l c = 0 then (if l.sum = c.sum then 0 else 10) else chk2 l c
theorem chrP_run {H : Heap} {v u : Value} {l c : List Int} (hw : WF H) (hv : R H v (ints l)) (hu : R H u (ints c)) (hl : l.length ≤ 1000) (hc : c.length ≤ 1000) (n : Nat) (hn : 2200 ≤ n) :
    ∃ w H', evB Try.prog noC n (.func (.func 18) #[] #[]) [v, u] H = some (.tuple #[w, vi (wantC l c)], H') ∧ Old H.length H H' ∧ WF H' ∧ (wantC l c ≠ 0 → w = .slice none 0 0) ∧ (wantC l c = 0 → O H.length H' w (ints (nf (chi c l)))) := by
  refine run_of (F := 2199) (Q := fun q => ∃ w H', q = some (.tuple #[w, vi (wantC l c)], H') ∧ Old H.length H H' ∧ WF H' ∧ (wantC l c ≠ 0 → w = .slice none 0 0) ∧ (wantC l c = 0 → O H.length H' w (ints (nf (chi c l))))) (fun n hn => ?_) n hn
  rw [body_runS Try.func18 rfl (ok_fn (by rfl) Try.func18 rfl) (Nat.le_of_ble_eq_true rfl) (D := D0) (by kernel_rfl)]
  have old1 := Old.app H [.cells H.length true [v, u]]
  have wf1 := hw.app (Nat.le_refl H.length) (o := true) (cs := [v, u])
  have r1 : R (H ++ [.cells H.length true [v, u]]) (sliceA H.length 0 2 1) [v, u] := (O.made (B := H.length) (H := H) (Nat.le_refl _) [v, u]).R
  have b1 := bld2_LL (H := H) hv.scal hu.scal
  have hv1 := hv.mono old1
  have hu1 := hu.mono old1
  have ll : lenS (sliceA H.length 0 2 1) = some 2 := rfl
  generalize hH1 : H ++ [Blk.cells H.length true [v, u]] = H1 at *
  have key := fun (A : Fr) => chr_loop (a0 := A) hv1 hu1 hl hc r1 n Try.f18.ntmps (by omega)
  rw [show chrA = atC [1, 0, 1, 0, 0] ((Try.f18.body).getD .skip) from rfl] at key
  simp only [Try.f18, Option.getD_some, atC] at key
  simp (disch := omega) only [Try.f18, es_seq, es_region, es_cond, es_block, es_loop, es_skip, es_ret, ops_nil, ops_cons, st_move, st_assign, st_fun, sy_bin, bindO_some, bindF_some, bindX_normal, ev_tmp, ev_const, ev_func, putA, upd_at, Option.map_some, ↓reduceIte, Nat.reduceEqDiff, frOf_0, frOf_1, List.map_cons, List.map_nil, ↓bindO_some, ↓bindF_some, ↓bindX_normal, sy_bld2, b1, sy_len uLL, ll]
  generalize hA : upd _ 13 _ = A
  obtain ⟨r, a', H2, s, e2, h⟩ := key A (by subst hA; rfl) (by subst hA; rfl) (by subst hA; rfl) (by subst hA; rfl) (by subst hA; rfl)
  subst e2
  rcases h with ⟨rfl, k1, k2, g0, g1⟩ | ⟨rfl, hne, g4, g5⟩
  · have hpl := chk_part k1
    have hpc := chk_part k2
    have hk : chk2 l c = 0 := by unfold chk2; rw [if_pos k1]; exact k2
    have s1 := csize_run hv1 hpl.sm n (by omega)
    have s2 := csize_run hu1 hpc.sm n (by omega)
    by_cases hq : l.sum = c.sum
    · have hwc : wantC l c = 0 := by unfold wantC; rw [if_pos hk, if_pos hq]
      have c1 : decide (l.sum = c.sum) = true := decide_eq_true hq
      obtain ⟨H3, s3, m3, old3, wf3⟩ := newch_run wf1 n (by omega)
      have t3 := old1.trans (old3.mono old1.1)
      obtain ⟨w4, H4, es, s4, r4, old4, hm4, hk4, wf4⟩ := cof_run (H2.length + 1) c hpc.len hpc.mem wf3 (hv1.mono old3) hpl (hu1.mono old3) m3 (fun e he => by cases he) n (by have := hpc.len; omega)
      have t4 : Old H2.length H3 H4 := ⟨old4.1, fun b hb => old4.2 b (by have := old3.1; omega) (by omega)⟩
      obtain ⟨w5, H5, s5, o5, old5, wf5⟩ := clone_run wf4 r4 (by have := (chi_nf (c := c) (l := l) (fun y hy => (hpc.mem y hy).1) hpc.len hpl).1; omega) n (by omega)
      simp (disch := omega) only [s, binS_neq, bindO_some, bindF_some, bindX_normal, blkX_exit, condX_false, upd_at, Option.map_some, ↓reduceIte, Nat.reduceEqDiff, Bool.not_true, ↓bindO_some, ↓bindF_some, ↓bindX_normal, ↓condX_false, fin_r, res_nil, res_tmp, pack_2, scal_vi, g0, g1, s1, s2, c1, s3, s4, s5, o5.R.scal]
      have t5 := (t3.trans (t4.mono old1.1)).trans (old5.mono (Nat.le_trans (Nat.le_trans old1.1 old3.1) old4.1))
      exact ⟨_, _, by rw [hwc], t5, wf5, fun h => absurd hwc h, fun _ => o5.below (Nat.le_trans (Nat.le_trans old1.1 old3.1) old4.1)⟩
    · have hwc : wantC l c = 10 := by unfold wantC; rw [if_pos hk, if_neg hq]
      have c1 : decide (l.sum = c.sum) = false := decide_eq_false hq
      simp (disch := omega) only [s, binS_neq, bindO_some, bindF_some, bindX_normal, bindX_ret, blkX_exit, condX_true, upd_at, Option.map_some, ↓reduceIte, Nat.reduceEqDiff, Bool.not_false, ↓bindO_some, ↓bindF_some, ↓bindX_normal, ↓bindX_ret, ↓condX_true, fin_r, res_nil, res_tmp, pack_2, scal_vi, scal_nil, g0, g1, s1, s2, c1]
      exact ⟨_, _, by rw [hwc], old1, wf1, fun _ => rfl, fun h => by rw [hwc] at h; cases h⟩
  · have hwc : wantC l c = chk2 l c := by unfold wantC; rw [if_neg hne]
    simp (disch := omega) only [s, bindX_ret, blkX_ret, Option.map_some, ↓bindX_ret, fin_r, res_nil, res_tmp, pack_2, scal_vi, scal_nil, g4, g5]
    exact ⟨_, _, by rw [hwc], old1, wf1, fun _ => rfl, fun h => by rw [hwc] at h; exact absurd h hne⟩
end Go.Proofs.Ytmmgdgmjkhcfaaa
namespace Go.Proofs.Ytmmgdgmjkhcfaaa
open Go Go.Abs
def Row (k : IntKind) (w : World) (a : Option Addr) (len cap : Nat) (zs : List Int) : Prop :=
  (a = none ∧ len = 0 ∧ cap = 0 ∧ zs = []) ∨
  ∃ x, a = some x ∧ len ≤ cap ∧ cap ≤ maxLen ∧ zs.length = cap ∧ (∀ i, i < zs.length → w.cell? (x.add i) = some (.int k (zs.getD i 0))) ∧ ∀ n ∈ zs, (Lit.int k n).wf = true
theorem row_at {w : World} {a : Option Addr} {len cap : Nat} {zs : List Int} (h : Row .i64 w a len cap zs) :
    ArgAt w (.imm (.slice none 0 0)) (.slice a len cap) ∨ ArgAt w (.imm lostSlice) (.slice a len cap) ∨ ∃ l : List Int, 0 < l.length ∧ ArgAt w (.li (ints l)) (.slice a len cap) := by
  rcases h with ⟨rfl, rfl, rfl, _⟩ | ⟨x, rfl, h1, h2, h3, h4, _⟩
  · exact .inl (.imm fun m => .a (.s .sliceNil))
  · by_cases h0 : len = 0
    · subst h0
      exact .inr (.inl (.imm fun m => .a (.s (.lost _ _ _ _))))
    · refine .inr (.inr ⟨zs.take len, by rw [List.length_take]; omega, ?_⟩)
      obtain ⟨g, o, s⟩ := x
      have hc0 := h4 0 (by omega)
      unfold World.cell? Addr.add at hc0
      simp only at hc0
      split at hc0
      case h_2 => cases hc0
      rename_i C el fr hh
      have hs : s = none := by
        cases s with
        | none => rfl
        | some p => simp at hc0
      subst hs
      have hG : w.heap[g]? = some (.cells C el fr) := hh
      have hcell : ∀ i, i < zs.length → C[o + i]? = some (.int .i64 (zs.getD i 0)) := fun i hi => by
        have := h4 i hi
        unfold World.cell? Addr.add at this
        by_cases hi0 : i = 0
        · subst hi0
          rw [if_pos rfl] at this
          simp only at this
          rw [hG] at this
          exact this
        · rw [if_neg hi0] at this
          simp only at this
          rw [hG] at this
          exact this
      have hlen : len = (zs.take len).length := by rw [List.length_take]; omega
      have hsz : o + cap ≤ C.size := by
        have := hcell (cap - 1) (by omega)
        have := Array.getElem?_eq_some_iff.1 this
        obtain ⟨h, _⟩ := this
        omega
      have key := ArgAt.li (w := w) (l := ints (zs.take len)) (g := g) (o := o) (cap := cap) hG (by rw [ints_len, ← hlen]; exact h1) hsz (fun i v hv => by
        unfold ints at hv
        rw [List.getElem?_map, List.getElem?_take] at hv
        split at hv
        · rename_i hi
          have h5 : i < zs.length := by omega
          rw [List.getElem?_eq_getElem h5] at hv
          cases hv
          rw [hcell i h5, List.getD_eq_getElem?_getD, List.getElem?_eq_getElem h5]
          rfl
        · cases hv) (fun v hv => by
        unfold ints at hv
        obtain ⟨z, _, rfl⟩ := List.mem_map.1 hv
        rfl)
      rw [ints_len, ← hlen] at key
      exact key
end Go.Proofs.Ytmmgdgmjkhcfaaa
namespace Go.Proofs.Ytmmgdgmjkhcfaaa
open Go Go.Abs
def posV (n : Nat) : Value := .int .i64 (Int.ofNat n)
def i (n : Nat) : Arg := .imm (posV n)
def lo : Arg := .imm lostSlice
def L (l : List Nat) : Arg := .li (l.map posV)
def trueR : Res := (.bool true, [])
noncomputable def run (sp : Abs.Spec) : CallFF := evF Try.prog okN (tabF sp) 200
def Seen (sp : Abs.Spec) (g : Nat) (l : List Line) : Prop := allK l (fun x => seenK (run sp) g x.1 x.2) = RC.skip
abbrev Ok (sp : Abs.Spec) : Prop := SpOk Try.prog sp
theorem ok_of {sp : Abs.Spec} (h : Ok sp) {g : Nat} {l : List Line} (hs : Seen sp g l) : ∀ x ∈ l, LineOK Try.prog g x.1 x.2 := h.seen hF hmix hs
noncomputable def lay (sp : Abs.Spec) (g : Nat) (l : List Line) : Abs.Spec := sp.add g (linesT (treeOf l))
def isTrue (r : RC) : Bool := match r with
  | .val (.bool true) _ => true
  | _ => false
end Go.Proofs.Ytmmgdgmjkhcfaaa
namespace Go.Proofs.Ytmmgdgmjkhcfaaa
open Go Go.Abs
theorem awake_line : LineOK Try.prog 15 [] trueR :=
  ok_of (noSpec_good _) (l := [([], trueR)]) (show Seen noSpec 15 [([], trueR)] from by unfold Seen; kernel_rfl) _ (List.mem_singleton.2 rfl)
end Go.Proofs.Ytmmgdgmjkhcfaaa
namespace Go.Proofs.Ytmmgdgmjkhcfaaa
open Go Go.Abs
set_option maxRecDepth 10000
noncomputable def awkS : Nat → List Arg → Option Res := fun f xs => match xs with
  | [] => if f = 15 then some trueR else none
  | _ => none
theorem awkS_ok : ∀ f xs r, awkS f xs = some r → LineOK Try.prog f xs r := by
  intro f xs r h
  unfold awkS at h
  split at h
  · split at h
    · rename_i hf; subst hf; cases h; exact awake_line
    · cases h
  · cases h
noncomputable def callA (n : Nat) : CallF := Abs.orC (tabC awkS) (evB Try.prog noC n)
theorem callA_ok (n : Nat) : CallOK Try.prog (callA n) := Abs.orC_ok (tabC_ok awkS_ok) (evB_ok hmix noC_ok noC_grow n)
theorem callA_grow (n : Nat) : CallGrow (callA n) := Abs.orC_grow (tabC_grow _) (evB_grow noC_grow n)
theorem ca_other {n f : Nat} {args : List Value} {H : Heap} (h : f ≠ 15) : callA n (.func (.func f) #[] #[]) args H = evB Try.prog noC n (.func (.func f) #[] #[]) args H := by
  unfold callA Abs.orC
  have e : tabC awkS (.func (.func f) #[] #[]) args H = none := by
    unfold tabC
    simp only
    split
    · split
      · rename_i xs _
        have : awkS f xs = none := by
          unfold awkS
          split
          · rw [if_neg h]
          · rfl
        rw [this]
      · rfl
    · rfl
  rw [e]
theorem ca_awake {n : Nat} {H : Heap} : callA n (.func (.func 15) #[] #[]) [] H = some (.bool true, H) := by
  unfold callA Abs.orC
  have e : tabC awkS (.func (.func 15) #[] #[]) [] H = some (.bool true, H ++ []) := rfl
  rw [e, List.append_nil]
end Go.Proofs.Ytmmgdgmjkhcfaaa
namespace Go.Proofs.Ytmmgdgmjkhcfaaa
open Go Go.Abs Go.Num
set_option maxRecDepth 10000
attribute [local congr] bindO_congr bindF_congr bindX_congr condX_congr iteB_congr binS_congr pickS_congr eqB_congr nilS_congr clsW_congr maxS_congr minS_congr
theorem row_two {w : World} {a b : Option Addr} {len cap len' cap' : Nat} {zs zs' : List Int} (h : Row .i64 w a len cap zs) (h' : Row .i64 w b len' cap' zs') : ∃ (x y : Arg) (l c : List Int) (v u : Value), ArgAt w x (.slice a len cap) ∧ ArgAt w y (.slice b len' cap') ∧ mkVals 0 [x, y] = [v, u] ∧ R (mkHeap 0 [x, y]) v (ints l) ∧ R (mkHeap 0 [x, y]) u (ints c) ∧ WF (mkHeap 0 [x, y]) := by
  have w1 : ∀ m : List Value, WF [.cells 0 false m] := fun m b f o cs hb => by
    cases b with
    | zero => simp at hb; omega
    | succ b => simp at hb
  have w2 : ∀ m k : List Value, WF [.cells 0 false m, .cells 1 false k] := fun m k b f o cs hb => by
    match b with
    | 0 => simp at hb; omega
    | 1 => simp at hb; omega
    | b + 2 => simp at hb
  have w0 : WF [] := fun b f o cs hb => by simp at hb
  have r1 : ∀ (l : List Int) (H : Heap) (j : Nat), H[j]? = some (.cells j false (ints l)) → R H (sliceA j 0 (ints l).length 1) (ints l) := fun l H j h => .inr (.inr ⟨j, 0, j, false, ints l, rfl, h, by simp, by simp⟩)
  rcases row_at h with h | h | ⟨l, hl, h⟩ <;> rcases row_at h' with h' | h' | ⟨c, hc, h'⟩
  · exact ⟨_, _, [], [], _, _, h, h', rfl, .inl ⟨rfl, rfl⟩, .inl ⟨rfl, rfl⟩, w0⟩
  · exact ⟨_, _, [], [], _, _, h, h', rfl, .inl ⟨rfl, rfl⟩, .inr (.inl ⟨rfl, rfl⟩), w0⟩
  · exact ⟨_, _, [], c, _, _, h, h', rfl, .inl ⟨rfl, rfl⟩, r1 c _ 0 rfl, w1 _⟩
  · exact ⟨_, _, [], [], _, _, h, h', rfl, .inr (.inl ⟨rfl, rfl⟩), .inl ⟨rfl, rfl⟩, w0⟩
  · exact ⟨_, _, [], [], _, _, h, h', rfl, .inr (.inl ⟨rfl, rfl⟩), .inr (.inl ⟨rfl, rfl⟩), w0⟩
  · exact ⟨_, _, [], c, _, _, h, h', rfl, .inr (.inl ⟨rfl, rfl⟩), r1 c _ 0 rfl, w1 _⟩
  · exact ⟨_, _, l, [], _, _, h, h', rfl, r1 l _ 0 rfl, .inl ⟨rfl, rfl⟩, w1 _⟩
  · exact ⟨_, _, l, [], _, _, h, h', rfl, r1 l _ 0 rfl, .inr (.inl ⟨rfl, rfl⟩), w1 _⟩
  · exact ⟨_, _, l, c, _, _, h, h', rfl, r1 l _ 0 rfl, r1 c _ 1 rfl, w2 _ _⟩
set_option maxHeartbeats 1000000 in
theorem charLaw_run {H : Heap} {v u : Value} {l c : List Int} (hw : WF H) (hv : R H v (ints l)) (hu : R H u (ints c)) : ∃ H', evBody Try.prog (callA 200000000) 200000000 (.func (.func 3) #[] #[]) [v, u] H = some (.bool true, H') := by
  obtain ⟨n, hn⟩ : ∃ n, n = 200000000 := ⟨_, rfl⟩
  rw [← hn]
  rw [body_runS (c := (Try.f3.body).getD .skip) Try.func3 rfl (ok_fn (by rfl) Try.func3 rfl) (Nat.le_of_ble_eq_true rfl) (D := D0) (by kernel_rfl)]
  have s0 := long_run hv n (by omega)
  have s00 := long_run hu n (by omega)
  by_cases hlong : (40 : Int) < (l.length : Int)
  · rw [decide_eq_true hlong] at s0
    simp (disch := omega) only [Try.f3, Option.getD_some, es_seq, es_region, es_cond, es_ret, ops_nil, ops_cons, ops_consG, st_move, st_assign, sy_pick, pickS_true, st_fun, bindO_some, bindF_some, bindX_normal, bindX_ret, condX_true, iteB_false, ev_tmp, ev_const, ev_func, putA, upd_at, Option.map_some, ↓reduceIte, Nat.reduceEqDiff, frOf_0, List.map_cons, List.map_nil, Bool.not_true, yieldO_eq, yO, yV_bool, some_false, List.getElem?_cons_zero, List.getElem?_cons_succ, ↓bindO_some, ↓bindF_some, ↓bindX_normal, ↓bindX_ret, ↓condX_true, ↓iteB_false, fin_r, res_nil, res_tmp, pack_1, scal_bool, ca_other, ca_awake, s0]
    exact ⟨_, rfl⟩
  rw [decide_eq_false hlong] at s0
  by_cases hlong2 : (40 : Int) < (c.length : Int)
  · rw [decide_eq_true hlong2] at s00
    simp (disch := omega) only [Try.f3, Option.getD_some, es_seq, es_region, es_cond, es_ret, ops_nil, ops_cons, ops_consG, st_move, st_assign, sy_pick, pickS_false, st_fun, bindO_some, bindF_some, bindX_normal, bindX_ret, condX_true, iteB_true, ev_tmp, ev_const, ev_func, putA, upd_at, Option.map_some, ↓reduceIte, Nat.reduceEqDiff, frOf_0, frOf_1, List.map_cons, List.map_nil, yieldO_eq, yO, yV_bool, List.getElem?_cons_zero, List.getElem?_cons_succ, beq_self_eq_true, ↓bindO_some, ↓bindF_some, ↓bindX_normal, ↓bindX_ret, ↓condX_true, ↓iteB_true, fin_r, res_nil, res_tmp, pack_1, scal_bool, ca_other, ca_awake, s0, s00]
    exact ⟨_, rfl⟩
  rw [decide_eq_false hlong2] at s00
  have hl : l.length ≤ 1000 := by omega
  have hcl : c.length ≤ 1000 := by omega
  have s1 := rcheck_run hv hl n (by omega)
  have s2 := rcheck_run hu hcl n (by omega)
  obtain ⟨w, H1, s3, old1, wf1, hw1, hw2⟩ := chrP_run hw hv hu hl hcl n (by omega)
  have z0 : decide ((0 : Int) = 0) = true := rfl
  have z1 : decide ((10 : Int) = 0) = false := rfl
  have z2 : decide ((10 : Int) = 10) = true := rfl
  by_cases h1 : chk l = 0
  · by_cases h2 : chk c = 0
    · have hk : chk2 l c = 0 := by unfold chk2; rw [if_pos h1, h2]
      have hpl := chk_part h1
      have hpc := chk_part h2
      have s4 := rsize_run hv hpl.sm n (by omega)
      have s5 := rsize_run hu hpc.sm n (by omega)
      rw [h1] at s1
      rw [h2] at s2
      by_cases h3 : l.sum = c.sum
      · have hwc : wantC l c = 0 := by unfold wantC; rw [if_pos hk, if_pos h3]
        have c3 : decide (l.sum = c.sum) = true := decide_eq_true h3
        by_cases h4 : 9 < l.sum
        · have c4 : decide (9 < l.sum) = true := decide_eq_true h4
          clear s3
          simp (maxSteps := 1000000) (disch := omega) only [Try.f3, Option.getD_some, es_seq, es_region, es_cond, es_skip, es_ret, ops_nil, ops_cons, ops_consG, st_move, st_assign, sy_pick, pickS_true, pickS_false, st_fun, sy_bin, binS_gtr, binS_eql, binS_neq, bindO_some, bindF_some, bindX_normal, bindX_ret, condX_true, condX_false, iteB_true, ev_tmp, ev_const, ev_func, putA, upd_at, Option.map_some, ↓reduceIte, Nat.reduceEqDiff, frOf_0, frOf_1, List.map_cons, List.map_nil, decide_true, Bool.not_true, yieldO_eq, yO, yV_bool, List.getElem?_cons_zero, List.getElem?_cons_succ, beq_self_eq_true, ↓bindO_some, ↓bindF_some, ↓bindX_normal, ↓bindX_ret, ↓condX_true, ↓condX_false, ↓iteB_true, fin_r, res_nil, res_tmp, pack_1, scal_bool, ca_other, ca_awake, s0, s00, s1, s2, s4, s5, c3, c4]
          exact ⟨_, rfl⟩
        · have c4 : decide (9 < l.sum) = false := decide_eq_false h4
          rw [hwc] at s3
          have ho := hw2 hwc
          obtain ⟨w2, H2, s6, o6, old2, wf2⟩ := rchi_run c hpc.len hpc.mem wf1 (hv.mono old1) hpl (hu.mono old1) n (by have := hpc.len; omega)
          have hn12 := (chi_nf (c := c) (l := l) (fun y hy => (hpc.mem y hy).1) hpc.len hpl).1
          have s7 := ints_run (ho.R.mono old2) o6.R (by omega) (by omega) n (by omega)
          rw [decide_eq_true rfl] at s7
          simp (maxSteps := 1000000) (disch := omega) only [Try.f3, Option.getD_some, es_seq, es_region, es_cond, es_skip, es_ret, ops_nil, ops_cons, ops_consG, st_move, st_assign, sy_pick, pickS_true, pickS_false, st_fun, sy_bin, sy_ext, ext_20, ext_21, binS_gtr, binS_eql, binS_neq, bindO_some, bindF_some, bindX_normal, condX_true, condX_false, iteB_true, ev_tmp, ev_const, ev_func, putA, upd_at, Option.map_some, ↓reduceIte, Nat.reduceEqDiff, frOf_0, frOf_1, List.map_cons, List.map_nil, decide_true, Bool.not_true, yieldO_eq, yO, yV_bool, List.getElem?_cons_zero, List.getElem?_cons_succ, beq_self_eq_true, ↓bindO_some, ↓bindF_some, ↓bindX_normal, ↓condX_true, ↓condX_false, ↓iteB_true, fin_r, res_nil, res_tmp, pack_1, scal_bool, ca_other, ca_awake, s0, s00, s1, s2, s3, s4, s5, s6, s7, c3, c4]
          exact ⟨_, rfl⟩
      · have hwc : wantC l c = 10 := by unfold wantC; rw [if_pos hk, if_neg h3]
        have c3 : decide (l.sum = c.sum) = false := decide_eq_false h3
        obtain rfl := hw1 (by rw [hwc]; decide)
        rw [hwc] at s3
        have ln : lenS (.slice none 0 0) = some 0 := rfl
        simp (maxSteps := 1000000) (disch := omega) only [Try.f3, Option.getD_some, es_seq, es_region, es_cond, es_skip, es_ret, ops_nil, ops_cons, ops_consG, st_move, st_assign, sy_pick, pickS_true, pickS_false, st_fun, sy_len uL, sy_bin, sy_ext, ext_20, ext_21, binS_eql, binS_neq, bindO_some, bindF_some, bindX_normal, condX_true, condX_false, iteB_true, iteB_false, ev_tmp, ev_const, ev_func, putA, upd_at, Option.map_some, ↓reduceIte, Nat.reduceEqDiff, frOf_0, frOf_1, List.map_cons, List.map_nil, decide_true, Bool.not_false, yieldO_eq, yO, yV_bool, some_true, List.getElem?_cons_zero, List.getElem?_cons_succ, beq_self_eq_true, ↓bindO_some, ↓bindF_some, ↓bindX_normal, ↓condX_true, ↓condX_false, ↓iteB_true, ↓iteB_false, ca_other, ca_awake, s0, s00, s1, s2, s3, s4, s5, c3, ln, z1]
        exact ⟨_, rfl⟩
    · have hk : wantC l c = chk c := by unfold wantC chk2; rw [if_pos h1, if_neg h2]
      have hne : wantC l c ≠ 0 := by rw [hk]; exact h2
      obtain rfl := hw1 hne
      rw [hk] at s3
      rw [h1] at s1
      have c1 : decide (chk c = 0) = false := decide_eq_false h2
      have c2 : decide (chk c = chk c) = true := decide_eq_true rfl
      have ln : lenS (.slice none 0 0) = some 0 := rfl
      simp (maxSteps := 1000000) (disch := omega) only [Try.f3, Option.getD_some, es_seq, es_region, es_cond, es_skip, es_ret, ops_nil, ops_cons, ops_consG, st_move, st_assign, sy_pick, pickS_true, pickS_false, st_fun, sy_len uL, sy_bin, sy_ext, ext_20, ext_21, binS_eql, binS_neq, bindO_some, bindF_some, bindX_normal, condX_true, condX_false, iteB_true, iteB_false, ev_tmp, ev_const, ev_func, putA, upd_at, Option.map_some, ↓reduceIte, Nat.reduceEqDiff, frOf_0, frOf_1, List.map_cons, List.map_nil, decide_true, Bool.not_false, yieldO_eq, yO, yV_bool, some_true, List.getElem?_cons_zero, List.getElem?_cons_succ, beq_self_eq_true, ↓bindO_some, ↓bindF_some, ↓bindX_normal, ↓condX_true, ↓condX_false, ↓iteB_true, ↓iteB_false, ca_other, ca_awake, s0, s00, s1, s2, s3, c1, ln]
      exact ⟨_, rfl⟩
  · have hk : wantC l c = chk l := by unfold wantC chk2; rw [if_neg h1, if_neg h1]
    have hne : wantC l c ≠ 0 := by rw [hk]; exact h1
    obtain rfl := hw1 hne
    rw [hk] at s3
    clear hw1 hw2 s2 hk hne hv hu wf1 old1
    have c1 : decide (chk l = 0) = false := decide_eq_false h1
    have c2 : decide (chk l = chk l) = true := decide_eq_true rfl
    have ln : lenS (.slice none 0 0) = some 0 := rfl
    simp (maxSteps := 1000000) (disch := omega) only [Try.f3, Option.getD_some, es_seq, es_region, es_cond, es_skip, es_ret, ops_nil, ops_cons, ops_consG, st_move, st_assign, sy_pick, pickS_true, pickS_false, st_fun, sy_len uL, sy_bin, sy_ext, ext_20, ext_21, binS_eql, binS_neq, bindO_some, bindF_some, bindX_normal, condX_true, condX_false, iteB_true, iteB_false, ev_tmp, ev_const, ev_func, putA, upd_at, Option.map_some, ↓reduceIte, Nat.reduceEqDiff, frOf_0, frOf_1, List.map_cons, List.map_nil, decide_true, Bool.not_false, yieldO_eq, yO, yV_bool, some_true, List.getElem?_cons_zero, List.getElem?_cons_succ, beq_self_eq_true, ↓bindO_some, ↓bindF_some, ↓bindX_normal, ↓condX_true, ↓condX_false, ↓iteB_true, ↓iteB_false, ca_other, ca_awake, s0, s00, s1, s3, c1, ln]
    exact ⟨_, rfl⟩
open Go.RowKit in
theorem CountCharacters_walk (a0 : Option Addr) (len0 cap0 : Nat) (z0 : List Int) (a1 : Option Addr) (len1 cap1 : Nat) (z1 : List Int) (w : World) (w0 : Row .i64 w a0 len0 cap0 z0) (w1 : Row .i64 w a1 len1 cap1 z1) :
    Calls Try.prog 3 #[.slice a0 len0 cap0, .slice a1 len1 cap1] w fun e w' => e = .returned (.bool true) ∧ Below w.heap.size w w' := by
  obtain ⟨x, y, l, c, v, u, h1, h2, h3, h4, h5, h6⟩ := row_two w0 w1
  obtain ⟨H', h⟩ := charLaw_run h6 h4 h5
  rw [← h3] at h
  exact law_args hmix (callA_ok _) (callA_grow _) h (.cons h1 (.cons h2 .nil))
end Go.Proofs.Ytmmgdgmjkhcfaaa
