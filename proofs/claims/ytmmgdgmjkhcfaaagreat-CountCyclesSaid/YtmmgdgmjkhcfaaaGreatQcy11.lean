/- Of the law: texts of its proof, joined (part 11). -/
import Derived.Test.YtmmgdgmjkhcfaaaGreatQcy10
set_option linter.all false
namespace Go.Proofs.YtmmgdgmjkhcfaaaGreat
open Go Go.Abs Go.Num
set_option maxRecDepth 10000
attribute [local congr] bindO_congr bindF_congr bindX_congr condX_congr iteB_congr binS_congr pickS_congr eqB_congr nilS_congr clsW_congr
theorem abs_len (z : Int) : (nf z.natAbs).length = (nf z).length := by
  rw [← nf_abs]
  split
  · rw [List.length_map]
  · rfl
theorem of_run {H : Heap} {z : Int} (hw : WF H) (h1 : -4000000000000000000 ≤ z) (h2 : z ≤ 4000000000000000000) (n : Nat) (hn : 2004 ≤ n) :
    OneL H (evB Tryz.prog bC n (.func (.func 39) #[] #[]) [vi z] H) (nf z) := by
  refine run_ofB (F := 2003) (Q := fun r => OneL H r (nf z)) (fun n hn => ?_) n hn
  rw [body_runS Tryz.func39 rfl (ok_fn (by rfl) Tryz.func39 rfl) (Nat.le_of_ble_eq_true rfl) (D := D0) (by kernel_rfl)]
  obtain ⟨w, H1, s1, w1, old1, wf1⟩ := small_run hw h1 h2 n (by omega)
  have hl : (nf z).length ≤ 3 := nf_len (by rw [show B ^ 3 = 1000000000000000000000000 from rfl]; omega) (by rw [show B ^ 3 = 1000000000000000000000000 from rfl]; omega)
  obtain ⟨v, H2, s2, o2, old2, wf2⟩ := list_run wf1 w1 (by rw [abs_len]; omega) n (by omega)
  simp (disch := omega) only [Tryz.f39, es_seq, es_region, es_ret, ops_nil, ops_cons, st_move, st_assign, st_fun, bindO_some, bindF_some, bindX_normal, ev_tmp, ev_const, ev_func, putA, upd_at, Option.map_some, ↓reduceIte, Nat.reduceEqDiff, frOf_0, List.map_cons, List.map_nil, ↓bindO_some, ↓bindF_some, ↓bindX_normal, fin_r, res_nil, res_tmp, pack_1, s1, s2, o2.R.scal]
  exact ⟨_, _, rfl, o2.below old1.1, old1.trans (old2.mono old1.1), wf2⟩
theorem mulP_run {H : Heap} {vx vy : Value} {x y : Int} (hw : WF H) (hx : NumV H vx x) (hy : NumV H vy y) (lx : (nf x).length ≤ 390) (ly : (nf y).length ≤ 390) (n : Nat) (hn : 2012 ≤ n) :
    OneL H (evB Tryz.prog bC n (.func (.func 54) #[] #[]) [vx, vy] H) (nf (x * y)) := by
  refine run_ofB (F := 2011) (Q := fun r => OneL H r (nf (x * y))) (fun n hn => ?_) n hn
  rw [body_runS Tryz.func54 rfl (ok_fn (by rfl) Tryz.func54 rfl) (Nat.le_of_ble_eq_true rfl) (D := D0) (by kernel_rfl)]
  obtain ⟨wx, H1, s1, w1, old1, wf1⟩ := read_run hw hx n (by omega)
  obtain ⟨wy, H2, s2, w2, old2, wf2⟩ := read_run wf1 (hy.mono old1) n (by omega)
  obtain ⟨wz, H3, s3, w3, old3, wf3⟩ := times_run wf2 (w1.mono old2) (w2.below old1.1) (by rw [abs_len]; omega) (by rw [abs_len]; omega) n (by omega)
  obtain ⟨v, H4, s4, o4, old4, wf4⟩ := list_run wf3 w3 (by rw [abs_len]; have := nf_len_mul x y; omega) n (by omega)
  simp (disch := omega) only [Tryz.f54, es_seq, es_region, es_ret, ops_nil, ops_cons, st_move, st_assign, st_fun, bindO_some, bindF_some, bindX_normal, ev_tmp, ev_const, ev_func, putA, upd_at, Option.map_some, ↓reduceIte, Nat.reduceEqDiff, frOf_0, frOf_1, List.map_cons, List.map_nil, ↓bindO_some, ↓bindF_some, ↓bindX_normal, fin_r, res_nil, res_tmp, pack_1, s1, s2, s3, s4, o4.R.scal]
  have old12 := old1.trans (old2.mono old1.1)
  have old13 := old12.trans (old3.mono old12.1)
  exact ⟨_, _, rfl, o4.below old13.1, old13.trans (old4.mono old13.1), wf4⟩
noncomputable def shoA : Code := atC [1, 1, 0, 1, 0, 0] ((Tryz.f102.body).getD .skip)
theorem sho_loop {H0 H : Heap} {va vo : Value} {x y : Int} (ha : ∀ G, Old H0.length H0 G → R G va (ints (nf x))) (x0 : 0 ≤ x) (y0 : 0 < y) (y1 : y < 100000000) (lx : (nf x).length ≤ 900) (old : Old H0.length H0 H) (hw : WF H)
    (ho : O H0.length H vo (ints (List.replicate (nf x).length 0))) (call : CallF) (m nt : Nat) {a : Fr} {k : Nat} (hk : (nf x).length < k)
    (h0 : a 0 = va) (h1 : a 1 = vi y) (h6 : a 6 = vo) (h7 : a 7 = vi 0) (h8 : a 8 = vi (((nf x).length : Int) - 1)) :
    ∃ r a' H', loopN (evS Tryz.prog call m nt none shoA) k a H = some (r, a', H') ∧ r = .exit 0 ∧ Old H0.length H0 H' ∧ WF H' ∧ a' 6 = vo ∧ a' 7 = vi (x % y) ∧ ∃ lo, O H0.length H' vo (ints lo) ∧ Dg lo ∧ val lo = x / y ∧ lo.length ≤ 900 := by
  refine loop_wf (fun j a H' => j ≤ (nf x).length ∧ a 0 = va ∧ a 1 = vi y ∧ a 6 = vo ∧ a 8 = vi ((j : Int) - 1) ∧ Old H0.length H0 H' ∧ WF H' ∧ ∃ lo t, a 7 = vi t ∧ O H0.length H' vo (ints lo) ∧ lo.length = (nf x).length ∧ Dg lo ∧ 0 ≤ t ∧ t < y ∧ val ((nf x).drop j) = y * val (lo.drop j) + t ∧ val (lo.take j) = 0) _ ?_ k (nf x).length a H hk
    ⟨Nat.le_refl _, h0, h1, h6, h8, old, hw, _, 0, h7, ho, by simp, fun z hz => by have := List.eq_of_mem_replicate hz; subst this; unfold B; omega, by omega, by omega, by rw [List.drop_length, List.drop_eq_nil_of_le (by simp)]; simp [val], by rw [List.take_replicate, val_zeros]⟩
  intro j a H' ⟨hj, h0, h1, h6, h8, old, hw, lo, t, h7, ho, hl, hd, t0, t1, hval, hz⟩
  rw [show shoA = atC [1, 1, 0, 1, 0, 0] ((Tryz.f102.body).getD .skip) from rfl]
  by_cases hj0 : j = 0
  · subst hj0
    right
    have c1 : decide ((0 : Int) ≤ ((0 : Nat) : Int) - 1) = false := rfl
    simp (disch := omega) only [Tryz.f102, Option.getD_some, atC, es_seq, es_region, es_cond, es_exit, ops_nil, ops_cons, st_move, sy_bin, binS_geq, bindO_some, bindF_some, bindX_normal, bindX_exit, condX_false, ev_tmp, ev_const, putA, upd_at, ↓reduceIte, ↓bindO_some, ↓bindF_some, ↓bindX_normal, ↓bindX_exit, ↓condX_false, h8, c1]
    rw [List.drop_zero, List.drop_zero, nf_val] at hval
    have e1 : x / y = val lo := by
      rw [hval, Int.add_comm, Int.add_mul_ediv_left _ _ (by omega), Int.ediv_eq_zero_of_lt t0 t1, Int.zero_add]
    have e2 : x % y = t := by
      rw [hval, Int.add_comm, Int.add_mul_emod_self_left, Int.emod_eq_of_lt t0 t1]
    exact ⟨_, _, _, rfl, by simp, rfl, old, hw, h6, by simp only [upd_at, ↓reduceIte, Nat.reduceEqDiff, h7, e2], lo, ho, hd, e1.symm, by omega⟩
  · obtain ⟨i, rfl⟩ : ∃ i, j = i + 1 := ⟨j - 1, by omega⟩
    left
    rw [show ((i + 1 : Nat) : Int) - 1 = (i : Int) from by omega] at h8
    have c1 : (0 : Int) ≤ (i : Int) := by omega
    have e1 : IntKind.i64.wrap ((i : Int) - 1) = (i : Int) - 1 := wr64 (by omega) (by omega)
    have hx := ha H' old
    have hro := ho.R
    have hdi := (nf_dg x0).getD i
    have e2 : IntKind.i64.wrap (t * 100000000) = t * 100000000 := wr64 (by omega) (by omega)
    have e3 : IntKind.i64.wrap (t * 100000000 + (nf x).getD i 0) = t * 100000000 + (nf x).getD i 0 := wr64 (by omega) (by omega)
    have hs0 : 0 ≤ t * 100000000 + (nf x).getD i 0 := by omega
    have hs1 : t * 100000000 + (nf x).getD i 0 < 100000000 * y := by omega
    have hq0 : 0 ≤ (t * 100000000 + (nf x).getD i 0) / y := Int.ediv_nonneg hs0 (by omega)
    have hq1 : (t * 100000000 + (nf x).getD i 0) / y < 100000000 := Int.ediv_lt_of_lt_mul y0 (by omega)
    have e4 : (t * 100000000 + (nf x).getD i 0).tdiv y = (t * 100000000 + (nf x).getD i 0) / y := tdiv_pos hs0 _
    have e5 : (t * 100000000 + (nf x).getD i 0).tmod y = (t * 100000000 + (nf x).getD i 0) % y := tmod_pos hs0 _
    have e6 : IntKind.i64.wrap ((t * 100000000 + (nf x).getD i 0) / y) = (t * 100000000 + (nf x).getD i 0) / y := wr64 (by omega) (by omega)
    obtain ⟨H2, s2, o2, old2, wf2⟩ := ho.setI hw (i := i) (by omega) ((t * 100000000 + (nf x).getD i 0) / y)
    have hy0 : y ≠ 0 := by omega
    simp (disch := omega) only [Tryz.f102, Option.getD_some, atC, es_seq, es_region, es_draw, d0, es_cond, es_block, es_skip, ops_nil, ops_cons, opsV_nil, opsV_cons, st_move, st_assign, sy_addr eL, sy_load aI, sy_store zI, sy_bin, binS_geq, binS_add, binS_sub, binS_mul, binS_quo, binS_rem, bindO_some, bindF_some, bindX_normal, blkX_normal, condX_true, iteB_true, iteB_false, ev_tmp, ev_const, putA, upd_at, Option.map_some, ↓reduceIte, Nat.reduceEqDiff, Int.toNat_natCast, decide_true, ↓bindO_some, ↓bindF_some, ↓bindX_normal, ↓condX_true, ↓iteB_true, ↓iteB_false, reflV_move, reflV_assign, reflV_bin, reflV_addr, reflV_store, h0, h1, h6, h7, h8, c1, hx.addrI, hx.loadI, hro.addrI, e1, e2, e3, e4, e5, e6, s2]
    refine ⟨_, _, rfl, i, by omega, by omega, h0, h1, h6, rfl, old.trans old2, wf2, _, _, by simp only [upd_at, ↓reduceIte, Nat.reduceEqDiff]; rfl, o2, by rw [List.length_set]; exact hl, hd.set i hq0 hq1, Int.emod_nonneg _ hy0, Int.emod_lt_of_pos _ y0, ?_, ?_⟩
    · have := div_step (A := nf x) (ql := lo) (i := i) (by omega) (by omega) y0 hval
      rw [show (nf x).getD i 0 + B * t = t * 100000000 + (nf x).getD i 0 from by unfold B; omega] at this
      exact this
    · rw [List.take_set_of_le (Nat.le_refl i)]
      have e := val_take_succ lo i
      rw [hz] at e
      have h1 := (hd.take i).val.1
      have h2 := hd.getD i
      have h3 := Int.mul_nonneg (Int.le_of_lt (pow_pos i)) h2.1
      omega
theorem short_run {H : Heap} {va : Value} {x y : Int} (hw : WF H) (ha : R H va (ints (nf x))) (x0 : 0 ≤ x) (y0 : 0 < y) (y1 : y < 100000000) (lx : (nf x).length ≤ 900) (n : Nat) (hn : 2010 ≤ n) :
    ∃ v H', evB Tryz.prog bC n (.func (.func 102) #[] #[]) [va, vi y] H = some (.tuple #[v, vi (x % y)], H') ∧ RO H.length H' v (ints (nf (x / y))) ∧ Old H.length H H' ∧ WF H' := by
  refine run_ofB (F := 2009) (Q := fun r => ∃ v H', r = some (.tuple #[v, vi (x % y)], H') ∧ RO H.length H' v (ints (nf (x / y))) ∧ Old H.length H H' ∧ WF H') (fun n hn => ?_) n hn
  rw [body_runS Tryz.func102 rfl (ok_fn (by rfl) Tryz.func102 rfl) (Nat.le_of_ble_eq_true rfl) (D := D0) (by kernel_rfl)]
  have hz := zeros_I (nf x).length
  have hlr : (ints (List.replicate (nf x).length (0 : Int))).length = (nf x).length := by rw [ints_len, List.length_replicate]
  have or := O.made (B := H.length) (Nat.le_refl H.length) (ints (List.replicate (nf x).length (0 : Int)))
  rw [hlr] at or
  have oldm := Old.app H [.cells H.length true (ints (List.replicate (nf x).length (0 : Int)))]
  have wfm := hw.app (Nat.le_refl H.length) (o := true) (cs := ints (List.replicate (nf x).length (0 : Int)))
  have c2 : (0 : Int) ≤ ((nf x).length : Int) := by omega
  have c3 : ((nf x).length : Int) ≤ 1048576 := by omega
  have e1 : IntKind.i64.wrap (((nf x).length : Int) - 1) = ((nf x).length : Int) - 1 := wr64 (by omega) (by omega)
  have key := fun (A : Fr) => sho_loop (fun G hG => ha.mono hG) x0 y0 y1 lx oldm wfm or (evB Tryz.prog bC n) n Tryz.f102.ntmps (a := A) (k := n) (by omega)
  rw [show shoA = atC [1, 1, 0, 1, 0, 0] ((Tryz.f102.body).getD .skip) from rfl] at key
  simp only [Tryz.f102, Option.getD_some, atC] at key
  simp (disch := omega) only [Tryz.f102, es_seq, es_region, es_block, es_loop, es_ret, ops_nil, ops_cons, st_move, st_assign, st_fun, sy_len uL, sy_bin, sy_make eL yI (by decide), binS_sub, bindO_some, bindF_some, bindX_normal, ev_tmp, ev_const, ev_func, putA, upd_at, Option.map_some, ↓reduceIte, Nat.reduceEqDiff, Int.toNat_natCast, frOf_0, List.map_cons, List.map_nil, ↓bindO_some, ↓bindF_some, ↓bindX_normal, ha.lenI, c2, c3, Int.le_refl, and_self, hz, e1]
  generalize hA : upd _ 8 _ = A
  obtain ⟨r, a', H', e, hr, old2, wf2, h6, h7, lo, ol, hd, hval, hll⟩ := key A (by subst hA; rfl) (by subst hA; rfl) (by subst hA; rfl) (by subst hA; rfl) (by subst hA; rfl)
  subst hr
  rw [e]
  clear e key
  obtain ⟨d, sd, rd⟩ := trimmed_run ol.RO (by omega) n (by omega)
  rw [nf_of_digs hd hval] at rd
  simp (disch := omega) only [bindO_some, bindF_some, bindX_normal, blkX_exit, upd_at, Option.map_some, ↓reduceIte, Nat.reduceEqDiff, ↓bindO_some, ↓bindF_some, ↓bindX_normal, fin_r, res_nil, res_tmp, pack_2, scal_vi, h6, h7, sd, rd.R.scal]
  exact ⟨_, _, rfl, rd, old2, wf2⟩
end Go.Proofs.YtmmgdgmjkhcfaaaGreat
namespace Go.Proofs.YtmmgdgmjkhcfaaaGreat
open Go Go.Abs Go.Num
set_option maxRecDepth 10000
attribute [local congr] bindO_congr bindF_congr bindX_congr condX_congr iteB_congr binS_congr pickS_congr eqB_congr nilS_congr clsW_congr
theorem vEq_whole {H : Heap} {b : Bool} {v : Value} {l : List Value} (h : R H v l) : vEq (.agg #[.bool b, v]) (.agg #[.bool b, v]) = true := by
  rcases h with ⟨rfl, _⟩ | ⟨rfl, _⟩ | ⟨_, _, _, _, _, rfl, _⟩ <;> simp [vEq, listEq, sEq, sliceA, lostSlice]
theorem Kept.refl (C : Nat) (H : Heap) : Kept C H H := fun _ _ _ _ _ _ h => h
theorem Kept.trans {C : Nat} {H1 H2 H3 : Heap} (h : Kept C H1 H2) (h' : Kept C H2 H3) : Kept C H1 H3 := fun b f o cs h1 h2 h3 => h' b f o cs h1 h2 (h b f o cs h1 h2 h3)
theorem Kept.mono {C D : Nat} {H1 H2 : Heap} (h : Kept C H1 H2) (hc : C ≤ D) : Kept D H1 H2 := fun b f o cs h1 h2 h3 => h b f o cs (by omega) (by omega) h3
theorem ov_r12 {H H5 H6 : Heap} {p4 p5 w4 w5 : Value} (call : CallF) (k nt : Nat) (rd : Option Nat) {a : Fr} (h4 : a 4 = p4) (h5 : a 5 = p5)
    (l4 : ∀ G, G = H ∨ G = H5 ∨ G = H6 → loadN 2 p4 G = some w4) (l5 : ∀ G, G = H ∨ G = H5 ∨ G = H6 → loadN 2 p5 G = some w5) (r4 : vEq w4 w4 = true) (r5 : vEq w5 w5 = true)
    (s4 : storeN 2 p4 w4 H = some H5) (s5 : storeN 2 p5 w5 H5 = some H6) :
    ∃ a' H', evT Tryz.prog call k nt rd D1 (atC [1, 1, 1, 1, 0] ((Tryz.f83.body).getD .skip)) a H = some (.normal, a', H') ∧ H' = H6 ∧ a' 4 = p4 ∧ a' 5 = p5 := by
  simp only [Tryz.f83, Option.getD_some, atC]
  refine et_from (fun a' H' => H' = H6 ∧ a' 4 = p4 ∧ a' 5 = p5) ?_
  have e0 := l4 H (.inl rfl)
  have e1 := l5 H (.inl rfl)
  simp (disch := omega) only [bindO_some, ev_tmp, putA, upd_at, Option.map_some, ↓reduceIte, Nat.reduceEqDiff, ↓bindO_some, sy_loadN aW zW, sy_storeN zW, opsW_nil, opsW_cons, clsW_eff, clsW_read, ↓clsW_eff, ↓clsW_read, cls_load, cls_store, h4, h5, e0, e1, s4, s5]
  refine ⟨_, rfl, ?_, rfl, ?_, ?_⟩
  · intro G hG r hr
    simp only [List.mem_cons, List.not_mem_nil, or_false] at hG hr
    have hG' : G = H ∨ G = H5 ∨ G = H6 := by
      rcases hG with h | h | h
      · exact .inr (.inr h)
      · exact .inr (.inl h)
      · exact .inl h
    have e0 := l4 G hG'
    have e1 := l5 G hG'
    rcases hr with rfl | rfl
    all_goals simp only [still_ldN aW zW, ev_tmp, upd_at, ↓reduceIte, Nat.reduceEqDiff, h4, h5, e0, e1, r4, r5]
  · simp only [upd_at, ↓reduceIte, Nat.reduceEqDiff, h4]
  · simp only [upd_at, ↓reduceIte, Nat.reduceEqDiff, h5]
theorem ov_r6 {H H5 H6 : Heap} {pa pb p4 p5 va vb d : Value} {y z : Int} (call : CallF) (k nt : Nat) (rd : Option Nat) {a : Fr} {q1 q2 q3 q4 : Value} (h2 : a 2 = pa) (h3 : a 3 = pb) (h4 : a 4 = p4) (h5 : a 5 = p5)
    (f1 : faddrS 1 pa = some q1) (f2 : faddrS 1 pb = some q2) (f3 : faddrS 1 p4 = some q3) (ad : addrS 1 vb (vi 0) = some q4)
    (l1 : ∀ G, G = H ∨ G = H5 ∨ G = H6 → loadS q1 G = some va) (l2 : ∀ G, G = H ∨ G = H5 ∨ G = H6 → loadS q2 G = some vb) (l4 : ∀ G, G = H ∨ G = H5 ∨ G = H6 → loadS q4 G = some (vi y)) (r1 : vEq va va = true) (r2 : vEq vb vb = true)
    (s1 : call (.func (.func 102) #[] #[]) [va, vi y] H = some (.tuple #[d, vi z], H5)) (s2 : storeS q3 d H5 = some H6) :
    ∃ a' H', evT Tryz.prog call k nt rd D1 (atC [1, 0, 0, 1, 1, 1, 0, 1, 0] ((Tryz.f83.body).getD .skip)) a H = some (.normal, a', H') ∧ H' = H6 ∧ a' 2 = pa ∧ a' 3 = pb ∧ a' 4 = p4 ∧ a' 5 = p5 ∧ a' 6 = vi z := by
  simp only [Tryz.f83, Option.getD_some, atC]
  refine et_from (fun a' H' => H' = H6 ∧ a' 2 = pa ∧ a' 3 = pb ∧ a' 4 = p4 ∧ a' 5 = p5 ∧ a' 6 = vi z) ?_
  have e0 := l1 H (.inl rfl)
  have e1 := l2 H (.inl rfl)
  have e2 := l4 H (.inl rfl)
  simp (disch := omega) only [st_move, st_assign, st_fun, sy_addr eL, sy_load aI, sy_ext, ext_20, ext_21, bindO_some, ev_tmp, ev_const, ev_func, putA, upd_at, Option.map_some, ↓reduceIte, Nat.reduceEqDiff, List.map_cons, List.map_nil, ↓bindO_some, sy_load aL, sy_store zL, sy_faddr fW1, opsW_nil, opsW_cons, clsW_eff, clsW_read, clsW_pure, ↓clsW_eff, ↓clsW_read, ↓clsW_pure, cls_move, cls_assign, cls_addr, cls_load, cls_callF, cls_store, cls_faddr, cls_extract, h2, h3, h4, f1, f2, f3, ad, e0, e1, e2, s1, s2]
  refine ⟨_, rfl, ?_, rfl, ?_, ?_, ?_, ?_, ?_⟩
  · intro G hG r hr
    simp only [List.mem_cons, List.not_mem_nil, or_false] at hG hr
    have hG' : G = H ∨ G = H5 ∨ G = H6 := by
      rcases hG with h | h | h
      · exact .inr (.inr h)
      · exact .inr (.inl h)
      · exact .inl h
    have e0 := l1 G hG'
    have e1 := l2 G hG'
    have e2 := l4 G hG'
    rcases hr with rfl | rfl | rfl
    all_goals simp only [still_ld aL, still_ld aI, ev_tmp, upd_at, ↓reduceIte, vEq_vi, e0, e1, e2, r1, r2]
  · simp only [upd_at, ↓reduceIte, Nat.reduceEqDiff, h2]
  · simp only [upd_at, ↓reduceIte, Nat.reduceEqDiff, h3]
  · simp only [upd_at, ↓reduceIte, Nat.reduceEqDiff, h4]
  · simp only [upd_at, ↓reduceIte, Nat.reduceEqDiff, h5]
  · simp only [upd_at, ↓reduceIte]
theorem ov_tail {H : Heap} {B1 C1 B2 C2 A1 A2 A3 A4 : Nat} {pa pb p4 p5 va vb dq dr : Value} {q r : Int} (hw : WF H) (call : CallF) (k nt : Nat) (rd : Option Nat) {a : Fr} (h2 : a 2 = pa) (h3 : a 3 = pb) (h4 : a 4 = p4) (h5 : a 5 = p5)
    (b2 : BxM A1 A2 H pa [.bool false, va]) (b3 : BxM A3 A4 H pb [.bool false, vb]) (b4 : BxM B1 C1 H p4 [.bool false, dq]) (b5 : BxM B2 C2 H p5 [.bool false, dr]) (o1 : C1 ≤ B2) (o2 : B2 ≤ C2) (o3 : A2 ≤ B1) (o4 : A4 ≤ B1) (o5 : B1 ≤ C1)
    (kq : ∀ G, Old B1 H G → Kept C2 H G → R G dq (ints (nf q))) (kr : ∀ G, Old B1 H G → Kept C2 H G → R G dr (ints (nf r))) :
    ∃ a' G, evT Tryz.prog call k nt rd D1 (atC [1, 1] ((Tryz.f83.body).getD .skip)) a H = some (.ret, a', G) ∧ a' 4 = p4 ∧ a' 5 = p5 ∧ loadN 2 p4 G = some (.agg #[.bool false, dq]) ∧ loadN 2 p5 G = some (.agg #[.bool false, dr]) ∧ Old B1 H G ∧ Kept C2 H G ∧ WF G := by
  have f20 := b2.faddr 0
  have f30 := b3.faddr 0
  have f40 := b4.faddr 0
  have f41 := b4.faddr 1
  have l20 : loadS (bx pa 0) H = some (.bool false) := b2.load 0
  have l30 : loadS (bx pb 0) H = some (.bool false) := b3.load 0
  have l41 : loadS (bx p4 1) H = some dq := b4.load 1
  have hq := kq H (Old.refl _ _) (Kept.refl _ _)
  obtain ⟨H1, s1, b41, old1, wf1, k1⟩ := b4.set hw (i := 0) (by simp) (v := .bool false) rfl
  have s1 : storeS (bx p4 0) (.bool false) H = some H1 := s1
  have b41 : BxM B1 C1 H1 p4 [.bool false, dq] := b41
  have b51 := b5.kept k1 o1
  obtain ⟨H2, s2, b42, old2, wf2, k2⟩ := b41.store wf1 (vs := [.bool false, dq]) rfl
  have s2 : storeN 2 p4 (.agg #[.bool false, dq]) H1 = some H2 := s2
  have b52 := b51.kept k2 o1
  obtain ⟨H3, s3, b53, old3, wf3, k3⟩ := b52.store wf2 (vs := [.bool false, dr]) rfl
  have s3 : storeN 2 p5 (.agg #[.bool false, dr]) H2 = some H3 := s3
  have b43 := b42.mono (old3.mono o1)
  have oldf := (old1.trans old2).trans (old3.mono (by omega))
  have kf := Kept.trans (Kept.mono (Kept.trans k1 k2) (by omega : C1 ≤ C2)) k3
  have kk := fun (A : Fr) => ov_r12 (H := H1) (H5 := H2) (H6 := H3) (a := A) (p4 := p4) (p5 := p5) (w4 := .agg #[.bool false, dq]) (w5 := .agg #[.bool false, dr]) call k nt rd
  simp only [Tryz.f83, Option.getD_some, atC] at kk
  have hlen := hq.lenI
  by_cases hq0 : (0 : Int) < (nf q).length
  all_goals
    simp (disch := omega) only [Tryz.f83, Option.getD_some, atC, es_seq, es_region, es_cond, es_skip, es_ret, ops_nil, ops_cons, ops_consG, st_move, sy_pick, pickS_true, pickS_false, sy_len uL, sy_bin, binS_gtr, bindO_some, bindF_some, bindX_normal, condX_false, iteB_true, iteB_false, ev_tmp, ev_const, putA, upd_at, Option.map_some, ↓reduceIte, Nat.reduceEqDiff, decide_true, decide_false, Bool.not_true, yieldO_eq, yO, yV_bool, some_true, List.getElem?_cons_zero, List.getElem?_cons_succ, beq_self_eq_true, ↓bindO_some, ↓bindF_some, ↓bindX_normal, ↓condX_false, ↓iteB_true, ↓iteB_false, sy_load aL, sy_load aB, sy_store zB, sy_faddr fW0, sy_faddr fW1, sy_ne nB, eqB_bool, Bool.true_xor, h2, h3, h4, f20, f30, f40, f41, l20, l30, l41, hlen, hq0, s1]
    generalize hA : upd _ 73 _ = A
    obtain ⟨a2, G2, e2, hG, g4, g5⟩ := kk A (by subst hA; exact h4) (by subst hA; exact h5) (fun G h => by
        rcases h with rfl | rfl | rfl
        · exact b41.loadAll
        · exact b42.loadAll
        · exact b43.loadAll) (fun G h => by
        rcases h with rfl | rfl | rfl
        · exact b51.loadAll
        · exact b52.loadAll
        · exact b53.loadAll) (vEq_whole hq) (vEq_whole (kr H (Old.refl _ _) (Kept.refl _ _))) s2 s3
    rw [e2]
    subst hG
    simp (disch := omega) only [bindX_normal, ↓bindX_normal]
    exact ⟨_, _, rfl, g4, g5, b43.loadAll, b53.loadAll, oldf, kf, wf3⟩
theorem ov_split (call : CallF) (k nt : Nat) (rd : Option Nat) (a : Fr) (H : Heap) : evT Tryz.prog call k nt rd D1 ((Tryz.f83.body).getD .skip) a H =
    bindX (evT Tryz.prog call k nt rd D1 (atC [0] ((Tryz.f83.body).getD .skip)) a H) fun a H => bindX (evT Tryz.prog call k nt rd D1 (atC [1, 0] ((Tryz.f83.body).getD .skip)) a H) fun a H => evT Tryz.prog call k nt rd D1 (atC [1, 1] ((Tryz.f83.body).getD .skip)) a H := rfl
def LongOK (F : Nat) (x y : Int) : Prop := ∀ (G : Heap) (va vb : Value), WF G → R G va (ints (nf x)) → R G vb (ints (nf y)) → ∀ n, F ≤ n →
  ∃ v1 v2 G', evB Tryz.prog bC n (.func (.func 103) #[] #[]) [va, vb] G = some (.tuple #[v1, v2], G') ∧ RO G.length G' v1 (ints (nf (x / y))) ∧ RO G.length G' v2 (ints (nf (x % y))) ∧ Old G.length G G' ∧ WF G'
def TwoW (va : Value) (x : Int) (H : Heap) (r : Option (Value × Heap)) (q z : Int) : Prop := ∃ v1 v2 H', r = some (.tuple #[.agg #[.bool false, v1], .agg #[.bool false, v2]], H') ∧ RO H.length H' v1 (ints (nf q)) ∧ R H' v2 (ints (nf z)) ∧ (RO H.length H' v2 (ints (nf z)) ∨ v2 = va ∧ z = x) ∧ Old H.length H H' ∧ WF H'
theorem over_run {H : Heap} {va vb : Value} {x y : Int} {FL : Nat} (hw : WF H) (hx : R H va (ints (nf x))) (hy : R H vb (ints (nf y))) (x0 : 0 ≤ x) (y0 : 0 < y) (lx : (nf x).length ≤ 390) (ly : (nf y).length ≤ 390) (hL : y ≤ x → 2 ≤ (nf y).length → LongOK FL x y) (n : Nat) (hn : FL + 2012 ≤ n) :
    TwoW va x H (evB Tryz.prog bC n (.func (.func 83) #[] #[]) [.agg #[.bool false, va], .agg #[.bool false, vb]] H) (x / y) (x % y) := by
  refine run_ofB (F := FL + 2011) (Q := fun r => TwoW va x H r (x / y) (x % y)) (fun n hn => ?_) n (by omega)
  rw [body_runS (c := (Tryz.f83.body).getD .skip) Tryz.func83 rfl (ok_fn (by rfl) Tryz.func83 rfl) (Nat.le_of_ble_eq_true rfl) (D := D1) (by kernel_rfl)]
  rw [ov_split]
  have old1 := Old.app H [.cells H.length true [.bool false, va]]
  have wf1 := hw.app (Nat.le_refl H.length) (o := true) (cs := [.bool false, va])
  have b1 := BxM.made (B := H.length) (H := H) (Nat.le_refl _) [.bool false, va]
  generalize hH1 : H ++ [Blk.cells H.length true [.bool false, va]] = H1 at *
  have old2 := Old.app H1 [.cells H1.length true [.bool false, vb]]
  have wf2 := wf1.app (Nat.le_refl H1.length) (o := true) (cs := [.bool false, vb])
  have b2 := BxM.made (B := H1.length) (H := H1) (Nat.le_refl _) [.bool false, vb]
  generalize hH2 : H1 ++ [Blk.cells H1.length true [.bool false, vb]] = H2 at *
  have old3 := Old.app H2 [.cells H2.length true [.bool false, .slice none 0 0]]
  have wf3 := wf2.app (Nat.le_refl H2.length) (o := true) (cs := [.bool false, .slice none 0 0])
  have b3 := BxM.made (B := H2.length) (H := H2) (Nat.le_refl _) [.bool false, .slice none 0 0]
  generalize hH3 : H2 ++ [Blk.cells H2.length true [.bool false, .slice none 0 0]] = H3 at *
  have old4 := Old.app H3 [.cells H3.length true [.bool false, .slice none 0 0]]
  have wf4 := wf3.app (Nat.le_refl H3.length) (o := true) (cs := [.bool false, .slice none 0 0])
  have b4 := BxM.made (B := H3.length) (H := H3) (Nat.le_refl _) [.bool false, .slice none 0 0]
  generalize hH4 : H3 ++ [Blk.cells H3.length true [.bool false, .slice none 0 0]] = H4 at *
  have o1 := old1.1
  have o2 := old2.1
  have o3 := old3.1
  have o4 := old4.1
  have g1 : H1.length = H.length + 1 := by rw [← hH1]; simp
  have g2 : H2.length = H1.length + 1 := by rw [← hH2]; simp
  have g3 : H3.length = H2.length + 1 := by rw [← hH3]; simp
  have g4 : H4.length = H3.length + 1 := by rw [← hH4]; simp
  have old34 := old3.trans (old4.mono o3)
  have old24 := old2.trans (old34.mono o2)
  have old04 := old1.trans (old24.mono o1)
  have b1 := b1.mono old24
  have b2 := b2.mono old34
  have b3 := b3.mono old4
  have hx4 := hx.mono old04
  have hy4 := hy.mono old04
  have head : ∀ {a : Fr}, a 2 = ptrA H.length 0 → a 3 = ptrA H1.length 0 → a 4 = ptrA H2.length 0 → a 5 = ptrA H3.length 0 → ∃ a' G dq dr, evT Tryz.prog (evB Tryz.prog bC n) n Tryz.f83.ntmps none D1 (atC [1, 0] ((Tryz.f83.body).getD .skip)) a H4 = some (.normal, a', G) ∧
      a' 2 = ptrA H.length 0 ∧ a' 3 = ptrA H1.length 0 ∧ a' 4 = ptrA H2.length 0 ∧ a' 5 = ptrA H3.length 0 ∧ Old H2.length H4 G ∧ WF G ∧ BxM H2.length H3.length G (ptrA H2.length 0) [.bool false, dq] ∧ BxM H3.length H4.length G (ptrA H3.length 0) [.bool false, dr] ∧
      (∀ G', Old H2.length G G' → Kept H4.length G G' → RO H.length G' dq (ints (nf (x / y)))) ∧ (∀ G', Old H2.length G G' → Kept H4.length G G' → R G' dr (ints (nf (x % y))) ∧ (RO H.length G' dr (ints (nf (x % y))) ∨ dr = va ∧ x % y = x)) := by
    intro a h2 h3 h4 h5
    have f21 := b1.faddr 1
    have f31 := b2.faddr 1
    have f41 := b3.faddr 1
    have f51 := b4.faddr 1
    have l21 : loadS (bx (ptrA H.length 0) 1) H4 = some va := b1.load 1
    have l31 : loadS (bx (ptrA H1.length 0) 1) H4 = some vb := b2.load 1
    have s0 := sizes_run hx4 hy4 x0 (by omega) (by omega) (by omega) n (by omega)
    by_cases hlt : x < y
    · have hc : cmpZ x y = -1 := if_pos hlt
      have hd : decide ((-1 : Int) < 0) = true := rfl
      obtain ⟨G, s1, b41, old5, wf5, k5⟩ := b4.set wf4 (i := 1) (by simp) hx.scal
      have s1 : storeS (bx (ptrA H3.length 0) 1) va H4 = some G := s1
      have b41 : BxM H3.length H4.length G (ptrA H3.length 0) [.bool false, va] := b41
      simp (disch := omega) only [Tryz.f83, Option.getD_some, atC, es_seq, es_region, es_cond, es_block, ops_nil, ops_cons, st_assign, st_fun, sy_bin, binS_lss, bindO_some, bindF_some, bindX_normal, blkX_normal, condX_true, ev_tmp, ev_const, ev_func, putA, upd_at, Option.map_some, ↓reduceIte, Nat.reduceEqDiff, List.map_cons, List.map_nil, ↓bindO_some, ↓bindF_some, ↓bindX_normal, ↓condX_true, sy_load aL, sy_store zL, sy_faddr fW1, h2, h3, h5, f21, f31, f51, l21, l31, s0, hc, hd, s1]
      refine ⟨_, _, .slice none 0 0, va, rfl, h2, h3, h4, h5, old5.mono (by omega), wf5, b3.mono (old5.mono (by omega)), b41, ?_, ?_⟩
      · intro G' _ _
        rw [Int.ediv_eq_zero_of_lt x0 hlt, nf_zero]
        exact .inl ⟨rfl, rfl⟩
      · intro G' ho _
        have e := Int.emod_eq_of_lt x0 hlt
        exact ⟨by rw [e]; exact hx.mono (old04.trans ((old5.mono (by omega)).trans (ho.mono (by omega)))), .inr ⟨rfl, e⟩⟩
    · have hc : decide (cmpZ x y < 0) = false := by
        unfold cmpZ
        rw [if_neg hlt]
        split <;> rfl
      have hlen := hy4.lenI
      by_cases h1 : (nf y).length = 1
      · have c1 : ((nf y).length : Int) = 1 := by omega
        have hy1 : (nf y).getD 0 0 = y := by
          have := nf_val y
          match hn : nf y, h1 with
          | [z], _ => rw [hn] at this; simpa [val] using this
        have y1 : y < 100000000 := by rw [← hy1]; exact ((nf_dg (by omega : 0 ≤ y)).getD 0).2
        have ad : addrS 1 vb (vi 0) = some (pt vb 0) := hy4.addrI (i := 0) (by omega) (by omega)
        have ld : ∀ G, Old H4.length H4 G ∨ Old H.length H4 G → loadS (pt vb 0) G = some (vi y) := fun G h => by
          have : R G vb (ints (nf y)) := by
            rcases h with h | h
            · exact hy4.mono h
            · exact hy.mono (old04.trans h)
          rw [this.loadI (by omega), hy1]
        obtain ⟨d, H5, s1, r5, old5, wf5⟩ := short_run wf4 hx4 x0 y0 y1 (by omega) n (by omega)
        have b35 := b3.mono (old5.mono (by omega))
        obtain ⟨H6, s2, b36, old6, wf6, k6⟩ := b35.set wf5 (i := 1) (by simp) r5.R.scal
        have s2 : storeS (bx (ptrA H2.length 0) 1) d H5 = some H6 := s2
        have b36 : BxM H2.length H3.length H6 (ptrA H2.length 0) [.bool false, d] := b36
        have r6 := r5.kept (Kept.mono k6 (by omega))
        have old46 := (old5.mono (by omega : H2.length ≤ H4.length)).trans old6
        have kr := fun (A : Fr) => ov_r6 (H := H4) (H5 := H5) (H6 := H6) (pa := ptrA H.length 0) (pb := ptrA H1.length 0) (p4 := ptrA H2.length 0) (p5 := ptrA H3.length 0) (va := va) (vb := vb) (d := d) (y := y) (z := x % y) (evB Tryz.prog bC n) n Tryz.f83.ntmps none (a := A) (q1 := bx (ptrA H.length 0) 1) (q2 := bx (ptrA H1.length 0) 1) (q3 := bx (ptrA H2.length 0) 1) (q4 := pt vb 0)
        simp only [Tryz.f83, Option.getD_some, atC] at kr
        obtain ⟨w, H7, s7, ⟨dr, rfl, r7⟩, old7, wf7⟩ := small_run (z := x % y) wf6 (by have := Int.emod_nonneg x (by omega : y ≠ 0); omega) (by have := Int.emod_lt_of_pos x y0; omega) n (by omega)
        have hz : decide (x % y < 0) = false := by have := Int.emod_nonneg x (by omega : y ≠ 0); simp; omega
        rw [hz] at s7
        rw [natAbs_pos (Int.emod_nonneg x (by omega : y ≠ 0))] at r7
        have g6 : H4.length ≤ H6.length := Nat.le_trans old5.1 old6.1
        have b47 := ((b4.mono old5).kept k6 (Nat.le_refl _)).mono (old7.mono g6)
        obtain ⟨H8, s8, b48, old8, wf8, k8⟩ := b47.store wf7 (vs := [.bool false, dr]) rfl
        have s8 : storeN 2 (ptrA H3.length 0) (.agg #[.bool false, dr]) H7 = some H8 := s8
        simp (disch := omega) only [Tryz.f83, Option.getD_some, atC, es_seq, es_region, es_cond, es_block, ops_nil, ops_cons, st_move, st_assign, st_fun, sy_len uL, sy_bin, binS_lss, binS_eql, bindO_some, bindF_some, bindX_normal, condX_true, condX_false, ev_tmp, ev_const, ev_func, putA, upd_at, Option.map_some, ↓reduceIte, Nat.reduceEqDiff, List.map_cons, List.map_nil, decide_true, ↓bindO_some, ↓bindF_some, ↓bindX_normal, ↓condX_true, ↓condX_false, sy_load aL, sy_faddr fW1, sy_storeN zW, h2, h3, f21, f31, l21, l31, s0, hc, hlen, c1]
        generalize hA : upd _ 6 _ = A
        obtain ⟨a', H', e, hH, g2', g3', g4', g5', g6'⟩ := kr A (by subst hA; exact h2) (by subst hA; exact h3) (by subst hA; exact h4) (by subst hA; exact h5) f21 f31 f41 ad (fun G h => by
          rcases h with rfl | rfl | rfl
          · exact l21
          · exact (b1.mono (old5.mono (by omega))).load 1
          · exact (b1.mono (old46.mono (by omega))).load 1) (fun G h => by
          rcases h with rfl | rfl | rfl
          · exact l31
          · exact (b2.mono (old5.mono (by omega))).load 1
          · exact (b2.mono (old46.mono (by omega))).load 1) (fun G h => by
          rcases h with rfl | rfl | rfl
          · exact ld _ (.inl (Old.refl _ _))
          · exact ld _ (.inl old5)
          · exact ld _ (.inr (old46.mono (by omega)))) hx.refl hy.refl s1 s2
        rw [e]
        subst hH
        simp (disch := omega) only [bindO_some, bindF_some, bindX_normal, blkX_normal, Option.map_some, ↓bindO_some, ↓bindF_some, ↓bindX_normal, g5', g6', s7, s8]
        refine ⟨_, _, d, dr, rfl, by simp only [upd_at, ↓reduceIte, Nat.reduceEqDiff, g2'], by simp only [upd_at, ↓reduceIte, Nat.reduceEqDiff, g3'], by simp only [upd_at, ↓reduceIte, Nat.reduceEqDiff, g4'], by simp only [upd_at, ↓reduceIte, Nat.reduceEqDiff, g5'], (old46.trans (old7.mono (by omega))).trans (old8.mono (by omega)), wf8, (b36.mono (old7.mono (by omega))).mono (old8.mono (by omega)), b48, ?_, ?_⟩
        · intro G' _ hk
          exact (((r6.mono old7).kept k8).kept hk).below (by omega)
        · intro G' _ hk
          have := ((r7.below g6).kept k8).kept hk
          exact ⟨this.R, .inl (this.below (by omega))⟩
      · have c1 : ¬ ((nf y).length : Int) = 1 := by omega
        have hl2 : 2 ≤ (nf y).length := by
          have := (nf_last (z := y) (by omega)).1
          omega
        obtain ⟨v1, v2, H5, s1, r1, r2, old5, wf5⟩ := hL (by omega) hl2 H4 va vb wf4 hx4 hy4 n (by omega)
        have b35 := b3.mono (old5.mono (by omega))
        obtain ⟨H6, s2, b36, old6, wf6, k6⟩ := b35.set wf5 (i := 1) (by simp) r1.R.scal
        have s2 : storeS (bx (ptrA H2.length 0) 1) v1 H5 = some H6 := s2
        have b36 : BxM H2.length H3.length H6 (ptrA H2.length 0) [.bool false, v1] := b36
        have b46 := (b4.mono old5).kept k6 (Nat.le_refl _)
        obtain ⟨H7, s3, b47, old7, wf7, k7⟩ := b46.set wf6 (i := 1) (by simp) r2.R.scal
        have s3 : storeS (bx (ptrA H3.length 0) 1) v2 H6 = some H7 := s3
        have b47 : BxM H3.length H4.length H7 (ptrA H3.length 0) [.bool false, v2] := b47
        simp (disch := omega) only [Tryz.f83, Option.getD_some, atC, es_seq, es_region, es_cond, es_block, ops_nil, ops_cons, st_move, st_assign, st_fun, sy_len uL, sy_bin, sy_ext, ext_20, ext_21, binS_lss, binS_eql, bindO_some, bindF_some, bindX_normal, blkX_normal, condX_false, ev_tmp, ev_const, ev_func, putA, upd_at, Option.map_some, ↓reduceIte, Nat.reduceEqDiff, List.map_cons, List.map_nil, decide_false, ↓bindO_some, ↓bindF_some, ↓bindX_normal, ↓condX_false, sy_load aL, sy_store zL, sy_faddr fW1, h2, h3, h4, h5, f21, f31, f41, f51, l21, l31, s0, hc, hlen, c1, s1, s2, s3]
        refine ⟨_, _, v1, v2, rfl, h2, h3, h4, h5, ((old5.mono (by omega)).trans old6).trans (old7.mono (by omega)), wf7, b36.mono (old7.mono (by omega)), b47, ?_, ?_⟩
        · intro G' _ hk
          exact (((r1.kept (Kept.mono k6 (by omega))).kept k7).kept hk).below (by omega)
        · intro G' _ hk
          have := ((r2.kept (Kept.mono k6 (by omega))).kept k7).kept hk
          exact ⟨this.R, .inl (this.below (by omega))⟩
  have first : ∃ A, evT Tryz.prog (evB Tryz.prog bC n) n Tryz.f83.ntmps none D1 (atC [0] ((Tryz.f83.body).getD .skip)) (frOf [.agg #[.bool false, va], .agg #[.bool false, vb]]) H = some (.normal, A, H4) ∧
      A 2 = ptrA H.length 0 ∧ A 3 = ptrA H1.length 0 ∧ A 4 = ptrA H2.length 0 ∧ A 5 = ptrA H3.length 0 := by
    simp (disch := omega) only [Tryz.f83, Option.getD_some, atC, es_region, ops_nil, ops_cons, bindO_some, bindF_some, ev_tmp, putA, upd_at, Option.map_some, ↓reduceIte, Nat.reduceEqDiff, frOf_0, frOf_1, ↓bindO_some, ↓bindF_some, sy_alloc iW scal_agg, sy_box, scal_agg, hH1, hH2, hH3, hH4]
    exact ⟨_, rfl, rfl, rfl, rfl, rfl⟩
  obtain ⟨A, e0, i2, i3, i4, i5⟩ := first
  obtain ⟨a1, G, dq, dr, e1, h2, h3, h4, h5, oldG, wfG, bq, br, kq, kr⟩ := head i2 i3 i4 i5
  obtain ⟨a2, G2, e2, j4, j5, m4, m5, oldT, kT, wfT⟩ := ov_tail wfG (evB Tryz.prog bC n) n Tryz.f83.ntmps none h2 h3 h4 h5 (b1.mono (oldG.mono (by omega))) (b2.mono (oldG.mono (by omega))) bq br (by omega) (by omega) (by omega) (by omega) (by omega) (fun G h k => (kq G h k).R) (fun G h k => (kr G h k).1)
  rw [e0, bindX_normal, e1, bindX_normal, e2]
  simp only [Tryz.f83, fin_r, res_cell aW zW, j4, j5, m4, m5, res_nil, Option.map_some, pack_2]
  exact ⟨_, _, _, rfl, kq G2 oldT kT, (kr G2 oldT kT).1, (kr G2 oldT kT).2, old04.trans ((oldG.mono (by omega)).trans (oldT.mono (by omega))), wfT⟩
end Go.Proofs.YtmmgdgmjkhcfaaaGreat
namespace Go.Proofs.YtmmgdgmjkhcfaaaGreat
open Go Go.Abs Go.Num
set_option maxRecDepth 10000
attribute [local congr] bindO_congr bindF_congr bindX_congr condX_congr iteB_congr binS_congr pickS_congr eqB_congr nilS_congr clsW_congr
def Held (B C : Nat) (H : Heap) (v : Value) (l : List Value) : Prop := ∀ G, Old B H G → Kept C H G → R G v l
theorem Held.R {B C : Nat} {H : Heap} {v : Value} {l : List Value} (h : Held B C H v l) : R H v l := h H (Old.refl _ _) (Kept.refl _ _)
theorem Held.go {B C : Nat} {H G : Heap} {v : Value} {l : List Value} (h : Held B C H v l) (ho : Old B H G) (hk : Kept C H G) : Held B C G v l := fun G' h1 h2 => h G' (ho.trans h1) (Kept.trans hk h2)
theorem Old.kept {C : Nat} {H H' : Heap} (h : Old H.length H H') : Kept C H H' := fun b f o cs _ _ hb => by rw [h.2 b (lt_of_blk hb)]; exact hb
theorem wh_of {H : Heap} {v : Value} {z : Int} (z0 : 0 ≤ z) (h : R H v (ints (nf z))) : Wh 0 H (.agg #[.bool false, v]) z := ⟨v, by rw [show decide (z < 0) = false from by simp; omega], by rw [natAbs_pos z0]; exact h.RO⟩
def LongAll (F : Nat) : Prop := ∀ x y : Int, 0 ≤ x → 0 < y → y ≤ x → (nf x).length ≤ 390 → 2 ≤ (nf y).length → LongOK F x y
theorem read_pos {H : Heap} {v : Value} {z : Int} (hw : WF H) (hv : NumV H v z) (z0 : 0 ≤ z) (n : Nat) (hn : 2001 ≤ n) :
    ∃ d H', evB Tryz.prog bC n (.func (.func 72) #[] #[]) [v] H = some (.agg #[.bool false, d], H') ∧ R H' d (ints (nf z)) ∧ Old H.length H H' ∧ WF H' := by
  obtain ⟨w, H', e, ⟨d, rfl, hd⟩, ho, hw'⟩ := read_run hw hv n hn
  rw [show decide (z < 0) = false from by simp; omega] at e
  rw [natAbs_pos z0] at hd
  exact ⟨d, H', e, hd.R, ho, hw'⟩
end Go.Proofs.YtmmgdgmjkhcfaaaGreat
namespace Go.Proofs.YtmmgdgmjkhcfaaaGreat
open Go Go.Abs Go.Num
set_option maxRecDepth 10000
attribute [local congr] bindO_congr bindF_congr bindX_congr condX_congr iteB_congr binS_congr pickS_congr eqB_congr nilS_congr clsW_congr
theorem dm_r4 {H H1 H2 H5 H6 : Heap} {vx pb dx wb w1 w2 : Value} (call : CallF) (k nt : Nat) (rd : Option Nat) {a : Fr} (h0 : a 0 = vx) (h7 : a 7 = pb)
    (s1 : call (.func (.func 72) #[] #[]) [vx] H = some (dx, H1)) (lb : ∀ G, G = H ∨ G = H1 ∨ G = H2 ∨ G = H5 ∨ G = H6 → loadN 2 pb G = some wb) (rb : vEq wb wb = true)
    (s2 : call (.func (.func 83) #[] #[]) [dx, wb] H1 = some (.tuple #[w1, w2], H2))
    (s5 : storeN 2 (ptrA H2.length 0) w1 ((H2 ++ [Blk.cells H2.length true [.bool false, .slice none 0 0]]) ++ [Blk.cells (H2 ++ [Blk.cells H2.length true [.bool false, .slice none 0 0]]).length true [.bool false, .slice none 0 0]]) = some H5)
    (s6 : storeN 2 (ptrA (H2 ++ [Blk.cells H2.length true [.bool false, .slice none 0 0]]).length 0) w2 H5 = some H6) :
    ∃ a' H', evT Tryz.prog call k nt rd D1 (atC [1, 1, 1, 0] ((Tryz.f60.body).getD .skip)) a H = some (.normal, a', H') ∧ H' = H6 ∧ a' 8 = ptrA H2.length 0 ∧ a' 9 = ptrA (H2 ++ [Blk.cells H2.length true [.bool false, .slice none 0 0]]).length 0 := by
  simp only [Tryz.f60, Option.getD_some, atC]
  refine et_from (fun a' H' => H' = H6 ∧ a' 8 = ptrA H2.length 0 ∧ a' 9 = ptrA (H2 ++ [Blk.cells H2.length true [.bool false, .slice none 0 0]]).length 0) ?_
  have e0 := lb H1 (.inr (.inl rfl))
  simp (disch := omega) only [st_move, st_fun, sy_ext, ext_20, ext_21, bindO_some, ev_tmp, ev_func, putA, upd_at, Option.map_some, ↓reduceIte, Nat.reduceEqDiff, List.map_cons, List.map_nil, ↓bindO_some, sy_loadN aW zW, sy_storeN zW, sy_alloc iW scal_agg, opsW_nil, opsW_cons, clsW_eff, clsW_all, clsW_read, clsW_pure, ↓clsW_eff, ↓clsW_all, ↓clsW_read, ↓clsW_pure, cls_move, cls_load, cls_callF, cls_store, cls_extract, cls_alloc, h0, h7, s1, e0, s2, s5, s6]
  refine ⟨_, rfl, ?_, rfl, ?_, ?_⟩
  · intro G hG r hr
    simp only [List.mem_cons, List.not_mem_nil, or_false] at hG hr
    have hG' : G = H ∨ G = H1 ∨ G = H2 ∨ G = H5 ∨ G = H6 := by
      rcases hG with h | h | h | h | h
      · exact .inr (.inr (.inr (.inr h)))
      · exact .inr (.inr (.inr (.inl h)))
      · exact .inr (.inr (.inl h))
      · exact .inr (.inl h)
      · exact .inl h
    have e1 := lb G hG'
    subst hr
    simp only [still_ldN aW zW, ev_tmp, upd_at, ↓reduceIte, Nat.reduceEqDiff, h7, e1, rb]
  · simp only [upd_at, ↓reduceIte, Nat.reduceEqDiff]
  · simp only [upd_at, ↓reduceIte]
theorem dm_r5 {H H1 H2 : Heap} {p8 p9 v1 v2 w1 w2 : Value} (call : CallF) (k nt : Nat) (rd : Option Nat) {a : Fr} (h8 : a 8 = p8) (h9 : a 9 = p9)
    (l8 : ∀ G, G = H ∨ G = H1 ∨ G = H2 → loadN 2 p8 G = some w1) (l9 : ∀ G, G = H ∨ G = H1 ∨ G = H2 → loadN 2 p9 G = some w2) (r1 : vEq w1 w1 = true) (r2 : vEq w2 w2 = true)
    (s1 : call (.func (.func 59) #[] #[]) [w1] H = some (v1, H1)) (s2 : call (.func (.func 59) #[] #[]) [w2] H1 = some (v2, H2)) :
    ∃ a' H', evT Tryz.prog call k nt rd D1 (atC [1, 1, 1, 1, 0] ((Tryz.f60.body).getD .skip)) a H = some (.normal, a', H') ∧ H' = H2 ∧ a' 4 = v1 ∧ a' 5 = v2 ∧ a' 6 = vi 0 := by
  simp only [Tryz.f60, Option.getD_some, atC]
  refine et_from (fun a' H' => H' = H2 ∧ a' 4 = v1 ∧ a' 5 = v2 ∧ a' 6 = vi 0) ?_
  have e0 := l8 H (.inl rfl)
  have e1 := l9 H1 (.inr (.inl rfl))
  simp (disch := omega) only [st_assign, st_fun, bindO_some, ev_tmp, ev_const, ev_func, putA, upd_at, Option.map_some, ↓reduceIte, Nat.reduceEqDiff, List.map_cons, List.map_nil, ↓bindO_some, sy_loadN aW zW, opsW_nil, opsW_cons, clsW_eff, clsW_read, clsW_pure, ↓clsW_eff, ↓clsW_read, ↓clsW_pure, cls_assign, cls_load, cls_callF, h8, h9, e0, e1, s1, s2]
  refine ⟨_, rfl, ?_, rfl, ?_, ?_, ?_⟩
  · intro G hG r hr
    simp only [List.mem_cons, List.not_mem_nil, or_false] at hG hr
    have hG' : G = H ∨ G = H1 ∨ G = H2 := by
      rcases hG with h | h | h
      · exact .inr (.inr h)
      · exact .inr (.inl h)
      · exact .inl h
    have e0 := l8 G hG'
    have e1 := l9 G hG'
    rcases hr with rfl | rfl
    all_goals simp only [still_ldN aW zW, ev_tmp, upd_at, ↓reduceIte, Nat.reduceEqDiff, h8, h9, e0, e1, r1, r2]
  · simp only [upd_at, ↓reduceIte, Nat.reduceEqDiff]
  · simp only [upd_at, ↓reduceIte, Nat.reduceEqDiff]
  · simp only [upd_at, ↓reduceIte]
theorem divmodP_run {FL : Nat} (hLA : LongAll FL) {H : Heap} {vx vy : Value} {x y : Int} (hw : WF H) (hx : NumV H vx x) (hy : NumV H vy y) (x0 : 0 ≤ x) (y0 : 0 < y) (lx : (nf x).length ≤ 390) (ly : (nf y).length ≤ 390) (n : Nat) (hn : FL + 2014 ≤ n) :
    TwoL H (evB Tryz.prog bC n (.func (.func 60) #[] #[]) [vx, vy] H) (fun a b => .tuple #[a, b, vi 0]) (nf (x / y)) (nf (x % y)) := by
  refine run_ofB (F := FL + 2013) (Q := fun r => TwoL H r (fun a b => .tuple #[a, b, vi 0]) (nf (x / y)) (nf (x % y))) (fun n hn => ?_) n (by omega)
  rw [body_runS Tryz.func60 rfl (ok_fn (by rfl) Tryz.func60 rfl) (Nat.le_of_ble_eq_true rfl) (D := D1) (by kernel_rfl)]
  obtain ⟨db, H1, s1, r1, old1, wf1⟩ := read_pos hw hy (by omega) n (by omega)
  have old2 := Old.app H1 [.cells H1.length true [.bool false, .slice none 0 0]]
  have wf2 := wf1.app (Nat.le_refl H1.length) (o := true) (cs := [.bool false, .slice none 0 0])
  have b2 := BxM.made (B := H1.length) (H := H1) (Nat.le_refl _) [.bool false, .slice none 0 0]
  generalize hH2 : H1 ++ [Blk.cells H1.length true [.bool false, .slice none 0 0]] = H2 at *
  have g2 : H2.length = H1.length + 1 := by rw [← hH2]; simp
  have g1 := old1.1
  obtain ⟨H3, s3, b3, old3, wf3, k3⟩ := b2.store wf2 (vs := [.bool false, db]) rfl
  have s3 : storeN 2 (ptrA H1.length 0) (.agg #[.bool false, db]) H2 = some H3 := s3
  have l3 : loadN 2 (ptrA H1.length 0) H3 = some (.agg #[.bool false, db]) := b3.loadAll
  have g3 := old3.1
  have old13 : Old H1.length H1 H3 := old2.trans old3
  have r3 := r1.mono old13
  obtain ⟨H4, s4, old4, wf4⟩ := sign_run wf3 (wh_of (by omega) r3) (by rw [natAbs_pos (by omega)]; omega) n (by omega)
  have hc : cmpZ y 0 = 1 := by unfold cmpZ; rw [if_neg (by omega), if_pos (by omega)]
  have c1 : decide ((1 : Int) = 0) = false := rfl
  have g4 := old4.1
  have old14 : Old H1.length H1 H4 := old13.trans (old4.mono (by omega))
  have old04 : Old H.length H H4 := old1.trans (old14.mono (by omega))
  obtain ⟨da, H5, s5, r5, old5, wf5⟩ := read_pos wf4 (hx.mono old04) x0 n (by omega)
  have g5 := old5.1
  obtain ⟨v1, v2, H6, s6, q1, q2, _, old6, wf6⟩ := over_run wf5 r5 (r1.mono (old14.trans (old5.mono (by omega)))) x0 y0 lx ly (fun h h' => hLA x y x0 y0 h lx h') n (by omega)
  have g6 := old6.1
  have old7 := Old.app H6 [.cells H6.length true [.bool false, .slice none 0 0]]
  have wf7 := wf6.app (Nat.le_refl H6.length) (o := true) (cs := [.bool false, .slice none 0 0])
  have b7 := BxM.made (B := H6.length) (H := H6) (Nat.le_refl _) [.bool false, .slice none 0 0]
  have kr4 := fun (A : Fr) {G5 G6 : Heap} => dm_r4 (H := H4) (H1 := H5) (H2 := H6) (H5 := G5) (H6 := G6) (vx := vx) (pb := ptrA H1.length 0) (dx := .agg #[.bool false, da]) (wb := .agg #[.bool false, db]) (w1 := .agg #[.bool false, v1]) (w2 := .agg #[.bool false, v2]) (evB Tryz.prog bC n) n Tryz.f60.ntmps none (a := A)
  generalize hH7 : H6 ++ [Blk.cells H6.length true [.bool false, .slice none 0 0]] = H7 at *
  have old8 := Old.app H7 [.cells H7.length true [.bool false, .slice none 0 0]]
  have wf8 := wf7.app (Nat.le_refl H7.length) (o := true) (cs := [.bool false, .slice none 0 0])
  have b8 := BxM.made (B := H7.length) (H := H7) (Nat.le_refl _) [.bool false, .slice none 0 0]
  generalize hH8 : H7 ++ [Blk.cells H7.length true [.bool false, .slice none 0 0]] = H8 at *
  have g7 : H7.length = H6.length + 1 := by rw [← hH7]; simp
  have g8 : H8.length = H7.length + 1 := by rw [← hH8]; simp
  obtain ⟨H9, s9, b9, old9, wf9, k9⟩ := (b7.mono old8).store wf8 (vs := [.bool false, v1]) rfl
  have s9 : storeN 2 (ptrA H6.length 0) (.agg #[.bool false, v1]) H8 = some H9 := s9
  obtain ⟨Ha, sa, ba, olda, wfa, ka⟩ := (b8.kept k9 (by omega)).store wf9 (vs := [.bool false, v2]) rfl
  have sa : storeN 2 (ptrA H7.length 0) (.agg #[.bool false, v2]) H9 = some Ha := sa
  have g9 := old9.1
  have ga := olda.1
  have old6a : Old H6.length H6 Ha := ((old7.trans (old8.mono (by omega))).trans old9).trans (olda.mono (by omega))
  have b34 := b3.mono (old4.mono (by omega : H2.length ≤ H3.length))
  have b35 := b34.mono (old5.mono (by omega : H2.length ≤ H4.length))
  have b36 := b35.mono (old6.mono (by omega : H2.length ≤ H5.length))
  have b39 := b36.mono (((old7.trans (old8.mono (by omega))).trans old9).mono (by omega : H2.length ≤ H6.length))
  have b3a := b39.mono (olda.mono (by omega : H2.length ≤ H7.length))
  have b9a := b9.mono (olda.mono (by omega : H7.length ≤ H7.length))
  have q1a := q1.R.mono old6a
  have q2a := q2.mono old6a
  have hq0 : 0 ≤ x / y := Int.ediv_nonneg x0 (by omega)
  have hr0 : 0 ≤ x % y := Int.emod_nonneg x (by omega)
  have lq : (nf (x / y)).length ≤ 390 := Nat.le_trans (nf_len_mono hq0 (Int.ediv_le_self y x0)) lx
  have lr : (nf (x % y)).length ≤ 390 := Nat.le_trans (nf_len_mono hr0 (Int.le_of_lt (Int.emod_lt_of_pos x y0))) ly
  obtain ⟨u1, Hb, sb, ob, oldb, wfb⟩ := list_run wfa (wh_of hq0 q1a) (by rw [abs_len]; omega) n (by omega)
  obtain ⟨u2, Hc, sc, oc, oldc, wfc⟩ := list_run wfb (wh_of hr0 (q2a.mono oldb)) (by rw [abs_len]; omega) n (by omega)
  have gb := oldb.1
  have gc := oldc.1
  have kr5 := fun (A : Fr) => dm_r5 (H := Ha) (H1 := Hb) (H2 := Hc) (p8 := ptrA H6.length 0) (p9 := ptrA H7.length 0) (v1 := u1) (v2 := u2) (w1 := .agg #[.bool false, v1]) (w2 := .agg #[.bool false, v2]) (evB Tryz.prog bC n) n Tryz.f60.ntmps none (a := A)
  simp only [Tryz.f60, Option.getD_some, atC] at kr4 kr5
  simp (disch := omega) only [Tryz.f60, es_seq, es_region, es_cond, es_skip, es_ret, ops_nil, ops_cons, st_move, st_assign, st_fun, sy_bin, binS_eql, bindO_some, bindF_some, bindX_normal, condX_false, ev_tmp, ev_const, ev_func, putA, upd_at, Option.map_some, ↓reduceIte, Nat.reduceEqDiff, frOf_1, List.map_cons, List.map_nil, ↓bindO_some, ↓bindF_some, ↓bindX_normal, ↓condX_false, sy_loadN aW zW, sy_storeN zW, sy_alloc iW scal_agg, s1, hH2, s3, l3, s4, hc, c1]
  generalize hA : upd _ 14 _ = A
  obtain ⟨a', _, e, hH', i8, i9⟩ := kr4 A (by subst hA; rfl) (by subst hA; rfl) s5 (fun G h => by
    rcases h with rfl | rfl | rfl | rfl | rfl
    · exact b34.loadAll
    · exact b35.loadAll
    · exact b36.loadAll
    · exact b39.loadAll
    · exact b3a.loadAll) (vEq_whole r1) s6 s9 sa
  rw [hH'] at e
  rw [e]
  simp (disch := omega) only [bindX_normal, ↓bindX_normal]
  obtain ⟨a'', _, e, hH', i4, i5, i6⟩ := kr5 a' i8 i9 (fun G h => by
    rcases h with rfl | rfl | rfl
    · exact b9a.loadAll
    · exact (b9a.mono (oldb.mono (by omega))).loadAll
    · exact ((b9a.mono (oldb.mono (by omega))).mono (oldc.mono (by omega))).loadAll) (fun G h => by
    rcases h with rfl | rfl | rfl
    · exact ba.loadAll
    · exact (ba.mono (oldb.mono (by omega))).loadAll
    · exact ((ba.mono (oldb.mono (by omega))).mono (oldc.mono (by omega))).loadAll) (vEq_whole q1a) (vEq_whole q2a) sb sc
  rw [hH'] at e
  rw [e]
  simp (disch := omega) only [bindX_normal, Option.map_some, ↓bindX_normal, fin_r, res_nil, res_tmp, pack_3, scal_vi, i4, i5, i6, ob.R.scal, oc.R.scal]
  have old0a : Old H.length H Ha := (old04.trans ((old5.mono (by omega)).trans (old6.mono (by omega)))).trans (old6a.mono (by omega))
  exact ⟨_, _, _, rfl, (ob.mono oldc).below (by omega), oc.below (by omega), (old0a.trans (oldb.mono (by omega))).trans (oldc.mono (by omega)), wfc⟩
theorem overC_run {FL : Nat} (hLA : LongAll FL) {H : Heap} {vx vy : Value} {x y : Int} (hw : WF H) (hx : NumV H vx x) (hy : NumV H vy y) (x0 : 0 ≤ x) (y0 : 0 < y) (lx : (nf x).length ≤ 390) (ly : (nf y).length ≤ 390) (n : Nat) (hn : FL + 2015 ≤ n) :
    OneL H (evB Tryz.prog bC n (.func (.func 41) #[] #[]) [vx, vy] H) (nf (x / y)) := by
  refine run_ofB (F := FL + 2014) (Q := fun r => OneL H r (nf (x / y))) (fun n hn => ?_) n (by omega)
  rw [body_runS Tryz.func41 rfl (ok_fn (by rfl) Tryz.func41 rfl) (Nat.le_of_ble_eq_true rfl) (D := D0) (by kernel_rfl)]
  obtain ⟨v1, v2, H1, s1, o1, o2, old1, wf1⟩ := divmodP_run hLA hw hx hy x0 y0 lx ly n (by omega)
  simp (disch := omega) only [Tryz.f41, es_seq, es_region, es_ret, ops_nil, ops_cons, st_move, st_assign, st_fun, sy_ext, bindO_some, bindF_some, bindX_normal, ev_tmp, ev_const, ev_func, putA, upd_at, Option.map_some, ↓reduceIte, Nat.reduceEqDiff, frOf_0, frOf_1, List.map_cons, List.map_nil, ↓bindO_some, ↓bindF_some, ↓bindX_normal, fin_r, res_nil, res_tmp, pack_1, s1, ext_30, ext_31, ext_32, o1.R.scal]
  exact ⟨_, _, rfl, o1, old1, wf1⟩
end Go.Proofs.YtmmgdgmjkhcfaaaGreat
namespace Go.Proofs.YtmmgdgmjkhcfaaaGreat
open Go Go.Abs Go.Num
set_option maxRecDepth 10000
attribute [local congr] bindO_congr bindF_congr bindX_congr condX_congr iteB_congr binS_congr pickS_congr eqB_congr nilS_congr clsW_congr maxS_congr minS_congr
theorem trimmedO_run {C : Nat} {H : Heap} {v : Value} {l : List Int} (hv : OP C H v (ints l)) (hl : l.length ≤ 1000) (n : Nat) (hn : 2000 ≤ n) : ∃ v', evB Tryz.prog bC n (.func (.func 96) #[] #[]) [v] H = some (v', H) ∧ OP C H v' (ints (trimL l)) := by
  refine run_ofB (F := 1999) (Q := fun x => ∃ v', x = some (v', H) ∧ OP C H v' (ints (trimL l))) (fun n hn => ?_) n hn
  rw [body_runS Tryz.func96 rfl (ok_fn (by rfl) Tryz.func96 rfl) (Nat.le_of_ble_eq_true rfl) (D := D0) (by kernel_rfl)]
  have key : ∀ A : Fr, A 0 = v → ∃ x a' H', loopN (evS Tryz.prog (evB Tryz.prog bC n) n Tryz.f96.ntmps none trmA) n A H = some (x, a', H') ∧ x = .exit 0 ∧ H' = H ∧ ∃ v', a' 0 = v' ∧ OP C H v' (ints (trimL l)) := by
    intro A h0
    refine loop_wf (fun n a H' => H' = H ∧ ∃ v', a 0 = v' ∧ OP C H v' (ints (l.take n)) ∧ n ≤ l.length ∧ trimL (l.take n) = trimL l) _ ?_ n l.length A H (by omega) ⟨rfl, v, h0, by rw [List.take_length]; exact hv, Nat.le_refl _, by rw [List.take_length]⟩
    intro c a H' ⟨hH, v', h0, hr, hc, ht⟩
    subst hH
    have hlc : (l.take c).length = c := by rw [List.length_take]; omega
    have hlen := hr.RO.R.lenI
    rw [hlc] at hlen
    rw [show trmA = atC [1, 0, 0, 0] ((Tryz.f96.body).getD .skip) from rfl]
    by_cases hz : c = 0
    · subst hz
      right
      have c1 : decide ((0 : Int) < ((0 : Nat) : Int)) = false := rfl
      simp (disch := omega) only [Tryz.f96, Option.getD_some, atC, es_seq, es_region, es_cond, es_exit, ops_nil, ops_cons, ops_consG, st_move, sy_pick, pickS_false, sy_len uL, sy_bin, binS_gtr, bindO_some, bindF_some, bindX_normal, bindX_exit, condX_false, iteB_false, ev_tmp, ev_const, putA, upd_at, Option.map_some, ↓reduceIte, Nat.reduceEqDiff, yieldO_eq, yO, yV_bool, some_true, List.getElem?_cons_zero, List.getElem?_cons_succ, ↓bindO_some, ↓bindF_some, ↓bindX_normal, ↓bindX_exit, ↓condX_false, ↓iteB_false, h0, hlen, c1]
      exact ⟨_, _, _, rfl, by simp, rfl, rfl, v', by simp only [upd_get, ↓reduceIte, Nat.reduceEqDiff, h0], by rw [← ht]; exact hr⟩
    · obtain ⟨d, rfl⟩ : ∃ d, c = d + 1 := ⟨c - 1, by omega⟩
      have c1 : (0 : Int) < ((d + 1 : Nat) : Int) := by omega
      have e1 : IntKind.i64.wrap (((d + 1 : Nat) : Int) - 1) = (d : Int) := by rw [wr64 (by omega) (by omega)]; omega
      have hx := take_snoc' (l := l) (c := d) (by omega)
      have a1 : addrS 1 v' (vi d) = some (pt v' d) := by have := hr.RO.R.addrI (i := (d : Int)) (by omega) (by omega); simpa using this
      have l1 : loadS (pt v' d) H' = some (vi (l.getD d 0)) := by
        have := hr.RO.R.loadI (i := d) (by omega)
        rw [this, hx, List.getD_eq_getElem?_getD, List.getElem?_append_right (by rw [List.length_take]; omega), List.length_take, Nat.min_eq_left (by omega), Nat.sub_self]
        rfl
      rw [hx, trimL_snoc] at ht
      by_cases hy : l.getD d 0 = 0
      · left
        rw [if_pos hy] at ht
        obtain ⟨v2, s2, r2⟩ := hr.upto (c := d) (by omega)
        rw [List.take_take, Nat.min_eq_left (by omega)] at r2
        simp (disch := omega) only [Tryz.f96, Option.getD_some, atC, es_seq, es_region, es_cond, es_block, es_skip, ops_nil, ops_cons, ops_consG, st_move, st_assign, sy_pick, pickS_true, sy_len uL, sy_addr eL, sy_load aI, sy_bin, sy_slice eL, binS_gtr, binS_eql, binS_sub, bindO_some, bindF_some, bindX_normal, blkX_normal, condX_true, iteB_true, ev_tmp, ev_const, putA, upd_at, Option.map_some, ↓reduceIte, Nat.reduceEqDiff, decide_true, yieldO_eq, yO, yV_bool, List.getElem?_cons_zero, List.getElem?_cons_succ, beq_self_eq_true, ↓bindO_some, ↓bindF_some, ↓bindX_normal, ↓condX_true, ↓iteB_true, h0, hlen, c1, e1, a1, l1, hy, Option.map_none, s2]
        exact ⟨_, _, rfl, d, by omega, rfl, v2, by simp only [upd_get, ↓reduceIte], r2, by omega, ht⟩
      · right
        rw [if_neg hy] at ht
        simp (disch := omega) only [Tryz.f96, Option.getD_some, atC, es_seq, es_region, es_cond, es_exit, ops_nil, ops_cons, ops_consG, st_move, sy_pick, pickS_true, sy_len uL, sy_addr eL, sy_load aI, sy_bin, binS_gtr, binS_eql, binS_sub, bindO_some, bindF_some, bindX_normal, bindX_exit, condX_false, iteB_true, ev_tmp, ev_const, putA, upd_at, Option.map_some, ↓reduceIte, Nat.reduceEqDiff, decide_true, decide_false, yieldO_eq, yO, yV_bool, List.getElem?_cons_zero, List.getElem?_cons_succ, beq_self_eq_true, ↓bindO_some, ↓bindF_some, ↓bindX_normal, ↓bindX_exit, ↓condX_false, ↓iteB_true, h0, hlen, c1, e1, a1, l1, hy]
        exact ⟨_, _, _, rfl, by simp, rfl, rfl, v', by simp only [upd_get, ↓reduceIte, Nat.reduceEqDiff, h0], by rw [← ht, ← hx]; exact hr⟩
  rw [show trmA = atC [1, 0, 0, 0] ((Tryz.f96.body).getD .skip) from rfl] at key
  simp only [Tryz.f96, Option.getD_some, atC] at key
  simp (disch := omega) only [Tryz.f96, es_seq, es_region, es_block, es_loop, es_ret, ops_nil, ops_cons, st_move, st_assign, bindO_some, bindF_some, bindX_normal, ev_tmp, ev_const, putA, upd_at, ↓reduceIte, ↓bindO_some, ↓bindF_some, ↓bindX_normal]
  generalize hA : upd _ 2 _ = A
  obtain ⟨x, a', H', e, hx, hH, v', h0, r⟩ := key A (by subst hA; rfl)
  subst hx
  subst hH
  rw [e]
  simp (disch := omega) only [bindX_normal, blkX_exit, upd_at, Option.map_some, ↓reduceIte, ↓bindX_normal, fin_r, res_nil, res_tmp, pack_1, h0, r.RO.R.scal]
  exact ⟨_, rfl, r⟩
def OneWO (H : Heap) (r : Option (Value × Heap)) (z : Int) : Prop := ∃ w H', r = some (w, H') ∧ (∃ v, w = .agg #[.bool (decide (z < 0)), v] ∧ OP H.length H' v (ints (nf z.natAbs))) ∧ Old H.length H H' ∧ WF H'
theorem timesO_run {C : Nat} {H : Heap} {wx wy : Value} {x y : Int} (hw : WF H) (hx : Wh C H wx x) (hy : Wh C H wy y) (lx : (nf x.natAbs).length ≤ 390) (ly : (nf y.natAbs).length ≤ 390) (n : Nat) (hn : 2010 ≤ n) :
    OneWO H (evB Tryz.prog bC n (.func (.func 77) #[] #[]) [wx, wy] H) (x * y) := by
  obtain ⟨vx, rfl, hx⟩ := hx
  obtain ⟨vy, rfl, hy⟩ := hy
  have hx := hx.R
  have hy := hy.R
  generalize hnx : decide (x < 0) = nx
  generalize hny : decide (y < 0) = ny
  refine run_ofB (F := 2009) (Q := fun r => OneWO H r (x * y)) (fun n hn => ?_) n hn
  rw [body_runS Tryz.func77 rfl (ok_fn (by rfl) Tryz.func77 rfl) (Nat.le_of_ble_eq_true rfl) (D := D1) (by kernel_rfl)]
  have old1 := Old.app H [.cells H.length true [.bool nx, vx]]
  have wf1 := hw.app (Nat.le_refl H.length) (o := true) (cs := [.bool nx, vx])
  have b1 := BxM.made (B := H.length) (H := H) (Nat.le_refl _) [.bool nx, vx]
  generalize hH1 : H ++ [Blk.cells H.length true [.bool nx, vx]] = H1 at *
  have old2 := Old.app H1 [.cells H1.length true [.bool ny, vy]]
  have wf2 := wf1.app (Nat.le_refl H1.length) (o := true) (cs := [.bool ny, vy])
  have b2 := BxM.made (B := H1.length) (H := H1) (Nat.le_refl _) [.bool ny, vy]
  generalize hH2 : H1 ++ [Blk.cells H1.length true [.bool ny, vy]] = H2 at *
  have old3 := Old.app H2 [.cells H2.length true [.bool false, .slice none 0 0]]
  have wf3 := wf2.app (Nat.le_refl H2.length) (o := true) (cs := [.bool false, .slice none 0 0])
  have b3 := BxM.made (B := H2.length) (H := H2) (Nat.le_refl _) [.bool false, .slice none 0 0]
  generalize hH3 : H2 ++ [Blk.cells H2.length true [.bool false, .slice none 0 0]] = H3 at *
  have old13 := old2.trans (old3.mono old2.1)
  have old03 := old1.trans (old13.mono old1.1)
  have b1 := b1.mono old13
  have b2 := b2.mono old3
  have f10 := b1.faddr 0
  have f11 := b1.faddr 1
  have f20 := b2.faddr 0
  have f21 := b2.faddr 1
  have l11 : loadS (bx (ptrA H.length 0) 1) H3 = some vx := b1.load 1
  have l21 : loadS (bx (ptrA H1.length 0) 1) H3 = some vy := b2.load 1
  have hx3 := hx.mono old03
  have hy3 := hy.mono old03
  have hlx := hx.lenI
  have hly := hy.lenI
  -- the end: the box of the result
  have fin : ∀ (H4 : Heap) (v : Value) (nb : Bool) (z : Int), Old H3.length H3 H4 → WF H4 → OP H3.length H4 v (ints (nf z.natAbs)) → decide (z < 0) = nb → ∃ H5, storeN 2 (ptrA H2.length 0) (.agg #[.bool nb, v]) H4 = some H5 ∧ loadN 2 (ptrA H2.length 0) H5 = some (.agg #[.bool nb, v]) ∧ OneWO H (some (.agg #[.bool nb, v], H5)) z ∧ Old H2.length H3 H5 := by
    intro H4 v nb z old4 wf4 r4 hz
    obtain ⟨H5, s5, b5, old5, wf5, keep5⟩ := (b3.mono old4).store wf4 (vs := [.bool nb, v]) rfl
    exact ⟨H5, s5, b5.loadAll, ⟨_, _, rfl, ⟨v, by rw [hz], (r4.kept keep5).below old03.1⟩, (old03.trans (old4.mono old03.1)).trans (old5.mono (Nat.le_trans old1.1 old2.1)), wf5⟩, (old4.mono old3.1).trans old5⟩
  by_cases hx0 : x = 0
  · have hz : x * y = 0 := by rw [hx0]; exact Int.zero_mul y
    have e0 : ((nf x.natAbs).length : Int) = 0 := by rw [hx0, show ((0 : Int).natAbs : Int) = 0 from rfl, nf_zero]; rfl
    have e1 : decide (((nf x.natAbs).length : Int) = 0) = true := by rw [e0]; rfl
    obtain ⟨H5, s5, s6, ow, _⟩ := fin H3 (.slice none 0 0) false (x * y) (Old.refl _ _) wf3 (by rw [hz, show ((0 : Int).natAbs : Int) = 0 from rfl, nf_zero]; exact .inl ⟨rfl, rfl⟩) (by rw [hz]; rfl)
    simp (disch := omega) only [Tryz.f77, es_seq, es_region, es_cond, es_ret, ops_nil, ops_cons, ops_consG, st_move, sy_pick, pickS_true, sy_len uL, sy_bin, binS_eql, bindO_some, bindF_some, bindX_normal, bindX_ret, condX_true, iteB_false, ev_tmp, ev_const, putA, upd_at, Option.map_some, ↓reduceIte, Nat.reduceEqDiff, frOf_0, frOf_1, List.map_nil, Bool.not_true, yieldO_eq, yO, yV_bool, some_false, List.getElem?_cons_zero, List.getElem?_cons_succ, ↓bindO_some, ↓bindF_some, ↓bindX_normal, ↓bindX_ret, ↓condX_true, ↓iteB_false, fin_r, res_nil, pack_1, sy_load aL, sy_faddr fW1, sy_storeN zW, sy_alloc iW scal_agg, sy_box, sy_build, bW0, res_cell aW zW, scal_agg, hH1, hH2, hH3, f11, l11, hlx, e1, s5, s6]
    exact ow
  · have ex : decide (((nf x.natAbs).length : Int) = 0) = false := decide_eq_false (by have := (nf_last (z := (x.natAbs : Int)) (by omega)).1; omega)
    by_cases hy0 : y = 0
    · have hz : x * y = 0 := by rw [hy0]; exact Int.mul_zero x
      have e0 : ((nf y.natAbs).length : Int) = 0 := by rw [hy0, show ((0 : Int).natAbs : Int) = 0 from rfl, nf_zero]; rfl
      have e1 : decide (((nf y.natAbs).length : Int) = 0) = true := by rw [e0]; rfl
      obtain ⟨H5, s5, s6, ow, _⟩ := fin H3 (.slice none 0 0) false (x * y) (Old.refl _ _) wf3 (by rw [hz, show ((0 : Int).natAbs : Int) = 0 from rfl, nf_zero]; exact .inl ⟨rfl, rfl⟩) (by rw [hz]; rfl)
      simp (disch := omega) only [Tryz.f77, es_seq, es_region, es_cond, es_ret, ops_nil, ops_cons, ops_consG, st_move, sy_pick, pickS_false, sy_len uL, sy_bin, binS_eql, bindO_some, bindF_some, bindX_normal, bindX_ret, condX_true, iteB_true, ev_tmp, ev_const, putA, upd_at, Option.map_some, ↓reduceIte, Nat.reduceEqDiff, frOf_0, frOf_1, List.map_nil, yieldO_eq, yO, yV_bool, List.getElem?_cons_zero, List.getElem?_cons_succ, beq_self_eq_true, ↓bindO_some, ↓bindF_some, ↓bindX_normal, ↓bindX_ret, ↓condX_true, ↓iteB_true, fin_r, res_nil, pack_1, sy_load aL, sy_faddr fW1, sy_storeN zW, sy_alloc iW scal_agg, sy_box, sy_build, bW0, res_cell aW zW, scal_agg, hH1, hH2, hH3, f11, f21, l11, l21, hlx, hly, ex, e1, s5, s6]
      exact ow
    · have ey : decide (((nf y.natAbs).length : Int) = 0) = false := decide_eq_false (by have := (nf_last (z := (y.natAbs : Int)) (by omega)).1; omega)
      have hsg := mul_sign hnx hny hx0 hy0
      have hab : ((x * y).natAbs : Int) = x.natAbs * y.natAbs := by rw [Int.natAbs_mul]; exact Int.natCast_mul ..
      have e1 : IntKind.i64.wrap (((nf x.natAbs).length : Int) + ((nf y.natAbs).length : Int)) = (((nf y.natAbs).length + (nf x.natAbs).length : Nat) : Int) := by rw [wr64 (by omega) (by omega)]; omega
      have c2 : (0 : Int) ≤ (((nf y.natAbs).length + (nf x.natAbs).length : Nat) : Int) := by omega
      have c3 : (((nf y.natAbs).length + (nf x.natAbs).length : Nat) : Int) ≤ 1048576 := by omega
      have hz := zeros_I ((nf y.natAbs).length + (nf x.natAbs).length)
      have hlr : (ints (List.replicate ((nf y.natAbs).length + (nf x.natAbs).length) (0 : Int))).length = (nf y.natAbs).length + (nf x.natAbs).length := by rw [ints_len, List.length_replicate]
      have or := O.made (B := H3.length) (Nat.le_refl H3.length) (ints (List.replicate ((nf y.natAbs).length + (nf x.natAbs).length) (0 : Int)))
      rw [hlr] at or
      have oldm := Old.app H3 [.cells H3.length true (ints (List.replicate ((nf y.natAbs).length + (nf x.natAbs).length) (0 : Int)))]
      have wfm := wf3.app (Nat.le_refl H3.length) (o := true) (cs := ints (List.replicate ((nf y.natAbs).length + (nf x.natAbs).length) (0 : Int)))
      have l11m : loadS (bx (ptrA H.length 0) 1) (H3 ++ [.cells H3.length true (ints (List.replicate ((nf y.natAbs).length + (nf x.natAbs).length) (0 : Int)))]) = some vx := (b1.mono (oldm.mono (by have := old2.1; have := old3.1; omega))).load 1
      have key := fun (A : Fr) => tim_outer (p2 := ptrA H.length 0) (p4 := ptrA H2.length 0) oldm.1 f21 (fun G hG => (b2.mono ((oldm.trans hG).mono old3.1)).load 1) (fun G hG => hx3.mono (oldm.trans hG)) (fun G hG => hy3.mono (oldm.trans hG)) (by omega) (by omega) (by omega) (by omega) or wfm (evB Tryz.prog bC n) n Tryz.f77.ntmps (by omega) (a := A) (k := n) (by omega)
      rw [show timA = atC [1, 1, 1, 0, 1, 0, 0] ((Tryz.f77.body).getD .skip) from rfl] at key
      have kr := fun (A : Fr) {G G' : Heap} {vo d : Value} => tim_r16 (H := G) (H6 := G') (px := ptrA H.length 0) (py := ptrA H1.length 0) (p4 := ptrA H2.length 0) (vo := vo) (d := d) (nx := nx) (ny := ny) (evB Tryz.prog bC n) n Tryz.f77.ntmps none (a := A) (q0 := bx (ptrA H.length 0) 0) (q1 := bx (ptrA H1.length 0) 0)
      simp only [Tryz.f77, Option.getD_some, atC] at key kr
      simp (disch := omega) only [Tryz.f77, es_seq, es_region, es_cond, es_block, es_loop, es_skip, es_ret, ops_nil, ops_cons, ops_consG, st_move, st_assign, sy_pick, pickS_false, sy_len uL, sy_bin, sy_make eL yI (by decide), binS_eql, binS_add, bindO_some, bindF_some, bindX_normal, condX_false, iteB_true, ev_tmp, ev_const, putA, upd_at, Option.map_some, ↓reduceIte, Nat.reduceEqDiff, Int.toNat_natCast, frOf_0, frOf_1, yieldO_eq, yO, yV_bool, List.getElem?_cons_zero, List.getElem?_cons_succ, beq_self_eq_true, ↓bindO_some, ↓bindF_some, ↓bindX_normal, ↓condX_false, ↓iteB_true, sy_load aL, sy_faddr fW1, sy_alloc iW scal_agg, sy_box, scal_agg, hH1, hH2, hH3, f11, f21, l11, l21, hlx, hly, ex, ey, e1, c2, c3, Int.le_refl, and_self, hz, l11m]
      generalize hA : upd _ 34 _ = A
      obtain ⟨r, a', H', e, hr, g2, g3, g4, g5, old4, wf4, lo, ol, hd, hll, hval⟩ := key A (by subst hA; rfl) (by subst hA; rfl) (by subst hA; rfl) (by subst hA; rfl) (by subst hA; rfl) (by subst hA; rfl) (by subst hA; rfl)
      subst hr
      rw [e]
      clear e key
      have old34 := oldm.trans old4
      obtain ⟨d, sd, rd⟩ := trimmedO_run ol.OP (by omega) n (by omega)
      rw [nf_of_digs hd hval, ← hab] at rd
      obtain ⟨H5, s5, s6, ow, old5⟩ := fin H' d _ (x * y) old34 wf4 rd hsg
      have old5' := old5.mono old2.1
      have old35 := old34.mono (Nat.le_trans old2.1 old3.1)
      obtain ⟨a2, H2', e2, hH', g4'⟩ := kr a' (G := H') (G' := H5) g2 g3 g4 g5 f10 f20 (fun G h => by
        rcases h with rfl | rfl
        · exact (b1.mono old35).load 0
        · exact (b1.mono old5').load 0) (fun G h => by
        rcases h with rfl | rfl
        · exact (b2.mono (old34.mono old3.1)).load 0
        · exact (b2.mono old5).load 0) sd rd.RO.R.scal s5
      subst hH'
      simp (disch := omega) only [bindX_normal, blkX_exit, ↓reduceIte, ↓bindX_normal]
      rw [e2]
      simp (disch := omega) only [bindX_normal, Option.map_some, ↓bindX_normal, fin_r, res_nil, pack_1, res_cell aW zW, g4', s6]
      exact ow
end Go.Proofs.YtmmgdgmjkhcfaaaGreat
namespace Go.Proofs.YtmmgdgmjkhcfaaaGreat
open Go Go.Abs Go.Num
set_option maxRecDepth 10000
attribute [local congr] bindO_congr bindF_congr bindX_congr condX_congr iteB_congr binS_congr pickS_congr eqB_congr nilS_congr clsW_congr maxS_congr minS_congr
theorem mid_get {A w Y : List Int} {i : Nat} (h : i < w.length) : (A ++ (w ++ Y)).getD (i + A.length) 0 = w.getD i 0 := by
  rw [List.getD_eq_getElem?_getD, List.getElem?_append_right (by omega), Nat.add_sub_cancel, List.getElem?_append_left h, ← List.getD_eq_getElem?_getD]
theorem mid_set {A w Y : List Int} {i : Nat} (h : i < w.length) (x : Int) : (A ++ (w ++ Y)).set (i + A.length) x = A ++ (w.set i x ++ Y) := by
  rw [List.set_append_right _ _ (by omega), Nat.add_sub_cancel, List.set_append_left _ _ h]
theorem top_get {A w Z : List Int} {e : Int} : (A ++ (w ++ (e :: Z))).getD (A.length + w.length) 0 = e := by
  rw [List.getD_eq_getElem?_getD, List.getElem?_append_right (by omega), Nat.add_sub_cancel_left, List.getElem?_append_right (Nat.le_refl _), Nat.sub_self]; rfl
theorem top_set {A w Z : List Int} {e : Int} (x : Int) : (A ++ (w ++ (e :: Z))).set (A.length + w.length) x = A ++ (w ++ (x :: Z)) := by
  rw [List.set_append_right _ _ (by omega), Nat.add_sub_cancel_left, List.set_append_right _ _ (Nat.le_refl _), Nat.sub_self]; rfl
theorem sub_step {w : List Int} {i : Nat} {c g m : Int} (h : i < w.length) : val (w.set i ((w.getD i 0 - g * m + c) % 100000000)) + B ^ (i + 1) * ((w.getD i 0 - g * m + c) / 100000000) = (val w + B ^ i * c) - B ^ i * (g * m) := by
  have := times_step (n := -g) (m := m) (c := c) h
  rw [show w.getD i 0 + -g * m + c = w.getD i 0 - g * m + c from by rw [Int.neg_mul]; omega, Int.neg_mul, Int.mul_neg] at this
  omega
theorem add_step {w : List Int} {i : Nat} {c m : Int} (h : i < w.length) : val (w.set i ((w.getD i 0 + m + c) % 100000000)) + B ^ (i + 1) * ((w.getD i 0 + m + c) / 100000000) = (val w + B ^ i * c) + B ^ i * m := by
  have := times_step (n := 1) (m := m) (c := c) h
  rw [Int.one_mul] at this
  exact this
structure LS (a : Fr) (f : Int) (vu vv vo : Value) (n j : Int) : Prop where
  s6 : a 6 = vi f
  s7 : a 7 = vu
  s8 : a 8 = vv
  s9 : a 9 = vi n
  s10 : a 10 = vo
  s11 : a 11 = vi j
theorem LS.upd {a : Fr} {f : Int} {vu vv vo : Value} {n j : Int} (h : LS a f vu vv vo n j) {t : Nat} (ht : 12 ≤ t) (v : Value) : LS (Abs.upd a t v) f vu vv vo n j := by
  constructor <;> rw [upd_at, if_neg (by omega)]
  · exact h.s6
  · exact h.s7
  · exact h.s8
  · exact h.s9
  · exact h.s10
  · exact h.s11
noncomputable def lgS : Code := atC [1, 1, 1, 1, 1, 1, 0, 1, 0, 0, 1, 0, 0, 1, 1, 0, 1, 0, 0] ((Tryz.f103.body).getD .skip)
noncomputable def lgD : Code := atC [1, 1, 1, 1, 1, 1, 0, 1, 0, 0, 1, 0, 0, 1, 1, 1, 1, 0, 0, 0, 1, 0, 1, 1, 0, 1, 0, 0] ((Tryz.f103.body).getD .skip)
noncomputable def lgW : Code := atC [1, 1, 1, 1, 1, 1, 0, 1, 0, 0, 1, 0, 0, 1, 1, 1, 1, 0, 0, 0] ((Tryz.f103.body).getD .skip)
noncomputable def lgO : Code := atC [1, 1, 1, 1, 1, 1, 0, 1, 0, 0] ((Tryz.f103.body).getD .skip)
theorem lg_sub {B0 C0 : Nat} {H : Heap} {vu vv vo : Value} {f V g : Int} {A w Y : List Int} (hv : ∀ G, Old B0 H G → Kept C0 H G → R G vv (ints (nf V))) (V0 : 0 ≤ V) (hg : 0 ≤ g ∧ g < 100000000) (ho : OM B0 C0 H vu (ints (A ++ (w ++ Y)))) (hd : Dg w) (hl : w.length = (nf V).length) (hA : A.length ≤ 900) (ln : (nf V).length ≤ 400) (hw : WF H)
    (n m nt : Nat) (hn : 10 ≤ n) {a : Fr} {k : Nat} (hk : (nf V).length < k) (hs : LS a f vu vv vo (nf V).length A.length) (h12 : a 12 = vi g) (h13 : a 13 = vi 0) (h81 : a 81 = vi (nf V).length) (h82 : a 82 = vi (0 : Nat)) :
    ∃ r a' H', loopN (evS Tryz.prog (evB Tryz.prog bC n) m nt none lgS) k a H = some (r, a', H') ∧ r = .exit 2 ∧ LS a' f vu vv vo (nf V).length A.length ∧ a' 12 = vi g ∧ Old B0 H H' ∧ Kept C0 H H' ∧ WF H' ∧ ∃ w' c, a' 13 = vi c ∧ OM B0 C0 H' vu (ints (A ++ (w' ++ Y))) ∧ w'.length = w.length ∧ Dg w' ∧ -100000000 < c ∧ c ≤ 0 ∧ val w' + B ^ (nf V).length * c = val w - g * V := by
  refine loop_up (nf V).length (fun i a H' => LS a f vu vv vo (nf V).length A.length ∧ a 12 = vi g ∧ a 81 = vi (nf V).length ∧ a 82 = vi i ∧ Old B0 H H' ∧ Kept C0 H H' ∧ WF H' ∧ ∃ w' c, a 13 = vi c ∧ OM B0 C0 H' vu (ints (A ++ (w' ++ Y))) ∧ w'.length = w.length ∧ Dg w' ∧ -100000000 < c ∧ c ≤ 0 ∧ val w' + B ^ i * c = val w - g * val ((nf V).take i)) _ ?_ ?_ hk
    ⟨hs, h12, h81, h82, Old.refl _ _, Kept.refl _ _, hw, w, 0, h13, ho, rfl, hd, by omega, by omega, by simp [val]⟩
  · intro i a H' hi ⟨hs, h12, h81, h82, old, kept, hw, w', c, h13, ho, hl', hd, c0, c1, hval⟩
    left
    rw [show lgS = atC [1, 1, 1, 1, 1, 1, 0, 1, 0, 0, 1, 0, 0, 1, 1, 0, 1, 0, 0] ((Tryz.f103.body).getD .skip) from rfl]
    have hrv := hv H' old kept
    have hm := (nf_dg V0).getD i
    have hx := hd.getD i
    have hp := prod_le hg hm
    have hro := ho.O.R
    have hil : i < w'.length := by omega
    have hlt : (i : Int) < (nf V).length := by omega
    have hlen : (A ++ (w' ++ Y)).length = A.length + (w'.length + Y.length) := by rw [List.length_append, List.length_append]
    have e0 : IntKind.i64.wrap ((i : Int) + (A.length : Int)) = ((i + A.length : Nat) : Int) := by rw [wr64 (by omega) (by omega)]; omega
    have a1 : addrS 1 vu (vi ((i + A.length : Nat) : Int)) = some (pt vu (i + A.length)) := by have := hro.addrI (i := ((i + A.length : Nat) : Int)) (by omega) (by omega); rwa [Int.toNat_natCast] at this
    have l1 : loadS (pt vu (i + A.length)) H' = some (vi (w'.getD i 0)) := by rw [hro.loadI (by omega), mid_get hil]
    have e1 : IntKind.i64.wrap (g * (nf V).getD i 0) = g * (nf V).getD i 0 := wr64 (by omega) (by omega)
    have e2 : IntKind.i64.wrap (w'.getD i 0 - g * (nf V).getD i 0) = w'.getD i 0 - g * (nf V).getD i 0 := wr64 (by omega) (by omega)
    have e3 : IntKind.i64.wrap (w'.getD i 0 - g * (nf V).getD i 0 + c) = w'.getD i 0 - g * (nf V).getD i 0 + c := wr64 (by omega) (by omega)
    have s1 := floored_run (z := w'.getD i 0 - g * (nf V).getD i 0 + c) (by omega) (by omega) n H' hn
    have e7 : IntKind.i64.wrap ((i : Int) + 1) = ((i + 1 : Nat) : Int) := by rw [wr64 (by omega) (by omega)]; omega
    obtain ⟨H2, s2, o2, old2, wf2, k2⟩ := ho.setKI hw (i := i + A.length) (by omega) ((w'.getD i 0 - g * (nf V).getD i 0 + c) % 100000000)
    rw [mid_set hil] at o2
    simp (disch := omega) only [Tryz.f103, Option.getD_some, atC, es_seq, es_region, es_draw, d0, es_cond, es_block, es_skip, ops_nil, ops_cons, opsV_nil, opsV_cons, st_move, st_assign, st_fun, sy_addr eL, sy_load aI, sy_store zI, sy_bin, sy_ext, ext_20, ext_21, binS_lss, binS_add, binS_sub, binS_mul, bindO_some, bindF_some, bindX_normal, blkX_normal, condX_true, iteB_true, iteB_false, ev_tmp, ev_const, ev_func, putA, upd_at, Option.map_some, ↓reduceIte, Nat.reduceEqDiff, Int.toNat_natCast, List.map_cons, List.map_nil, decide_true, ↓bindO_some, ↓bindF_some, ↓bindX_normal, ↓condX_true, ↓iteB_true, ↓iteB_false, reflV_load, reflV_move, reflV_assign, reflV_bin, reflV_addr, reflV_call, reflV_extract, vEq_vi, hs.s7, hs.s8, hs.s11, h12, h13, h81, h82, hlt, hrv.addrI, hrv.loadI, e0, a1, l1, e1, e2, e3, s1, s2, e7]
    refine ⟨_, _, rfl, (by repeat refine LS.upd ?_ (by decide) _
                           exact hs), h12, h81, rfl, old.trans old2, Kept.trans kept k2, wf2, _, _, by simp only [upd_at, ↓reduceIte, Nat.reduceEqDiff]; rfl, o2, by rw [List.length_set]; exact hl', hd.set i (by omega) (by omega), by omega, by omega, ?_⟩
    rw [sub_step hil, hval, val_take_succ, Int.mul_add, Int.mul_left_comm g (B ^ i)]
    omega
  · intro a H' ⟨hs, h12, h81, h82, old, kept, hw, w', c, h13, ho, hl', hd, c0, c1, hval⟩
    rw [show lgS = atC [1, 1, 1, 1, 1, 1, 0, 1, 0, 0, 1, 0, 0, 1, 1, 0, 1, 0, 0] ((Tryz.f103.body).getD .skip) from rfl]
    simp (disch := omega) only [Tryz.f103, Option.getD_some, atC, es_seq, es_region, es_cond, es_exit, ops_nil, ops_cons, sy_bin, binS_lss, bindO_some, bindF_some, bindX_normal, bindX_exit, condX_false, ev_tmp, putA, upd_at, ↓reduceIte, decide_false, ↓bindO_some, ↓bindF_some, ↓bindX_normal, ↓bindX_exit, ↓condX_false, h81, h82, Int.lt_irrefl]
    exact ⟨_, _, _, rfl, by simp, rfl, (by repeat refine LS.upd ?_ (by decide) _
                                           exact hs), h12, old, kept, hw, w', c, h13, ho, hl', hd, c0, c1, by rw [hval, List.take_length, nf_val]⟩
theorem lg_add {B0 C0 : Nat} {H : Heap} {vu vv vo : Value} {f V g : Int} {A w Y : List Int} (hv : ∀ G, Old B0 H G → Kept C0 H G → R G vv (ints (nf V))) (V0 : 0 ≤ V) (ho : OM B0 C0 H vu (ints (A ++ (w ++ Y)))) (hd : Dg w) (hl : w.length = (nf V).length) (hA : A.length ≤ 900) (ln : (nf V).length ≤ 400) (hw : WF H)
    (n m nt : Nat) (hn : 10 ≤ n) {a : Fr} {k : Nat} (hk : (nf V).length < k) (hs : LS a f vu vv vo (nf V).length A.length) (h12 : a 12 = vi g) (h13 : a 13 = vi 0) (h81 : a 130 = vi (nf V).length) (h82 : a 131 = vi (0 : Nat)) :
    ∃ r a' H', loopN (evS Tryz.prog (evB Tryz.prog bC n) m nt none lgD) k a H = some (r, a', H') ∧ r = .exit 6 ∧ LS a' f vu vv vo (nf V).length A.length ∧ a' 12 = vi g ∧ Old B0 H H' ∧ Kept C0 H H' ∧ WF H' ∧ ∃ w' c, a' 13 = vi c ∧ OM B0 C0 H' vu (ints (A ++ (w' ++ Y))) ∧ w'.length = w.length ∧ Dg w' ∧ 0 ≤ c ∧ c ≤ 1 ∧ val w' + B ^ (nf V).length * c = val w + V := by
  refine loop_up (nf V).length (fun i a H' => LS a f vu vv vo (nf V).length A.length ∧ a 12 = vi g ∧ a 130 = vi (nf V).length ∧ a 131 = vi i ∧ Old B0 H H' ∧ Kept C0 H H' ∧ WF H' ∧ ∃ w' c, a 13 = vi c ∧ OM B0 C0 H' vu (ints (A ++ (w' ++ Y))) ∧ w'.length = w.length ∧ Dg w' ∧ 0 ≤ c ∧ c ≤ 1 ∧ val w' + B ^ i * c = val w + val ((nf V).take i)) _ ?_ ?_ hk
    ⟨hs, h12, h81, h82, Old.refl _ _, Kept.refl _ _, hw, w, 0, h13, ho, rfl, hd, by omega, by omega, by simp [val]⟩
  · intro i a H' hi ⟨hs, h12, h81, h82, old, kept, hw, w', c, h13, ho, hl', hd, c0, c1, hval⟩
    left
    rw [show lgD = atC [1, 1, 1, 1, 1, 1, 0, 1, 0, 0, 1, 0, 0, 1, 1, 1, 1, 0, 0, 0, 1, 0, 1, 1, 0, 1, 0, 0] ((Tryz.f103.body).getD .skip) from rfl]
    have hrv := hv H' old kept
    have hm := (nf_dg V0).getD i
    have hx := hd.getD i
    have hro := ho.O.R
    have hil : i < w'.length := by omega
    have hlt : (i : Int) < (nf V).length := by omega
    have hlen : (A ++ (w' ++ Y)).length = A.length + (w'.length + Y.length) := by rw [List.length_append, List.length_append]
    have e0 : IntKind.i64.wrap ((i : Int) + (A.length : Int)) = ((i + A.length : Nat) : Int) := by rw [wr64 (by omega) (by omega)]; omega
    have a1 : addrS 1 vu (vi ((i + A.length : Nat) : Int)) = some (pt vu (i + A.length)) := by have := hro.addrI (i := ((i + A.length : Nat) : Int)) (by omega) (by omega); rwa [Int.toNat_natCast] at this
    have l1 : loadS (pt vu (i + A.length)) H' = some (vi (w'.getD i 0)) := by rw [hro.loadI (by omega), mid_get hil]
    have e2 : IntKind.i64.wrap (w'.getD i 0 + (nf V).getD i 0) = w'.getD i 0 + (nf V).getD i 0 := wr64 (by omega) (by omega)
    have e3 : IntKind.i64.wrap (w'.getD i 0 + (nf V).getD i 0 + c) = w'.getD i 0 + (nf V).getD i 0 + c := wr64 (by omega) (by omega)
    have s1 := floored_run (z := w'.getD i 0 + (nf V).getD i 0 + c) (by omega) (by omega) n H' hn
    have e7 : IntKind.i64.wrap ((i : Int) + 1) = ((i + 1 : Nat) : Int) := by rw [wr64 (by omega) (by omega)]; omega
    obtain ⟨H2, s2, o2, old2, wf2, k2⟩ := ho.setKI hw (i := i + A.length) (by omega) ((w'.getD i 0 + (nf V).getD i 0 + c) % 100000000)
    rw [mid_set hil] at o2
    simp (disch := omega) only [Tryz.f103, Option.getD_some, atC, es_seq, es_region, es_draw, d0, es_cond, es_block, es_skip, ops_nil, ops_cons, opsV_nil, opsV_cons, st_move, st_assign, st_fun, sy_addr eL, sy_load aI, sy_store zI, sy_bin, sy_ext, ext_20, ext_21, binS_lss, binS_add, bindO_some, bindF_some, bindX_normal, blkX_normal, condX_true, iteB_true, iteB_false, ev_tmp, ev_const, ev_func, putA, upd_at, Option.map_some, ↓reduceIte, Nat.reduceEqDiff, Int.toNat_natCast, List.map_cons, List.map_nil, decide_true, ↓bindO_some, ↓bindF_some, ↓bindX_normal, ↓condX_true, ↓iteB_true, ↓iteB_false, reflV_load, reflV_move, reflV_assign, reflV_bin, reflV_addr, reflV_call, reflV_extract, vEq_vi, hs.s7, hs.s8, hs.s11, h13, h81, h82, hlt, hrv.addrI, hrv.loadI, e0, a1, l1, e2, e3, s1, s2, e7]
    refine ⟨_, _, rfl, (by repeat refine LS.upd ?_ (by decide) _
                           exact hs), h12, h81, rfl, old.trans old2, Kept.trans kept k2, wf2, _, _, by simp only [upd_at, ↓reduceIte, Nat.reduceEqDiff]; rfl, o2, by rw [List.length_set]; exact hl', hd.set i (by omega) (by omega), by omega, by omega, ?_⟩
    rw [add_step hil, hval, val_take_succ]
    omega
  · intro a H' ⟨hs, h12, h81, h82, old, kept, hw, w', c, h13, ho, hl', hd, c0, c1, hval⟩
    rw [show lgD = atC [1, 1, 1, 1, 1, 1, 0, 1, 0, 0, 1, 0, 0, 1, 1, 1, 1, 0, 0, 0, 1, 0, 1, 1, 0, 1, 0, 0] ((Tryz.f103.body).getD .skip) from rfl]
    simp (disch := omega) only [Tryz.f103, Option.getD_some, atC, es_seq, es_region, es_cond, es_exit, ops_nil, ops_cons, sy_bin, binS_lss, bindO_some, bindF_some, bindX_normal, bindX_exit, condX_false, ev_tmp, putA, upd_at, ↓reduceIte, decide_false, ↓bindO_some, ↓bindF_some, ↓bindX_normal, ↓bindX_exit, ↓condX_false, h81, h82, Int.lt_irrefl]
    exact ⟨_, _, _, rfl, by simp, rfl, (by repeat refine LS.upd ?_ (by decide) _
                                           exact hs), h12, old, kept, hw, w', c, h13, ho, hl', hd, c0, c1, by rw [hval, List.take_length, nf_val]⟩
theorem divmod_of {T g V : Int} (h0 : 0 ≤ T - g * V) (h1 : T < (g + 1) * V) : T / V = g ∧ T % V = T - g * V := by
  rw [Int.add_mul, Int.one_mul] at h1
  have e : T = (T - g * V) + V * g := by rw [Int.mul_comm V g]; omega
  have hV : 0 < V := by omega
  constructor
  · rw [e, Int.add_mul_ediv_left _ _ (by omega), Int.ediv_eq_zero_of_lt h0 (by omega)]; omega
  · conv => lhs; rw [e]
    rw [Int.add_mul_emod_self_left, Int.emod_eq_of_lt h0 (by omega)]
theorem lg_while {B0 C0 : Nat} {H : Heap} {vu vv vo : Value} {f V g T e : Int} {A w Z : List Int} (hv : ∀ G, Old B0 H G → Kept C0 H G → R G vv (ints (nf V))) (V0 : 0 < V) (T0 : 0 ≤ T) (hg : 0 ≤ g ∧ g < 100000000) (ho : OM B0 C0 H vu (ints (A ++ (w ++ (e :: Z))))) (hd : Dg w) (hl : w.length = (nf V).length) (he : -100000000 < e ∧ e < 100000000)
    (hval : val w + B ^ (nf V).length * e = T - g * V) (hT : T < (g + 1) * V) (hA : A.length ≤ 900) (ln : (nf V).length ≤ 400) (hw : WF H)
    (n m nt : Nat) (hn : 10 ≤ n) (hm : 1000 ≤ m) {a : Fr} {k : Nat} (hk : 100000000 ≤ k) (hs : LS a f vu vv vo (nf V).length A.length) (h12 : a 12 = vi g) :
    ∃ r a' H', loopN (evS Tryz.prog (evB Tryz.prog bC n) m nt none lgW) k a H = some (r, a', H') ∧ r = .exit 4 ∧ LS a' f vu vv vo (nf V).length A.length ∧ a' 12 = vi (T / V) ∧ Old B0 H H' ∧ Kept C0 H H' ∧ WF H' ∧ ∃ w', OM B0 C0 H' vu (ints (A ++ (w' ++ (0 :: Z)))) ∧ w'.length = w.length ∧ Dg w' ∧ val w' = T % V := by
  refine loop_wf (fun j a H' => ∃ g w1 e, j = g.toNat ∧ 0 ≤ g ∧ g < 100000000 ∧ LS a f vu vv vo (nf V).length A.length ∧ a 12 = vi g ∧ Old B0 H H' ∧ Kept C0 H H' ∧ WF H' ∧ OM B0 C0 H' vu (ints (A ++ (w1 ++ (e :: Z)))) ∧ w1.length = w.length ∧ Dg w1 ∧ -100000000 < e ∧ e < 100000000 ∧ val w1 + B ^ (nf V).length * e = T - g * V ∧ T < (g + 1) * V) _ ?_ k g.toNat a H (by omega)
    ⟨g, w, e, rfl, hg.1, hg.2, hs, h12, Old.refl _ _, Kept.refl _ _, hw, ho, rfl, hd, he.1, he.2, hval, hT⟩
  intro j a H' ⟨g, w1, e, hj, g0, g1, hs, h12, old, kept, hw, ho, hl', hd, he0, he1, hval, hT⟩
  rw [show lgW = atC [1, 1, 1, 1, 1, 1, 0, 1, 0, 0, 1, 0, 0, 1, 1, 1, 1, 0, 0, 0] ((Tryz.f103.body).getD .skip) from rfl]
  have hro := ho.O.R
  have hlen : (A ++ (w1 ++ (e :: Z))).length = A.length + (w1.length + (Z.length + 1)) := by rw [List.length_append, List.length_append, List.length_cons]
  have e0 : IntKind.i64.wrap ((A.length : Int) + ((nf V).length : Int)) = ((A.length + w1.length : Nat) : Int) := by rw [wr64 (by omega) (by omega)]; omega
  have a1 : addrS 1 vu (vi ((A.length + w1.length : Nat) : Int)) = some (pt vu (A.length + w1.length)) := by have := hro.addrI (i := ((A.length + w1.length : Nat) : Int)) (by omega) (by omega); rwa [Int.toNat_natCast] at this
  have l1 : loadS (pt vu (A.length + w1.length)) H' = some (vi e) := by rw [hro.loadI (by omega), top_get]
  have hw1 := hd.val
  have hpB := pow_pos (nf V).length
  have hsV := (nf_size V).2
  rw [show w1.length = (nf V).length from by omega] at hw1
  by_cases hneg : e < 0
  · left
    have hBe : B ^ (nf V).length * e ≤ B ^ (nf V).length * (-1) := Int.mul_le_mul_of_nonneg_left (by omega) (by omega)
    have hg1 : 1 ≤ g := by
      apply Decidable.byContradiction
      intro h
      have : g = 0 := by omega
      subst this
      rw [Int.zero_mul] at hval
      omega
    have c1 : IntKind.i64.wrap (g - 1) = g - 1 := wr64 (by omega) (by omega)
    have key := fun (A' : Fr) => lg_add (f := f) (vo := vo) (g := g - 1) (A := A) (w := w1) (Y := e :: Z) (fun G h1 h2 => hv G (old.trans h1) (Kept.trans kept h2)) (by omega : 0 ≤ V) ho hd (by omega) hA ln hw n m nt hn (a := A') (k := m) (by omega)
    rw [show lgD = atC [1, 1, 1, 1, 1, 1, 0, 1, 0, 0, 1, 0, 0, 1, 1, 1, 1, 0, 0, 0, 1, 0, 1, 1, 0, 1, 0, 0] ((Tryz.f103.body).getD .skip) from rfl] at key
    simp only [Tryz.f103, Option.getD_some, atC] at key
    simp (disch := omega) only [Tryz.f103, Option.getD_some, atC, es_seq, es_region, es_cond, es_block, es_loop, es_skip, ops_nil, ops_cons, st_move, st_assign, sy_addr eL, sy_load aI, sy_store zI, sy_bin, binS_lss, binS_add, binS_sub, bindO_some, bindF_some, bindX_normal, condX_true, ev_tmp, ev_const, putA, upd_at, Option.map_some, ↓reduceIte, Nat.reduceEqDiff, decide_true, ↓bindO_some, ↓bindF_some, ↓bindX_normal, ↓condX_true, hs.s7, hs.s9, hs.s11, h12, e0, a1, l1, hneg, c1]
    generalize hA' : upd _ 131 _ = A'
    obtain ⟨r, a', H2, e', hr, hs', g12, old2, k2, wf2, w2, c, g13, ho2, hl2, hd2, c0, c2, hval2⟩ := key A' (by
      subst hA'
      repeat refine LS.upd ?_ (by decide) _
      exact hs) (by subst hA'; rfl) (by subst hA'; rfl) (by subst hA'; rfl) (by subst hA'; rfl)
    subst hr
    rw [e']
    clear e' key
    have hro2 := ho2.O.R
    have hlen2 : (A ++ (w2 ++ (e :: Z))).length = A.length + (w2.length + (Z.length + 1)) := by rw [List.length_append, List.length_append, List.length_cons]
    rw [show w1.length = w2.length from hl2.symm] at e0
    have a2 : addrS 1 vu (vi ((A.length + w2.length : Nat) : Int)) = some (pt vu (A.length + w2.length)) := by have := hro2.addrI (i := ((A.length + w2.length : Nat) : Int)) (by omega) (by omega); rwa [Int.toNat_natCast] at this
    have l2 : loadS (pt vu (A.length + w2.length)) H2 = some (vi e) := by rw [hro2.loadI (by omega), top_get]
    have c3 : IntKind.i64.wrap (e + c) = e + c := wr64 (by omega) (by omega)
    obtain ⟨H3, s3, o3, old3, wf3, k3⟩ := ho2.setKI wf2 (i := A.length + w2.length) (by omega) (e + c)
    rw [top_set] at o3
    simp (disch := omega) only [binS_add, bindO_some, bindF_some, bindX_normal, blkX_normal, blkX_exit, Option.map_some, ↓reduceIte, ↓bindO_some, ↓bindF_some, ↓bindX_normal, hs'.s7, hs'.s9, hs'.s11, g13, e0, a2, l2, c3, s3]
    refine ⟨_, _, rfl, (g - 1).toNat, by omega, g - 1, w2, e + c, rfl, by omega, by omega, (by
      repeat refine LS.upd ?_ (by decide) _
      exact hs'), g12, (old.trans old2).trans old3, Kept.trans (Kept.trans kept k2) k3, wf3, o3, by omega, hd2, by omega, by omega, ?_, ?_⟩
    · rw [Int.mul_add, Int.sub_mul, Int.one_mul]; omega
    · rw [Int.sub_add_cancel]; omega
  · right
    simp (disch := omega) only [Tryz.f103, Option.getD_some, atC, es_seq, es_region, es_cond, es_exit, ops_nil, ops_cons, st_move, sy_addr eL, sy_load aI, sy_bin, binS_lss, binS_add, bindO_some, bindF_some, bindX_normal, bindX_exit, condX_false, ev_tmp, ev_const, putA, upd_at, Option.map_some, ↓reduceIte, Nat.reduceEqDiff, decide_false, ↓bindO_some, ↓bindF_some, ↓bindX_normal, ↓bindX_exit, ↓condX_false, hs.s7, hs.s9, hs.s11, e0, a1, l1, hneg]
    have hBe := Int.mul_nonneg (Int.le_of_lt hpB) (by omega : 0 ≤ e)
    obtain ⟨q1, q2⟩ := divmod_of (T := T) (g := g) (V := V) (by omega) hT
    have hez : e = 0 := by
      apply Decidable.byContradiction
      intro h
      have : B ^ (nf V).length * 1 ≤ B ^ (nf V).length * e := Int.mul_le_mul_of_nonneg_left (by omega) (by omega)
      rw [Int.add_mul, Int.one_mul] at hT
      omega
    subst hez
    rw [Int.mul_zero] at hval
    refine ⟨_, _, _, rfl, by simp, rfl, (by
      repeat refine LS.upd ?_ (by decide) _
      exact hs), by simp only [upd_at, ↓reduceIte, Nat.reduceEqDiff, h12, q1], old, kept, hw, w1, ho, hl', hd, by omega⟩
end Go.Proofs.YtmmgdgmjkhcfaaaGreat
namespace Go.Proofs.YtmmgdgmjkhcfaaaGreat
open Go Go.Abs Go.Num
set_option maxRecDepth 10000
attribute [local congr] bindO_congr bindF_congr bindX_congr condX_congr iteB_congr binS_congr pickS_congr eqB_congr nilS_congr clsW_congr maxS_congr minS_congr
theorem split3 {L : List Int} {j n : Nat} (h : j + n < L.length) : L = L.take j ++ ((L.drop j).take n ++ (L.getD (j + n) 0 :: L.drop (j + n + 1))) := by
  have e1 : L.getD (j + n) 0 :: L.drop (j + n + 1) = (L.drop j).drop n := by
    rw [List.drop_drop, drop_getD (l := L) (i := j + n) h]
  rw [e1, List.take_append_drop, List.take_append_drop]
theorem val_drop_lt {L : List Int} (hd : Dg L) {j n : Nat} {V : Int} (hj : j + n < L.length) (hV : V < B ^ n) (h : val (L.drop (j + 1)) < V) :
    val (L.drop (j + n + 1)) = 0 ∧ val (L.drop j) = val ((L.drop j).take n) + B ^ n * L.getD (j + n) 0 := by
  have e1 := val_split (L.drop (j + 1)) n (by rw [List.length_drop]; omega)
  rw [List.drop_drop, show j + 1 + n = j + n + 1 from by omega] at e1
  have a1 := ((hd.drop (j + 1)).take n).val.1
  have a2 := (hd.drop (j + n + 1)).val.1
  have hz : val (L.drop (j + n + 1)) = 0 := by
    apply Decidable.byContradiction
    intro hne
    have : B ^ n * 1 ≤ B ^ n * val (L.drop (j + n + 1)) := Int.mul_le_mul_of_nonneg_left (by omega) (Int.le_of_lt (pow_pos n))
    omega
  refine ⟨hz, ?_⟩
  have e2 := val_split (L.drop j) n (by rw [List.length_drop]; omega)
  rw [List.drop_drop] at e2
  rw [e2, drop_getD (l := L) (i := j + n) hj]
  simp only [val, hz, Int.mul_zero, Int.add_zero]
theorem guess_ok {w : List Int} {n : Nat} {e V : Int} (hw : Dg w) (hl : w.length = n + 1) (he : 0 ≤ e) (hV : 0 < V) (hn : (nf V).length = n + 1) (ht : val w + B ^ (n + 1) * e < 100000000 * V) :
    let t := e * 100000000 + w.getD n 0
    let g := if (99999999 : Int) < t / (nf V).getD n 0 then 99999999 else t / (nf V).getD n 0
    val w + B ^ (n + 1) * e < (g + 1) * V ∧ 0 ≤ g ∧ g < 100000000 := by
  intro t g
  have ht0 : 0 ≤ t := by have := hw.getD n; simp only [t]; omega
  have hv : 0 < (nf V).getD n 0 := by
    have h1 := nf_last (z := V) (by omega)
    rw [hn, Nat.add_sub_cancel] at h1
    have h2 := (nf_dg (by omega : 0 ≤ V)).getD n
    have h3 : (nf V).getD n 0 ≠ 0 := by
      have := digsN_last (V.toNat + 1) V.toNat (by omega) (by omega)
      rw [← nf_pos (by omega : 0 ≤ V), hn, Nat.add_sub_cancel] at this
      omega
    omega
  have hq0 := Int.ediv_nonneg ht0 (Int.le_of_lt hv)
  have hg : 0 ≤ g ∧ g < 100000000 := by simp only [g]; split <;> omega
  refine ⟨?_, hg⟩
  by_cases hc : (99999999 : Int) < t / (nf V).getD n 0
  · have : g = 99999999 := if_pos hc
    rw [this]; exact ht
  · have hge : g = t / (nf V).getD n 0 := if_neg hc
    have e1 := val_take_succ w n
    rw [← hl, List.take_length] at e1
    have a1 := (hw.take n).val
    have hl2 : (w.take n).length = n := by rw [List.length_take]; omega
    rw [hl2] at a1
    have e2 := val_take_succ (nf V) n
    rw [← hn, List.take_length, nf_val] at e2
    have a2 := ((nf_dg (by omega : 0 ≤ V)).take n).val.1
    -- t < (g + 1) * top
    have h1 : t < (g + 1) * (nf V).getD n 0 := by
      rw [hge]
      have := Int.lt_ediv_add_one_mul_self t hv
      exact this
    have h2 : B ^ n * (t + 1) ≤ B ^ n * ((g + 1) * (nf V).getD n 0) := Int.mul_le_mul_of_nonneg_left (by omega) (Int.le_of_lt (pow_pos n))
    have h3 : (g + 1) * (B ^ n * (nf V).getD n 0) ≤ (g + 1) * V := Int.mul_le_mul_of_nonneg_left (by omega) (by omega)
    rw [Int.mul_left_comm] at h3
    have h4 : B ^ n * (t + 1) = B ^ n * w.getD n 0 + B ^ (n + 1) * e + B ^ n := by
      simp only [t]
      rw [pow_succ', Int.mul_add, Int.mul_add, Int.mul_one, Int.mul_comm 100000000 (B ^ n), Int.mul_assoc (B ^ n), Int.mul_comm 100000000 e]
      omega
    omega
theorem lg_outer {B0 C0 D0 : Nat} {H0 H : Heap} {vu vv vo : Value} {f V X : Int} {L0 : List Int} {U : Nat} (hC : C0 ≤ D0) (hB : B0 ≤ C0) (hD : D0 ≤ H.length) (V0 : 0 < V) (old0 : Old B0 H0 H) (hw : WF H) (hv : RM C0 D0 H vv (ints (nf V))) (ho : OM B0 C0 H vu (ints L0)) (hl : L0.length = U) (hd : Dg L0) (hq : O D0 H vo (ints (List.replicate (U - (nf V).length) 0))) (hn1 : 1 ≤ (nf V).length) (hnU : (nf V).length ≤ U) (hU : U ≤ 900) (ln : (nf V).length ≤ 400)
    (hX : val L0 = X) (hT : val (L0.drop (U - (nf V).length)) < V) (n m nt : Nat) (hn : 10 ≤ n) (hm : 100000000 ≤ m) {a : Fr} {k : Nat} (hk : 1000 ≤ k) (hs : LS a f vu vv vo (nf V).length (((U - (nf V).length : Nat) : Int) - 1)) :
    ∃ r a' H', loopN (evS Tryz.prog (evB Tryz.prog bC n) m nt none lgO) k a H = some (r, a', H') ∧ r = .exit 0 ∧ a' 6 = vi f ∧ a' 7 = vu ∧ a' 10 = vo ∧ Old B0 H0 H' ∧ WF H' ∧ ∃ L lo, OM B0 C0 H' vu (ints L) ∧ L.length = U ∧ Dg L ∧ val L = X % V ∧ O D0 H' vo (ints lo) ∧ lo.length ≤ 900 ∧ Dg lo ∧ val lo = X / V := by
  refine loop_wf (fun J a G => J ≤ U - (nf V).length ∧ LS a f vu vv vo (nf V).length ((J : Int) - 1) ∧ Old B0 H0 G ∧ D0 ≤ G.length ∧ WF G ∧ RM C0 D0 G vv (ints (nf V)) ∧ ∃ L lo, OM B0 C0 G vu (ints L) ∧ L.length = U ∧ Dg L ∧ O D0 G vo (ints lo) ∧ lo.length = U - (nf V).length ∧ Dg lo ∧ val L + V * val lo = X ∧ val (L.drop J) < V ∧ ∀ i, i < J → lo.getD i 0 = 0) _ ?_ k (U - (nf V).length) a H (by omega)
    ⟨Nat.le_refl _, hs, old0, hD, hw, hv, L0, _, ho, hl, hd, hq, by simp, fun x hx => by have := List.eq_of_mem_replicate hx; subst this; unfold B; omega, by rw [val_zeros]; omega, hT, fun i hi => by rw [List.getD_eq_getElem?_getD, List.getElem?_replicate]; split <;> rfl⟩
  intro J a G ⟨hJ, hs, old, hD, hw, hv, L, lo, ho, hl, hd, hq, hlo, hdl, hval, hT, hz⟩
  rw [show lgO = atC [1, 1, 1, 1, 1, 1, 0, 1, 0, 0] ((Tryz.f103.body).getD .skip) from rfl]
  by_cases hJ0 : J = 0
  · subst hJ0
    right
    have c1 : decide ((0 : Int) ≤ ((0 : Nat) : Int) - 1) = false := rfl
    simp (disch := omega) only [Tryz.f103, Option.getD_some, atC, es_seq, es_region, es_cond, es_exit, ops_nil, ops_cons, st_move, sy_bin, binS_geq, bindO_some, bindF_some, bindX_normal, bindX_exit, condX_false, ev_tmp, ev_const, putA, upd_at, ↓reduceIte, ↓bindO_some, ↓bindF_some, ↓bindX_normal, ↓bindX_exit, ↓condX_false, hs.s11, c1]
    rw [List.drop_zero] at hT
    have h0 := hd.val.1
    have e1 : X / V = val lo := by rw [← hval, Int.add_mul_ediv_left _ _ (by omega), Int.ediv_eq_zero_of_lt h0 hT]; omega
    have e2 : X % V = val L := by rw [← hval, Int.add_mul_emod_self_left, Int.emod_eq_of_lt h0 hT]
    exact ⟨_, _, _, rfl, by simp, rfl, by simp only [upd_at, ↓reduceIte, Nat.reduceEqDiff, hs.s6], by simp only [upd_at, ↓reduceIte, Nat.reduceEqDiff, hs.s7], by simp only [upd_at, ↓reduceIte, Nat.reduceEqDiff, hs.s10], old, hw, L, lo, ho, hl, hd, e2.symm, hq, by omega, hdl, e1.symm⟩
  · obtain ⟨j, rfl⟩ : ∃ j, J = j + 1 := ⟨J - 1, by omega⟩
    left
    rw [show ((j + 1 : Nat) : Int) - 1 = (j : Int) from by omega] at hs
    obtain ⟨p, hp⟩ : ∃ p, (nf V).length = p + 1 := ⟨(nf V).length - 1, by omega⟩
    have hjn : j + (nf V).length < L.length := by omega
    obtain ⟨hZ, hTT⟩ := val_drop_lt hd hjn (nf_size V).2 hT
    have hsp := split3 hjn
    have hA : (L.take j).length = j := by rw [List.length_take]; omega
    have hwl : ((L.drop j).take (nf V).length).length = (nf V).length := by rw [List.length_take, List.length_drop]; omega
    have hde := hd.getD (j + (nf V).length)
    have hdw := (hd.drop j).take (nf V).length
    have hdj := hd.getD j
    have hT100 : val (L.drop j) < 100000000 * V := by
      rw [drop_getD (by omega : j < L.length)]
      simp only [val]
      unfold B at *
      omega
    rw [hTT] at hT100
    rw [hsp] at ho
    have hvL : val L = val (L.take j) + B ^ j * (val ((L.drop j).take (nf V).length) + B ^ (nf V).length * L.getD (j + (nf V).length) 0) := by
      rw [← hTT]; exact val_split L j (by omega)
    generalize hAe : L.take j = A at *
    generalize hwe : (L.drop j).take (nf V).length = w at *
    generalize hee : L.getD (j + (nf V).length) 0 = e at *
    generalize hZe : L.drop (j + (nf V).length + 1) = Z at *
    have hdA : Dg A := by rw [← hAe]; exact hd.take j
    have hdZ : Dg Z := by rw [← hZe]; exact hd.drop _
    have hlZ : j + (nf V).length + 1 + Z.length = U := by rw [← hZe, List.length_drop]; omega
    have hgs := guess_ok (n := p) hdw (by omega) hde.1 V0 hp (by rw [← hp]; exact hT100)
    simp only at hgs
    generalize hg : (if (99999999 : Int) < (e * 100000000 + w.getD p 0) / (nf V).getD p 0 then (99999999 : Int) else (e * 100000000 + w.getD p 0) / (nf V).getD p 0) = g at *
    obtain ⟨hg1, hg2⟩ := hgs
    rw [← hp] at hg1
    have hro := ho.O.R
    have hlen : (A ++ (w ++ (e :: Z))).length = A.length + (w.length + (Z.length + 1)) := by rw [List.length_append, List.length_append, List.length_cons]
    have hrv := hv.R
    have c1 : (0 : Int) ≤ (j : Int) := by omega
    have e0 : IntKind.i64.wrap ((j : Int) + ((nf V).length : Int)) = ((A.length + w.length : Nat) : Int) := by rw [wr64 (by omega) (by omega)]; omega
    have a1 : addrS 1 vu (vi ((A.length + w.length : Nat) : Int)) = some (pt vu (A.length + w.length)) := by have := hro.addrI (i := ((A.length + w.length : Nat) : Int)) (by omega) (by omega); rwa [Int.toNat_natCast] at this
    have l1 : loadS (pt vu (A.length + w.length)) G = some (vi e) := by rw [hro.loadI (by omega), top_get]
    have e1 : IntKind.i64.wrap (((A.length + w.length : Nat) : Int) - 1) = ((p + A.length : Nat) : Int) := by rw [wr64 (by omega) (by omega)]; omega
    have a2 : addrS 1 vu (vi ((p + A.length : Nat) : Int)) = some (pt vu (p + A.length)) := by have := hro.addrI (i := ((p + A.length : Nat) : Int)) (by omega) (by omega); rwa [Int.toNat_natCast] at this
    have l2 : loadS (pt vu (p + A.length)) G = some (vi (w.getD p 0)) := by rw [hro.loadI (by omega), mid_get (by omega)]
    have hwp := hdw.getD p
    have e2 : IntKind.i64.wrap (e * 100000000) = e * 100000000 := wr64 (by omega) (by omega)
    have e3 : IntKind.i64.wrap (e * 100000000 + w.getD p 0) = e * 100000000 + w.getD p 0 := wr64 (by omega) (by omega)
    have e4 : IntKind.i64.wrap (((nf V).length : Int) - 1) = (p : Int) := by rw [wr64 (by omega) (by omega)]; omega
    have a3 : addrS 1 vv (vi (p : Int)) = some (pt vv p) := by have := hrv.addrI (i := (p : Int)) (by omega) (by omega); rwa [Int.toNat_natCast] at this
    have l3 : loadS (pt vv p) G = some (vi ((nf V).getD p 0)) := hrv.loadI (by omega)
    have htop : (nf V).getD p 0 ≠ 0 := by
      have := digsN_last (V.toNat + 1) V.toNat (by omega) (by omega)
      rw [← nf_pos (by omega : 0 ≤ V), hp, Nat.add_sub_cancel] at this
      omega
    have htop2 := (nf_dg (by omega : 0 ≤ V)).getD p
    have e5 : (e * 100000000 + w.getD p 0).tdiv ((nf V).getD p 0) = (e * 100000000 + w.getD p 0) / (nf V).getD p 0 := tdiv_pos (by omega) _
    have hq0 := Int.ediv_nonneg (by omega : 0 ≤ e * 100000000 + w.getD p 0) (by omega : 0 ≤ (nf V).getD p 0)
    have hq1 := Int.ediv_le_self ((nf V).getD p 0) (by omega : 0 ≤ e * 100000000 + w.getD p 0)
    have e6 : IntKind.i64.wrap ((e * 100000000 + w.getD p 0) / (nf V).getD p 0) = (e * 100000000 + w.getD p 0) / (nf V).getD p 0 := wr64 (by omega) (by omega)
    have k1 := fun (F : Fr) => lg_sub (B0 := B0) (C0 := C0) (H := G) (f := f) (vu := vu) (vo := vo) (V := V) (g := g) (A := A) (w := w) (Y := e :: Z) (fun G' h1 h2 => (hv.kept h2).R) (by omega) hg2 ho hdw hwl (by omega) ln hw n m nt hn (a := F) (k := m) (by omega)
    rw [show lgS = atC [1, 1, 1, 1, 1, 1, 0, 1, 0, 0, 1, 0, 0, 1, 1, 0, 1, 0, 0] ((Tryz.f103.body).getD .skip) from rfl] at k1
    simp only [Tryz.f103, Option.getD_some, atC] at k1
    have hs6 := hs.s6
    simp (disch := omega) only [Tryz.f103, Option.getD_some, atC, es_seq, es_region, es_draw, d0, es_cond, es_block, es_loop, es_skip, ops_nil, ops_cons, opsV_nil, opsV_cons, st_move, st_assign, sy_min, minS_vi, sy_addr eL, sy_load aI, sy_store zI, sy_bin, binS_geq, binS_add, binS_sub, binS_mul, binS_quo, bindO_some, bindF_some, bindX_normal, condX_true, iteB_true, iteB_false, ev_tmp, ev_const, putA, upd_at, Option.map_some, ↓reduceIte, Nat.reduceEqDiff, decide_true, ↓bindO_some, ↓bindF_some, ↓bindX_normal, ↓condX_true, ↓iteB_true, ↓iteB_false, reflV_load, reflV_move, reflV_assign, reflV_bin, reflV_addr, reflV_call, vEq_vi, hs.s7, hs.s8, hs.s9, hs.s11, c1, e0, a1, l1, e1, a2, l2, e2, e3, e4, a3, l3, e5, e6, hg]
    generalize hF : upd _ 82 _ = F
    rw [show (j : Int) = (A.length : Int) from by omega] at hs
    obtain ⟨r, a', G1, ev1, hr, hs', g12, old1, kp1, wf1, w1, c, g13, ho1, hl1, hd1, c0, c2, hv1⟩ := k1 F (by
      subst hF
      repeat refine LS.upd ?_ (by decide) _
      exact hs) (by subst hF; rfl) (by subst hF; rfl) (by subst hF; rfl) (by subst hF; rfl)
    subst hr
    rw [ev1]
    clear ev1 k1
    have hro1 := ho1.O.R
    have hlen1 : (A ++ (w1 ++ (e :: Z))).length = A.length + (w1.length + (Z.length + 1)) := by rw [List.length_append, List.length_append, List.length_cons]
    have f0 : IntKind.i64.wrap ((A.length : Int) + ((nf V).length : Int)) = ((A.length + w1.length : Nat) : Int) := by rw [wr64 (by omega) (by omega)]; omega
    have b1 : addrS 1 vu (vi ((A.length + w1.length : Nat) : Int)) = some (pt vu (A.length + w1.length)) := by have := hro1.addrI (i := ((A.length + w1.length : Nat) : Int)) (by omega) (by omega); rwa [Int.toNat_natCast] at this
    have m1 : loadS (pt vu (A.length + w1.length)) G1 = some (vi e) := by rw [hro1.loadI (by omega), top_get]
    have f1 : IntKind.i64.wrap (e + c) = e + c := wr64 (by omega) (by omega)
    obtain ⟨G2, s2, ho2, old2, wf2, kp2⟩ := ho1.setKI wf1 (i := A.length + w1.length) (by omega) (e + c)
    rw [top_set] at ho2
    have hv2 := (hv.kept kp1).kept kp2
    have k2 := fun (F : Fr) => lg_while (B0 := B0) (C0 := C0) (H := G2) (f := f) (vu := vu) (vo := vo) (V := V) (g := g) (T := val w + B ^ (nf V).length * e) (e := e + c) (A := A) (w := w1) (Z := Z) (fun G' h1 h2 => (hv2.kept h2).R) V0 (by have := hdw.val.1; have := Int.mul_nonneg (Int.le_of_lt (pow_pos (nf V).length)) hde.1; omega) hg2 ho2 hd1 (by omega) (by omega) (by rw [Int.mul_add]; omega) hg1 (by omega) ln wf2 n m nt hn (by omega) (a := F) (k := m) (by omega)
    rw [show lgW = atC [1, 1, 1, 1, 1, 1, 0, 1, 0, 0, 1, 0, 0, 1, 1, 1, 1, 0, 0, 0] ((Tryz.f103.body).getD .skip) from rfl] at k2
    simp only [Tryz.f103, Option.getD_some, atC] at k2
    simp (disch := omega) only [binS_add, bindO_some, bindF_some, bindX_normal, blkX_exit, Option.map_some, ↓reduceIte, ↓bindO_some, ↓bindF_some, ↓bindX_normal, hs'.s7, hs'.s9, hs'.s11, g13, f0, b1, m1, f1, s2]
    generalize hF2 : upd _ 120 _ = F2
    obtain ⟨r, a2', G3, ev2, hr, hs2, i12, old3, kp3, wf3, w2, ho3, hl3, hd3, hv3⟩ := k2 F2 (by
      subst hF2
      repeat refine LS.upd ?_ (by decide) _
      exact hs') (by subst hF2; exact g12)
    subst hr
    rw [ev2]
    clear ev2 k2
    have kp13 : Kept C0 G G3 := Kept.trans (Kept.trans kp1 kp2) kp3
    have old13 : Old B0 G G3 := (old1.trans old2).trans old3
    have hq3 := hq.kept (Kept.mono kp13 hC)
    have hv4 := hv2.kept kp3
    generalize hq4 : (val w + B ^ (nf V).length * e) / V = q at *
    have hqq0 : 0 ≤ q := by rw [← hq4]; exact Int.ediv_nonneg (by have := hdw.val.1; have := Int.mul_nonneg (Int.le_of_lt (pow_pos (nf V).length)) hde.1; omega) (by omega)
    have hqq1 : q < 100000000 := by rw [← hq4]; exact Int.ediv_lt_of_lt_mul V0 hT100
    have hro3 := hq3.R
    have a5 : addrS 1 vo (vi (A.length : Int)) = some (pt vo A.length) := by have := hro3.addrI (i := (A.length : Int)) (by omega) (by omega); rwa [Int.toNat_natCast] at this
    obtain ⟨G4, s4, hq4', old4, wf4⟩ := hq3.setI wf3 (i := A.length) (by omega) q
    have f3 : IntKind.i64.wrap ((A.length : Int) - 1) = (A.length : Int) - 1 := wr64 (by omega) (by omega)
    simp (disch := omega) only [binS_sub, bindO_some, bindF_some, bindX_normal, blkX_normal, blkX_exit, upd_at, Option.map_some, ↓reduceIte, Nat.reduceEqDiff, ↓bindO_some, ↓bindF_some, ↓bindX_normal, hs2.s10, hs2.s11, i12, a5, s4, f3]
    have hem := Int.mul_ediv_add_emod (val w + B ^ (nf V).length * e) V
    rw [hq4] at hem
    refine ⟨_, _, rfl, j, by omega, by omega, ⟨?_, ?_, ?_, ?_, ?_, ?_⟩, (old.trans old13).trans (old4.mono (by omega)), Nat.le_trans hD (Nat.le_trans old13.1 old4.1), wf4, hv4.mono old4, A ++ (w2 ++ (0 :: Z)), lo.set A.length q, ho3.mono (old4.mono hC), ?_, ?_, hq4', by rw [List.length_set]; exact hlo, hdl.set _ hqq0 hqq1, ?_, ?_, ?_⟩
    · simp only [upd_at, ↓reduceIte, Nat.reduceEqDiff, hs2.s6]
    · simp only [upd_at, ↓reduceIte, Nat.reduceEqDiff, hs2.s7]
    · simp only [upd_at, ↓reduceIte, Nat.reduceEqDiff, hs2.s8]
    · simp only [upd_at, ↓reduceIte, Nat.reduceEqDiff, hs2.s9]
    · simp only [upd_at, ↓reduceIte, Nat.reduceEqDiff, hs2.s10]
    · simp only [upd_at, ↓reduceIte]; rw [hA]
    · rw [List.length_append, List.length_append, List.length_cons]; omega
    · refine hdA.app (hd3.app ?_)
      intro x hx
      rcases List.mem_cons.1 hx with rfl | hx
      · unfold B; omega
      · exact hdZ x hx
    · rw [val_set (by omega), hz A.length (by omega), val_app, val_app]
      simp only [val, hZ, Int.mul_zero, Int.add_zero, Int.sub_zero]
      rw [hv3, hA]
      rw [hvL] at hval
      rw [← hval, Int.mul_add, ← hem, Int.mul_add, Int.mul_left_comm (B ^ j) V q]
      rw [hem]
      omega
    · rw [← hA, List.drop_append_of_le_length (Nat.le_refl _), List.drop_length, List.nil_append, val_app]
      simp only [val, hZ, Int.mul_zero, Int.add_zero]
      rw [hv3]
      exact Int.emod_lt_of_pos _ V0
    · intro i hi
      rw [List.getD_eq_getElem?_getD, List.getElem?_set, if_neg (by omega), ← List.getD_eq_getElem?_getD]
      exact hz i (by omega)
theorem oW1 : oneField Tryz.prog 68 1 1 = true := by kernel_rfl
theorem z2I : zeros Tryz.prog 3 1 2 = some [vi 0, vi 0] := by kernel_rfl
theorem nf_last_pos {y : Int} (hy : 0 < y) : 1 ≤ (nf y).length ∧ 0 < (nf y).getD ((nf y).length - 1) 0 ∧ (nf y).getD ((nf y).length - 1) 0 < 100000000 := by
  have h := digsN_last (y.toNat + 1) y.toNat (by omega) (by omega)
  rw [← nf_pos (by omega : 0 ≤ y)] at h
  exact ⟨by omega, h.2, ((nf_dg (by omega : 0 ≤ y)).getD _).2⟩
theorem top_lt {y : Int} (hy : 0 < y) : y < B ^ ((nf y).length - 1) * ((nf y).getD ((nf y).length - 1) 0 + 1) := by
  have h := nf_last_pos hy
  have e := val_take_succ (nf y) ((nf y).length - 1)
  rw [show (nf y).length - 1 + 1 = (nf y).length from by omega, List.take_length, nf_val] at e
  have a := ((nf_dg (by omega : 0 ≤ y)).take ((nf y).length - 1)).val.2
  rw [List.length_take, Nat.min_eq_left (by omega)] at a
  rw [Int.mul_add, Int.mul_one]
  omega
theorem nf_app00 {x : Int} {n : Nat} (x0 : 0 ≤ x) (h2 : 2 ≤ n) (hn : n ≤ (nf x).length + 2) : val ((nf x ++ [0, 0]).drop ((nf x).length + 2 - n)) < B ^ (n - 1) := by
  have hl : (nf x ++ [0, 0]).length = (nf x).length + 2 := by simp
  have hd : Dg (nf x ++ [0, 0]) := (nf_dg x0).app fun z hz => by simp at hz; subst hz; unfold B; omega
  have hs := val_split (nf x ++ [0, 0]) ((nf x).length + 2 - n) (by omega)
  have hv : val (nf x ++ [0, 0]) = x := by rw [val_app, nf_val]; simp [val]
  rw [hv] at hs
  have a := (hd.take ((nf x).length + 2 - n)).val.1
  have b := (nf_size x).2
  apply Decidable.byContradiction
  intro h
  have h3 : B ^ ((nf x).length + 2 - n) * B ^ (n - 1) ≤ B ^ ((nf x).length + 2 - n) * val ((nf x ++ [0, 0]).drop ((nf x).length + 2 - n)) := Int.mul_le_mul_of_nonneg_left (by omega) (Int.le_of_lt (pow_pos _))
  rw [← Int.pow_add, show (nf x).length + 2 - n + (n - 1) = (nf x).length + 1 from by omega] at h3
  have := pow_le (show (nf x).length ≤ (nf x).length + 1 from by omega)
  omega
theorem long_all : LongAll 100010000 := by
  intro x y x0 y0 hxy lx hy2 G va vb hw hx hy n hn
  have ly : (nf y).length ≤ 390 := Nat.le_trans (nf_len_mono (by omega) hxy) lx
  refine run_ofB (F := 100009999) (Q := fun r => ∃ v1 v2 G', r = some (.tuple #[v1, v2], G') ∧ RO G.length G' v1 (ints (nf (x / y))) ∧ RO G.length G' v2 (ints (nf (x % y))) ∧ Old G.length G G' ∧ WF G') (fun n hn => ?_) n hn
  rw [body_runS Tryz.func103 rfl (ok_fn (by rfl) Tryz.func103 rfl) (Nat.le_of_ble_eq_true rfl) (D := D0) (by kernel_rfl)]
  obtain ⟨t1, t2, t3⟩ := nf_last_pos y0
  have htl := top_lt y0
  generalize htop : (nf y).getD ((nf y).length - 1) 0 = top at *
  have e1 : IntKind.i64.wrap (((nf y).length : Int) - 1) = (((nf y).length - 1 : Nat) : Int) := by rw [wr64 (by omega) (by omega)]; omega
  have a1 : addrS 1 vb (vi (((nf y).length - 1 : Nat) : Int)) = some (pt vb ((nf y).length - 1)) := by have := hy.addrI (i := (((nf y).length - 1 : Nat) : Int)) (by omega) (by omega); rwa [Int.toNat_natCast] at this
  have l1 : loadS (pt vb ((nf y).length - 1)) G = some (vi top) := by rw [hy.loadI (by omega), htop]
  have e2 : IntKind.i64.wrap (top + 1) = top + 1 := wr64 (by omega) (by omega)
  have e3 : (100000000 : Int).tdiv (top + 1) = 100000000 / (top + 1) := tdiv_pos (by omega) _
  have hne : top + 1 ≠ 0 := by omega
  obtain ⟨f, hf⟩ : ∃ f : Int, f = 100000000 / (top + 1) := ⟨_, rfl⟩
  have hf1 : 1 ≤ f := by rw [hf]; exact (Int.le_ediv_iff_mul_le (by omega)).2 (by omega)
  have hf2 : f * (top + 1) ≤ 100000000 := by rw [hf]; exact Int.ediv_mul_le _ (by omega)
  have hf3 : f ≤ 50000000 := by
    have : f * 2 ≤ f * (top + 1) := Int.mul_le_mul_of_nonneg_left (by omega) (by omega)
    omega
  have e4 : IntKind.i64.wrap (100000000 / (top + 1)) = f := by rw [← hf]; exact wr64 (by omega) (by omega)
  have hlf : (nf f).length ≤ 1 := one_len (by omega) (by omega)
  -- the two products
  obtain ⟨w1, H1, s1, wh1, old1, wf1⟩ := small_run (z := f) hw (by omega) (by omega) n (by omega)
  obtain ⟨w2, H2, s2, ⟨d, rfl, hd⟩, old2, wf2⟩ := timesO_run wf1 (wh_of x0 (hx.mono old1)) (wh1.below (Nat.zero_le _)) (by rw [abs_len]; omega) (by rw [abs_len]; omega) n (by omega)
  have hX0 : 0 ≤ x * f := Int.mul_nonneg x0 (by omega)
  have hV0 : 0 < y * f := Int.mul_pos y0 (by omega)
  rw [natAbs_pos hX0] at hd
  have lX := nf_len_mul x f
  have lV := nf_len_mul y f
  have old3 := Old.app H2 [.cells H2.length true [vi 0, vi 0]]
  have wf3 := wf2.app (Nat.le_refl H2.length) (o := true) (cs := [vi 0, vi 0])
  have r3 : R (H2 ++ [.cells H2.length true [vi 0, vi 0]]) (sliceA H2.length 0 2 1) (ints [0, 0]) := .inr (.inr ⟨H2.length, 0, H2.length, true, _, rfl, by simp; rfl, by simp [ints], by simp [ints]⟩)
  have sb : ∀ (a : Fr) (dd : Option Nat) (ty : TypeId) (pos : String) (aft : Array Edge) (g : Option (Nat × Bool)), stepA Tryz.prog (evB Tryz.prog bC n) a ⟨dd, .buildSlice 22 2 #[(0, .const (vi 0)), (1, .const (vi 0))], ty, pos, aft, g⟩ H2 = some (sliceA H2.length 0 2 1, H2 ++ [.cells H2.length true [vi 0, vi 0]]) := fun a dd ty pos aft g => sy_build2 (u := vi 0) (v := vi 0) eL z2I (by simp only [ev_const]) (by simp only [ev_const]) rfl rfl
  generalize hH3 : H2 ++ [Blk.cells H2.length true [vi 0, vi 0]] = H3 at *
  have g1 := old1.1
  have g2 := old2.1
  have g3 := old3.1
  obtain ⟨vu, H4, s4, o4, old4, wf4⟩ := ((hd.mono old3).below g1).app wf3 (by omega) r3 (by simp [ints]) (by rw [ints_len]; simp [ints, maxA]; omega)
  rw [← ints_app] at o4
  have g4 := old4.1
  have om4 := OM.of o4 wf4
  have old04 : Old G.length G H4 := (old1.trans ((old2.mono g1).trans (old3.mono (by omega)))).trans old4
  obtain ⟨w5, H5, s5, wh5, old5, wf5⟩ := small_run (z := f) wf4 (by omega) (by omega) n (by omega)
  have g5 := old5.1
  obtain ⟨w6, H6, s6, ⟨dv, rfl, hdv⟩, old6, wf6⟩ := times_run wf5 (wh_of (by omega : 0 ≤ y) (hy.mono (old04.trans (old5.mono (by omega))))) (wh5.below (Nat.zero_le _)) (by rw [abs_len]; omega) (by rw [abs_len]; omega) n (by omega)
  rw [natAbs_pos (by omega : 0 ≤ y * f)] at hdv
  have g6 := old6.1
  have rm6 := RO.RM (hdv.below g5)
  have hsV : decide (y * f < 0) = false := decide_eq_false (by omega)
  have hsX : decide (x * f < 0) = false := decide_eq_false (by omega)
  rw [hsV] at s6
  rw [hsX] at s2
  -- the sizes
  have hVX : y * f ≤ x * f := Int.mul_le_mul_of_nonneg_right hxy (by omega)
  have hVB : y * f < B ^ (nf y).length := by
    have h1 : y * f < B ^ ((nf y).length - 1) * (top + 1) * f := Int.mul_lt_mul_of_pos_right htl (by omega)
    have h2 : B ^ ((nf y).length - 1) * ((top + 1) * f) ≤ B ^ ((nf y).length - 1) * 100000000 := Int.mul_le_mul_of_nonneg_left (by rw [Int.mul_comm]; exact hf2) (Int.le_of_lt (pow_pos _))
    rw [Int.mul_assoc] at h1
    have h3 := pow_succ' ((nf y).length - 1)
    rw [show (nf y).length - 1 + 1 = (nf y).length from by omega, Int.mul_comm] at h3
    omega
  have lV2 : (nf (y * f)).length ≤ (nf y).length := nf_len (by have := pow_pos (nf y).length; omega) hVB
  have hyV : y ≤ y * f := by have := Int.mul_le_mul_of_nonneg_left hf1 (by omega : 0 ≤ y); rwa [Int.mul_one] at this
  have lV3 : 2 ≤ (nf (y * f)).length := Nat.le_trans hy2 (nf_len_mono (by omega) hyV)
  have lVX : (nf (y * f)).length ≤ (nf (x * f)).length := nf_len_mono (by omega) hVX
  obtain ⟨U, hU⟩ : ∃ U, U = (nf (x * f)).length + 2 := ⟨_, rfl⟩
  have hlu : (nf (x * f) ++ [0, 0]).length = U := by simp; omega
  have hlenu := o4.R.mono ((old5.trans (old6.mono g5)) : Old H4.length H4 H6)
  have e7 : IntKind.i64.wrap ((U : Int) - ((nf (y * f)).length : Int)) = ((U - (nf (y * f)).length : Nat) : Int) := by rw [wr64 (by omega) (by omega)]; omega
  have e8 : (if (0 : Int) < ((U - (nf (y * f)).length : Nat) : Int) then ((U - (nf (y * f)).length : Nat) : Int) else 0) = ((U - (nf (y * f)).length : Nat) : Int) := if_pos (by omega)
  have hz := zeros_I (U - (nf (y * f)).length)
  have c2 : (0 : Int) ≤ ((U - (nf (y * f)).length : Nat) : Int) := by omega
  have c3 : ((U - (nf (y * f)).length : Nat) : Int) ≤ 1048576 := by omega
  have hlr : (ints (List.replicate (U - (nf (y * f)).length) (0 : Int))).length = U - (nf (y * f)).length := by rw [ints_len, List.length_replicate]
  have or := O.made (B := H6.length) (H := H6) (Nat.le_refl _) (ints (List.replicate (U - (nf (y * f)).length) (0 : Int)))
  rw [hlr] at or
  have old7 := Old.app H6 [.cells H6.length true (ints (List.replicate (U - (nf (y * f)).length) (0 : Int)))]
  have wf7 := wf6.app (Nat.le_refl H6.length) (o := true) (cs := ints (List.replicate (U - (nf (y * f)).length) (0 : Int)))
  have e9 : IntKind.i64.wrap (((U - (nf (y * f)).length : Nat) : Int) - 1) = ((U - (nf (y * f)).length : Nat) : Int) - 1 := wr64 (by omega) (by omega)
  have llu := hlenu.lenI
  rw [hlu] at llu
  have llv := hdv.R.lenI
  generalize hH7 : H6 ++ [Blk.cells H6.length true (ints (List.replicate (U - (nf (y * f)).length) (0 : Int)))] = H7 at *
  have g7 := old7.1
  have llo : lenS (sliceA H6.length 0 (U - (nf (y * f)).length) 1) = some (U - (nf (y * f)).length) := rfl
  have old47 : Old H4.length H4 H7 := (old5.trans (old6.mono g5)).trans (old7.mono (by omega))
  have hvX : val (nf (x * f) ++ [0, 0]) = x * f := by rw [val_app, nf_val]; simp [val]
  have hdL : Dg (nf (x * f) ++ [0, 0]) := (nf_dg hX0).app fun z hz => by simp at hz; subst hz; unfold B; omega
  have hTl : val ((nf (x * f) ++ [0, 0]).drop (U - (nf (y * f)).length)) < y * f := by
    have h1 := nf_app00 hX0 lV3 (by omega : (nf (y * f)).length ≤ (nf (x * f)).length + 2)
    have h2 := nf_ge hV0
    rw [hU]
    omega
  have key := fun (F : Fr) => lg_outer (B0 := G.length) (C0 := H4.length) (D0 := H6.length) (H0 := G) (vu := vu) (vv := dv) (vo := sliceA H6.length 0 (U - (nf (y * f)).length) 1) (f := f) (V := y * f) (X := x * f) (U := U) (by omega) (by omega) g7 hV0 (old04.trans (old47.mono (by omega))) wf7 (rm6.mono old7) (om4.mono old47) hlu hdL or (by omega) (by omega) (by omega) (by omega) hvX hTl n n Tryz.f103.ntmps (by omega) (by omega) (a := F) (k := n) (by omega)
  rw [show lgO = atC [1, 1, 1, 1, 1, 1, 0, 1, 0, 0] ((Tryz.f103.body).getD .skip) from rfl] at key
  simp only [Tryz.f103, Option.getD_some, atC] at key
  simp (disch := omega) only [Tryz.f103, es_seq, es_region, es_block, es_loop, es_ret, ops_nil, ops_cons, st_move, st_assign, sy_max, maxS_vi, st_fun, sy_len uL, sy_addr eL, sy_load aI, sy_bin, sy_append eL pI, sy_ext, sy_make eL yI (by decide), binS_add, binS_sub, binS_quo, bindO_some, bindF_some, bindX_normal, ev_tmp, ev_const, ev_func, putA, upd_at, Option.map_some, ↓reduceIte, Nat.reduceEqDiff, Int.toNat_natCast, frOf_0, frOf_1, List.map_cons, List.map_nil, ↓bindO_some, ↓bindF_some, ↓bindX_normal, sy_build, hy.lenI, e1, a1, l1, e2, e3, e4, bW1 va hx.scal, s1, s2, sy_field oW1, get_1, sb, s4, bW1 vb hy.scal, s5, s6, llu, llv, e7, e8, c2, c3, Int.le_refl, and_self, hz, hH7, llo, e9]
  generalize hF : upd _ 11 _ = F
  obtain ⟨r, a', H8, ev, hr, i6, i7, i10, old8, wf8, L, lo, oL, lL, dL, vL, oo, llo2, dlo, vlo⟩ := key F ⟨by subst hF; rfl, by subst hF; rfl, by subst hF; rfl, by subst hF; rfl, by subst hF; rfl, by subst hF; rfl⟩
  subst hr
  rw [ev]
  clear ev key
  have eq1 : x * f / (y * f) = x / y := Int.mul_ediv_mul_of_pos_left x y (by omega)
  have eq2 : x * f % (y * f) = (x % y) * f := by rw [Int.mul_comm x f, Int.mul_comm y f, Int.mul_emod_mul_of_pos _ _ (by omega), Int.mul_comm]
  have hr0 := Int.emod_nonneg x (by omega : y ≠ 0)
  have hr1 := Int.emod_lt_of_pos x y0
  rw [eq1] at vlo
  rw [eq2] at vL
  have hR0 : 0 ≤ (x % y) * f := Int.mul_nonneg hr0 (by omega)
  have lR : (nf ((x % y) * f)).length ≤ 900 := by
    have := nf_len_mul (x % y) f
    have := nf_len_mono hr0 (by omega : x % y ≤ y)
    omega
  obtain ⟨d1, sd1, rd1⟩ := trimmed_run oL.O.RO (by omega) n (by omega)
  rw [nf_of_digs dL vL] at rd1
  obtain ⟨d2, H9, s9, rd2, old9, wf9⟩ := short_run wf8 rd1.R hR0 (by omega : 0 < f) (by omega) lR n (by omega)
  rw [Int.mul_ediv_cancel _ (by omega : f ≠ 0)] at rd2
  obtain ⟨d3, sd3, rd3⟩ := trimmed_run (oo.mono old9).RO (by omega) n (by omega)
  rw [nf_of_digs dlo vlo] at rd3
  simp (disch := omega) only [ext_20, ext_21, bindO_some, bindF_some, bindX_normal, blkX_exit, upd_at, Option.map_some, ↓reduceIte, Nat.reduceEqDiff, ↓bindO_some, ↓bindF_some, ↓bindX_normal, fin_r, res_nil, res_tmp, pack_2, i6, i7, i10, sd1, s9, sd3, rd2.R.scal, rd3.R.scal]
  have g8 := old8.1
  have g46 : G.length ≤ H6.length := by omega
  exact ⟨_, _, _, rfl, rd3.below g46, rd2.below g8, old8.trans (old9.mono g8), wf9⟩
end Go.Proofs.YtmmgdgmjkhcfaaaGreat
namespace Go.Proofs.YtmmgdgmjkhcfaaaGreat
open Go Go.Abs Go.Num
set_option maxRecDepth 10000
attribute [local congr] bindO_congr bindF_congr bindX_congr condX_congr iteB_congr binS_congr pickS_congr eqB_congr nilS_congr clsW_congr maxS_congr minS_congr
theorem _root_.Go.Num.Part.sm {l : List Int} (h : Part l) : Sm l := ⟨by have := h.len; omega, fun x hx => by have := h.mem x hx; omega⟩
theorem _root_.Go.Num.Part.sum0 {l : List Int} (h : Part l) : 0 ≤ l.sum := by
  have : ∀ l : List Int, (∀ x ∈ l, 1 ≤ x ∧ x ≤ 20) → 0 ≤ l.sum := by
    intro l
    induction l with
    | nil => intro _; simp
    | cons x l ih =>
      intro h
      have h1 := h x (List.mem_cons_self ..)
      have h2 := ih fun y hy => h y (List.mem_cons_of_mem _ hy)
      rw [List.sum_cons]; omega
  exact this l h.mem
theorem ctimes_run {H : Heap} {vx : Value} {x z : Int} (hw : WF H) (hx : NumV H vx x) (lx : (nf x).length ≤ 380) (h1 : -4000000000000000000 ≤ z) (h2 : z ≤ 4000000000000000000) (n : Nat) (hn : 2014 ≤ n) :
    OneL H (evB Tryz.prog bC n (.func (.func 40) #[] #[]) [vx, vi z] H) (nf (x * z)) := by
  refine run_ofB (F := 2013) (Q := fun r => OneL H r (nf (x * z))) (fun n hn => ?_) n hn
  rw [body_runS Tryz.func40 rfl (ok_fn (by rfl) Tryz.func40 rfl) (Nat.le_of_ble_eq_true rfl) (D := D0) (by kernel_rfl)]
  obtain ⟨v1, H1, s1, o1, old1, wf1⟩ := of_run (z := z) hw h1 h2 n (by omega)
  have hl : (nf z).length ≤ 3 := nf_len (by rw [show B ^ 3 = 1000000000000000000000000 from rfl]; omega) (by rw [show B ^ 3 = 1000000000000000000000000 from rfl]; omega)
  obtain ⟨v2, H2, s2, o2, old2, wf2⟩ := mulP_run wf1 (hx.mono old1) (NumV.of o1.R (by omega)) (by omega) (by omega) n (by omega)
  simp (disch := omega) only [Tryz.f40, es_seq, es_region, es_ret, ops_nil, ops_cons, st_move, st_assign, st_fun, bindO_some, bindF_some, bindX_normal, ev_tmp, ev_const, ev_func, putA, upd_at, Option.map_some, ↓reduceIte, Nat.reduceEqDiff, frOf_0, frOf_1, List.map_cons, List.map_nil, ↓bindO_some, ↓bindF_some, ↓bindX_normal, fin_r, res_nil, res_tmp, pack_1, s1, s2, o2.R.scal]
  exact ⟨_, _, rfl, o2.below old1.1, old1.trans (old2.mono old1.1), wf2⟩
noncomputable def cfA : Code := atC [1, 1, 0, 1, 0, 0] ((Tryz.f38.body).getD .skip)
theorem cfact_run {H : Heap} {k : Nat} (hw : WF H) (hk : k ≤ 20) (n : Nat) (hn : 2020 ≤ n) : OneL H (evB Tryz.prog bC n (.func (.func 38) #[] #[]) [vi k] H) (nf (fct k)) := by
  refine run_ofB (F := 2019) (Q := fun r => OneL H r (nf (fct k))) (fun n hn => ?_) n hn
  rw [body_runS Tryz.func38 rfl (ok_fn (by rfl) Tryz.func38 rfl) (Nat.le_of_ble_eq_true rfl) (D := D0) (by kernel_rfl)]
  obtain ⟨v1, H1, s1, o1, old1, wf1⟩ := of_run (z := 1) hw (by omega) (by omega) n (by omega)
  have key : ∀ A : Fr, A 0 = vi k → A 3 = v1 → A 4 = vi 2 → ∃ r a' H', loopN (evS Tryz.prog (evB Tryz.prog bC n) n Tryz.f38.ntmps none cfA) n A H1 = some (r, a', H') ∧ r = .exit 0 ∧ ∃ vo, a' 3 = vo ∧ O H.length H' vo (ints (nf (fct k))) ∧ Old H.length H H' ∧ WF H' := by
    intro A h0 h3 h4
    refine loop_up (k - 1) (fun i a H' => a 0 = vi k ∧ a 4 = vi ((i + 2 : Nat) : Int) ∧ Old H.length H H' ∧ WF H' ∧ ∃ vo, a 3 = vo ∧ O H.length H' vo (ints (nf (fct (i + 1))))) _ ?_ ?_ (by omega) ⟨h0, h4, old1, wf1, v1, h3, o1⟩
    · intro i a H' hi ⟨h0, h4, old, hw, vo, h3, ho⟩
      left
      rw [show cfA = atC [1, 1, 0, 1, 0, 0] ((Tryz.f38.body).getD .skip) from rfl]
      have hlt : ((i + 2 : Nat) : Int) ≤ (k : Int) := by omega
      have e1 : IntKind.i64.wrap (((i + 2 : Nat) : Int) + 1) = ((i + 1 + 2 : Nat) : Int) := by rw [wr64 (by omega) (by omega)]; omega
      have hl := fct_len (k := i + 1) (by omega)
      obtain ⟨v2, H2, s2, o2, old2, wf2⟩ := ctimes_run (z := ((i + 2 : Nat) : Int)) hw (NumV.of ho.R (by omega)) (by omega) (by omega) (by omega) n (by omega)
      simp (disch := omega) only [Tryz.f38, Option.getD_some, atC, es_seq, es_region, es_cond, es_block, es_skip, ops_nil, ops_cons, st_move, st_assign, st_fun, sy_bin, binS_leq, binS_add, bindO_some, bindF_some, bindX_normal, blkX_normal, condX_true, ev_tmp, ev_const, ev_func, putA, upd_at, ↓reduceIte, Nat.reduceEqDiff, List.map_cons, List.map_nil, decide_true, ↓bindO_some, ↓bindF_some, ↓bindX_normal, ↓condX_true, h0, h3, h4, hlt, s2, e1]
      exact ⟨_, _, rfl, h0, rfl, old.trans (old2.mono old.1), wf2, v2, rfl, o2.below old.1⟩
    · intro a H' ⟨h0, h4, old, hw, vo, h3, ho⟩
      rw [show cfA = atC [1, 1, 0, 1, 0, 0] ((Tryz.f38.body).getD .skip) from rfl]
      have hlt : ¬ ((k - 1 + 2 : Nat) : Int) ≤ (k : Int) := by omega
      simp (disch := omega) only [Tryz.f38, Option.getD_some, atC, es_seq, es_region, es_cond, es_exit, ops_nil, ops_cons, st_move, sy_bin, binS_leq, bindO_some, bindF_some, bindX_normal, bindX_exit, condX_false, ev_tmp, putA, upd_at, ↓reduceIte, Nat.reduceEqDiff, decide_false, ↓bindO_some, ↓bindF_some, ↓bindX_normal, ↓bindX_exit, ↓condX_false, h0, h4, hlt]
      refine ⟨_, _, _, rfl, by simp, rfl, vo, h3, ?_, old, hw⟩
      cases k with
      | zero => exact ho
      | succ k => exact ho
  rw [show cfA = atC [1, 1, 0, 1, 0, 0] ((Tryz.f38.body).getD .skip) from rfl] at key
  simp only [Tryz.f38, Option.getD_some, atC] at key
  simp (disch := omega) only [Tryz.f38, es_seq, es_region, es_block, es_loop, es_ret, ops_nil, ops_cons, st_move, st_assign, st_fun, bindO_some, bindF_some, bindX_normal, ev_tmp, ev_const, ev_func, putA, upd_at, ↓reduceIte, List.map_cons, List.map_nil, ↓bindO_some, ↓bindF_some, ↓bindX_normal, s1]
  generalize hA : upd _ 4 _ = A
  obtain ⟨r, a', H', e, hr, vo, h3, ho, old, wf⟩ := key A (by subst hA; rfl) (by subst hA; rfl) (by subst hA; rfl)
  subst hr
  rw [e]
  simp (disch := omega) only [bindX_normal, blkX_exit, upd_at, Option.map_some, ↓reduceIte, ↓bindX_normal, fin_r, res_nil, res_tmp, pack_1, h3, ho.R.scal]
  exact ⟨_, _, rfl, ho, old, wf⟩
noncomputable def rfA : Code := atC [1, 1, 0, 1, 0, 0] ((Tryz.f28.body).getD .skip)
theorem rtimes_run {H : Heap} {vx : Value} {x z : Int} (hw : WF H) (hx : NumV H vx x) (lx : (nf x).length ≤ 380) (h1 : -4000000000000000000 ≤ z) (h2 : z ≤ 4000000000000000000) (n : Nat) (hn : 2011 ≤ n) :
    OneL H (evB Tryz.prog bC n (.func (.func 26) #[] #[]) [vx, sliceA H.length 0 1 1] (H ++ [.cells H.length true [vi z]])) (nf (x * z)) := by
  have old1 := Old.app H [.cells H.length true [vi z]]
  have wf1 := hw.app (Nat.le_refl H.length) (o := true) (cs := [vi z])
  have r1 := R.push (H := H) (f := H.length) (c := vi z)
  have hl : (nf z).length ≤ 3 := nf_len (by rw [show B ^ 3 = 1000000000000000000000000 from rfl]; omega) (by rw [show B ^ 3 = 1000000000000000000000000 from rfl]; omega)
  exact (mul_run wf1 (hx.mono old1) (NumV.one r1 h1 h2) (by omega) (by omega) n (by omega)).trans old1
theorem rfact_run {H : Heap} {k : Nat} (hw : WF H) (hk : k ≤ 20) (n : Nat) (hn : 2020 ≤ n) : OneL H (evB Tryz.prog bC n (.func (.func 28) #[] #[]) [vi k] H) (nf (fct k)) := by
  refine run_ofB (F := 2019) (Q := fun r => OneL H r (nf (fct k))) (fun n hn => ?_) n hn
  rw [body_runS Tryz.func28 rfl (ok_fn (by rfl) Tryz.func28 rfl) (Nat.le_of_ble_eq_true rfl) (D := D0) (by kernel_rfl)]
  have old1 := Old.app H [.cells H.length true [vi 1]]
  have wf1 := hw.app (Nat.le_refl H.length) (o := true) (cs := [vi 1])
  have o1 : O H.length (H ++ [.cells H.length true [vi 1]]) (sliceA H.length 0 1 1) (ints (nf (fct 1))) := by
    rw [show fct 1 = 1 from rfl, nf_small (by omega) (by omega)]
    exact O.made (Nat.le_refl _) [vi 1]
  have key : ∀ A : Fr, A 0 = vi k → A 3 = sliceA H.length 0 1 1 → A 4 = vi 2 → ∃ r a' H', loopN (evS Tryz.prog (evB Tryz.prog bC n) n Tryz.f28.ntmps none rfA) n A (H ++ [.cells H.length true [vi 1]]) = some (r, a', H') ∧ r = .exit 0 ∧ ∃ vo, a' 3 = vo ∧ O H.length H' vo (ints (nf (fct k))) ∧ Old H.length H H' ∧ WF H' := by
    intro A h0 h3 h4
    refine loop_up (k - 1) (fun i a H' => a 0 = vi k ∧ a 4 = vi ((i + 2 : Nat) : Int) ∧ Old H.length H H' ∧ WF H' ∧ ∃ vo, a 3 = vo ∧ O H.length H' vo (ints (nf (fct (i + 1))))) _ ?_ ?_ (by omega) ⟨h0, h4, old1, wf1, _, h3, o1⟩
    · intro i a H' hi ⟨h0, h4, old, hw, vo, h3, ho⟩
      left
      rw [show rfA = atC [1, 1, 0, 1, 0, 0] ((Tryz.f28.body).getD .skip) from rfl]
      have hlt : ((i + 2 : Nat) : Int) ≤ (k : Int) := by omega
      have e1 : IntKind.i64.wrap (((i + 2 : Nat) : Int) + 1) = ((i + 1 + 2 : Nat) : Int) := by rw [wr64 (by omega) (by omega)]; omega
      have hl := fct_len (k := i + 1) (by omega)
      obtain ⟨v2, H2, s2, o2, old2, wf2⟩ := rtimes_run (z := ((i + 2 : Nat) : Int)) hw (NumV.of ho.R (by omega)) (by omega) (by omega) (by omega) n (by omega)
      simp (disch := omega) only [Tryz.f28, Option.getD_some, atC, es_seq, es_region, es_cond, es_block, es_skip, ops_nil, ops_cons, st_move, st_assign, st_fun, sy_bin, sy_build1 eL oI, binS_leq, binS_add, bindO_some, bindF_some, bindX_normal, blkX_normal, condX_true, ev_tmp, ev_const, ev_func, putA, upd_at, ↓reduceIte, Nat.reduceEqDiff, List.map_cons, List.map_nil, decide_true, ↓bindO_some, ↓bindF_some, ↓bindX_normal, ↓condX_true, scal_vi, h0, h3, h4, hlt, s2, e1]
      exact ⟨_, _, rfl, h0, rfl, old.trans (old2.mono old.1), wf2, v2, rfl, o2.below old.1⟩
    · intro a H' ⟨h0, h4, old, hw, vo, h3, ho⟩
      rw [show rfA = atC [1, 1, 0, 1, 0, 0] ((Tryz.f28.body).getD .skip) from rfl]
      have hlt : ¬ ((k - 1 + 2 : Nat) : Int) ≤ (k : Int) := by omega
      simp (disch := omega) only [Tryz.f28, Option.getD_some, atC, es_seq, es_region, es_cond, es_exit, ops_nil, ops_cons, st_move, sy_bin, binS_leq, bindO_some, bindF_some, bindX_normal, bindX_exit, condX_false, ev_tmp, putA, upd_at, ↓reduceIte, Nat.reduceEqDiff, decide_false, ↓bindO_some, ↓bindF_some, ↓bindX_normal, ↓bindX_exit, ↓condX_false, h0, h4, hlt]
      refine ⟨_, _, _, rfl, by simp, rfl, vo, h3, ?_, old, hw⟩
      cases k with
      | zero => exact ho
      | succ k => exact ho
  rw [show rfA = atC [1, 1, 0, 1, 0, 0] ((Tryz.f28.body).getD .skip) from rfl] at key
  simp only [Tryz.f28, Option.getD_some, atC] at key
  simp (disch := omega) only [Tryz.f28, es_seq, es_region, es_block, es_loop, es_ret, ops_nil, ops_cons, st_move, st_assign, sy_build1 eL oI, bindO_some, bindF_some, bindX_normal, ev_tmp, ev_const, putA, upd_at, ↓reduceIte, ↓bindO_some, ↓bindF_some, ↓bindX_normal, scal_vi]
  generalize hA : upd _ 4 _ = A
  obtain ⟨r, a', H', e, hr, vo, h3, ho, old, wf⟩ := key A (by subst hA; rfl) (by subst hA; rfl) (by subst hA; rfl)
  subst hr
  rw [e]
  simp (disch := omega) only [bindX_normal, blkX_exit, upd_at, Option.map_some, ↓reduceIte, ↓bindX_normal, fin_r, res_nil, res_tmp, pack_1, h3, ho.R.scal]
  exact ⟨_, _, rfl, ho, old, wf⟩
end Go.Proofs.YtmmgdgmjkhcfaaaGreat
namespace Go.Proofs.YtmmgdgmjkhcfaaaGreat
open Go Go.Abs Go.Num
set_option maxRecDepth 10000
attribute [local congr] bindO_congr bindF_congr bindX_congr condX_congr iteB_congr binS_congr pickS_congr eqB_congr nilS_congr clsW_congr maxS_congr minS_congr
theorem smz_hit {l : List Int} {j : Nat} (h : l.getD (j + 1) 0 = l.getD j 0) : smz l (j + 1 + 1) = smz l (j + 1) + 1 := by
  rw [smz, if_pos ⟨by omega, h⟩]
theorem smz_miss {l : List Int} {j : Nat} (h : ¬ l.getD (j + 1) 0 = l.getD j 0) : smz l (j + 1 + 1) = 1 := by
  rw [smz, if_neg (fun h' => h h'.2)]
theorem smz_0 (l : List Int) : smz l (0 + 1) = 1 := by rw [smz, if_neg (fun h => by omega)]
noncomputable def czA : Code := atC [1, 1, 1, 0, 1, 0, 0] ((Tryz.f20.body).getD .skip)
theorem ccent_run {H : Heap} {v : Value} {l : List Int} (hw : WF H) (hv : R H v (ints l)) (hp : Part l) (n : Nat) (hn : 2020 ≤ n) : OneL H (evB Tryz.prog bC n (.func (.func 20) #[] #[]) [v] H) (nf (cz l l.length)) := by
  have hl := hp.len
  refine run_ofB (F := 2019) (Q := fun r => OneL H r (nf (cz l l.length))) (fun n hn => ?_) n hn
  rw [body_runS Tryz.func20 rfl (ok_fn (by rfl) Tryz.func20 rfl) (Nat.le_of_ble_eq_true rfl) (D := D0) (by kernel_rfl)]
  obtain ⟨v1, H1, s1, o1, old1, wf1⟩ := of_run (z := 1) hw (by omega) (by omega) n (by omega)
  have hv1 := hv.mono old1
  have key : ∀ A : Fr, A 0 = v → A 3 = v1 → A 4 = vi 0 → A 8 = v → A 9 = vi l.length → A 10 = vi (0 : Nat) → ∃ r a' H', loopN (evS Tryz.prog (evB Tryz.prog bC n) n Tryz.f20.ntmps none czA) n A H1 = some (r, a', H') ∧ r = .exit 0 ∧ ∃ vo, a' 3 = vo ∧ O H.length H' vo (ints (nf (cz l l.length))) ∧ Old H.length H H' ∧ WF H' := by
    intro A h0 h3 h4 h8 h9 h10
    refine loop_up l.length (fun i a H' => a 0 = v ∧ a 4 = vi (smz l i) ∧ a 8 = v ∧ a 9 = vi l.length ∧ a 10 = vi i ∧ Old H.length H H' ∧ WF H' ∧ ∃ vo, a 3 = vo ∧ O H.length H' vo (ints (nf (cz l i)))) _ ?_ ?_ (by omega) ⟨h0, h4, h8, h9, h10, old1, wf1, v1, h3, o1⟩
    · intro i a H' hi ⟨h0, h4, h8, h9, h10, old, hw, vo, h3, ho⟩
      left
      rw [show czA = atC [1, 1, 1, 0, 1, 0, 0] ((Tryz.f20.body).getD .skip) from rfl]
      have hv' := hv.mono old
      have hlt : (i : Int) < l.length := by omega
      have e1 : IntKind.i64.wrap ((i : Int) + 1) = ((i + 1 : Nat) : Int) := by rw [wr64 (by omega) (by omega)]; omega
      have hg := hp.getD hi
      have hs0 := smz_bd l i
      have hs1 := smz_bd l (i + 1)
      have hs2 := smz_pos l i
      have hlc := cz_len hp (i := i) (by omega)
      have m1 : 1 * 1 ≤ l.getD i 0 * smz l (i + 1) := Int.mul_le_mul hg.1 hs2 (by omega) (by omega)
      have m2 : l.getD i 0 * smz l (i + 1) ≤ 20 * 20 := Int.mul_le_mul hg.2 (by omega) (by omega) (by omega)
      have e3 : IntKind.i64.wrap (l.getD i 0 * smz l (i + 1)) = l.getD i 0 * smz l (i + 1) := wr64 (by omega) (by omega)
      obtain ⟨v2, H2, s2, o2, old2, wf2⟩ := ctimes_run (z := l.getD i 0 * smz l (i + 1)) hw (NumV.of ho.R (by omega)) (by omega) (by omega) (by omega) n (by omega)
      have fin : ∀ F : Fr, F 0 = v → F 4 = vi (smz l (i + 1)) → F 8 = v → F 9 = vi l.length → F 10 = vi ((i + 1 : Nat) : Int) → F 3 = v2 → ∃ a' H'', some (X.normal, F, H2) = some (X.normal, a', H'') ∧ a' 0 = v ∧ a' 4 = vi (smz l (i + 1)) ∧ a' 8 = v ∧ a' 9 = vi l.length ∧ a' 10 = vi ((i + 1 : Nat) : Int) ∧ Old H.length H H'' ∧ WF H'' ∧ ∃ vo, a' 3 = vo ∧ O H.length H'' vo (ints (nf (cz l (i + 1)))) := fun F g0 g4 g8 g9 g10 g3 => ⟨_, _, rfl, g0, g4, g8, g9, g10, old.trans (old2.mono old.1), wf2, v2, g3, o2.below old.1⟩
      cases i with
      | zero =>
        have c0 : decide ((0 : Int) < ((0 : Nat) : Int)) = false := rfl
        rw [smz_0] at s2 e3
        simp (disch := omega) only [Tryz.f20, Option.getD_some, atC, es_seq, es_region, es_cond, es_block, es_skip, ops_nil, ops_cons, ops_consG, st_move, st_assign, sy_pick, pickS_false, st_fun, sy_addr eL, sy_load aI, sy_bin, binS_lss, binS_gtr, binS_add, binS_mul, bindO_some, bindF_some, bindX_normal, blkX_normal, condX_true, condX_false, iteB_false, ev_tmp, ev_const, ev_func, putA, upd_at, Option.map_some, ↓reduceIte, Nat.reduceEqDiff, Nat.zero_add, Int.toNat_natCast, List.map_cons, List.map_nil, decide_true, yieldO_eq, yO, yV_bool, some_true, List.getElem?_cons_zero, List.getElem?_cons_succ, ↓bindO_some, ↓bindF_some, ↓bindX_normal, ↓condX_true, ↓condX_false, ↓iteB_false, h3, h8, h9, h10, hlt, hv'.addrI, hv'.loadI, c0, e3, s2, e1]
        refine fin _ ?_ ?_ ?_ ?_ ?_ ?_ <;> simp only [upd_at, ↓reduceIte, Nat.reduceEqDiff, smz_0, h0, h8, h9]
      | succ j =>
        have c0 : (0 : Int) < ((j + 1 : Nat) : Int) := by omega
        have e2 : IntKind.i64.wrap (((j + 1 : Nat) : Int) - 1) = (j : Int) := by rw [wr64 (by omega) (by omega)]; omega
        by_cases hq : l.getD (j + 1) 0 = l.getD j 0
        · rw [smz_hit hq] at s2 e3
          have e4 : IntKind.i64.wrap (smz l (j + 1) + 1) = smz l (j + 1) + 1 := wr64 (by omega) (by omega)
          have dq : decide (l.getD (j + 1) 0 = l.getD j 0) = true := decide_eq_true hq
          simp (disch := omega) only [Tryz.f20, Option.getD_some, atC, es_seq, es_region, es_cond, es_block, es_skip, ops_nil, ops_cons, ops_consG, st_move, st_assign, sy_pick, pickS_true, st_fun, sy_addr eL, sy_load aI, sy_bin, binS_lss, binS_gtr, binS_eql, binS_add, binS_sub, binS_mul, bindO_some, bindF_some, bindX_normal, blkX_normal, condX_true, iteB_true, ev_tmp, ev_const, ev_func, putA, upd_at, Option.map_some, ↓reduceIte, Nat.reduceEqDiff, Int.toNat_natCast, List.map_cons, List.map_nil, decide_true, yieldO_eq, yO, yV_bool, List.getElem?_cons_zero, List.getElem?_cons_succ, beq_self_eq_true, ↓bindO_some, ↓bindF_some, ↓bindX_normal, ↓condX_true, ↓iteB_true, h0, h3, h4, h8, h9, h10, hlt, hv'.addrI, hv'.loadI, c0, e2, dq, e4, e3, s2, e1]
          refine fin _ ?_ ?_ ?_ ?_ ?_ ?_ <;> simp only [upd_at, ↓reduceIte, Nat.reduceEqDiff, smz_hit hq, h0, h8, h9]
        · rw [smz_miss hq] at s2 e3
          have dq : decide (l.getD (j + 1) 0 = l.getD j 0) = false := decide_eq_false hq
          simp (disch := omega) only [Tryz.f20, Option.getD_some, atC, es_seq, es_region, es_cond, es_block, es_skip, ops_nil, ops_cons, ops_consG, st_move, st_assign, sy_pick, pickS_true, st_fun, sy_addr eL, sy_load aI, sy_bin, binS_lss, binS_gtr, binS_eql, binS_add, binS_sub, binS_mul, bindO_some, bindF_some, bindX_normal, blkX_normal, condX_true, condX_false, iteB_true, ev_tmp, ev_const, ev_func, putA, upd_at, Option.map_some, ↓reduceIte, Nat.reduceEqDiff, Int.toNat_natCast, List.map_cons, List.map_nil, decide_true, yieldO_eq, yO, yV_bool, List.getElem?_cons_zero, List.getElem?_cons_succ, beq_self_eq_true, ↓bindO_some, ↓bindF_some, ↓bindX_normal, ↓condX_true, ↓condX_false, ↓iteB_true, h0, h3, h8, h9, h10, hlt, hv'.addrI, hv'.loadI, c0, e2, dq, e3, s2, e1]
          refine fin _ ?_ ?_ ?_ ?_ ?_ ?_ <;> simp only [upd_at, ↓reduceIte, Nat.reduceEqDiff, smz_miss hq, h0, h8, h9]
    · intro a H' ⟨h0, h4, h8, h9, h10, old, hw, vo, h3, ho⟩
      rw [show czA = atC [1, 1, 1, 0, 1, 0, 0] ((Tryz.f20.body).getD .skip) from rfl]
      simp (disch := omega) only [Tryz.f20, Option.getD_some, atC, es_seq, es_region, es_cond, es_exit, ops_nil, ops_cons, sy_bin, binS_lss, bindO_some, bindF_some, bindX_normal, bindX_exit, condX_false, ev_tmp, putA, upd_at, ↓reduceIte, decide_false, ↓bindO_some, ↓bindF_some, ↓bindX_normal, ↓bindX_exit, ↓condX_false, h9, h10, Int.lt_irrefl]
      exact ⟨_, _, _, rfl, by simp, rfl, vo, by simp only [upd_at, ↓reduceIte, Nat.reduceEqDiff, h3], ho, old, hw⟩
  rw [show czA = atC [1, 1, 1, 0, 1, 0, 0] ((Tryz.f20.body).getD .skip) from rfl] at key
  simp only [Tryz.f20, Option.getD_some, atC] at key
  simp (disch := omega) only [Tryz.f20, es_seq, es_region, es_block, es_loop, es_ret, ops_nil, ops_cons, st_move, st_assign, st_fun, sy_len uL, bindO_some, bindF_some, bindX_normal, ev_tmp, ev_const, ev_func, putA, upd_at, Option.map_some, ↓reduceIte, Nat.reduceEqDiff, frOf_0, List.map_cons, List.map_nil, ↓bindO_some, ↓bindF_some, ↓bindX_normal, s1, hv1.lenI]
  generalize hA : upd _ 10 _ = A
  obtain ⟨r, a', H', e, hr, vo, h3, ho, old, wf⟩ := key A (by subst hA; rfl) (by subst hA; rfl) (by subst hA; rfl) (by subst hA; rfl) (by subst hA; rfl) (by subst hA; rfl)
  subst hr
  rw [e]
  simp (disch := omega) only [bindX_normal, blkX_exit, upd_at, Option.map_some, ↓reduceIte, ↓bindX_normal, fin_r, res_nil, res_tmp, pack_1, h3, ho.R.scal]
  exact ⟨_, _, rfl, ho, old, wf⟩
noncomputable def rzA : Code := atC [1, 1, 0, 1, 0, 0] ((Tryz.f11.body).getD .skip)
theorem rcent_run {H : Heap} {v : Value} {l : List Int} (hw : WF H) (hv : R H v (ints l)) (hp : Part l) (n : Nat) (hn : 2020 ≤ n) : OneL H (evB Tryz.prog bC n (.func (.func 11) #[] #[]) [v] H) (nf (cz l l.length)) := by
  have hl := hp.len
  refine run_ofB (F := 2019) (Q := fun r => OneL H r (nf (cz l l.length))) (fun n hn => ?_) n hn
  rw [body_runS Tryz.func11 rfl (ok_fn (by rfl) Tryz.func11 rfl) (Nat.le_of_ble_eq_true rfl) (D := D0) (by kernel_rfl)]
  have old1 := Old.app H [.cells H.length true [vi 1]]
  have wf1 := hw.app (Nat.le_refl H.length) (o := true) (cs := [vi 1])
  have o1 : O H.length (H ++ [.cells H.length true [vi 1]]) (sliceA H.length 0 1 1) (ints (nf (cz l 0))) := by
    rw [show cz l 0 = 1 from rfl, nf_small (by omega) (by omega)]
    exact O.made (Nat.le_refl _) [vi 1]
  have key : ∀ A : Fr, A 0 = v → A 3 = sliceA H.length 0 1 1 → A 4 = vi 0 → A 5 = vi (0 : Nat) → ∃ r a' H', loopN (evS Tryz.prog (evB Tryz.prog bC n) n Tryz.f11.ntmps none rzA) n A (H ++ [.cells H.length true [vi 1]]) = some (r, a', H') ∧ r = .exit 0 ∧ ∃ vo, a' 3 = vo ∧ O H.length H' vo (ints (nf (cz l l.length))) ∧ Old H.length H H' ∧ WF H' := by
    intro A h0 h3 h4 h5
    refine loop_up l.length (fun i a H' => a 0 = v ∧ a 4 = vi (smz l i) ∧ a 5 = vi i ∧ Old H.length H H' ∧ WF H' ∧ ∃ vo, a 3 = vo ∧ O H.length H' vo (ints (nf (cz l i)))) _ ?_ ?_ (by omega) ⟨h0, h4, h5, old1, wf1, _, h3, o1⟩
    · intro i a H' hi ⟨h0, h4, h5, old, hw, vo, h3, ho⟩
      left
      rw [show rzA = atC [1, 1, 0, 1, 0, 0] ((Tryz.f11.body).getD .skip) from rfl]
      have hv' := hv.mono old
      have hlt : (i : Int) < l.length := by omega
      have e1 : IntKind.i64.wrap ((i : Int) + 1) = ((i + 1 : Nat) : Int) := by rw [wr64 (by omega) (by omega)]; omega
      have hg := hp.getD hi
      have hs0 := smz_bd l i
      have hs1 := smz_bd l (i + 1)
      have hs2 := smz_pos l i
      have hlc := cz_len hp (i := i) (by omega)
      have m1 : 1 * 1 ≤ l.getD i 0 * smz l (i + 1) := Int.mul_le_mul hg.1 hs2 (by omega) (by omega)
      have m2 : l.getD i 0 * smz l (i + 1) ≤ 20 * 20 := Int.mul_le_mul hg.2 (by omega) (by omega) (by omega)
      have e3 : IntKind.i64.wrap (l.getD i 0 * smz l (i + 1)) = l.getD i 0 * smz l (i + 1) := wr64 (by omega) (by omega)
      obtain ⟨v2, H2, s2, o2, old2, wf2⟩ := rtimes_run (z := l.getD i 0 * smz l (i + 1)) hw (NumV.of ho.R (by omega)) (by omega) (by omega) (by omega) n (by omega)
      have fin : ∀ F : Fr, F 0 = v → F 4 = vi (smz l (i + 1)) → F 5 = vi ((i + 1 : Nat) : Int) → F 3 = v2 → ∃ a' H'', some (X.normal, F, H2) = some (X.normal, a', H'') ∧ a' 0 = v ∧ a' 4 = vi (smz l (i + 1)) ∧ a' 5 = vi ((i + 1 : Nat) : Int) ∧ Old H.length H H'' ∧ WF H'' ∧ ∃ vo, a' 3 = vo ∧ O H.length H'' vo (ints (nf (cz l (i + 1)))) := fun F g0 g4 g5 g3 => ⟨_, _, rfl, g0, g4, g5, old.trans (old2.mono old.1), wf2, v2, g3, o2.below old.1⟩
      cases i with
      | zero =>
        have c0 : decide ((0 : Int) < ((0 : Nat) : Int)) = false := rfl
        rw [smz_0] at s2 e3
        simp (disch := omega) only [Tryz.f11, Option.getD_some, atC, es_seq, es_region, es_draw, d0, es_cond, es_block, es_skip, ops_nil, ops_cons, opsV_nil, opsV_cons, opsV_consG, st_move, st_assign, sy_pick, pickS_false, st_fun, sy_len uL, sy_addr eL, sy_load aI, sy_bin, sy_build1 eL oI, binS_lss, binS_gtr, binS_add, binS_mul, bindO_some, bindF_some, bindX_normal, blkX_normal, condX_true, condX_false, iteB_true, iteB_false, ev_tmp, ev_const, ev_func, putA, upd_at, Option.map_some, ↓reduceIte, Nat.reduceEqDiff, Nat.zero_add, Int.toNat_natCast, List.map_cons, List.map_nil, decide_true, yieldO_eq, yO, yV_bool, some_true, List.getElem?_cons_zero, List.getElem?_cons_succ, ↓bindO_some, ↓bindF_some, ↓bindX_normal, ↓condX_true, ↓condX_false, ↓iteB_true, ↓iteB_false, reflV_move, reflV_pick, reflV_bin, scal_vi, h0, h3, h5, hlt, hv'.lenI, hv'.addrI, hv'.loadI, c0, e3, s2, e1]
        refine fin _ ?_ ?_ ?_ ?_ <;> simp only [upd_at, ↓reduceIte, Nat.reduceEqDiff, smz_0, h0]
      | succ j =>
        have c0 : (0 : Int) < ((j + 1 : Nat) : Int) := by omega
        have e2 : IntKind.i64.wrap (((j + 1 : Nat) : Int) - 1) = (j : Int) := by rw [wr64 (by omega) (by omega)]; omega
        by_cases hq : l.getD (j + 1) 0 = l.getD j 0
        · rw [smz_hit hq] at s2 e3
          have e4 : IntKind.i64.wrap (smz l (j + 1) + 1) = smz l (j + 1) + 1 := wr64 (by omega) (by omega)
          have dq : decide (l.getD (j + 1) 0 = l.getD j 0) = true := decide_eq_true hq
          simp (disch := omega) only [Tryz.f11, Option.getD_some, atC, es_seq, es_region, es_draw, d0, es_cond, es_block, es_skip, ops_nil, ops_cons, opsV_nil, opsV_cons, opsV_consG, st_move, st_assign, sy_pick, pickS_true, st_fun, sy_len uL, sy_addr eL, sy_load aI, sy_bin, sy_build1 eL oI, binS_lss, binS_gtr, binS_eql, binS_add, binS_sub, binS_mul, bindO_some, bindF_some, bindX_normal, blkX_normal, condX_true, iteB_true, iteB_false, ev_tmp, ev_const, ev_func, putA, upd_at, Option.map_some, ↓reduceIte, Nat.reduceEqDiff, Int.toNat_natCast, List.map_cons, List.map_nil, decide_true, yieldO_eq, yO, yV_bool, List.getElem?_cons_zero, List.getElem?_cons_succ, beq_self_eq_true, ↓bindO_some, ↓bindF_some, ↓bindX_normal, ↓condX_true, ↓iteB_true, ↓iteB_false, reflV_load, reflV_move, reflV_pick, reflV_bin, reflV_addr, vEq_vi, scal_vi, h0, h3, h4, h5, hlt, hv'.lenI, hv'.addrI, hv'.loadI, c0, e2, dq, e4, e3, s2, e1]
          refine fin _ ?_ ?_ ?_ ?_ <;> simp only [upd_at, ↓reduceIte, Nat.reduceEqDiff, smz_hit hq, h0]
        · rw [smz_miss hq] at s2 e3
          have dq : decide (l.getD (j + 1) 0 = l.getD j 0) = false := decide_eq_false hq
          simp (disch := omega) only [Tryz.f11, Option.getD_some, atC, es_seq, es_region, es_draw, d0, es_cond, es_block, es_skip, ops_nil, ops_cons, opsV_nil, opsV_cons, opsV_consG, st_move, st_assign, sy_pick, pickS_true, st_fun, sy_len uL, sy_addr eL, sy_load aI, sy_bin, sy_build1 eL oI, binS_lss, binS_gtr, binS_eql, binS_add, binS_sub, binS_mul, bindO_some, bindF_some, bindX_normal, blkX_normal, condX_true, condX_false, iteB_true, iteB_false, ev_tmp, ev_const, ev_func, putA, upd_at, Option.map_some, ↓reduceIte, Nat.reduceEqDiff, Int.toNat_natCast, List.map_cons, List.map_nil, decide_true, yieldO_eq, yO, yV_bool, List.getElem?_cons_zero, List.getElem?_cons_succ, beq_self_eq_true, ↓bindO_some, ↓bindF_some, ↓bindX_normal, ↓condX_true, ↓condX_false, ↓iteB_true, ↓iteB_false, reflV_load, reflV_move, reflV_pick, reflV_bin, reflV_addr, vEq_vi, scal_vi, h0, h3, h5, hlt, hv'.lenI, hv'.addrI, hv'.loadI, c0, e2, dq, e3, s2, e1]
          refine fin _ ?_ ?_ ?_ ?_ <;> simp only [upd_at, ↓reduceIte, Nat.reduceEqDiff, smz_miss hq, h0]
    · intro a H' ⟨h0, h4, h5, old, hw, vo, h3, ho⟩
      rw [show rzA = atC [1, 1, 0, 1, 0, 0] ((Tryz.f11.body).getD .skip) from rfl]
      have hv' := hv.mono old
      simp (disch := omega) only [Tryz.f11, Option.getD_some, atC, es_seq, es_region, es_cond, es_exit, ops_nil, ops_cons, st_move, sy_len uL, sy_bin, binS_lss, bindO_some, bindF_some, bindX_normal, bindX_exit, condX_false, ev_tmp, putA, upd_at, Option.map_some, ↓reduceIte, Nat.reduceEqDiff, decide_false, ↓bindO_some, ↓bindF_some, ↓bindX_normal, ↓bindX_exit, ↓condX_false, h0, h5, hv'.lenI, Int.lt_irrefl]
      exact ⟨_, _, _, rfl, by simp, rfl, vo, by simp only [upd_at, ↓reduceIte, Nat.reduceEqDiff, h3], ho, old, hw⟩
  rw [show rzA = atC [1, 1, 0, 1, 0, 0] ((Tryz.f11.body).getD .skip) from rfl] at key
  simp only [Tryz.f11, Option.getD_some, atC] at key
  simp (disch := omega) only [Tryz.f11, es_seq, es_region, es_block, es_loop, es_ret, ops_nil, ops_cons, st_move, st_assign, sy_build1 eL oI, bindO_some, bindF_some, bindX_normal, ev_tmp, ev_const, putA, upd_at, ↓reduceIte, ↓bindO_some, ↓bindF_some, ↓bindX_normal, scal_vi]
  generalize hA : upd _ 5 _ = A
  obtain ⟨r, a', H', e, hr, vo, h3, ho, old, wf⟩ := key A (by subst hA; rfl) (by subst hA; rfl) (by subst hA; rfl) (by subst hA; rfl)
  subst hr
  rw [e]
  simp (disch := omega) only [bindX_normal, blkX_exit, upd_at, Option.map_some, ↓reduceIte, ↓bindX_normal, fin_r, res_nil, res_tmp, pack_1, h3, ho.R.scal]
  exact ⟨_, _, rfl, ho, old, wf⟩
def clsZ (l : List Int) : Int := fct l.sum.toNat / cz l l.length
theorem class_run {H : Heap} {v : Value} {l : List Int} (hw : WF H) (hv : R H v (ints l)) (hp : Part l) (n : Nat) (hn : 100020000 ≤ n) : OneL H (evB Tryz.prog bC n (.func (.func 21) #[] #[]) [v] H) (nf (clsZ l)) := by
  have hs0 := hp.sum0
  have hs1 := hp.sum
  refine run_ofB (F := 100019999) (Q := fun r => OneL H r (nf (clsZ l))) (fun n hn => ?_) n hn
  rw [body_runS Tryz.func21 rfl (ok_fn (by rfl) Tryz.func21 rfl) (Nat.le_of_ble_eq_true rfl) (D := D0) (by kernel_rfl)]
  have s0 := csize_run hv hp.sm n (by omega)
  rw [show l.sum = ((l.sum.toNat : Nat) : Int) from by omega] at s0
  have lf := fct_len (k := l.sum.toNat) (by omega)
  have lc := cz_len hp (Nat.le_refl l.length)
  have pc := cz_bd hp l.length (Nat.le_refl _)
  have pf := fct_le (k := l.sum.toNat) (by omega)
  obtain ⟨v1, H1, s1, o1, old1, wf1⟩ := cfact_run (k := l.sum.toNat) hw (by omega) n (by omega)
  obtain ⟨v2, H2, s2, o2, old2, wf2⟩ := ccent_run wf1 (hv.mono old1) hp n (by omega)
  obtain ⟨v3, H3, s3, o3, old3, wf3⟩ := overC_run long_all wf2 (NumV.of (o1.R.mono old2) (by omega)) (NumV.of o2.R (by omega)) (by omega) (by omega) (by omega) (by omega) n (by omega)
  simp (disch := omega) only [Tryz.f21, es_seq, es_region, es_ret, ops_nil, ops_cons, st_move, st_assign, st_fun, bindO_some, bindF_some, bindX_normal, ev_tmp, ev_const, ev_func, putA, upd_at, Option.map_some, ↓reduceIte, Nat.reduceEqDiff, frOf_0, List.map_cons, List.map_nil, ↓bindO_some, ↓bindF_some, ↓bindX_normal, fin_r, res_nil, res_tmp, pack_1, s0, s1, s2, s3, o3.R.scal]
  have old12 := old1.trans (old2.mono old1.1)
  exact ⟨_, _, rfl, o3.below old12.1, old12.trans (old3.mono old12.1), wf3⟩
theorem rclass_run {H : Heap} {v : Value} {l : List Int} (hw : WF H) (hv : R H v (ints l)) (hp : Part l) (n : Nat) (hn : 2100 ≤ n) : OneL H (evB Tryz.prog bC n (.func (.func 12) #[] #[]) [v] H) (nf (clsZ l)) := by
  have hs0 := hp.sum0
  have hs1 := hp.sum
  refine run_ofB (F := 2099) (Q := fun r => OneL H r (nf (clsZ l))) (fun n hn => ?_) n hn
  rw [body_runS Tryz.func12 rfl (ok_fn (by rfl) Tryz.func12 rfl) (Nat.le_of_ble_eq_true rfl) (D := D0) (by kernel_rfl)]
  have s0 := rsize_run hv hp.sm n (by omega)
  rw [show l.sum = ((l.sum.toNat : Nat) : Int) from by omega] at s0
  have lf := fct_len (k := l.sum.toNat) (by omega)
  have lc := cz_len hp (Nat.le_refl l.length)
  have pc := cz_bd hp l.length (Nat.le_refl _)
  have pf := fct_le (k := l.sum.toNat) (by omega)
  obtain ⟨v1, H1, s1, o1, old1, wf1⟩ := rfact_run (k := l.sum.toNat) hw (by omega) n (by omega)
  obtain ⟨v2, H2, s2, o2, old2, wf2⟩ := rcent_run wf1 (hv.mono old1) hp n (by omega)
  obtain ⟨v3, H3, s3, o3, old3, wf3⟩ := quot_run wf2 (NumV.of (o1.R.mono old2) (by omega)) (NumV.of o2.R (by omega)) (by omega) (by omega) (by omega) (by omega) n (by omega)
  simp (disch := omega) only [Tryz.f12, es_seq, es_region, es_ret, ops_nil, ops_cons, st_move, st_assign, st_fun, bindO_some, bindF_some, bindX_normal, ev_tmp, ev_const, ev_func, putA, upd_at, Option.map_some, ↓reduceIte, Nat.reduceEqDiff, frOf_0, List.map_cons, List.map_nil, ↓bindO_some, ↓bindF_some, ↓bindX_normal, fin_r, res_nil, res_tmp, pack_1, s0, s1, s2, s3, o3.R.scal]
  have old12 := old1.trans (old2.mono old1.1)
  exact ⟨_, _, rfl, o3.below old12.1, old12.trans (old3.mono old12.1), wf3⟩
end Go.Proofs.YtmmgdgmjkhcfaaaGreat
namespace Go.Proofs.YtmmgdgmjkhcfaaaGreat
open Go Go.Abs Go.Num
set_option maxRecDepth 10000
theorem csW_run {H : Heap} {v : Value} {l : List Int} (hw : WF H) (hv : R H v (ints l)) (hc : chk l = 0) (n : Nat) (hn : 100030000 ≤ n) : OneT H (evB Tryz.prog bC n (.func (.func 7) #[] #[]) [v] H) (fun u => .tuple #[u, vi 0]) (nf (clsZ l)) := by
  refine run_ofB (F := 100029999) (Q := fun r => OneT H r (fun u => .tuple #[u, vi 0]) (nf (clsZ l))) (fun n hn => ?_) n hn
  rw [body_runS Tryz.func7 rfl (ok_fn (by rfl) Tryz.func7 rfl) (Nat.le_of_ble_eq_true rfl) (D := D0) (by kernel_rfl)]
  have hp := chk_part hc
  have hl := hp.len
  have s0 := ccheck_run hv (by omega) n (by omega)
  rw [hc] at s0
  obtain ⟨v1, H1, s1, o1, old1, wf1⟩ := class_run hw hv hp n (by omega)
  have c1 : decide ((0 : Int) = 0) = true := rfl
  simp (disch := omega) only [Tryz.f7, es_seq, es_region, es_cond, es_skip, es_ret, ops_nil, ops_cons, st_move, st_assign, st_fun, sy_bin, binS_neq, bindO_some, bindF_some, bindX_normal, condX_false, ev_tmp, ev_const, ev_func, putA, upd_at, Option.map_some, ↓reduceIte, Nat.reduceEqDiff, frOf_0, List.map_cons, List.map_nil, decide_true, Bool.not_true, ↓bindO_some, ↓bindF_some, ↓bindX_normal, ↓condX_false, fin_r, res_nil, res_tmp, pack_2, scal_vi, s0, s1, o1.R.scal]
  exact ⟨_, _, rfl, o1, old1, wf1⟩
end Go.Proofs.YtmmgdgmjkhcfaaaGreat
namespace Go.Proofs.YtmmgdgmjkhcfaaaGreat
open Go Go.Abs Go.Num
set_option maxRecDepth 10000
attribute [local congr] bindO_congr bindF_congr bindX_congr condX_congr iteB_congr binS_congr pickS_congr eqB_congr nilS_congr clsW_congr maxS_congr minS_congr
theorem permB_inR {f : List Int} (h : permB f = true) : inR f := fun i hi => ⟨(permB_at h i hi).1, (permB_at h i hi).2.1⟩
theorem permB_true {f : List Int} (h : ∀ i, i < f.length → goodAt f i = true) : permB f = true := List.all_eq_true.2 fun i hi => h i (List.mem_range.1 hi)
theorem permB_false {f : List Int} {i : Nat} (hi : i < f.length) (h : goodAt f i = false) : permB f = false := by
  cases hp : permB f with
  | false => rfl
  | true => have := List.all_eq_true.1 hp i (List.mem_range.2 hi); rw [h] at this; cases this
noncomputable def ipA : Code := atC [1,1,0,1,0,0] ((Tryz.f13.body).getD .skip)
theorem isperm_run {H : Heap} {v : Value} {f : List Int} (hw : WF H) (hv : R H v (ints f)) (hl : f.length ≤ 1000) (n : Nat) (hn : 1011 ≤ n) :
    ∃ H', evB Tryz.prog bC n (.func (.func 13) #[] #[]) [v] H = some (.bool (permB f), H') ∧ Old H.length H H' ∧ WF H' := by
  refine run_ofB (F := 1010) (Q := fun r => ∃ H', r = some (.bool (permB f), H') ∧ Old H.length H H' ∧ WF H') (fun n hn => ?_) n hn
  rw [body_runS Tryz.func13 rfl (ok_fn (by rfl) Tryz.func13 rfl) (Nat.le_of_ble_eq_true rfl) (D := D0) (by kernel_rfl)]
  have c1 : (f.length : Int) ≤ 1048576 := by omega
  have hz := zeros_B f.length
  have wf1 := hw.app (Nat.le_refl H.length) (o := true) (cs := bools (List.replicate f.length false))
  have old1 := Old.app H [.cells H.length true (bools (List.replicate f.length false))]
  have om1 := om_bools (H := H) (List.replicate f.length false)
  rw [List.length_replicate] at om1
  generalize hH1 : H ++ [Blk.cells H.length true (bools (List.replicate f.length false))] = H1 at *
  have key : ∀ (v3 : Value), OM H.length (H.length + 1) H1 v3 (bools (List.replicate f.length false)) → ∀ A : Fr, A 0 = v → A 3 = v3 → A 4 = vi (0 : Nat) → ∃ r a' H2, loopN (evS Tryz.prog (evB Tryz.prog bC n) n Tryz.f13.ntmps none ipA) n A H1 = some (r, a', H2) ∧ Old H.length H H2 ∧ WF H2 ∧ ((r = .exit 0 ∧ permB f = true) ∨ (r = .ret ∧ a' 2 = .bool false ∧ permB f = false)) := by
    intro v3 om1 A h0 h3 h4
    refine loop_up f.length (fun i a H' => a 0 = v ∧ a 3 = v3 ∧ a 4 = vi i ∧ WF H' ∧ Old H.length H H' ∧ OM H.length (H.length + 1) H' v3 (bools (seenOf f i)) ∧ ∀ j, j < i → goodAt f j = true) _ ?_ ?_ (by omega) ⟨h0, h3, h4, wf1, old1, by rw [seenOf_zero]; exact om1, fun j hj => by omega⟩
    · intro i a H' hi ⟨h0, h3, h4, wf, old, om, hg⟩
      have hlt : (i : Int) < f.length := by omega
      have hvR := hv.mono old
      have e1 : IntKind.i64.wrap ((i : Int) + 1) = ((i + 1 : Nat) : Int) := by rw [wr64 (by omega) (by omega)]; omega
      have e2 : IntKind.i64.wrap ((f.length : Int) - 1) = (f.length : Int) - 1 := wr64 (by omega) (by omega)
      have s1 := within_runS (f.getD i 0) 0 ((f.length : Int) - 1) H' n (by omega)
      rw [show ipA = atC [1,1,0,1,0,0] ((Tryz.f13.body).getD .skip) from rfl]
      by_cases hr : 0 ≤ f.getD i 0 ∧ f.getD i 0 < f.length
      · obtain ⟨k, hk⟩ : ∃ k : Nat, f.getD i 0 = (k : Int) := ⟨(f.getD i 0).toNat, by omega⟩
        rw [decide_eq_true hr.1, decide_eq_true (by omega : f.getD i 0 ≤ (f.length : Int) - 1), Bool.and_self, hk] at s1
        obtain ⟨au, lu⟩ := bools_at om.O.R (k := k) (by rw [seenOf_len]; omega)
        have hsk := seenOf_get f i k (by omega)
        have hgk : (seenOf f i).getD k true = (f.take i).contains (k : Int) := by rw [List.getD_eq_getElem?_getD, hsk]; rfl
        rw [hgk] at lu
        cases hc : (f.take i).contains (k : Int) with
        | true =>
          right
          rw [hc] at lu
          simp (disch := omega) only [Tryz.f13, Option.getD_some, atC, es_seq, es_region, es_cond, es_block, es_skip, es_ret, ops_nil, ops_cons, ops_consG, st_move, st_assign, sy_pick, pickS_false, st_fun, sy_len uL, sy_addr eL, sy_load aI, sy_bin, st_not, binS_lss, binS_sub, bindO_some, bindF_some, bindX_normal, bindX_ret, blkX_ret, condX_true, iteB_true, ev_tmp, ev_const, ev_func, putA, upd_at, Option.map_some, ↓reduceIte, Nat.reduceEqDiff, Int.toNat_natCast, List.map_cons, List.map_nil, decide_true, Bool.not_true, yieldO_eq, yO, yV_bool, List.getElem?_cons_zero, List.getElem?_cons_succ, beq_self_eq_true, ↓bindO_some, ↓bindF_some, ↓bindX_normal, ↓bindX_ret, ↓condX_true, ↓iteB_true, sy_addr eBl, sy_load aB, h0, h3, h4, hlt, hvR.lenI, hvR.addrI, hvR.loadI, hk, e2, s1, au, lu]
          refine ⟨_, _, _, rfl, by simp, old, wf, .inr ⟨rfl, rfl, permB_false hi ?_⟩⟩
          unfold goodAt
          rw [hk, hc]; simp
        | false =>
          left
          rw [hc] at lu
          obtain ⟨H2, es, om2, old2, wf2, k2⟩ := om.set wf (i := k) (by rw [bools_len, seenOf_len]; omega) (c := .bool true) rfl
          rw [bools_set] at om2
          simp (disch := omega) only [Tryz.f13, Option.getD_some, atC, es_seq, es_region, es_cond, es_block, es_skip, ops_nil, ops_cons, ops_consG, st_move, st_assign, sy_pick, pickS_false, st_fun, sy_len uL, sy_addr eL, sy_load aI, sy_bin, st_not, binS_lss, binS_add, binS_sub, bindO_some, bindF_some, bindX_normal, blkX_normal, condX_true, condX_false, iteB_true, ev_tmp, ev_const, ev_func, putA, upd_at, Option.map_some, ↓reduceIte, Nat.reduceEqDiff, Int.toNat_natCast, List.map_cons, List.map_nil, decide_true, Bool.not_true, yieldO_eq, yO, yV_bool, List.getElem?_cons_zero, List.getElem?_cons_succ, beq_self_eq_true, ↓bindO_some, ↓bindF_some, ↓bindX_normal, ↓condX_true, ↓condX_false, ↓iteB_true, sy_addr eBl, sy_load aB, sy_store zB, h0, h3, h4, hlt, hvR.lenI, hvR.addrI, hvR.loadI, hk, e1, e2, s1, au, lu, es]
          refine ⟨_, _, rfl, h0, h3, rfl, wf2, old.trans old2, ?_, fun j hj => ?_⟩
          · rw [seenOf_succ f i hi hr.1, hk, Int.toNat_natCast]; exact om2
          · by_cases hji : j = i
            · subst hji
              unfold goodAt
              rw [hk] at hr ⊢
              rw [hc, decide_eq_true hr.1, decide_eq_true hr.2]; rfl
            · exact hg j (by omega)
      · right
        have hd : (decide (0 ≤ f.getD i 0) && decide (f.getD i 0 ≤ (f.length : Int) - 1)) = false := by
          by_cases h1 : 0 ≤ f.getD i 0
          · rw [decide_eq_false (by omega : ¬ f.getD i 0 ≤ (f.length : Int) - 1), Bool.and_false]
          · rw [decide_eq_false h1, Bool.false_and]
        rw [hd] at s1
        simp (disch := omega) only [Tryz.f13, Option.getD_some, atC, es_seq, es_region, es_cond, es_block, es_skip, es_ret, ops_nil, ops_cons, ops_consG, st_move, st_assign, sy_pick, pickS_true, st_fun, sy_len uL, sy_addr eL, sy_load aI, sy_bin, st_not, binS_lss, binS_sub, bindO_some, bindF_some, bindX_normal, bindX_ret, blkX_ret, condX_true, iteB_false, ev_tmp, ev_const, ev_func, putA, upd_at, Option.map_some, ↓reduceIte, Nat.reduceEqDiff, Int.toNat_natCast, List.map_cons, List.map_nil, decide_true, Bool.not_true, Bool.not_false, yieldO_eq, yO, yV_bool, some_false, List.getElem?_cons_zero, List.getElem?_cons_succ, ↓bindO_some, ↓bindF_some, ↓bindX_normal, ↓bindX_ret, ↓condX_true, ↓iteB_false, h0, h4, hlt, hvR.lenI, hvR.addrI, hvR.loadI, e2, s1]
        refine ⟨_, _, _, rfl, by simp, old, wf, .inr ⟨rfl, rfl, permB_false hi ?_⟩⟩
        unfold goodAt
        by_cases h1 : 0 ≤ f.getD i 0
        · rw [decide_eq_false (by omega : ¬ f.getD i 0 < (f.length : Int)), Bool.and_false, Bool.false_and]
        · rw [decide_eq_false h1, Bool.false_and, Bool.false_and]
    · intro a H' ⟨h0, h3, h4, wf, old, om, hg⟩
      have hvR := hv.mono old
      rw [show ipA = atC [1,1,0,1,0,0] ((Tryz.f13.body).getD .skip) from rfl]
      simp (disch := omega) only [Tryz.f13, Option.getD_some, atC, es_seq, es_region, es_cond, es_exit, ops_nil, ops_cons, st_move, sy_len uL, sy_bin, binS_lss, bindO_some, bindF_some, bindX_normal, bindX_exit, condX_false, ev_tmp, putA, upd_at, Option.map_some, ↓reduceIte, Nat.reduceEqDiff, decide_false, ↓bindO_some, ↓bindF_some, ↓bindX_normal, ↓bindX_exit, ↓condX_false, h0, h4, hvR.lenI, Int.lt_irrefl]
      exact ⟨_, _, _, rfl, by simp, old, wf, .inl ⟨rfl, permB_true hg⟩⟩
  rw [show ipA = atC [1,1,0,1,0,0] ((Tryz.f13.body).getD .skip) from rfl] at key
  simp only [Tryz.f13, Option.getD_some, atC] at key
  simp (disch := omega) only [Tryz.f13, es_seq, es_region, es_block, es_loop, es_ret, ops_nil, ops_cons, st_move, st_assign, sy_len uL, bindO_some, bindF_some, bindX_normal, ev_tmp, ev_const, putA, upd_at, Option.map_some, ↓reduceIte, Nat.reduceEqDiff, Int.toNat_natCast, Int.natCast_nonneg, frOf_0, ↓bindO_some, ↓bindF_some, ↓bindX_normal, hv.lenI, sy_make eBl yB (by decide), c1, Int.le_refl, and_self, hz, hH1]
  generalize hA : upd _ 4 _ = A
  obtain ⟨r, a', H2, e, old2, wf2, h⟩ := key _ om1 A (by subst hA; rfl) (by subst hA; rfl) (by subst hA; rfl)
  rw [e]
  rcases h with ⟨rfl, hp⟩ | ⟨rfl, h2, hp⟩
  · rw [hp]
    simp (disch := omega) only [bindX_normal, blkX_exit, upd_at, Option.map_some, ↓reduceIte, ↓bindX_normal, fin_r, res_nil, res_tmp, pack_1, scal_bool]
    exact ⟨_, rfl, old2, wf2⟩
  · rw [hp]
    simp (disch := omega) only [bindX_ret, blkX_ret, Option.map_some, ↓bindX_ret, fin_r, res_nil, res_tmp, pack_1, scal_bool, h2]
    exact ⟨_, rfl, old2, wf2⟩
noncomputable def ctA : Code := atC [1,1,0,1,0,0] ((Tryz.f8.body).getD .skip)
def cytE (f : List Int) : Int := if 20 < f.length then 8 else if permB f then 0 else 3
def cytL (f : List Int) : List Int := if 20 < f.length then [] else if permB f then fallS (cycL f) else []
theorem cytype_run {H : Heap} {v : Value} {f : List Int} (hw : WF H) (hv : R H v (ints f)) (n : Nat) (hn : 1100 ≤ n) :
    OneT H (evB Tryz.prog bC n (.func (.func 8) #[] #[]) [v] H) (fun u => .tuple #[u, vi (cytE f)]) (cytL f) := by
  refine run_ofB (F := 1099) (Q := fun r => OneT H r (fun u => .tuple #[u, vi (cytE f)]) (cytL f)) (fun n hn => ?_) n hn
  rw [body_runS Tryz.func8 rfl (ok_fn (by rfl) Tryz.func8 rfl) (Nat.le_of_ble_eq_true rfl) (D := D0) (by kernel_rfl)]
  by_cases hl : 20 < f.length
  · have c1 : (20 : Int) < f.length := by omega
    have c2 : (f.length : Int) > 20 := c1
    unfold cytE cytL
    rw [if_pos hl, if_pos hl]
    simp (disch := omega) only [Tryz.f8, es_seq, es_region, es_cond, es_ret, ops_nil, ops_cons, st_move, st_assign, sy_len uL, sy_bin, binS_gtr, bindO_some, bindF_some, bindX_normal, bindX_ret, condX_true, ev_tmp, ev_const, putA, upd_at, Option.map_some, ↓reduceIte, Nat.reduceEqDiff, frOf_0, decide_true, ↓bindO_some, ↓bindF_some, ↓bindX_normal, ↓bindX_ret, ↓condX_true, fin_r, res_nil, res_tmp, pack_2, scal_vi, scal_nil, hv.lenI, c1]
    exact ⟨_, _, rfl, O.nil _ _, Old.refl _ _, hw⟩
  have c1 : ¬ (20 : Int) < f.length := by omega
  have key : ∀ A : Fr, A 0 = v → A 9 = v → A 10 = vi f.length → A 11 = vi (0 : Nat) → ∃ r a' H2, loopN (evS Tryz.prog (evB Tryz.prog bC n) n Tryz.f8.ntmps none ctA) n A H = some (r, a', H2) ∧ H2 = H ∧ ((r = .exit 0 ∧ permB f = true ∧ a' 0 = v) ∨ (r = .ret ∧ permB f = false ∧ a' 2 = .slice none 0 0 ∧ a' 3 = vi 3)) := by
    intro A h0 h9 h10 h11
    refine loop_up f.length (fun i a H' => H' = H ∧ a 0 = v ∧ a 9 = v ∧ a 10 = vi f.length ∧ a 11 = vi i ∧ ∀ j, j < i → goodAt f j = true) _ ?_ ?_ (by omega) ⟨rfl, h0, h9, h10, h11, fun j hj => by omega⟩
    · intro i a H' hi ⟨hH, h0, h9, h10, h11, hg⟩
      subst hH
      have hlt : (i : Int) < f.length := by omega
      have e1 : IntKind.i64.wrap ((i : Int) + 1) = ((i + 1 : Nat) : Int) := by rw [wr64 (by omega) (by omega)]; omega
      obtain ⟨u, su, ru⟩ := hv.upto (c := i) (by omega)
      have s1 := contains_run ru (by rw [List.length_take]; omega) (f.getD i 0) n (by omega)
      rw [show ctA = atC [1,1,0,1,0,0] ((Tryz.f8.body).getD .skip) from rfl]
      by_cases h1 : f.getD i 0 < 0
      · right
        simp (disch := omega) only [Tryz.f8, Option.getD_some, atC, es_seq, es_region, es_cond, es_block, es_skip, es_ret, ops_nil, ops_cons, ops_consG, st_move, st_assign, sy_pick, pickS_true, sy_addr eL, sy_load aI, sy_bin, binS_lss, bindO_some, bindF_some, bindX_normal, bindX_ret, blkX_ret, condX_true, iteB_false, ev_tmp, ev_const, putA, upd_at, Option.map_some, ↓reduceIte, Nat.reduceEqDiff, Int.toNat_natCast, decide_true, Bool.not_true, yieldO_eq, yO, yV_bool, some_false, List.getElem?_cons_zero, List.getElem?_cons_succ, ↓bindO_some, ↓bindF_some, ↓bindX_normal, ↓bindX_ret, ↓condX_true, ↓iteB_false, h9, h10, h11, hlt, hv.addrI, hv.loadI, h1]
        refine ⟨_, _, _, rfl, by simp, rfl, .inr ⟨rfl, permB_false hi ?_, rfl, rfl⟩⟩
        unfold goodAt
        rw [decide_eq_false (by omega), Bool.false_and, Bool.false_and]
      · by_cases h2 : (f.length : Int) ≤ f.getD i 0
        · right
          have h2' : f.getD i 0 ≥ (f.length : Int) := h2
          simp (disch := omega) only [Tryz.f8, Option.getD_some, atC, es_seq, es_region, es_cond, es_block, es_skip, es_ret, ops_nil, ops_cons, ops_consG, st_move, st_assign, sy_pick, pickS_true, pickS_false, sy_len uL, sy_addr eL, sy_load aI, sy_bin, binS_lss, binS_geq, bindO_some, bindF_some, bindX_normal, bindX_ret, blkX_ret, condX_true, iteB_true, iteB_false, ev_tmp, ev_const, putA, upd_at, Option.map_some, ↓reduceIte, Nat.reduceEqDiff, Int.toNat_natCast, decide_true, decide_false, Bool.not_true, yieldO_eq, yO, yV_bool, some_false, List.getElem?_cons_zero, List.getElem?_cons_succ, beq_self_eq_true, ↓bindO_some, ↓bindF_some, ↓bindX_normal, ↓bindX_ret, ↓condX_true, ↓iteB_true, ↓iteB_false, h0, h9, h10, h11, hlt, hv.lenI, hv.addrI, hv.loadI, h1, h2]
          refine ⟨_, _, _, rfl, by simp, rfl, .inr ⟨rfl, permB_false hi ?_, rfl, rfl⟩⟩
          unfold goodAt
          rw [decide_eq_false (by omega : ¬ f.getD i 0 < (f.length : Int)), Bool.and_false, Bool.false_and]
        · have h2' : ¬ f.getD i 0 ≥ (f.length : Int) := h2
          by_cases h3 : f.getD i 0 ∈ f.take i
          · right
            rw [decide_eq_true h3] at s1
            simp (disch := omega) only [Tryz.f8, Option.getD_some, atC, es_seq, es_region, es_cond, es_block, es_skip, es_ret, ops_nil, ops_cons, ops_consG, st_move, st_assign, sy_pick, pickS_false, st_fun, sy_len uL, sy_addr eL, sy_load aI, sy_bin, sy_slice eL, binS_lss, binS_geq, bindO_some, bindF_some, bindX_normal, bindX_ret, blkX_ret, condX_true, iteB_true, ev_tmp, ev_const, ev_func, putA, upd_at, Option.map_some, ↓reduceIte, Nat.reduceEqDiff, Int.toNat_natCast, List.map_cons, List.map_nil, decide_true, decide_false, yieldO_eq, yO, yV_bool, List.getElem?_cons_zero, List.getElem?_cons_succ, beq_self_eq_true, ↓bindO_some, ↓bindF_some, ↓bindX_normal, ↓bindX_ret, ↓condX_true, ↓iteB_true, h0, h9, h10, h11, hlt, hv.lenI, hv.addrI, hv.loadI, h1, h2, Option.map_none, su, s1]
            refine ⟨_, _, _, rfl, by simp, rfl, .inr ⟨rfl, permB_false hi ?_, rfl, rfl⟩⟩
            unfold goodAt
            rw [show (f.take i).contains (f.getD i 0) = true from by simpa using h3]; simp
          · left
            rw [decide_eq_false h3] at s1
            simp (disch := omega) only [Tryz.f8, Option.getD_some, atC, es_seq, es_region, es_cond, es_block, es_skip, ops_nil, ops_cons, ops_consG, st_move, st_assign, sy_pick, pickS_false, st_fun, sy_len uL, sy_addr eL, sy_load aI, sy_bin, sy_slice eL, binS_lss, binS_geq, binS_add, bindO_some, bindF_some, bindX_normal, blkX_normal, condX_true, condX_false, iteB_true, ev_tmp, ev_const, ev_func, putA, upd_at, Option.map_some, ↓reduceIte, Nat.reduceEqDiff, Int.toNat_natCast, List.map_cons, List.map_nil, decide_true, decide_false, yieldO_eq, yO, yV_bool, List.getElem?_cons_zero, List.getElem?_cons_succ, beq_self_eq_true, ↓bindO_some, ↓bindF_some, ↓bindX_normal, ↓condX_true, ↓condX_false, ↓iteB_true, h0, h9, h10, h11, hlt, hv.lenI, hv.addrI, hv.loadI, h1, h2, Option.map_none, su, s1, e1]
            refine ⟨_, _, rfl, rfl, h0, h9, h10, rfl, fun j hj => ?_⟩
            by_cases hji : j = i
            · subst hji
              unfold goodAt
              rw [decide_eq_true (by omega : 0 ≤ f.getD j 0), decide_eq_true (by omega : f.getD j 0 < (f.length : Int)), show (f.take j).contains (f.getD j 0) = false from by simpa using h3]; rfl
            · exact hg j (by omega)
    · intro a H' ⟨hH, h0, h9, h10, h11, hg⟩
      subst hH
      rw [show ctA = atC [1,1,0,1,0,0] ((Tryz.f8.body).getD .skip) from rfl]
      simp (disch := omega) only [Tryz.f8, Option.getD_some, atC, es_seq, es_region, es_cond, es_exit, ops_nil, ops_cons, sy_bin, binS_lss, bindO_some, bindF_some, bindX_normal, bindX_exit, condX_false, ev_tmp, putA, upd_at, ↓reduceIte, decide_false, ↓bindO_some, ↓bindF_some, ↓bindX_normal, ↓bindX_exit, ↓condX_false, h10, h11, Int.lt_irrefl]
      exact ⟨_, _, _, rfl, by simp, rfl, .inl ⟨rfl, permB_true hg, h0⟩⟩
  rw [show ctA = atC [1,1,0,1,0,0] ((Tryz.f8.body).getD .skip) from rfl] at key
  simp only [Tryz.f8, Option.getD_some, atC] at key
  have c2 : ¬ (f.length : Int) > 20 := c1
  simp (disch := omega) only [Tryz.f8, es_seq, es_region, es_cond, es_block, es_loop, es_skip, es_ret, ops_nil, ops_cons, st_move, st_assign, st_fun, sy_len uL, sy_bin, binS_gtr, bindO_some, bindF_some, bindX_normal, condX_false, ev_tmp, ev_const, ev_func, putA, upd_at, Option.map_some, ↓reduceIte, Nat.reduceEqDiff, frOf_0, List.map_cons, List.map_nil, decide_false, ↓bindO_some, ↓bindF_some, ↓bindX_normal, ↓condX_false, hv.lenI, c1]
  generalize hA : upd _ 11 _ = A
  obtain ⟨r, a', H2, e, hH, h⟩ := key A (by subst hA; rfl) (by subst hA; rfl) (by subst hA; rfl) (by subst hA; rfl)
  subst hH
  rw [e]
  unfold cytE cytL
  rw [if_neg hl, if_neg hl]
  rcases h with ⟨rfl, hp, h0⟩ | ⟨rfl, hp, h2, h3⟩
  · rw [hp, if_pos rfl, if_pos rfl]
    obtain ⟨w, H3, s3, o3, old3, wf3⟩ := cycles_run hw hv (permB_inR hp) (by omega) n (by omega)
    simp (disch := omega) only [bindO_some, bindF_some, bindX_normal, blkX_exit, upd_at, Option.map_some, ↓reduceIte, Nat.reduceEqDiff, ↓bindO_some, ↓bindF_some, ↓bindX_normal, fin_r, res_nil, res_tmp, pack_2, scal_vi, h0, s3, o3.R.scal]
    exact ⟨_, _, rfl, o3, old3, wf3⟩
  · rw [hp, if_neg (by simp), if_neg (by simp)]
    simp (disch := omega) only [bindX_ret, blkX_ret, Option.map_some, ↓bindX_ret, fin_r, res_nil, res_tmp, pack_2, scal_vi, scal_nil, h2, h3]
    exact ⟨_, _, rfl, O.nil _ _, Old.refl _ _, hw⟩
theorem cenW_run {H : Heap} {v : Value} {l : List Int} (hw : WF H) (hv : R H v (ints l)) (hc : chk l = 0) (n : Nat) (hn : 100030000 ≤ n) : OneT H (evB Tryz.prog bC n (.func (.func 6) #[] #[]) [v] H) (fun u => .tuple #[u, vi 0]) (nf (cz l l.length)) := by
  refine run_ofB (F := 100029999) (Q := fun r => OneT H r (fun u => .tuple #[u, vi 0]) (nf (cz l l.length))) (fun n hn => ?_) n hn
  rw [body_runS Tryz.func6 rfl (ok_fn (by rfl) Tryz.func6 rfl) (Nat.le_of_ble_eq_true rfl) (D := D0) (by kernel_rfl)]
  have hp := chk_part hc
  have hl := hp.len
  have s0 := ccheck_run hv (by omega) n (by omega)
  rw [hc] at s0
  obtain ⟨v1, H1, s1, o1, old1, wf1⟩ := ccent_run hw hv hp n (by omega)
  have c1 : decide ((0 : Int) = 0) = true := rfl
  simp (disch := omega) only [Tryz.f6, es_seq, es_region, es_cond, es_skip, es_ret, ops_nil, ops_cons, st_move, st_assign, st_fun, sy_bin, binS_neq, bindO_some, bindF_some, bindX_normal, condX_false, ev_tmp, ev_const, ev_func, putA, upd_at, Option.map_some, ↓reduceIte, Nat.reduceEqDiff, frOf_0, List.map_cons, List.map_nil, decide_true, Bool.not_true, ↓bindO_some, ↓bindF_some, ↓bindX_normal, ↓condX_false, fin_r, res_nil, res_tmp, pack_2, scal_vi, s0, s1, o1.R.scal]
  exact ⟨_, _, rfl, o1, old1, wf1⟩
theorem cenW_bad {H : Heap} {v : Value} {l : List Int} (hv : R H v (ints l)) (hl : l.length ≤ 1000) (hc : chk l ≠ 0) (n : Nat) (hn : 100030000 ≤ n) : evB Tryz.prog bC n (.func (.func 6) #[] #[]) [v] H = some (.tuple #[.slice none 0 0, vi (chk l)], H) := by
  refine run_ofB (F := 100029999) (Q := fun r => r = some (.tuple #[.slice none 0 0, vi (chk l)], H)) (fun n hn => ?_) n hn
  rw [body_runS Tryz.func6 rfl (ok_fn (by rfl) Tryz.func6 rfl) (Nat.le_of_ble_eq_true rfl) (D := D0) (by kernel_rfl)]
  have s0 := ccheck_run hv hl n (by omega)
  have c1 : decide (chk l = 0) = false := decide_eq_false hc
  simp (disch := omega) only [Tryz.f6, es_seq, es_region, es_cond, es_ret, ops_nil, ops_cons, st_move, st_assign, st_fun, sy_bin, binS_neq, bindO_some, bindF_some, bindX_normal, bindX_ret, condX_true, ev_tmp, ev_const, ev_func, putA, upd_at, Option.map_some, ↓reduceIte, Nat.reduceEqDiff, frOf_0, List.map_cons, List.map_nil, Bool.not_false, ↓bindO_some, ↓bindF_some, ↓bindX_normal, ↓bindX_ret, ↓condX_true, fin_r, res_nil, res_tmp, pack_2, scal_vi, scal_nil, s0, c1]
theorem csW_bad {H : Heap} {v : Value} {l : List Int} (hv : R H v (ints l)) (hl : l.length ≤ 1000) (hc : chk l ≠ 0) (n : Nat) (hn : 100030000 ≤ n) : evB Tryz.prog bC n (.func (.func 7) #[] #[]) [v] H = some (.tuple #[.slice none 0 0, vi (chk l)], H) := by
  refine run_ofB (F := 100029999) (Q := fun r => r = some (.tuple #[.slice none 0 0, vi (chk l)], H)) (fun n hn => ?_) n hn
  rw [body_runS Tryz.func7 rfl (ok_fn (by rfl) Tryz.func7 rfl) (Nat.le_of_ble_eq_true rfl) (D := D0) (by kernel_rfl)]
  have s0 := ccheck_run hv hl n (by omega)
  have c1 : decide (chk l = 0) = false := decide_eq_false hc
  simp (disch := omega) only [Tryz.f7, es_seq, es_region, es_cond, es_ret, ops_nil, ops_cons, st_move, st_assign, st_fun, sy_bin, binS_neq, bindO_some, bindF_some, bindX_normal, bindX_ret, condX_true, ev_tmp, ev_const, ev_func, putA, upd_at, Option.map_some, ↓reduceIte, Nat.reduceEqDiff, frOf_0, List.map_cons, List.map_nil, Bool.not_false, ↓bindO_some, ↓bindF_some, ↓bindX_normal, ↓bindX_ret, ↓condX_true, fin_r, res_nil, res_tmp, pack_2, scal_vi, scal_nil, s0, c1]
end Go.Proofs.YtmmgdgmjkhcfaaaGreat
namespace Go.Proofs.YtmmgdgmjkhcfaaaGreat
open Go Go.Abs
def Row (k : IntKind) (w : World) (a : Option Addr) (len cap : Nat) (zs : List Int) : Prop :=
  (a = none ∧ len = 0 ∧ cap = 0 ∧ zs = []) ∨
  ∃ x, a = some x ∧ len ≤ cap ∧ cap ≤ maxLen ∧ zs.length = cap ∧ (∀ i, i < zs.length → w.cell? (x.add i) = some (.int k (zs.getD i 0))) ∧ ∀ n ∈ zs, (Lit.int k n).wf = true
theorem row_at {w : World} {a : Option Addr} {len cap : Nat} {zs : List Int} (h : Row .i64 w a len cap zs) :
    ArgAt w (.imm (.slice none 0 0)) (.slice a len cap) ∨ ArgAt w (.imm lostSlice) (.slice a len cap) ∨ ∃ l : List Int, 0 < l.length ∧ ArgAt w (.li (ints l)) (.slice a len cap) := by
  rcases h with ⟨rfl, rfl, rfl, _⟩ | ⟨x, rfl, h1, h2, h3, h4, _⟩
  · exact .inl (.imm fun m => .a (.s .sliceNil))
  · by_cases h0 : len = 0
    · subst h0
      exact .inr (.inl (.imm fun m => .a (.s (.lost _ _ _ _))))
    · refine .inr (.inr ⟨zs.take len, by rw [List.length_take]; omega, ?_⟩)
      obtain ⟨g, o, s⟩ := x
      have hc0 := h4 0 (by omega)
      unfold World.cell? Addr.add at hc0
      simp only at hc0
      split at hc0
      case h_2 => cases hc0
      rename_i C el fr hh
      have hs : s = none := by
        cases s with
        | none => rfl
        | some p => simp at hc0
      subst hs
      have hG : w.heap[g]? = some (.cells C el fr) := hh
      have hcell : ∀ i, i < zs.length → C[o + i]? = some (.int .i64 (zs.getD i 0)) := fun i hi => by
        have := h4 i hi
        unfold World.cell? Addr.add at this
        by_cases hi0 : i = 0
        · subst hi0
          rw [if_pos rfl] at this
          simp only at this
          rw [hG] at this
          exact this
        · rw [if_neg hi0] at this
          simp only at this
          rw [hG] at this
          exact this
      have hlen : len = (zs.take len).length := by rw [List.length_take]; omega
      have hsz : o + cap ≤ C.size := by
        have := hcell (cap - 1) (by omega)
        have := Array.getElem?_eq_some_iff.1 this
        obtain ⟨h, _⟩ := this
        omega
      have key := ArgAt.li (w := w) (l := ints (zs.take len)) (g := g) (o := o) (cap := cap) hG (by rw [ints_len, ← hlen]; exact h1) hsz (fun i v hv => by
        unfold ints at hv
        rw [List.getElem?_map, List.getElem?_take] at hv
        split at hv
        · rename_i hi
          have h5 : i < zs.length := by omega
          rw [List.getElem?_eq_getElem h5] at hv
          cases hv
          rw [hcell i h5, List.getD_eq_getElem?_getD, List.getElem?_eq_getElem h5]
          rfl
        · cases hv) (fun v hv => by
        unfold ints at hv
        obtain ⟨z, _, rfl⟩ := List.mem_map.1 hv
        rfl)
      rw [ints_len, ← hlen] at key
      exact key
end Go.Proofs.YtmmgdgmjkhcfaaaGreat
namespace Go.Proofs.YtmmgdgmjkhcfaaaGreat
open Go Go.Abs
theorem row_two {w : World} {a b : Option Addr} {len cap len' cap' : Nat} {zs zs' : List Int} (h : Row .i64 w a len cap zs) (h' : Row .i64 w b len' cap' zs') : ∃ (x y : Arg) (l c : List Int) (v u : Value), ArgAt w x (.slice a len cap) ∧ ArgAt w y (.slice b len' cap') ∧ mkVals 0 [x, y] = [v, u] ∧ R (mkHeap 0 [x, y]) v (ints l) ∧ R (mkHeap 0 [x, y]) u (ints c) ∧ WF (mkHeap 0 [x, y]) := by
  have w1 : ∀ m : List Value, WF [.cells 0 false m] := fun m b f o cs hb => by
    cases b with
    | zero => simp at hb; omega
    | succ b => simp at hb
  have w2 : ∀ m k : List Value, WF [.cells 0 false m, .cells 1 false k] := fun m k b f o cs hb => by
    match b with
    | 0 => simp at hb; omega
    | 1 => simp at hb; omega
    | b + 2 => simp at hb
  have w0 : WF [] := fun b f o cs hb => by simp at hb
  have r1 : ∀ (l : List Int) (H : Heap) (j : Nat), H[j]? = some (.cells j false (ints l)) → R H (sliceA j 0 (ints l).length 1) (ints l) := fun l H j h => .inr (.inr ⟨j, 0, j, false, ints l, rfl, h, by simp, by simp⟩)
  rcases row_at h with h | h | ⟨l, hl, h⟩ <;> rcases row_at h' with h' | h' | ⟨c, hc, h'⟩
  · exact ⟨_, _, [], [], _, _, h, h', rfl, .inl ⟨rfl, rfl⟩, .inl ⟨rfl, rfl⟩, w0⟩
  · exact ⟨_, _, [], [], _, _, h, h', rfl, .inl ⟨rfl, rfl⟩, .inr (.inl ⟨rfl, rfl⟩), w0⟩
  · exact ⟨_, _, [], c, _, _, h, h', rfl, .inl ⟨rfl, rfl⟩, r1 c _ 0 rfl, w1 _⟩
  · exact ⟨_, _, [], [], _, _, h, h', rfl, .inr (.inl ⟨rfl, rfl⟩), .inl ⟨rfl, rfl⟩, w0⟩
  · exact ⟨_, _, [], [], _, _, h, h', rfl, .inr (.inl ⟨rfl, rfl⟩), .inr (.inl ⟨rfl, rfl⟩), w0⟩
  · exact ⟨_, _, [], c, _, _, h, h', rfl, .inr (.inl ⟨rfl, rfl⟩), r1 c _ 0 rfl, w1 _⟩
  · exact ⟨_, _, l, [], _, _, h, h', rfl, r1 l _ 0 rfl, .inl ⟨rfl, rfl⟩, w1 _⟩
  · exact ⟨_, _, l, [], _, _, h, h', rfl, r1 l _ 0 rfl, .inr (.inl ⟨rfl, rfl⟩), w1 _⟩
  · exact ⟨_, _, l, c, _, _, h, h', rfl, r1 l _ 0 rfl, r1 c _ 1 rfl, w2 _ _⟩
end Go.Proofs.YtmmgdgmjkhcfaaaGreat
namespace Go.Proofs.YtmmgdgmjkhcfaaaGreat
open Go Go.Abs
set_option maxRecDepth 10000
noncomputable def awkS : Nat → List Arg → Option Res := fun f xs => match xs with
  | [] => if f = 5 then some trueR else none
  | _ => none
theorem awkS_ok : ∀ f xs r, awkS f xs = some r → LineOK Tryz.prog f xs r := by
  intro f xs r h
  unfold awkS at h
  split at h
  · split at h
    · rename_i hf; subst hf; cases h; exact awake_line
    · cases h
  · cases h
noncomputable def callA (n : Nat) : CallF := Abs.orC (tabC awkS) (evB Tryz.prog bC n)
theorem callA_ok (n : Nat) : CallOK Tryz.prog (callA n) := Abs.orC_ok (tabC_ok awkS_ok) (evB_ok hmix bC_ok bC_grow n)
theorem callA_grow (n : Nat) : CallGrow (callA n) := Abs.orC_grow (tabC_grow _) (evB_grow bC_grow n)
theorem ca_other {n f : Nat} {args : List Value} {H : Heap} (h : f ≠ 5) : callA n (.func (.func f) #[] #[]) args H = evB Tryz.prog bC n (.func (.func f) #[] #[]) args H := by
  unfold callA Abs.orC
  have e : tabC awkS (.func (.func f) #[] #[]) args H = none := by
    unfold tabC
    simp only
    split
    · split
      · rename_i xs _
        have : awkS f xs = none := by
          unfold awkS
          split
          · rw [if_neg h]
          · rfl
        rw [this]
      · rfl
    · rfl
  rw [e]
theorem ca_awake {n : Nat} {H : Heap} : callA n (.func (.func 5) #[] #[]) [] H = some (.bool true, H) := by
  unfold callA Abs.orC
  have e : tabC awkS (.func (.func 5) #[] #[]) [] H = some (.bool true, H ++ []) := rfl
  rw [e, List.append_nil]
end Go.Proofs.YtmmgdgmjkhcfaaaGreat
namespace Go.Proofs.YtmmgdgmjkhcfaaaGreat
open Go Go.Abs Go.Num
set_option maxRecDepth 10000
attribute [local congr] bindO_congr bindF_congr bindX_congr condX_congr iteB_congr binS_congr pickS_congr eqB_congr nilS_congr clsW_congr maxS_congr minS_congr
theorem clsZ_len {l : List Int} (hp : Part l) : (nf (clsZ l)).length ≤ 10000 := by
  have h1 := fct_le (k := l.sum.toNat) (by have := hp.sum; omega)
  have h2 := (cz_bd hp l.length (Nat.le_refl _)).1
  have h3 := Int.ediv_le_self (cz l l.length) (by omega : 0 ≤ fct l.sum.toNat)
  have h4 := Int.ediv_nonneg (by omega : 0 ≤ fct l.sum.toNat) (by omega : 0 ≤ cz l l.length)
  have := nf_len_mono (x := clsZ l) (y := fct l.sum.toNat) h4 h3
  have := fct_len (k := l.sum.toNat) (by have := hp.sum; omega)
  omega
set_option maxHeartbeats 2000000 in
theorem cycLaw_run {H : Heap} {v u : Value} {l f : List Int} (hw : WF H) (hv : R H v (ints l)) (hu : R H u (ints f)) : ∃ H', evBody Tryz.prog (callA 200000000) 200000000 (.func (.func 3) #[] #[]) [v, u] H = some (.bool true, H') := by
  obtain ⟨n, hn⟩ : ∃ n, n = 200000000 := ⟨_, rfl⟩
  rw [← hn]
  rw [body_runS (c := (Tryz.f3.body).getD .skip) Tryz.func3 rfl (ok_fn (by rfl) Tryz.func3 rfl) (Nat.le_of_ble_eq_true rfl) (D := D0) (by kernel_rfl)]
  have s0 := long_run hv n (by omega)
  have s00 := long_run hu n (by omega)
  by_cases hlong : (40 : Int) < (l.length : Int)
  · rw [decide_eq_true hlong] at s0
    simp (disch := omega) only [Tryz.f3, Option.getD_some, es_seq, es_region, es_cond, es_ret, ops_nil, ops_cons, ops_consG, st_move, st_assign, sy_pick, pickS_true, st_fun, bindO_some, bindF_some, bindX_normal, bindX_ret, condX_true, iteB_false, ev_tmp, ev_const, ev_func, putA, upd_at, Option.map_some, ↓reduceIte, Nat.reduceEqDiff, frOf_0, List.map_cons, List.map_nil, Bool.not_true, yieldO_eq, yO, yV_bool, some_false, List.getElem?_cons_zero, List.getElem?_cons_succ, ↓bindO_some, ↓bindF_some, ↓bindX_normal, ↓bindX_ret, ↓condX_true, ↓iteB_false, fin_r, res_nil, res_tmp, pack_1, scal_bool, ca_other, ca_awake, s0]
    exact ⟨_, rfl⟩
  rw [decide_eq_false hlong] at s0
  by_cases hlong2 : (40 : Int) < (f.length : Int)
  · rw [decide_eq_true hlong2] at s00
    simp (disch := omega) only [Tryz.f3, Option.getD_some, es_seq, es_region, es_cond, es_ret, ops_nil, ops_cons, ops_consG, st_move, st_assign, sy_pick, pickS_false, st_fun, bindO_some, bindF_some, bindX_normal, bindX_ret, condX_true, iteB_true, ev_tmp, ev_const, ev_func, putA, upd_at, Option.map_some, ↓reduceIte, Nat.reduceEqDiff, frOf_0, frOf_1, List.map_cons, List.map_nil, yieldO_eq, yO, yV_bool, List.getElem?_cons_zero, List.getElem?_cons_succ, beq_self_eq_true, ↓bindO_some, ↓bindF_some, ↓bindX_normal, ↓bindX_ret, ↓condX_true, ↓iteB_true, fin_r, res_nil, res_tmp, pack_1, scal_bool, ca_other, ca_awake, s0, s00]
    exact ⟨_, rfl⟩
  rw [decide_eq_false hlong2] at s00
  have hl : l.length ≤ 1000 := by omega
  have hfl : f.length ≤ 1000 := by omega
  have z0 : decide ((0 : Int) = 0) = true := rfl
  have z8 : decide ((8 : Int) = 8) = true := rfl
  have z3 : decide ((3 : Int) = 3) = true := rfl
  have ln : lenS (.slice none 0 0) = some 0 := rfl
  have w00 : IntKind.i64.wrap (((0 : Nat) : Int) + ((0 : Nat) : Int)) = 0 := rfl
  have hE8 : 20 < f.length → cytE f = 8 ∧ cytL f = [] := fun h => by unfold cytE cytL; rw [if_pos h, if_pos h]; exact ⟨rfl, rfl⟩
  have hE3 : ¬ 20 < f.length → permB f = false → cytE f = 3 ∧ cytL f = [] := fun h h2 => by unfold cytE cytL; rw [if_neg h, if_neg h, h2]; exact ⟨rfl, rfl⟩
  have hE0 : ¬ 20 < f.length → permB f = true → cytE f = 0 ∧ cytL f = fallS (cycL f) := fun h h2 => by unfold cytE cytL; rw [if_neg h, if_neg h, h2]; exact ⟨rfl, rfl⟩
  have hcl : (fallS (cycL f)).length ≤ 10000 := by rw [fallS_len]; have := cycSt_out f f.length; unfold cycL; omega
  by_cases hc : chk l = 0
  · have hp := chk_part hc
    obtain ⟨v1, H1, s1, o1, old1, wf1⟩ := cenW_run hw hv hc n (by omega)
    obtain ⟨v2, H2, s2, o2, old2, wf2⟩ := csW_run wf1 (hv.mono old1) hc n (by omega)
    have old12 : Old H.length H H2 := old1.trans (old2.mono old1.1)
    obtain ⟨t, H3, s3, o3, old3, wf3⟩ := cytype_run wf2 (hu.mono old12) n (by omega)
    have old13 : Old H.length H H3 := old12.trans (old3.mono old12.1)
    have old23 : Old H1.length H1 H3 := old2.trans (old3.mono old2.1)
    have s4 := rcheck_run (hv.mono old13) hl n (by omega)
    obtain ⟨v5, H5, s5, o5, old5, wf5⟩ := rcent_run wf3 (hv.mono old13) hp n (by omega)
    have old15 : Old H.length H H5 := old13.trans (old5.mono old13.1)
    have old25 : Old H1.length H1 H5 := old23.trans (old5.mono old23.1)
    have old35 : Old H2.length H2 H5 := old3.trans (old5.mono old3.1)
    have lc : (nf (cz l l.length)).length ≤ 10000 := by have := cz_len hp (i := l.length) (Nat.le_refl _); omega
    have lk := clsZ_len hp
    have s6 := ints_run (o1.R.mono old25) o5.R lc lc n (by omega)
    rw [decide_eq_true rfl] at s6
    obtain ⟨v7, H7, s7, o7, old7, wf7⟩ := rclass_run wf5 (hv.mono old15) hp n (by omega)
    have old37 : Old H2.length H2 H7 := old35.trans (old7.mono old35.1)
    have old17 : Old H.length H H7 := old15.trans (old7.mono old15.1)
    have old47 : Old H3.length H3 H7 := old5.trans (old7.mono old5.1)
    have s8 := ints_run (o2.R.mono old37) o7.R lk lk n (by omega)
    rw [decide_eq_true rfl] at s8
    rw [hc] at s4
    have hu7 := hu.mono old17
    have lf := hu7.lenI
    have ht7 := o3.R.mono old47
    have lt := ht7.lenI
    by_cases h20 : 20 < f.length
    · obtain ⟨hE, hL⟩ := hE8 h20
      rw [hE] at s3
      rw [hL, List.length_nil] at lt
      have c20 : (20 : Int) < f.length := by omega
      simp (maxSteps := 1000000) (disch := omega) only [Tryz.f3, Option.getD_some, es_seq, es_region, es_cond, es_skip, es_ret, ops_nil, ops_cons, ops_consG, st_move, st_assign, sy_pick, pickS_true, pickS_false, st_fun, sy_len uL, sy_bin, st_not, sy_ext, ext_20, ext_21, binS_gtr, binS_eql, binS_neq, bindO_some, bindF_some, bindX_normal, condX_true, condX_false, iteB_true, ev_tmp, ev_const, ev_func, putA, upd_at, Option.map_some, ↓reduceIte, Nat.reduceEqDiff, frOf_0, frOf_1, List.map_cons, List.map_nil, decide_true, Bool.not_true, yieldO_eq, yO, yV_bool, some_true, List.getElem?_cons_zero, List.getElem?_cons_succ, beq_self_eq_true, ↓bindO_some, ↓bindF_some, ↓bindX_normal, ↓condX_true, ↓condX_false, ↓iteB_true, ca_other, ca_awake, s0, s00, s1, s2, s3, s4, s5, s6, s7, s8, lf, lt, c20]
      exact ⟨_, rfl⟩
    · have c20 : ¬ (20 : Int) < f.length := by omega
      obtain ⟨H8, s9, old8, wf8⟩ := isperm_run wf7 hu7 hfl n (by omega)
      have ht8 := ht7.mono old8
      have lt8 := ht8.lenI
      cases hpm : permB f with
      | false =>
        obtain ⟨hE, hL⟩ := hE3 h20 hpm
        rw [hE] at s3
        rw [hL, List.length_nil] at lt8
        rw [hpm] at s9
        simp (maxSteps := 1000000) (disch := omega) only [Tryz.f3, Option.getD_some, es_seq, es_region, es_cond, es_skip, es_ret, ops_nil, ops_cons, ops_consG, st_move, st_assign, sy_pick, pickS_true, pickS_false, st_fun, sy_len uL, sy_bin, st_not, sy_ext, ext_20, ext_21, binS_gtr, binS_eql, binS_neq, bindO_some, bindF_some, bindX_normal, condX_true, condX_false, iteB_true, ev_tmp, ev_const, ev_func, putA, upd_at, Option.map_some, ↓reduceIte, Nat.reduceEqDiff, frOf_0, frOf_1, List.map_cons, List.map_nil, decide_true, decide_false, Bool.not_true, Bool.not_false, yieldO_eq, yO, yV_bool, some_true, List.getElem?_cons_zero, List.getElem?_cons_succ, beq_self_eq_true, ↓bindO_some, ↓bindF_some, ↓bindX_normal, ↓condX_true, ↓condX_false, ↓iteB_true, ca_other, ca_awake, s0, s00, s1, s2, s3, s4, s5, s6, s7, s8, s9, lf, lt8, c20]
        exact ⟨_, rfl⟩
      | true =>
        obtain ⟨hE, hL⟩ := hE0 h20 hpm
        rw [hE] at s3
        rw [hpm] at s9
        obtain ⟨v9, H9, s10, o9, old9, wf9⟩ := rcycle_run wf8 (hu7.mono old8) (permB_inR hpm) hfl n (by omega)
        rw [hL] at ht8
        have s11 := ints_run (ht8.mono old9) o9.R hcl hcl n (by omega)
        rw [decide_eq_true rfl] at s11
        simp (maxSteps := 1000000) (disch := omega) only [Tryz.f3, Option.getD_some, es_seq, es_region, es_cond, es_skip, es_ret, ops_nil, ops_cons, ops_consG, st_move, st_assign, sy_pick, pickS_true, pickS_false, st_fun, sy_len uL, sy_bin, st_not, sy_ext, ext_20, ext_21, binS_gtr, binS_eql, binS_neq, bindO_some, bindF_some, bindX_normal, condX_false, iteB_true, ev_tmp, ev_const, ev_func, putA, upd_at, Option.map_some, ↓reduceIte, Nat.reduceEqDiff, frOf_0, frOf_1, List.map_cons, List.map_nil, decide_true, decide_false, Bool.not_true, yieldO_eq, yO, yV_bool, List.getElem?_cons_zero, List.getElem?_cons_succ, beq_self_eq_true, ↓bindO_some, ↓bindF_some, ↓bindX_normal, ↓condX_false, ↓iteB_true, fin_r, res_nil, res_tmp, pack_1, scal_bool, ca_other, ca_awake, s0, s00, s1, s2, s3, s4, s5, s6, s7, s8, s9, s10, s11, lf, c20]
        exact ⟨_, rfl⟩
  · have s1 := cenW_bad hv hl hc n (by omega)
    have s2 := csW_bad hv hl hc n (by omega)
    obtain ⟨t, H3, s3, o3, old3, wf3⟩ := cytype_run hw hu n (by omega)
    have s4 := rcheck_run (hv.mono old3) hl n (by omega)
    have c1 : decide (chk l = 0) = false := decide_eq_false hc
    have c2 : decide (chk l = chk l) = true := decide_eq_true rfl
    have hu3 := hu.mono old3
    have lf := hu3.lenI
    have lt := o3.R.lenI
    by_cases h20 : 20 < f.length
    · obtain ⟨hE, hL⟩ := hE8 h20
      rw [hE] at s3
      rw [hL, List.length_nil] at lt
      have c20 : (20 : Int) < f.length := by omega
      simp (maxSteps := 1000000) (disch := omega) only [Tryz.f3, Option.getD_some, es_seq, es_region, es_cond, es_skip, es_ret, ops_nil, ops_cons, ops_consG, st_move, st_assign, sy_pick, pickS_true, pickS_false, st_fun, sy_len uL, sy_bin, st_not, sy_ext, ext_20, ext_21, binS_gtr, binS_eql, binS_neq, binS_add, bindO_some, bindF_some, bindX_normal, condX_true, condX_false, iteB_true, ev_tmp, ev_const, ev_func, putA, upd_at, Option.map_some, ↓reduceIte, Nat.reduceEqDiff, frOf_0, frOf_1, List.map_cons, List.map_nil, decide_true, Bool.not_true, Bool.not_false, yieldO_eq, yO, yV_bool, some_true, List.getElem?_cons_zero, List.getElem?_cons_succ, beq_self_eq_true, ↓bindO_some, ↓bindF_some, ↓bindX_normal, ↓condX_true, ↓condX_false, ↓iteB_true, ca_other, ca_awake, s0, s00, s1, s2, s3, s4, c1, ln, w00, lf, lt, c20]
      exact ⟨_, rfl⟩
    · have c20 : ¬ (20 : Int) < f.length := by omega
      obtain ⟨H8, s9, old8, wf8⟩ := isperm_run wf3 hu3 hfl n (by omega)
      have ht8 := o3.R.mono old8
      have lt8 := ht8.lenI
      cases hpm : permB f with
      | false =>
        obtain ⟨hE, hL⟩ := hE3 h20 hpm
        rw [hE] at s3
        rw [hL, List.length_nil] at lt8
        rw [hpm] at s9
        simp (maxSteps := 1000000) (disch := omega) only [Tryz.f3, Option.getD_some, es_seq, es_region, es_cond, es_skip, es_ret, ops_nil, ops_cons, ops_consG, st_move, st_assign, sy_pick, pickS_true, pickS_false, st_fun, sy_len uL, sy_bin, st_not, sy_ext, ext_20, ext_21, binS_gtr, binS_eql, binS_neq, binS_add, bindO_some, bindF_some, bindX_normal, condX_true, condX_false, iteB_true, ev_tmp, ev_const, ev_func, putA, upd_at, Option.map_some, ↓reduceIte, Nat.reduceEqDiff, frOf_0, frOf_1, List.map_cons, List.map_nil, decide_true, decide_false, Bool.not_true, Bool.not_false, yieldO_eq, yO, yV_bool, some_true, List.getElem?_cons_zero, List.getElem?_cons_succ, beq_self_eq_true, ↓bindO_some, ↓bindF_some, ↓bindX_normal, ↓condX_true, ↓condX_false, ↓iteB_true, ca_other, ca_awake, s0, s00, s1, s2, s3, s4, s9, c1, ln, w00, lf, lt8, c20]
        exact ⟨_, rfl⟩
      | true =>
        obtain ⟨hE, hL⟩ := hE0 h20 hpm
        rw [hE] at s3
        rw [hpm] at s9
        obtain ⟨v9, H9, s10, o9, old9, wf9⟩ := rcycle_run wf8 (hu3.mono old8) (permB_inR hpm) hfl n (by omega)
        rw [hL] at ht8
        have s11 := ints_run (ht8.mono old9) o9.R hcl hcl n (by omega)
        rw [decide_eq_true rfl] at s11
        simp (maxSteps := 1000000) (disch := omega) only [Tryz.f3, Option.getD_some, es_seq, es_region, es_cond, es_skip, es_ret, ops_nil, ops_cons, ops_consG, st_move, st_assign, sy_pick, pickS_true, pickS_false, st_fun, sy_len uL, sy_bin, st_not, sy_ext, ext_20, ext_21, binS_gtr, binS_eql, binS_neq, binS_add, bindO_some, bindF_some, bindX_normal, condX_true, condX_false, iteB_true, ev_tmp, ev_const, ev_func, putA, upd_at, Option.map_some, ↓reduceIte, Nat.reduceEqDiff, frOf_0, frOf_1, List.map_cons, List.map_nil, decide_true, decide_false, Bool.not_true, Bool.not_false, yieldO_eq, yO, yV_bool, List.getElem?_cons_zero, List.getElem?_cons_succ, beq_self_eq_true, ↓bindO_some, ↓bindF_some, ↓bindX_normal, ↓condX_true, ↓condX_false, ↓iteB_true, fin_r, res_nil, res_tmp, pack_1, scal_bool, ca_other, ca_awake, s0, s00, s1, s2, s3, s4, s9, s10, s11, c1, ln, w00, lf, c20]
        exact ⟨_, rfl⟩
open Go.RowKit in
theorem CountCycles_walk (a0 : Option Addr) (len0 cap0 : Nat) (z0 : List Int) (a1 : Option Addr) (len1 cap1 : Nat) (z1 : List Int) (w : World) (w0 : Row .i64 w a0 len0 cap0 z0) (w1 : Row .i64 w a1 len1 cap1 z1) :
    Calls Tryz.prog 3 #[.slice a0 len0 cap0, .slice a1 len1 cap1] w fun e w' => e = .returned (.bool true) ∧ Below w.heap.size w w' := by
  obtain ⟨x, y, l, c, v, u, h1, h2, h3, h4, h5, h6⟩ := row_two w0 w1
  obtain ⟨H', h⟩ := cycLaw_run h6 h4 h5
  rw [← h3] at h
  exact law_args hmix (callA_ok _) (callA_grow _) h (.cons h1 (.cons h2 .nil))
end Go.Proofs.YtmmgdgmjkhcfaaaGreat
