/- Integers of the program: the long division as a whole. -/
import Derived.Test.YtmmgdgmjkhcfaaaSyT
set_option linter.all false
namespace Go.Proofs.Ytmmgdgmjkhcfaaa
open Go Go.Abs Go.Num
set_option maxRecDepth 10000
attribute [local congr] bindO_congr bindF_congr bindX_congr condX_congr iteB_congr binS_congr pickS_congr eqB_congr nilS_congr clsW_congr maxS_congr minS_congr
theorem split3 {L : List Int} {j n : Nat} (h : j + n < L.length) : L = L.take j ++ ((L.drop j).take n ++ (L.getD (j + n) 0 :: L.drop (j + n + 1))) := by
  have e1 : L.getD (j + n) 0 :: L.drop (j + n + 1) = (L.drop j).drop n := by
    rw [List.drop_drop, drop_getD (l := L) (i := j + n) h]
  rw [e1, List.take_append_drop, List.take_append_drop]
theorem val_drop_lt {L : List Int} (hd : Dg L) {j n : Nat} {V : Int} (hj : j + n < L.length) (hV : V < B ^ n) (h : val (L.drop (j + 1)) < V) :
    val (L.drop (j + n + 1)) = 0 ∧ val (L.drop j) = val ((L.drop j).take n) + B ^ n * L.getD (j + n) 0 := by
  have e1 := val_split (L.drop (j + 1)) n (by rw [List.length_drop]; omega)
  rw [List.drop_drop, show j + 1 + n = j + n + 1 from by omega] at e1
  have a1 := ((hd.drop (j + 1)).take n).val.1
  have a2 := (hd.drop (j + n + 1)).val.1
  have hz : val (L.drop (j + n + 1)) = 0 := by
    apply Decidable.byContradiction
    intro hne
    have : B ^ n * 1 ≤ B ^ n * val (L.drop (j + n + 1)) := Int.mul_le_mul_of_nonneg_left (by omega) (Int.le_of_lt (pow_pos n))
    omega
  refine ⟨hz, ?_⟩
  have e2 := val_split (L.drop j) n (by rw [List.length_drop]; omega)
  rw [List.drop_drop] at e2
  rw [e2, drop_getD (l := L) (i := j + n) hj]
  simp only [val, hz, Int.mul_zero, Int.add_zero]
/-- The guess is not too small. -/
theorem guess_ok {w : List Int} {n : Nat} {e V : Int} (hw : Dg w) (hl : w.length = n + 1) (he : 0 ≤ e) (hV : 0 < V) (hn : (nf V).length = n + 1) (ht : val w + B ^ (n + 1) * e < 100000000 * V) :
    let t := e * 100000000 + w.getD n 0
    let g := if (99999999 : Int) < t / (nf V).getD n 0 then 99999999 else t / (nf V).getD n 0
    val w + B ^ (n + 1) * e < (g + 1) * V ∧ 0 ≤ g ∧ g < 100000000 := by
  intro t g
  have ht0 : 0 ≤ t := by have := hw.getD n; simp only [t]; omega
  have hv : 0 < (nf V).getD n 0 := by
    have h1 := nf_last (z := V) (by omega)
    rw [hn, Nat.add_sub_cancel] at h1
    have h2 := (nf_dg (by omega : 0 ≤ V)).getD n
    have h3 : (nf V).getD n 0 ≠ 0 := by
      have := digsN_last (V.toNat + 1) V.toNat (by omega) (by omega)
      rw [← nf_pos (by omega : 0 ≤ V), hn, Nat.add_sub_cancel] at this
      omega
    omega
  have hq0 := Int.ediv_nonneg ht0 (Int.le_of_lt hv)
  have hg : 0 ≤ g ∧ g < 100000000 := by simp only [g]; split <;> omega
  refine ⟨?_, hg⟩
  by_cases hc : (99999999 : Int) < t / (nf V).getD n 0
  · have : g = 99999999 := if_pos hc
    rw [this]; exact ht
  · have hge : g = t / (nf V).getD n 0 := if_neg hc
    have e1 := val_take_succ w n
    rw [← hl, List.take_length] at e1
    have a1 := (hw.take n).val
    have hl2 : (w.take n).length = n := by rw [List.length_take]; omega
    rw [hl2] at a1
    have e2 := val_take_succ (nf V) n
    rw [← hn, List.take_length, nf_val] at e2
    have a2 := ((nf_dg (by omega : 0 ≤ V)).take n).val.1
    -- t < (g + 1) * top
    have h1 : t < (g + 1) * (nf V).getD n 0 := by
      rw [hge]
      have := Int.lt_ediv_add_one_mul_self t hv
      exact this
    have h2 : B ^ n * (t + 1) ≤ B ^ n * ((g + 1) * (nf V).getD n 0) := Int.mul_le_mul_of_nonneg_left (by omega) (Int.le_of_lt (pow_pos n))
    have h3 : (g + 1) * (B ^ n * (nf V).getD n 0) ≤ (g + 1) * V := Int.mul_le_mul_of_nonneg_left (by omega) (by omega)
    rw [Int.mul_left_comm] at h3
    have h4 : B ^ n * (t + 1) = B ^ n * w.getD n 0 + B ^ (n + 1) * e + B ^ n := by
      simp only [t]
      rw [pow_succ', Int.mul_add, Int.mul_add, Int.mul_one, Int.mul_comm 100000000 (B ^ n), Int.mul_assoc (B ^ n), Int.mul_comm 100000000 e]
      omega
    omega
theorem lg_outer {B0 C0 D0 : Nat} {H0 H : Heap} {vu vv vo : Value} {f V X : Int} {L0 : List Int} {U : Nat} (hC : C0 ≤ D0) (hB : B0 ≤ C0) (hD : D0 ≤ H.length) (V0 : 0 < V) (old0 : Old B0 H0 H) (hw : WF H) (hv : RM C0 D0 H vv (ints (nf V))) (ho : OM B0 C0 H vu (ints L0)) (hl : L0.length = U) (hd : Dg L0) (hq : O D0 H vo (ints (List.replicate (U - (nf V).length) 0))) (hn1 : 1 ≤ (nf V).length) (hnU : (nf V).length ≤ U) (hU : U ≤ 900) (ln : (nf V).length ≤ 400)
    (hX : val L0 = X) (hT : val (L0.drop (U - (nf V).length)) < V) (n m nt : Nat) (hn : 10 ≤ n) (hm : 100000000 ≤ m) {a : Fr} {k : Nat} (hk : 1000 ≤ k) (hs : LS a f vu vv vo (nf V).length (((U - (nf V).length : Nat) : Int) - 1)) :
    ∃ r a' H', loopN (evS Try.prog (evB Try.prog noC n) m nt none lgO) k a H = some (r, a', H') ∧ r = .exit 0 ∧ a' 6 = vi f ∧ a' 7 = vu ∧ a' 10 = vo ∧ Old B0 H0 H' ∧ WF H' ∧ ∃ L lo, OM B0 C0 H' vu (ints L) ∧ L.length = U ∧ Dg L ∧ val L = X % V ∧ O D0 H' vo (ints lo) ∧ lo.length ≤ 900 ∧ Dg lo ∧ val lo = X / V := by
  refine loop_wf (fun J a G => J ≤ U - (nf V).length ∧ LS a f vu vv vo (nf V).length ((J : Int) - 1) ∧ Old B0 H0 G ∧ D0 ≤ G.length ∧ WF G ∧ RM C0 D0 G vv (ints (nf V)) ∧ ∃ L lo, OM B0 C0 G vu (ints L) ∧ L.length = U ∧ Dg L ∧ O D0 G vo (ints lo) ∧ lo.length = U - (nf V).length ∧ Dg lo ∧ val L + V * val lo = X ∧ val (L.drop J) < V ∧ ∀ i, i < J → lo.getD i 0 = 0) _ ?_ k (U - (nf V).length) a H (by omega)
    ⟨Nat.le_refl _, hs, old0, hD, hw, hv, L0, _, ho, hl, hd, hq, by simp, fun x hx => by have := List.eq_of_mem_replicate hx; subst this; unfold B; omega, by rw [val_zeros]; omega, hT, fun i hi => by rw [List.getD_eq_getElem?_getD, List.getElem?_replicate]; split <;> rfl⟩
  intro J a G ⟨hJ, hs, old, hD, hw, hv, L, lo, ho, hl, hd, hq, hlo, hdl, hval, hT, hz⟩
  rw [show lgO = atC [1, 1, 1, 1, 1, 1, 0, 1, 0, 0] ((Try.f155.body).getD .skip) from rfl]
  by_cases hJ0 : J = 0
  · subst hJ0
    right
    have c1 : decide ((0 : Int) ≤ ((0 : Nat) : Int) - 1) = false := rfl
    simp (disch := omega) only [Try.f155, Option.getD_some, atC, es_seq, es_region, es_cond, es_exit, ops_nil, ops_cons, st_move, sy_bin, binS_geq, bindO_some, bindF_some, bindX_normal, bindX_exit, condX_false, ev_tmp, ev_const, putA, upd_at, ↓reduceIte, ↓bindO_some, ↓bindF_some, ↓bindX_normal, ↓bindX_exit, ↓condX_false, hs.s11, c1]
    rw [List.drop_zero] at hT
    have h0 := hd.val.1
    have e1 : X / V = val lo := by rw [← hval, Int.add_mul_ediv_left _ _ (by omega), Int.ediv_eq_zero_of_lt h0 hT]; omega
    have e2 : X % V = val L := by rw [← hval, Int.add_mul_emod_self_left, Int.emod_eq_of_lt h0 hT]
    exact ⟨_, _, _, rfl, by simp, rfl, by simp only [upd_at, ↓reduceIte, Nat.reduceEqDiff, hs.s6], by simp only [upd_at, ↓reduceIte, Nat.reduceEqDiff, hs.s7], by simp only [upd_at, ↓reduceIte, Nat.reduceEqDiff, hs.s10], old, hw, L, lo, ho, hl, hd, e2.symm, hq, by omega, hdl, e1.symm⟩
  · obtain ⟨j, rfl⟩ : ∃ j, J = j + 1 := ⟨J - 1, by omega⟩
    left
    rw [show ((j + 1 : Nat) : Int) - 1 = (j : Int) from by omega] at hs
    obtain ⟨p, hp⟩ : ∃ p, (nf V).length = p + 1 := ⟨(nf V).length - 1, by omega⟩
    have hjn : j + (nf V).length < L.length := by omega
    obtain ⟨hZ, hTT⟩ := val_drop_lt hd hjn (nf_size V).2 hT
    have hsp := split3 hjn
    have hA : (L.take j).length = j := by rw [List.length_take]; omega
    have hwl : ((L.drop j).take (nf V).length).length = (nf V).length := by rw [List.length_take, List.length_drop]; omega
    have hde := hd.getD (j + (nf V).length)
    have hdw := (hd.drop j).take (nf V).length
    have hdj := hd.getD j
    have hT100 : val (L.drop j) < 100000000 * V := by
      rw [drop_getD (by omega : j < L.length)]
      simp only [val]
      unfold B at *
      omega
    rw [hTT] at hT100
    rw [hsp] at ho
    have hvL : val L = val (L.take j) + B ^ j * (val ((L.drop j).take (nf V).length) + B ^ (nf V).length * L.getD (j + (nf V).length) 0) := by
      rw [← hTT]; exact val_split L j (by omega)
    generalize hAe : L.take j = A at *
    generalize hwe : (L.drop j).take (nf V).length = w at *
    generalize hee : L.getD (j + (nf V).length) 0 = e at *
    generalize hZe : L.drop (j + (nf V).length + 1) = Z at *
    have hdA : Dg A := by rw [← hAe]; exact hd.take j
    have hdZ : Dg Z := by rw [← hZe]; exact hd.drop _
    have hlZ : j + (nf V).length + 1 + Z.length = U := by rw [← hZe, List.length_drop]; omega
    have hgs := guess_ok (n := p) hdw (by omega) hde.1 V0 hp (by rw [← hp]; exact hT100)
    simp only at hgs
    generalize hg : (if (99999999 : Int) < (e * 100000000 + w.getD p 0) / (nf V).getD p 0 then (99999999 : Int) else (e * 100000000 + w.getD p 0) / (nf V).getD p 0) = g at *
    obtain ⟨hg1, hg2⟩ := hgs
    rw [← hp] at hg1
    have hro := ho.O.R
    have hlen : (A ++ (w ++ (e :: Z))).length = A.length + (w.length + (Z.length + 1)) := by rw [List.length_append, List.length_append, List.length_cons]
    have hrv := hv.R
    have c1 : (0 : Int) ≤ (j : Int) := by omega
    have e0 : IntKind.i64.wrap ((j : Int) + ((nf V).length : Int)) = ((A.length + w.length : Nat) : Int) := by rw [wr64 (by omega) (by omega)]; omega
    have a1 : addrS 1 vu (vi ((A.length + w.length : Nat) : Int)) = some (pt vu (A.length + w.length)) := by have := hro.addrI (i := ((A.length + w.length : Nat) : Int)) (by omega) (by omega); rwa [Int.toNat_natCast] at this
    have l1 : loadS (pt vu (A.length + w.length)) G = some (vi e) := by rw [hro.loadI (by omega), top_get]
    have e1 : IntKind.i64.wrap (((A.length + w.length : Nat) : Int) - 1) = ((p + A.length : Nat) : Int) := by rw [wr64 (by omega) (by omega)]; omega
    have a2 : addrS 1 vu (vi ((p + A.length : Nat) : Int)) = some (pt vu (p + A.length)) := by have := hro.addrI (i := ((p + A.length : Nat) : Int)) (by omega) (by omega); rwa [Int.toNat_natCast] at this
    have l2 : loadS (pt vu (p + A.length)) G = some (vi (w.getD p 0)) := by rw [hro.loadI (by omega), mid_get (by omega)]
    have hwp := hdw.getD p
    have e2 : IntKind.i64.wrap (e * 100000000) = e * 100000000 := wr64 (by omega) (by omega)
    have e3 : IntKind.i64.wrap (e * 100000000 + w.getD p 0) = e * 100000000 + w.getD p 0 := wr64 (by omega) (by omega)
    have e4 : IntKind.i64.wrap (((nf V).length : Int) - 1) = (p : Int) := by rw [wr64 (by omega) (by omega)]; omega
    have a3 : addrS 1 vv (vi (p : Int)) = some (pt vv p) := by have := hrv.addrI (i := (p : Int)) (by omega) (by omega); rwa [Int.toNat_natCast] at this
    have l3 : loadS (pt vv p) G = some (vi ((nf V).getD p 0)) := hrv.loadI (by omega)
    have htop : (nf V).getD p 0 ≠ 0 := by
      have := digsN_last (V.toNat + 1) V.toNat (by omega) (by omega)
      rw [← nf_pos (by omega : 0 ≤ V), hp, Nat.add_sub_cancel] at this
      omega
    have htop2 := (nf_dg (by omega : 0 ≤ V)).getD p
    have e5 : (e * 100000000 + w.getD p 0).tdiv ((nf V).getD p 0) = (e * 100000000 + w.getD p 0) / (nf V).getD p 0 := tdiv_pos (by omega) _
    have hq0 := Int.ediv_nonneg (by omega : 0 ≤ e * 100000000 + w.getD p 0) (by omega : 0 ≤ (nf V).getD p 0)
    have hq1 := Int.ediv_le_self ((nf V).getD p 0) (by omega : 0 ≤ e * 100000000 + w.getD p 0)
    have e6 : IntKind.i64.wrap ((e * 100000000 + w.getD p 0) / (nf V).getD p 0) = (e * 100000000 + w.getD p 0) / (nf V).getD p 0 := wr64 (by omega) (by omega)
    have k1 := fun (F : Fr) => lg_sub (B0 := B0) (C0 := C0) (H := G) (f := f) (vu := vu) (vo := vo) (V := V) (g := g) (A := A) (w := w) (Y := e :: Z) (fun G' h1 h2 => (hv.kept h2).R) (by omega) hg2 ho hdw hwl (by omega) ln hw n m nt hn (a := F) (k := m) (by omega)
    rw [show lgS = atC [1, 1, 1, 1, 1, 1, 0, 1, 0, 0, 1, 0, 0, 1, 1, 0, 1, 0, 0] ((Try.f155.body).getD .skip) from rfl] at k1
    simp only [Try.f155, Option.getD_some, atC] at k1
    have hs6 := hs.s6
    simp (disch := omega) only [Try.f155, Option.getD_some, atC, es_seq, es_region, es_draw, d0, es_cond, es_block, es_loop, es_skip, ops_nil, ops_cons, opsV_nil, opsV_cons, st_move, st_assign, sy_min, minS_vi, sy_addr eL, sy_load aI, sy_store zI, sy_bin, binS_geq, binS_add, binS_sub, binS_mul, binS_quo, bindO_some, bindF_some, bindX_normal, condX_true, iteB_true, iteB_false, ev_tmp, ev_const, putA, upd_at, Option.map_some, ↓reduceIte, Nat.reduceEqDiff, decide_true, ↓bindO_some, ↓bindF_some, ↓bindX_normal, ↓condX_true, ↓iteB_true, ↓iteB_false, reflV_load, reflV_move, reflV_assign, reflV_bin, reflV_addr, reflV_call, vEq_vi, hs.s7, hs.s8, hs.s9, hs.s11, c1, e0, a1, l1, e1, a2, l2, e2, e3, e4, a3, l3, e5, e6, hg]
    generalize hF : upd _ 82 _ = F
    rw [show (j : Int) = (A.length : Int) from by omega] at hs
    obtain ⟨r, a', G1, ev1, hr, hs', g12, old1, kp1, wf1, w1, c, g13, ho1, hl1, hd1, c0, c2, hv1⟩ := k1 F (by
      subst hF
      repeat refine LS.upd ?_ (by decide) _
      exact hs) (by subst hF; rfl) (by subst hF; rfl) (by subst hF; rfl) (by subst hF; rfl)
    subst hr
    rw [ev1]
    clear ev1 k1
    have hro1 := ho1.O.R
    have hlen1 : (A ++ (w1 ++ (e :: Z))).length = A.length + (w1.length + (Z.length + 1)) := by rw [List.length_append, List.length_append, List.length_cons]
    have f0 : IntKind.i64.wrap ((A.length : Int) + ((nf V).length : Int)) = ((A.length + w1.length : Nat) : Int) := by rw [wr64 (by omega) (by omega)]; omega
    have b1 : addrS 1 vu (vi ((A.length + w1.length : Nat) : Int)) = some (pt vu (A.length + w1.length)) := by have := hro1.addrI (i := ((A.length + w1.length : Nat) : Int)) (by omega) (by omega); rwa [Int.toNat_natCast] at this
    have m1 : loadS (pt vu (A.length + w1.length)) G1 = some (vi e) := by rw [hro1.loadI (by omega), top_get]
    have f1 : IntKind.i64.wrap (e + c) = e + c := wr64 (by omega) (by omega)
    obtain ⟨G2, s2, ho2, old2, wf2, kp2⟩ := ho1.setKI wf1 (i := A.length + w1.length) (by omega) (e + c)
    rw [top_set] at ho2
    have hv2 := (hv.kept kp1).kept kp2
    have k2 := fun (F : Fr) => lg_while (B0 := B0) (C0 := C0) (H := G2) (f := f) (vu := vu) (vo := vo) (V := V) (g := g) (T := val w + B ^ (nf V).length * e) (e := e + c) (A := A) (w := w1) (Z := Z) (fun G' h1 h2 => (hv2.kept h2).R) V0 (by have := hdw.val.1; have := Int.mul_nonneg (Int.le_of_lt (pow_pos (nf V).length)) hde.1; omega) hg2 ho2 hd1 (by omega) (by omega) (by rw [Int.mul_add]; omega) hg1 (by omega) ln wf2 n m nt hn (by omega) (a := F) (k := m) (by omega)
    rw [show lgW = atC [1, 1, 1, 1, 1, 1, 0, 1, 0, 0, 1, 0, 0, 1, 1, 1, 1, 0, 0, 0] ((Try.f155.body).getD .skip) from rfl] at k2
    simp only [Try.f155, Option.getD_some, atC] at k2
    simp (disch := omega) only [binS_add, bindO_some, bindF_some, bindX_normal, blkX_exit, Option.map_some, ↓reduceIte, ↓bindO_some, ↓bindF_some, ↓bindX_normal, hs'.s7, hs'.s9, hs'.s11, g13, f0, b1, m1, f1, s2]
    generalize hF2 : upd _ 120 _ = F2
    obtain ⟨r, a2', G3, ev2, hr, hs2, i12, old3, kp3, wf3, w2, ho3, hl3, hd3, hv3⟩ := k2 F2 (by
      subst hF2
      repeat refine LS.upd ?_ (by decide) _
      exact hs') (by subst hF2; exact g12)
    subst hr
    rw [ev2]
    clear ev2 k2
    have kp13 : Kept C0 G G3 := Kept.trans (Kept.trans kp1 kp2) kp3
    have old13 : Old B0 G G3 := (old1.trans old2).trans old3
    have hq3 := hq.kept (Kept.mono kp13 hC)
    have hv4 := hv2.kept kp3
    generalize hq4 : (val w + B ^ (nf V).length * e) / V = q at *
    have hqq0 : 0 ≤ q := by rw [← hq4]; exact Int.ediv_nonneg (by have := hdw.val.1; have := Int.mul_nonneg (Int.le_of_lt (pow_pos (nf V).length)) hde.1; omega) (by omega)
    have hqq1 : q < 100000000 := by rw [← hq4]; exact Int.ediv_lt_of_lt_mul V0 hT100
    have hro3 := hq3.R
    have a5 : addrS 1 vo (vi (A.length : Int)) = some (pt vo A.length) := by have := hro3.addrI (i := (A.length : Int)) (by omega) (by omega); rwa [Int.toNat_natCast] at this
    obtain ⟨G4, s4, hq4', old4, wf4⟩ := hq3.setI wf3 (i := A.length) (by omega) q
    have f3 : IntKind.i64.wrap ((A.length : Int) - 1) = (A.length : Int) - 1 := wr64 (by omega) (by omega)
    simp (disch := omega) only [binS_sub, bindO_some, bindF_some, bindX_normal, blkX_normal, blkX_exit, upd_at, Option.map_some, ↓reduceIte, Nat.reduceEqDiff, ↓bindO_some, ↓bindF_some, ↓bindX_normal, hs2.s10, hs2.s11, i12, a5, s4, f3]
    have hem := Int.mul_ediv_add_emod (val w + B ^ (nf V).length * e) V
    rw [hq4] at hem
    refine ⟨_, _, rfl, j, by omega, by omega, ⟨?_, ?_, ?_, ?_, ?_, ?_⟩, (old.trans old13).trans (old4.mono (by omega)), Nat.le_trans hD (Nat.le_trans old13.1 old4.1), wf4, hv4.mono old4, A ++ (w2 ++ (0 :: Z)), lo.set A.length q, ho3.mono (old4.mono hC), ?_, ?_, hq4', by rw [List.length_set]; exact hlo, hdl.set _ hqq0 hqq1, ?_, ?_, ?_⟩
    · simp only [upd_at, ↓reduceIte, Nat.reduceEqDiff, hs2.s6]
    · simp only [upd_at, ↓reduceIte, Nat.reduceEqDiff, hs2.s7]
    · simp only [upd_at, ↓reduceIte, Nat.reduceEqDiff, hs2.s8]
    · simp only [upd_at, ↓reduceIte, Nat.reduceEqDiff, hs2.s9]
    · simp only [upd_at, ↓reduceIte, Nat.reduceEqDiff, hs2.s10]
    · simp only [upd_at, ↓reduceIte]; rw [hA]
    · rw [List.length_append, List.length_append, List.length_cons]; omega
    · refine hdA.app (hd3.app ?_)
      intro x hx
      rcases List.mem_cons.1 hx with rfl | hx
      · unfold B; omega
      · exact hdZ x hx
    · rw [val_set (by omega), hz A.length (by omega), val_app, val_app]
      simp only [val, hZ, Int.mul_zero, Int.add_zero, Int.sub_zero]
      rw [hv3, hA]
      rw [hvL] at hval
      rw [← hval, Int.mul_add, ← hem, Int.mul_add, Int.mul_left_comm (B ^ j) V q]
      rw [hem]
      omega
    · rw [← hA, List.drop_append_of_le_length (Nat.le_refl _), List.drop_length, List.nil_append, val_app]
      simp only [val, hZ, Int.mul_zero, Int.add_zero]
      rw [hv3]
      exact Int.emod_lt_of_pos _ V0
    · intro i hi
      rw [List.getD_eq_getElem?_getD, List.getElem?_set, if_neg (by omega), ← List.getD_eq_getElem?_getD]
      exact hz i (by omega)
theorem oW1 : oneField Try.prog 85 1 1 = true := by kernel_rfl
theorem z2I : zeros Try.prog 3 1 2 = some [vi 0, vi 0] := by kernel_rfl
theorem nf_last_pos {y : Int} (hy : 0 < y) : 1 ≤ (nf y).length ∧ 0 < (nf y).getD ((nf y).length - 1) 0 ∧ (nf y).getD ((nf y).length - 1) 0 < 100000000 := by
  have h := digsN_last (y.toNat + 1) y.toNat (by omega) (by omega)
  rw [← nf_pos (by omega : 0 ≤ y)] at h
  exact ⟨by omega, h.2, ((nf_dg (by omega : 0 ≤ y)).getD _).2⟩
theorem top_lt {y : Int} (hy : 0 < y) : y < B ^ ((nf y).length - 1) * ((nf y).getD ((nf y).length - 1) 0 + 1) := by
  have h := nf_last_pos hy
  have e := val_take_succ (nf y) ((nf y).length - 1)
  rw [show (nf y).length - 1 + 1 = (nf y).length from by omega, List.take_length, nf_val] at e
  have a := ((nf_dg (by omega : 0 ≤ y)).take ((nf y).length - 1)).val.2
  rw [List.length_take, Nat.min_eq_left (by omega)] at a
  rw [Int.mul_add, Int.mul_one]
  omega
theorem nf_app00 {x : Int} {n : Nat} (x0 : 0 ≤ x) (h2 : 2 ≤ n) (hn : n ≤ (nf x).length + 2) : val ((nf x ++ [0, 0]).drop ((nf x).length + 2 - n)) < B ^ (n - 1) := by
  have hl : (nf x ++ [0, 0]).length = (nf x).length + 2 := by simp
  have hd : Dg (nf x ++ [0, 0]) := (nf_dg x0).app fun z hz => by simp at hz; subst hz; unfold B; omega
  have hs := val_split (nf x ++ [0, 0]) ((nf x).length + 2 - n) (by omega)
  have hv : val (nf x ++ [0, 0]) = x := by rw [val_app, nf_val]; simp [val]
  rw [hv] at hs
  have a := (hd.take ((nf x).length + 2 - n)).val.1
  have b := (nf_size x).2
  apply Decidable.byContradiction
  intro h
  have h3 : B ^ ((nf x).length + 2 - n) * B ^ (n - 1) ≤ B ^ ((nf x).length + 2 - n) * val ((nf x ++ [0, 0]).drop ((nf x).length + 2 - n)) := Int.mul_le_mul_of_nonneg_left (by omega) (Int.le_of_lt (pow_pos _))
  rw [← Int.pow_add, show (nf x).length + 2 - n + (n - 1) = (nf x).length + 1 from by omega] at h3
  have := pow_le (show (nf x).length ≤ (nf x).length + 1 from by omega)
  omega
theorem long_all : LongAll 100010000 := by
  intro x y x0 y0 hxy lx hy2 G va vb hw hx hy n hn
  have ly : (nf y).length ≤ 390 := Nat.le_trans (nf_len_mono (by omega) hxy) lx
  refine run_of (F := 100009999) (Q := fun r => ∃ v1 v2 G', r = some (.tuple #[v1, v2], G') ∧ RO G.length G' v1 (ints (nf (x / y))) ∧ RO G.length G' v2 (ints (nf (x % y))) ∧ Old G.length G G' ∧ WF G') (fun n hn => ?_) n hn
  rw [body_runS Try.func155 rfl (ok_fn (by rfl) Try.func155 rfl) (Nat.le_of_ble_eq_true rfl) (D := D0) (by kernel_rfl)]
  obtain ⟨t1, t2, t3⟩ := nf_last_pos y0
  have htl := top_lt y0
  generalize htop : (nf y).getD ((nf y).length - 1) 0 = top at *
  have e1 : IntKind.i64.wrap (((nf y).length : Int) - 1) = (((nf y).length - 1 : Nat) : Int) := by rw [wr64 (by omega) (by omega)]; omega
  have a1 : addrS 1 vb (vi (((nf y).length - 1 : Nat) : Int)) = some (pt vb ((nf y).length - 1)) := by have := hy.addrI (i := (((nf y).length - 1 : Nat) : Int)) (by omega) (by omega); rwa [Int.toNat_natCast] at this
  have l1 : loadS (pt vb ((nf y).length - 1)) G = some (vi top) := by rw [hy.loadI (by omega), htop]
  have e2 : IntKind.i64.wrap (top + 1) = top + 1 := wr64 (by omega) (by omega)
  have e3 : (100000000 : Int).tdiv (top + 1) = 100000000 / (top + 1) := tdiv_pos (by omega) _
  have hne : top + 1 ≠ 0 := by omega
  obtain ⟨f, hf⟩ : ∃ f : Int, f = 100000000 / (top + 1) := ⟨_, rfl⟩
  have hf1 : 1 ≤ f := by rw [hf]; exact (Int.le_ediv_iff_mul_le (by omega)).2 (by omega)
  have hf2 : f * (top + 1) ≤ 100000000 := by rw [hf]; exact Int.ediv_mul_le _ (by omega)
  have hf3 : f ≤ 50000000 := by
    have : f * 2 ≤ f * (top + 1) := Int.mul_le_mul_of_nonneg_left (by omega) (by omega)
    omega
  have e4 : IntKind.i64.wrap (100000000 / (top + 1)) = f := by rw [← hf]; exact wr64 (by omega) (by omega)
  have hlf : (nf f).length ≤ 1 := one_len (by omega) (by omega)
  -- the two products
  obtain ⟨w1, H1, s1, wh1, old1, wf1⟩ := small_run (z := f) hw (by omega) (by omega) n (by omega)
  obtain ⟨w2, H2, s2, ⟨d, rfl, hd⟩, old2, wf2⟩ := timesO_run wf1 (wh_of x0 (hx.mono old1)) (wh1.below (Nat.zero_le _)) (by rw [abs_len]; omega) (by rw [abs_len]; omega) n (by omega)
  have hX0 : 0 ≤ x * f := Int.mul_nonneg x0 (by omega)
  have hV0 : 0 < y * f := Int.mul_pos y0 (by omega)
  rw [natAbs_pos hX0] at hd
  have lX := nf_len_mul x f
  have lV := nf_len_mul y f
  have old3 := Old.app H2 [.cells H2.length true [vi 0, vi 0]]
  have wf3 := wf2.app (Nat.le_refl H2.length) (o := true) (cs := [vi 0, vi 0])
  have r3 : R (H2 ++ [.cells H2.length true [vi 0, vi 0]]) (sliceA H2.length 0 2 1) (ints [0, 0]) := .inr (.inr ⟨H2.length, 0, H2.length, true, _, rfl, by simp; rfl, by simp [ints], by simp [ints]⟩)
  have sb : ∀ (a : Fr) (dd : Option Nat) (ty : TypeId) (pos : String) (aft : Array Edge) (g : Option (Nat × Bool)), stepA Try.prog (evB Try.prog noC n) a ⟨dd, .buildSlice 22 2 #[(0, .const (vi 0)), (1, .const (vi 0))], ty, pos, aft, g⟩ H2 = some (sliceA H2.length 0 2 1, H2 ++ [.cells H2.length true [vi 0, vi 0]]) := fun a dd ty pos aft g => sy_build2 (u := vi 0) (v := vi 0) eL z2I (by simp only [ev_const]) (by simp only [ev_const]) rfl rfl
  generalize hH3 : H2 ++ [Blk.cells H2.length true [vi 0, vi 0]] = H3 at *
  have g1 := old1.1
  have g2 := old2.1
  have g3 := old3.1
  obtain ⟨vu, H4, s4, o4, old4, wf4⟩ := ((hd.mono old3).below g1).app wf3 (by omega) r3 (by simp [ints]) (by rw [ints_len]; simp [ints, maxA]; omega)
  rw [← ints_app] at o4
  have g4 := old4.1
  have om4 := OM.of o4 wf4
  have old04 : Old G.length G H4 := (old1.trans ((old2.mono g1).trans (old3.mono (by omega)))).trans old4
  obtain ⟨w5, H5, s5, wh5, old5, wf5⟩ := small_run (z := f) wf4 (by omega) (by omega) n (by omega)
  have g5 := old5.1
  obtain ⟨w6, H6, s6, ⟨dv, rfl, hdv⟩, old6, wf6⟩ := times_run wf5 (wh_of (by omega : 0 ≤ y) (hy.mono (old04.trans (old5.mono (by omega))))) (wh5.below (Nat.zero_le _)) (by rw [abs_len]; omega) (by rw [abs_len]; omega) n (by omega)
  rw [natAbs_pos (by omega : 0 ≤ y * f)] at hdv
  have g6 := old6.1
  have rm6 := RO.RM (hdv.below g5)
  have hsV : decide (y * f < 0) = false := decide_eq_false (by omega)
  have hsX : decide (x * f < 0) = false := decide_eq_false (by omega)
  rw [hsV] at s6
  rw [hsX] at s2
  -- the sizes
  have hVX : y * f ≤ x * f := Int.mul_le_mul_of_nonneg_right hxy (by omega)
  have hVB : y * f < B ^ (nf y).length := by
    have h1 : y * f < B ^ ((nf y).length - 1) * (top + 1) * f := Int.mul_lt_mul_of_pos_right htl (by omega)
    have h2 : B ^ ((nf y).length - 1) * ((top + 1) * f) ≤ B ^ ((nf y).length - 1) * 100000000 := Int.mul_le_mul_of_nonneg_left (by rw [Int.mul_comm]; exact hf2) (Int.le_of_lt (pow_pos _))
    rw [Int.mul_assoc] at h1
    have h3 := pow_succ' ((nf y).length - 1)
    rw [show (nf y).length - 1 + 1 = (nf y).length from by omega, Int.mul_comm] at h3
    omega
  have lV2 : (nf (y * f)).length ≤ (nf y).length := nf_len (by have := pow_pos (nf y).length; omega) hVB
  have hyV : y ≤ y * f := by have := Int.mul_le_mul_of_nonneg_left hf1 (by omega : 0 ≤ y); rwa [Int.mul_one] at this
  have lV3 : 2 ≤ (nf (y * f)).length := Nat.le_trans hy2 (nf_len_mono (by omega) hyV)
  have lVX : (nf (y * f)).length ≤ (nf (x * f)).length := nf_len_mono (by omega) hVX
  obtain ⟨U, hU⟩ : ∃ U, U = (nf (x * f)).length + 2 := ⟨_, rfl⟩
  have hlu : (nf (x * f) ++ [0, 0]).length = U := by simp; omega
  have hlenu := o4.R.mono ((old5.trans (old6.mono g5)) : Old H4.length H4 H6)
  have e7 : IntKind.i64.wrap ((U : Int) - ((nf (y * f)).length : Int)) = ((U - (nf (y * f)).length : Nat) : Int) := by rw [wr64 (by omega) (by omega)]; omega
  have e8 : (if (0 : Int) < ((U - (nf (y * f)).length : Nat) : Int) then ((U - (nf (y * f)).length : Nat) : Int) else 0) = ((U - (nf (y * f)).length : Nat) : Int) := if_pos (by omega)
  have hz := zeros_I (U - (nf (y * f)).length)
  have c2 : (0 : Int) ≤ ((U - (nf (y * f)).length : Nat) : Int) := by omega
  have c3 : ((U - (nf (y * f)).length : Nat) : Int) ≤ 1048576 := by omega
  have hlr : (ints (List.replicate (U - (nf (y * f)).length) (0 : Int))).length = U - (nf (y * f)).length := by rw [ints_len, List.length_replicate]
  have or := O.made (B := H6.length) (H := H6) (Nat.le_refl _) (ints (List.replicate (U - (nf (y * f)).length) (0 : Int)))
  rw [hlr] at or
  have old7 := Old.app H6 [.cells H6.length true (ints (List.replicate (U - (nf (y * f)).length) (0 : Int)))]
  have wf7 := wf6.app (Nat.le_refl H6.length) (o := true) (cs := ints (List.replicate (U - (nf (y * f)).length) (0 : Int)))
  have e9 : IntKind.i64.wrap (((U - (nf (y * f)).length : Nat) : Int) - 1) = ((U - (nf (y * f)).length : Nat) : Int) - 1 := wr64 (by omega) (by omega)
  have llu := hlenu.lenI
  rw [hlu] at llu
  have llv := hdv.R.lenI
  generalize hH7 : H6 ++ [Blk.cells H6.length true (ints (List.replicate (U - (nf (y * f)).length) (0 : Int)))] = H7 at *
  have g7 := old7.1
  have llo : lenS (sliceA H6.length 0 (U - (nf (y * f)).length) 1) = some (U - (nf (y * f)).length) := rfl
  have old47 : Old H4.length H4 H7 := (old5.trans (old6.mono g5)).trans (old7.mono (by omega))
  have hvX : val (nf (x * f) ++ [0, 0]) = x * f := by rw [val_app, nf_val]; simp [val]
  have hdL : Dg (nf (x * f) ++ [0, 0]) := (nf_dg hX0).app fun z hz => by simp at hz; subst hz; unfold B; omega
  have hTl : val ((nf (x * f) ++ [0, 0]).drop (U - (nf (y * f)).length)) < y * f := by
    have h1 := nf_app00 hX0 lV3 (by omega : (nf (y * f)).length ≤ (nf (x * f)).length + 2)
    have h2 := nf_ge hV0
    rw [hU]
    omega
  have key := fun (F : Fr) => lg_outer (B0 := G.length) (C0 := H4.length) (D0 := H6.length) (H0 := G) (vu := vu) (vv := dv) (vo := sliceA H6.length 0 (U - (nf (y * f)).length) 1) (f := f) (V := y * f) (X := x * f) (U := U) (by omega) (by omega) g7 hV0 (old04.trans (old47.mono (by omega))) wf7 (rm6.mono old7) (om4.mono old47) hlu hdL or (by omega) (by omega) (by omega) (by omega) hvX hTl n n Try.f155.ntmps (by omega) (by omega) (a := F) (k := n) (by omega)
  rw [show lgO = atC [1, 1, 1, 1, 1, 1, 0, 1, 0, 0] ((Try.f155.body).getD .skip) from rfl] at key
  simp only [Try.f155, Option.getD_some, atC] at key
  simp (disch := omega) only [Try.f155, es_seq, es_region, es_block, es_loop, es_ret, ops_nil, ops_cons, st_move, st_assign, sy_max, maxS_vi, st_fun, sy_len uL, sy_addr eL, sy_load aI, sy_bin, sy_append eL pI, sy_ext, sy_make eL yI (by decide), binS_add, binS_sub, binS_quo, bindO_some, bindF_some, bindX_normal, ev_tmp, ev_const, ev_func, putA, upd_at, Option.map_some, ↓reduceIte, Nat.reduceEqDiff, Int.toNat_natCast, frOf_0, frOf_1, List.map_cons, List.map_nil, ↓bindO_some, ↓bindF_some, ↓bindX_normal, sy_build, hy.lenI, e1, a1, l1, e2, e3, e4, bW1 va hx.scal, s1, s2, sy_field oW1, get_1, sb, s4, bW1 vb hy.scal, s5, s6, llu, llv, e7, e8, c2, c3, Int.le_refl, and_self, hz, hH7, llo, e9]
  generalize hF : upd _ 11 _ = F
  obtain ⟨r, a', H8, ev, hr, i6, i7, i10, old8, wf8, L, lo, oL, lL, dL, vL, oo, llo2, dlo, vlo⟩ := key F ⟨by subst hF; rfl, by subst hF; rfl, by subst hF; rfl, by subst hF; rfl, by subst hF; rfl, by subst hF; rfl⟩
  subst hr
  rw [ev]
  clear ev key
  have eq1 : x * f / (y * f) = x / y := Int.mul_ediv_mul_of_pos_left x y (by omega)
  have eq2 : x * f % (y * f) = (x % y) * f := by rw [Int.mul_comm x f, Int.mul_comm y f, Int.mul_emod_mul_of_pos _ _ (by omega), Int.mul_comm]
  have hr0 := Int.emod_nonneg x (by omega : y ≠ 0)
  have hr1 := Int.emod_lt_of_pos x y0
  rw [eq1] at vlo
  rw [eq2] at vL
  have hR0 : 0 ≤ (x % y) * f := Int.mul_nonneg hr0 (by omega)
  have lR : (nf ((x % y) * f)).length ≤ 900 := by
    have := nf_len_mul (x % y) f
    have := nf_len_mono hr0 (by omega : x % y ≤ y)
    omega
  obtain ⟨d1, sd1, rd1⟩ := trimmed_run oL.O.RO (by omega) n (by omega)
  rw [nf_of_digs dL vL] at rd1
  obtain ⟨d2, H9, s9, rd2, old9, wf9⟩ := short_run wf8 rd1.R hR0 (by omega : 0 < f) (by omega) lR n (by omega)
  rw [Int.mul_ediv_cancel _ (by omega : f ≠ 0)] at rd2
  obtain ⟨d3, sd3, rd3⟩ := trimmed_run (oo.mono old9).RO (by omega) n (by omega)
  rw [nf_of_digs dlo vlo] at rd3
  simp (disch := omega) only [ext_20, ext_21, bindO_some, bindF_some, bindX_normal, blkX_exit, upd_at, Option.map_some, ↓reduceIte, Nat.reduceEqDiff, ↓bindO_some, ↓bindF_some, ↓bindX_normal, fin_r, res_nil, res_tmp, pack_2, i6, i7, i10, sd1, s9, sd3, rd2.R.scal, rd3.R.scal]
  have g8 := old8.1
  have g46 : G.length ≤ H6.length := by omega
  exact ⟨_, _, _, rfl, rd3.below g46, rd2.below g8, old8.trans (old9.mono g8), wf9⟩
end Go.Proofs.Ytmmgdgmjkhcfaaa
