/- Of the law: texts of its proof, joined (part 15). -/
import Derived.Test.YtmmgdgmjkhcfaaaQor14
set_option linter.all false
namespace Go.Proofs.Ytmmgdgmjkhcfaaa
open Go Go.Abs Go.Num
set_option maxRecDepth 10000
attribute [local congr] bindO_congr bindF_congr bindX_congr condX_congr iteB_congr binS_congr pickS_congr eqB_congr nilS_congr clsW_congr maxS_congr minS_congr
theorem split3 {L : List Int} {j n : Nat} (h : j + n < L.length) : L = L.take j ++ ((L.drop j).take n ++ (L.getD (j + n) 0 :: L.drop (j + n + 1))) := by
  have e1 : L.getD (j + n) 0 :: L.drop (j + n + 1) = (L.drop j).drop n := by
    rw [List.drop_drop, drop_getD (l := L) (i := j + n) h]
  rw [e1, List.take_append_drop, List.take_append_drop]
theorem val_drop_lt {L : List Int} (hd : Dg L) {j n : Nat} {V : Int} (hj : j + n < L.length) (hV : V < B ^ n) (h : val (L.drop (j + 1)) < V) :
    val (L.drop (j + n + 1)) = 0 ∧ val (L.drop j) = val ((L.drop j).take n) + B ^ n * L.getD (j + n) 0 := by
  have e1 := val_split (L.drop (j + 1)) n (by rw [List.length_drop]; omega)
  rw [List.drop_drop, show j + 1 + n = j + n + 1 from by omega] at e1
  have a1 := ((hd.drop (j + 1)).take n).val.1
  have a2 := (hd.drop (j + n + 1)).val.1
  have hz : val (L.drop (j + n + 1)) = 0 := by
    apply Decidable.byContradiction
    intro hne
    have : B ^ n * 1 ≤ B ^ n * val (L.drop (j + n + 1)) := Int.mul_le_mul_of_nonneg_left (by omega) (Int.le_of_lt (pow_pos n))
    omega
  refine ⟨hz, ?_⟩
  have e2 := val_split (L.drop j) n (by rw [List.length_drop]; omega)
  rw [List.drop_drop] at e2
  rw [e2, drop_getD (l := L) (i := j + n) hj]
  simp only [val, hz, Int.mul_zero, Int.add_zero]
theorem guess_ok {w : List Int} {n : Nat} {e V : Int} (hw : Dg w) (hl : w.length = n + 1) (he : 0 ≤ e) (hV : 0 < V) (hn : (nf V).length = n + 1) (ht : val w + B ^ (n + 1) * e < 100000000 * V) :
    let t := e * 100000000 + w.getD n 0
    let g := if (99999999 : Int) < t / (nf V).getD n 0 then 99999999 else t / (nf V).getD n 0
    val w + B ^ (n + 1) * e < (g + 1) * V ∧ 0 ≤ g ∧ g < 100000000 := by
  intro t g
  have ht0 : 0 ≤ t := by have := hw.getD n; simp only [t]; omega
  have hv : 0 < (nf V).getD n 0 := by
    have h1 := nf_last (z := V) (by omega)
    rw [hn, Nat.add_sub_cancel] at h1
    have h2 := (nf_dg (by omega : 0 ≤ V)).getD n
    have h3 : (nf V).getD n 0 ≠ 0 := by
      have := digsN_last (V.toNat + 1) V.toNat (by omega) (by omega)
      rw [← nf_pos (by omega : 0 ≤ V), hn, Nat.add_sub_cancel] at this
      omega
    omega
  have hq0 := Int.ediv_nonneg ht0 (Int.le_of_lt hv)
  have hg : 0 ≤ g ∧ g < 100000000 := by simp only [g]; split <;> omega
  refine ⟨?_, hg⟩
  by_cases hc : (99999999 : Int) < t / (nf V).getD n 0
  · have : g = 99999999 := if_pos hc
    rw [this]; exact ht
  · have hge : g = t / (nf V).getD n 0 := if_neg hc
    have e1 := val_take_succ w n
    rw [← hl, List.take_length] at e1
    have a1 := (hw.take n).val
    have hl2 : (w.take n).length = n := by rw [List.length_take]; omega
    rw [hl2] at a1
    have e2 := val_take_succ (nf V) n
    rw [← hn, List.take_length, nf_val] at e2
    have a2 := ((nf_dg (by omega : 0 ≤ V)).take n).val.1
    -- t < (g + 1) * top
    have h1 : t < (g + 1) * (nf V).getD n 0 := by
      rw [hge]
      have := Int.lt_ediv_add_one_mul_self t hv
      exact this
    have h2 : B ^ n * (t + 1) ≤ B ^ n * ((g + 1) * (nf V).getD n 0) := Int.mul_le_mul_of_nonneg_left (by omega) (Int.le_of_lt (pow_pos n))
    have h3 : (g + 1) * (B ^ n * (nf V).getD n 0) ≤ (g + 1) * V := Int.mul_le_mul_of_nonneg_left (by omega) (by omega)
    rw [Int.mul_left_comm] at h3
    have h4 : B ^ n * (t + 1) = B ^ n * w.getD n 0 + B ^ (n + 1) * e + B ^ n := by
      simp only [t]
      rw [pow_succ', Int.mul_add, Int.mul_add, Int.mul_one, Int.mul_comm 100000000 (B ^ n), Int.mul_assoc (B ^ n), Int.mul_comm 100000000 e]
      omega
    omega
theorem lg_outer {B0 C0 D0 : Nat} {H0 H : Heap} {vu vv vo : Value} {f V X : Int} {L0 : List Int} {U : Nat} (hC : C0 ≤ D0) (hB : B0 ≤ C0) (hD : D0 ≤ H.length) (V0 : 0 < V) (old0 : Old B0 H0 H) (hw : WF H) (hv : RM C0 D0 H vv (ints (nf V))) (ho : OM B0 C0 H vu (ints L0)) (hl : L0.length = U) (hd : Dg L0) (hq : O D0 H vo (ints (List.replicate (U - (nf V).length) 0))) (hn1 : 1 ≤ (nf V).length) (hnU : (nf V).length ≤ U) (hU : U ≤ 900) (ln : (nf V).length ≤ 400)
    (hX : val L0 = X) (hT : val (L0.drop (U - (nf V).length)) < V) (n m nt : Nat) (hn : 10 ≤ n) (hm : 100000000 ≤ m) {a : Fr} {k : Nat} (hk : 1000 ≤ k) (hs : LS a f vu vv vo (nf V).length (((U - (nf V).length : Nat) : Int) - 1)) :
    ∃ r a' H', loopN (evS Try.prog (evB Try.prog noC n) m nt none lgO) k a H = some (r, a', H') ∧ r = .exit 0 ∧ a' 6 = vi f ∧ a' 7 = vu ∧ a' 10 = vo ∧ Old B0 H0 H' ∧ WF H' ∧ ∃ L lo, OM B0 C0 H' vu (ints L) ∧ L.length = U ∧ Dg L ∧ val L = X % V ∧ O D0 H' vo (ints lo) ∧ lo.length ≤ 900 ∧ Dg lo ∧ val lo = X / V := by
  refine loop_wf (fun J a G => J ≤ U - (nf V).length ∧ LS a f vu vv vo (nf V).length ((J : Int) - 1) ∧ Old B0 H0 G ∧ D0 ≤ G.length ∧ WF G ∧ RM C0 D0 G vv (ints (nf V)) ∧ ∃ L lo, OM B0 C0 G vu (ints L) ∧ L.length = U ∧ Dg L ∧ O D0 G vo (ints lo) ∧ lo.length = U - (nf V).length ∧ Dg lo ∧ val L + V * val lo = X ∧ val (L.drop J) < V ∧ ∀ i, i < J → lo.getD i 0 = 0) _ ?_ k (U - (nf V).length) a H (by omega)
    ⟨Nat.le_refl _, hs, old0, hD, hw, hv, L0, _, ho, hl, hd, hq, by simp, fun x hx => by have := List.eq_of_mem_replicate hx; subst this; unfold B; omega, by rw [val_zeros]; omega, hT, fun i hi => by rw [List.getD_eq_getElem?_getD, List.getElem?_replicate]; split <;> rfl⟩
  intro J a G ⟨hJ, hs, old, hD, hw, hv, L, lo, ho, hl, hd, hq, hlo, hdl, hval, hT, hz⟩
  rw [show lgO = atC [1, 1, 1, 1, 1, 1, 0, 1, 0, 0] ((Try.f155.body).getD .skip) from rfl]
  by_cases hJ0 : J = 0
  · subst hJ0
    right
    have c1 : decide ((0 : Int) ≤ ((0 : Nat) : Int) - 1) = false := rfl
    simp (disch := omega) only [Try.f155, Option.getD_some, atC, es_seq, es_region, es_cond, es_exit, ops_nil, ops_cons, st_move, sy_bin, binS_geq, bindO_some, bindF_some, bindX_normal, bindX_exit, condX_false, ev_tmp, ev_const, putA, upd_at, ↓reduceIte, ↓bindO_some, ↓bindF_some, ↓bindX_normal, ↓bindX_exit, ↓condX_false, hs.s11, c1]
    rw [List.drop_zero] at hT
    have h0 := hd.val.1
    have e1 : X / V = val lo := by rw [← hval, Int.add_mul_ediv_left _ _ (by omega), Int.ediv_eq_zero_of_lt h0 hT]; omega
    have e2 : X % V = val L := by rw [← hval, Int.add_mul_emod_self_left, Int.emod_eq_of_lt h0 hT]
    exact ⟨_, _, _, rfl, by simp, rfl, by simp only [upd_at, ↓reduceIte, Nat.reduceEqDiff, hs.s6], by simp only [upd_at, ↓reduceIte, Nat.reduceEqDiff, hs.s7], by simp only [upd_at, ↓reduceIte, Nat.reduceEqDiff, hs.s10], old, hw, L, lo, ho, hl, hd, e2.symm, hq, by omega, hdl, e1.symm⟩
  · obtain ⟨j, rfl⟩ : ∃ j, J = j + 1 := ⟨J - 1, by omega⟩
    left
    rw [show ((j + 1 : Nat) : Int) - 1 = (j : Int) from by omega] at hs
    obtain ⟨p, hp⟩ : ∃ p, (nf V).length = p + 1 := ⟨(nf V).length - 1, by omega⟩
    have hjn : j + (nf V).length < L.length := by omega
    obtain ⟨hZ, hTT⟩ := val_drop_lt hd hjn (nf_size V).2 hT
    have hsp := split3 hjn
    have hA : (L.take j).length = j := by rw [List.length_take]; omega
    have hwl : ((L.drop j).take (nf V).length).length = (nf V).length := by rw [List.length_take, List.length_drop]; omega
    have hde := hd.getD (j + (nf V).length)
    have hdw := (hd.drop j).take (nf V).length
    have hdj := hd.getD j
    have hT100 : val (L.drop j) < 100000000 * V := by
      rw [drop_getD (by omega : j < L.length)]
      simp only [val]
      unfold B at *
      omega
    rw [hTT] at hT100
    rw [hsp] at ho
    have hvL : val L = val (L.take j) + B ^ j * (val ((L.drop j).take (nf V).length) + B ^ (nf V).length * L.getD (j + (nf V).length) 0) := by
      rw [← hTT]; exact val_split L j (by omega)
    generalize hAe : L.take j = A at *
    generalize hwe : (L.drop j).take (nf V).length = w at *
    generalize hee : L.getD (j + (nf V).length) 0 = e at *
    generalize hZe : L.drop (j + (nf V).length + 1) = Z at *
    have hdA : Dg A := by rw [← hAe]; exact hd.take j
    have hdZ : Dg Z := by rw [← hZe]; exact hd.drop _
    have hlZ : j + (nf V).length + 1 + Z.length = U := by rw [← hZe, List.length_drop]; omega
    have hgs := guess_ok (n := p) hdw (by omega) hde.1 V0 hp (by rw [← hp]; exact hT100)
    simp only at hgs
    generalize hg : (if (99999999 : Int) < (e * 100000000 + w.getD p 0) / (nf V).getD p 0 then (99999999 : Int) else (e * 100000000 + w.getD p 0) / (nf V).getD p 0) = g at *
    obtain ⟨hg1, hg2⟩ := hgs
    rw [← hp] at hg1
    have hro := ho.O.R
    have hlen : (A ++ (w ++ (e :: Z))).length = A.length + (w.length + (Z.length + 1)) := by rw [List.length_append, List.length_append, List.length_cons]
    have hrv := hv.R
    have c1 : (0 : Int) ≤ (j : Int) := by omega
    have e0 : IntKind.i64.wrap ((j : Int) + ((nf V).length : Int)) = ((A.length + w.length : Nat) : Int) := by rw [wr64 (by omega) (by omega)]; omega
    have a1 : addrS 1 vu (vi ((A.length + w.length : Nat) : Int)) = some (pt vu (A.length + w.length)) := by have := hro.addrI (i := ((A.length + w.length : Nat) : Int)) (by omega) (by omega); rwa [Int.toNat_natCast] at this
    have l1 : loadS (pt vu (A.length + w.length)) G = some (vi e) := by rw [hro.loadI (by omega), top_get]
    have e1 : IntKind.i64.wrap (((A.length + w.length : Nat) : Int) - 1) = ((p + A.length : Nat) : Int) := by rw [wr64 (by omega) (by omega)]; omega
    have a2 : addrS 1 vu (vi ((p + A.length : Nat) : Int)) = some (pt vu (p + A.length)) := by have := hro.addrI (i := ((p + A.length : Nat) : Int)) (by omega) (by omega); rwa [Int.toNat_natCast] at this
    have l2 : loadS (pt vu (p + A.length)) G = some (vi (w.getD p 0)) := by rw [hro.loadI (by omega), mid_get (by omega)]
    have hwp := hdw.getD p
    have e2 : IntKind.i64.wrap (e * 100000000) = e * 100000000 := wr64 (by omega) (by omega)
    have e3 : IntKind.i64.wrap (e * 100000000 + w.getD p 0) = e * 100000000 + w.getD p 0 := wr64 (by omega) (by omega)
    have e4 : IntKind.i64.wrap (((nf V).length : Int) - 1) = (p : Int) := by rw [wr64 (by omega) (by omega)]; omega
    have a3 : addrS 1 vv (vi (p : Int)) = some (pt vv p) := by have := hrv.addrI (i := (p : Int)) (by omega) (by omega); rwa [Int.toNat_natCast] at this
    have l3 : loadS (pt vv p) G = some (vi ((nf V).getD p 0)) := hrv.loadI (by omega)
    have htop : (nf V).getD p 0 ≠ 0 := by
      have := digsN_last (V.toNat + 1) V.toNat (by omega) (by omega)
      rw [← nf_pos (by omega : 0 ≤ V), hp, Nat.add_sub_cancel] at this
      omega
    have htop2 := (nf_dg (by omega : 0 ≤ V)).getD p
    have e5 : (e * 100000000 + w.getD p 0).tdiv ((nf V).getD p 0) = (e * 100000000 + w.getD p 0) / (nf V).getD p 0 := tdiv_pos (by omega) _
    have hq0 := Int.ediv_nonneg (by omega : 0 ≤ e * 100000000 + w.getD p 0) (by omega : 0 ≤ (nf V).getD p 0)
    have hq1 := Int.ediv_le_self ((nf V).getD p 0) (by omega : 0 ≤ e * 100000000 + w.getD p 0)
    have e6 : IntKind.i64.wrap ((e * 100000000 + w.getD p 0) / (nf V).getD p 0) = (e * 100000000 + w.getD p 0) / (nf V).getD p 0 := wr64 (by omega) (by omega)
    have k1 := fun (F : Fr) => lg_sub (B0 := B0) (C0 := C0) (H := G) (f := f) (vu := vu) (vo := vo) (V := V) (g := g) (A := A) (w := w) (Y := e :: Z) (fun G' h1 h2 => (hv.kept h2).R) (by omega) hg2 ho hdw hwl (by omega) ln hw n m nt hn (a := F) (k := m) (by omega)
    rw [show lgS = atC [1, 1, 1, 1, 1, 1, 0, 1, 0, 0, 1, 0, 0, 1, 1, 0, 1, 0, 0] ((Try.f155.body).getD .skip) from rfl] at k1
    simp only [Try.f155, Option.getD_some, atC] at k1
    have hs6 := hs.s6
    simp (disch := omega) only [Try.f155, Option.getD_some, atC, es_seq, es_region, es_draw, d0, es_cond, es_block, es_loop, es_skip, ops_nil, ops_cons, opsV_nil, opsV_cons, st_move, st_assign, sy_min, minS_vi, sy_addr eL, sy_load aI, sy_store zI, sy_bin, binS_geq, binS_add, binS_sub, binS_mul, binS_quo, bindO_some, bindF_some, bindX_normal, condX_true, iteB_true, iteB_false, ev_tmp, ev_const, putA, upd_at, Option.map_some, ↓reduceIte, Nat.reduceEqDiff, decide_true, ↓bindO_some, ↓bindF_some, ↓bindX_normal, ↓condX_true, ↓iteB_true, ↓iteB_false, reflV_load, reflV_move, reflV_assign, reflV_bin, reflV_addr, reflV_call, vEq_vi, hs.s7, hs.s8, hs.s9, hs.s11, c1, e0, a1, l1, e1, a2, l2, e2, e3, e4, a3, l3, e5, e6, hg]
    generalize hF : upd _ 82 _ = F
    rw [show (j : Int) = (A.length : Int) from by omega] at hs
    obtain ⟨r, a', G1, ev1, hr, hs', g12, old1, kp1, wf1, w1, c, g13, ho1, hl1, hd1, c0, c2, hv1⟩ := k1 F (by
      subst hF
      repeat refine LS.upd ?_ (by decide) _
      exact hs) (by subst hF; rfl) (by subst hF; rfl) (by subst hF; rfl) (by subst hF; rfl)
    subst hr
    rw [ev1]
    clear ev1 k1
    have hro1 := ho1.O.R
    have hlen1 : (A ++ (w1 ++ (e :: Z))).length = A.length + (w1.length + (Z.length + 1)) := by rw [List.length_append, List.length_append, List.length_cons]
    have f0 : IntKind.i64.wrap ((A.length : Int) + ((nf V).length : Int)) = ((A.length + w1.length : Nat) : Int) := by rw [wr64 (by omega) (by omega)]; omega
    have b1 : addrS 1 vu (vi ((A.length + w1.length : Nat) : Int)) = some (pt vu (A.length + w1.length)) := by have := hro1.addrI (i := ((A.length + w1.length : Nat) : Int)) (by omega) (by omega); rwa [Int.toNat_natCast] at this
    have m1 : loadS (pt vu (A.length + w1.length)) G1 = some (vi e) := by rw [hro1.loadI (by omega), top_get]
    have f1 : IntKind.i64.wrap (e + c) = e + c := wr64 (by omega) (by omega)
    obtain ⟨G2, s2, ho2, old2, wf2, kp2⟩ := ho1.setKI wf1 (i := A.length + w1.length) (by omega) (e + c)
    rw [top_set] at ho2
    have hv2 := (hv.kept kp1).kept kp2
    have k2 := fun (F : Fr) => lg_while (B0 := B0) (C0 := C0) (H := G2) (f := f) (vu := vu) (vo := vo) (V := V) (g := g) (T := val w + B ^ (nf V).length * e) (e := e + c) (A := A) (w := w1) (Z := Z) (fun G' h1 h2 => (hv2.kept h2).R) V0 (by have := hdw.val.1; have := Int.mul_nonneg (Int.le_of_lt (pow_pos (nf V).length)) hde.1; omega) hg2 ho2 hd1 (by omega) (by omega) (by rw [Int.mul_add]; omega) hg1 (by omega) ln wf2 n m nt hn (by omega) (a := F) (k := m) (by omega)
    rw [show lgW = atC [1, 1, 1, 1, 1, 1, 0, 1, 0, 0, 1, 0, 0, 1, 1, 1, 1, 0, 0, 0] ((Try.f155.body).getD .skip) from rfl] at k2
    simp only [Try.f155, Option.getD_some, atC] at k2
    simp (disch := omega) only [binS_add, bindO_some, bindF_some, bindX_normal, blkX_exit, Option.map_some, ↓reduceIte, ↓bindO_some, ↓bindF_some, ↓bindX_normal, hs'.s7, hs'.s9, hs'.s11, g13, f0, b1, m1, f1, s2]
    generalize hF2 : upd _ 120 _ = F2
    obtain ⟨r, a2', G3, ev2, hr, hs2, i12, old3, kp3, wf3, w2, ho3, hl3, hd3, hv3⟩ := k2 F2 (by
      subst hF2
      repeat refine LS.upd ?_ (by decide) _
      exact hs') (by subst hF2; exact g12)
    subst hr
    rw [ev2]
    clear ev2 k2
    have kp13 : Kept C0 G G3 := Kept.trans (Kept.trans kp1 kp2) kp3
    have old13 : Old B0 G G3 := (old1.trans old2).trans old3
    have hq3 := hq.kept (Kept.mono kp13 hC)
    have hv4 := hv2.kept kp3
    generalize hq4 : (val w + B ^ (nf V).length * e) / V = q at *
    have hqq0 : 0 ≤ q := by rw [← hq4]; exact Int.ediv_nonneg (by have := hdw.val.1; have := Int.mul_nonneg (Int.le_of_lt (pow_pos (nf V).length)) hde.1; omega) (by omega)
    have hqq1 : q < 100000000 := by rw [← hq4]; exact Int.ediv_lt_of_lt_mul V0 hT100
    have hro3 := hq3.R
    have a5 : addrS 1 vo (vi (A.length : Int)) = some (pt vo A.length) := by have := hro3.addrI (i := (A.length : Int)) (by omega) (by omega); rwa [Int.toNat_natCast] at this
    obtain ⟨G4, s4, hq4', old4, wf4⟩ := hq3.setI wf3 (i := A.length) (by omega) q
    have f3 : IntKind.i64.wrap ((A.length : Int) - 1) = (A.length : Int) - 1 := wr64 (by omega) (by omega)
    simp (disch := omega) only [binS_sub, bindO_some, bindF_some, bindX_normal, blkX_normal, blkX_exit, upd_at, Option.map_some, ↓reduceIte, Nat.reduceEqDiff, ↓bindO_some, ↓bindF_some, ↓bindX_normal, hs2.s10, hs2.s11, i12, a5, s4, f3]
    have hem := Int.mul_ediv_add_emod (val w + B ^ (nf V).length * e) V
    rw [hq4] at hem
    refine ⟨_, _, rfl, j, by omega, by omega, ⟨?_, ?_, ?_, ?_, ?_, ?_⟩, (old.trans old13).trans (old4.mono (by omega)), Nat.le_trans hD (Nat.le_trans old13.1 old4.1), wf4, hv4.mono old4, A ++ (w2 ++ (0 :: Z)), lo.set A.length q, ho3.mono (old4.mono hC), ?_, ?_, hq4', by rw [List.length_set]; exact hlo, hdl.set _ hqq0 hqq1, ?_, ?_, ?_⟩
    · simp only [upd_at, ↓reduceIte, Nat.reduceEqDiff, hs2.s6]
    · simp only [upd_at, ↓reduceIte, Nat.reduceEqDiff, hs2.s7]
    · simp only [upd_at, ↓reduceIte, Nat.reduceEqDiff, hs2.s8]
    · simp only [upd_at, ↓reduceIte, Nat.reduceEqDiff, hs2.s9]
    · simp only [upd_at, ↓reduceIte, Nat.reduceEqDiff, hs2.s10]
    · simp only [upd_at, ↓reduceIte]; rw [hA]
    · rw [List.length_append, List.length_append, List.length_cons]; omega
    · refine hdA.app (hd3.app ?_)
      intro x hx
      rcases List.mem_cons.1 hx with rfl | hx
      · unfold B; omega
      · exact hdZ x hx
    · rw [val_set (by omega), hz A.length (by omega), val_app, val_app]
      simp only [val, hZ, Int.mul_zero, Int.add_zero, Int.sub_zero]
      rw [hv3, hA]
      rw [hvL] at hval
      rw [← hval, Int.mul_add, ← hem, Int.mul_add, Int.mul_left_comm (B ^ j) V q]
      rw [hem]
      omega
    · rw [← hA, List.drop_append_of_le_length (Nat.le_refl _), List.drop_length, List.nil_append, val_app]
      simp only [val, hZ, Int.mul_zero, Int.add_zero]
      rw [hv3]
      exact Int.emod_lt_of_pos _ V0
    · intro i hi
      rw [List.getD_eq_getElem?_getD, List.getElem?_set, if_neg (by omega), ← List.getD_eq_getElem?_getD]
      exact hz i (by omega)
theorem oW1 : oneField Try.prog 85 1 1 = true := by kernel_rfl
theorem z2I : zeros Try.prog 3 1 2 = some [vi 0, vi 0] := by kernel_rfl
theorem nf_last_pos {y : Int} (hy : 0 < y) : 1 ≤ (nf y).length ∧ 0 < (nf y).getD ((nf y).length - 1) 0 ∧ (nf y).getD ((nf y).length - 1) 0 < 100000000 := by
  have h := digsN_last (y.toNat + 1) y.toNat (by omega) (by omega)
  rw [← nf_pos (by omega : 0 ≤ y)] at h
  exact ⟨by omega, h.2, ((nf_dg (by omega : 0 ≤ y)).getD _).2⟩
theorem top_lt {y : Int} (hy : 0 < y) : y < B ^ ((nf y).length - 1) * ((nf y).getD ((nf y).length - 1) 0 + 1) := by
  have h := nf_last_pos hy
  have e := val_take_succ (nf y) ((nf y).length - 1)
  rw [show (nf y).length - 1 + 1 = (nf y).length from by omega, List.take_length, nf_val] at e
  have a := ((nf_dg (by omega : 0 ≤ y)).take ((nf y).length - 1)).val.2
  rw [List.length_take, Nat.min_eq_left (by omega)] at a
  rw [Int.mul_add, Int.mul_one]
  omega
theorem nf_app00 {x : Int} {n : Nat} (x0 : 0 ≤ x) (h2 : 2 ≤ n) (hn : n ≤ (nf x).length + 2) : val ((nf x ++ [0, 0]).drop ((nf x).length + 2 - n)) < B ^ (n - 1) := by
  have hl : (nf x ++ [0, 0]).length = (nf x).length + 2 := by simp
  have hd : Dg (nf x ++ [0, 0]) := (nf_dg x0).app fun z hz => by simp at hz; subst hz; unfold B; omega
  have hs := val_split (nf x ++ [0, 0]) ((nf x).length + 2 - n) (by omega)
  have hv : val (nf x ++ [0, 0]) = x := by rw [val_app, nf_val]; simp [val]
  rw [hv] at hs
  have a := (hd.take ((nf x).length + 2 - n)).val.1
  have b := (nf_size x).2
  apply Decidable.byContradiction
  intro h
  have h3 : B ^ ((nf x).length + 2 - n) * B ^ (n - 1) ≤ B ^ ((nf x).length + 2 - n) * val ((nf x ++ [0, 0]).drop ((nf x).length + 2 - n)) := Int.mul_le_mul_of_nonneg_left (by omega) (Int.le_of_lt (pow_pos _))
  rw [← Int.pow_add, show (nf x).length + 2 - n + (n - 1) = (nf x).length + 1 from by omega] at h3
  have := pow_le (show (nf x).length ≤ (nf x).length + 1 from by omega)
  omega
theorem long_all : LongAll 100010000 := by
  intro x y x0 y0 hxy lx hy2 G va vb hw hx hy n hn
  have ly : (nf y).length ≤ 390 := Nat.le_trans (nf_len_mono (by omega) hxy) lx
  refine run_of (F := 100009999) (Q := fun r => ∃ v1 v2 G', r = some (.tuple #[v1, v2], G') ∧ RO G.length G' v1 (ints (nf (x / y))) ∧ RO G.length G' v2 (ints (nf (x % y))) ∧ Old G.length G G' ∧ WF G') (fun n hn => ?_) n hn
  rw [body_runS Try.func155 rfl (ok_fn (by rfl) Try.func155 rfl) (Nat.le_of_ble_eq_true rfl) (D := D0) (by kernel_rfl)]
  obtain ⟨t1, t2, t3⟩ := nf_last_pos y0
  have htl := top_lt y0
  generalize htop : (nf y).getD ((nf y).length - 1) 0 = top at *
  have e1 : IntKind.i64.wrap (((nf y).length : Int) - 1) = (((nf y).length - 1 : Nat) : Int) := by rw [wr64 (by omega) (by omega)]; omega
  have a1 : addrS 1 vb (vi (((nf y).length - 1 : Nat) : Int)) = some (pt vb ((nf y).length - 1)) := by have := hy.addrI (i := (((nf y).length - 1 : Nat) : Int)) (by omega) (by omega); rwa [Int.toNat_natCast] at this
  have l1 : loadS (pt vb ((nf y).length - 1)) G = some (vi top) := by rw [hy.loadI (by omega), htop]
  have e2 : IntKind.i64.wrap (top + 1) = top + 1 := wr64 (by omega) (by omega)
  have e3 : (100000000 : Int).tdiv (top + 1) = 100000000 / (top + 1) := tdiv_pos (by omega) _
  have hne : top + 1 ≠ 0 := by omega
  obtain ⟨f, hf⟩ : ∃ f : Int, f = 100000000 / (top + 1) := ⟨_, rfl⟩
  have hf1 : 1 ≤ f := by rw [hf]; exact (Int.le_ediv_iff_mul_le (by omega)).2 (by omega)
  have hf2 : f * (top + 1) ≤ 100000000 := by rw [hf]; exact Int.ediv_mul_le _ (by omega)
  have hf3 : f ≤ 50000000 := by
    have : f * 2 ≤ f * (top + 1) := Int.mul_le_mul_of_nonneg_left (by omega) (by omega)
    omega
  have e4 : IntKind.i64.wrap (100000000 / (top + 1)) = f := by rw [← hf]; exact wr64 (by omega) (by omega)
  have hlf : (nf f).length ≤ 1 := one_len (by omega) (by omega)
  -- the two products
  obtain ⟨w1, H1, s1, wh1, old1, wf1⟩ := small_run (z := f) hw (by omega) (by omega) n (by omega)
  obtain ⟨w2, H2, s2, ⟨d, rfl, hd⟩, old2, wf2⟩ := timesO_run wf1 (wh_of x0 (hx.mono old1)) (wh1.below (Nat.zero_le _)) (by rw [abs_len]; omega) (by rw [abs_len]; omega) n (by omega)
  have hX0 : 0 ≤ x * f := Int.mul_nonneg x0 (by omega)
  have hV0 : 0 < y * f := Int.mul_pos y0 (by omega)
  rw [natAbs_pos hX0] at hd
  have lX := nf_len_mul x f
  have lV := nf_len_mul y f
  have old3 := Old.app H2 [.cells H2.length true [vi 0, vi 0]]
  have wf3 := wf2.app (Nat.le_refl H2.length) (o := true) (cs := [vi 0, vi 0])
  have r3 : R (H2 ++ [.cells H2.length true [vi 0, vi 0]]) (sliceA H2.length 0 2 1) (ints [0, 0]) := .inr (.inr ⟨H2.length, 0, H2.length, true, _, rfl, by simp; rfl, by simp [ints], by simp [ints]⟩)
  have sb : ∀ (a : Fr) (dd : Option Nat) (ty : TypeId) (pos : String) (aft : Array Edge) (g : Option (Nat × Bool)), stepA Try.prog (evB Try.prog noC n) a ⟨dd, .buildSlice 22 2 #[(0, .const (vi 0)), (1, .const (vi 0))], ty, pos, aft, g⟩ H2 = some (sliceA H2.length 0 2 1, H2 ++ [.cells H2.length true [vi 0, vi 0]]) := fun a dd ty pos aft g => sy_build2 (u := vi 0) (v := vi 0) eL z2I (by simp only [ev_const]) (by simp only [ev_const]) rfl rfl
  generalize hH3 : H2 ++ [Blk.cells H2.length true [vi 0, vi 0]] = H3 at *
  have g1 := old1.1
  have g2 := old2.1
  have g3 := old3.1
  obtain ⟨vu, H4, s4, o4, old4, wf4⟩ := ((hd.mono old3).below g1).app wf3 (by omega) r3 (by simp [ints]) (by rw [ints_len]; simp [ints, maxA]; omega)
  rw [← ints_app] at o4
  have g4 := old4.1
  have om4 := OM.of o4 wf4
  have old04 : Old G.length G H4 := (old1.trans ((old2.mono g1).trans (old3.mono (by omega)))).trans old4
  obtain ⟨w5, H5, s5, wh5, old5, wf5⟩ := small_run (z := f) wf4 (by omega) (by omega) n (by omega)
  have g5 := old5.1
  obtain ⟨w6, H6, s6, ⟨dv, rfl, hdv⟩, old6, wf6⟩ := times_run wf5 (wh_of (by omega : 0 ≤ y) (hy.mono (old04.trans (old5.mono (by omega))))) (wh5.below (Nat.zero_le _)) (by rw [abs_len]; omega) (by rw [abs_len]; omega) n (by omega)
  rw [natAbs_pos (by omega : 0 ≤ y * f)] at hdv
  have g6 := old6.1
  have rm6 := RO.RM (hdv.below g5)
  have hsV : decide (y * f < 0) = false := decide_eq_false (by omega)
  have hsX : decide (x * f < 0) = false := decide_eq_false (by omega)
  rw [hsV] at s6
  rw [hsX] at s2
  -- the sizes
  have hVX : y * f ≤ x * f := Int.mul_le_mul_of_nonneg_right hxy (by omega)
  have hVB : y * f < B ^ (nf y).length := by
    have h1 : y * f < B ^ ((nf y).length - 1) * (top + 1) * f := Int.mul_lt_mul_of_pos_right htl (by omega)
    have h2 : B ^ ((nf y).length - 1) * ((top + 1) * f) ≤ B ^ ((nf y).length - 1) * 100000000 := Int.mul_le_mul_of_nonneg_left (by rw [Int.mul_comm]; exact hf2) (Int.le_of_lt (pow_pos _))
    rw [Int.mul_assoc] at h1
    have h3 := pow_succ' ((nf y).length - 1)
    rw [show (nf y).length - 1 + 1 = (nf y).length from by omega, Int.mul_comm] at h3
    omega
  have lV2 : (nf (y * f)).length ≤ (nf y).length := nf_len (by have := pow_pos (nf y).length; omega) hVB
  have hyV : y ≤ y * f := by have := Int.mul_le_mul_of_nonneg_left hf1 (by omega : 0 ≤ y); rwa [Int.mul_one] at this
  have lV3 : 2 ≤ (nf (y * f)).length := Nat.le_trans hy2 (nf_len_mono (by omega) hyV)
  have lVX : (nf (y * f)).length ≤ (nf (x * f)).length := nf_len_mono (by omega) hVX
  obtain ⟨U, hU⟩ : ∃ U, U = (nf (x * f)).length + 2 := ⟨_, rfl⟩
  have hlu : (nf (x * f) ++ [0, 0]).length = U := by simp; omega
  have hlenu := o4.R.mono ((old5.trans (old6.mono g5)) : Old H4.length H4 H6)
  have e7 : IntKind.i64.wrap ((U : Int) - ((nf (y * f)).length : Int)) = ((U - (nf (y * f)).length : Nat) : Int) := by rw [wr64 (by omega) (by omega)]; omega
  have e8 : (if (0 : Int) < ((U - (nf (y * f)).length : Nat) : Int) then ((U - (nf (y * f)).length : Nat) : Int) else 0) = ((U - (nf (y * f)).length : Nat) : Int) := if_pos (by omega)
  have hz := zeros_I (U - (nf (y * f)).length)
  have c2 : (0 : Int) ≤ ((U - (nf (y * f)).length : Nat) : Int) := by omega
  have c3 : ((U - (nf (y * f)).length : Nat) : Int) ≤ 1048576 := by omega
  have hlr : (ints (List.replicate (U - (nf (y * f)).length) (0 : Int))).length = U - (nf (y * f)).length := by rw [ints_len, List.length_replicate]
  have or := O.made (B := H6.length) (H := H6) (Nat.le_refl _) (ints (List.replicate (U - (nf (y * f)).length) (0 : Int)))
  rw [hlr] at or
  have old7 := Old.app H6 [.cells H6.length true (ints (List.replicate (U - (nf (y * f)).length) (0 : Int)))]
  have wf7 := wf6.app (Nat.le_refl H6.length) (o := true) (cs := ints (List.replicate (U - (nf (y * f)).length) (0 : Int)))
  have e9 : IntKind.i64.wrap (((U - (nf (y * f)).length : Nat) : Int) - 1) = ((U - (nf (y * f)).length : Nat) : Int) - 1 := wr64 (by omega) (by omega)
  have llu := hlenu.lenI
  rw [hlu] at llu
  have llv := hdv.R.lenI
  generalize hH7 : H6 ++ [Blk.cells H6.length true (ints (List.replicate (U - (nf (y * f)).length) (0 : Int)))] = H7 at *
  have g7 := old7.1
  have llo : lenS (sliceA H6.length 0 (U - (nf (y * f)).length) 1) = some (U - (nf (y * f)).length) := rfl
  have old47 : Old H4.length H4 H7 := (old5.trans (old6.mono g5)).trans (old7.mono (by omega))
  have hvX : val (nf (x * f) ++ [0, 0]) = x * f := by rw [val_app, nf_val]; simp [val]
  have hdL : Dg (nf (x * f) ++ [0, 0]) := (nf_dg hX0).app fun z hz => by simp at hz; subst hz; unfold B; omega
  have hTl : val ((nf (x * f) ++ [0, 0]).drop (U - (nf (y * f)).length)) < y * f := by
    have h1 := nf_app00 hX0 lV3 (by omega : (nf (y * f)).length ≤ (nf (x * f)).length + 2)
    have h2 := nf_ge hV0
    rw [hU]
    omega
  have key := fun (F : Fr) => lg_outer (B0 := G.length) (C0 := H4.length) (D0 := H6.length) (H0 := G) (vu := vu) (vv := dv) (vo := sliceA H6.length 0 (U - (nf (y * f)).length) 1) (f := f) (V := y * f) (X := x * f) (U := U) (by omega) (by omega) g7 hV0 (old04.trans (old47.mono (by omega))) wf7 (rm6.mono old7) (om4.mono old47) hlu hdL or (by omega) (by omega) (by omega) (by omega) hvX hTl n n Try.f155.ntmps (by omega) (by omega) (a := F) (k := n) (by omega)
  rw [show lgO = atC [1, 1, 1, 1, 1, 1, 0, 1, 0, 0] ((Try.f155.body).getD .skip) from rfl] at key
  simp only [Try.f155, Option.getD_some, atC] at key
  simp (disch := omega) only [Try.f155, es_seq, es_region, es_block, es_loop, es_ret, ops_nil, ops_cons, st_move, st_assign, sy_max, maxS_vi, st_fun, sy_len uL, sy_addr eL, sy_load aI, sy_bin, sy_append eL pI, sy_ext, sy_make eL yI (by decide), binS_add, binS_sub, binS_quo, bindO_some, bindF_some, bindX_normal, ev_tmp, ev_const, ev_func, putA, upd_at, Option.map_some, ↓reduceIte, Nat.reduceEqDiff, Int.toNat_natCast, frOf_0, frOf_1, List.map_cons, List.map_nil, ↓bindO_some, ↓bindF_some, ↓bindX_normal, sy_build, hy.lenI, e1, a1, l1, e2, e3, e4, bW1 va hx.scal, s1, s2, sy_field oW1, get_1, sb, s4, bW1 vb hy.scal, s5, s6, llu, llv, e7, e8, c2, c3, Int.le_refl, and_self, hz, hH7, llo, e9]
  generalize hF : upd _ 11 _ = F
  obtain ⟨r, a', H8, ev, hr, i6, i7, i10, old8, wf8, L, lo, oL, lL, dL, vL, oo, llo2, dlo, vlo⟩ := key F ⟨by subst hF; rfl, by subst hF; rfl, by subst hF; rfl, by subst hF; rfl, by subst hF; rfl, by subst hF; rfl⟩
  subst hr
  rw [ev]
  clear ev key
  have eq1 : x * f / (y * f) = x / y := Int.mul_ediv_mul_of_pos_left x y (by omega)
  have eq2 : x * f % (y * f) = (x % y) * f := by rw [Int.mul_comm x f, Int.mul_comm y f, Int.mul_emod_mul_of_pos _ _ (by omega), Int.mul_comm]
  have hr0 := Int.emod_nonneg x (by omega : y ≠ 0)
  have hr1 := Int.emod_lt_of_pos x y0
  rw [eq1] at vlo
  rw [eq2] at vL
  have hR0 : 0 ≤ (x % y) * f := Int.mul_nonneg hr0 (by omega)
  have lR : (nf ((x % y) * f)).length ≤ 900 := by
    have := nf_len_mul (x % y) f
    have := nf_len_mono hr0 (by omega : x % y ≤ y)
    omega
  obtain ⟨d1, sd1, rd1⟩ := trimmed_run oL.O.RO (by omega) n (by omega)
  rw [nf_of_digs dL vL] at rd1
  obtain ⟨d2, H9, s9, rd2, old9, wf9⟩ := short_run wf8 rd1.R hR0 (by omega : 0 < f) (by omega) lR n (by omega)
  rw [Int.mul_ediv_cancel _ (by omega : f ≠ 0)] at rd2
  obtain ⟨d3, sd3, rd3⟩ := trimmed_run (oo.mono old9).RO (by omega) n (by omega)
  rw [nf_of_digs dlo vlo] at rd3
  simp (disch := omega) only [ext_20, ext_21, bindO_some, bindF_some, bindX_normal, blkX_exit, upd_at, Option.map_some, ↓reduceIte, Nat.reduceEqDiff, ↓bindO_some, ↓bindF_some, ↓bindX_normal, fin_r, res_nil, res_tmp, pack_2, i6, i7, i10, sd1, s9, sd3, rd2.R.scal, rd3.R.scal]
  have g8 := old8.1
  have g46 : G.length ≤ H6.length := by omega
  exact ⟨_, _, _, rfl, rd3.below g46, rd2.below g8, old8.trans (old9.mono g8), wf9⟩
end Go.Proofs.Ytmmgdgmjkhcfaaa
namespace Go.Proofs.Ytmmgdgmjkhcfaaa
open Go Go.Abs Go.Num
set_option maxRecDepth 10000
attribute [local congr] bindO_congr bindF_congr bindX_congr condX_congr iteB_congr binS_congr pickS_congr eqB_congr nilS_congr clsW_congr maxS_congr minS_congr
theorem _root_.Go.Num.Part.sm {l : List Int} (h : Part l) : Sm l := ⟨by have := h.len; omega, fun x hx => by have := h.mem x hx; omega⟩
theorem _root_.Go.Num.Part.sum0 {l : List Int} (h : Part l) : 0 ≤ l.sum := by
  have : ∀ l : List Int, (∀ x ∈ l, 1 ≤ x ∧ x ≤ 20) → 0 ≤ l.sum := by
    intro l
    induction l with
    | nil => intro _; simp
    | cons x l ih =>
      intro h
      have h1 := h x (List.mem_cons_self ..)
      have h2 := ih fun y hy => h y (List.mem_cons_of_mem _ hy)
      rw [List.sum_cons]; omega
  exact this l h.mem
theorem ctimes_run {H : Heap} {vx : Value} {x z : Int} (hw : WF H) (hx : NumV H vx x) (lx : (nf x).length ≤ 380) (h1 : -4000000000000000000 ≤ z) (h2 : z ≤ 4000000000000000000) (n : Nat) (hn : 2014 ≤ n) :
    OneL H (evB Try.prog noC n (.func (.func 108) #[] #[]) [vx, vi z] H) (nf (x * z)) := by
  refine run_of (F := 2013) (Q := fun r => OneL H r (nf (x * z))) (fun n hn => ?_) n hn
  rw [body_runS Try.func108 rfl (ok_fn (by rfl) Try.func108 rfl) (Nat.le_of_ble_eq_true rfl) (D := D0) (by kernel_rfl)]
  obtain ⟨v1, H1, s1, o1, old1, wf1⟩ := of_run (z := z) hw h1 h2 n (by omega)
  have hl : (nf z).length ≤ 3 := nf_len (by rw [show B ^ 3 = 1000000000000000000000000 from rfl]; omega) (by rw [show B ^ 3 = 1000000000000000000000000 from rfl]; omega)
  obtain ⟨v2, H2, s2, o2, old2, wf2⟩ := mulP_run wf1 (hx.mono old1) (NumV.of o1.R (by omega)) (by omega) (by omega) n (by omega)
  simp (disch := omega) only [Try.f108, es_seq, es_region, es_ret, ops_nil, ops_cons, st_move, st_assign, st_fun, bindO_some, bindF_some, bindX_normal, ev_tmp, ev_const, ev_func, putA, upd_at, Option.map_some, ↓reduceIte, Nat.reduceEqDiff, frOf_0, frOf_1, List.map_cons, List.map_nil, ↓bindO_some, ↓bindF_some, ↓bindX_normal, fin_r, res_nil, res_tmp, pack_1, s1, s2, o2.R.scal]
  exact ⟨_, _, rfl, o2.below old1.1, old1.trans (old2.mono old1.1), wf2⟩
noncomputable def cfA : Code := atC [1, 1, 0, 1, 0, 0] ((Try.f73.body).getD .skip)
theorem cfact_run {H : Heap} {k : Nat} (hw : WF H) (hk : k ≤ 20) (n : Nat) (hn : 2020 ≤ n) : OneL H (evB Try.prog noC n (.func (.func 73) #[] #[]) [vi k] H) (nf (fct k)) := by
  refine run_of (F := 2019) (Q := fun r => OneL H r (nf (fct k))) (fun n hn => ?_) n hn
  rw [body_runS Try.func73 rfl (ok_fn (by rfl) Try.func73 rfl) (Nat.le_of_ble_eq_true rfl) (D := D0) (by kernel_rfl)]
  obtain ⟨v1, H1, s1, o1, old1, wf1⟩ := of_run (z := 1) hw (by omega) (by omega) n (by omega)
  have key : ∀ A : Fr, A 0 = vi k → A 3 = v1 → A 4 = vi 2 → ∃ r a' H', loopN (evS Try.prog (evB Try.prog noC n) n Try.f73.ntmps none cfA) n A H1 = some (r, a', H') ∧ r = .exit 0 ∧ ∃ vo, a' 3 = vo ∧ O H.length H' vo (ints (nf (fct k))) ∧ Old H.length H H' ∧ WF H' := by
    intro A h0 h3 h4
    refine loop_up (k - 1) (fun i a H' => a 0 = vi k ∧ a 4 = vi ((i + 2 : Nat) : Int) ∧ Old H.length H H' ∧ WF H' ∧ ∃ vo, a 3 = vo ∧ O H.length H' vo (ints (nf (fct (i + 1))))) _ ?_ ?_ (by omega) ⟨h0, h4, old1, wf1, v1, h3, o1⟩
    · intro i a H' hi ⟨h0, h4, old, hw, vo, h3, ho⟩
      left
      rw [show cfA = atC [1, 1, 0, 1, 0, 0] ((Try.f73.body).getD .skip) from rfl]
      have hlt : ((i + 2 : Nat) : Int) ≤ (k : Int) := by omega
      have e1 : IntKind.i64.wrap (((i + 2 : Nat) : Int) + 1) = ((i + 1 + 2 : Nat) : Int) := by rw [wr64 (by omega) (by omega)]; omega
      have hl := fct_len (k := i + 1) (by omega)
      obtain ⟨v2, H2, s2, o2, old2, wf2⟩ := ctimes_run (z := ((i + 2 : Nat) : Int)) hw (NumV.of ho.R (by omega)) (by omega) (by omega) (by omega) n (by omega)
      simp (disch := omega) only [Try.f73, Option.getD_some, atC, es_seq, es_region, es_cond, es_block, es_skip, ops_nil, ops_cons, st_move, st_assign, st_fun, sy_bin, binS_leq, binS_add, bindO_some, bindF_some, bindX_normal, blkX_normal, condX_true, ev_tmp, ev_const, ev_func, putA, upd_at, ↓reduceIte, Nat.reduceEqDiff, List.map_cons, List.map_nil, decide_true, ↓bindO_some, ↓bindF_some, ↓bindX_normal, ↓condX_true, h0, h3, h4, hlt, s2, e1]
      exact ⟨_, _, rfl, h0, rfl, old.trans (old2.mono old.1), wf2, v2, rfl, o2.below old.1⟩
    · intro a H' ⟨h0, h4, old, hw, vo, h3, ho⟩
      rw [show cfA = atC [1, 1, 0, 1, 0, 0] ((Try.f73.body).getD .skip) from rfl]
      have hlt : ¬ ((k - 1 + 2 : Nat) : Int) ≤ (k : Int) := by omega
      simp (disch := omega) only [Try.f73, Option.getD_some, atC, es_seq, es_region, es_cond, es_exit, ops_nil, ops_cons, st_move, sy_bin, binS_leq, bindO_some, bindF_some, bindX_normal, bindX_exit, condX_false, ev_tmp, putA, upd_at, ↓reduceIte, Nat.reduceEqDiff, decide_false, ↓bindO_some, ↓bindF_some, ↓bindX_normal, ↓bindX_exit, ↓condX_false, h0, h4, hlt]
      refine ⟨_, _, _, rfl, by simp, rfl, vo, h3, ?_, old, hw⟩
      cases k with
      | zero => exact ho
      | succ k => exact ho
  rw [show cfA = atC [1, 1, 0, 1, 0, 0] ((Try.f73.body).getD .skip) from rfl] at key
  simp only [Try.f73, Option.getD_some, atC] at key
  simp (disch := omega) only [Try.f73, es_seq, es_region, es_block, es_loop, es_ret, ops_nil, ops_cons, st_move, st_assign, st_fun, bindO_some, bindF_some, bindX_normal, ev_tmp, ev_const, ev_func, putA, upd_at, ↓reduceIte, List.map_cons, List.map_nil, ↓bindO_some, ↓bindF_some, ↓bindX_normal, s1]
  generalize hA : upd _ 4 _ = A
  obtain ⟨r, a', H', e, hr, vo, h3, ho, old, wf⟩ := key A (by subst hA; rfl) (by subst hA; rfl) (by subst hA; rfl)
  subst hr
  rw [e]
  simp (disch := omega) only [bindX_normal, blkX_exit, upd_at, Option.map_some, ↓reduceIte, ↓bindX_normal, fin_r, res_nil, res_tmp, pack_1, h3, ho.R.scal]
  exact ⟨_, _, rfl, ho, old, wf⟩
noncomputable def rfA : Code := atC [1, 1, 0, 1, 0, 0] ((Try.f53.body).getD .skip)
theorem rtimes_run {H : Heap} {vx : Value} {x z : Int} (hw : WF H) (hx : NumV H vx x) (lx : (nf x).length ≤ 380) (h1 : -4000000000000000000 ≤ z) (h2 : z ≤ 4000000000000000000) (n : Nat) (hn : 2011 ≤ n) :
    OneL H (evB Try.prog noC n (.func (.func 68) #[] #[]) [vx, sliceA H.length 0 1 1] (H ++ [.cells H.length true [vi z]])) (nf (x * z)) := by
  have old1 := Old.app H [.cells H.length true [vi z]]
  have wf1 := hw.app (Nat.le_refl H.length) (o := true) (cs := [vi z])
  have r1 := R.push (H := H) (f := H.length) (c := vi z)
  have hl : (nf z).length ≤ 3 := nf_len (by rw [show B ^ 3 = 1000000000000000000000000 from rfl]; omega) (by rw [show B ^ 3 = 1000000000000000000000000 from rfl]; omega)
  exact (mul_run wf1 (hx.mono old1) (NumV.one r1 h1 h2) (by omega) (by omega) n (by omega)).trans old1
theorem rfact_run {H : Heap} {k : Nat} (hw : WF H) (hk : k ≤ 20) (n : Nat) (hn : 2020 ≤ n) : OneL H (evB Try.prog noC n (.func (.func 53) #[] #[]) [vi k] H) (nf (fct k)) := by
  refine run_of (F := 2019) (Q := fun r => OneL H r (nf (fct k))) (fun n hn => ?_) n hn
  rw [body_runS Try.func53 rfl (ok_fn (by rfl) Try.func53 rfl) (Nat.le_of_ble_eq_true rfl) (D := D0) (by kernel_rfl)]
  have old1 := Old.app H [.cells H.length true [vi 1]]
  have wf1 := hw.app (Nat.le_refl H.length) (o := true) (cs := [vi 1])
  have o1 : O H.length (H ++ [.cells H.length true [vi 1]]) (sliceA H.length 0 1 1) (ints (nf (fct 1))) := by
    rw [show fct 1 = 1 from rfl, nf_small (by omega) (by omega)]
    exact O.made (Nat.le_refl _) [vi 1]
  have key : ∀ A : Fr, A 0 = vi k → A 3 = sliceA H.length 0 1 1 → A 4 = vi 2 → ∃ r a' H', loopN (evS Try.prog (evB Try.prog noC n) n Try.f53.ntmps none rfA) n A (H ++ [.cells H.length true [vi 1]]) = some (r, a', H') ∧ r = .exit 0 ∧ ∃ vo, a' 3 = vo ∧ O H.length H' vo (ints (nf (fct k))) ∧ Old H.length H H' ∧ WF H' := by
    intro A h0 h3 h4
    refine loop_up (k - 1) (fun i a H' => a 0 = vi k ∧ a 4 = vi ((i + 2 : Nat) : Int) ∧ Old H.length H H' ∧ WF H' ∧ ∃ vo, a 3 = vo ∧ O H.length H' vo (ints (nf (fct (i + 1))))) _ ?_ ?_ (by omega) ⟨h0, h4, old1, wf1, _, h3, o1⟩
    · intro i a H' hi ⟨h0, h4, old, hw, vo, h3, ho⟩
      left
      rw [show rfA = atC [1, 1, 0, 1, 0, 0] ((Try.f53.body).getD .skip) from rfl]
      have hlt : ((i + 2 : Nat) : Int) ≤ (k : Int) := by omega
      have e1 : IntKind.i64.wrap (((i + 2 : Nat) : Int) + 1) = ((i + 1 + 2 : Nat) : Int) := by rw [wr64 (by omega) (by omega)]; omega
      have hl := fct_len (k := i + 1) (by omega)
      obtain ⟨v2, H2, s2, o2, old2, wf2⟩ := rtimes_run (z := ((i + 2 : Nat) : Int)) hw (NumV.of ho.R (by omega)) (by omega) (by omega) (by omega) n (by omega)
      simp (disch := omega) only [Try.f53, Option.getD_some, atC, es_seq, es_region, es_cond, es_block, es_skip, ops_nil, ops_cons, st_move, st_assign, st_fun, sy_bin, sy_build1 eL oI, binS_leq, binS_add, bindO_some, bindF_some, bindX_normal, blkX_normal, condX_true, ev_tmp, ev_const, ev_func, putA, upd_at, ↓reduceIte, Nat.reduceEqDiff, List.map_cons, List.map_nil, decide_true, ↓bindO_some, ↓bindF_some, ↓bindX_normal, ↓condX_true, scal_vi, h0, h3, h4, hlt, s2, e1]
      exact ⟨_, _, rfl, h0, rfl, old.trans (old2.mono old.1), wf2, v2, rfl, o2.below old.1⟩
    · intro a H' ⟨h0, h4, old, hw, vo, h3, ho⟩
      rw [show rfA = atC [1, 1, 0, 1, 0, 0] ((Try.f53.body).getD .skip) from rfl]
      have hlt : ¬ ((k - 1 + 2 : Nat) : Int) ≤ (k : Int) := by omega
      simp (disch := omega) only [Try.f53, Option.getD_some, atC, es_seq, es_region, es_cond, es_exit, ops_nil, ops_cons, st_move, sy_bin, binS_leq, bindO_some, bindF_some, bindX_normal, bindX_exit, condX_false, ev_tmp, putA, upd_at, ↓reduceIte, Nat.reduceEqDiff, decide_false, ↓bindO_some, ↓bindF_some, ↓bindX_normal, ↓bindX_exit, ↓condX_false, h0, h4, hlt]
      refine ⟨_, _, _, rfl, by simp, rfl, vo, h3, ?_, old, hw⟩
      cases k with
      | zero => exact ho
      | succ k => exact ho
  rw [show rfA = atC [1, 1, 0, 1, 0, 0] ((Try.f53.body).getD .skip) from rfl] at key
  simp only [Try.f53, Option.getD_some, atC] at key
  simp (disch := omega) only [Try.f53, es_seq, es_region, es_block, es_loop, es_ret, ops_nil, ops_cons, st_move, st_assign, sy_build1 eL oI, bindO_some, bindF_some, bindX_normal, ev_tmp, ev_const, putA, upd_at, ↓reduceIte, ↓bindO_some, ↓bindF_some, ↓bindX_normal, scal_vi]
  generalize hA : upd _ 4 _ = A
  obtain ⟨r, a', H', e, hr, vo, h3, ho, old, wf⟩ := key A (by subst hA; rfl) (by subst hA; rfl) (by subst hA; rfl)
  subst hr
  rw [e]
  simp (disch := omega) only [bindX_normal, blkX_exit, upd_at, Option.map_some, ↓reduceIte, ↓bindX_normal, fin_r, res_nil, res_tmp, pack_1, h3, ho.R.scal]
  exact ⟨_, _, rfl, ho, old, wf⟩
end Go.Proofs.Ytmmgdgmjkhcfaaa
namespace Go.Proofs.Ytmmgdgmjkhcfaaa
open Go Go.Abs Go.Num
set_option maxRecDepth 10000
attribute [local congr] bindO_congr bindF_congr bindX_congr condX_congr iteB_congr binS_congr pickS_congr eqB_congr nilS_congr clsW_congr maxS_congr minS_congr
theorem smz_hit {l : List Int} {j : Nat} (h : l.getD (j + 1) 0 = l.getD j 0) : smz l (j + 1 + 1) = smz l (j + 1) + 1 := by
  rw [smz, if_pos ⟨by omega, h⟩]
theorem smz_miss {l : List Int} {j : Nat} (h : ¬ l.getD (j + 1) 0 = l.getD j 0) : smz l (j + 1 + 1) = 1 := by
  rw [smz, if_neg (fun h' => h h'.2)]
theorem smz_0 (l : List Int) : smz l (0 + 1) = 1 := by rw [smz, if_neg (fun h => by omega)]
noncomputable def czA : Code := atC [1, 1, 1, 0, 1, 0, 0] ((Try.f120.body).getD .skip)
theorem ccent_run {H : Heap} {v : Value} {l : List Int} (hw : WF H) (hv : R H v (ints l)) (hp : Part l) (n : Nat) (hn : 2020 ≤ n) : OneL H (evB Try.prog noC n (.func (.func 120) #[] #[]) [v] H) (nf (cz l l.length)) := by
  have hl := hp.len
  refine run_of (F := 2019) (Q := fun r => OneL H r (nf (cz l l.length))) (fun n hn => ?_) n hn
  rw [body_runS Try.func120 rfl (ok_fn (by rfl) Try.func120 rfl) (Nat.le_of_ble_eq_true rfl) (D := D0) (by kernel_rfl)]
  obtain ⟨v1, H1, s1, o1, old1, wf1⟩ := of_run (z := 1) hw (by omega) (by omega) n (by omega)
  have hv1 := hv.mono old1
  have key : ∀ A : Fr, A 0 = v → A 3 = v1 → A 4 = vi 0 → A 8 = v → A 9 = vi l.length → A 10 = vi (0 : Nat) → ∃ r a' H', loopN (evS Try.prog (evB Try.prog noC n) n Try.f120.ntmps none czA) n A H1 = some (r, a', H') ∧ r = .exit 0 ∧ ∃ vo, a' 3 = vo ∧ O H.length H' vo (ints (nf (cz l l.length))) ∧ Old H.length H H' ∧ WF H' := by
    intro A h0 h3 h4 h8 h9 h10
    refine loop_up l.length (fun i a H' => a 0 = v ∧ a 4 = vi (smz l i) ∧ a 8 = v ∧ a 9 = vi l.length ∧ a 10 = vi i ∧ Old H.length H H' ∧ WF H' ∧ ∃ vo, a 3 = vo ∧ O H.length H' vo (ints (nf (cz l i)))) _ ?_ ?_ (by omega) ⟨h0, h4, h8, h9, h10, old1, wf1, v1, h3, o1⟩
    · intro i a H' hi ⟨h0, h4, h8, h9, h10, old, hw, vo, h3, ho⟩
      left
      rw [show czA = atC [1, 1, 1, 0, 1, 0, 0] ((Try.f120.body).getD .skip) from rfl]
      have hv' := hv.mono old
      have hlt : (i : Int) < l.length := by omega
      have e1 : IntKind.i64.wrap ((i : Int) + 1) = ((i + 1 : Nat) : Int) := by rw [wr64 (by omega) (by omega)]; omega
      have hg := hp.getD hi
      have hs0 := smz_bd l i
      have hs1 := smz_bd l (i + 1)
      have hs2 := smz_pos l i
      have hlc := cz_len hp (i := i) (by omega)
      have m1 : 1 * 1 ≤ l.getD i 0 * smz l (i + 1) := Int.mul_le_mul hg.1 hs2 (by omega) (by omega)
      have m2 : l.getD i 0 * smz l (i + 1) ≤ 20 * 20 := Int.mul_le_mul hg.2 (by omega) (by omega) (by omega)
      have e3 : IntKind.i64.wrap (l.getD i 0 * smz l (i + 1)) = l.getD i 0 * smz l (i + 1) := wr64 (by omega) (by omega)
      obtain ⟨v2, H2, s2, o2, old2, wf2⟩ := ctimes_run (z := l.getD i 0 * smz l (i + 1)) hw (NumV.of ho.R (by omega)) (by omega) (by omega) (by omega) n (by omega)
      have fin : ∀ F : Fr, F 0 = v → F 4 = vi (smz l (i + 1)) → F 8 = v → F 9 = vi l.length → F 10 = vi ((i + 1 : Nat) : Int) → F 3 = v2 → ∃ a' H'', some (X.normal, F, H2) = some (X.normal, a', H'') ∧ a' 0 = v ∧ a' 4 = vi (smz l (i + 1)) ∧ a' 8 = v ∧ a' 9 = vi l.length ∧ a' 10 = vi ((i + 1 : Nat) : Int) ∧ Old H.length H H'' ∧ WF H'' ∧ ∃ vo, a' 3 = vo ∧ O H.length H'' vo (ints (nf (cz l (i + 1)))) := fun F g0 g4 g8 g9 g10 g3 => ⟨_, _, rfl, g0, g4, g8, g9, g10, old.trans (old2.mono old.1), wf2, v2, g3, o2.below old.1⟩
      cases i with
      | zero =>
        have c0 : decide ((0 : Int) < ((0 : Nat) : Int)) = false := rfl
        rw [smz_0] at s2 e3
        simp (disch := omega) only [Try.f120, Option.getD_some, atC, es_seq, es_region, es_cond, es_block, es_skip, ops_nil, ops_cons, ops_consG, st_move, st_assign, sy_pick, pickS_false, st_fun, sy_addr eL, sy_load aI, sy_bin, binS_lss, binS_gtr, binS_add, binS_mul, bindO_some, bindF_some, bindX_normal, blkX_normal, condX_true, condX_false, iteB_false, ev_tmp, ev_const, ev_func, putA, upd_at, Option.map_some, ↓reduceIte, Nat.reduceEqDiff, Nat.zero_add, Int.toNat_natCast, List.map_cons, List.map_nil, decide_true, yieldO_eq, yO, yV_bool, some_true, List.getElem?_cons_zero, List.getElem?_cons_succ, ↓bindO_some, ↓bindF_some, ↓bindX_normal, ↓condX_true, ↓condX_false, ↓iteB_false, h3, h8, h9, h10, hlt, hv'.addrI, hv'.loadI, c0, e3, s2, e1]
        refine fin _ ?_ ?_ ?_ ?_ ?_ ?_ <;> simp only [upd_at, ↓reduceIte, Nat.reduceEqDiff, smz_0, h0, h8, h9]
      | succ j =>
        have c0 : (0 : Int) < ((j + 1 : Nat) : Int) := by omega
        have e2 : IntKind.i64.wrap (((j + 1 : Nat) : Int) - 1) = (j : Int) := by rw [wr64 (by omega) (by omega)]; omega
        by_cases hq : l.getD (j + 1) 0 = l.getD j 0
        · rw [smz_hit hq] at s2 e3
          have e4 : IntKind.i64.wrap (smz l (j + 1) + 1) = smz l (j + 1) + 1 := wr64 (by omega) (by omega)
          have dq : decide (l.getD (j + 1) 0 = l.getD j 0) = true := decide_eq_true hq
          simp (disch := omega) only [Try.f120, Option.getD_some, atC, es_seq, es_region, es_cond, es_block, es_skip, ops_nil, ops_cons, ops_consG, st_move, st_assign, sy_pick, pickS_true, st_fun, sy_addr eL, sy_load aI, sy_bin, binS_lss, binS_gtr, binS_eql, binS_add, binS_sub, binS_mul, bindO_some, bindF_some, bindX_normal, blkX_normal, condX_true, iteB_true, ev_tmp, ev_const, ev_func, putA, upd_at, Option.map_some, ↓reduceIte, Nat.reduceEqDiff, Int.toNat_natCast, List.map_cons, List.map_nil, decide_true, yieldO_eq, yO, yV_bool, List.getElem?_cons_zero, List.getElem?_cons_succ, beq_self_eq_true, ↓bindO_some, ↓bindF_some, ↓bindX_normal, ↓condX_true, ↓iteB_true, h0, h3, h4, h8, h9, h10, hlt, hv'.addrI, hv'.loadI, c0, e2, dq, e4, e3, s2, e1]
          refine fin _ ?_ ?_ ?_ ?_ ?_ ?_ <;> simp only [upd_at, ↓reduceIte, Nat.reduceEqDiff, smz_hit hq, h0, h8, h9]
        · rw [smz_miss hq] at s2 e3
          have dq : decide (l.getD (j + 1) 0 = l.getD j 0) = false := decide_eq_false hq
          simp (disch := omega) only [Try.f120, Option.getD_some, atC, es_seq, es_region, es_cond, es_block, es_skip, ops_nil, ops_cons, ops_consG, st_move, st_assign, sy_pick, pickS_true, st_fun, sy_addr eL, sy_load aI, sy_bin, binS_lss, binS_gtr, binS_eql, binS_add, binS_sub, binS_mul, bindO_some, bindF_some, bindX_normal, blkX_normal, condX_true, condX_false, iteB_true, ev_tmp, ev_const, ev_func, putA, upd_at, Option.map_some, ↓reduceIte, Nat.reduceEqDiff, Int.toNat_natCast, List.map_cons, List.map_nil, decide_true, yieldO_eq, yO, yV_bool, List.getElem?_cons_zero, List.getElem?_cons_succ, beq_self_eq_true, ↓bindO_some, ↓bindF_some, ↓bindX_normal, ↓condX_true, ↓condX_false, ↓iteB_true, h0, h3, h8, h9, h10, hlt, hv'.addrI, hv'.loadI, c0, e2, dq, e3, s2, e1]
          refine fin _ ?_ ?_ ?_ ?_ ?_ ?_ <;> simp only [upd_at, ↓reduceIte, Nat.reduceEqDiff, smz_miss hq, h0, h8, h9]
    · intro a H' ⟨h0, h4, h8, h9, h10, old, hw, vo, h3, ho⟩
      rw [show czA = atC [1, 1, 1, 0, 1, 0, 0] ((Try.f120.body).getD .skip) from rfl]
      simp (disch := omega) only [Try.f120, Option.getD_some, atC, es_seq, es_region, es_cond, es_exit, ops_nil, ops_cons, sy_bin, binS_lss, bindO_some, bindF_some, bindX_normal, bindX_exit, condX_false, ev_tmp, putA, upd_at, ↓reduceIte, decide_false, ↓bindO_some, ↓bindF_some, ↓bindX_normal, ↓bindX_exit, ↓condX_false, h9, h10, Int.lt_irrefl]
      exact ⟨_, _, _, rfl, by simp, rfl, vo, by simp only [upd_at, ↓reduceIte, Nat.reduceEqDiff, h3], ho, old, hw⟩
  rw [show czA = atC [1, 1, 1, 0, 1, 0, 0] ((Try.f120.body).getD .skip) from rfl] at key
  simp only [Try.f120, Option.getD_some, atC] at key
  simp (disch := omega) only [Try.f120, es_seq, es_region, es_block, es_loop, es_ret, ops_nil, ops_cons, st_move, st_assign, st_fun, sy_len uL, bindO_some, bindF_some, bindX_normal, ev_tmp, ev_const, ev_func, putA, upd_at, Option.map_some, ↓reduceIte, Nat.reduceEqDiff, frOf_0, List.map_cons, List.map_nil, ↓bindO_some, ↓bindF_some, ↓bindX_normal, s1, hv1.lenI]
  generalize hA : upd _ 10 _ = A
  obtain ⟨r, a', H', e, hr, vo, h3, ho, old, wf⟩ := key A (by subst hA; rfl) (by subst hA; rfl) (by subst hA; rfl) (by subst hA; rfl) (by subst hA; rfl) (by subst hA; rfl)
  subst hr
  rw [e]
  simp (disch := omega) only [bindX_normal, blkX_exit, upd_at, Option.map_some, ↓reduceIte, ↓bindX_normal, fin_r, res_nil, res_tmp, pack_1, h3, ho.R.scal]
  exact ⟨_, _, rfl, ho, old, wf⟩
def clsZ (l : List Int) : Int := fct l.sum.toNat / cz l l.length
theorem class_run {H : Heap} {v : Value} {l : List Int} (hw : WF H) (hv : R H v (ints l)) (hp : Part l) (n : Nat) (hn : 100020000 ≤ n) : OneL H (evB Try.prog noC n (.func (.func 94) #[] #[]) [v] H) (nf (clsZ l)) := by
  have hs0 := hp.sum0
  have hs1 := hp.sum
  refine run_of (F := 100019999) (Q := fun r => OneL H r (nf (clsZ l))) (fun n hn => ?_) n hn
  rw [body_runS Try.func94 rfl (ok_fn (by rfl) Try.func94 rfl) (Nat.le_of_ble_eq_true rfl) (D := D0) (by kernel_rfl)]
  have s0 := csize_run hv hp.sm n (by omega)
  rw [show l.sum = ((l.sum.toNat : Nat) : Int) from by omega] at s0
  have lf := fct_len (k := l.sum.toNat) (by omega)
  have lc := cz_len hp (Nat.le_refl l.length)
  have pc := cz_bd hp l.length (Nat.le_refl _)
  have pf := fct_le (k := l.sum.toNat) (by omega)
  obtain ⟨v1, H1, s1, o1, old1, wf1⟩ := cfact_run (k := l.sum.toNat) hw (by omega) n (by omega)
  obtain ⟨v2, H2, s2, o2, old2, wf2⟩ := ccent_run wf1 (hv.mono old1) hp n (by omega)
  obtain ⟨v3, H3, s3, o3, old3, wf3⟩ := overC_run long_all wf2 (NumV.of (o1.R.mono old2) (by omega)) (NumV.of o2.R (by omega)) (by omega) (by omega) (by omega) (by omega) n (by omega)
  simp (disch := omega) only [Try.f94, es_seq, es_region, es_ret, ops_nil, ops_cons, st_move, st_assign, st_fun, bindO_some, bindF_some, bindX_normal, ev_tmp, ev_const, ev_func, putA, upd_at, Option.map_some, ↓reduceIte, Nat.reduceEqDiff, frOf_0, List.map_cons, List.map_nil, ↓bindO_some, ↓bindF_some, ↓bindX_normal, fin_r, res_nil, res_tmp, pack_1, s0, s1, s2, s3, o3.R.scal]
  have old12 := old1.trans (old2.mono old1.1)
  exact ⟨_, _, rfl, o3.below old12.1, old12.trans (old3.mono old12.1), wf3⟩
end Go.Proofs.Ytmmgdgmjkhcfaaa
namespace Go.Proofs.Ytmmgdgmjkhcfaaa
open Go Go.Abs Go.Num
set_option maxRecDepth 10000
def bd2 (z : Int) : Bool := decide (-1000000000000000 < z) && decide (z < 1000000000000000)
def goK : List Int → List Int → List Int → Int → Int → Bool
  | [], _, _, w, s => decide (s = w)
  | c :: cs, p :: ra, q :: rb, w, s => bd2 s && bd2 p && bd2 q && bd2 c && bd2 (p * q) && bd2 (c * (p * q)) && goK cs ra rb w (s + c * (p * q))
  | _, _, _, _, _ => false
def goS : List Int → Int → Int → Bool
  | [], w, s => decide (s = w)
  | d :: ds, w, s => bd2 s && bd2 d && bd2 (d * d) && goS ds w (s + d * d)
def clsL (n : Nat) : List Int := (natLL (parts n)).map clsZ
def dimL (n : Nat) : List Int := (natLL (parts n)).map dimZ
def orthA (n : Nat) : Bool := Nat.beq (chiTab n).length (natLL (parts n)).length && Nat.ble (natLL (parts n)).length 30 && Nat.ble 1 (natLL (parts n)).length && (natLL (parts n)).all (fun l => decide (chk l = 0)) && (chiTab n).all (fun r => Nat.beq r.length (natLL (parts n)).length) && all2 (fun r d => decide (r.getD ((natLL (parts n)).length - 1) 0 = d)) (chiTab n) (dimL n) && goS (dimL n) (fct n) 0
def orthB (n : Nat) : Bool := (List.range (chiTab n).length).all fun a => (List.range (chiTab n).length).all fun b => goK (clsL n) ((chiTab n).getD a []) ((chiTab n).getD b []) (if a = b then fct n else 0) 0
def orthC (n : Nat) : Bool := (tabB (chiTab n)).all (fun b => b.all goodV) && tabOk (tabB (chiTab n)) (sliceA 0 0 (chiTab n).length 1) (chiTab n)
set_option maxRecDepth 100000 in
theorem orthA_all : ∀ k : Fin 8, orthA (k.1 + 1) = true := by decide +kernel
set_option maxRecDepth 100000 in
theorem orthB_all : ∀ k : Fin 8, orthB (k.1 + 1) = true := by decide +kernel
set_option maxRecDepth 100000 in
theorem orthC_all : ∀ k : Fin 8, orthC (k.1 + 1) = true := by decide +kernel
theorem bd2_len {z : Int} (h : bd2 z = true) : (nf z).length ≤ 2 := by
  simp only [bd2, Bool.and_eq_true, decide_eq_true_eq] at h
  have h4 : (1000000000000000 : Int) < B ^ 2 := by decide
  exact nf_len (by omega) (by omega)
theorem drop_at0 {l : List Int} {i : Nat} (h : i < l.length) : l.drop i = l.getD i 0 :: l.drop (i + 1) := by
  rw [List.drop_eq_getElem_cons h, List.getD_eq_getElem?_getD, List.getElem?_eq_getElem h]; rfl
theorem goK_at {cs ra rb : List Int} {w s : Int} {i : Nat} (h1 : i < cs.length) (h2 : i < ra.length) (h3 : i < rb.length) (h : goK (cs.drop i) (ra.drop i) (rb.drop i) w s = true) :
    bd2 s = true ∧ bd2 (ra.getD i 0) = true ∧ bd2 (rb.getD i 0) = true ∧ bd2 (cs.getD i 0) = true ∧ bd2 (ra.getD i 0 * rb.getD i 0) = true ∧ bd2 (cs.getD i 0 * (ra.getD i 0 * rb.getD i 0)) = true ∧ goK (cs.drop (i + 1)) (ra.drop (i + 1)) (rb.drop (i + 1)) w (s + cs.getD i 0 * (ra.getD i 0 * rb.getD i 0)) = true := by
  rw [drop_at0 h1, drop_at0 h2, drop_at0 h3] at h
  simp only [goK, Bool.and_eq_true] at h
  obtain ⟨⟨⟨⟨⟨⟨a, b⟩, c⟩, d⟩, e⟩, f⟩, g⟩ := h
  exact ⟨a, b, c, d, e, f, g⟩
theorem goK_end {cs ra rb : List Int} {w s : Int} (h : goK (cs.drop cs.length) ra rb w s = true) : s = w := by
  rw [List.drop_length] at h
  exact of_decide_eq_true h
theorem goS_at {cs : List Int} {w s : Int} {i : Nat} (h1 : i < cs.length) (h : goS (cs.drop i) w s = true) :
    bd2 s = true ∧ bd2 (cs.getD i 0) = true ∧ bd2 (cs.getD i 0 * cs.getD i 0) = true ∧ goS (cs.drop (i + 1)) w (s + cs.getD i 0 * cs.getD i 0) = true := by
  rw [drop_at0 h1] at h
  simp only [goS, Bool.and_eq_true] at h
  obtain ⟨⟨⟨a, b⟩, c⟩, d⟩ := h
  exact ⟨a, b, c, d⟩
theorem goS_end {cs : List Int} {w s : Int} (h : goS (cs.drop cs.length) w s = true) : s = w := by
  rw [List.drop_length] at h
  exact of_decide_eq_true h
structure Orth (n : Nat) : Prop where
  len : (chiTab n).length = (natLL (parts n)).length
  few : (natLL (parts n)).length ≤ 30
  one : 1 ≤ (natLL (parts n)).length
  valid : ∀ l ∈ natLL (parts n), chk l = 0
  rows : ∀ r ∈ chiTab n, r.length = (natLL (parts n)).length
  last : ∀ (i : Nat) r d, (chiTab n)[i]? = some r → (dimL n)[i]? = some d → r.getD ((natLL (parts n)).length - 1) 0 = d
  sq : goS (dimL n) (fct n) 0 = true
  orth : ∀ a b, a < (chiTab n).length → b < (chiTab n).length → goK (clsL n) ((chiTab n).getD a []) ((chiTab n).getD b []) (if a = b then fct n else 0) 0 = true
  good : ((tabB (chiTab n)).all fun b => b.all goodV) = true
  tab : tabOk (tabB (chiTab n)) (sliceA 0 0 (chiTab n).length 1) (chiTab n) = true
theorem orth_all {n : Nat} (h1 : 1 ≤ n) (h8 : n ≤ 8) : Orth n := by
  obtain ⟨k, rfl⟩ : ∃ k, n = k + 1 := ⟨n - 1, by omega⟩
  have hA := orthA_all ⟨k, by omega⟩
  have hB := orthB_all ⟨k, by omega⟩
  have hC := orthC_all ⟨k, by omega⟩
  simp only [orthA, Bool.and_eq_true] at hA
  obtain ⟨⟨⟨⟨⟨⟨a1, a2⟩, a3⟩, a4⟩, a5⟩, a6⟩, a7⟩ := hA
  simp only [orthC, Bool.and_eq_true] at hC
  refine ⟨Nat.eq_of_beq_eq_true a1, Nat.le_of_ble_eq_true a2, Nat.le_of_ble_eq_true a3, fun l hl => ?_, fun r hr => ?_, fun i r d hr hd => ?_, a7, fun a b ha hb => ?_, hC.1, hC.2⟩
  · exact of_decide_eq_true (List.all_eq_true.1 a4 l hl)
  · exact Nat.eq_of_beq_eq_true (List.all_eq_true.1 a5 r hr)
  · exact of_decide_eq_true ((all2_spec a6).2 i r d hr hd)
  · exact List.all_eq_true.1 (List.all_eq_true.1 hB a (List.mem_range.2 ha)) b (List.mem_range.2 hb)
end Go.Proofs.Ytmmgdgmjkhcfaaa
namespace Go.Proofs.Ytmmgdgmjkhcfaaa
open Go Go.Abs Go.Num
set_option maxRecDepth 10000
attribute [local congr] bindO_congr bindF_congr bindX_congr condX_congr iteB_congr binS_congr pickS_congr eqB_congr nilS_congr
def vb (x : Int) : Value := .int .u8 x
noncomputable def cvS (s e : TypeId) (v : Value) (H : Heap) : Option Value := match textA Try.prog s e v H with
  | some t => some t
  | none => if plain v then (match (pureVal Try.prog (do let x ← convert s e v; pure (Next.value x))).bind valOf with
    | some u => if plain u then some u else none
    | none => none) else none
theorem sy_conv {call : CallF} {a : Fr} {H : Heap} {d : Option Nat} {ty : TypeId} {pos : String} {aft : Array Edge} {g : Option (Nat × Bool)} {s e : TypeId} {x : Operand} : stepA Try.prog call a ⟨d, .convert s e x, ty, pos, aft, g⟩ H = (cvS s e (ev a x) H).map (·, H) := by
  show aexec Try.prog a ⟨d, .convert s e x, ty, pos, aft, g⟩ H = _
  simp only [aexec]
  unfold cvS
  cases textA Try.prog s e (ev a x) H with
  | some t => rfl
  | none =>
    show (plainA Try.prog a _).map _ = _
    unfold plainA
    by_cases h : plain (ev a x) = true
    · rw [if_pos (by simp [Op.operands, h]), if_pos h]
      rfl
    · rw [if_neg (by simp [Op.operands, h]), if_neg h]
end Go.Proofs.Ytmmgdgmjkhcfaaa
namespace Go.Proofs.Ytmmgdgmjkhcfaaa
open Go Go.Abs Go.Num
set_option maxRecDepth 10000
attribute [local congr] bindO_congr bindF_congr bindX_congr condX_congr iteB_congr binS_congr pickS_congr eqB_congr nilS_congr clsW_congr maxS_congr minS_congr
noncomputable def hooA : Code := atC [1, 1, 1, 0, 1, 0, 0] ((Try.f91.body).getD .skip)
noncomputable def hooB : Code := atC [1, 1, 1, 0, 1, 0, 0, 1, 1, 0, 0, 1, 1, 0, 1, 0, 0] ((Try.f91.body).getD .skip)
theorem hk_inner {H : Heap} {vp vq : Value} {l : List Int} (hp : Part l) {i : Nat} (hi : i < l.length) (hw : WF H) (hq : R H vq (ints (conjP l))) (call : CallF) (m nt : Nat) {a : Fr} {k : Nat} (hk : 30 ≤ k) {v4 v12 v13 : Value} (h3 : a 3 = vq) (h4 : a 4 = v4) (h5 : a 5 = vi i) (h6 : a 6 = vi (l.getD i 0)) (h7 : a 7 = .slice none 0 0) (h11 : a 11 = vp) (h12 : a 12 = v12) (h13 : a 13 = v13) (h18 : a 18 = vi (l.getD i 0)) (h19 : a 19 = vi (0 : Nat)) :
    ∃ r a' H', loopN (evS Try.prog call m nt none hooB) k a H = some (r, a', H') ∧ r = .exit 2 ∧ a' 3 = vq ∧ a' 4 = v4 ∧ a' 11 = vp ∧ a' 12 = v12 ∧ a' 13 = v13 ∧ Old H.length H H' ∧ WF H' ∧ ∃ vr, a' 7 = vr ∧ O H.length H' vr (ints (hookRow l i)) := by
  have hg := hp.getD hi
  refine loop_up (l.getD i 0).toNat (fun j a H' => a 3 = vq ∧ a 4 = v4 ∧ a 5 = vi i ∧ a 6 = vi (l.getD i 0) ∧ a 11 = vp ∧ a 12 = v12 ∧ a 13 = v13 ∧ a 18 = vi (l.getD i 0) ∧ a 19 = vi j ∧ Old H.length H H' ∧ WF H' ∧ ∃ vr, a 7 = vr ∧ O H.length H' vr (ints ((List.range j).map (hkV l i)))) _ ?_ ?_ (by omega) ⟨h3, h4, h5, h6, h11, h12, h13, h18, h19, Old.refl _ _, hw, _, h7, O.nil _ _⟩
  · intro j a H' hj ⟨h3, h4, h5, h6, h11, h12, h13, h18, h19, old, hw, vr, h7, ho⟩
    left
    rw [show hooB = atC [1, 1, 1, 0, 1, 0, 0, 1, 1, 0, 0, 1, 1, 0, 1, 0, 0] ((Try.f91.body).getD .skip) from rfl]
    obtain ⟨b1, b2, b3, b4, b5⟩ := hk_bd hp hi hj
    have hq' := hq.mono old
    have hlen := hp.len
    have hlt : (j : Int) < l.getD i 0 := by omega
    have e1 : IntKind.i64.wrap (l.getD i 0 - (j : Int)) = l.getD i 0 - (j : Int) := wr64 (by omega) (by omega)
    have e2 : IntKind.i64.wrap (l.getD i 0 - (j : Int) + (conjP l).getD j 0) = l.getD i 0 - (j : Int) + (conjP l).getD j 0 := wr64 (by omega) (by omega)
    have e3 : IntKind.i64.wrap (l.getD i 0 - (j : Int) + (conjP l).getD j 0 - (i : Int)) = l.getD i 0 - (j : Int) + (conjP l).getD j 0 - (i : Int) := wr64 (by omega) (by omega)
    have e4 : IntKind.i64.wrap (l.getD i 0 - (j : Int) + (conjP l).getD j 0 - (i : Int) - 1) = hkV l i j := wr64 (by omega) (by omega)
    have e5 : IntKind.i64.wrap ((j : Int) + 1) = ((j + 1 : Nat) : Int) := by rw [wr64 (by omega) (by omega)]; omega
    obtain ⟨v2, H2, s2, o2, old2, wf2⟩ := ho.pushI hw old.1 (by rw [List.length_map, List.length_range]; unfold maxA; omega) (hkV l i j)
    simp (disch := omega) only [Try.f91, Option.getD_some, atC, es_seq, es_region, es_cond, es_block, es_skip, ops_nil, ops_cons, st_move, st_assign, sy_addr eL, sy_load aI, sy_bin, sy_append eL pI, sy_build1 eL oI, binS_lss, binS_add, binS_sub, bindO_some, bindF_some, bindX_normal, blkX_normal, condX_true, ev_tmp, ev_const, putA, upd_at, Option.map_some, ↓reduceIte, Nat.reduceEqDiff, Int.toNat_natCast, decide_true, ↓bindO_some, ↓bindF_some, ↓bindX_normal, ↓condX_true, scal_vi, h3, h5, h6, h7, h18, h19, hlt, hq'.addrI, hq'.loadI, e1, e2, e3, e4, scal_vi, s2, e5]
    exact ⟨_, _, rfl, h3, h4, h5, h6, h11, h12, h13, h18, rfl, old.trans old2, wf2, v2, rfl, by rw [map_range_succ]; exact o2⟩
  · intro a H' ⟨h3, h4, h5, h6, h11, h12, h13, h18, h19, old, hw, vr, h7, ho⟩
    rw [show hooB = atC [1, 1, 1, 0, 1, 0, 0, 1, 1, 0, 0, 1, 1, 0, 1, 0, 0] ((Try.f91.body).getD .skip) from rfl]
    have hlt : ¬ (((l.getD i 0).toNat : Nat) : Int) < l.getD i 0 := by omega
    simp (disch := omega) only [Try.f91, Option.getD_some, atC, es_seq, es_region, es_cond, es_exit, ops_nil, ops_cons, sy_bin, binS_lss, bindO_some, bindF_some, bindX_normal, bindX_exit, condX_false, ev_tmp, putA, upd_at, ↓reduceIte, decide_false, ↓bindO_some, ↓bindF_some, ↓bindX_normal, ↓bindX_exit, ↓condX_false, h18, h19, hlt]
    exact ⟨_, _, _, rfl, by simp, rfl, h3, h4, h11, h12, h13, old, hw, vr, h7, ho⟩
def OneLL (H : Heap) (r : Option (Value × Heap)) (ls : List (List Int)) : Prop := ∃ v H', r = some (v, H') ∧ OL H.length H' v ls ∧ Old H.length H H' ∧ WF H'
theorem hooks_run {H : Heap} {v : Value} {l : List Int} (hw : WF H) (hv : R H v (ints l)) (hp : Part l) (n : Nat) (hn : 1020 ≤ n) : OneLL H (evB Try.prog noC n (.func (.func 91) #[] #[]) [v] H) (hooksL l) := by
  refine run_of (F := 1019) (Q := fun r => OneLL H r (hooksL l)) (fun n hn => ?_) n hn
  rw [body_runS Try.func91 rfl (ok_fn (by rfl) Try.func91 rfl) (Nat.le_of_ble_eq_true rfl) (D := D0) (by kernel_rfl)]
  have hl := hp.len
  have hl0 : 0 ≤ l.getD 0 0 ∧ l.getD 0 0 ≤ 1000 := by have := hp.sm.getD 0; by_cases h : 0 < l.length
                                                      · have := hp.getD h; omega
                                                      · rw [List.getD_eq_getElem?_getD, List.getElem?_eq_none (by omega)]; simp
  obtain ⟨vq, H1, s1, oq, old1, wf1⟩ := conj_run hw hv (by omega) hl0.1 hl0.2 n (by omega)
  have hv1 := hv.mono old1
  have key : ∀ A : Fr, A 3 = vq → A 4 = .slice none 0 0 → A 11 = v → A 12 = vi l.length → A 13 = vi (0 : Nat) → ∃ r a' H', loopN (evS Try.prog (evB Try.prog noC n) n Try.f91.ntmps none hooA) n A H1 = some (r, a', H') ∧ r = .exit 0 ∧ ∃ vo, a' 4 = vo ∧ OL H.length H' vo (hooksL l) ∧ Old H.length H H' ∧ WF H' := by
    intro A h3 h4 h11 h12 h13
    refine loop_up l.length (fun i a H' => a 3 = vq ∧ a 11 = v ∧ a 12 = vi l.length ∧ a 13 = vi i ∧ Old H1.length H1 H' ∧ WF H' ∧ ∃ vo, a 4 = vo ∧ OL H1.length H' vo ((List.range i).map (hookRow l))) _ ?_ ?_ (by omega) ⟨h3, h11, h12, h13, Old.refl _ _, wf1, _, h4, OG.nil _ _⟩
    · intro i a H' hi ⟨h3, h11, h12, h13, old, hw, vo, h4, ho⟩
      left
      rw [show hooA = atC [1, 1, 1, 0, 1, 0, 0] ((Try.f91.body).getD .skip) from rfl]
      have hv' := hv1.mono old
      have hq' := oq.R.mono old
      have hlt : (i : Int) < l.length := by omega
      have e1 : IntKind.i64.wrap ((i : Int) + 1) = ((i + 1 : Nat) : Int) := by rw [wr64 (by omega) (by omega)]; omega
      have k1 := fun (F : Fr) => hk_inner (vp := v) hp hi hw hq' (evB Try.prog noC n) n Try.f91.ntmps (a := F) (k := n) (v4 := vo) (v12 := vi l.length) (v13 := vi i) (by omega)
      rw [show hooB = atC [1, 1, 1, 0, 1, 0, 0, 1, 1, 0, 0, 1, 1, 0, 1, 0, 0] ((Try.f91.body).getD .skip) from rfl] at k1
      simp only [Try.f91, Option.getD_some, atC] at k1
      simp (disch := omega) only [Try.f91, Option.getD_some, atC, es_seq, es_region, es_cond, es_block, es_loop, es_skip, ops_nil, ops_cons, st_move, st_assign, sy_addr eL, sy_load aI, sy_bin, binS_lss, bindO_some, bindF_some, bindX_normal, condX_true, ev_tmp, ev_const, putA, upd_at, Option.map_some, ↓reduceIte, Nat.reduceEqDiff, Int.toNat_natCast, decide_true, ↓bindO_some, ↓bindF_some, ↓bindX_normal, ↓condX_true, h11, h12, h13, hlt, hv'.addrI, hv'.loadI]
      generalize hF : upd _ 19 _ = F
      obtain ⟨r, a', H3, e, hr, g3, g4, g11, g12, g13, old3, wf3, vr, g7, hrow⟩ := k1 F (by subst hF; exact h3) (by subst hF; exact h4) (by subst hF; rfl) (by subst hF; rfl) (by subst hF; rfl) (by subst hF; exact h11) (by subst hF; exact h12) (by subst hF; exact h13) (by subst hF; rfl) (by subst hF; rfl)
      subst hr
      rw [e]
      clear e k1
      obtain ⟨v2, H4, s4, o4, old4, wf4⟩ := OL.push ho old3 wf3 old.1 hrow (Nat.le_refl _) (by rw [List.length_map, List.length_range]; unfold maxA; omega)
      simp (disch := omega) only [binS_add, bindO_some, bindF_some, bindX_normal, blkX_normal, blkX_exit, ev_tmp, upd_at, ↓reduceIte, Nat.reduceEqDiff, ↓bindO_some, ↓bindF_some, ↓bindX_normal, sy_appN eLL pLL, sy_build1 eLL oLL, g4, g7, g13, hrow.R.scal, s4, e1]
      exact ⟨_, _, rfl, g3, g11, g12, rfl, (old.trans (old3.mono old.1)).trans old4, wf4, v2, rfl, by rw [map_range_succ]; exact o4⟩
    · intro a H' ⟨h3, h11, h12, h13, old, hw, vo, h4, ho⟩
      rw [show hooA = atC [1, 1, 1, 0, 1, 0, 0] ((Try.f91.body).getD .skip) from rfl]
      simp (disch := omega) only [Try.f91, Option.getD_some, atC, es_seq, es_region, es_cond, es_exit, ops_nil, ops_cons, sy_bin, binS_lss, bindO_some, bindF_some, bindX_normal, bindX_exit, condX_false, ev_tmp, putA, upd_at, ↓reduceIte, decide_false, ↓bindO_some, ↓bindF_some, ↓bindX_normal, ↓bindX_exit, ↓condX_false, h12, h13, Int.lt_irrefl]
      exact ⟨_, _, _, rfl, by simp, rfl, vo, h4, OG.below ho old1.1, old1.trans (old.mono old1.1), hw⟩
  rw [show hooA = atC [1, 1, 1, 0, 1, 0, 0] ((Try.f91.body).getD .skip) from rfl] at key
  simp only [Try.f91, Option.getD_some, atC] at key
  simp (disch := omega) only [Try.f91, es_seq, es_region, es_block, es_loop, es_ret, ops_nil, ops_cons, st_move, st_assign, st_fun, sy_len uL, bindO_some, bindF_some, bindX_normal, ev_tmp, ev_const, ev_func, putA, upd_at, Option.map_some, ↓reduceIte, Nat.reduceEqDiff, frOf_0, List.map_cons, List.map_nil, ↓bindO_some, ↓bindF_some, ↓bindX_normal, s1, hv1.lenI]
  generalize hA : upd _ 13 _ = A
  obtain ⟨r, a', H', e, hr, vo, h4, ho, old, wf⟩ := key A (by subst hA; rfl) (by subst hA; rfl) (by subst hA; rfl) (by subst hA; rfl) (by subst hA; rfl)
  subst hr
  rw [e]
  simp (disch := omega) only [bindX_normal, blkX_exit, upd_at, Option.map_some, ↓reduceIte, ↓bindX_normal, fin_r, res_nil, res_tmp, pack_1, h4, ho.RL.scal]
  exact ⟨_, _, rfl, ho, old, wf⟩
end Go.Proofs.Ytmmgdgmjkhcfaaa
namespace Go.Proofs.Ytmmgdgmjkhcfaaa
open Go Go.Abs Go.Num
set_option maxRecDepth 10000
attribute [local congr] bindO_congr bindF_congr bindX_congr condX_congr iteB_congr binS_congr pickS_congr eqB_congr nilS_congr clsW_congr maxS_congr minS_congr
theorem row_take {r : List Int} {j : Nat} (h : j < r.length) (t : List Int) : t ++ r.take (j + 1) = (t ++ r.take j) ++ [r.getD j 0] := by rw [take_snoc' h, List.append_assoc]
noncomputable def dmA : Code := atC [1, 1, 0, 1, 0, 0] ((Try.f82.body).getD .skip)
noncomputable def dmB : Code := atC [1, 1, 0, 1, 0, 0, 1, 1, 0, 0, 1, 1, 0, 0] ((Try.f82.body).getD .skip)
theorem dm_inner {B0 : Nat} {H0 H : Heap} {vr vh vo : Value} {l : List Int} (hp : Part l) {i : Nat} (hi : i < l.length) (hB : B0 = H0.length) (old : Old B0 H0 H) (hw : WF H) (hr : R H vr (ints (hookRow l i))) (ho : O B0 H vo (ints (nf (prodL (hkT l i))))) (n m nt : Nat) (hn : 2020 ≤ n) {a : Fr} {k : Nat} (hk : 30 ≤ k) {v0 v11 v12 : Value} (h0 : a 0 = v0) (h3 : a 3 = vo) (h10 : a 10 = vh) (h11 : a 11 = v11) (h12 : a 12 = v12) (h16 : a 16 = vr) (h17 : a 17 = vi (hookRow l i).length) (h18 : a 18 = vi (0 : Nat)) :
    ∃ r a' H', loopN (evS Try.prog (evB Try.prog noC n) m nt none dmB) k a H = some (r, a', H') ∧ r = .exit 2 ∧ a' 0 = v0 ∧ a' 10 = vh ∧ a' 11 = v11 ∧ a' 12 = v12 ∧ Old H.length H H' ∧ WF H' ∧ ∃ vo, a' 3 = vo ∧ O B0 H' vo (ints (nf (prodL (hkT l (i + 1))))) := by
  have hg := hp.getD hi
  have hrl := hookRow_len l i
  refine loop_up (hookRow l i).length (fun j a H' => a 0 = v0 ∧ a 10 = vh ∧ a 11 = v11 ∧ a 12 = v12 ∧ a 16 = vr ∧ a 17 = vi (hookRow l i).length ∧ a 18 = vi j ∧ Old H.length H H' ∧ WF H' ∧ ∃ vo, a 3 = vo ∧ O B0 H' vo (ints (nf (prodL (hkT l i ++ (hookRow l i).take j))))) _ ?_ ?_ (by omega) ⟨h0, h10, h11, h12, h16, h17, h18, Old.refl _ _, hw, vo, h3, by rw [List.take_zero, List.append_nil]; exact ho⟩
  · intro j a H' hj ⟨h0, h10, h11, h12, h16, h17, h18, old2, hw, vo, h3, ho⟩
    left
    rw [show dmB = atC [1, 1, 0, 1, 0, 0, 1, 1, 0, 0, 1, 1, 0, 0] ((Try.f82.body).getD .skip) from rfl]
    have hr' := hr.mono old2
    have hlt : (j : Int) < (hookRow l i).length := by omega
    have e5 : IntKind.i64.wrap ((j : Int) + 1) = ((j + 1 : Nat) : Int) := by rw [wr64 (by omega) (by omega)]; omega
    have hm := hookRow_mem hp hi _ (getD_mem hj)
    have hb := dim_bd hp hi (Nat.le_of_lt hj)
    obtain ⟨v2, H2, s2, o2, old3, wf2⟩ := ctimes_run (z := (hookRow l i).getD j 0) hw (NumV.of ho.R (by omega)) (by omega) (by omega) (by omega) n (by omega)
    simp (disch := omega) only [Try.f82, Option.getD_some, atC, es_seq, es_region, es_cond, es_block, es_skip, ops_nil, ops_cons, st_move, st_assign, st_fun, sy_addr eL, sy_load aI, sy_bin, binS_lss, binS_add, bindO_some, bindF_some, bindX_normal, blkX_normal, condX_true, ev_tmp, ev_const, ev_func, putA, upd_at, Option.map_some, ↓reduceIte, Nat.reduceEqDiff, Int.toNat_natCast, List.map_cons, List.map_nil, decide_true, ↓bindO_some, ↓bindF_some, ↓bindX_normal, ↓condX_true, h3, h16, h17, h18, hlt, hr'.addrI, hr'.loadI, s2, e5]
    have g0 := old.1
    have g2 := old2.1
    exact ⟨_, _, rfl, h0, h10, h11, h12, h16, h17, rfl, old2.trans (old3.mono old2.1), wf2, v2, rfl, by rw [row_take hj, prodL_snoc]; exact o2.below (by omega)⟩
  · intro a H' ⟨h0, h10, h11, h12, h16, h17, h18, old2, hw, vo, h3, ho⟩
    rw [show dmB = atC [1, 1, 0, 1, 0, 0, 1, 1, 0, 0, 1, 1, 0, 0] ((Try.f82.body).getD .skip) from rfl]
    simp (disch := omega) only [Try.f82, Option.getD_some, atC, es_seq, es_region, es_cond, es_exit, ops_nil, ops_cons, sy_bin, binS_lss, bindO_some, bindF_some, bindX_normal, bindX_exit, condX_false, ev_tmp, putA, upd_at, ↓reduceIte, decide_false, ↓bindO_some, ↓bindF_some, ↓bindX_normal, ↓bindX_exit, ↓condX_false, h17, h18, Int.lt_irrefl]
    exact ⟨_, _, _, rfl, by simp, rfl, h0, h10, h11, h12, old2, hw, vo, h3, by rw [List.take_length] at ho; rw [hkT_succ hi]; exact ho⟩
theorem dim_run {H : Heap} {v : Value} {l : List Int} (hw : WF H) (hv : R H v (ints l)) (hp : Part l) (n : Nat) (hn : 100020000 ≤ n) : OneL H (evB Try.prog noC n (.func (.func 82) #[] #[]) [v] H) (nf (dimZ l)) := by
  refine run_of (F := 100019999) (Q := fun r => OneL H r (nf (dimZ l))) (fun n hn => ?_) n hn
  rw [body_runS Try.func82 rfl (ok_fn (by rfl) Try.func82 rfl) (Nat.le_of_ble_eq_true rfl) (D := D0) (by kernel_rfl)]
  have hl := hp.len
  have hs0 := hp.sum0
  have hs1 := hp.sum
  obtain ⟨v1, H1, s1, o1, old1, wf1⟩ := of_run (z := 1) hw (by omega) (by omega) n (by omega)
  obtain ⟨vh, H2, s2, oh, old2, wf2⟩ := hooks_run wf1 (hv.mono old1) hp n (by omega)
  have rl2 := oh.RL
  have ll2 := RG.len rl2
  rw [hooksL_len] at ll2
  have old02 := old1.trans (old2.mono old1.1)
  have g1 := old1.1
  have g2 := old2.1
  have key : ∀ A : Fr, A 0 = v → A 3 = v1 → A 10 = vh → A 11 = vi l.length → A 12 = vi (0 : Nat) → ∃ r a' H', loopN (evS Try.prog (evB Try.prog noC n) n Try.f82.ntmps none dmA) n A H2 = some (r, a', H') ∧ r = .exit 0 ∧ a' 0 = v ∧ ∃ vo, a' 3 = vo ∧ O H.length H' vo (ints (nf (prodL (hkT l l.length)))) ∧ Old H.length H H' ∧ WF H' := by
    intro A h0 h3 h10 h11 h12
    refine loop_up l.length (fun i a H' => a 0 = v ∧ a 10 = vh ∧ a 11 = vi l.length ∧ a 12 = vi i ∧ Old H2.length H2 H' ∧ WF H' ∧ ∃ vo, a 3 = vo ∧ O H.length H' vo (ints (nf (prodL (hkT l i))))) _ ?_ ?_ (by omega) ⟨h0, h10, h11, h12, Old.refl _ _, wf2, v1, h3, o1.mono old2⟩
    · intro i a H' hi ⟨h0, h10, h11, h12, old, hw, vo, h3, ho⟩
      left
      rw [show dmA = atC [1, 1, 0, 1, 0, 0] ((Try.f82.body).getD .skip) from rfl]
      have hlt : (i : Int) < l.length := by omega
      have e1 : IntKind.i64.wrap ((i : Int) + 1) = ((i + 1 : Nat) : Int) := by rw [wr64 (by omega) (by omega)]; omega
      have rl' := rl2.mono old
      obtain ⟨vr, lr, hr⟩ := rl'.row (i := i) (by rw [hooksL_len]; exact hi)
      rw [hooksL_get hi] at hr
      have ad := rl'.addr (i := i) (by rw [hooksL_len]; exact hi)
      have hrl := hookRow_len l i
      have hg := hp.getD hi
      have k1 := fun (F : Fr) => dm_inner (vh := vh) hp hi rfl (old02.trans (old.mono (by omega))) hw hr ho n n Try.f82.ntmps (by omega) (a := F) (k := n) (v0 := v) (v11 := vi l.length) (v12 := vi i) (by omega)
      rw [show dmB = atC [1, 1, 0, 1, 0, 0, 1, 1, 0, 0, 1, 1, 0, 0] ((Try.f82.body).getD .skip) from rfl] at k1
      simp only [Try.f82, Option.getD_some, atC] at k1
      simp (disch := omega) only [Try.f82, Option.getD_some, atC, es_seq, es_region, es_cond, es_block, es_loop, es_skip, ops_nil, ops_cons, st_move, st_assign, sy_len uL, sy_bin, binS_lss, bindO_some, bindF_some, bindX_normal, condX_true, ev_tmp, ev_const, putA, upd_at, Option.map_some, ↓reduceIte, Nat.reduceEqDiff, decide_true, ↓bindO_some, ↓bindF_some, ↓bindX_normal, ↓condX_true, sy_load aL, sy_addr eLL, h10, h11, h12, hlt, ad, lr, hr.lenI]
      generalize hF : upd _ 18 _ = F
      obtain ⟨r, a', H3, e, hr', g0, g10, g11, g12, old3, wf3, vo3, g3, ho3⟩ := k1 F (by subst hF; exact h0) (by subst hF; exact h3) (by subst hF; exact h10) (by subst hF; exact h11) (by subst hF; exact h12) (by subst hF; rfl) (by subst hF; rfl) (by subst hF; rfl)
      subst hr'
      rw [e]
      clear e k1
      simp (disch := omega) only [binS_add, bindO_some, bindF_some, bindX_normal, blkX_normal, blkX_exit, ↓reduceIte, ↓bindO_some, ↓bindF_some, ↓bindX_normal, g12, e1]
      exact ⟨_, _, rfl, g0, g10, g11, rfl, old.trans (old3.mono old.1), wf3, vo3, g3, ho3⟩
    · intro a H' ⟨h0, h10, h11, h12, old, hw, vo, h3, ho⟩
      rw [show dmA = atC [1, 1, 0, 1, 0, 0] ((Try.f82.body).getD .skip) from rfl]
      simp (disch := omega) only [Try.f82, Option.getD_some, atC, es_seq, es_region, es_cond, es_exit, ops_nil, ops_cons, sy_bin, binS_lss, bindO_some, bindF_some, bindX_normal, bindX_exit, condX_false, ev_tmp, putA, upd_at, ↓reduceIte, decide_false, ↓bindO_some, ↓bindF_some, ↓bindX_normal, ↓bindX_exit, ↓condX_false, h11, h12, Int.lt_irrefl]
      exact ⟨_, _, _, rfl, by simp, rfl, h0, vo, h3, ho, old02.trans (old.mono (by omega)), hw⟩
  rw [show dmA = atC [1, 1, 0, 1, 0, 0] ((Try.f82.body).getD .skip) from rfl] at key
  simp only [Try.f82, Option.getD_some, atC] at key
  simp (disch := omega) only [Try.f82, es_seq, es_region, es_block, es_loop, es_ret, ops_nil, ops_cons, st_move, st_assign, st_fun, bindO_some, bindF_some, bindX_normal, ev_tmp, ev_const, ev_func, putA, upd_at, Option.map_some, ↓reduceIte, Nat.reduceEqDiff, frOf_0, List.map_cons, List.map_nil, ↓bindO_some, ↓bindF_some, ↓bindX_normal, sy_len uLL, s1, s2, ll2]
  generalize hA : upd _ 12 _ = A
  obtain ⟨r, a', H', e, hr, h0, vo, h3, ho, old, wf⟩ := key A (by subst hA; rfl) (by subst hA; rfl) (by subst hA; rfl) (by subst hA; rfl) (by subst hA; rfl)
  subst hr
  rw [e]
  clear e key
  have s3 := csize_run (hv.mono old) hp.sm n (by omega)
  rw [show l.sum = ((l.sum.toNat : Nat) : Int) from by omega] at s3
  have lf := fct_len (k := l.sum.toNat) (by omega)
  have pf := fct_le (k := l.sum.toNat) (by omega)
  have hd := dimT_bd hp
  obtain ⟨v4, H4, s4, o4, old4, wf4⟩ := cfact_run (k := l.sum.toNat) wf (by omega) n (by omega)
  obtain ⟨v5, H5, s5, o5, old5, wf5⟩ := overC_run long_all wf4 (NumV.of o4.R (by omega)) (NumV.of (ho.R.mono old4) (by omega)) (by omega) (by omega) (by omega) (by omega) n (by omega)
  simp (disch := omega) only [bindO_some, bindF_some, bindX_normal, blkX_exit, upd_at, Option.map_some, ↓reduceIte, ↓bindO_some, ↓bindF_some, ↓bindX_normal, fin_r, res_nil, res_tmp, pack_1, h0, h3, s3, s4, s5, o5.R.scal]
  have old04 := old.trans (old4.mono old.1)
  exact ⟨_, _, rfl, o5.below old04.1, old04.trans (old5.mono old04.1), wf5⟩
end Go.Proofs.Ytmmgdgmjkhcfaaa
namespace Go.Proofs.Ytmmgdgmjkhcfaaa
open Go Go.Abs Go.Num
set_option maxRecDepth 10000
attribute [local congr] bindO_congr bindF_congr bindX_congr condX_congr iteB_congr binS_congr pickS_congr eqB_congr nilS_congr clsW_congr maxS_congr minS_congr
def nx (l : List Int) (i j r : Nat) : Int := if i ≤ r ∧ r < j then bead l (r + 1) else bead l r
end Go.Proofs.Ytmmgdgmjkhcfaaa
namespace Go.Proofs.Ytmmgdgmjkhcfaaa
open Go Go.Abs Go.Num
set_option maxRecDepth 10000
attribute [local congr] bindO_congr bindF_congr bindX_congr condX_congr iteB_congr binS_congr pickS_congr eqB_congr nilS_congr clsW_congr maxS_congr minS_congr
def Same (S : List Nat) (a b : Fr) : Prop := ∀ t ∈ S, b t = a t
theorem Same.refl (S : List Nat) (a : Fr) : Same S a a := fun _ _ => rfl
theorem Same.trans {S : List Nat} {a b c : Fr} (h : Same S a b) (h' : Same S b c) : Same S a c := fun t ht => (h' t ht).trans (h t ht)
theorem Same.upd {S : List Nat} {a b : Fr} (h : Same S a b) {t : Nat} (ht : t ∉ S) (v : Value) : Same S a (Abs.upd b t v) := fun s hs => by
  by_cases e : s = t
  · subst e; exact absurd hs ht
  · rw [upd_at, if_neg e]; exact h s hs
theorem Same.sub {S T : List Nat} {a b : Fr} (h : Same S a b) (hs : ∀ t ∈ T, t ∈ S) : Same T a b := fun t ht => h t (hs t ht)
end Go.Proofs.Ytmmgdgmjkhcfaaa
namespace Go.Proofs.Ytmmgdgmjkhcfaaa
open Go Go.Abs Go.Num
set_option maxRecDepth 10000
attribute [local congr] bindO_congr bindF_congr bindX_congr condX_congr iteB_congr binS_congr pickS_congr eqB_congr nilS_congr clsW_congr maxS_congr minS_congr
def dimE (l : List Int) : List Int := if chk l = 0 then nf (dimZ l) else []
theorem dimW_run {H : Heap} {v : Value} {l : List Int} (hw : WF H) (hv : R H v (ints l)) (hl : l.length ≤ 1000) (n : Nat) (hn : 100030000 ≤ n) : OneT H (evB Try.prog noC n (.func (.func 34) #[] #[]) [v] H) (fun u => .tuple #[u, vi (chk l)]) (dimE l) := by
  refine run_of (F := 100029999) (Q := fun r => OneT H r (fun u => .tuple #[u, vi (chk l)]) (dimE l)) (fun n hn => ?_) n hn
  rw [body_runS Try.func34 rfl (ok_fn (by rfl) Try.func34 rfl) (Nat.le_of_ble_eq_true rfl) (D := D0) (by kernel_rfl)]
  have s0 := ccheck_run hv hl n (by omega)
  by_cases hc : chk l = 0
  · rw [show dimE l = nf (dimZ l) from if_pos hc]
    obtain ⟨v1, H1, s1, o1, old1, wf1⟩ := dim_run hw hv (chk_part hc) n (by omega)
    have c1 : decide (chk l = 0) = true := decide_eq_true hc
    simp (disch := omega) only [Try.f34, es_seq, es_region, es_cond, es_skip, es_ret, ops_nil, ops_cons, st_move, st_assign, st_fun, sy_bin, binS_neq, bindO_some, bindF_some, bindX_normal, condX_false, ev_tmp, ev_const, ev_func, putA, upd_at, Option.map_some, ↓reduceIte, Nat.reduceEqDiff, frOf_0, List.map_cons, List.map_nil, Bool.not_true, ↓bindO_some, ↓bindF_some, ↓bindX_normal, ↓condX_false, fin_r, res_nil, res_tmp, pack_2, scal_vi, s0, c1, s1, o1.R.scal]
    exact ⟨_, _, by rw [hc], o1, old1, wf1⟩
  · rw [show dimE l = [] from if_neg hc]
    have c1 : decide (chk l = 0) = false := decide_eq_false hc
    simp (disch := omega) only [Try.f34, es_seq, es_region, es_cond, es_ret, ops_nil, ops_cons, st_move, st_assign, st_fun, sy_bin, binS_neq, bindO_some, bindF_some, bindX_normal, bindX_ret, condX_true, ev_tmp, ev_const, ev_func, putA, upd_at, Option.map_some, ↓reduceIte, Nat.reduceEqDiff, frOf_0, List.map_cons, List.map_nil, Bool.not_false, ↓bindO_some, ↓bindF_some, ↓bindX_normal, ↓bindX_ret, ↓condX_true, fin_r, res_nil, res_tmp, pack_2, scal_vi, scal_nil, s0, c1]
    exact ⟨_, _, rfl, O.nil _ _, Old.refl _ _, hw⟩
end Go.Proofs.Ytmmgdgmjkhcfaaa
namespace Go.Proofs.Ytmmgdgmjkhcfaaa
open Go Go.Abs Go.Num
set_option maxRecDepth 10000
attribute [local congr] bindO_congr bindF_congr bindX_congr condX_congr iteB_congr binS_congr pickS_congr eqB_congr nilS_congr clsW_congr
theorem cpl_reset {l z : List Int} {i : Nat} {u w : Int} (hz : z.length = i) : (cpl l (z ++ [u]) (i + 1)).set i w = cpl l (z ++ [w]) (i + 1) := by
  unfold cpl
  rw [List.append_assoc, List.append_assoc, List.set_append_right _ _ (by omega), hz, Nat.sub_self]; rfl
theorem cpl_last {l z : List Int} {i : Nat} {u : Int} (hz : z.length = i) : (cpl l (z ++ [u]) (i + 1)).getD i 0 = u := by
  unfold cpl
  rw [List.getD_eq_getElem?_getD, List.append_assoc, List.getElem?_append_right (by omega), hz, Nat.sub_self]
  rfl
noncomputable def lesA : Code := atC [1, 1, 0, 1, 0, 0] ((Try.f116.body).getD .skip)
theorem les_loop {B0 : Nat} {H : Heap} {va vb : Value} {x y : Int} (ha : O B0 H va (ints (nf x))) (hb : ∀ H', Old B0 H H' → R H' vb (ints (nf y))) (x0 : 0 ≤ x) (y0 : 0 ≤ y) (hw : WF H) (lx : (nf x).length ≤ 900) (call : CallF) (m nt : Nat) {a : Fr} {k : Nat} (hk : (nf x).length < k)
    (h0 : a 0 = va) (h1 : a 1 = vb) (h5 : a 5 = vi 0) (h8 : a 8 = vi (nf x).length) (h9 : a 9 = vi (0 : Nat)) :
    ∃ r a' H', loopN (evS Try.prog call m nt none lesA) k a H = some (r, a', H') ∧ r = .exit 0 ∧ a' 0 = va ∧ Old B0 H H' ∧ WF H' ∧ ∃ sz b, O B0 H' va (ints sz) ∧ sz.length = (nf x).length ∧ Dg sz ∧ (b = 0 ∨ b = 1) ∧ val sz = x - val ((nf y).take (nf x).length) + b * B ^ (nf x).length := by
  refine loop_up (nf x).length (fun i a H' => a 0 = va ∧ a 1 = vb ∧ a 8 = vi (nf x).length ∧ a 9 = vi i ∧ Old B0 H H' ∧ WF H' ∧ ∃ sz b, a 5 = vi b ∧ O B0 H' va (ints (cpl (nf x) sz i)) ∧ sz.length = i ∧ Dg sz ∧ (b = 0 ∨ b = 1) ∧ val sz = val ((nf x).take i) - val ((nf y).take i) + b * B ^ i) _ ?_ ?_ hk
    ⟨h0, h1, h8, h9, Old.refl _ _, hw, [], 0, h5, by simpa [cpl] using ha, rfl, Dg.nil, .inl rfl, by simp [val]⟩
  · intro i a H' hi ⟨h0, h1, h8, h9, old, hw, sz, b, h5, ho, hsl, hds, hbb, hval⟩
    left
    rw [show lesA = atC [1, 1, 0, 1, 0, 0] ((Try.f116.body).getD .skip) from rfl]
    have hx := (nf_dg x0).getD i
    have hy := (nf_dg y0).getD i
    have hcl := cpl_len hsl (by omega : i ≤ (nf x).length)
    have hcg := cpl_get hsl hi
    have hlt : (i : Int) < (nf x).length := by omega
    have hr := ho.R
    have a1 : addrS 1 va (vi i) = some (pt va i) := by have := hr.addrI (i := (i : Int)) (by omega) (by omega); simpa using this
    have l1 : loadS (pt va i) H' = some (vi ((nf x).getD i 0)) := by rw [hr.loadI (by omega), hcg]
    have e1 : IntKind.i64.wrap ((nf x).getD i 0 - b) = (nf x).getD i 0 - b := wr64 (by omega) (by omega)
    have e3 : IntKind.i64.wrap ((i : Int) + 1) = ((i + 1 : Nat) : Int) := by rw [wr64 (by omega) (by omega)]; omega
    obtain ⟨H2, s2, o2, old2, wf2⟩ := ho.setI hw (i := i) (by omega) ((nf x).getD i 0 - b)
    rw [cpl_set hsl hi] at o2
    have hcl2 : ∀ u : Int, (cpl (nf x) (sz ++ [u]) (i + 1)).length = (nf x).length := fun u => cpl_len (by simp [hsl]) (by omega)
    have l2 : loadS (pt va i) H2 = some (vi ((nf x).getD i 0 - b)) := by rw [o2.R.loadI (by rw [hcl2]; exact hi), cpl_last hsl]
    have hb2 := hb H2 (old.trans old2)
    have hst := fun (b2 : Int) => less_step (x := (nf x).getD i 0) (y := (nf y).getD i 0) (b2 := b2) hsl hval
    rw [← val_take_succ, ← val_take_succ] at hst
    -- what stands behind the second difference
    have tail : ∀ (H3 : Heap), O B0 H3 va (ints (cpl (nf x) (sz ++ [(nf x).getD i 0 - b - (nf y).getD i 0]) (i + 1))) → WF H3 → Old B0 H H3 →
        loadS (pt va i) H3 = some (vi ((nf x).getD i 0 - b - (nf y).getD i 0)) ∧ ∃ H4, storeS (pt va i) (vi ((nf x).getD i 0 - b - (nf y).getD i 0 + 100000000)) H3 = some H4 ∧ O B0 H4 va (ints (cpl (nf x) (sz ++ [(nf x).getD i 0 - b - (nf y).getD i 0 + 100000000]) (i + 1))) ∧ WF H4 ∧ Old B0 H H4 := by
      intro H3 o3 wf3 old3
      refine ⟨by rw [o3.R.loadI (by rw [hcl2]; exact hi), cpl_last hsl], ?_⟩
      obtain ⟨H4, s4, o4, old4, wf4⟩ := o3.setI wf3 (i := i) (by rw [hcl2]; exact hi) ((nf x).getD i 0 - b - (nf y).getD i 0 + 100000000)
      rw [cpl_reset hsl] at o4
      exact ⟨H4, s4, o4, wf4, old3.trans old4⟩
    have e4 : IntKind.i64.wrap ((nf x).getD i 0 - b - (nf y).getD i 0) = (nf x).getD i 0 - b - (nf y).getD i 0 := wr64 (by omega) (by omega)
    have e5 : IntKind.i64.wrap ((nf x).getD i 0 - b - (nf y).getD i 0 + 100000000) = (nf x).getD i 0 - b - (nf y).getD i 0 + 100000000 := wr64 (by omega) (by omega)
    by_cases c2 : (i : Int) < (nf y).length
    · obtain ⟨H3, s3, o3, old3, wf3⟩ := o2.setI wf2 (i := i) (by rw [hcl2]; exact hi) ((nf x).getD i 0 - b - (nf y).getD i 0)
      rw [cpl_reset hsl] at o3
      obtain ⟨l3, H4, s4, o4, wf4, old4⟩ := tail H3 o3 wf3 ((old.trans old2).trans old3)
      by_cases c3 : (nf x).getD i 0 - b - (nf y).getD i 0 < 0
      · simp (disch := omega) only [Try.f116, Option.getD_some, atC, es_seq, es_region, es_draw, d0, es_cond, es_block, es_skip, ops_nil, ops_cons, opsV_nil, opsV_cons, st_move, st_assign, sy_len uL, sy_addr eL, sy_load aI, sy_store zI, sy_bin, binS_lss, binS_add, binS_sub, bindO_some, bindF_some, bindX_normal, blkX_normal, condX_true, iteB_true, iteB_false, ev_tmp, ev_const, putA, upd_at, Option.map_some, ↓reduceIte, Nat.reduceEqDiff, Int.toNat_natCast, decide_true, ↓bindO_some, ↓bindF_some, ↓bindX_normal, ↓condX_true, ↓iteB_true, ↓iteB_false, reflV_load, reflV_move, reflV_bin, reflV_addr, reflV_store, vEq_vi, h0, h1, h5, h8, h9, hlt, a1, l1, e1, s2, hb2.lenI, c2, l2, hb2.addrI, hb2.loadI, e4, s3, l3, c3, e5, s4, e3]
        exact ⟨_, _, rfl, by simp only [upd_get, ↓reduceIte, Nat.reduceEqDiff, h0], by simp only [upd_get, ↓reduceIte, Nat.reduceEqDiff, h1], by simp only [upd_get, ↓reduceIte, Nat.reduceEqDiff, h8], by simp only [upd_get, ↓reduceIte], old4, wf4, _, 1, by simp only [upd_get, ↓reduceIte, Nat.reduceEqDiff], o4, by simp [hsl], hds.app (Dg.one (by omega) (by unfold B; omega)), .inr rfl, by have := hst 1; rwa [Int.mul_one] at this⟩
      · simp (disch := omega) only [Try.f116, Option.getD_some, atC, es_seq, es_region, es_draw, d0, es_cond, es_block, es_skip, ops_nil, ops_cons, opsV_nil, opsV_cons, st_move, st_assign, sy_len uL, sy_addr eL, sy_load aI, sy_store zI, sy_bin, binS_lss, binS_add, binS_sub, bindO_some, bindF_some, bindX_normal, blkX_normal, condX_true, condX_false, iteB_true, iteB_false, ev_tmp, ev_const, putA, upd_at, Option.map_some, ↓reduceIte, Nat.reduceEqDiff, Int.toNat_natCast, decide_true, decide_false, ↓bindO_some, ↓bindF_some, ↓bindX_normal, ↓condX_true, ↓condX_false, ↓iteB_true, ↓iteB_false, reflV_load, reflV_move, reflV_bin, reflV_addr, reflV_store, vEq_vi, h0, h1, h5, h8, h9, hlt, a1, l1, e1, s2, hb2.lenI, c2, l2, hb2.addrI, hb2.loadI, e4, s3, l3, c3, e3]
        exact ⟨_, _, rfl, by simp only [upd_get, ↓reduceIte, Nat.reduceEqDiff, h0], by simp only [upd_get, ↓reduceIte, Nat.reduceEqDiff, h1], by simp only [upd_get, ↓reduceIte, Nat.reduceEqDiff, h8], by simp only [upd_get, ↓reduceIte], (old.trans old2).trans old3, wf3, _, 0, by simp only [upd_get, ↓reduceIte, Nat.reduceEqDiff], o3, by simp [hsl], hds.app (Dg.one (by omega) (by unfold B; omega)), .inl rfl, by have := hst 0; rwa [Int.mul_zero, Int.add_zero] at this⟩
    · have hz : (nf y).getD i 0 = 0 := by rw [List.getD_eq_getElem?_getD, List.getElem?_eq_none (by omega)]; rfl
      rw [hz, Int.sub_zero] at tail e5
      obtain ⟨_, H4, s4, o4, wf4, old4⟩ := tail H2 o2 wf2 (old.trans old2)
      rw [hz] at hst
      by_cases c3 : (nf x).getD i 0 - b < 0
      · simp (disch := omega) only [Try.f116, Option.getD_some, atC, es_seq, es_region, es_cond, es_block, es_skip, ops_nil, ops_cons, st_move, st_assign, sy_len uL, sy_addr eL, sy_load aI, sy_store zI, sy_bin, binS_lss, binS_add, binS_sub, bindO_some, bindF_some, bindX_normal, blkX_normal, condX_true, condX_false, ev_tmp, ev_const, putA, upd_at, Option.map_some, ↓reduceIte, Nat.reduceEqDiff, decide_true, decide_false, ↓bindO_some, ↓bindF_some, ↓bindX_normal, ↓condX_true, ↓condX_false, h0, h1, h5, h8, h9, hlt, a1, l1, e1, s2, hb2.lenI, c2, l2, c3, e5, s4, e3]
        exact ⟨_, _, rfl, by simp only [upd_get, ↓reduceIte, Nat.reduceEqDiff, h0], by simp only [upd_get, ↓reduceIte, Nat.reduceEqDiff, h1], by simp only [upd_get, ↓reduceIte, Nat.reduceEqDiff, h8], by simp only [upd_get, ↓reduceIte], old4, wf4, _, 1, by simp only [upd_get, ↓reduceIte, Nat.reduceEqDiff], o4, by simp [hsl], hds.app (Dg.one (by omega) (by unfold B; omega)), .inr rfl, by have := hst 1; rwa [Int.mul_one, Int.sub_zero] at this⟩
      · simp (disch := omega) only [Try.f116, Option.getD_some, atC, es_seq, es_region, es_cond, es_block, es_skip, ops_nil, ops_cons, st_move, st_assign, sy_len uL, sy_addr eL, sy_load aI, sy_store zI, sy_bin, binS_lss, binS_add, binS_sub, bindO_some, bindF_some, bindX_normal, blkX_normal, condX_true, condX_false, ev_tmp, ev_const, putA, upd_at, Option.map_some, ↓reduceIte, Nat.reduceEqDiff, decide_true, decide_false, ↓bindO_some, ↓bindF_some, ↓bindX_normal, ↓condX_true, ↓condX_false, h0, h1, h5, h8, h9, hlt, a1, l1, e1, s2, hb2.lenI, c2, l2, c3, e3]
        exact ⟨_, _, rfl, by simp only [upd_get, ↓reduceIte, Nat.reduceEqDiff, h0], by simp only [upd_get, ↓reduceIte, Nat.reduceEqDiff, h1], by simp only [upd_get, ↓reduceIte, Nat.reduceEqDiff, h8], by simp only [upd_get, ↓reduceIte], old.trans old2, wf2, _, 0, by simp only [upd_get, ↓reduceIte, Nat.reduceEqDiff], o2, by simp [hsl], hds.app (Dg.one (by omega) (by unfold B; omega)), .inl rfl, by have := hst 0; rwa [Int.mul_zero, Int.add_zero, Int.sub_zero] at this⟩
  · intro a H' ⟨h0, h1, h8, h9, old, hw, sz, b, h5, ho, hsl, hds, hbb, hval⟩
    rw [show lesA = atC [1, 1, 0, 1, 0, 0] ((Try.f116.body).getD .skip) from rfl]
    simp (disch := omega) only [Try.f116, Option.getD_some, atC, es_seq, es_region, es_cond, es_exit, ops_nil, ops_cons, sy_bin, binS_lss, bindO_some, bindF_some, bindX_normal, bindX_exit, condX_false, ev_tmp, putA, upd_at, ↓reduceIte, decide_false, ↓bindO_some, ↓bindF_some, ↓bindX_normal, ↓bindX_exit, ↓condX_false, h8, h9, Int.lt_irrefl]
    have e0 : cpl (nf x) sz (nf x).length = sz := by unfold cpl; rw [List.drop_length, List.append_nil]
    rw [e0] at ho
    exact ⟨_, _, _, rfl, by simp, rfl, by simp only [upd_get, ↓reduceIte, Nat.reduceEqDiff, h0], old, hw, sz, b, ho, hsl, hds, hbb, by rw [hval, List.take_length, nf_val]⟩
theorem les_run {B0 : Nat} {H : Heap} {va vb : Value} {x y : Int} (ha : O B0 H va (ints (nf x))) (hb : ∀ H', Old B0 H H' → R H' vb (ints (nf y))) (y0 : 0 ≤ y) (hxy : y ≤ x) (hw : WF H) (lx : (nf x).length ≤ 900) (n : Nat) (hn : 2002 ≤ n) :
    ∃ v' H', evB Try.prog noC n (.func (.func 116) #[] #[]) [va, vb] H = some (v', H') ∧ RO B0 H' v' (ints (nf (x - y))) ∧ Old B0 H H' ∧ WF H' := by
  refine run_of (F := 2001) (Q := fun r => ∃ v' H', r = some (v', H') ∧ RO B0 H' v' (ints (nf (x - y))) ∧ Old B0 H H' ∧ WF H') (fun n hn => ?_) n hn
  rw [body_runS Try.func116 rfl (ok_fn (by rfl) Try.func116 rfl) (Nat.le_of_ble_eq_true rfl) (D := D0) (by kernel_rfl)]
  have key := fun (A : Fr) => les_loop ha hb (by omega) y0 hw lx (evB Try.prog noC n) n Try.f116.ntmps (a := A) (k := n) (by omega)
  rw [show lesA = atC [1, 1, 0, 1, 0, 0] ((Try.f116.body).getD .skip) from rfl] at key
  simp only [Try.f116, Option.getD_some, atC] at key
  have hla := ha.R.lenI
  simp (disch := omega) only [Try.f116, es_seq, es_region, es_block, es_loop, es_ret, ops_nil, ops_cons, st_move, st_assign, st_fun, sy_len uL, bindO_some, bindF_some, bindX_normal, ev_tmp, ev_const, ev_func, putA, upd_at, Option.map_some, ↓reduceIte, Nat.reduceEqDiff, frOf_0, List.map_cons, List.map_nil, ↓bindO_some, ↓bindF_some, ↓bindX_normal, hla]
  generalize hA : upd _ 9 _ = A
  obtain ⟨r, a', H', e, hr, h0, old, wf, sz, b, ho, hsl, hds, hbb, hval⟩ := key A (by subst hA; rfl) (by subst hA; rfl) (by subst hA; rfl) (by subst hA; rfl) (by subst hA; rfl)
  subst hr
  rw [e]
  obtain ⟨v', s1, r1⟩ := trimmed_run ho.RO (by omega) n (by omega)
  simp (disch := omega) only [bindO_some, bindF_some, bindX_normal, blkX_exit, upd_at, Option.map_some, ↓reduceIte, ↓bindO_some, ↓bindF_some, ↓bindX_normal, fin_r, res_nil, res_tmp, pack_1, h0, s1, r1.R.scal]
  refine ⟨_, _, rfl, ?_, old, wf⟩
  rw [List.take_of_length_le (nf_len_mono y0 hxy), nf_val] at hval
  have hv := hds.val
  have hp := pow_pos (nf x).length
  rw [hsl] at hv
  have hb0 : b = 0 := by
    rcases hbb with h | h
    · exact h
    · subst h; omega
  subst hb0
  rw [Int.zero_mul, Int.add_zero] at hval
  rw [← nf_of_digs hds hval]
  exact r1
noncomputable def pluA : Code := atC [1, 0, 1, 0, 1, 1, 1, 1, 0, 1, 0, 0] ((Try.f84.body).getD .skip)
theorem plu_loop {B0 : Nat} {H : Heap} {vl vs vo p2 p4 : Value} {u w : Int} (hB : B0 ≤ H.length) (hlg : ∀ H', Old B0 H H' → R H' vl (ints (nf u))) (hsh : ∀ H', Old B0 H H' → R H' vs (ints (nf w))) (u0 : 0 ≤ u) (w0 : 0 ≤ w) (hlw : (nf w).length ≤ (nf u).length) (hw : WF H) (lu : (nf u).length ≤ 900) (ho : O B0 H vo (ints [])) (call : CallF) (m nt : Nat) {a : Fr} {k : Nat} (hk : (nf u).length < k)
    (h2 : a 2 = p2) (h4 : a 4 = p4) (h6 : a 6 = vs) (h7 : a 7 = vo) (h8 : a 8 = vi 0) (h31 : a 31 = vl) (h32 : a 32 = vi (nf u).length) (h33 : a 33 = vi (0 : Nat)) :
    ∃ r a' H', loopN (evT Try.prog call m nt none D1 pluA) k a H = some (r, a', H') ∧ r = .exit 0 ∧ a' 2 = p2 ∧ a' 4 = p4 ∧ Old B0 H H' ∧ WF H' ∧ ∃ vo out c, a' 7 = vo ∧ a' 8 = vi c ∧ O B0 H' vo (ints out) ∧ out.length = (nf u).length ∧ Dg out ∧ 0 ≤ c ∧ c ≤ 1 ∧ val out + B ^ out.length * c = u + w := by
  refine loop_up (nf u).length (fun i a H' => a 2 = p2 ∧ a 4 = p4 ∧ a 6 = vs ∧ a 31 = vl ∧ a 32 = vi (nf u).length ∧ a 33 = vi i ∧ Old B0 H H' ∧ WF H' ∧ ∃ vo out c, a 7 = vo ∧ a 8 = vi c ∧ O B0 H' vo (ints out) ∧ out.length = i ∧ Dg out ∧ 0 ≤ c ∧ c ≤ 1 ∧ val out + B ^ i * c = val ((nf u).take i) + val ((nf w).take i)) _ ?_ ?_ hk
    ⟨h2, h4, h6, h31, h32, h33, Old.refl _ _, hw, vo, [], 0, h7, h8, ho, rfl, Dg.nil, by omega, by omega, by simp [val]⟩
  · intro i a H' hi ⟨h2, h4, h6, h31, h32, h33, old, hw, vo, out, c, h7, h8, ho, hol, hd, c0, c1, hval⟩
    left
    rw [show pluA = atC [1, 0, 1, 0, 1, 1, 1, 1, 0, 1, 0, 0] ((Try.f84.body).getD .skip) from rfl]
    have hx := (nf_dg u0).getD i
    have hy := (nf_dg w0).getD i
    have hrl := hlg H' old
    have hrs := hsh H' old
    have hlt : (i : Int) < (nf u).length := by omega
    have e1 : IntKind.i64.wrap ((nf u).getD i 0 + c) = (nf u).getD i 0 + c := wr64 (by omega) (by omega)
    have e3 : IntKind.i64.wrap ((i : Int) + 1) = ((i + 1 : Nat) : Int) := by rw [wr64 (by omega) (by omega)]; omega
    have hst := plus_step (x := (nf u).getD i 0) (y := (nf w).getD i 0) hol hval
    rw [← val_take_succ, ← val_take_succ] at hst
    by_cases c2 : (i : Int) < (nf w).length
    · have e2 : IntKind.i64.wrap ((nf u).getD i 0 + c + (nf w).getD i 0) = (nf u).getD i 0 + c + (nf w).getD i 0 := wr64 (by omega) (by omega)
      have e4 : ((nf u).getD i 0 + c + (nf w).getD i 0).tdiv 100000000 = ((nf u).getD i 0 + c + (nf w).getD i 0) / 100000000 := tdiv_pos (by omega) _
      have e5 : ((nf u).getD i 0 + c + (nf w).getD i 0).tmod 100000000 = ((nf u).getD i 0 + c + (nf w).getD i 0) % 100000000 := tmod_pos (by omega) _
      have e6 : IntKind.i64.wrap (((nf u).getD i 0 + c + (nf w).getD i 0) / 100000000) = ((nf u).getD i 0 + c + (nf w).getD i 0) / 100000000 := wr64 (by omega) (by omega)
      obtain ⟨v2, H2, s2, o2, old2, wf2⟩ := ho.pushI hw (Nat.le_trans hB old.1) (by unfold maxA; omega) (((nf u).getD i 0 + c + (nf w).getD i 0) % 100000000)
      simp (disch := omega) only [Try.f84, Option.getD_some, atC, es_seq, es_region, es_cond, es_block, es_skip, ops_nil, ops_cons, st_move, st_assign, sy_len uL, sy_addr eL, sy_load aI, sy_bin, sy_append eL pI, sy_build1 eL oI, binS_lss, binS_add, binS_quo, binS_rem, bindO_some, bindF_some, bindX_normal, blkX_normal, condX_true, ev_tmp, ev_const, putA, upd_at, Option.map_some, ↓reduceIte, Nat.reduceEqDiff, Int.toNat_natCast, decide_true, ↓bindO_some, ↓bindF_some, ↓bindX_normal, ↓condX_true, scal_vi, h6, h7, h8, h31, h32, h33, hlt, hrl.addrI, hrl.loadI, e1, hrs.lenI, c2, hrs.addrI, hrs.loadI, e2, e4, e5, e6, s2, e3]
      exact ⟨_, _, rfl, by simp only [upd_get, ↓reduceIte, Nat.reduceEqDiff, h2], by simp only [upd_get, ↓reduceIte, Nat.reduceEqDiff, h4], by simp only [upd_get, ↓reduceIte, Nat.reduceEqDiff, h6], by simp only [upd_get, ↓reduceIte, Nat.reduceEqDiff, h31], by simp only [upd_get, ↓reduceIte, Nat.reduceEqDiff, h32], by simp only [upd_get, ↓reduceIte], old.trans old2, wf2, v2, _, _, by simp only [upd_get, ↓reduceIte, Nat.reduceEqDiff], by simp only [upd_get, ↓reduceIte, Nat.reduceEqDiff], o2, by simp [hol], hd.app (Dg.one (by omega) (by unfold B; omega)), by omega, by omega, hst⟩
    · have hz : (nf w).getD i 0 = 0 := by rw [List.getD_eq_getElem?_getD, List.getElem?_eq_none (by omega)]; rfl
      rw [hz, Int.add_zero] at hst
      have e4 : ((nf u).getD i 0 + c).tdiv 100000000 = ((nf u).getD i 0 + c) / 100000000 := tdiv_pos (by omega) _
      have e5 : ((nf u).getD i 0 + c).tmod 100000000 = ((nf u).getD i 0 + c) % 100000000 := tmod_pos (by omega) _
      have e6 : IntKind.i64.wrap (((nf u).getD i 0 + c) / 100000000) = ((nf u).getD i 0 + c) / 100000000 := wr64 (by omega) (by omega)
      obtain ⟨v2, H2, s2, o2, old2, wf2⟩ := ho.pushI hw (Nat.le_trans hB old.1) (by unfold maxA; omega) (((nf u).getD i 0 + c) % 100000000)
      simp (disch := omega) only [Try.f84, Option.getD_some, atC, es_seq, es_region, es_cond, es_block, es_skip, ops_nil, ops_cons, st_move, st_assign, sy_len uL, sy_addr eL, sy_load aI, sy_bin, sy_append eL pI, sy_build1 eL oI, binS_lss, binS_add, binS_quo, binS_rem, bindO_some, bindF_some, bindX_normal, blkX_normal, condX_true, condX_false, ev_tmp, ev_const, putA, upd_at, Option.map_some, ↓reduceIte, Nat.reduceEqDiff, Int.toNat_natCast, decide_true, decide_false, ↓bindO_some, ↓bindF_some, ↓bindX_normal, ↓condX_true, ↓condX_false, scal_vi, h6, h7, h8, h31, h32, h33, hlt, hrl.addrI, hrl.loadI, e1, hrs.lenI, c2, e4, e5, e6, s2, e3]
      exact ⟨_, _, rfl, by simp only [upd_get, ↓reduceIte, Nat.reduceEqDiff, h2], by simp only [upd_get, ↓reduceIte, Nat.reduceEqDiff, h4], by simp only [upd_get, ↓reduceIte, Nat.reduceEqDiff, h6], by simp only [upd_get, ↓reduceIte, Nat.reduceEqDiff, h31], by simp only [upd_get, ↓reduceIte, Nat.reduceEqDiff, h32], by simp only [upd_get, ↓reduceIte], old.trans old2, wf2, v2, _, _, by simp only [upd_get, ↓reduceIte, Nat.reduceEqDiff], by simp only [upd_get, ↓reduceIte, Nat.reduceEqDiff], o2, by simp [hol], hd.app (Dg.one (by omega) (by unfold B; omega)), by omega, by omega, hst⟩
  · intro a H' ⟨h2, h4, h6, h31, h32, h33, old, hw, vo, out, c, h7, h8, ho, hol, hd, c0, c1, hval⟩
    rw [show pluA = atC [1, 0, 1, 0, 1, 1, 1, 1, 0, 1, 0, 0] ((Try.f84.body).getD .skip) from rfl]
    simp (disch := omega) only [Try.f84, Option.getD_some, atC, es_seq, es_region, es_cond, es_exit, ops_nil, ops_cons, sy_bin, binS_lss, bindO_some, bindF_some, bindX_normal, bindX_exit, condX_false, ev_tmp, putA, upd_at, ↓reduceIte, decide_false, ↓bindO_some, ↓bindF_some, ↓bindX_normal, ↓bindX_exit, ↓condX_false, h32, h33, Int.lt_irrefl]
    exact ⟨_, _, _, rfl, by simp, rfl, by simp only [upd_get, ↓reduceIte, Nat.reduceEqDiff, h2], by simp only [upd_get, ↓reduceIte, Nat.reduceEqDiff, h4], old, hw, vo, out, c, by simp only [upd_get, ↓reduceIte, Nat.reduceEqDiff, h7], by simp only [upd_get, ↓reduceIte, Nat.reduceEqDiff, h8], ho, hol, hd, c0, c1, by rw [hol, hval, List.take_length, List.take_of_length_le hlw, nf_val, nf_val]⟩
theorem plu_fin {out : List Int} {c u w : Int} (hd : Dg out) (hol : out.length = (nf u).length) (u0 : 0 ≤ u) (w0 : 0 ≤ w) (hlw : (nf w).length ≤ (nf u).length) (c0 : 0 ≤ c) (c1 : c ≤ 1) (hval : val out + B ^ out.length * c = u + w) :
    (c = 0 → out = nf (u + w)) ∧ (c = 1 → out ++ [1] = nf (u + w)) := by
  refine ⟨fun h => ?_, fun h => ?_⟩
  · subst h
    rw [Int.mul_zero, Int.add_zero] at hval
    rw [← hval]
    refine nf_of_big hd ?_
    by_cases hu : u = 0
    · left
      subst hu
      rw [nf_zero] at hol
      exact List.eq_nil_of_length_eq_zero hol
    · right
      rw [hval, hol]
      have := nf_ge (x := u) (by omega)
      omega
  · subst h
    rw [← hval, Int.mul_one, ← Int.mul_one (B ^ out.length), ← val_snoc]
    refine nf_of_big (hd.app (Dg.one (by omega) (by unfold B; omega))) (.inr ?_)
    rw [List.length_append, List.length_singleton, Nat.add_sub_cancel, val_snoc]
    have := hd.val
    omega
theorem plu_r2 {H : Heap} {px py vx vy : Value} (call : CallF) (k nt : Nat) (rd : Option Nat) {a : Fr} {qx qy : Value} (h2 : a 2 = px) (h3 : a 3 = py) (fx : faddrS 1 px = some qx) (fy : faddrS 1 py = some qy) (lx : loadS qx H = some vx) (ly : loadS qy H = some vy) (rx : vEq vx vx = true) (ry : vEq vy vy = true) :
    ∃ a' H', evT Try.prog call k nt rd D1 (atC [1, 0, 1, 0, 0] ((Try.f84.body).getD .skip)) a H = some (.normal, a', H') ∧ H' = H ∧ a' 5 = vx ∧ a' 6 = vy ∧ a' 2 = px ∧ a' 3 = py ∧ a' 4 = a 4 := by
  simp only [Try.f84, Option.getD_some, atC]
  refine et_from (fun a' H' => H' = H ∧ a' 5 = vx ∧ a' 6 = vy ∧ a' 2 = px ∧ a' 3 = py ∧ a' 4 = a 4) ?_
  simp (disch := omega) only [st_assign, bindO_some, ev_tmp, putA, upd_at, Option.map_some, ↓reduceIte, Nat.reduceEqDiff, ↓bindO_some, sy_load aL, sy_faddr fW1, opsW_nil, opsW_cons, clsW_read, clsW_pure, ↓clsW_read, ↓clsW_pure, cls_assign, cls_load, cls_faddr, h2, h3, fx, fy, lx, ly]
  refine ⟨_, rfl, ?_, rfl, ?_⟩
  · intro G hG r hr
    simp only [List.mem_cons, List.not_mem_nil, or_false] at hG hr
    subst hG
    rcases hr with rfl | rfl
    all_goals simp only [still_ld aL, ev_tmp, upd_at, ↓reduceIte, lx, ly, rx, ry]
  · simp only [upd_get, ↓reduceIte, Nat.reduceEqDiff, h2, h3, and_self]
theorem plu_r23 {H H4 H5 H6 : Heap} {px py p4 vx vy c d : Value} {nb : Bool} (call : CallF) (k nt : Nat) (rd : Option Nat) {a : Fr} {q0 q1 qy : Value} (h2 : a 2 = px) (h3 : a 3 = py) (h4 : a 4 = p4) (f0 : faddrS 0 px = some q0) (f1 : faddrS 1 px = some q1) (fy : faddrS 1 py = some qy)
    (l0 : ∀ G, G = H ∨ G = H4 ∨ G = H5 ∨ G = H6 → loadS q0 G = some (.bool nb)) (l1 : ∀ G, G = H ∨ G = H4 ∨ G = H5 ∨ G = H6 → loadS q1 G = some vx) (ly : ∀ G, G = H ∨ G = H4 ∨ G = H5 ∨ G = H6 → loadS qy G = some vy) (rx : vEq vx vx = true) (ry : vEq vy vy = true)
    (s1 : call (.func (.func 61) #[] #[]) [vx] H = some (c, H4)) (s2 : call (.func (.func 116) #[] #[]) [c, vy] H4 = some (d, H5)) (sd : Abs.scal d = some [d]) (s3 : storeN 2 p4 (.agg #[.bool nb, d]) H5 = some H6) :
    ∃ a' H', evT Try.prog call k nt rd D1 (atC [1, 1, 0, 1, 0, 1, 1, 1, 0, 0] ((Try.f84.body).getD .skip)) a H = some (.normal, a', H') ∧ H' = H6 ∧ a' 4 = p4 := by
  simp only [Try.f84, Option.getD_some, atC]
  refine et_from (fun a' H' => H' = H6 ∧ a' 4 = p4) ?_
  have e0 := l0 H (.inl rfl)
  have e1 := l1 H (.inl rfl)
  have e2 := ly H4 (.inr (.inl rfl))
  simp (disch := omega) only [st_fun, bindO_some, ev_tmp, ev_func, putA, upd_at, Option.map_some, ↓reduceIte, Nat.reduceEqDiff, List.map_cons, List.map_nil, ↓bindO_some, sy_load aL, sy_load aB, sy_faddr fW0, sy_faddr fW1, sy_storeN zW, sy_build, opsW_nil, opsW_cons, clsW_eff, clsW_read, clsW_pure, ↓clsW_eff, ↓clsW_read, ↓clsW_pure, cls_load, cls_callF, cls_store, cls_faddr, cls_build, h2, h3, h4, f0, f1, fy, e0, e1, s1, e2, s2, bW2 nb d sd, s3]
  refine ⟨_, rfl, ?_, rfl, ?_⟩
  · intro G hG r hr
    simp only [List.mem_cons, List.not_mem_nil, or_false] at hG hr
    have hG' : G = H ∨ G = H4 ∨ G = H5 ∨ G = H6 := by
      rcases hG with h | h | h | h
      · exact .inr (.inr (.inr h))
      · exact .inr (.inr (.inl h))
      · exact .inr (.inl h)
      · exact .inl h
    have e0 := l0 G hG'
    have e1 := l1 G hG'
    have e2 := ly G hG'
    rcases hr with rfl | rfl | rfl
    all_goals simp only [still_ld aB, still_ld aL, ev_tmp, upd_at, ↓reduceIte, vEq_bool, e0, e1, e2, rx, ry]
  · simp only [upd_get, ↓reduceIte, Nat.reduceEqDiff, h4]
theorem plu_r24 {H H4 H5 H6 : Heap} {px py p4 vx vy c d : Value} {nb : Bool} (call : CallF) (k nt : Nat) (rd : Option Nat) {a : Fr} {q0 q1 qy : Value} (h2 : a 3 = px) (h3 : a 2 = py) (h4 : a 4 = p4) (f0 : faddrS 0 px = some q0) (f1 : faddrS 1 px = some q1) (fy : faddrS 1 py = some qy)
    (l0 : ∀ G, G = H ∨ G = H4 ∨ G = H5 ∨ G = H6 → loadS q0 G = some (.bool nb)) (l1 : ∀ G, G = H ∨ G = H4 ∨ G = H5 ∨ G = H6 → loadS q1 G = some vx) (ly : ∀ G, G = H ∨ G = H4 ∨ G = H5 ∨ G = H6 → loadS qy G = some vy) (rx : vEq vx vx = true) (ry : vEq vy vy = true)
    (s1 : call (.func (.func 61) #[] #[]) [vx] H = some (c, H4)) (s2 : call (.func (.func 116) #[] #[]) [c, vy] H4 = some (d, H5)) (sd : Abs.scal d = some [d]) (s3 : storeN 2 p4 (.agg #[.bool nb, d]) H5 = some H6) :
    ∃ a' H', evT Try.prog call k nt rd D1 (atC [1, 1, 1, 0] ((Try.f84.body).getD .skip)) a H = some (.normal, a', H') ∧ H' = H6 ∧ a' 4 = p4 := by
  simp only [Try.f84, Option.getD_some, atC]
  refine et_from (fun a' H' => H' = H6 ∧ a' 4 = p4) ?_
  have e0 := l0 H (.inl rfl)
  have e1 := l1 H (.inl rfl)
  have e2 := ly H4 (.inr (.inl rfl))
  simp (disch := omega) only [st_fun, bindO_some, ev_tmp, ev_func, putA, upd_at, Option.map_some, ↓reduceIte, Nat.reduceEqDiff, List.map_cons, List.map_nil, ↓bindO_some, sy_load aL, sy_load aB, sy_faddr fW0, sy_faddr fW1, sy_storeN zW, sy_build, opsW_nil, opsW_cons, clsW_eff, clsW_read, clsW_pure, ↓clsW_eff, ↓clsW_read, ↓clsW_pure, cls_load, cls_callF, cls_store, cls_faddr, cls_build, h2, h3, h4, f0, f1, fy, e0, e1, s1, e2, s2, bW2 nb d sd, s3]
  refine ⟨_, rfl, ?_, rfl, ?_⟩
  · intro G hG r hr
    simp only [List.mem_cons, List.not_mem_nil, or_false] at hG hr
    have hG' : G = H ∨ G = H4 ∨ G = H5 ∨ G = H6 := by
      rcases hG with h | h | h | h
      · exact .inr (.inr (.inr h))
      · exact .inr (.inr (.inl h))
      · exact .inr (.inl h)
      · exact .inl h
    have e0 := l0 G hG'
    have e1 := l1 G hG'
    have e2 := ly G hG'
    rcases hr with rfl | rfl | rfl
    all_goals simp only [still_ld aB, still_ld aL, ev_tmp, upd_at, ↓reduceIte, vEq_bool, e0, e1, e2, rx, ry]
  · simp only [upd_get, ↓reduceIte, Nat.reduceEqDiff, h4]
end Go.Proofs.Ytmmgdgmjkhcfaaa
namespace Go.Proofs.Ytmmgdgmjkhcfaaa
open Go Go.Abs Go.Num
set_option maxRecDepth 10000
attribute [local congr] bindO_congr bindF_congr bindX_congr condX_congr iteB_congr binS_congr pickS_congr eqB_congr nilS_congr clsW_congr
theorem cpl_sign {x y : Int} {nx : Bool} (hx : decide (x < 0) = nx) (hy : decide (y < 0) = nx) : decide (x + y < 0) = nx ∧ ((x + y).natAbs : Int) = x.natAbs + y.natAbs := by
  cases nx with
  | true =>
    have h1 : x < 0 := by simpa using hx
    have h2 : y < 0 := by simpa using hy
    exact ⟨by simp; omega, by omega⟩
  | false =>
    have h1 : ¬ x < 0 := by simpa using hx
    have h2 : ¬ y < 0 := by simpa using hy
    exact ⟨by simp; omega, by omega⟩
theorem mix_sign {x y : Int} {nx ny : Bool} (hx : decide (x < 0) = nx) (hy : decide (y < 0) = ny) (hn : nx ≠ ny) :
    ((y.natAbs : Int) < x.natAbs → decide (x + y < 0) = nx ∧ ((x + y).natAbs : Int) = x.natAbs - y.natAbs) ∧ ((x.natAbs : Int) < y.natAbs → decide (x + y < 0) = ny ∧ ((x + y).natAbs : Int) = y.natAbs - x.natAbs) ∧ ((x.natAbs : Int) = y.natAbs → x + y = 0) := by
  cases nx <;> cases ny <;> first | exact absurd rfl hn | skip
  · have h1 : ¬ x < 0 := by simpa using hx
    have h2 : y < 0 := by simpa using hy
    exact ⟨fun h => ⟨by simp; omega, by omega⟩, fun h => ⟨by simp; omega, by omega⟩, fun h => by omega⟩
  · have h1 : x < 0 := by simpa using hx
    have h2 : ¬ y < 0 := by simpa using hy
    exact ⟨fun h => ⟨by simp; omega, by omega⟩, fun h => ⟨by simp; omega, by omega⟩, fun h => by omega⟩
theorem plus_run {C : Nat} {H : Heap} {wx wy : Value} {x y : Int} (hw : WF H) (hx : Wh C H wx x) (hy : Wh C H wy y) (lx : (nf x.natAbs).length ≤ 890) (ly : (nf y.natAbs).length ≤ 890) (n : Nat) (hn : 2010 ≤ n) :
    OneW H (evB Try.prog noC n (.func (.func 84) #[] #[]) [wx, wy] H) (x + y) := by
  obtain ⟨vx, rfl, hx⟩ := hx
  obtain ⟨vy, rfl, hy⟩ := hy
  have hx := hx.R
  have hy := hy.R
  generalize hnx : decide (x < 0) = nx
  generalize hny : decide (y < 0) = ny
  refine run_of (F := 2009) (Q := fun r => OneW H r (x + y)) (fun n hn => ?_) n hn
  rw [body_runS Try.func84 rfl (ok_fn (by rfl) Try.func84 rfl) (Nat.le_of_ble_eq_true rfl) (D := D1) (by kernel_rfl)]
  have old1 := Old.app H [.cells H.length true [.bool nx, vx]]
  have wf1 := hw.app (Nat.le_refl H.length) (o := true) (cs := [.bool nx, vx])
  have b1 := BxM.made (B := H.length) (H := H) (Nat.le_refl _) [.bool nx, vx]
  generalize hH1 : H ++ [Blk.cells H.length true [.bool nx, vx]] = H1 at *
  have old2 := Old.app H1 [.cells H1.length true [.bool ny, vy]]
  have wf2 := wf1.app (Nat.le_refl H1.length) (o := true) (cs := [.bool ny, vy])
  have b2 := BxM.made (B := H1.length) (H := H1) (Nat.le_refl _) [.bool ny, vy]
  generalize hH2 : H1 ++ [Blk.cells H1.length true [.bool ny, vy]] = H2 at *
  have old3 := Old.app H2 [.cells H2.length true [.bool false, .slice none 0 0]]
  have wf3 := wf2.app (Nat.le_refl H2.length) (o := true) (cs := [.bool false, .slice none 0 0])
  have b3 := BxM.made (B := H2.length) (H := H2) (Nat.le_refl _) [.bool false, .slice none 0 0]
  generalize hH3 : H2 ++ [Blk.cells H2.length true [.bool false, .slice none 0 0]] = H3 at *
  have old13 := old2.trans (old3.mono old2.1)
  have old03 := old1.trans (old13.mono old1.1)
  have b1 := b1.mono old13
  have b2 := b2.mono old3
  have f10 := b1.faddr 0
  have f11 := b1.faddr 1
  have f20 := b2.faddr 0
  have f21 := b2.faddr 1
  have l10 : loadS (bx (ptrA H.length 0) 0) H3 = some (.bool nx) := b1.load 0
  have l11 : loadS (bx (ptrA H.length 0) 1) H3 = some vx := b1.load 1
  have l20 : loadS (bx (ptrA H1.length 0) 0) H3 = some (.bool ny) := b2.load 0
  have l21 : loadS (bx (ptrA H1.length 0) 1) H3 = some vy := b2.load 1
  have hx3 := hx.mono old03
  have hy3 := hy.mono old03
  have hlx := hx.lenI
  have hly := hy.lenI
  -- the end: the box of the result
  have fin : ∀ (H4 : Heap) (v : Value) (nb : Bool) (z : Int), Old H3.length H3 H4 → WF H4 → RO H3.length H4 v (ints (nf z.natAbs)) → decide (z < 0) = nb → ∃ H5, storeN 2 (ptrA H2.length 0) (.agg #[.bool nb, v]) H4 = some H5 ∧ loadN 2 (ptrA H2.length 0) H5 = some (.agg #[.bool nb, v]) ∧ OneW H (some (.agg #[.bool nb, v], H5)) z ∧ Old H2.length H3 H5 := by
    intro H4 v nb z old4 wf4 r4 hz
    obtain ⟨H5, s5, b5, old5, wf5, keep5⟩ := (b3.mono old4).store wf4 (vs := [.bool nb, v]) rfl
    exact ⟨H5, s5, b5.loadAll, ⟨_, _, rfl, ⟨v, by rw [hz], (r4.kept keep5).below old03.1⟩, (old03.trans (old4.mono old03.1)).trans (old5.mono (Nat.le_trans old1.1 old2.1)), wf5⟩, (old4.mono old3.1).trans old5⟩
  by_cases hs : nx = ny
  · subst hs
    obtain ⟨hsgn, hsum⟩ := cpl_sign hnx hny
    have key := fun (A : Fr) {vl vs vo : Value} {u w : Int} {H' : Heap} (hB : H3.length ≤ H'.length) (hlg : ∀ G, Old H3.length H' G → R G vl (ints (nf u))) (hsh : ∀ G, Old H3.length H' G → R G vs (ints (nf w))) (u0 : 0 ≤ u) (w0 : 0 ≤ w) (hlw : (nf w).length ≤ (nf u).length) (hw : WF H') (lu : (nf u).length ≤ 890) (ho : O H3.length H' vo (ints [])) => plu_loop (p2 := ptrA H.length 0) (p4 := ptrA H2.length 0) hB hlg hsh u0 w0 hlw hw (by omega) ho (evB Try.prog noC n) n Try.f84.ntmps (a := A) (k := n) (by omega)
    rw [show pluA = atC [1, 0, 1, 0, 1, 1, 1, 1, 0, 1, 0, 0] ((Try.f84.body).getD .skip) from rfl] at key
    have kr := fun (A : Fr) (h2 : A 2 = ptrA H.length 0) (h3 : A 3 = ptrA H1.length 0) => plu_r2 (evB Try.prog noC n) n Try.f84.ntmps none (a := A) h2 h3 f11 f21 l11 l21 hx.refl hy.refl
    simp only [Try.f84, Option.getD_some, atC] at key kr
    have heq : (nx == nx) = true := by cases nx <;> rfl
    have z0 : zeros Try.prog 3 1 (Int.toNat 0) = some [] := nI
    have z0' : zeros Try.prog 3 1 0 = some [] := nI
    have oldm := Old.app H3 [.cells H3.length true []]
    have wfm := wf3.app (Nat.le_refl H3.length) (o := true) (cs := [])
    have om := O.empty (H := H3) (Nat.le_refl H3.length)
    have stay : ∀ {v : Value} {l : List Value}, R H3 v l → ∀ G, Old H3.length (H3 ++ [.cells H3.length true []]) G → R G v l := fun h G hG => h.mono (oldm.trans hG)
    simp (disch := omega) only [Try.f84, es_seq, es_region, es_cond, es_block, es_loop, es_skip, es_ret, ops_nil, ops_cons, st_move, st_assign, st_fun, sy_len uL, sy_bin, sy_append eL pI, sy_build1 eL oI, sy_make eL yI (by decide), bindO_some, bindF_some, bindX_normal, condX_true, ev_tmp, ev_const, ev_func, putA, upd_at, Option.map_some, ↓reduceIte, Nat.reduceEqDiff, frOf_0, frOf_1, List.map_cons, List.map_nil, beq_self_eq_true, ↓bindO_some, ↓bindF_some, ↓bindX_normal, ↓condX_true, sy_load aL, sy_load aB, sy_faddr fW0, sy_faddr fW1, sy_storeN zW, sy_alloc iW scal_agg, sy_box, sy_build, bW0, sy_eq qB, eqB_bool, scal_agg, Bool.false_xor, hH1, hH2, hH3, f10, f20, l10, l20]
    generalize hA : upd _ 15 _ = A
    obtain ⟨a2, H', e2, hH', g5, g6, g2, g3, g4⟩ := kr A (by subst hA; rfl) (by subst hA; rfl)
    have g4 : a2 4 = ptrA H2.length 0 := by rw [g4]; subst hA; rfl
    subst hH'
    rw [e2]
    clear e2 kr
    by_cases hlen : (nf x.natAbs).length < (nf y.natAbs).length
    · have c1 : ((nf x.natAbs).length : Int) < (nf y.natAbs).length := by omega
      have e1 : IntKind.i64.wrap (((nf y.natAbs).length : Int) + 1) = ((nf y.natAbs).length : Int) + 1 := wr64 (by omega) (by omega)
      have c2 : (0 : Int) ≤ ((nf y.natAbs).length : Int) + 1 := by omega
      have c3 : ((nf y.natAbs).length : Int) + 1 ≤ 1048576 := by omega
      simp (disch := omega) only [binS_lss, binS_add, bindO_some, bindF_some, bindX_normal, condX_true, upd_at, Option.map_some, ↓reduceIte, Nat.reduceEqDiff, decide_true, ↓bindO_some, ↓bindF_some, ↓bindX_normal, ↓condX_true, g5, g6, hlx, hly, c1, e1, c2, c3, Int.le_refl, and_self, z0]
      generalize hA : upd _ 33 _ = A
      obtain ⟨r, a', H', e, hr, g2, g4, old4, wf4, vo, out, c, g7, g8, oo, hol, hd, c0, c1', hval⟩ := key A oldm.1 (stay hy3) (stay hx3) (by omega) (by omega) (by omega) wfm ly om (by subst hA; exact g2) (by subst hA; exact g4) (by subst hA; rfl) (by subst hA; rfl) (by subst hA; rfl) (by subst hA; rfl) (by subst hA; rfl) (by subst hA; rfl)
      subst hr
      rw [e]
      clear e key
      have old34 := oldm.trans old4
      obtain ⟨pf0, pf1⟩ := plu_fin hd hol (by omega) (by omega) (by omega) c0 c1' hval
      rw [show ((y.natAbs : Nat) : Int) + x.natAbs = (x + y).natAbs from by omega] at pf0 pf1
      by_cases hc : c = 0
      · subst hc
        rw [pf0 rfl] at oo
        have m10 : loadS (bx (ptrA H.length 0) 0) H' = some (.bool nx) := (b1.mono (old34.mono (by have := old2.1; have := old3.1; omega))).load 0
        obtain ⟨H5, s5, s6, ow, _⟩ := fin H' vo nx (x + y) old34 wf4 oo.RO hsgn
        simp (disch := omega) only [binS_gtr, bindO_some, bindF_some, bindX_normal, bindX_ret, blkX_exit, condX_false, upd_at, Option.map_some, ↓reduceIte, Nat.reduceEqDiff, dec00, ↓bindO_some, ↓bindF_some, ↓bindX_normal, ↓bindX_ret, ↓condX_false, fin_r, res_nil, pack_1, res_cell aW zW, g2, g4, g7, g8, f10, m10, bW2 nx vo oo.R.scal, s5, s6]
        exact ow
      · obtain rfl : c = 1 := by omega
        have hpos : (0 : Int) < 1 := by omega
        obtain ⟨v6, H6, s6', o6, old6, wf6⟩ := oo.pushI wf4 old34.1 (by unfold maxA; omega) 1
        rw [pf1 rfl] at o6
        have old36 := old34.trans old6
        have m10 : loadS (bx (ptrA H.length 0) 0) H6 = some (.bool nx) := (b1.mono (old36.mono (by have := old2.1; have := old3.1; omega))).load 0
        obtain ⟨H5, s5, s6, ow, _⟩ := fin H6 v6 nx (x + y) old36 wf6 o6.RO hsgn
        simp (disch := omega) only [binS_gtr, bindO_some, bindF_some, bindX_normal, bindX_ret, blkX_exit, condX_true, upd_at, Option.map_some, ↓reduceIte, Nat.reduceEqDiff, decide_true, ↓bindO_some, ↓bindF_some, ↓bindX_normal, ↓bindX_ret, ↓condX_true, fin_r, res_nil, pack_1, scal_vi, res_cell aW zW, g2, g4, g7, g8, hpos, s6', f10, m10, bW2 nx v6 o6.R.scal, s5, s6]
        exact ow
    · have c1 : ¬ ((nf x.natAbs).length : Int) < (nf y.natAbs).length := by omega
      have e1 : IntKind.i64.wrap (((nf x.natAbs).length : Int) + 1) = ((nf x.natAbs).length : Int) + 1 := wr64 (by omega) (by omega)
      have c2 : (0 : Int) ≤ ((nf x.natAbs).length : Int) + 1 := by omega
      have c3 : ((nf x.natAbs).length : Int) + 1 ≤ 1048576 := by omega
      simp (disch := omega) only [binS_lss, binS_add, bindO_some, bindF_some, bindX_normal, condX_false, upd_at, Option.map_some, ↓reduceIte, Nat.reduceEqDiff, decide_false, ↓bindO_some, ↓bindF_some, ↓bindX_normal, ↓condX_false, g5, g6, hlx, hly, c1, e1, c2, c3, Int.le_refl, and_self, z0]
      generalize hA : upd _ 33 _ = A
      obtain ⟨r, a', H', e, hr, g2, g4, old4, wf4, vo, out, c, g7, g8, oo, hol, hd, c0, c1', hval⟩ := key A oldm.1 (stay hx3) (stay hy3) (by omega) (by omega) (by omega) wfm lx om (by subst hA; exact g2) (by subst hA; exact g4) (by subst hA; exact g6) (by subst hA; rfl) (by subst hA; rfl) (by subst hA; rfl) (by subst hA; rfl) (by subst hA; rfl)
      subst hr
      rw [e]
      clear e key
      have old34 := oldm.trans old4
      obtain ⟨pf0, pf1⟩ := plu_fin hd hol (by omega) (by omega) (by omega) c0 c1' hval
      rw [show ((x.natAbs : Nat) : Int) + y.natAbs = (x + y).natAbs from by omega] at pf0 pf1
      by_cases hc : c = 0
      · subst hc
        rw [pf0 rfl] at oo
        have m10 : loadS (bx (ptrA H.length 0) 0) H' = some (.bool nx) := (b1.mono (old34.mono (by have := old2.1; have := old3.1; omega))).load 0
        obtain ⟨H5, s5, s6, ow, _⟩ := fin H' vo nx (x + y) old34 wf4 oo.RO hsgn
        simp (disch := omega) only [binS_gtr, bindO_some, bindF_some, bindX_normal, bindX_ret, blkX_exit, condX_false, upd_at, Option.map_some, ↓reduceIte, Nat.reduceEqDiff, dec00, ↓bindO_some, ↓bindF_some, ↓bindX_normal, ↓bindX_ret, ↓condX_false, fin_r, res_nil, pack_1, res_cell aW zW, g2, g4, g7, g8, f10, m10, bW2 nx vo oo.R.scal, s5, s6]
        exact ow
      · obtain rfl : c = 1 := by omega
        have hpos : (0 : Int) < 1 := by omega
        obtain ⟨v6, H6, s6', o6, old6, wf6⟩ := oo.pushI wf4 old34.1 (by unfold maxA; omega) 1
        rw [pf1 rfl] at o6
        have old36 := old34.trans old6
        have m10 : loadS (bx (ptrA H.length 0) 0) H6 = some (.bool nx) := (b1.mono (old36.mono (by have := old2.1; have := old3.1; omega))).load 0
        obtain ⟨H5, s5, s6, ow, _⟩ := fin H6 v6 nx (x + y) old36 wf6 o6.RO hsgn
        simp (disch := omega) only [binS_gtr, bindO_some, bindF_some, bindX_normal, bindX_ret, blkX_exit, condX_true, upd_at, Option.map_some, ↓reduceIte, Nat.reduceEqDiff, decide_true, ↓bindO_some, ↓bindF_some, ↓bindX_normal, ↓bindX_ret, ↓condX_true, fin_r, res_nil, pack_1, scal_vi, res_cell aW zW, g2, g4, g7, g8, hpos, s6', f10, m10, bW2 nx v6 o6.R.scal, s5, s6]
        exact ow
  · have hne : (nx == ny) = false := by cases nx <;> cases ny <;> first | rfl | exact absurd rfl hs
    obtain ⟨m1, m2, m3⟩ := mix_sign hnx hny hs
    have s0 := sizes_run hx3 hy3 (by omega) (by omega) (by omega) (by omega) n (by omega)
    have k23 := fun (A : Fr) {H4 H5 H6 : Heap} {c d : Value} {nb : Bool} => plu_r23 (H := H3) (H4 := H4) (H5 := H5) (H6 := H6) (px := ptrA H.length 0) (py := ptrA H1.length 0) (p4 := ptrA H2.length 0) (vx := vx) (vy := vy) (c := c) (d := d) (nb := nb) (q0 := bx (ptrA H.length 0) 0) (q1 := bx (ptrA H.length 0) 1) (qy := bx (ptrA H1.length 0) 1) (evB Try.prog noC n) n Try.f84.ntmps none (a := A)
    have k24 := fun (A : Fr) {H4 H5 H6 : Heap} {c d : Value} {nb : Bool} => plu_r24 (H := H3) (H4 := H4) (H5 := H5) (H6 := H6) (px := ptrA H1.length 0) (py := ptrA H.length 0) (p4 := ptrA H2.length 0) (vx := vy) (vy := vx) (c := c) (d := d) (nb := nb) (q0 := bx (ptrA H1.length 0) 0) (q1 := bx (ptrA H1.length 0) 1) (qy := bx (ptrA H.length 0) 1) (evB Try.prog noC n) n Try.f84.ntmps none (a := A)
    simp only [Try.f84, Option.getD_some, atC] at k23 k24
    have rd : ∀ (G : Heap), Old H2.length H3 G → loadS (bx (ptrA H.length 0) 0) G = some (.bool nx) ∧ loadS (bx (ptrA H.length 0) 1) G = some vx ∧ loadS (bx (ptrA H1.length 0) 0) G = some (.bool ny) ∧ loadS (bx (ptrA H1.length 0) 1) G = some vy := fun G hG =>
      ⟨(b1.mono (hG.mono old2.1)).load 0, (b1.mono (hG.mono old2.1)).load 1, (b2.mono hG).load 0, (b2.mono hG).load 1⟩
    by_cases h1 : (y.natAbs : Int) < x.natAbs
    · have ec : cmpZ (x.natAbs : Int) y.natAbs = 1 := by unfold cmpZ; rw [if_neg (by omega), if_pos h1]
      rw [ec] at s0
      obtain ⟨hsg, hab⟩ := m1 h1
      obtain ⟨v4, H4, s4, o4, old4, wf4⟩ := clone_run wf3 hx3 (by omega) n (by omega)
      obtain ⟨v5, H5, s5, r5, old5, wf5⟩ := les_run o4 (fun G hG => hy3.mono (old4.trans hG)) (by omega) (by omega) wf4 (by omega) n (by omega)
      rw [← hab] at r5
      obtain ⟨H6, s6, s7, ow, old6⟩ := fin H5 v5 nx (x + y) (old4.trans old5) wf5 r5 hsg
      have c1 : ¬ (1 : Int) = 0 := by omega
      simp (disch := omega) only [Try.f84, es_seq, es_region, es_cond, es_block, es_skip, es_ret, ops_nil, ops_cons, st_assign, st_fun, sy_bin, binS_eql, bindO_some, bindF_some, bindX_normal, condX_true, condX_false, ev_tmp, ev_const, ev_func, putA, upd_at, Option.map_some, ↓reduceIte, Nat.reduceEqDiff, frOf_0, frOf_1, List.map_cons, List.map_nil, decide_true, decide_false, ↓bindO_some, ↓bindF_some, ↓bindX_normal, ↓condX_true, ↓condX_false, sy_load aL, sy_load aB, sy_faddr fW0, sy_faddr fW1, sy_alloc iW scal_agg, sy_box, sy_eq qB, eqB_bool, scal_agg, Bool.false_xor, hH1, hH2, hH3, f10, f20, l10, l20, hne, f11, f21, l11, l21, s0, c1]
      generalize hA : upd _ 77 _ = A
      have hG : ∀ G, G = H3 ∨ G = H4 ∨ G = H5 ∨ G = H6 → Old H2.length H3 G := fun G h => by
        rcases h with rfl | rfl | rfl | rfl
        · exact Old.refl _ _
        · exact old4.mono old3.1
        · exact (old4.trans old5).mono old3.1
        · exact old6
      obtain ⟨a', H', e, hH', g4⟩ := k23 A (H4 := H4) (H5 := H5) (H6 := H6) (by subst hA; rfl) (by subst hA; rfl) (by subst hA; rfl) f10 f11 f21 (fun G h => (rd G (hG G h)).1) (fun G h => (rd G (hG G h)).2.1) (fun G h => (rd G (hG G h)).2.2.2) hx.refl hy.refl s4 s5 r5.R.scal s6
      subst hH'
      rw [e]
      simp (disch := omega) only [bindX_normal, bindX_ret, blkX_ret, Option.map_some, ↓bindX_normal, ↓bindX_ret, fin_r, res_nil, pack_1, res_cell aW zW, g4, s7]
      exact ow
    · by_cases h2 : (x.natAbs : Int) < y.natAbs
      · have ec : cmpZ (x.natAbs : Int) y.natAbs = -1 := by unfold cmpZ; rw [if_pos h2]
        rw [ec] at s0
        obtain ⟨hsg, hab⟩ := m2 h2
        obtain ⟨v4, H4, s4, o4, old4, wf4⟩ := clone_run wf3 hy3 (by omega) n (by omega)
        obtain ⟨v5, H5, s5, r5, old5, wf5⟩ := les_run o4 (fun G hG => hx3.mono (old4.trans hG)) (by omega) (by omega) wf4 (by omega) n (by omega)
        rw [← hab] at r5
        obtain ⟨H6, s6, s7, ow, old6⟩ := fin H5 v5 ny (x + y) (old4.trans old5) wf5 r5 hsg
        have c1 : decide ((-1 : Int) = 0) = false := by decide
        have c2 : decide ((-1 : Int) = 1) = false := by decide
        simp (disch := omega) only [Try.f84, es_seq, es_region, es_cond, es_block, es_skip, es_ret, ops_nil, ops_cons, st_assign, st_fun, sy_bin, binS_eql, bindO_some, bindF_some, bindX_normal, blkX_normal, condX_false, ev_tmp, ev_const, ev_func, putA, upd_at, Option.map_some, ↓reduceIte, Nat.reduceEqDiff, frOf_0, frOf_1, List.map_cons, List.map_nil, ↓bindO_some, ↓bindF_some, ↓bindX_normal, ↓condX_false, sy_load aL, sy_load aB, sy_faddr fW0, sy_faddr fW1, sy_alloc iW scal_agg, sy_box, sy_eq qB, eqB_bool, scal_agg, Bool.false_xor, hH1, hH2, hH3, f10, f20, l10, l20, hne, f11, f21, l11, l21, s0, c1, c2]
        generalize hA : upd _ 77 _ = A
        have hG : ∀ G, G = H3 ∨ G = H4 ∨ G = H5 ∨ G = H6 → Old H2.length H3 G := fun G h => by
          rcases h with rfl | rfl | rfl | rfl
          · exact Old.refl _ _
          · exact old4.mono old3.1
          · exact (old4.trans old5).mono old3.1
          · exact old6
        obtain ⟨a', H', e, hH', g4⟩ := k24 A (H4 := H4) (H5 := H5) (H6 := H6) (by subst hA; rfl) (by subst hA; rfl) (by subst hA; rfl) f20 f21 f11 (fun G h => (rd G (hG G h)).2.2.1) (fun G h => (rd G (hG G h)).2.2.2) (fun G h => (rd G (hG G h)).2.1) hy.refl hx.refl s4 s5 r5.R.scal s6
        subst hH'
        rw [e]
        simp (disch := omega) only [bindX_normal, Option.map_some, ↓bindX_normal, fin_r, res_nil, pack_1, res_cell aW zW, g4, s7]
        exact ow
      · have hxy : x + y = 0 := m3 (by omega)
        have ec : cmpZ (x.natAbs : Int) y.natAbs = 0 := by unfold cmpZ; rw [if_neg h2, if_neg h1]
        rw [ec] at s0
        obtain ⟨H5, s5, s6, ow, _⟩ := fin H3 (.slice none 0 0) false (x + y) (Old.refl _ _) wf3 (by rw [hxy, show ((0 : Int).natAbs : Int) = 0 from rfl, nf_zero]; exact .inl ⟨rfl, rfl⟩) (by rw [hxy]; rfl)
        have c1 : decide ((0 : Int) = 0) = true := by decide
        simp (disch := omega) only [Try.f84, es_seq, es_region, es_cond, es_block, es_skip, es_ret, ops_nil, ops_cons, st_assign, st_fun, sy_bin, binS_eql, bindO_some, bindF_some, bindX_normal, bindX_ret, blkX_ret, condX_true, condX_false, ev_tmp, ev_const, ev_func, putA, upd_at, Option.map_some, ↓reduceIte, Nat.reduceEqDiff, frOf_0, frOf_1, List.map_cons, List.map_nil, decide_true, ↓bindO_some, ↓bindF_some, ↓bindX_normal, ↓bindX_ret, ↓condX_true, ↓condX_false, fin_r, res_nil, pack_1, sy_load aL, sy_load aB, sy_faddr fW0, sy_faddr fW1, sy_storeN zW, sy_alloc iW scal_agg, sy_box, sy_build, bW0, sy_eq qB, eqB_bool, res_cell aW zW, scal_agg, Bool.false_xor, hH1, hH2, hH3, f10, f20, l10, l20, hne, f11, f21, l11, l21, s0, s5, s6]
        exact ow
end Go.Proofs.Ytmmgdgmjkhcfaaa
namespace Go.Proofs.Ytmmgdgmjkhcfaaa
open Go Go.Abs Go.Num
set_option maxRecDepth 10000
attribute [local congr] bindO_congr bindF_congr bindX_congr condX_congr iteB_congr binS_congr pickS_congr eqB_congr nilS_congr clsW_congr
theorem addP_run {H : Heap} {vx vy : Value} {x y : Int} (hw : WF H) (hx : NumV H vx x) (hy : NumV H vy y) (lx : (nf x).length ≤ 880) (ly : (nf y).length ≤ 880) (n : Nat) (hn : 2012 ≤ n) :
    OneL H (evB Try.prog noC n (.func (.func 38) #[] #[]) [vx, vy] H) (nf (x + y)) := by
  refine run_of (F := 2011) (Q := fun r => OneL H r (nf (x + y))) (fun n hn => ?_) n hn
  rw [body_runS Try.func38 rfl (ok_fn (by rfl) Try.func38 rfl) (Nat.le_of_ble_eq_true rfl) (D := D0) (by kernel_rfl)]
  obtain ⟨wx, H1, s1, w1, old1, wf1⟩ := read_run hw hx n (by omega)
  obtain ⟨wy, H2, s2, w2, old2, wf2⟩ := read_run wf1 (hy.mono old1) n (by omega)
  obtain ⟨wz, H3, s3, w3, old3, wf3⟩ := plus_run wf2 (w1.mono old2) (w2.below old1.1) (by rw [abs_len]; omega) (by rw [abs_len]; omega) n (by omega)
  obtain ⟨v, H4, s4, o4, old4, wf4⟩ := list_run wf3 w3 (by rw [abs_len]; have := add_len lx ly; omega) n (by omega)
  simp (disch := omega) only [Try.f38, es_seq, es_region, es_ret, ops_nil, ops_cons, st_move, st_assign, st_fun, bindO_some, bindF_some, bindX_normal, ev_tmp, ev_const, ev_func, putA, upd_at, Option.map_some, ↓reduceIte, Nat.reduceEqDiff, frOf_0, frOf_1, List.map_cons, List.map_nil, ↓bindO_some, ↓bindF_some, ↓bindX_normal, fin_r, res_nil, res_tmp, pack_1, s1, s2, s3, s4, o4.R.scal]
  have old12 := old1.trans (old2.mono old1.1)
  have old13 := old12.trans (old3.mono old12.1)
  exact ⟨_, _, rfl, o4.below old13.1, old13.trans (old4.mono old13.1), wf4⟩
end Go.Proofs.Ytmmgdgmjkhcfaaa
namespace Go.Abs
theorem RG.refl {α : Type} {s : Nat} {Q : Heap → List Value → α → Prop} {H : Heap} {v : Value} {ls : List α} (h : RG s Q H v ls) : vEq v v = true := by
  rcases h with ⟨rfl, _⟩ | ⟨b, f, w, css, rfl, _⟩ <;> simp [vEq, sEq, sliceA]
theorem reflV_conv {s e : TypeId} {x : Operand} {v : Value} : reflV (.convert s e x) v = vEq v v := (rfl)
end Go.Abs
namespace Go.Proofs.Ytmmgdgmjkhcfaaa
open Go Go.Abs Go.Num
set_option maxRecDepth 10000
attribute [local congr] bindO_congr bindF_congr bindX_congr condX_congr iteB_congr binS_congr pickS_congr eqB_congr nilS_congr clsW_congr maxS_congr minS_congr
theorem uLLL : Try.prog.underlying 50 = some (.slice 53) := by kernel_rfl
theorem eLLL : sliceElem Try.prog 50 = some (53, 1) := by kernel_rfl
theorem aLL : isAggT Try.prog 53 = some false := by kernel_rfl
noncomputable def lawO : Nat → List Arg → Option Res := fun f xs => match xs with
  | [] => if f = 15 then some trueR else none
  | [.imm (.int .i64 z)] =>
    if f = 43 then (if 1 ≤ z ∧ z ≤ 12 then some (cpR z.toNat) else none)
    else if f = 41 then (if 1 ≤ z ∧ z ≤ 8 then some (tabR z.toNat) else none)
    else none
  | _ => none
theorem tab_line {z : Int} (h1 : 1 ≤ z) (h8 : z ≤ 8) : LineOK Try.prog 41 [.imm (.int .i64 z)] (tabR z.toNat) := by
  rw [← i_of h1]
  have h : z.toNat = 1 ∨ z.toNat = 2 ∨ z.toNat = 3 ∨ z.toNat = 4 ∨ z.toNat = 5 ∨ z.toNat = 6 ∨ z.toNat = 7 ∨ z.toNat = 8 := by omega
  rcases h with e | e | e | e | e | e | e | e <;> rw [e]
  · exact orTab1 _ (List.mem_singleton.2 rfl)
  · exact orTab2 _ (List.mem_singleton.2 rfl)
  · exact orTab3 _ (List.mem_singleton.2 rfl)
  · exact orTab4 _ (List.mem_singleton.2 rfl)
  · exact orTab5 _ (List.mem_singleton.2 rfl)
  · exact orTab6 _ (List.mem_singleton.2 rfl)
  · exact orTab7 _ (List.mem_singleton.2 rfl)
  · exact orTab8 _ (List.mem_singleton.2 rfl)
theorem lawO_ok : ∀ f xs r, lawO f xs = some r → LineOK Try.prog f xs r := by
  intro f xs r h
  unfold lawO at h
  split at h
  · split at h
    · rename_i hf; subst hf; cases h; exact awake_line
    · cases h
  · split at h
    · rename_i hf
      subst hf
      split at h
      · rename_i hz; cases h; exact pa_line rfl rfl paC0_seen paC1_seen hz
      · cases h
    · split at h
      · rename_i hf
        subst hf
        split at h
        · rename_i hz; cases h; exact tab_line hz.1 hz.2
        · cases h
      · cases h
  · cases h
noncomputable def callO (n : Nat) : CallF := Abs.orC (tabC lawO) (evB Try.prog noC n)
theorem callO_ok (n : Nat) : CallOK Try.prog (callO n) := Abs.orC_ok (tabC_ok lawO_ok) (evB_ok hmix noC_ok noC_grow n)
theorem callO_grow (n : Nat) : CallGrow (callO n) := Abs.orC_grow (tabC_grow _) (evB_grow noC_grow n)
theorem co_other {n f : Nat} {args : List Value} {H : Heap} (h : f ≠ 15) (h2 : f ≠ 43) (h3 : f ≠ 41) : callO n (.func (.func f) #[] #[]) args H = evB Try.prog noC n (.func (.func f) #[] #[]) args H := by
  unfold callO Abs.orC
  rw [tab_none (sp := lawO) (fun xs => by
    unfold lawO
    split
    · rw [if_neg h]
    · rw [if_neg h2, if_neg h3]
    · rfl)]
theorem co_awake {n : Nat} {H : Heap} : callO n (.func (.func 15) #[] #[]) [] H = some (.bool true, H) := by
  unfold callO Abs.orC
  have e : tabC lawO (.func (.func 15) #[] #[]) [] H = some (.bool true, H ++ []) := rfl
  rw [e, List.append_nil]
theorem oparts_run {H : Heap} {z : Int} (hw : WF H) (h0 : 1 ≤ z) (h1 : z ≤ 8) (n : Nat) : ∃ v H', callO n (.func (.func 43) #[] #[]) [vi z] H = some (.tuple #[v, vi 0], H') ∧ RL H' v (natLL (parts z.toNat)) ∧ Old H.length H H' ∧ WF H' := by
  obtain ⟨r1, r2, r3⟩ := llB_RL hw (parts z.toNat)
  refine ⟨_, _, ?_, r1, r2, r3⟩
  unfold callO Abs.orC
  rw [tab_int (sp := lawO) (v := .tuple #[sliceA 0 0 (parts z.toNat).length 1, posV 0]) (bs := llB (parts z.toNat)) (v' := .tuple #[sliceA H.length 0 (parts z.toNat).length 1, vi 0]) (by
    show (if 1 ≤ z ∧ z ≤ 12 then _ else _) = _
    rw [if_pos ⟨h0, by omega⟩]; rfl) (by
    show some (Value.tuple #[sliceA (0 + H.length) 0 (parts z.toNat).length 1, vi 0]) = _
    rw [Nat.zero_add]) (mk_llB _ _ _)]
def tabD (n : Nat) : List (List (List Int)) := (chiTab n).map fun r => r.map nf
theorem otab_run {H : Heap} {z : Int} (hw : WF H) (h0 : 1 ≤ z) (h1 : z ≤ 8) (n : Nat) : ∃ v H', callO n (.func (.func 41) #[] #[]) [vi z] H = some (.tuple #[v, vi 0], H') ∧ RLL H' v (tabD z.toNat) ∧ Old H.length H H' ∧ WF H' := by
  have o := orth_all (n := z.toNat) (by omega) (by omega)
  refine ⟨_, _, ?_, tabOk_RLL o.tab H, mkL_old H _, mkL_wf hw _⟩
  unfold callO Abs.orC
  rw [tab_int (sp := lawO) (v := .tuple #[sliceA 0 0 (chiTab z.toNat).length 1, posV 0]) (bs := tabB (chiTab z.toNat)) (v' := .tuple #[renD H.length (sliceA 0 0 (chiTab z.toNat).length 1), vi 0]) (l := mkL H.length H.length (tabB (chiTab z.toNat))) (by
    show (if 1 ≤ z ∧ z ≤ 8 then some (tabR z.toNat) else none) = _
    rw [if_pos ⟨h0, h1⟩]; rfl) rfl (mk_good o.good)]
theorem csW_run {H : Heap} {v : Value} {l : List Int} (hw : WF H) (hv : R H v (ints l)) (hc : chk l = 0) (n : Nat) (hn : 100030000 ≤ n) : OneT H (evB Try.prog noC n (.func (.func 52) #[] #[]) [v] H) (fun u => .tuple #[u, vi 0]) (nf (clsZ l)) := by
  refine run_of (F := 100029999) (Q := fun r => OneT H r (fun u => .tuple #[u, vi 0]) (nf (clsZ l))) (fun n hn => ?_) n hn
  rw [body_runS Try.func52 rfl (ok_fn (by rfl) Try.func52 rfl) (Nat.le_of_ble_eq_true rfl) (D := D0) (by kernel_rfl)]
  have hp := chk_part hc
  have hl := hp.len
  have s0 := ccheck_run hv (by omega) n (by omega)
  rw [hc] at s0
  obtain ⟨v1, H1, s1, o1, old1, wf1⟩ := class_run hw hv hp n (by omega)
  have c1 : decide ((0 : Int) = 0) = true := rfl
  simp (disch := omega) only [Try.f52, es_seq, es_region, es_cond, es_skip, es_ret, ops_nil, ops_cons, st_move, st_assign, st_fun, sy_bin, binS_neq, bindO_some, bindF_some, bindX_normal, condX_false, ev_tmp, ev_const, ev_func, putA, upd_at, Option.map_some, ↓reduceIte, Nat.reduceEqDiff, frOf_0, List.map_cons, List.map_nil, decide_true, Bool.not_true, ↓bindO_some, ↓bindF_some, ↓bindX_normal, ↓condX_false, fin_r, res_nil, res_tmp, pack_2, scal_vi, s0, s1, o1.R.scal]
  exact ⟨_, _, rfl, o1, old1, wf1⟩
theorem cv_8 {H : Heap} {x : Int} (h0 : 0 ≤ x) (h1 : x < 256) : cvS 5 3 (.int .u8 x) H = some (vi x) := by
  have e : pureVal Try.prog (do let y ← convert 5 3 (.int .u8 x); pure (Next.value y)) = some (Next.value (.int .i64 (IntKind.i64.wrap x))) := by kernel_rfl
  unfold cvS
  rw [show textA Try.prog 5 3 (.int .u8 x) H = none from rfl, e, wr64 (by omega) (by omega)]
  rfl
noncomputable def orA : Code := atC [1, 1, 1, 1, 1, 1, 1, 0, 1, 0, 0] ((Try.f12.body).getD .skip)
set_option maxHeartbeats 4000000 in
theorem or_step {H : Heap} {vl vt : Value} {m : Nat} (o : Orth m) (rl : RL H vl (natLL (parts m))) (rt : RLL H vt (tabD m)) {α β : Nat} (hα : α < (natLL (parts m)).length) (hβ : β < (natLL (parts m)).length) (n nt : Nat) (hn : 100040000 ≤ n) {i : Nat} (hi : i < (natLL (parts m)).length) {a : Fr} {H' : Heap} (old : Old H.length H H') (hw : WF H') {vs vq : Value} {s q : Int} (rs : R H' vs (ints (nf s))) (rq : R H' vq (ints (nf q)))
    (hs : goK ((clsL m).drop i) (((chiTab m).getD α []).drop i) (((chiTab m).getD β []).drop i) (if α = β then fct m else 0) s = true) (hq : goS ((dimL m).drop i) (fct m) q = true)
    {z : Value} (h0 : a 0 = z) (h7 : a 7 = vl) (h9 : a 9 = vt) (h11 : a 11 = vi α) (h12 : a 12 = vi β) (h13 : a 13 = vs) (h14 : a 14 = vq) (h15 : a 15 = vi i) :
    ∃ a' H2 vs' vq' s' q', evT Try.prog (callO n) n nt none D0 orA a H' = some (.normal, a', H2) ∧ Old H.length H H2 ∧ WF H2 ∧ R H2 vs' (ints (nf s')) ∧ R H2 vq' (ints (nf q')) ∧
      goK ((clsL m).drop (i + 1)) (((chiTab m).getD α []).drop (i + 1)) (((chiTab m).getD β []).drop (i + 1)) (if α = β then fct m else 0) s' = true ∧ goS ((dimL m).drop (i + 1)) (fct m) q' = true ∧
      a' 0 = z ∧ a' 7 = vl ∧ a' 9 = vt ∧ a' 11 = vi α ∧ a' 12 = vi β ∧ a' 13 = vs' ∧ a' 14 = vq' ∧ a' 15 = vi (i + 1 : Nat) := by
  have hN := o.few
  have hlen := o.len
  have hd : (tabD m).length = (natLL (parts m)).length := by unfold tabD; rw [List.length_map]; exact hlen
  have rowD : ∀ {k : Nat}, k < (natLL (parts m)).length → (tabD m).getD k [] = ((chiTab m).getD k []).map nf ∧ ((chiTab m).getD k []).length = (natLL (parts m)).length := by
    intro k hk
    have hk2 : k < (chiTab m).length := by omega
    unfold tabD
    rw [List.getD_eq_getElem?_getD, List.getElem?_map, List.getD_eq_getElem?_getD, List.getElem?_eq_getElem hk2]
    exact ⟨rfl, o.rows _ (List.getElem_mem hk2)⟩
  have getD_nf : ∀ {r : List Int} {k : Nat}, k < r.length → (r.map nf).getD k [] = nf (r.getD k 0) := by
    intro r k hk
    rw [List.getD_eq_getElem?_getD, List.getElem?_map, List.getD_eq_getElem?_getD, List.getElem?_eq_getElem hk]; rfl
  have pmem : (natLL (parts m)).getD i [] ∈ natLL (parts m) := by rw [List.getD_eq_getElem?_getD, List.getElem?_eq_getElem hi]; exact List.getElem_mem hi
  have hp := o.valid _ pmem
  have hpp := chk_part hp
  have hpl := hpp.len
  have ecl : (clsL m).getD i 0 = clsZ ((natLL (parts m)).getD i []) := by
    unfold clsL
    rw [List.getD_eq_getElem?_getD, List.getElem?_map, List.getD_eq_getElem?_getD, List.getElem?_eq_getElem hi]; rfl
  have edm : (dimL m).getD i 0 = dimZ ((natLL (parts m)).getD i []) := by
    unfold dimL
    rw [List.getD_eq_getElem?_getD, List.getElem?_map, List.getD_eq_getElem?_getD, List.getElem?_eq_getElem hi]; rfl
  obtain ⟨eα, lα⟩ := rowD hα
  obtain ⟨eβ, lβ⟩ := rowD hβ
  obtain ⟨ei, li⟩ := rowD hi
  have lc : (clsL m).length = (natLL (parts m)).length := by unfold clsL; rw [List.length_map]
  have ld : (dimL m).length = (natLL (parts m)).length := by unfold dimL; rw [List.length_map]
  obtain ⟨b1, b2, b3, b4, b5, b6, hs2⟩ := goK_at (by omega) (by omega) (by omega) hs
  obtain ⟨d1, d2, d3, hq2⟩ := goS_at (by omega) hq
  have hlast : ((chiTab m).getD i []).getD ((natLL (parts m)).length - 1) 0 = (dimL m).getD i 0 := by
    refine o.last i _ _ ?_ ?_
    · rw [List.getD_eq_getElem?_getD, List.getElem?_eq_getElem (by omega : i < (chiTab m).length)]; rfl
    · rw [List.getD_eq_getElem?_getD, List.getElem?_eq_getElem (by omega : i < (dimL m).length)]; rfl
  rw [ecl] at b4 b6 hs2
  rw [edm] at d2 d3 hq2 hlast
  have z0 : decide ((0 : Int) = 0) = true := rfl
  -- the class and the dimension
  have l0 := rl.mono old
  obtain ⟨vr, e1, r1⟩ := l0.row hi
  obtain ⟨w1, H1, s1, o1, old1, wf1⟩ := csW_run hw r1 hp n (by omega)
  have l1 := l0.mono old1
  obtain ⟨vr2, e2, r2⟩ := l1.row hi
  obtain ⟨w2, H2, s2, o2, old2, wf2⟩ := dimW_run wf1 r2 (by omega) n (by omega)
  rw [show dimE ((natLL (parts m)).getD i []) = nf (dimZ ((natLL (parts m)).getD i [])) from if_pos hp] at o2
  rw [hp] at s2
  have t2 := old1.trans (old2.mono old1.1)
  have l2 := l1.mono old2
  have T2 := (rt.mono old).mono t2
  -- the rows
  have ai : addrS 1 vl (vi i) = some (pt vl i) := l0.addr hi
  obtain ⟨vx, ex, rx⟩ := T2.row (i := i) (by omega)
  obtain ⟨va, ea, ra⟩ := T2.row (i := α) (by omega)
  obtain ⟨vb, eb, rb⟩ := T2.row (i := β) (by omega)
  have tx : addrS 1 vt (vi i) = some (pt vt i) := T2.addr (by omega)
  have ta : addrS 1 vt (vi α) = some (pt vt α) := T2.addr (by omega)
  have tb : addrS 1 vt (vi β) = some (pt vt β) := T2.addr (by omega)
  rw [ei] at rx
  rw [eα] at ra
  rw [eβ] at rb
  have lx : lenS vx = some (natLL (parts m)).length := by rw [RG.len rx, List.length_map, li]
  have la : lenS va = some (natLL (parts m)).length := by rw [RG.len ra, List.length_map, lα]
  have lb : lenS vb = some (natLL (parts m)).length := by rw [RG.len rb, List.length_map, lβ]
  have ln : lenS vl = some (natLL (parts m)).length := RG.len l0
  have cN : decide ((((natLL (parts m)).length : Nat) : Int) = ((natLL (parts m)).length : Nat)) = true := decide_eq_true rfl
  have pa : addrS 1 va (vi i) = some (pt va i) := ra.addr (by rw [List.length_map]; omega)
  have pb : addrS 1 vb (vi i) = some (pt vb i) := rb.addr (by rw [List.length_map]; omega)
  obtain ⟨ca, fa, ga⟩ := ra.row (i := i) (by rw [List.length_map]; omega)
  obtain ⟨cb, fb, gb⟩ := rb.row (i := i) (by rw [List.length_map]; omega)
  rw [getD_nf (by omega)] at ga gb
  -- the sums
  obtain ⟨w3, H3, s3, o3, old3, wf3⟩ := mulP_run wf2 (NumV.of ga (by have := bd2_len b2; omega)) (NumV.of gb (by have := bd2_len b3; omega)) (by have := bd2_len b2; omega) (by have := bd2_len b3; omega) n (by omega)
  have q1 := (o1.R.mono old2).mono old3
  obtain ⟨w4, H4, s4, o4, old4, wf4⟩ := mulP_run wf3 (NumV.of q1 (by have := bd2_len b4; omega)) (NumV.of o3.R (by have := bd2_len b5; omega)) (by have := bd2_len b4; omega) (by have := bd2_len b5; omega) n (by omega)
  have t3 := t2.trans (old3.mono t2.1)
  have t4 := t3.trans (old4.mono t3.1)
  obtain ⟨w5, H5, s5, o5, old5, wf5⟩ := addP_run wf4 (NumV.of (rs.mono t4) (by have := bd2_len b1; omega)) (NumV.of o4.R (by have := bd2_len b6; omega)) (by have := bd2_len b1; omega) (by have := bd2_len b6; omega) n (by omega)
  have t5 := t4.trans (old5.mono t4.1)
  have q2 := ((o2.R.mono old3).mono old4).mono old5
  obtain ⟨w6, H6, s6, o6, old6, wf6⟩ := mulP_run wf5 (NumV.of q2 (by have := bd2_len d2; omega)) (NumV.of q2 (by have := bd2_len d2; omega)) (by have := bd2_len d2; omega) (by have := bd2_len d2; omega) n (by omega)
  have t6 := t5.trans (old6.mono t5.1)
  obtain ⟨w7, H7, s7, o7, old7, wf7⟩ := addP_run wf6 (NumV.of (rq.mono t6) (by have := bd2_len d1; omega)) (NumV.of o6.R (by have := bd2_len d3; omega)) (by have := bd2_len d1; omega) (by have := bd2_len d3; omega) n (by omega)
  have t7 := t6.trans (old7.mono t6.1)
  -- the last value
  have T7 := (rt.mono old).mono t7
  obtain ⟨vy, ey, ry⟩ := T7.row (i := i) (by omega)
  rw [ei] at ry
  have en : IntKind.i64.wrap ((((natLL (parts m)).length : Nat) : Int) - 1) = (((natLL (parts m)).length - 1 : Nat) : Int) := by rw [wr64 (by omega) (by omega)]; omega
  have py : addrS 1 vy (vi ((natLL (parts m)).length - 1 : Nat)) = some (pt vy ((natLL (parts m)).length - 1)) := ry.addr (by rw [List.length_map]; omega)
  obtain ⟨cy, fy, gy⟩ := ry.row (i := (natLL (parts m)).length - 1) (by rw [List.length_map]; omega)
  rw [getD_nf (by omega), hlast] at gy
  have s8 := ints_run gy ((q2.mono old6).mono old7) (by have := bd2_len d2; omega) (by have := bd2_len d2; omega) n (by omega)
  rw [decide_eq_true rfl] at s8
  have inc : IntKind.i64.wrap ((i : Int) + 1) = ((i + 1 : Nat) : Int) := by rw [wr64 (by omega) (by omega)]; omega
  have hlt : (i : Int) < (natLL (parts m)).length := by omega
  have ra1 := RG.refl ra
  have rb1 := RG.refl rb
  have fa1 := ga.refl
  have fb1 := gb.refl
  rw [show orA = atC [1, 1, 1, 1, 1, 1, 1, 0, 1, 0, 0] ((Try.f12.body).getD .skip) from rfl]
  clear hs hq rowD getD_nf b1 b2 b3 b4 b5 b6 d1 d2 d3 T2 T7 rt rl o
  simp (maxSteps := 1000000) (disch := omega) only [Try.f12, Option.getD_some, atC, es_seq, es_region, es_draw, d0, es_cond, es_block, es_skip, ops_nil, ops_cons, ops_consG, opsV_nil, opsV_cons, st_move, st_assign, sy_pick, pickS_false, st_fun, sy_bin, st_not, sy_ext, ext_20, ext_21, binS_lss, binS_neq, binS_add, binS_sub, bindO_some, bindF_some, bindX_normal, blkX_normal, condX_true, condX_false, iteB_true, iteB_false, ev_tmp, ev_const, ev_func, putA, upd_at, Option.map_some, ↓reduceIte, Nat.reduceEqDiff, List.map_cons, List.map_nil, decide_true, Bool.not_true, yieldO_eq, yO, yV_bool, List.getElem?_cons_zero, List.getElem?_cons_succ, beq_self_eq_true, ↓bindO_some, ↓bindF_some, ↓bindX_normal, ↓condX_true, ↓condX_false, ↓iteB_true, ↓iteB_false, reflV_load, reflV_move, reflV_assign, reflV_addr, reflV_call, sy_len uLL, sy_addr eLL, sy_addr eLLL, sy_load aL, sy_load aLL, co_other, h7, h9, h11, h12, h13, h14, h15, hlt, ln, ai, e1, s1, e2, s2, tx, ta, tb, ex, ea, eb, lx, la, lb, pa, pb, fa, fb, ra1, rb1, fa1, fb1, s3, s4, s5, s6, s7, ey, en, py, fy, s8, inc]
  exact ⟨_, _, w5, w7, _, _, rfl, old.trans (t7.mono old.1), wf7, (o5.R.mono old6).mono old7, o7.R, hs2, hq2, h0, h7, h9, h11, h12, rfl, rfl, rfl⟩
theorem or_loop {H : Heap} {vl vt : Value} {m : Nat} (o : Orth m) (hw : WF H) (rl : RL H vl (natLL (parts m))) (rt : RLL H vt (tabD m)) {α β : Nat} (hα : α < (natLL (parts m)).length) (hβ : β < (natLL (parts m)).length) (n nt : Nat) (hn : 100040000 ≤ n)
    {z : Value} {a : Fr} (h0 : a 0 = z) (h7 : a 7 = vl) (h9 : a 9 = vt) (h11 : a 11 = vi α) (h12 : a 12 = vi β) (h13 : a 13 = .slice none 0 0) (h14 : a 14 = .slice none 0 0) (h15 : a 15 = vi (0 : Nat)) :
    ∃ r a' H2, loopN (evT Try.prog (callO n) n nt none D0 orA) n a H = some (r, a', H2) ∧ r = .exit 0 ∧ Old H.length H H2 ∧ WF H2 ∧ a' 0 = z ∧ a' 11 = vi α ∧ a' 12 = vi β ∧ R H2 (a' 13) (ints (nf (if α = β then fct m else 0))) ∧ R H2 (a' 14) (ints (nf (fct m))) := by
  have hN := o.few
  refine loop_up (natLL (parts m)).length (fun i a H' => Old H.length H H' ∧ WF H' ∧ ∃ s q, R H' (a 13) (ints (nf s)) ∧ R H' (a 14) (ints (nf q)) ∧ goK ((clsL m).drop i) (((chiTab m).getD α []).drop i) (((chiTab m).getD β []).drop i) (if α = β then fct m else 0) s = true ∧ goS ((dimL m).drop i) (fct m) q = true ∧
    a 0 = z ∧ a 7 = vl ∧ a 9 = vt ∧ a 11 = vi α ∧ a 12 = vi β ∧ a 15 = vi i) _ ?_ ?_ (by omega) ⟨Old.refl _ _, hw, 0, 0, by rw [h13, nf_zero]; exact .inl ⟨rfl, rfl⟩, by rw [h14, nf_zero]; exact .inl ⟨rfl, rfl⟩, by rw [List.drop_zero, List.drop_zero, List.drop_zero]; exact o.orth α β (by rw [o.len]; exact hα) (by rw [o.len]; exact hβ), by rw [List.drop_zero]; exact o.sq, h0, h7, h9, h11, h12, h15⟩
  · intro i a H' hi ⟨old, wf, s, q, rs, rq, hs, hq, h0, h7, h9, h11, h12, h15⟩
    left
    obtain ⟨a', H2, vs', vq', s', q', e, k1, k2, k3, k4, k5, k6, g0, g7, g9, g11, g12, g13, g14, g15⟩ := or_step o rl rt hα hβ n nt hn hi old wf rs rq hs hq h0 h7 h9 h11 h12 rfl rfl h15
    exact ⟨a', H2, e, k1, k2, s', q', by rw [g13]; exact k3, by rw [g14]; exact k4, k5, k6, g0, g7, g9, g11, g12, g15⟩
  · intro a H' ⟨old, wf, s, q, rs, rq, hs, hq, h0, h7, h9, h11, h12, h15⟩
    have ln : lenS vl = some (natLL (parts m)).length := RG.len (rl.mono old)
    have e1 := goK_end (cs := clsL m) (by rw [show (clsL m).length = (natLL (parts m)).length from by unfold clsL; rw [List.length_map]]; exact hs)
    have e2 := goS_end (cs := dimL m) (by rw [show (dimL m).length = (natLL (parts m)).length from by unfold dimL; rw [List.length_map]]; exact hq)
    subst e1
    subst e2
    rw [show orA = atC [1, 1, 1, 1, 1, 1, 1, 0, 1, 0, 0] ((Try.f12.body).getD .skip) from rfl]
    simp (disch := omega) only [Try.f12, Option.getD_some, atC, es_seq, es_region, es_cond, es_exit, ops_nil, ops_cons, st_move, sy_bin, binS_lss, bindO_some, bindF_some, bindX_normal, bindX_exit, condX_false, ev_tmp, putA, upd_at, Option.map_some, ↓reduceIte, Nat.reduceEqDiff, decide_false, ↓bindO_some, ↓bindF_some, ↓bindX_normal, ↓bindX_exit, ↓condX_false, sy_len uLL, h7, h15, ln, Int.lt_irrefl]
    exact ⟨_, _, _, rfl, by simp, rfl, old, wf, h0, h11, h12, rs, rq⟩
set_option maxHeartbeats 4000000 in
theorem orthLaw_run {H : Heap} (hw : WF H) (z i k : Int) (hi : 0 ≤ i ∧ i < 256) (hk : 0 ≤ k ∧ k < 256) : ∃ H', evBody Try.prog (callO 200000000) 200000000 (.func (.func 12) #[] #[]) [vi z, .int .u8 i, .int .u8 k] H = some (.bool true, H') := by
  obtain ⟨n, hn⟩ : ∃ n, n = 200000000 := ⟨_, rfl⟩
  rw [← hn]
  rw [body_runS (c := (Try.f12.body).getD .skip) Try.func12 rfl (ok_fn (by rfl) Try.func12 rfl) (Nat.le_of_ble_eq_true rfl) (D := D0) (by kernel_rfl)]
  have s0 := within_runS z 1 8 H n (by omega)
  by_cases hz : 1 ≤ z ∧ z ≤ 8
  case neg =>
    rw [show (decide (1 ≤ z) && decide (z ≤ 8)) = false from by rw [Bool.and_eq_false_iff]; rcases Decidable.not_and_iff_or_not.1 hz with h | h; exact .inl (decide_eq_false h); exact .inr (decide_eq_false h)] at s0
    simp (disch := omega) only [Try.f12, Option.getD_some, es_seq, es_region, es_cond, es_ret, ops_nil, ops_cons, st_move, st_assign, st_fun, st_not, bindO_some, bindF_some, bindX_normal, bindX_ret, condX_true, ev_tmp, ev_const, ev_func, putA, upd_at, Option.map_some, ↓reduceIte, Nat.reduceEqDiff, frOf_0, List.map_cons, List.map_nil, Bool.not_false, ↓bindO_some, ↓bindF_some, ↓bindX_normal, ↓bindX_ret, ↓condX_true, fin_r, res_nil, res_tmp, pack_1, scal_bool, co_other, co_awake, s0]
    exact ⟨_, rfl⟩
  rw [show (decide (1 ≤ z) && decide (z ≤ 8)) = true from by rw [Bool.and_eq_true]; exact ⟨decide_eq_true hz.1, decide_eq_true hz.2⟩] at s0
  have o := orth_all (n := z.toNat) (by omega) (by omega)
  have hN := o.few
  have h1 := o.one
  have hd : (tabD z.toNat).length = (natLL (parts z.toNat)).length := by unfold tabD; rw [List.length_map]; exact o.len
  obtain ⟨vl, H1, s1, rl, old1, wf1⟩ := oparts_run hw hz.1 hz.2 n
  obtain ⟨vt, H2, s2, rt, old2, wf2⟩ := otab_run wf1 hz.1 hz.2 n
  have rl2 := rl.mono old2
  have ln : lenS vl = some (natLL (parts z.toNat)).length := RG.len rl2
  have lt : lenS vt = some (natLL (parts z.toNat)).length := by rw [RG.len rt, hd]
  have z0 : decide ((0 : Int) = 0) = true := rfl
  have c0 : decide ((((natLL (parts z.toNat)).length : Nat) : Int) = 0) = false := decide_eq_false (by omega)
  have cN : decide ((((natLL (parts z.toNat)).length : Nat) : Int) = ((natLL (parts z.toNat)).length : Nat)) = true := decide_eq_true rfl
  have v1 : ∀ {H : Heap}, cvS 5 3 (.int .u8 i) H = some (vi i) := cv_8 hi.1 hi.2
  have v2 : ∀ {H : Heap}, cvS 5 3 (.int .u8 k) H = some (vi k) := cv_8 hk.1 hk.2
  obtain ⟨α, hα0, hα⟩ : ∃ α : Nat, i.tmod ((natLL (parts z.toNat)).length : Nat) = (α : Int) ∧ α < (natLL (parts z.toNat)).length := by
    have e := tmod_pos hi.1 ((natLL (parts z.toNat)).length : Int)
    have e1 := Int.emod_nonneg i (b := ((natLL (parts z.toNat)).length : Int)) (by omega)
    have e2 := Int.emod_lt_of_pos i (b := ((natLL (parts z.toNat)).length : Int)) (by omega)
    exact ⟨(i % ((natLL (parts z.toNat)).length : Int)).toNat, by omega, by omega⟩
  obtain ⟨β, hβ0, hβ⟩ : ∃ β : Nat, k.tmod ((natLL (parts z.toNat)).length : Nat) = (β : Int) ∧ β < (natLL (parts z.toNat)).length := by
    have e := tmod_pos hk.1 ((natLL (parts z.toNat)).length : Int)
    have e1 := Int.emod_nonneg k (b := ((natLL (parts z.toNat)).length : Int)) (by omega)
    have e2 := Int.emod_lt_of_pos k (b := ((natLL (parts z.toNat)).length : Int)) (by omega)
    exact ⟨(k % ((natLL (parts z.toNat)).length : Int)).toNat, by omega, by omega⟩
  have key := fun (A : Fr) => or_loop (a := A) o wf2 rl2 rt hα hβ n Try.f12.ntmps (by omega) (z := vi z)
  rw [show orA = atC [1, 1, 1, 1, 1, 1, 1, 0, 1, 0, 0] ((Try.f12.body).getD .skip) from rfl] at key
  simp only [Try.f12, Option.getD_some, atC] at key
  simp (maxSteps := 1000000) (disch := omega) only [Try.f12, Option.getD_some, es_seq, es_region, es_draw, d0, es_cond, es_block, es_loop, es_skip, es_ret, ops_nil, ops_cons, ops_consG, opsV_nil, opsV_cons, st_move, st_assign, sy_pick, pickS_false, st_fun, sy_bin, st_not, sy_ext, ext_20, ext_21, binS_eql, binS_neq, binS_rem, bindO_some, bindF_some, bindX_normal, condX_false, iteB_true, iteB_false, ev_tmp, ev_const, ev_func, putA, upd_at, Option.map_some, ↓reduceIte, Nat.reduceEqDiff, frOf_0, frOf_1, frOf_2, List.map_cons, List.map_nil, decide_true, Bool.not_true, yieldO_eq, yO, yV_bool, List.getElem?_cons_zero, List.getElem?_cons_succ, beq_self_eq_true, ↓bindO_some, ↓bindF_some, ↓bindX_normal, ↓condX_false, ↓iteB_true, ↓iteB_false, reflV_move, reflV_assign, reflV_bin, reflV_call, vEq_vi, sy_len uLL, sy_len uLLL, sy_conv, reflV_conv, co_other, s0, s1, s2, ln, lt, c0, v1, v2, hα0, hβ0]
  generalize hA : upd _ 15 _ = A
  obtain ⟨r, a', H3, e, rfl, old3, wf3, g0, g11, g12, rs, rq⟩ := key A (by subst hA; rfl) (by subst hA; rfl) (by subst hA; rfl) (by subst hA; rfl) (by subst hA; rfl) (by subst hA; rfl) (by subst hA; rfl) (by subst hA; rfl)
  obtain ⟨vf, H4, s4, o4, old4, wf4⟩ := rfact_run (k := z.toNat) wf3 (by omega) n (by omega)
  rw [show ((z.toNat : Nat) : Int) = z from by omega] at s4
  have lf := fct_len (k := z.toNat) (by omega)
  have rs4 := rs.mono old4
  have rq4 := rq.mono old4
  by_cases hab : α = β
  · rw [if_pos hab] at rs4
    have c1 : decide ((α : Int) = (β : Int)) = true := decide_eq_true (by omega)
    have s5 := ints_run rs4 o4.R (by omega) (by omega) n (by omega)
    obtain ⟨vg, H5, s6, o6, old6, wf6⟩ := rfact_run (k := z.toNat) wf4 (by omega) n (by omega)
    rw [show ((z.toNat : Nat) : Int) = z from by omega] at s6
    have s7 := ints_run (rq4.mono old6) o6.R (by omega) (by omega) n (by omega)
    rw [decide_eq_true rfl] at s5 s7
    simp (maxSteps := 1000000) (disch := omega) only [e, pickS_true, binS_neq, bindO_some, bindF_some, bindX_normal, blkX_exit, condX_false, iteB_true, upd_at, Option.map_some, ↓reduceIte, Nat.reduceEqDiff, Bool.not_true, yV_bool, beq_self_eq_true, ↓bindO_some, ↓bindF_some, ↓bindX_normal, ↓condX_false, ↓iteB_true, fin_r, res_nil, res_tmp, pack_1, scal_bool, co_awake, g0, g11, g12, s4, c1, s5, s6, s7]
    exact ⟨_, rfl⟩
  · rw [if_neg hab] at rs4
    have c1 : decide ((α : Int) = (β : Int)) = false := decide_eq_false (by omega)
    have s5 := ints_run rs4 (vb := .slice none 0 0) (m := nf 0) (.inl ⟨rfl, by rw [nf_zero]; rfl⟩) (by rw [nf_zero]; simp) (by rw [nf_zero]; simp) n (by omega)
    obtain ⟨vg, H5, s6, o6, old6, wf6⟩ := rfact_run (k := z.toNat) wf4 (by omega) n (by omega)
    rw [show ((z.toNat : Nat) : Int) = z from by omega] at s6
    have s7 := ints_run (rq4.mono old6) o6.R (by omega) (by omega) n (by omega)
    rw [decide_eq_true rfl] at s5 s7
    simp (maxSteps := 1000000) (disch := omega) only [e, pickS_true, binS_neq, bindO_some, bindF_some, bindX_normal, blkX_exit, condX_true, iteB_true, upd_at, Option.map_some, ↓reduceIte, Nat.reduceEqDiff, Bool.not_false, yV_bool, beq_self_eq_true, ↓bindO_some, ↓bindF_some, ↓bindX_normal, ↓condX_true, ↓iteB_true, fin_r, res_nil, res_tmp, pack_1, scal_bool, co_awake, g0, g11, g12, s4, c1, s5, s6, s7]
    exact ⟨_, rfl⟩
theorem CountOrthogonal_walk (a0 : Int) (a1 : Int) (a2 : Int) (w0 : (Lit.int .i64 a0).wf = true) (w1 : (Lit.int .u8 a1).wf = true) (w2 : (Lit.int .u8 a2).wf = true) (w : World) :
    Calls Try.prog 12 #[.int .i64 a0, .int .u8 a1, .int .u8 a2] w fun e w' => e = .returned (.bool true) ∧ Go.RowKit.Below w.heap.size w w' := by
  have u8 : ∀ {x : Int}, (Lit.int .u8 x).wf = true → 0 ≤ x ∧ x < 256 := by
    intro x h
    have h : (decide (IntKind.u8.min ≤ x) && decide (x ≤ IntKind.u8.max)) = true := h
    rw [Bool.and_eq_true, decide_eq_true_eq, decide_eq_true_eq] at h
    have e1 : IntKind.u8.min = 0 := by rfl
    have e2 : IntKind.u8.max = 255 := by rfl
    omega
  have hw : WF ([] : Heap) := fun b f o cs hb => by simp at hb
  obtain ⟨H', h⟩ := orthLaw_run hw a0 a1 a2 (u8 w1) (u8 w2)
  exact law_nil hmix (callO_ok _) (callO_grow _) h (by intro v hv; simp at hv; rcases hv with rfl | rfl | rfl <;> rfl) w
end Go.Proofs.Ytmmgdgmjkhcfaaa
