/- The law of the hooks: the walk. -/
import Derived.Test.YtmmgdgmjkhcfaaaSzM
set_option linter.all false
namespace Go.Proofs.Ytmmgdgmjkhcfaaa
open Go Go.Abs Go.Num
set_option maxRecDepth 10000
attribute [local congr] bindO_congr bindF_congr bindX_congr condX_congr iteB_congr binS_congr pickS_congr eqB_congr nilS_congr clsW_congr maxS_congr minS_congr
theorem lh_split (call : CallF) (k nt : Nat) (rd : Option Nat) (a : Fr) (H : Heap) : evT Try.prog call k nt rd D0 ((Try.f11.body).getD .skip) a H =
    bindX (evT Try.prog call k nt rd D0 (atC [0] ((Try.f11.body).getD .skip)) a H) fun a H => bindX (evT Try.prog call k nt rd D0 (atC [1, 0] ((Try.f11.body).getD .skip)) a H) fun a H => bindX (evT Try.prog call k nt rd D0 (atC [1, 1, 0] ((Try.f11.body).getD .skip)) a H) fun a H =>
    bindX (evT Try.prog call k nt rd D0 (atC [1, 1, 1, 0] ((Try.f11.body).getD .skip)) a H) fun a H => bindX (evT Try.prog call k nt rd D0 (atC [1, 1, 1, 1, 0] ((Try.f11.body).getD .skip)) a H) fun a H =>
    evT Try.prog call k nt rd D0 (atC [1, 1, 1, 1, 1] ((Try.f11.body).getD .skip)) a H := rfl
theorem lh_split2 (call : CallF) (k nt : Nat) (rd : Option Nat) (a : Fr) (H : Heap) : evT Try.prog call k nt rd D0 (atC [1, 1, 1, 1, 1] ((Try.f11.body).getD .skip)) a H =
    bindX (evT Try.prog call k nt rd D0 (atC [1, 1, 1, 1, 1, 0] ((Try.f11.body).getD .skip)) a H) fun a H => bindX (evT Try.prog call k nt rd D0 (atC [1, 1, 1, 1, 1, 1, 0] ((Try.f11.body).getD .skip)) a H) fun a H =>
    evT Try.prog call k nt rd D0 (atC [1, 1, 1, 1, 1, 1, 1] ((Try.f11.body).getD .skip)) a H := rfl
theorem lh_split3 (call : CallF) (k nt : Nat) (rd : Option Nat) (a : Fr) (H : Heap) : evT Try.prog call k nt rd D0 (atC [1, 1, 1, 1, 1, 1, 1] ((Try.f11.body).getD .skip)) a H =
    bindX (evT Try.prog call k nt rd D0 (atC [1, 1, 1, 1, 1, 1, 1, 0] ((Try.f11.body).getD .skip)) a H) fun a H => bindX (evT Try.prog call k nt rd D0 (atC [1, 1, 1, 1, 1, 1, 1, 1, 0] ((Try.f11.body).getD .skip)) a H) fun a H => bindX (evT Try.prog call k nt rd D0 (atC [1, 1, 1, 1, 1, 1, 1, 1, 1, 0] ((Try.f11.body).getD .skip)) a H) fun a H =>
    evT Try.prog call k nt rd D0 (atC [1, 1, 1, 1, 1, 1, 1, 1, 1, 1] ((Try.f11.body).getD .skip)) a H := rfl
theorem leftP_len (l : List Int) (i J : Nat) (t : Int) : (leftP l i J t).length ≤ l.length := by
  unfold leftP
  exact Nat.le_trans (List.length_filter_le ..) (by rw [pfL_len]; exact Nat.le_refl _)
theorem rimsP_rows {l : List Int} {z : Int} : ∀ a ∈ rimsP l z, a.1.length ≤ l.length := by
  intro a ha
  unfold rimsP at ha
  obtain ⟨i, _, h⟩ := List.mem_flatMap.1 ha
  unfold rimP at h
  split at h
  · cases h
  · simp at h
    rw [h]
    exact leftP_len ..
/-- The comparison of the rim hooks. -/
theorem lh_last {H : Heap} {v vl : Value} {l : List Int} {z : Int} (hp : Part l) (hz : 1 ≤ z ∧ z ≤ 20) (hw : WF H) (hv : R H v (ints l)) (rl : RH H vl (rimsP l z)) {n nt : Nat} (hn : 20000 ≤ n) {F : Fr} (g0 : F 0 = v) (g1 : F 1 = vi z) (g9 : F 9 = vl) (g10 : F 10 = vi 0) :
    ∃ a' H', evT Try.prog (callA n) n nt none D0 (atC [1, 1, 1, 1, 1, 1, 1] ((Try.f11.body).getD .skip)) F H = some (.ret, a', H') ∧ a' 4 = .bool true := by
  have hl := hp.len
  rw [lh_split3]
  have s0 := within_runS z 1 20 H n (by omega)
  rw [show (decide (1 ≤ z) && decide (z ≤ 20)) = true from by rw [Bool.and_eq_true, decide_eq_true_eq, decide_eq_true_eq]; exact hz] at s0
  obtain ⟨vm, H1, s1, o1, old1, wf1⟩ := rrims_run hw hv hp hz n (by omega)
  rw [rims_eq hp hz.1] at o1
  have rm := o1.RH
  have rl1 := rl.mono old1
  have ll := RG.len rl1
  have lm := RG.len rm
  have c0 : decide ((0 : Int) = 0) = true := rfl
  have c1 : decide (((rimsP l z).length : Int) = ((rimsP l z).length : Int)) = true := decide_eq_true rfl
  have hlen : (rimsP l z).length ≤ 1000 := Nat.le_trans (rimsP_len l z l.length) (by omega)
  have key := fun (A : Fr) => lh_loop rl1 rm hlen (fun a ha => Nat.le_trans (rimsP_rows a ha) (by omega)) n nt hn (a := A)
  rw [show lhA = atC [1, 1, 1, 1, 1, 1, 1, 1, 1, 1, 0, 1, 0, 0] ((Try.f11.body).getD .skip) from rfl] at key
  have last : ∀ (A : Fr), A 9 = vl → A 12 = vm → ∃ a' H', evT Try.prog (callA n) n nt none D0 (atC [1, 1, 1, 1, 1, 1, 1, 1, 1, 1] ((Try.f11.body).getD .skip)) A H1 = some (.ret, a', H') ∧ a' 4 = .bool true := by
    intro A k9 k12
    simp only [Try.f11, Option.getD_some, atC] at key
    clear rl rl1 s0 s1 rm o1 hv
    simp (maxSteps := 1000000) (disch := omega) only [Try.f11, Option.getD_some, atC, es_seq, es_region, es_block, es_loop, es_ret, ops_nil, ops_cons, st_assign, st_fun, bindO_some, bindF_some, bindX_normal, ev_tmp, ev_const, ev_func, putA, upd_at, ↓reduceIte, List.map_nil, ↓bindO_some, ↓bindF_some, ↓bindX_normal]
    generalize hB : upd _ 13 _ = A2
    obtain ⟨r, a', H', e, hr, hH⟩ := key A2 (by subst hB; exact k9) (by subst hB; exact k12) (by subst hB; rfl)
    subst hr
    rw [e]
    subst hH
    simp (disch := omega) only [bindO_some, bindF_some, bindX_normal, blkX_exit, ↓reduceIte, ↓bindO_some, ↓bindF_some, ↓bindX_normal, ca_awake]
    exact ⟨_, _, rfl, by simp only [upd_at, ↓reduceIte]⟩
  clear key
  generalize evT Try.prog (callA n) n nt none D0 (atC [1, 1, 1, 1, 1, 1, 1, 1, 1, 1] ((Try.f11.body).getD .skip)) = T at last ⊢
  simp (disch := omega) only [Try.f11, Option.getD_some, atC, es_seq, es_region, es_cond, es_skip, ops_nil, ops_cons, ops_consG, st_move, st_assign, sy_pick, pickS_false, st_fun, sy_bin, st_not, binS_neq, bindO_some, bindF_some, bindX_normal, condX_false, iteB_true, ev_tmp, ev_const, ev_func, putA, upd_at, Option.map_some, ↓reduceIte, Nat.reduceEqDiff, List.map_cons, List.map_nil, decide_true, Bool.not_true, yieldO_eq, yO, yV_bool, List.getElem?_cons_zero, List.getElem?_cons_succ, beq_self_eq_true, ↓bindO_some, ↓bindF_some, ↓bindX_normal, ↓condX_false, ↓iteB_true, sy_len uHH, ca_other, g0, g1, g9, g10, s0, s1, ll, lm]
  exact last _ (by simp only [upd_at, ↓reduceIte, Nat.reduceEqDiff, g9]) (by simp only [upd_at, ↓reduceIte, Nat.reduceEqDiff])
/-- A number that is refused. -/
theorem lh_out {H : Heap} {vl : Value} {z : Int} (hz : z < 1 ∨ 20 < z) (rl : RH H vl []) {n nt : Nat} (hn : 20000 ≤ n) {F : Fr} (g1 : F 1 = vi z) (g9 : F 9 = vl) (g10 : F 10 = vi 2) :
    ∃ a' H', evT Try.prog (callA n) n nt none D0 (atC [1, 1, 1, 1, 1, 1, 1] ((Try.f11.body).getD .skip)) F H = some (.ret, a', H') ∧ a' 4 = .bool true := by
  have s0 := within_runS z 1 20 H n (by omega)
  rw [show (decide (1 ≤ z) && decide (z ≤ 20)) = false from by rw [Bool.and_eq_false_iff]; exact hz.imp (fun h => decide_eq_false (by omega)) (fun h => decide_eq_false (by omega))] at s0
  have ll := RG.len rl
  have c0 : decide ((2 : Int) = 2) = true := rfl
  have c1 : decide (((([] : List (List Int × Int)).length : Nat) : Int) = 0) = true := rfl
  simp (disch := omega) only [Try.f11, Option.getD_some, atC, es_seq, es_region, es_cond, es_ret, ops_nil, ops_cons, ops_consG, st_move, st_assign, sy_pick, pickS_true, st_fun, sy_bin, st_not, binS_eql, bindO_some, bindF_some, bindX_normal, bindX_ret, condX_true, iteB_true, ev_tmp, ev_const, ev_func, putA, upd_at, Option.map_some, ↓reduceIte, Nat.reduceEqDiff, List.map_cons, List.map_nil, decide_true, Bool.not_false, yieldO_eq, yO, yV_bool, List.getElem?_cons_zero, List.getElem?_cons_succ, beq_self_eq_true, ↓bindO_some, ↓bindF_some, ↓bindX_normal, ↓bindX_ret, ↓condX_true, ↓iteB_true, sy_len uHH, ca_other, ca_awake, g1, g9, g10, s0, ll, c1]
  exact ⟨_, _, rfl, by simp only [upd_at, ↓reduceIte]⟩
/-- A list that is refused. -/
theorem lh_bad {H : Heap} {v vh vd vl : Value} {l : List Int} (hc : chk l ≠ 0) (hl : l.length ≤ 1000) (hv : R H v (ints l)) (rh : RL H vh []) (rd : R H vd (ints [])) (rl : RH H vl []) {n nt : Nat} (hn : 20000 ≤ n) {F : Fr} (g0 : F 0 = v) (g5 : F 5 = vh) (g6 : F 6 = vi (chk l)) (g7 : F 7 = vd) (g8 : F 8 = vi (chk l)) (g9 : F 9 = vl) (g10 : F 10 = vi (chk l)) :
    ∃ a' H', evT Try.prog (callA n) n nt none D0 (atC [1, 1, 1, 1, 1] ((Try.f11.body).getD .skip)) F H = some (.ret, a', H') ∧ a' 4 = .bool true := by
  have s0 := rcheck_run hv hl n (by omega)
  have l5 := RG.len rh
  have l7 := rd.lenI
  have l9 := RG.len rl
  have c0 : decide (chk l = 0) = false := decide_eq_false hc
  have c1 : decide (chk l = chk l) = true := decide_eq_true rfl
  have e1 : IntKind.i64.wrap (((([] : List (List Int)).length : Nat) : Int) + ((([] : List Int).length : Nat) : Int)) = 0 := by rw [wr64 (by decide) (by decide)]; rfl
  have e2 : IntKind.i64.wrap (0 + ((([] : List (List Int × Int)).length : Nat) : Int)) = 0 := by rw [wr64 (by decide) (by decide)]; rfl
  have c2 : decide ((0 : Int) = 0) = true := rfl
  simp (disch := omega) only [Try.f11, Option.getD_some, atC, es_seq, es_region, es_cond, es_ret, ops_nil, ops_cons, ops_consG, st_move, st_assign, sy_pick, pickS_true, st_fun, sy_len uL, sy_bin, binS_eql, binS_neq, binS_add, bindO_some, bindF_some, bindX_normal, bindX_ret, condX_true, iteB_true, ev_tmp, ev_const, ev_func, putA, upd_at, Option.map_some, ↓reduceIte, Nat.reduceEqDiff, List.map_cons, List.map_nil, decide_true, Bool.not_false, yieldO_eq, yO, yV_bool, List.getElem?_cons_zero, List.getElem?_cons_succ, beq_self_eq_true, ↓bindO_some, ↓bindF_some, ↓bindX_normal, ↓bindX_ret, ↓condX_true, ↓iteB_true, sy_len uLL, sy_len uHH, ca_other, ca_awake, g0, g5, g6, g7, g8, g9, g10, s0, l5, l7, l9, c0, e1, e2]
  exact ⟨_, _, rfl, by simp only [upd_at, ↓reduceIte]⟩
/-- The comparison of hooks and dimensions. -/
theorem lh_mid {H : Heap} {v vh vd : Value} {l : List Int} (hc : chk l = 0) (hw : WF H) (hv : R H v (ints l)) (rh : RL H vh (hooksL l)) (rd : R H vd (ints (nf (dimZ l)))) {n nt : Nat} (hn : 20000 ≤ n) {F : Fr} (g0 : F 0 = v) (g5 : F 5 = vh) (g6 : F 6 = vi 0) (g7 : F 7 = vd) (g8 : F 8 = vi 0)
    {T : Fr → Heap → Option (X × Fr × Heap)} (hT : ∀ (A : Fr) (H' : Heap), Same [0, 1, 9, 10] F A → Old H.length H H' → WF H' → ∃ a' H'', T A H' = some (.ret, a', H'') ∧ a' 4 = .bool true) :
    ∃ a' H', (bindX (evT Try.prog (callA n) n nt none D0 (atC [1, 1, 1, 1, 1, 0] ((Try.f11.body).getD .skip)) F H) fun a H => bindX (evT Try.prog (callA n) n nt none D0 (atC [1, 1, 1, 1, 1, 1, 0] ((Try.f11.body).getD .skip)) a H) fun a H => T a H) = some (.ret, a', H') ∧ a' 4 = .bool true := by
  have hp := chk_part hc
  have hl := hp.len
  have s0 := rcheck_run hv (by omega) n (by omega)
  rw [hc] at s0
  obtain ⟨vr, H1, s1, o1, old1, wf1⟩ := rhooks_run hw hv hp n (by omega)
  have s2 := lists_run (rh.mono old1) o1.RL (by rw [hooksL_len]; omega) (fun r hr => by
    unfold hooksL at hr
    obtain ⟨i, hi, rfl⟩ := List.mem_map.1 hr
    rw [hookRow_len]
    have := hp.getD (List.mem_range.1 hi)
    omega) n (by omega)
  obtain ⟨vs, H2, s3, o3, old2, wf2⟩ := rdim_run wf1 (hv.mono old1) hp n (by omega)
  have hs0 := hp.sum0
  have hs1 := hp.sum
  have hd := dimT_bd hp
  have lf := fct_len (k := l.sum.toNat) (by omega)
  have pf := fct_le (k := l.sum.toNat) (by omega)
  have ldz : (nf (dimZ l)).length ≤ 3 := by
    unfold dimZ
    exact Nat.le_trans (nf_len_mono (Int.ediv_nonneg (by omega) (by omega)) (Int.ediv_le_self _ (by omega))) lf
  have s4 := ints_run (rd.mono (old1.trans (old2.mono old1.1))) o3.R (by omega) (by omega) n (by omega)
  rw [decide_eq_true rfl] at s4
  have c0 : decide ((0 : Int) = 0) = true := rfl
  simp (disch := omega) only [Try.f11, Option.getD_some, atC, es_seq, es_region, es_cond, es_skip, ops_nil, ops_cons, ops_consG, st_move, st_assign, sy_pick, pickS_false, st_fun, sy_bin, st_not, binS_neq, bindO_some, bindF_some, bindX_normal, condX_false, iteB_true, ev_tmp, ev_const, ev_func, putA, upd_at, ↓reduceIte, Nat.reduceEqDiff, List.map_cons, List.map_nil, decide_true, Bool.not_true, yieldO_eq, yO, yV_bool, List.getElem?_cons_zero, List.getElem?_cons_succ, beq_self_eq_true, ↓bindO_some, ↓bindF_some, ↓bindX_normal, ↓condX_false, ↓iteB_true, ca_other, g0, g5, g6, g7, g8, s0, s1, s2, s3, s4]
  exact hT _ _ (by
    repeat refine Same.upd ?_ (by decide) _
    exact Same.refl _ _) (old1.trans (old2.mono old1.1)) wf2
theorem hooksLaw_run {H : Heap} {v : Value} {l : List Int} (hw : WF H) (hv : R H v (ints l)) (z : Int) : ∃ H', evBody Try.prog (callA 200000000) 200000000 (.func (.func 11) #[] #[]) [v, vi z] H = some (.bool true, H') := by
  obtain ⟨n, hn⟩ : ∃ n, n = 200000000 := ⟨_, rfl⟩
  rw [← hn]
  rw [body_runS (c := (Try.f11.body).getD .skip) Try.func11 rfl (ok_fn (by rfl) Try.func11 rfl) (Nat.le_of_ble_eq_true rfl) (D := D0) (by kernel_rfl)]
  have s0 := long_run hv n (by omega)
  by_cases hlong : (40 : Int) < (l.length : Int)
  · rw [decide_eq_true hlong] at s0
    simp (disch := omega) only [Try.f11, Option.getD_some, es_seq, es_region, es_cond, es_ret, ops_nil, ops_cons, st_move, st_assign, st_fun, bindO_some, bindF_some, bindX_normal, bindX_ret, condX_true, ev_tmp, ev_const, ev_func, putA, upd_at, Option.map_some, ↓reduceIte, Nat.reduceEqDiff, frOf_0, List.map_cons, List.map_nil, ↓bindO_some, ↓bindF_some, ↓bindX_normal, ↓bindX_ret, ↓condX_true, fin_r, res_nil, res_tmp, pack_1, scal_bool, ca_other, ca_awake, s0]
    exact ⟨_, rfl⟩
  · rw [decide_eq_false hlong] at s0
    have hl : l.length ≤ 1000 := by omega
    rw [lh_split]
    obtain ⟨vh, H1, s1, r1, old1, wf1⟩ := hooksW_run hw hv hl n (by omega)
    obtain ⟨vd, H2, s2, o2, old2, wf2⟩ := dimW_run wf1 (hv.mono old1) hl n (by omega)
    have old12 := old1.trans (old2.mono old1.1)
    obtain ⟨vl, H3, s3, r3, old3, wf3⟩ := rimsW_run wf2 (hv.mono old12) hl z n (by omega)
    have old13 := old12.trans (old3.mono old12.1)
    have hv3 := hv.mono old13
    have rh3 := (r1.mono old2).mono (old3.mono (Nat.le_refl _))
    have rd3 := o2.R.mono old3
    have tail : ∀ F : Fr, F 0 = v → F 1 = vi z → F 5 = vh → F 6 = vi (chk l) → F 7 = vd → F 8 = vi (chk l) → F 9 = vl → F 10 = vi (rimE l z) → ∃ a' H', evT Try.prog (callA n) n Try.f11.ntmps none D0 (atC [1, 1, 1, 1, 1] ((Try.f11.body).getD .skip)) F H3 = some (.ret, a', H') ∧ a' 4 = .bool true := by
      intro F g0 g1 g5 g6 g7 g8 g9 g10
      by_cases hc : chk l = 0
      · have hp := chk_part hc
        rw [show hooksE l = hooksL l from if_pos hc] at rh3
        rw [show dimE l = nf (dimZ l) from if_pos hc] at rd3
        rw [hc] at g6 g8
        rw [lh_split2]
        refine lh_mid hc wf3 hv3 rh3 rd3 (by omega) g0 g5 g6 g7 g8 (T := evT Try.prog (callA n) n Try.f11.ntmps none D0 (atC [1, 1, 1, 1, 1, 1, 1] ((Try.f11.body).getD .skip))) ?_
        intro A H4 hs old4 wf4
        by_cases hz : z < 1 ∨ 20 < z
        · rw [show rimE l z = 2 from by unfold rimE; rw [if_neg (fun h => h hc), if_pos hz]] at g10
          rw [show rimsE l z = [] from by unfold rimsE; rw [if_neg (fun h => h hc), if_pos hz]] at r3
          exact lh_out hz (r3.mono old4) (by omega) ((hs 1 (by decide)).trans g1) ((hs 9 (by decide)).trans g9) ((hs 10 (by decide)).trans g10)
        · rw [show rimE l z = 0 from by unfold rimE; rw [if_neg (fun h => h hc), if_neg hz]] at g10
          rw [show rimsE l z = rimsP l z from by unfold rimsE; rw [if_neg (fun h => h hc), if_neg hz]] at r3
          exact lh_last hp ⟨by omega, by omega⟩ wf4 (hv3.mono old4) (r3.mono old4) (by omega) ((hs 0 (by decide)).trans g0) ((hs 1 (by decide)).trans g1) ((hs 9 (by decide)).trans g9) ((hs 10 (by decide)).trans g10)
      · rw [show hooksE l = [] from if_neg hc] at rh3
        rw [show dimE l = [] from if_neg hc] at rd3
        rw [show rimE l z = chk l from if_pos hc] at g10
        rw [show rimsE l z = [] from if_pos hc] at r3
        exact lh_bad hc hl hv3 rh3 rd3 r3 (by omega) g0 g5 g6 g7 g8 g9 g10
    generalize evT Try.prog (callA n) n Try.f11.ntmps none D0 (atC [1, 1, 1, 1, 1] ((Try.f11.body).getD .skip)) = T at tail ⊢
    clear rh3 rd3 hv3
    have fin : ∀ F : Fr, F 0 = v → F 1 = vi z → F 5 = vh → F 6 = vi (chk l) → F 7 = vd → F 8 = vi (chk l) → F 9 = vl → F 10 = vi (rimE l z) → ∃ H', finB Try.prog [.tmp 4] (T F H3) = some (.bool true, H') := by
      intro F g0 g1 g5 g6 g7 g8 g9 g10
      obtain ⟨a', H', e1, e2⟩ := tail F g0 g1 g5 g6 g7 g8 g9 g10
      rw [e1]
      exact ⟨H', by simp only [fin_r, res_tmp, res_nil, e2, scal_bool, Option.map_some, pack_1]⟩
    simp (disch := omega) only [Try.f11, Option.getD_some, atC, es_seq, es_region, es_cond, es_skip, ops_nil, ops_cons, st_move, st_assign, st_fun, sy_ext, ext_20, ext_21, bindO_some, bindF_some, bindX_normal, condX_false, ev_tmp, ev_const, ev_func, putA, upd_at, Option.map_some, ↓reduceIte, Nat.reduceEqDiff, frOf_0, frOf_1, List.map_cons, List.map_nil, ↓bindO_some, ↓bindF_some, ↓bindX_normal, ↓condX_false, ca_other, s0, s1, s2, s3]
    refine fin _ ?_ ?_ ?_ ?_ ?_ ?_ ?_ ?_ <;> simp only [upd_at, ↓reduceIte, Nat.reduceEqDiff, frOf_0, frOf_1]
open Go.RowKit in
theorem CountHooks_walk (a0 : Option Addr) (len0 cap0 : Nat) (z0 : List Int) (a1 : Int) (w : World) (w0 : Row .i64 w a0 len0 cap0 z0) (w1 : (Lit.int .i64 a1).wf = true) :
    Calls Try.prog 11 #[.slice a0 len0 cap0, .int .i64 a1] w fun e w' => e = .returned (.bool true) ∧ Below w.heap.size w w' := by
  obtain ⟨x, l, ha, hx⟩ := row_one w0
  obtain ⟨v, h1, h2, h3⟩ := hx [vi a1]
  obtain ⟨H', h⟩ := hooksLaw_run h3 h2 a1
  rw [← h1] at h
  exact law_args hmix (callA_ok _) (callA_grow _) h (.cons ha (.cons (.imm fun m => VR.of_plain m rfl) .nil))
end Go.Proofs.Ytmmgdgmjkhcfaaa
