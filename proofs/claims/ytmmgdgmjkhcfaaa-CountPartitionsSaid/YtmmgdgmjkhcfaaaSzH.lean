/- The law of the partitions: the walk. -/
import Derived.Test.YtmmgdgmjkhcfaaaSzA
import Derived.Test.YtmmgdgmjkhcfaaaSzG
import Derived.Test.YtmmgdgmjkhcfaaaSzR
set_option linter.all false
namespace Go.Proofs.Ytmmgdgmjkhcfaaa
open Go Go.Abs Go.Num
set_option maxRecDepth 10000
attribute [local congr] bindO_congr bindF_congr bindX_congr condX_congr iteB_congr binS_congr pickS_congr eqB_congr nilS_congr clsW_congr maxS_congr minS_congr
def conjE (l : List Int) : List Int := if chk l = 0 then conjP l else []
theorem conjW_run {H : Heap} {v : Value} {l : List Int} (hw : WF H) (hv : R H v (ints l)) (hl : l.length ≤ 1000) (n : Nat) (hn : 1020 ≤ n) : OneT H (evB Try.prog noC n (.func (.func 33) #[] #[]) [v] H) (fun v => .tuple #[v, vi (chk l)]) (conjE l) := by
  refine run_of (F := 1019) (Q := fun r => OneT H r (fun v => .tuple #[v, vi (chk l)]) (conjE l)) (fun n hn => ?_) n hn
  rw [body_runS Try.func33 rfl (ok_fn (by rfl) Try.func33 rfl) (Nat.le_of_ble_eq_true rfl) (D := D0) (by kernel_rfl)]
  have s0 := ccheck_run hv hl n (by omega)
  by_cases hc : chk l = 0
  · rw [show conjE l = conjP l from if_pos hc]
    have hp := chk_part hc
    have hh := Part.head hp
    obtain ⟨v1, H1, s1, o1, old1, wf1⟩ := conj_run hw hv hl hh.1 hh.2 n (by omega)
    have c1 : decide (chk l = 0) = true := decide_eq_true hc
    simp (disch := omega) only [Try.f33, es_seq, es_region, es_cond, es_skip, es_ret, ops_nil, ops_cons, st_move, st_assign, st_fun, sy_bin, binS_neq, bindO_some, bindF_some, bindX_normal, condX_false, ev_tmp, ev_const, ev_func, putA, upd_at, Option.map_some, ↓reduceIte, Nat.reduceEqDiff, frOf_0, List.map_cons, List.map_nil, Bool.not_true, ↓bindO_some, ↓bindF_some, ↓bindX_normal, ↓condX_false, fin_r, res_nil, res_tmp, pack_2, scal_vi, s0, c1, s1, o1.R.scal]
    refine ⟨_, _, ?_, o1, old1, wf1⟩
    rw [hc]
  · rw [show conjE l = [] from if_neg hc]
    have c1 : decide (chk l = 0) = false := decide_eq_false hc
    simp (disch := omega) only [Try.f33, es_seq, es_region, es_cond, es_ret, ops_nil, ops_cons, st_move, st_assign, st_fun, sy_bin, binS_neq, bindO_some, bindF_some, bindX_normal, bindX_ret, condX_true, ev_tmp, ev_const, ev_func, putA, upd_at, Option.map_some, ↓reduceIte, Nat.reduceEqDiff, frOf_0, List.map_cons, List.map_nil, Bool.not_false, ↓bindO_some, ↓bindF_some, ↓bindX_normal, ↓bindX_ret, ↓condX_true, fin_r, res_nil, res_tmp, pack_2, scal_vi, scal_nil, s0, c1]
    exact ⟨_, _, rfl, O.nil _ _, Old.refl _ _, hw⟩
theorem cparts_bad {H : Heap} {z : Int} (hz : z < 0 ∨ 20 < z) (n : Nat) (hn : 10 ≤ n) : callP n (.func (.func 43) #[] #[]) [vi z] H = some (.tuple #[.slice none 0 0, vi 2], H) := by
  have e : mapO (readArg H) [vi z] = some [.imm (.int .i64 z)] := rfl
  have hs : lawS 43 [.imm (.int .i64 z)] = none := by
    show (if z = 0 then _ else if 1 ≤ z ∧ z ≤ 12 then _ else none) = none
    rw [if_neg (by omega), if_neg (by omega)]
  have ht : tabC lawS (.func (.func 43) #[] #[]) [vi z] H = none := by
    unfold tabC
    simp only
    rw [e]
    simp only
    rw [hs]
    rfl
  unfold callP Abs.orC
  rw [ht]
  show evB Try.prog noC n (.func (.func 43) #[] #[]) [vi z] H = _
  refine run_of (F := 9) (Q := fun r => r = some (.tuple #[.slice none 0 0, vi 2], H)) (fun n hn => ?_) n hn
  rw [body_runS Try.func43 rfl (ok_fn (by rfl) Try.func43 rfl) (Nat.le_of_ble_eq_true rfl) (D := D0) (by kernel_rfl)]
  by_cases h1 : z < 0
  · simp (disch := omega) only [Try.f43, es_seq, es_region, es_cond, es_ret, ops_nil, ops_cons, ops_consG, st_move, st_assign, sy_pick, pickS_true, sy_bin, binS_lss, bindO_some, bindF_some, bindX_normal, bindX_ret, condX_true, iteB_false, ev_tmp, ev_const, putA, upd_at, Option.map_some, ↓reduceIte, Nat.reduceEqDiff, frOf_0, decide_true, Bool.not_true, yieldO_eq, yO, yV_bool, some_false, List.getElem?_cons_zero, List.getElem?_cons_succ, ↓bindO_some, ↓bindF_some, ↓bindX_normal, ↓bindX_ret, ↓condX_true, ↓iteB_false, fin_r, res_nil, res_tmp, pack_2, scal_vi, scal_nil, h1]
  · have h2 : 20 < z := hz.resolve_left h1
    simp (disch := omega) only [Try.f43, es_seq, es_region, es_cond, es_ret, ops_nil, ops_cons, ops_consG, st_move, st_assign, sy_pick, pickS_false, sy_bin, binS_lss, binS_gtr, bindO_some, bindF_some, bindX_normal, bindX_ret, condX_true, iteB_true, ev_tmp, ev_const, putA, upd_at, Option.map_some, ↓reduceIte, Nat.reduceEqDiff, frOf_0, decide_true, decide_false, yieldO_eq, yO, yV_bool, List.getElem?_cons_zero, List.getElem?_cons_succ, beq_self_eq_true, ↓bindO_some, ↓bindF_some, ↓bindX_normal, ↓bindX_ret, ↓condX_true, ↓iteB_true, fin_r, res_nil, res_tmp, pack_2, scal_vi, scal_nil, h1, h2]
theorem parts_ok : ∀ k : Fin 13, ((natLL (parts k.1)).all fun l => chk l == 0 && decide (l.length ≤ 1000)) = true ∧ (natLL (parts k.1)).length ≤ 1000 := by decide +kernel
theorem partsZ_ok {z : Int} (h0 : 0 ≤ z) (h1 : z ≤ 12) : (∀ l ∈ partsZ z, chk l = 0 ∧ l.length ≤ 1000) ∧ (partsZ z).length ≤ 1000 := by
  obtain ⟨h2, h3⟩ := parts_ok ⟨z.toNat, by omega⟩
  refine ⟨fun l hl => ?_, h3⟩
  have := List.all_eq_true.1 h2 l hl
  simpa using this
noncomputable def lpA : Code := atC [1, 1, 1, 1, 1, 1, 1, 0, 1, 0, 0] ((Try.f10.body).getD .skip)
theorem lp_loop {H : Heap} {vl : Value} {ls : List (List Int)} (hl : RL H vl ls) (hc : ∀ l ∈ ls, chk l = 0 ∧ l.length ≤ 1000) (hll : ls.length ≤ 1000) (n m nt : Nat) (hn : 1011 ≤ n) {a : Fr} {k : Nat} (hk : 1000 < k) {v1 v6 : Value} (h1 : a 1 = v1) (h5 : a 5 = vl) (h6 : a 6 = v6) (h10 : a 10 = vi (0 : Nat)) :
    ∃ r a' H', loopN (evS Try.prog (callP n) m nt none lpA) k a H = some (r, a', H') ∧ r = .exit 0 ∧ H' = H ∧ a' 1 = v1 ∧ a' 5 = vl ∧ a' 6 = v6 := by
  have ll := RG.len hl
  refine loop_up ls.length (fun i a H' => H' = H ∧ a 1 = v1 ∧ a 5 = vl ∧ a 6 = v6 ∧ a 10 = vi i) _ ?_ ?_ (by omega) ⟨rfl, h1, h5, h6, h10⟩
  · intro i a H' hi ⟨hH, h1, h5, h6, h10⟩
    subst hH
    left
    rw [show lpA = atC [1, 1, 1, 1, 1, 1, 1, 0, 1, 0, 0] ((Try.f10.body).getD .skip) from rfl]
    have hlt : (i : Int) < ls.length := by omega
    have e1 : IntKind.i64.wrap ((i : Int) + 1) = ((i + 1 : Nat) : Int) := by rw [wr64 (by omega) (by omega)]; omega
    obtain ⟨r, lr, hr⟩ := hl.row hi
    have ad := hl.addr hi
    have em : ls.getD i [] ∈ ls := by
      have e : ls.getD i [] = ls[i] := by simp [List.getD_eq_getElem?_getD, List.getElem?_eq_getElem hi]
      rw [e]; exact List.getElem_mem hi
    have hc' := hc _ em
    have s1 := ccheck_run hr hc'.2 n (by omega)
    rw [hc'.1] at s1
    have c0 : decide ((0 : Int) = 0) = true := rfl
    simp (disch := omega) only [Try.f10, Option.getD_some, atC, es_seq, es_region, es_cond, es_block, es_skip, ops_nil, ops_cons, st_move, st_assign, st_fun, sy_bin, binS_lss, binS_neq, binS_add, bindO_some, bindF_some, bindX_normal, blkX_normal, condX_true, condX_false, ev_tmp, ev_const, ev_func, putA, upd_at, Option.map_some, ↓reduceIte, Nat.reduceEqDiff, List.map_cons, List.map_nil, decide_true, Bool.not_true, ↓bindO_some, ↓bindF_some, ↓bindX_normal, ↓condX_true, ↓condX_false, sy_load aL, sy_len uLL, sy_addr eLL, cp_other, h5, h10, ll, hlt, ad, lr, s1, e1]
    exact ⟨_, _, rfl, rfl, by simp only [upd_at, ↓reduceIte, Nat.reduceEqDiff, h1], by simp only [upd_at, ↓reduceIte, Nat.reduceEqDiff, h5], by simp only [upd_at, ↓reduceIte, Nat.reduceEqDiff, h6], by simp only [upd_at, ↓reduceIte]⟩
  · intro a H' ⟨hH, h1, h5, h6, h10⟩
    subst hH
    rw [show lpA = atC [1, 1, 1, 1, 1, 1, 1, 0, 1, 0, 0] ((Try.f10.body).getD .skip) from rfl]
    simp (disch := omega) only [Try.f10, Option.getD_some, atC, es_seq, es_region, es_cond, es_exit, ops_nil, ops_cons, st_move, sy_bin, binS_lss, bindO_some, bindF_some, bindX_normal, bindX_exit, condX_false, ev_tmp, putA, upd_at, Option.map_some, ↓reduceIte, Nat.reduceEqDiff, decide_false, ↓bindO_some, ↓bindF_some, ↓bindX_normal, ↓bindX_exit, ↓condX_false, sy_len uLL, h5, h10, ll, Int.lt_irrefl]
    exact ⟨_, _, _, rfl, by simp, rfl, rfl, by simp only [upd_at, ↓reduceIte, Nat.reduceEqDiff, h1], by simp only [upd_at, ↓reduceIte, Nat.reduceEqDiff, h5], by simp only [upd_at, ↓reduceIte, Nat.reduceEqDiff, h6]⟩
theorem lp_good {H : Heap} {vl : Value} {z : Int} (rl : RL H vl (partsZ z)) (p1 : ∀ l ∈ partsZ z, chk l = 0 ∧ l.length ≤ 1000) (p2 : (partsZ z).length ≤ 1000) (hw : WF H) (h0 : 0 ≤ z) (h12 : z ≤ 12) {n nt : Nat} (hn : 20000 ≤ n) {F : Fr} (g1 : F 1 = vi z) (g5 : F 5 = vl) (g6 : F 6 = vi 0) :
    ∃ a' H', evT Try.prog (callP n) n nt none D0 (atC [1, 1, 1, 1, 1, 1] ((Try.f10.body).getD .skip)) F H = some (.ret, a', H') ∧ a' 4 = .bool true := by
  have c1 : decide (z < 0) = false := decide_eq_false (by omega)
  have c2 : decide (20 < z) = false := decide_eq_false (by omega)
  have key := fun (A : Fr) => lp_loop rl p1 p2 n n nt (by omega) (a := A) (k := n) (v1 := vi z) (v6 := vi 0) (by omega)
  rw [show lpA = atC [1, 1, 1, 1, 1, 1, 1, 0, 1, 0, 0] ((Try.f10.body).getD .skip) from rfl] at key
  simp only [Try.f10, Option.getD_some, atC] at key
  simp only [Try.f10, Option.getD_some, atC, es_seq, es_region, es_cond, es_block, es_loop, es_skip, es_ret, ops_nil, ops_cons, ops_consG, st_move, st_assign, sy_pick, pickS_false, st_fun, sy_bin, binS_lss, binS_gtr, bindO_some, bindF_some, bindX_normal, condX_false, iteB_true, ev_tmp, ev_const, ev_func, putA, upd_at, ↓reduceIte, Nat.reduceEqDiff, List.map_cons, List.map_nil, yieldO_eq, yO, yV_bool, List.getElem?_cons_zero, List.getElem?_cons_succ, beq_self_eq_true, ↓bindO_some, ↓bindF_some, ↓bindX_normal, ↓condX_false, ↓iteB_true, g1, c1, c2]
  generalize hA : upd _ 10 _ = A
  obtain ⟨r, a', H', e, hr, hH, i1, i5, i6⟩ := key A (by subst hA; exact g1) (by subst hA; exact g5) (by subst hA; exact g6) (by subst hA; rfl)
  subst hr
  rw [e]
  subst hH
  obtain ⟨vr, H4, s4, rr, old4, wf4⟩ := rparts_run (z := z) hw h0 h12 n
  have s5 := lists_run (rl.mono old4) rr p2 (fun r hr => (p1 r hr).2) n (by omega)
  have c0 : decide ((0 : Int) = 0) = true := rfl
  clear key e p1
  simp (disch := omega) only [pickS_true, binS_eql, bindO_some, bindF_some, bindX_normal, blkX_exit, iteB_true, ↓reduceIte, decide_true, yV_bool, beq_self_eq_true, ↓bindO_some, ↓bindF_some, ↓bindX_normal, ↓iteB_true, cp_other, cp_awake, i1, i5, i6, s4, s5]
  exact ⟨_, _, rfl, by simp only [upd_at, ↓reduceIte]⟩
theorem lp_split (call : CallF) (k nt : Nat) (rd : Option Nat) (a : Fr) (H : Heap) : evT Try.prog call k nt rd D0 ((Try.f10.body).getD .skip) a H =
    bindX (evT Try.prog call k nt rd D0 (atC [0] ((Try.f10.body).getD .skip)) a H) fun a H => bindX (evT Try.prog call k nt rd D0 (atC [1, 0] ((Try.f10.body).getD .skip)) a H) fun a H => bindX (evT Try.prog call k nt rd D0 (atC [1, 1, 0] ((Try.f10.body).getD .skip)) a H) fun a H =>
    bindX (evT Try.prog call k nt rd D0 (atC [1, 1, 1, 0] ((Try.f10.body).getD .skip)) a H) fun a H => bindX (evT Try.prog call k nt rd D0 (atC [1, 1, 1, 1, 0] ((Try.f10.body).getD .skip)) a H) fun a H => bindX (evT Try.prog call k nt rd D0 (atC [1, 1, 1, 1, 1, 0] ((Try.f10.body).getD .skip)) a H) fun a H =>
    evT Try.prog call k nt rd D0 (atC [1, 1, 1, 1, 1, 1] ((Try.f10.body).getD .skip)) a H := rfl
theorem partitions_run {H : Heap} {v : Value} {l : List Int} (hw : WF H) (hv : R H v (ints l)) (z : Int) : ∃ H', evBody Try.prog (callP 200000) 200000 (.func (.func 10) #[] #[]) [v, vi z] H = some (.bool true, H') := by
  obtain ⟨n, hn⟩ : ∃ n, n = 200000 := ⟨_, rfl⟩
  rw [← hn]
  rw [body_runS (c := (Try.f10.body).getD .skip) Try.func10 rfl (ok_fn (by rfl) Try.func10 rfl) (Nat.le_of_ble_eq_true rfl) (D := D0) (by kernel_rfl)]
  have s0 := long_run hv n (by omega)
  by_cases hlong : (40 : Int) < (l.length : Int)
  · rw [decide_eq_true hlong] at s0
    simp (disch := omega) only [Try.f10, Option.getD_some, es_seq, es_region, es_cond, es_ret, ops_nil, ops_cons, ops_consG, st_move, st_assign, sy_pick, pickS_true, st_fun, bindO_some, bindF_some, bindX_normal, bindX_ret, condX_true, iteB_false, ev_tmp, ev_const, ev_func, putA, upd_at, Option.map_some, ↓reduceIte, Nat.reduceEqDiff, frOf_0, List.map_cons, List.map_nil, Bool.not_true, yieldO_eq, yO, yV_bool, yV_undef, none_some, some_false, List.getElem?_cons_zero, List.getElem?_cons_succ, ↓bindO_some, ↓bindF_some, ↓bindX_normal, ↓bindX_ret, ↓condX_true, ↓iteB_false, fin_r, res_nil, res_tmp, pack_1, scal_bool, cp_other, cp_awake, s0]
    exact ⟨_, rfl⟩
  · rw [decide_eq_false hlong] at s0
    by_cases hz : 12 < z ∧ z ≤ 20
    · have h1 := hz.1
      have h2 := hz.2
      simp (disch := omega) only [Try.f10, Option.getD_some, es_seq, es_region, es_cond, es_ret, ops_nil, ops_cons, ops_consG, st_move, st_assign, sy_pick, pickS_true, pickS_false, st_fun, sy_bin, binS_gtr, binS_leq, bindO_some, bindF_some, bindX_normal, bindX_ret, condX_true, iteB_true, ev_tmp, ev_const, ev_func, putA, upd_at, Option.map_some, ↓reduceIte, Nat.reduceEqDiff, frOf_0, frOf_1, List.map_cons, List.map_nil, decide_true, yieldO_eq, yO, yV_bool, List.getElem?_cons_zero, List.getElem?_cons_succ, beq_self_eq_true, ↓bindO_some, ↓bindF_some, ↓bindX_normal, ↓bindX_ret, ↓condX_true, ↓iteB_true, fin_r, res_nil, res_tmp, pack_1, scal_bool, cp_other, cp_awake, s0, h1, h2]
      exact ⟨_, rfl⟩
    · have hl : l.length ≤ 1000 := by omega
      rw [lp_split]
      have rest : ∀ (vl : Value) (e : Int) (H1 : Heap), callP n (.func (.func 43) #[] #[]) [vi z] H = some (.tuple #[vl, vi e], H1) → Old H.length H H1 → WF H1 →
          (∀ (H3 : Heap) (F : Fr), Old H1.length H1 H3 → WF H3 → F 1 = vi z → F 5 = vl → F 6 = vi e → ∃ a' H', evT Try.prog (callP n) n Try.f10.ntmps none D0 (atC [1, 1, 1, 1, 1, 1] ((Try.f10.body).getD .skip)) F H3 = some (.ret, a', H') ∧ a' 4 = .bool true) →
          ∃ H', finB Try.prog Try.f10.results.toList (bindX (evT Try.prog (callP n) n Try.f10.ntmps none D0 (atC [0] ((Try.f10.body).getD .skip)) (frOf [v, vi z]) H) fun a H => bindX (evT Try.prog (callP n) n Try.f10.ntmps none D0 (atC [1, 0] ((Try.f10.body).getD .skip)) a H) fun a H => bindX (evT Try.prog (callP n) n Try.f10.ntmps none D0 (atC [1, 1, 0] ((Try.f10.body).getD .skip)) a H) fun a H =>
    bindX (evT Try.prog (callP n) n Try.f10.ntmps none D0 (atC [1, 1, 1, 0] ((Try.f10.body).getD .skip)) a H) fun a H => bindX (evT Try.prog (callP n) n Try.f10.ntmps none D0 (atC [1, 1, 1, 1, 0] ((Try.f10.body).getD .skip)) a H) fun a H => bindX (evT Try.prog (callP n) n Try.f10.ntmps none D0 (atC [1, 1, 1, 1, 1, 0] ((Try.f10.body).getD .skip)) a H) fun a H =>
    evT Try.prog (callP n) n Try.f10.ntmps none D0 (atC [1, 1, 1, 1, 1, 1] ((Try.f10.body).getD .skip)) a H) = some (.bool true, H') := by
        intro vl e H1 s1 old1 wf1 rest
        obtain ⟨vc, H2, s2, o2, old2, wf2⟩ := conjW_run wf1 (hv.mono old1) hl n (by omega)
        have old12 := old1.trans (old2.mono old1.1)
        have s3 := rcheck_run (hv.mono old12) hl n (by omega)
        have s4 := ccheck_run (hv.mono old12) hl n (by omega)
        have d1 : decide (chk l = chk l) = true := decide_eq_true rfl
        generalize evT Try.prog (callP n) n Try.f10.ntmps none D0 (atC [1, 1, 1, 1, 1, 1] ((Try.f10.body).getD .skip)) = T at rest ⊢
        have fin : ∀ (H3 : Heap) (F : Fr), Old H1.length H1 H3 → WF H3 → F 1 = vi z → F 5 = vl → F 6 = vi e → ∃ H', finB Try.prog [.tmp 4] (T F H3) = some (.bool true, H') := by
          intro H3 F a1 a2 a3 a4 a5
          obtain ⟨a', H', e1, e2⟩ := rest H3 F a1 a2 a3 a4 a5
          rw [e1]
          exact ⟨H', by simp only [fin_r, res_tmp, res_nil, e2, scal_bool, Option.map_some, pack_1]⟩
        by_cases hc : chk l = 0
        · have hp := chk_part hc
          have hh := Part.head hp
          obtain ⟨vr, H3, s5, o5, old3, wf3⟩ := rconj_run wf2 (hv.mono old12) hl hh.1 hh.2 n (by omega)
          rw [← conj_eq hp.desc] at o5
          rw [show conjE l = conjP l from if_pos hc] at o2
          have s6 := ints_run (o2.R.mono old3) o5.R (by rw [conj_len]; omega) (by rw [conj_len]; omega) n (by omega)
          rw [decide_eq_true rfl] at s6
          have c1 : decide (chk l = 0) = true := decide_eq_true hc
          have lc := o2.R.lenI
          by_cases h1 : 12 < z
          · have h2 : ¬ z ≤ 20 := fun h => hz ⟨h1, h⟩
            simp (disch := omega) only [Try.f10, Option.getD_some, atC, es_seq, es_region, es_cond, es_skip, ops_nil, ops_cons, ops_consG, st_move, st_assign, sy_pick, pickS_true, pickS_false, st_fun, sy_bin, st_not, sy_ext, ext_20, ext_21, binS_gtr, binS_leq, binS_eql, binS_neq, bindO_some, bindF_some, bindX_normal, condX_false, iteB_true, iteB_false, ev_tmp, ev_const, ev_func, putA, upd_at, Option.map_some, ↓reduceIte, Nat.reduceEqDiff, frOf_0, frOf_1, List.map_cons, List.map_nil, decide_true, decide_false, Bool.not_true, yieldO_eq, yO, yV_bool, some_true, List.getElem?_cons_zero, List.getElem?_cons_succ, beq_self_eq_true, ↓bindO_some, ↓bindF_some, ↓bindX_normal, ↓condX_false, ↓iteB_true, ↓iteB_false, cp_other, s0, h1, h2, s1, s2, s3, s4, c1, s5, s6]
            exact fin _ _ (old2.trans (old3.mono old2.1)) wf3 (by simp only [upd_at, ↓reduceIte, Nat.reduceEqDiff, frOf_1]) (by simp only [upd_at, ↓reduceIte, Nat.reduceEqDiff]) (by simp only [upd_at, ↓reduceIte, Nat.reduceEqDiff])
          · simp (disch := omega) only [Try.f10, Option.getD_some, atC, es_seq, es_region, es_cond, es_skip, ops_nil, ops_cons, ops_consG, st_move, st_assign, sy_pick, pickS_true, pickS_false, st_fun, sy_bin, st_not, sy_ext, ext_20, ext_21, binS_gtr, binS_eql, binS_neq, bindO_some, bindF_some, bindX_normal, condX_false, iteB_true, iteB_false, ev_tmp, ev_const, ev_func, putA, upd_at, Option.map_some, ↓reduceIte, Nat.reduceEqDiff, frOf_0, frOf_1, List.map_cons, List.map_nil, decide_true, decide_false, Bool.not_true, yieldO_eq, yO, yV_bool, some_true, List.getElem?_cons_zero, List.getElem?_cons_succ, beq_self_eq_true, ↓bindO_some, ↓bindF_some, ↓bindX_normal, ↓condX_false, ↓iteB_true, ↓iteB_false, cp_other, s0, h1, s1, s2, s3, s4, c1, s5, s6]
            exact fin _ _ (old2.trans (old3.mono old2.1)) wf3 (by simp only [upd_at, ↓reduceIte, Nat.reduceEqDiff, frOf_1]) (by simp only [upd_at, ↓reduceIte, Nat.reduceEqDiff]) (by simp only [upd_at, ↓reduceIte, Nat.reduceEqDiff])
        · rw [show conjE l = [] from if_neg hc] at o2
          have c1 : decide (chk l = 0) = false := decide_eq_false hc
          have lc := o2.R.lenI
          have c2 : decide ((([] : List Int).length : Int) = 0) = true := rfl
          by_cases h1 : 12 < z
          · have h2 : ¬ z ≤ 20 := fun h => hz ⟨h1, h⟩
            simp (disch := omega) only [Try.f10, Option.getD_some, atC, es_seq, es_region, es_cond, es_skip, ops_nil, ops_cons, ops_consG, st_move, st_assign, sy_pick, pickS_true, pickS_false, st_fun, sy_len uL, sy_bin, sy_ext, ext_20, ext_21, binS_gtr, binS_leq, binS_eql, binS_neq, bindO_some, bindF_some, bindX_normal, condX_false, iteB_true, iteB_false, ev_tmp, ev_const, ev_func, putA, upd_at, Option.map_some, ↓reduceIte, Nat.reduceEqDiff, frOf_0, frOf_1, List.map_cons, List.map_nil, decide_true, decide_false, Bool.not_true, Bool.not_false, yieldO_eq, yO, yV_bool, some_true, List.getElem?_cons_zero, List.getElem?_cons_succ, beq_self_eq_true, ↓bindO_some, ↓bindF_some, ↓bindX_normal, ↓condX_false, ↓iteB_true, ↓iteB_false, cp_other, s0, h1, h2, s1, s2, s3, s4, c1, lc, c2]
            exact fin _ _ old2 wf2 (by simp only [upd_at, ↓reduceIte, Nat.reduceEqDiff, frOf_1]) (by simp only [upd_at, ↓reduceIte, Nat.reduceEqDiff]) (by simp only [upd_at, ↓reduceIte, Nat.reduceEqDiff])
          · simp (disch := omega) only [Try.f10, Option.getD_some, atC, es_seq, es_region, es_cond, es_skip, ops_nil, ops_cons, ops_consG, st_move, st_assign, sy_pick, pickS_true, pickS_false, st_fun, sy_len uL, sy_bin, sy_ext, ext_20, ext_21, binS_gtr, binS_eql, binS_neq, bindO_some, bindF_some, bindX_normal, condX_false, iteB_true, iteB_false, ev_tmp, ev_const, ev_func, putA, upd_at, Option.map_some, ↓reduceIte, Nat.reduceEqDiff, frOf_0, frOf_1, List.map_cons, List.map_nil, decide_true, decide_false, Bool.not_true, Bool.not_false, yieldO_eq, yO, yV_bool, some_true, List.getElem?_cons_zero, List.getElem?_cons_succ, beq_self_eq_true, ↓bindO_some, ↓bindF_some, ↓bindX_normal, ↓condX_false, ↓iteB_true, ↓iteB_false, cp_other, s0, h1, s1, s2, s3, s4, c1, lc, c2]
            exact fin _ _ old2 wf2 (by simp only [upd_at, ↓reduceIte, Nat.reduceEqDiff, frOf_1]) (by simp only [upd_at, ↓reduceIte, Nat.reduceEqDiff]) (by simp only [upd_at, ↓reduceIte, Nat.reduceEqDiff])
      by_cases hb : z < 0 ∨ 20 < z
      · refine rest _ _ _ (cparts_bad hb n (by omega)) (Old.refl _ _) hw ?_
        intro H3 F _ _ g1 g5 g6
        have l0 : lenS (.slice none 0 0) = some 0 := rfl
        have c3 : decide (((0 : Nat) : Int) = 0) = true := rfl
        have c4 : decide ((2 : Int) = 2) = true := rfl
        by_cases h1 : z < 0
        · simp (disch := omega) only [Try.f10, Option.getD_some, atC, es_seq, es_region, es_cond, es_ret, ops_nil, ops_cons, ops_consG, st_move, st_assign, sy_pick, pickS_true, st_fun, sy_bin, binS_lss, binS_eql, bindO_some, bindF_some, bindX_normal, bindX_ret, condX_true, iteB_true, iteB_false, ev_tmp, ev_const, ev_func, putA, upd_at, Option.map_some, ↓reduceIte, Nat.reduceEqDiff, List.map_nil, decide_true, Bool.not_true, yieldO_eq, yO, yV_bool, some_false, List.getElem?_cons_zero, List.getElem?_cons_succ, beq_self_eq_true, ↓bindO_some, ↓bindF_some, ↓bindX_normal, ↓bindX_ret, ↓condX_true, ↓iteB_true, ↓iteB_false, sy_len uLL, cp_awake, g1, g5, g6, h1, l0, c3]
          exact ⟨_, _, rfl, by simp only [upd_at, ↓reduceIte]⟩
        · have h2 : 20 < z := hb.resolve_left h1
          simp (disch := omega) only [Try.f10, Option.getD_some, atC, es_seq, es_region, es_cond, es_ret, ops_nil, ops_cons, ops_consG, st_move, st_assign, sy_pick, pickS_true, pickS_false, st_fun, sy_bin, binS_lss, binS_gtr, binS_eql, bindO_some, bindF_some, bindX_normal, bindX_ret, condX_true, iteB_true, ev_tmp, ev_const, ev_func, putA, upd_at, Option.map_some, ↓reduceIte, Nat.reduceEqDiff, List.map_nil, decide_true, decide_false, yieldO_eq, yO, yV_bool, List.getElem?_cons_zero, List.getElem?_cons_succ, beq_self_eq_true, ↓bindO_some, ↓bindF_some, ↓bindX_normal, ↓bindX_ret, ↓condX_true, ↓iteB_true, sy_len uLL, cp_awake, g1, g5, g6, h1, h2, l0, c3]
          exact ⟨_, _, rfl, by simp only [upd_at, ↓reduceIte]⟩
      · have h1 : ¬ z < 0 := fun h => hb (.inl h)
        have h2 : ¬ 20 < z := fun h => hb (.inr h)
        have h12 : z ≤ 12 := by
          apply Int.not_lt.1
          intro h
          exact hz ⟨h, by omega⟩
        obtain ⟨vl, H1, s1, rl, old1, wf1⟩ := cparts_run (z := z) hw (by omega) h12 n
        obtain ⟨p1, p2⟩ := partsZ_ok (z := z) (by omega) h12
        refine rest vl 0 H1 s1 old1 wf1 ?_
        intro H3 F old3 wf3 g1 g5 g6
        exact lp_good (rl.mono old3) p1 p2 wf3 (by omega) h12 (by omega) g1 g5 g6
open Go.RowKit in
theorem CountPartitions_walk (a0 : Option Addr) (len0 cap0 : Nat) (z0 : List Int) (a1 : Int) (w : World) (w0 : Row .i64 w a0 len0 cap0 z0) (w1 : (Lit.int .i64 a1).wf = true) :
    Calls Try.prog 10 #[.slice a0 len0 cap0, .int .i64 a1] w fun e w' => e = .returned (.bool true) ∧ Below w.heap.size w w' := by
  obtain ⟨x, l, ha, hx⟩ := row_one w0
  obtain ⟨v, h1, h2, h3⟩ := hx [vi a1]
  obtain ⟨H', h⟩ := partitions_run h3 h2 a1
  rw [← h1] at h
  exact law_args hmix (callP_ok _) (callP_grow _) h (.cons ha (.cons (.imm fun m => VR.of_plain m rfl) .nil))
end Go.Proofs.Ytmmgdgmjkhcfaaa
