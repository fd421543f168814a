/- The law of the hooks: its calls. -/
import Derived.Test.YtmmgdgmjkhcfaaaSzF
import Derived.Test.YtmmgdgmjkhcfaaaSzL
import Derived.Test.YtmmgdgmjkhcfaaaSzR
import Derived.Test.YtmmgdgmjkhcfaaaSxC
set_option linter.all false
namespace Go.Proofs.Ytmmgdgmjkhcfaaa
open Go Go.Abs Go.Num
set_option maxRecDepth 10000
attribute [local congr] bindO_congr bindF_congr bindX_congr condX_congr iteB_congr binS_congr pickS_congr eqB_congr nilS_congr clsW_congr maxS_congr minS_congr
def TLL (H : Heap) (r : Option (Value × Heap)) (f : Value → Value) (ls : List (List Int)) : Prop := ∃ v H', r = some (f v, H') ∧ RL H' v ls ∧ Old H.length H H' ∧ WF H'
def THH (H : Heap) (r : Option (Value × Heap)) (f : Value → Value) (ls : List (List Int × Int)) : Prop := ∃ v H', r = some (f v, H') ∧ RH H' v ls ∧ Old H.length H H' ∧ WF H'
def hooksE (l : List Int) : List (List Int) := if chk l = 0 then hooksL l else []
def dimE (l : List Int) : List Int := if chk l = 0 then nf (dimZ l) else []
def rimE (l : List Int) (z : Int) : Int := if chk l ≠ 0 then chk l else if z < 1 ∨ 20 < z then 2 else 0
def rimsE (l : List Int) (z : Int) : List (List Int × Int) := if chk l ≠ 0 then [] else if z < 1 ∨ 20 < z then [] else rimsP l z
theorem hooksW_run {H : Heap} {v : Value} {l : List Int} (hw : WF H) (hv : R H v (ints l)) (hl : l.length ≤ 1000) (n : Nat) (hn : 1030 ≤ n) : TLL H (evB Try.prog noC n (.func (.func 47) #[] #[]) [v] H) (fun u => .tuple #[u, vi (chk l)]) (hooksE l) := by
  refine run_of (F := 1029) (Q := fun r => TLL H r (fun u => .tuple #[u, vi (chk l)]) (hooksE l)) (fun n hn => ?_) n hn
  rw [body_runS Try.func47 rfl (ok_fn (by rfl) Try.func47 rfl) (Nat.le_of_ble_eq_true rfl) (D := D0) (by kernel_rfl)]
  have s0 := ccheck_run hv hl n (by omega)
  by_cases hc : chk l = 0
  · rw [show hooksE l = hooksL l from if_pos hc]
    obtain ⟨v1, H1, s1, o1, old1, wf1⟩ := hooks_run hw hv (chk_part hc) n (by omega)
    have c1 : decide (chk l = 0) = true := decide_eq_true hc
    simp (disch := omega) only [Try.f47, es_seq, es_region, es_cond, es_skip, es_ret, ops_nil, ops_cons, st_move, st_assign, st_fun, sy_bin, binS_neq, bindO_some, bindF_some, bindX_normal, condX_false, ev_tmp, ev_const, ev_func, putA, upd_at, Option.map_some, ↓reduceIte, Nat.reduceEqDiff, frOf_0, List.map_cons, List.map_nil, Bool.not_true, ↓bindO_some, ↓bindF_some, ↓bindX_normal, ↓condX_false, fin_r, res_nil, res_tmp, pack_2, scal_vi, s0, c1, s1, o1.RL.scal]
    exact ⟨_, _, by rw [hc], o1.RL, old1, wf1⟩
  · rw [show hooksE l = [] from if_neg hc]
    have c1 : decide (chk l = 0) = false := decide_eq_false hc
    simp (disch := omega) only [Try.f47, es_seq, es_region, es_cond, es_ret, ops_nil, ops_cons, st_move, st_assign, st_fun, sy_bin, binS_neq, bindO_some, bindF_some, bindX_normal, bindX_ret, condX_true, ev_tmp, ev_const, ev_func, putA, upd_at, Option.map_some, ↓reduceIte, Nat.reduceEqDiff, frOf_0, List.map_cons, List.map_nil, Bool.not_false, ↓bindO_some, ↓bindF_some, ↓bindX_normal, ↓bindX_ret, ↓condX_true, fin_r, res_nil, res_tmp, pack_2, scal_vi, scal_nil, s0, c1]
    exact ⟨_, _, rfl, .inl ⟨rfl, rfl⟩, Old.refl _ _, hw⟩
theorem dimW_run {H : Heap} {v : Value} {l : List Int} (hw : WF H) (hv : R H v (ints l)) (hl : l.length ≤ 1000) (n : Nat) (hn : 100030000 ≤ n) : OneT H (evB Try.prog noC n (.func (.func 34) #[] #[]) [v] H) (fun u => .tuple #[u, vi (chk l)]) (dimE l) := by
  refine run_of (F := 100029999) (Q := fun r => OneT H r (fun u => .tuple #[u, vi (chk l)]) (dimE l)) (fun n hn => ?_) n hn
  rw [body_runS Try.func34 rfl (ok_fn (by rfl) Try.func34 rfl) (Nat.le_of_ble_eq_true rfl) (D := D0) (by kernel_rfl)]
  have s0 := ccheck_run hv hl n (by omega)
  by_cases hc : chk l = 0
  · rw [show dimE l = nf (dimZ l) from if_pos hc]
    obtain ⟨v1, H1, s1, o1, old1, wf1⟩ := dim_run hw hv (chk_part hc) n (by omega)
    have c1 : decide (chk l = 0) = true := decide_eq_true hc
    simp (disch := omega) only [Try.f34, es_seq, es_region, es_cond, es_skip, es_ret, ops_nil, ops_cons, st_move, st_assign, st_fun, sy_bin, binS_neq, bindO_some, bindF_some, bindX_normal, condX_false, ev_tmp, ev_const, ev_func, putA, upd_at, Option.map_some, ↓reduceIte, Nat.reduceEqDiff, frOf_0, List.map_cons, List.map_nil, Bool.not_true, ↓bindO_some, ↓bindF_some, ↓bindX_normal, ↓condX_false, fin_r, res_nil, res_tmp, pack_2, scal_vi, s0, c1, s1, o1.R.scal]
    exact ⟨_, _, by rw [hc], o1, old1, wf1⟩
  · rw [show dimE l = [] from if_neg hc]
    have c1 : decide (chk l = 0) = false := decide_eq_false hc
    simp (disch := omega) only [Try.f34, es_seq, es_region, es_cond, es_ret, ops_nil, ops_cons, st_move, st_assign, st_fun, sy_bin, binS_neq, bindO_some, bindF_some, bindX_normal, bindX_ret, condX_true, ev_tmp, ev_const, ev_func, putA, upd_at, Option.map_some, ↓reduceIte, Nat.reduceEqDiff, frOf_0, List.map_cons, List.map_nil, Bool.not_false, ↓bindO_some, ↓bindF_some, ↓bindX_normal, ↓bindX_ret, ↓condX_true, fin_r, res_nil, res_tmp, pack_2, scal_vi, scal_nil, s0, c1]
    exact ⟨_, _, rfl, O.nil _ _, Old.refl _ _, hw⟩
theorem rimsW_run {H : Heap} {v : Value} {l : List Int} (hw : WF H) (hv : R H v (ints l)) (hl : l.length ≤ 1000) (z : Int) (n : Nat) (hn : 1040 ≤ n) : THH H (evB Try.prog noC n (.func (.func 48) #[] #[]) [v, vi z] H) (fun u => .tuple #[u, vi (rimE l z)]) (rimsE l z) := by
  refine run_of (F := 1039) (Q := fun r => THH H r (fun u => .tuple #[u, vi (rimE l z)]) (rimsE l z)) (fun n hn => ?_) n hn
  rw [body_runS Try.func48 rfl (ok_fn (by rfl) Try.func48 rfl) (Nat.le_of_ble_eq_true rfl) (D := D0) (by kernel_rfl)]
  have s0 := ccheck_run hv hl n (by omega)
  by_cases hc : chk l = 0
  · have c1 : decide (chk l = 0) = true := decide_eq_true hc
    by_cases hz : z < 1 ∨ 20 < z
    · rw [show rimE l z = 2 from by unfold rimE; rw [if_neg (fun h => h hc), if_pos hz], show rimsE l z = [] from by unfold rimsE; rw [if_neg (fun h => h hc), if_pos hz]]
      by_cases h1 : z < 1
      · simp (disch := omega) only [Try.f48, es_seq, es_region, es_cond, es_skip, es_ret, ops_nil, ops_cons, ops_consG, st_move, st_assign, sy_pick, pickS_true, st_fun, sy_bin, binS_lss, binS_neq, bindO_some, bindF_some, bindX_normal, bindX_ret, condX_true, condX_false, iteB_false, ev_tmp, ev_const, ev_func, putA, upd_at, Option.map_some, ↓reduceIte, Nat.reduceEqDiff, frOf_0, frOf_1, List.map_cons, List.map_nil, decide_true, Bool.not_true, yieldO_eq, yO, yV_bool, some_false, List.getElem?_cons_zero, List.getElem?_cons_succ, ↓bindO_some, ↓bindF_some, ↓bindX_normal, ↓bindX_ret, ↓condX_true, ↓condX_false, ↓iteB_false, fin_r, res_nil, res_tmp, pack_2, scal_vi, scal_nil, s0, c1, h1]
        exact ⟨_, _, rfl, .inl ⟨rfl, rfl⟩, Old.refl _ _, hw⟩
      · have h2 : 20 < z := hz.resolve_left h1
        simp (disch := omega) only [Try.f48, es_seq, es_region, es_cond, es_skip, es_ret, ops_nil, ops_cons, ops_consG, st_move, st_assign, sy_pick, pickS_false, st_fun, sy_bin, binS_lss, binS_gtr, binS_neq, bindO_some, bindF_some, bindX_normal, bindX_ret, condX_true, condX_false, iteB_true, ev_tmp, ev_const, ev_func, putA, upd_at, Option.map_some, ↓reduceIte, Nat.reduceEqDiff, frOf_0, frOf_1, List.map_cons, List.map_nil, decide_true, decide_false, Bool.not_true, yieldO_eq, yO, yV_bool, List.getElem?_cons_zero, List.getElem?_cons_succ, beq_self_eq_true, ↓bindO_some, ↓bindF_some, ↓bindX_normal, ↓bindX_ret, ↓condX_true, ↓condX_false, ↓iteB_true, fin_r, res_nil, res_tmp, pack_2, scal_vi, scal_nil, s0, c1, h1, h2]
        exact ⟨_, _, rfl, .inl ⟨rfl, rfl⟩, Old.refl _ _, hw⟩
    · have h1 : ¬ z < 1 := fun h => hz (.inl h)
      have h2 : ¬ 20 < z := fun h => hz (.inr h)
      rw [show rimE l z = 0 from by unfold rimE; rw [if_neg (fun h => h hc), if_neg hz], show rimsE l z = rimsP l z from by unfold rimsE; rw [if_neg (fun h => h hc), if_neg hz]]
      obtain ⟨v1, H1, s1, o1, old1, wf1⟩ := rims_run hw hv (chk_part hc) (z := z) ⟨by omega, by omega⟩ n (by omega)
      simp (disch := omega) only [Try.f48, es_seq, es_region, es_cond, es_skip, es_ret, ops_nil, ops_cons, ops_consG, st_move, st_assign, sy_pick, pickS_false, st_fun, sy_bin, binS_lss, binS_gtr, binS_neq, bindO_some, bindF_some, bindX_normal, condX_false, iteB_true, ev_tmp, ev_const, ev_func, putA, upd_at, Option.map_some, ↓reduceIte, Nat.reduceEqDiff, frOf_0, frOf_1, List.map_cons, List.map_nil, decide_false, Bool.not_true, yieldO_eq, yO, yV_bool, List.getElem?_cons_zero, List.getElem?_cons_succ, beq_self_eq_true, ↓bindO_some, ↓bindF_some, ↓bindX_normal, ↓condX_false, ↓iteB_true, fin_r, res_nil, res_tmp, pack_2, scal_vi, s0, c1, h1, h2, s1, o1.RH.scal]
      exact ⟨_, _, rfl, o1.RH, old1, wf1⟩
  · rw [show rimE l z = chk l from if_pos hc, show rimsE l z = [] from if_pos hc]
    have c1 : decide (chk l = 0) = false := decide_eq_false hc
    simp (disch := omega) only [Try.f48, es_seq, es_region, es_cond, es_ret, ops_nil, ops_cons, st_move, st_assign, st_fun, sy_bin, binS_neq, bindO_some, bindF_some, bindX_normal, bindX_ret, condX_true, ev_tmp, ev_const, ev_func, putA, upd_at, Option.map_some, ↓reduceIte, Nat.reduceEqDiff, frOf_0, List.map_cons, List.map_nil, Bool.not_false, ↓bindO_some, ↓bindF_some, ↓bindX_normal, ↓bindX_ret, ↓condX_true, fin_r, res_nil, res_tmp, pack_2, scal_vi, scal_nil, s0, c1]
    exact ⟨_, _, rfl, .inl ⟨rfl, rfl⟩, Old.refl _ _, hw⟩
theorem fHk0 : fieldOff Try.prog 66 0 = some 0 := by kernel_rfl
theorem fHk1 : fieldOff Try.prog 66 1 = some 1 := by kernel_rfl
noncomputable def lhA : Code := atC [1, 1, 1, 1, 1, 1, 1, 1, 1, 1, 0, 1, 0, 0] ((Try.f11.body).getD .skip)
theorem lh_loop {H : Heap} {vl vm : Value} {ls : List (List Int × Int)} (hl : RH H vl ls) (hm : RH H vm ls) (hll : ls.length ≤ 1000) (hr : ∀ a ∈ ls, a.1.length ≤ 10000) (n nt : Nat) (hn : 20000 ≤ n) {a : Fr} (h9 : a 9 = vl) (h12 : a 12 = vm) (h13 : a 13 = vi (0 : Nat)) :
    ∃ r a' H', loopN (evS Try.prog (callA n) n nt none lhA) n a H = some (r, a', H') ∧ r = .exit 0 ∧ H' = H := by
  have ll := RG.len hl
  refine loop_up ls.length (fun i a H' => H' = H ∧ a 9 = vl ∧ a 12 = vm ∧ a 13 = vi i) _ ?_ ?_ (by omega) ⟨rfl, h9, h12, h13⟩
  · intro i a H' hi ⟨hH, h9, h12, h13⟩
    subst hH
    left
    rw [show lhA = atC [1, 1, 1, 1, 1, 1, 1, 1, 1, 1, 0, 1, 0, 0] ((Try.f11.body).getD .skip) from rfl]
    have hlt : (i : Int) < ls.length := by omega
    have e1 : IntKind.i64.wrap ((i : Int) + 1) = ((i + 1 : Nat) : Int) := by rw [wr64 (by omega) (by omega)]; omega
    have ei : ls[i]? = some ls[i] := List.getElem?_eq_getElem hi
    obtain ⟨x, lx, rx, lz⟩ := hl.item ei
    obtain ⟨y, ly, ry, lw⟩ := hm.item ei
    have hlen := hr _ (List.getElem_mem hi)
    have a1 := RG.addr hl hi
    have a2 := RG.addr hm hi
    have f10 := hl.faddr hi 0
    have f11 := hl.faddr hi 1
    have f20 := hm.faddr hi 0
    have f21 := hm.faddr hi 1
    rw [Nat.add_zero] at f10 f20
    have s1 := ints_run rx ry hlen hlen n (by omega)
    rw [decide_eq_true rfl] at s1
    have c1 : decide ((ls[i]).2 = (ls[i]).2) = true := decide_eq_true rfl
    generalize hz : (ls[i]).2 = z at *
    simp (disch := omega) only [Try.f11, Option.getD_some, atC, es_seq, es_region, es_draw, d0, es_cond, es_block, es_skip, ops_nil, ops_cons, opsV_nil, opsV_cons, opsV_consG, st_move, st_assign, sy_pick, pickS_false, st_fun, sy_load aI, sy_bin, st_not, binS_lss, binS_neq, binS_add, bindO_some, bindF_some, bindX_normal, blkX_normal, condX_true, condX_false, iteB_true, iteB_false, ev_tmp, ev_const, ev_func, putA, upd_at, Option.map_some, ↓reduceIte, Nat.reduceEqDiff, List.map_cons, List.map_nil, decide_true, Bool.not_true, yieldO_eq, yO, yV_bool, List.getElem?_cons_zero, List.getElem?_cons_succ, beq_self_eq_true, ↓bindO_some, ↓bindF_some, ↓bindX_normal, ↓condX_true, ↓condX_false, ↓iteB_true, ↓iteB_false, reflV_load, reflV_move, reflV_pick, reflV_bin, reflV_un, reflV_addr, reflV_call, vEq_vi, sy_load aL, reflV_faddr, sy_len uHH, sy_addr eHH, sy_faddr fHk0, sy_faddr fHk1, ca_other, rx.refl, ry.refl, h9, h12, h13, ll, hlt, a1, a2, f10, f11, f20, f21, lx, ly, lz, lw, s1, e1]
    exact ⟨_, _, rfl, rfl, by simp only [upd_at, ↓reduceIte, Nat.reduceEqDiff, h9], by simp only [upd_at, ↓reduceIte, Nat.reduceEqDiff, h12], by simp only [upd_at, ↓reduceIte]⟩
  · intro a H' ⟨hH, h9, h12, h13⟩
    subst hH
    rw [show lhA = atC [1, 1, 1, 1, 1, 1, 1, 1, 1, 1, 0, 1, 0, 0] ((Try.f11.body).getD .skip) from rfl]
    simp (disch := omega) only [Try.f11, Option.getD_some, atC, es_seq, es_region, es_cond, es_exit, ops_nil, ops_cons, st_move, sy_bin, binS_lss, bindO_some, bindF_some, bindX_normal, bindX_exit, condX_false, ev_tmp, putA, upd_at, Option.map_some, ↓reduceIte, Nat.reduceEqDiff, decide_false, ↓bindO_some, ↓bindF_some, ↓bindX_normal, ↓bindX_exit, ↓condX_false, sy_len uHH, h9, h13, ll, Int.lt_irrefl]
    exact ⟨_, _, _, rfl, by simp, rfl, rfl⟩
end Go.Proofs.Ytmmgdgmjkhcfaaa
