/- Of the law: texts of its proof, joined (part 46). -/
import Derived.Test.YtkedcelpadiakaaGreatQwg37
import Derived.Test.YtkedcelpadiakaaGreatQwg44
import Derived.Test.YtkedcelpadiakaaGreatQwg45
import Derived.Test.YtkedcelpadiakaaGreatQwg5
set_option linter.all false
namespace Go.Proofs.YtkedcelpadiakaaGreat
open Go Go.Abs Go.Num
set_option maxRecDepth 10000
attribute [local congr] bindO_congr bindF_congr bindX_congr condX_congr iteB_congr binS_congr pickS_congr eqB_congr nilS_congr clsW_congr maxS_congr minS_congr
theorem wg_big {H : Heap} {v : Value} {c : List Int} (hv : R H v (ints c)) (h1 : ¬ (chk c = 0 ∧ c.sum ≤ 5)) : ∃ H', evBody Tryz.prog (callA 200000000) 200000000 (.func (.func 4) #[] #[]) [v] H = some (.bool true, H') := by
  obtain ⟨n, hn⟩ : ∃ n, n = 200000000 := ⟨_, rfl⟩
  rw [← hn]
  rw [body_runS (c := (Tryz.f4.body).getD .skip) Tryz.func4 rfl (ok_fn (by rfl) Tryz.func4 rfl) (Nat.le_of_ble_eq_true rfl) (D := D1) (by kernel_rfl)]
  have s0 := smallL_run hv 5 n (by omega)
  rw [show (decide (chk c = 0) && decide (c.sum ≤ 5)) = false from by rw [Bool.and_eq_false_iff]; rcases Decidable.not_and_iff_or_not.1 h1 with h | h; exact .inl (decide_eq_false h); exact .inr (decide_eq_false h)] at s0
  simp (disch := omega) only [Tryz.f4, Option.getD_some, es_seq, es_region, es_draw, d0, es_cond, es_block, es_loop, es_skip, es_exit, es_ret, ops_nil, ops_cons, ops_consG, opsV_nil, opsV_cons, opsV_consG, st_move, st_assign, sy_max, sy_min, maxS_vi, minS_vi, sy_pick, pickS_true, pickS_false, st_fun, sy_len uL, sy_addr eL, sy_load aI, sy_store zI, sy_bin, sy_neg, st_not, sy_append eL pI, sy_build1 eL oI, sy_build0 eL nI, sy_slice eL, sy_ext, ext_20, ext_21, sy_make eL yI (by decide), binS_lss, binS_gtr, binS_leq, binS_geq, binS_eql, binS_neq, binS_add, binS_sub, binS_mul, binS_quo, binS_rem, bindO_some, bindF_some, bindX_normal, bindX_exit, bindX_ret, blkX_normal, blkX_exit, blkX_ret, condX_true, condX_false, iteB_true, iteB_false, ev_tmp, ev_const, ev_func, putA, upd_at, Option.map_some, ↓reduceIte, Nat.reduceEqDiff, Nat.zero_add, Int.toNat_natCast, Int.natCast_nonneg, true_and, Nat.mul_one, frOf_0, frOf_1, frOf_2, frOf_3, frOf_4, List.map_cons, List.map_nil, decide_true, decide_false, Bool.not_true, Bool.not_false, yieldO_eq, yO, yV_bool, yV_undef, none_some, some_true, some_false, List.getElem?_cons_zero, List.getElem?_cons_succ, beq_self_eq_true, Bool.false_eq_true, dec00, dec0n, b_ft, b_tf, ↓bindO_some, ↓bindF_some, ↓bindX_normal, ↓bindX_exit, ↓bindX_ret, ↓condX_true, ↓condX_false, ↓iteB_true, ↓iteB_false, reflV_load, reflV_move, reflV_assign, reflV_pick, reflV_bin, reflV_un, reflV_addr, reflV_call, reflV_build, reflV_make, reflV_slice, reflV_extract, reflV_store, vEq_vi, vEq_bool, fin_n, fin_r, res_nil, res_tmp, pack_1, pack_2, pack_3, scal_vi, scal_bool, scal_nil, scal_sl, ca_other, ca_awake, s0]
  exact ⟨_, rfl⟩
def wgAlts : List (List Int) := [[], [1], [2], [1, 1], [3], [2, 1], [1, 1, 1], [4], [3, 1], [2, 2], [2, 1, 1], [1, 1, 1, 1], [5], [4, 1], [3, 2], [3, 1, 1], [2, 2, 1], [2, 1, 1, 1], [1, 1, 1, 1, 1]]
theorem wg_key : ((List.range 6).all fun N => (ptn 20 20 N).all fun c => wgAlts.contains c) = true := by kernel_rfl
theorem wg_small {c : List Int} (h : chk c = 0) (hs : c.sum ≤ 5) : c = [] ∨ c = [1] ∨ c = [2] ∨ c = [1, 1] ∨ c = [3] ∨ c = [2, 1] ∨ c = [1, 1, 1] ∨ c = [4] ∨ c = [3, 1] ∨ c = [2, 2] ∨ c = [2, 1, 1] ∨ c = [1, 1, 1, 1] ∨ c = [5] ∨ c = [4, 1] ∨ c = [3, 2] ∨ c = [3, 1, 1] ∨ c = [2, 2, 1] ∨ c = [2, 1, 1, 1] ∨ c = [1, 1, 1, 1, 1] := by
  obtain ⟨N, hN, _, hm⟩ := part_ptn (chk_part h)
  have hN5 : N < 6 := by omega
  have := List.all_eq_true.1 (List.all_eq_true.1 wg_key N (List.mem_range.2 hN5)) c hm
  have := List.contains_iff_mem.1 this
  simpa only [wgAlts, List.mem_cons, List.not_mem_nil, or_false] using this
open Go.RowKit in
theorem CountWeighs_walk (a0 : Option Addr) (len0 cap0 : Nat) (z0 : List Int) (w : World) (w0 : Row .i64 w a0 len0 cap0 z0) :
    Calls Tryz.prog 4 #[.slice a0 len0 cap0] w fun e w' => e = .returned (.bool true) ∧ Below w.heap.size w w' := by
  rcases row_at w0 with h | h | ⟨l, hl, h⟩
  · exact wg_ok.topC hF hmix wgN (.cons h .nil)
  · exact wg_ok.topC hF hmix wgLo (.cons h .nil)
  · by_cases h1 : chk l = 0 ∧ l.sum ≤ 5
    · rcases wg_small h1.1 h1.2 with rfl | rfl | rfl | rfl | rfl | rfl | rfl | rfl | rfl | rfl | rfl | rfl | rfl | rfl | rfl | rfl | rfl | rfl | rfl
      · simp at hl
      · exact wg_ok.topC hF hmix wg1 (.cons h .nil)
      · exact wg_ok.topC hF hmix wg2 (.cons h .nil)
      · exact wg_ok.topC hF hmix wg11 (.cons h .nil)
      · exact wg_ok.topC hF hmix wg3 (.cons h .nil)
      · exact wg_ok.topC hF hmix wg21 (.cons h .nil)
      · exact wg_ok.topC hF hmix wg111 (.cons h .nil)
      · exact wg_ok.topC hF hmix wg4 (.cons h .nil)
      · exact wg_ok.topC hF hmix wg31 (.cons h .nil)
      · exact wg_ok.topC hF hmix wg22 (.cons h .nil)
      · exact wg_ok.topC hF hmix wg211 (.cons h .nil)
      · exact wg_ok.topC hF hmix wg1111 (.cons h .nil)
      · exact wg_ok.topC hF hmix wg5 (.cons h .nil)
      · exact wg_ok.topC hF hmix wg41 (.cons h .nil)
      · exact wg_ok.topC hF hmix wg32 (.cons h .nil)
      · exact wg_ok.topC hF hmix wg311 (.cons h .nil)
      · exact wg_ok.topC hF hmix wg221 (.cons h .nil)
      · exact wg_ok.topC hF hmix wg2111 (.cons h .nil)
      · exact wg_ok.topC hF hmix wg11111 (.cons h .nil)
    · obtain ⟨H', e⟩ := wg_big (H := mkHeap 0 [.li (ints l)]) (v := sliceA 0 0 l.length 1) (.inr (.inr ⟨0, 0, 0, false, ints l, by rw [ints_len], rfl, by simp [ints_len], by simp⟩)) h1
      refine law_args hmix (callA_ok 200000000) (callA_grow 200000000) (n := 200000000) («ays» := [.li (ints l)]) (H' := H') ?_ (.cons h .nil)
      rw [← e]
      simp only [mkVals, ints_len]
end Go.Proofs.YtkedcelpadiakaaGreat
