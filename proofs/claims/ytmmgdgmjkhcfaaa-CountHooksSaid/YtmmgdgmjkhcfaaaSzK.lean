/- Rim hooks of the reference. -/
import Derived.Test.YtmmgdgmjkhcfaaaSzJ
set_option linter.all false
namespace Go.Proofs.Ytmmgdgmjkhcfaaa
open Go Go.Abs Go.Num
set_option maxRecDepth 10000
attribute [local congr] bindO_congr bindF_congr bindX_congr condX_congr iteB_congr binS_congr pickS_congr eqB_congr nilS_congr clsW_congr maxS_congr minS_congr
theorem copy_run {H : Heap} {v : Value} {l : List Int} (hw : WF H) (hv : R H v (ints l)) (hl : l.length ≤ 10000) (n : Nat) (hn : 10 ≤ n) : OneL H (evB Try.prog noC n (.func (.func 87) #[] #[]) [v] H) l := by
  refine run_of (F := 9) (Q := fun x => OneL H x l) (fun n hn => ?_) n hn
  rw [body_runS Try.func87 rfl (ok_fn (by rfl) Try.func87 rfl) (Nat.le_of_ble_eq_true rfl) (D := D0) (by kernel_rfl)]
  have old1 := Old.app H [.cells H.length true []]
  obtain ⟨v2, H2, s2, o2, old2, wf2⟩ := (O.empty (H := H) (Nat.le_refl H.length)).app (hw.app (Nat.le_refl _)) (by simp) (hv.mono old1) (by rw [ints_len]; simp [maxA]; omega)
  simp (disch := omega) only [Try.f87, es_seq, es_region, es_ret, ops_nil, ops_cons, st_move, st_assign, sy_append eL pI, sy_build0 eL nI, bindO_some, bindF_some, bindX_normal, ev_tmp, ev_const, putA, upd_at, Option.map_some, ↓reduceIte, Nat.reduceEqDiff, frOf_0, ↓bindO_some, ↓bindF_some, ↓bindX_normal, fin_r, res_nil, res_tmp, pack_1, s2, o2.R.scal]
  exact ⟨_, _, rfl, o2, old1.trans old2, wf2⟩
noncomputable def shA : Code := atC [1, 0, 1, 0, 0] ((Try.f93.body).getD .skip)
noncomputable def shB : Code := atC [1, 1, 1, 0, 0, 0] ((Try.f93.body).getD .skip)
theorem sh_one {H : Heap} {v : Value} {q : List Int} (hv : R H v (ints q)) (hl : q.length ≤ 1000) (call : CallF) (m nt : Nat) {a : Fr} {k : Nat} (hk : q.length < k) (h0 : a 0 = v) (h4 : a 4 = vi (0 : Nat)) :
    ∃ r a' H', loopN (evS Try.prog call m nt none shA) k a H = some (r, a', H') ∧ H' = H ∧ ((r = .exit 0 ∧ a' 0 = v ∧ OkL q) ∨ (r = .ret ∧ a' 2 = .slice none 0 0 ∧ a' 3 = .bool false ∧ ¬ OkL q)) := by
  refine loop_up q.length (fun i a H' => H' = H ∧ a 0 = v ∧ a 4 = vi i ∧ (∀ r, r < i → 0 ≤ q.getD r 0) ∧ ∀ r, r + 1 < i → q.getD (r + 1) 0 ≤ q.getD r 0) _ ?_ ?_ hk ⟨rfl, h0, h4, fun r hr => by omega, fun r hr => by omega⟩
  · intro i a H' hi ⟨hH, h0, h4, hp, hd⟩
    subst hH
    rw [show shA = atC [1, 0, 1, 0, 0] ((Try.f93.body).getD .skip) from rfl]
    have c1 : (i : Int) < (q.length : Int) := by omega
    have e1 : IntKind.i64.wrap ((i : Int) + 1) = ((i + 1 : Nat) : Int) := by rw [wr64 (by omega) (by omega)]; omega
    by_cases hneg : q.getD i 0 < 0
    · right
      have hno : ¬ OkL q := fun h => by have := h.1 i hi; omega
      simp (disch := omega) only [Try.f93, Option.getD_some, atC, es_seq, es_region, es_draw, d0, es_cond, es_block, es_skip, es_ret, ops_nil, ops_cons, opsV_nil, opsV_cons, opsV_consG, st_move, st_assign, sy_pick, pickS_true, sy_len uL, sy_addr eL, sy_load aI, sy_bin, binS_lss, bindO_some, bindF_some, bindX_normal, bindX_ret, blkX_ret, condX_true, iteB_true, iteB_false, ev_tmp, ev_const, putA, upd_at, Option.map_some, ↓reduceIte, Nat.reduceEqDiff, Int.toNat_natCast, decide_true, Bool.not_true, yieldO_eq, yO, yV_bool, yV_undef, none_some, some_false, List.getElem?_cons_zero, List.getElem?_cons_succ, ↓bindO_some, ↓bindF_some, ↓bindX_normal, ↓bindX_ret, ↓condX_true, ↓iteB_true, ↓iteB_false, reflV_load, reflV_move, reflV_pick, reflV_bin, reflV_addr, vEq_vi, h0, h4, hv.lenI, c1, hv.addrI, hv.loadI, hneg]
      exact ⟨_, _, _, rfl, by simp, rfl, .inr ⟨rfl, rfl, rfl, hno⟩⟩
    · have hpi : ∀ r, r < i + 1 → 0 ≤ q.getD r 0 := fun r hr => by
        by_cases e : r = i
        · subst e; omega
        · exact hp r (by omega)
      cases i with
      | zero =>
        left
        have c0 : decide ((0 : Int) < ((0 : Nat) : Int)) = false := rfl
        simp (disch := omega) only [Try.f93, Option.getD_some, atC, es_seq, es_region, es_draw, d0, es_cond, es_block, es_skip, ops_nil, ops_cons, opsV_nil, opsV_cons, opsV_consG, st_move, st_assign, sy_pick, pickS_false, sy_len uL, sy_addr eL, sy_load aI, sy_bin, binS_lss, binS_gtr, binS_add, bindO_some, bindF_some, bindX_normal, blkX_normal, condX_true, condX_false, iteB_true, iteB_false, ev_tmp, ev_const, putA, upd_at, Option.map_some, ↓reduceIte, Nat.reduceEqDiff, Nat.zero_add, Int.toNat_natCast, decide_true, decide_false, yieldO_eq, yO, yV_bool, some_true, List.getElem?_cons_zero, List.getElem?_cons_succ, beq_self_eq_true, ↓bindO_some, ↓bindF_some, ↓bindX_normal, ↓condX_true, ↓condX_false, ↓iteB_true, ↓iteB_false, reflV_load, reflV_move, reflV_pick, reflV_bin, reflV_addr, vEq_vi, h0, h4, hv.lenI, c1, hv.addrI, hv.loadI, hneg, c0, e1]
        exact ⟨_, _, rfl, rfl, h0, rfl, hpi, fun r hr => by omega⟩
      | succ j =>
        have c0 : (0 : Int) < ((j + 1 : Nat) : Int) := by omega
        have e2 : IntKind.i64.wrap (((j + 1 : Nat) : Int) - 1) = (j : Int) := by rw [wr64 (by omega) (by omega)]; omega
        by_cases hq : q.getD j 0 < q.getD (j + 1) 0
        · right
          have hno : ¬ OkL q := fun h => by have := h.2 j hi; omega
          simp (disch := omega) only [Try.f93, Option.getD_some, atC, es_seq, es_region, es_draw, d0, es_cond, es_block, es_skip, es_ret, ops_nil, ops_cons, opsV_nil, opsV_cons, opsV_consG, st_move, st_assign, sy_pick, pickS_true, pickS_false, sy_len uL, sy_addr eL, sy_load aI, sy_bin, binS_lss, binS_gtr, binS_sub, bindO_some, bindF_some, bindX_normal, bindX_ret, blkX_ret, condX_true, iteB_true, iteB_false, ev_tmp, ev_const, putA, upd_at, Option.map_some, ↓reduceIte, Nat.reduceEqDiff, Int.toNat_natCast, decide_true, decide_false, yieldO_eq, yO, yV_bool, List.getElem?_cons_zero, List.getElem?_cons_succ, beq_self_eq_true, ↓bindO_some, ↓bindF_some, ↓bindX_normal, ↓bindX_ret, ↓condX_true, ↓iteB_true, ↓iteB_false, reflV_load, reflV_move, reflV_pick, reflV_bin, reflV_addr, vEq_vi, h0, h4, hv.lenI, c1, hv.addrI, hv.loadI, hneg, c0, e2, hq]
          exact ⟨_, _, _, rfl, by simp, rfl, .inr ⟨rfl, rfl, rfl, hno⟩⟩
        · left
          simp (disch := omega) only [Try.f93, Option.getD_some, atC, es_seq, es_region, es_draw, d0, es_cond, es_block, es_skip, ops_nil, ops_cons, opsV_nil, opsV_cons, opsV_consG, st_move, st_assign, sy_pick, pickS_true, pickS_false, sy_len uL, sy_addr eL, sy_load aI, sy_bin, binS_lss, binS_gtr, binS_add, binS_sub, bindO_some, bindF_some, bindX_normal, blkX_normal, condX_true, condX_false, iteB_true, iteB_false, ev_tmp, ev_const, putA, upd_at, Option.map_some, ↓reduceIte, Nat.reduceEqDiff, Int.toNat_natCast, decide_true, decide_false, yieldO_eq, yO, yV_bool, List.getElem?_cons_zero, List.getElem?_cons_succ, beq_self_eq_true, ↓bindO_some, ↓bindF_some, ↓bindX_normal, ↓condX_true, ↓condX_false, ↓iteB_true, ↓iteB_false, reflV_load, reflV_move, reflV_pick, reflV_bin, reflV_addr, vEq_vi, h0, h4, hv.lenI, c1, hv.addrI, hv.loadI, hneg, c0, e2, hq, e1]
          refine ⟨_, _, rfl, rfl, h0, rfl, hpi, fun r hr => ?_⟩
          by_cases e : r = j
          · subst e; omega
          · exact hd r (by omega)
  · intro a H' ⟨hH, h0, h4, hp, hd⟩
    subst hH
    rw [show shA = atC [1, 0, 1, 0, 0] ((Try.f93.body).getD .skip) from rfl]
    simp (disch := omega) only [Try.f93, Option.getD_some, atC, es_seq, es_region, es_cond, es_exit, ops_nil, ops_cons, st_move, sy_len uL, sy_bin, binS_lss, bindO_some, bindF_some, bindX_normal, bindX_exit, condX_false, ev_tmp, putA, upd_at, Option.map_some, ↓reduceIte, Nat.reduceEqDiff, decide_false, ↓bindO_some, ↓bindF_some, ↓bindX_normal, ↓bindX_exit, ↓condX_false, h0, h4, hv.lenI, Int.lt_irrefl]
    exact ⟨_, _, _, rfl, by simp, rfl, .inl ⟨rfl, h0, hp, hd⟩⟩
theorem sh_two {H : Heap} {v : Value} {q : List Int} (hv : R H v (ints q)) (hl : q.length ≤ 1000) (call : CallF) (m nt : Nat) {a : Fr} {k : Nat} (hk : q.length < k) (h0 : a 0 = v) (h5 : a 5 = vi (q.length : Nat)) :
    ∃ r a' H', loopN (evS Try.prog call m nt none shB) k a H = some (r, a', H') ∧ H' = H ∧ r = .exit 2 ∧ a' 0 = v ∧ ∃ c : Nat, a' 5 = vi c ∧ c ≤ q.length ∧ q.take c = trimL q := by
  refine loop_wf (fun c a H' => H' = H ∧ a 0 = v ∧ a 5 = vi c ∧ c ≤ q.length ∧ trimL (q.take c) = trimL q) _ ?_ k q.length a H hk ⟨rfl, h0, h5, Nat.le_refl _, by rw [List.take_length]⟩
  intro c a H' ⟨hH, h0, h5, hc, ht⟩
  subst hH
  rw [show shB = atC [1, 1, 1, 0, 0, 0] ((Try.f93.body).getD .skip) from rfl]
  cases c with
  | zero =>
    right
    have c0 : decide ((0 : Int) < ((0 : Nat) : Int)) = false := rfl
    simp (disch := omega) only [Try.f93, Option.getD_some, atC, es_seq, es_region, es_cond, es_exit, ops_nil, ops_cons, ops_consG, st_move, sy_pick, pickS_false, sy_bin, binS_gtr, bindO_some, bindF_some, bindX_normal, bindX_exit, condX_false, iteB_false, ev_tmp, ev_const, putA, upd_at, ↓reduceIte, Nat.reduceEqDiff, yieldO_eq, yO, yV_bool, some_true, List.getElem?_cons_zero, List.getElem?_cons_succ, ↓bindO_some, ↓bindF_some, ↓bindX_normal, ↓bindX_exit, ↓condX_false, ↓iteB_false, h5, c0]
    exact ⟨_, _, _, rfl, by simp, rfl, rfl, h0, 0, h5, hc, by rw [← ht]; rfl⟩
  | succ d =>
    have c0 : (0 : Int) < ((d + 1 : Nat) : Int) := by omega
    have e2 : IntKind.i64.wrap (((d + 1 : Nat) : Int) - 1) = (d : Int) := by rw [wr64 (by omega) (by omega)]; omega
    have hx := take_snoc' (l := q) (c := d) (by omega)
    rw [hx, trimL_snoc] at ht
    by_cases hy : q.getD d 0 = 0
    · left
      rw [if_pos hy] at ht
      have c1 : decide (q.getD d 0 = 0) = true := decide_eq_true hy
      simp (disch := omega) only [Try.f93, Option.getD_some, atC, es_seq, es_region, es_cond, es_block, es_skip, ops_nil, ops_cons, ops_consG, st_move, st_assign, sy_pick, pickS_true, sy_addr eL, sy_load aI, sy_bin, binS_gtr, binS_eql, binS_sub, bindO_some, bindF_some, bindX_normal, blkX_normal, condX_true, iteB_true, ev_tmp, ev_const, putA, upd_at, Option.map_some, ↓reduceIte, Nat.reduceEqDiff, Int.toNat_natCast, decide_true, yieldO_eq, yO, yV_bool, List.getElem?_cons_zero, List.getElem?_cons_succ, beq_self_eq_true, ↓bindO_some, ↓bindF_some, ↓bindX_normal, ↓condX_true, ↓iteB_true, h0, h5, c0, e2, hv.addrI, hv.loadI, c1]
      exact ⟨_, _, rfl, d, by omega, rfl, h0, rfl, by omega, ht⟩
    · right
      rw [if_neg hy] at ht
      have c1 : decide (q.getD d 0 = 0) = false := decide_eq_false hy
      simp (disch := omega) only [Try.f93, Option.getD_some, atC, es_seq, es_region, es_cond, es_exit, ops_nil, ops_cons, ops_consG, st_move, sy_pick, pickS_true, sy_addr eL, sy_load aI, sy_bin, binS_gtr, binS_eql, binS_sub, bindO_some, bindF_some, bindX_normal, bindX_exit, condX_false, iteB_true, ev_tmp, ev_const, putA, upd_at, Option.map_some, ↓reduceIte, Nat.reduceEqDiff, Int.toNat_natCast, decide_true, yieldO_eq, yO, yV_bool, List.getElem?_cons_zero, List.getElem?_cons_succ, beq_self_eq_true, ↓bindO_some, ↓bindF_some, ↓bindX_normal, ↓bindX_exit, ↓condX_false, ↓iteB_true, h0, h5, c0, e2, hv.addrI, hv.loadI, c1]
      exact ⟨_, _, _, rfl, by simp, rfl, rfl, h0, d + 1, h5, hc, by rw [hx]; exact ht⟩
theorem shrunk_run {H : Heap} {v : Value} {q : List Int} (hw : WF H) (hv : R H v (ints q)) (hl : q.length ≤ 1000) (n : Nat) (hn : 1020 ≤ n) :
    (OkL q → OneT H (evB Try.prog noC n (.func (.func 93) #[] #[]) [v] H) (fun u => .tuple #[u, .bool true]) (trimL q)) ∧ (¬ OkL q → evB Try.prog noC n (.func (.func 93) #[] #[]) [v] H = some (.tuple #[.slice none 0 0, .bool false], H)) := by
  refine run_of (F := 1019) (Q := fun r => (OkL q → OneT H r (fun u => .tuple #[u, .bool true]) (trimL q)) ∧ (¬ OkL q → r = some (.tuple #[.slice none 0 0, .bool false], H))) (fun n hn => ?_) n hn
  rw [body_runS Try.func93 rfl (ok_fn (by rfl) Try.func93 rfl) (Nat.le_of_ble_eq_true rfl) (D := D0) (by kernel_rfl)]
  have k1 := fun (A : Fr) => sh_one hv hl (evB Try.prog noC n) n Try.f93.ntmps (a := A) (k := n) (by omega)
  rw [show shA = atC [1, 0, 1, 0, 0] ((Try.f93.body).getD .skip) from rfl] at k1
  have k2 := fun (A : Fr) => sh_two hv hl (evB Try.prog noC n) n Try.f93.ntmps (a := A) (k := n) (by omega)
  rw [show shB = atC [1, 1, 1, 0, 0, 0] ((Try.f93.body).getD .skip) from rfl] at k2
  simp only [Try.f93, Option.getD_some, atC] at k1 k2
  simp (disch := omega) only [Try.f93, es_seq, es_region, es_block, es_loop, es_ret, ops_nil, ops_cons, st_move, st_assign, st_fun, sy_len uL, sy_slice eL, bindO_some, bindF_some, bindX_normal, ev_tmp, ev_const, ev_func, putA, upd_at, Option.map_some, ↓reduceIte, Nat.reduceEqDiff, List.map_cons, List.map_nil, ↓bindO_some, ↓bindF_some, ↓bindX_normal]
  generalize hA : upd _ 4 _ = A
  obtain ⟨r, a', H', ev, hH, h⟩ := k1 A (by subst hA; rfl) (by subst hA; rfl)
  subst hH
  rw [ev]
  clear ev k1
  rcases h with ⟨rfl, g0, hok⟩ | ⟨rfl, g2, g3, hno⟩
  · simp (disch := omega) only [bindO_some, bindF_some, bindX_normal, blkX_exit, Option.map_some, ↓reduceIte, ↓bindO_some, ↓bindF_some, ↓bindX_normal, g0, hv.lenI]
    generalize hB : upd _ 5 _ = A2
    obtain ⟨r, a2, H2, ev, hH, hr, i0, c, i5, hc, ht⟩ := k2 A2 (by subst hB; exact g0) (by subst hB; rfl)
    subst hH
    subst hr
    rw [ev]
    obtain ⟨vs, s1, r1⟩ := hv.upto hc
    obtain ⟨vr, H3, s2, o2, old2, wf2⟩ := copy_run hw r1 (by rw [List.length_take]; omega) n (by omega)
    simp (disch := omega) only [bindO_some, bindF_some, bindX_normal, blkX_exit, upd_at, Option.map_some, ↓reduceIte, Nat.reduceEqDiff, ↓bindO_some, ↓bindF_some, ↓bindX_normal, fin_r, res_nil, res_tmp, pack_2, scal_bool, i0, i5, Option.map_none, s1, s2, o2.R.scal]
    exact ⟨fun _ => ⟨_, _, rfl, by rw [← ht]; exact o2, old2, wf2⟩, fun h => absurd hok h⟩
  · simp (disch := omega) only [bindX_ret, blkX_ret, Option.map_some, ↓bindX_ret, fin_r, res_nil, res_tmp, pack_2, scal_bool, scal_nil, g2, g3]
    exact ⟨fun h => absurd h hno, fun _ => by trivial⟩
/- The rows while they are taken. -/
def qs (l : List Int) (i j : Nat) (r : Nat) : Int := if i ≤ r ∧ r < j then l.getD (r + 1) 0 - 1 else l.getD r 0
def qsL (l : List Int) (i j : Nat) : List Int := (List.range l.length).map (qs l i j)
theorem qsL_0 (l : List Int) (i : Nat) : qsL l i i = l := by
  unfold qsL
  apply List.ext_getElem
  · simp
  · intro r h1 h2
    rw [List.getElem_map, List.getElem_range]
    unfold qs
    rw [if_neg (by omega), List.getD_eq_getElem?_getD, List.getElem?_eq_getElem h2]; rfl
theorem qsL_set {l : List Int} {i j : Nat} (h : i ≤ j) : (qsL l i j).set j (l.getD (j + 1) 0 - 1) = qsL l i (j + 1) := by
  unfold qsL
  rw [map_range_set]
  congr 1
  funext r
  unfold qs
  by_cases e : r = j
  · subst e; rw [if_pos rfl, if_pos (by omega)]
  · rw [if_neg e]
    by_cases c : i ≤ r ∧ r < j
    · rw [if_pos c, if_pos (by omega)]
    · rw [if_neg c, if_neg (by omega)]
theorem qsL_pf {l : List Int} {i J : Nat} {t x : Int} (h : i ≤ J) (hx : x = t - (l.length - 1 - J)) : (qsL l i J).set J x = pfL l i J t := by
  unfold qsL pfL
  rw [map_range_set]
  congr 1
  funext r
  unfold qs
  by_cases e : r = J
  · subst e; rw [if_pos rfl, pf_at h, hx]
  · rw [if_neg e]
    by_cases c1 : r < i
    · rw [if_neg (by omega), pf_lo c1]
    · by_cases c2 : r < J
      · rw [if_pos (by omega), pf_mid (by omega) c2]
      · rw [if_neg (by omega), pf_hi h (by omega)]
noncomputable def rrC : Code := atC [1, 1, 0, 1, 0, 0, 1, 0, 0, 1, 0, 0, 1, 0, 0, 1, 1, 0, 1, 0, 0] ((Try.f51.body).getD .skip)
theorem rr_in {B0 : Nat} {H : Heap} {v vq : Value} {l : List Int} (hp : Part l) {i h : Nat} (hi : i + h < l.length) (hv : ∀ G, Old B0 H G → R G v (ints l)) (hw : WF H) (ho : O B0 H vq (ints l)) (call : CallF) (m nt : Nat) {a0 : Fr} {k : Nat} (hk : 30 ≤ k) (h0 : a0 0 = v) (h6 : a0 6 = vi i) (h7 : a0 7 = vi h) (h8 : a0 8 = vq) (h9 : a0 9 = vi 0) (h10 : a0 10 = vi i) :
    ∃ r a' H', loopN (evS Try.prog call m nt none rrC) k a0 H = some (r, a', H') ∧ r = .exit 4 ∧ Same [0, 1, 5, 6, 7, 8] a0 a' ∧ a' 9 = vi (tkn l i h) ∧ Old B0 H H' ∧ WF H' ∧ O B0 H' vq (ints (qsL l i (i + h))) := by
  have hl := hp.len
  refine loop_up h (fun d a H' => Same [0, 1, 5, 6, 7, 8] a0 a ∧ a 9 = vi (tkn l i d) ∧ a 10 = vi ((i + d : Nat) : Int) ∧ Old B0 H H' ∧ WF H' ∧ O B0 H' vq (ints (qsL l i (i + d)))) _ ?_ ?_ (by omega) ⟨Same.refl _ _, by rw [h9]; unfold tkn; simp, h10, Old.refl _ _, hw, by rw [Nat.add_zero, qsL_0]; exact ho⟩
  · intro d a H' hd ⟨hs, h9, h10, old, hw, ho⟩
    left
    rw [show rrC = atC [1, 1, 0, 1, 0, 0, 1, 0, 0, 1, 0, 0, 1, 0, 0, 1, 1, 0, 1, 0, 0] ((Try.f51.body).getD .skip) from rfl]
    have g0 := (hs 0 (by decide)).trans h0
    have g6 := (hs 6 (by decide)).trans h6
    have g7 := (hs 7 (by decide)).trans h7
    have g8 := (hs 8 (by decide)).trans h8
    have hv' := hv H' old
    have m1 := hp.getD (show i < l.length by omega)
    have m2 := hp.getD (show i + d < l.length by omega)
    have m3 := hp.getD (show i + d + 1 < l.length by omega)
    have hlen : (qsL l i (i + d)).length = l.length := by unfold qsL; simp
    have hlen2 : (qsL l i (i + d + 1)).length = l.length := by unfold qsL; simp
    have e0 : IntKind.i64.wrap ((i : Int) + (h : Int)) = ((i + h : Nat) : Int) := by rw [wr64 (by omega) (by omega)]; omega
    have c1 : ((i + d : Nat) : Int) < ((i + h : Nat) : Int) := by omega
    have e1 : IntKind.i64.wrap (((i + d : Nat) : Int) + 1) = ((i + d + 1 : Nat) : Int) := by rw [wr64 (by omega) (by omega)]; omega
    have a1 : addrS 1 v (vi ((i + d + 1 : Nat) : Int)) = some (pt v (i + d + 1)) := by have := hv'.addrI (i := ((i + d + 1 : Nat) : Int)) (by omega) (by omega); rwa [Int.toNat_natCast] at this
    have l1 : loadS (pt v (i + d + 1)) H' = some (vi (l.getD (i + d + 1) 0)) := hv'.loadI (by omega)
    have e2 : IntKind.i64.wrap (l.getD (i + d + 1) 0 - 1) = l.getD (i + d + 1) 0 - 1 := wr64 (by omega) (by omega)
    have a2 : addrS 1 vq (vi ((i + d : Nat) : Int)) = some (pt vq (i + d)) := by have := ho.R.addrI (i := ((i + d : Nat) : Int)) (by omega) (by omega); rwa [Int.toNat_natCast] at this
    obtain ⟨H2, s2, o2, old2, wf2⟩ := ho.setI hw (i := i + d) (by omega) (l.getD (i + d + 1) 0 - 1)
    rw [qsL_set (by omega)] at o2
    have hv2 := hv H2 (old.trans old2)
    have a3 : addrS 1 v (vi ((i + d : Nat) : Int)) = some (pt v (i + d)) := by have := hv2.addrI (i := ((i + d : Nat) : Int)) (by omega) (by omega); rwa [Int.toNat_natCast] at this
    have l3 : loadS (pt v (i + d)) H2 = some (vi (l.getD (i + d) 0)) := hv2.loadI (by omega)
    have l4 : loadS (pt vq (i + d)) H2 = some (vi (l.getD (i + d + 1) 0 - 1)) := by
      rw [o2.R.loadI (by omega)]
      unfold qsL
      rw [map_range_getD _ (by omega)]
      unfold qs
      rw [if_pos (by omega)]
    have tk : tkn l i d = l.getD i 0 - l.getD (i + d) 0 + d := rfl
    have tk2 : tkn l i (d + 1) = l.getD i 0 - l.getD (i + d + 1) 0 + ((d + 1 : Nat) : Int) := rfl
    have e3 : IntKind.i64.wrap (tkn l i d + l.getD (i + d) 0) = tkn l i d + l.getD (i + d) 0 := wr64 (by omega) (by omega)
    have e4 : IntKind.i64.wrap (tkn l i d + l.getD (i + d) 0 - (l.getD (i + d + 1) 0 - 1)) = tkn l i (d + 1) := by rw [wr64 (by omega) (by omega)]; omega
    simp (disch := omega) only [Try.f51, Option.getD_some, atC, es_seq, es_region, es_draw, d0, es_cond, es_block, es_skip, ops_nil, ops_cons, opsV_nil, opsV_cons, st_move, st_assign, sy_addr eL, sy_load aI, sy_store zI, sy_bin, binS_lss, binS_add, binS_sub, bindO_some, bindF_some, bindX_normal, blkX_normal, condX_true, iteB_true, iteB_false, ev_tmp, ev_const, putA, upd_at, Option.map_some, ↓reduceIte, Nat.reduceEqDiff, decide_true, ↓bindO_some, ↓bindF_some, ↓bindX_normal, ↓condX_true, ↓iteB_true, ↓iteB_false, reflV_load, reflV_move, reflV_assign, reflV_bin, reflV_addr, vEq_vi, g0, g6, g7, g8, h9, h10, e0, c1, e1, a1, l1, e2, a2, s2, a3, l3, l4, e3, e4]
    exact ⟨_, _, rfl, (by
      repeat refine Same.upd ?_ (by decide) _
      exact hs), rfl, by simp only [upd_at, ↓reduceIte]; rfl, old.trans old2, wf2, o2⟩
  · intro a H' ⟨hs, h9, h10, old, hw, ho⟩
    rw [show rrC = atC [1, 1, 0, 1, 0, 0, 1, 0, 0, 1, 0, 0, 1, 0, 0, 1, 1, 0, 1, 0, 0] ((Try.f51.body).getD .skip) from rfl]
    have g6 := (hs 6 (by decide)).trans h6
    have g7 := (hs 7 (by decide)).trans h7
    have e0 : IntKind.i64.wrap ((i : Int) + (h : Int)) = ((i + h : Nat) : Int) := by rw [wr64 (by omega) (by omega)]; omega
    simp (disch := omega) only [Try.f51, Option.getD_some, atC, es_seq, es_region, es_cond, es_exit, ops_nil, ops_cons, st_move, sy_bin, binS_lss, binS_add, bindO_some, bindF_some, bindX_normal, bindX_exit, condX_false, ev_tmp, putA, upd_at, ↓reduceIte, Nat.reduceEqDiff, decide_false, ↓bindO_some, ↓bindF_some, ↓bindX_normal, ↓bindX_exit, ↓condX_false, g6, g7, h10, e0, Int.lt_irrefl]
    exact ⟨_, _, _, rfl, by simp, rfl, (by
      repeat refine Same.upd ?_ (by decide) _
      exact hs), h9, old, hw, ho⟩
end Go.Proofs.Ytmmgdgmjkhcfaaa
