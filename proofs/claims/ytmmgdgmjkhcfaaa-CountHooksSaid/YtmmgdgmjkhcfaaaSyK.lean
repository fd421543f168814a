/- Integers of the program: products. -/
import Derived.Test.YtmmgdgmjkhcfaaaSyH
set_option linter.all false
namespace Go.Proofs.Ytmmgdgmjkhcfaaa
open Go Go.Abs Go.Num
set_option maxRecDepth 10000
attribute [local congr] bindO_congr bindF_congr bindX_congr condX_congr iteB_congr binS_congr pickS_congr eqB_congr nilS_congr clsW_congr
noncomputable def timA : Code := atC [1, 1, 1, 0, 1, 0, 0] ((Try.f88.body).getD .skip)
noncomputable def timB : Code := atC [1, 1, 1, 0, 1, 0, 0, 1, 1, 0, 0, 1, 1, 0, 1, 0, 0] ((Try.f88.body).getD .skip)
theorem app_getD {l z : List Int} {j : Nat} (h : j < l.length) : (l ++ z).getD j 0 = l.getD j 0 := by
  rw [List.getD_eq_getElem?_getD, List.getD_eq_getElem?_getD, List.getElem?_append_left h]
theorem app_set {l z : List Int} {j : Nat} (h : j < l.length) (x : Int) : (l ++ z).set j x = l.set j x ++ z := List.set_append_left _ _ h
theorem tim_inner {B0 : Nat} {H : Heap} {vb vo : Value} {w q : Int} {i : Nat} {lo z : List Int} (hb : ∀ G, Old B0 H G → R G vb (ints (nf w))) (w0 : 0 ≤ w) (lw : (nf w).length ≤ 400) (hq : 0 ≤ q ∧ q < 100000000) (ho : O B0 H vo (ints (lo ++ z))) (hlo : lo.length = i + (nf w).length) (hd : Dg lo) (hi : i ≤ 400) (hw : WF H) (call : CallF) (m nt : Nat) {a : Fr} {k : Nat} (hk : (nf w).length < k)
    (h5 : a 5 = vo) (h6 : a 6 = vi i) (h7 : a 7 = vi q) (h8 : a 8 = vi 0) (h40 : a 40 = vb) (h41 : a 41 = vi (nf w).length) (h42 : a 42 = vi (0 : Nat)) {v2 v3 v4 v32 v33 v34 : Value} (h2 : a 2 = v2) (h3 : a 3 = v3) (h4 : a 4 = v4) (h32 : a 32 = v32) (h33 : a 33 = v33) (h34 : a 34 = v34) :
    ∃ r a' H', loopN (evT Try.prog call m nt none D1 timB) k a H = some (r, a', H') ∧ r = .exit 2 ∧ (a' 5 = vo ∧ a' 6 = vi i ∧ a' 2 = v2 ∧ a' 3 = v3 ∧ a' 4 = v4 ∧ a' 32 = v32 ∧ a' 33 = v33 ∧ a' 34 = v34) ∧ Old B0 H H' ∧ WF H' ∧ ∃ lo' c, a' 8 = vi c ∧ O B0 H' vo (ints (lo' ++ z)) ∧ lo'.length = lo.length ∧ Dg lo' ∧ 0 ≤ c ∧ c < 100000000 ∧ val lo' + B ^ (i + (nf w).length) * c = val lo + B ^ i * (q * w) := by
  refine loop_up (nf w).length (fun j a H' => (a 5 = vo ∧ a 6 = vi i ∧ a 2 = v2 ∧ a 3 = v3 ∧ a 4 = v4 ∧ a 32 = v32 ∧ a 33 = v33 ∧ a 34 = v34) ∧ a 7 = vi q ∧ a 40 = vb ∧ a 41 = vi (nf w).length ∧ a 42 = vi j ∧ Old B0 H H' ∧ WF H' ∧ ∃ lo' c, a 8 = vi c ∧ O B0 H' vo (ints (lo' ++ z)) ∧ lo'.length = lo.length ∧ Dg lo' ∧ 0 ≤ c ∧ c < 100000000 ∧ val lo' + B ^ (i + j) * c = val lo + B ^ i * (q * val ((nf w).take j))) _ ?_ ?_ hk
    ⟨⟨h5, h6, h2, h3, h4, h32, h33, h34⟩, h7, h40, h41, h42, Old.refl _ _, hw, lo, 0, h8, ho, rfl, hd, by omega, by omega, by simp [val]⟩
  · intro j a H' hj ⟨⟨h5, h6, h2, h3, h4, h32, h33, h34⟩, h7, h40, h41, h42, old, hw, lo', c, h8, ho, hl, hd, c0, c1, hval⟩
    left
    rw [show timB = atC [1, 1, 1, 0, 1, 0, 0, 1, 1, 0, 0, 1, 1, 0, 1, 0, 0] ((Try.f88.body).getD .skip) from rfl]
    have hm := (nf_dg w0).getD j
    have hx := hd.getD (i + j)
    have hp := prod_le hq hm
    have hrb := hb H' old
    have hro := ho.R
    have hjl : i + j < lo'.length := by omega
    have hlt : (j : Int) < (nf w).length := by omega
    have e0 : IntKind.i64.wrap ((i : Int) + (j : Int)) = ((i + j : Nat) : Int) := by rw [wr64 (by omega) (by omega)]; omega
    have a1 : addrS 1 vo (vi ((i + j : Nat) : Int)) = some (pt vo (i + j)) := by have := hro.addrI (i := ((i + j : Nat) : Int)) (by omega) (by rw [List.length_append]; omega); rwa [Int.toNat_natCast] at this
    have l1 : loadS (pt vo (i + j)) H' = some (vi (lo'.getD (i + j) 0)) := by rw [hro.loadI (by rw [List.length_append]; omega), app_getD hjl]
    have e1 : IntKind.i64.wrap (q * (nf w).getD j 0) = q * (nf w).getD j 0 := wr64 (by omega) (by omega)
    have e2 : IntKind.i64.wrap (lo'.getD (i + j) 0 + q * (nf w).getD j 0) = lo'.getD (i + j) 0 + q * (nf w).getD j 0 := wr64 (by omega) (by omega)
    have e3 : IntKind.i64.wrap (lo'.getD (i + j) 0 + q * (nf w).getD j 0 + c) = lo'.getD (i + j) 0 + q * (nf w).getD j 0 + c := wr64 (by omega) (by omega)
    have e4 : (lo'.getD (i + j) 0 + q * (nf w).getD j 0 + c).tmod 100000000 = (lo'.getD (i + j) 0 + q * (nf w).getD j 0 + c) % 100000000 := tmod_pos (by omega) _
    have e5 : (lo'.getD (i + j) 0 + q * (nf w).getD j 0 + c).tdiv 100000000 = (lo'.getD (i + j) 0 + q * (nf w).getD j 0 + c) / 100000000 := tdiv_pos (by omega) _
    have e6 : IntKind.i64.wrap ((lo'.getD (i + j) 0 + q * (nf w).getD j 0 + c) / 100000000) = (lo'.getD (i + j) 0 + q * (nf w).getD j 0 + c) / 100000000 := wr64 (by omega) (by omega)
    have e7 : IntKind.i64.wrap ((j : Int) + 1) = ((j + 1 : Nat) : Int) := by rw [wr64 (by omega) (by omega)]; omega
    obtain ⟨H2, s2, o2, old2, wf2⟩ := ho.setI hw (i := i + j) (by rw [List.length_append]; omega) ((lo'.getD (i + j) 0 + q * (nf w).getD j 0 + c) % 100000000)
    rw [app_set hjl] at o2
    simp (disch := omega) only [Try.f88, Option.getD_some, atC, es_seq, es_region, es_cond, es_block, es_skip, ops_nil, ops_cons, st_move, st_assign, sy_addr eL, sy_load aI, sy_store zI, sy_bin, binS_lss, binS_add, binS_mul, binS_quo, binS_rem, bindO_some, bindF_some, bindX_normal, blkX_normal, condX_true, ev_tmp, ev_const, putA, upd_at, Option.map_some, ↓reduceIte, Nat.reduceEqDiff, Int.toNat_natCast, decide_true, ↓bindO_some, ↓bindF_some, ↓bindX_normal, ↓condX_true, h5, h6, h7, h8, h40, h41, h42, hlt, hrb.addrI, hrb.loadI, e0, a1, l1, e1, e2, e3, e4, e5, e6, s2, e7]
    refine ⟨_, _, rfl, ⟨h5, h6, h2, h3, h4, h32, h33, h34⟩, h7, h40, h41, rfl, old.trans old2, wf2, _, (lo'.getD (i + j) 0 + q * (nf w).getD j 0 + c) / 100000000, rfl, o2, by rw [List.length_set]; exact hl, hd.set _ (by omega) (by omega), by omega, by omega, ?_⟩
    rw [show i + (j + 1) = i + j + 1 from rfl, times_step hjl, hval, val_take_succ, Int.mul_add, Int.mul_add, Int.pow_add, Int.mul_left_comm q (B ^ j), Int.mul_assoc (B ^ i) (B ^ j)]
    omega
  · intro a H' ⟨hs, h7, h40, h41, h42, old, hw, lo', c, h8, ho, hl, hd, c0, c1, hval⟩
    rw [show timB = atC [1, 1, 1, 0, 1, 0, 0, 1, 1, 0, 0, 1, 1, 0, 1, 0, 0] ((Try.f88.body).getD .skip) from rfl]
    simp (disch := omega) only [Try.f88, Option.getD_some, atC, es_seq, es_region, es_cond, es_exit, ops_nil, ops_cons, sy_bin, binS_lss, bindO_some, bindF_some, bindX_normal, bindX_exit, condX_false, ev_tmp, putA, upd_at, ↓reduceIte, decide_false, ↓bindO_some, ↓bindF_some, ↓bindX_normal, ↓bindX_exit, ↓condX_false, h41, h42, Int.lt_irrefl]
    exact ⟨_, _, _, rfl, by simp, rfl, by simpa only [upd_at, ↓reduceIte, Nat.reduceEqDiff] using hs, old, hw, lo', c, h8, ho, hl, hd, c0, c1, by rw [hval, List.take_length, nf_val]⟩
theorem repl_snoc (l : List Int) (c : Int) {n : Nat} (h : 0 < n) : (l ++ List.replicate n 0).set l.length c = (l ++ [c]) ++ List.replicate (n - 1) 0 := by
  rw [List.set_append_right _ _ (Nat.le_refl _), Nat.sub_self, List.append_assoc]
  obtain ⟨m, rfl⟩ : ∃ m, n = m + 1 := ⟨n - 1, by omega⟩
  rw [List.replicate_succ]; rfl
theorem tim_outer {B0 : Nat} {H : Heap} {va vb vo p2 p3 p4 q3 : Value} {u w : Int} (hB : B0 ≤ H.length) (f31 : faddrS 1 p3 = some q3) (l31 : ∀ G, Old B0 H G → loadS q3 G = some vb) (ha : ∀ G, Old B0 H G → R G va (ints (nf u))) (hb : ∀ G, Old B0 H G → R G vb (ints (nf w))) (u0 : 0 ≤ u) (w0 : 0 ≤ w) (lu : (nf u).length ≤ 400) (lw : (nf w).length ≤ 400) (ho : O B0 H vo (ints (List.replicate ((nf w).length + (nf u).length) 0))) (hw : WF H) (call : CallF) (m nt : Nat) (hm : 1000 ≤ m) {a : Fr} {k : Nat} (hk : (nf u).length < k)
    (h2 : a 2 = p2) (h3 : a 3 = p3) (h4 : a 4 = p4) (h5 : a 5 = vo) (h32 : a 32 = va) (h33 : a 33 = vi (nf u).length) (h34 : a 34 = vi (0 : Nat)) :
    ∃ r a' H', loopN (evT Try.prog call m nt none D1 timA) k a H = some (r, a', H') ∧ r = .exit 0 ∧ a' 2 = p2 ∧ a' 3 = p3 ∧ a' 4 = p4 ∧ a' 5 = vo ∧ Old B0 H H' ∧ WF H' ∧ ∃ lo, O B0 H' vo (ints lo) ∧ Dg lo ∧ lo.length = (nf u).length + (nf w).length ∧ val lo = u * w := by
  refine loop_up (nf u).length (fun i a H' => a 2 = p2 ∧ a 3 = p3 ∧ a 4 = p4 ∧ a 5 = vo ∧ a 32 = va ∧ a 33 = vi (nf u).length ∧ a 34 = vi i ∧ Old B0 H H' ∧ WF H' ∧ ∃ lo, O B0 H' vo (ints (lo ++ List.replicate ((nf u).length - i) 0)) ∧ lo.length = i + (nf w).length ∧ Dg lo ∧ val lo = val ((nf u).take i) * w) _ ?_ ?_ hk
    ⟨h2, h3, h4, h5, h32, h33, h34, Old.refl _ _, hw, List.replicate (nf w).length 0, by rw [Nat.sub_zero, List.replicate_append_replicate]; exact ho, by simp, fun x hx => by have := List.eq_of_mem_replicate hx; subst this; unfold B; omega, by simp [val, val_zeros]⟩
  · intro i a H' hi ⟨h2, h3, h4, h5, h32, h33, h34, old, hw, lo, ho, hl, hd, hval⟩
    left
    rw [show timA = atC [1, 1, 1, 0, 1, 0, 0] ((Try.f88.body).getD .skip) from rfl]
    have hlt : (i : Int) < (nf u).length := by omega
    have hra := ha H' old
    have hrb := hb H' old
    have ld1 := l31 H' old
    have hq := (nf_dg u0).getD i
    have key := fun (A : Fr) => tim_inner (fun G hG => hb G (old.trans hG)) w0 lw hq ho (by omega) hd (by omega) hw call m nt (a := A) (k := m) (by omega)
    rw [show timB = atC [1, 1, 1, 0, 1, 0, 0, 1, 1, 0, 0, 1, 1, 0, 1, 0, 0] ((Try.f88.body).getD .skip) from rfl] at key
    simp only [Try.f88, Option.getD_some, atC] at key
    have e1 : IntKind.i64.wrap ((i : Int) + ((nf w).length : Int)) = ((i + (nf w).length : Nat) : Int) := by rw [wr64 (by omega) (by omega)]; omega
    have e2 : IntKind.i64.wrap ((i : Int) + 1) = ((i + 1 : Nat) : Int) := by rw [wr64 (by omega) (by omega)]; omega
    simp (disch := omega) only [Try.f88, Option.getD_some, atC, es_seq, es_region, es_cond, es_block, es_loop, es_skip, ops_nil, ops_cons, st_move, st_assign, sy_len uL, sy_addr eL, sy_load aI, sy_store zI, sy_bin, binS_lss, bindO_some, bindF_some, bindX_normal, condX_true, ev_tmp, ev_const, putA, upd_at, Option.map_some, ↓reduceIte, Nat.reduceEqDiff, Int.toNat_natCast, decide_true, ↓bindO_some, ↓bindF_some, ↓bindX_normal, ↓condX_true, sy_load aL, sy_faddr fW1, h3, h32, h33, h34, hlt, f31, ld1, hra.addrI, hra.loadI, hrb.lenI]
    generalize hA : upd _ 42 _ = A
    obtain ⟨r, a', H2, e, hr, ⟨g5, g6, g2, g3, g4, g32, g33, g34⟩, old2, wf2, lo', c, g8, ho', hl', hd', c0, c1, hval'⟩ := key A (by subst hA; exact h5) (by subst hA; rfl) (by subst hA; rfl) (by subst hA; rfl) (by subst hA; rfl) (by subst hA; rfl) (by subst hA; rfl) (by subst hA; exact h2) (by subst hA; exact h3) (by subst hA; exact h4) (by subst hA; exact h32) (by subst hA; exact h33) (by subst hA; exact h34)
    subst hr
    rw [e]
    clear e key
    have ld2 := l31 H2 (old.trans old2)
    have hrb2 := hb H2 (old.trans old2)
    have ro := ho'.R
    have a1 : addrS 1 vo (vi ((i + (nf w).length : Nat) : Int)) = some (pt vo (i + (nf w).length)) := by have := ro.addrI (i := ((i + (nf w).length : Nat) : Int)) (by omega) (by rw [List.length_append, List.length_replicate]; omega); rwa [Int.toNat_natCast] at this
    obtain ⟨H3, s3, o3, old3, wf3⟩ := ho'.setI wf2 (i := i + (nf w).length) (by rw [List.length_append, List.length_replicate]; omega) c
    rw [show i + (nf w).length = lo'.length from by omega, repl_snoc _ _ (by omega)] at o3
    simp (disch := omega) only [binS_add, bindO_some, bindF_some, bindX_normal, blkX_normal, blkX_exit, upd_at, Option.map_some, ↓reduceIte, Nat.reduceEqDiff, ↓bindO_some, ↓bindF_some, ↓bindX_normal, g3, g5, g6, g8, g34, f31, ld2, hrb2.lenI, e1, a1, s3, e2]
    refine ⟨_, _, rfl, g2, g3, g4, g5, g32, g33, rfl, (old.trans old2).trans old3, wf3, lo' ++ [c], by rw [show (nf u).length - (i + 1) = (nf u).length - i - 1 from by omega]; exact o3, by rw [List.length_append, List.length_singleton]; omega, hd'.app (Dg.one c0 c1), ?_⟩
    rw [val_snoc, hl', hl, hval', hval, val_take_succ, Int.add_mul, Int.mul_assoc]
  · intro a H' ⟨h2, h3, h4, h5, h32, h33, h34, old, hw, lo, ho, hl, hd, hval⟩
    rw [show timA = atC [1, 1, 1, 0, 1, 0, 0] ((Try.f88.body).getD .skip) from rfl]
    simp (disch := omega) only [Try.f88, Option.getD_some, atC, es_seq, es_region, es_cond, es_exit, ops_nil, ops_cons, sy_bin, binS_lss, bindO_some, bindF_some, bindX_normal, bindX_exit, condX_false, ev_tmp, putA, upd_at, ↓reduceIte, decide_false, ↓bindO_some, ↓bindF_some, ↓bindX_normal, ↓bindX_exit, ↓condX_false, h33, h34, Int.lt_irrefl]
    rw [Nat.sub_self, List.replicate_zero, List.append_nil] at ho
    exact ⟨_, _, _, rfl, by simp, rfl, h2, h3, h4, h5, old, hw, lo, ho, hd, hl, by rw [hval, List.take_length, nf_val]⟩
theorem tim_r16 {H H6 : Heap} {px py p4 vo d : Value} {nx ny : Bool} (call : CallF) (k nt : Nat) (rd : Option Nat) {a : Fr} {q0 q1 : Value} (h2 : a 2 = px) (h3 : a 3 = py) (h4 : a 4 = p4) (h5 : a 5 = vo) (f0 : faddrS 0 px = some q0) (f1 : faddrS 0 py = some q1)
    (l0 : ∀ G, G = H ∨ G = H6 → loadS q0 G = some (.bool nx)) (l1 : ∀ G, G = H ∨ G = H6 → loadS q1 G = some (.bool ny))
    (s1 : call (.func (.func 114) #[] #[]) [vo] H = some (d, H)) (sd : Abs.scal d = some [d]) (s3 : storeN 2 p4 (.agg #[.bool (!(nx == ny)), d]) H = some H6) :
    ∃ a' H', evT Try.prog call k nt rd D1 (atC [1, 1, 1, 1, 0] ((Try.f88.body).getD .skip)) a H = some (.normal, a', H') ∧ H' = H6 ∧ a' 4 = p4 := by
  simp only [Try.f88, Option.getD_some, atC]
  refine et_from (fun a' H' => H' = H6 ∧ a' 4 = p4) ?_
  have e0 := l0 H (.inl rfl)
  have e1 := l1 H (.inl rfl)
  simp (disch := omega) only [st_move, st_fun, bindO_some, ev_tmp, ev_func, putA, upd_at, Option.map_some, ↓reduceIte, Nat.reduceEqDiff, List.map_cons, List.map_nil, ↓bindO_some, sy_load aB, sy_faddr fW0, sy_storeN zW, sy_build, sy_ne nB, eqB_bool, Bool.true_xor, opsW_nil, opsW_cons, clsW_eff, clsW_read, clsW_pure, ↓clsW_eff, ↓clsW_read, ↓clsW_pure, cls_move, cls_bin, cls_load, cls_callF, cls_store, cls_faddr, cls_build, h2, h3, h4, h5, f0, f1, e0, e1, s1, bW2 (!(nx == ny)) d sd, s3]
  refine ⟨_, rfl, ?_, rfl, ?_⟩
  · intro G hG r hr
    simp only [List.mem_cons, List.not_mem_nil, or_false] at hG hr
    have hG' : G = H ∨ G = H6 := by
      rcases hG with h | h | h
      · exact .inr h
      all_goals exact .inl h
    have e0 := l0 G hG'
    have e1 := l1 G hG'
    rcases hr with rfl | rfl
    all_goals simp only [still_ld aB, ev_tmp, upd_at, ↓reduceIte, vEq_bool, e0, e1]
  · simp only [upd_at, ↓reduceIte, Nat.reduceEqDiff, h4]
theorem mul_sign {x y : Int} {nx ny : Bool} (hx : decide (x < 0) = nx) (hy : decide (y < 0) = ny) (h1 : x ≠ 0) (h2 : y ≠ 0) : decide (x * y < 0) = !(nx == ny) := by
  subst hx; subst hy
  rcases Int.lt_or_gt_of_ne h1 with a | a <;> rcases Int.lt_or_gt_of_ne h2 with b | b
  · have := Int.mul_pos_of_neg_of_neg a b
    simp [a, b]; omega
  · have := Int.mul_neg_of_neg_of_pos a b
    have c : ¬ y < 0 := by omega
    simp [a, c, this]
  · have := Int.mul_neg_of_pos_of_neg a b
    have c : ¬ x < 0 := by omega
    simp [b, c, this]
  · have := Int.mul_pos a b
    have c : ¬ x < 0 := by omega
    have d : ¬ y < 0 := by omega
    simp [c, d]; omega
theorem times_run {C : Nat} {H : Heap} {wx wy : Value} {x y : Int} (hw : WF H) (hx : Wh C H wx x) (hy : Wh C H wy y) (lx : (nf x.natAbs).length ≤ 390) (ly : (nf y.natAbs).length ≤ 390) (n : Nat) (hn : 2010 ≤ n) :
    OneW H (evB Try.prog noC n (.func (.func 88) #[] #[]) [wx, wy] H) (x * y) := by
  obtain ⟨vx, rfl, hx⟩ := hx
  obtain ⟨vy, rfl, hy⟩ := hy
  have hx := hx.R
  have hy := hy.R
  generalize hnx : decide (x < 0) = nx
  generalize hny : decide (y < 0) = ny
  refine run_of (F := 2009) (Q := fun r => OneW H r (x * y)) (fun n hn => ?_) n hn
  rw [body_runS Try.func88 rfl (ok_fn (by rfl) Try.func88 rfl) (Nat.le_of_ble_eq_true rfl) (D := D1) (by kernel_rfl)]
  have old1 := Old.app H [.cells H.length true [.bool nx, vx]]
  have wf1 := hw.app (Nat.le_refl H.length) (o := true) (cs := [.bool nx, vx])
  have b1 := BxM.made (B := H.length) (H := H) (Nat.le_refl _) [.bool nx, vx]
  generalize hH1 : H ++ [Blk.cells H.length true [.bool nx, vx]] = H1 at *
  have old2 := Old.app H1 [.cells H1.length true [.bool ny, vy]]
  have wf2 := wf1.app (Nat.le_refl H1.length) (o := true) (cs := [.bool ny, vy])
  have b2 := BxM.made (B := H1.length) (H := H1) (Nat.le_refl _) [.bool ny, vy]
  generalize hH2 : H1 ++ [Blk.cells H1.length true [.bool ny, vy]] = H2 at *
  have old3 := Old.app H2 [.cells H2.length true [.bool false, .slice none 0 0]]
  have wf3 := wf2.app (Nat.le_refl H2.length) (o := true) (cs := [.bool false, .slice none 0 0])
  have b3 := BxM.made (B := H2.length) (H := H2) (Nat.le_refl _) [.bool false, .slice none 0 0]
  generalize hH3 : H2 ++ [Blk.cells H2.length true [.bool false, .slice none 0 0]] = H3 at *
  have old13 := old2.trans (old3.mono old2.1)
  have old03 := old1.trans (old13.mono old1.1)
  have b1 := b1.mono old13
  have b2 := b2.mono old3
  have f10 := b1.faddr 0
  have f11 := b1.faddr 1
  have f20 := b2.faddr 0
  have f21 := b2.faddr 1
  have l11 : loadS (bx (ptrA H.length 0) 1) H3 = some vx := b1.load 1
  have l21 : loadS (bx (ptrA H1.length 0) 1) H3 = some vy := b2.load 1
  have hx3 := hx.mono old03
  have hy3 := hy.mono old03
  have hlx := hx.lenI
  have hly := hy.lenI
  -- the end: the box of the result
  have fin : ∀ (H4 : Heap) (v : Value) (nb : Bool) (z : Int), Old H3.length H3 H4 → WF H4 → RO H3.length H4 v (ints (nf z.natAbs)) → decide (z < 0) = nb → ∃ H5, storeN 2 (ptrA H2.length 0) (.agg #[.bool nb, v]) H4 = some H5 ∧ loadN 2 (ptrA H2.length 0) H5 = some (.agg #[.bool nb, v]) ∧ OneW H (some (.agg #[.bool nb, v], H5)) z ∧ Old H2.length H3 H5 := by
    intro H4 v nb z old4 wf4 r4 hz
    obtain ⟨H5, s5, b5, old5, wf5, keep5⟩ := (b3.mono old4).store wf4 (vs := [.bool nb, v]) rfl
    exact ⟨H5, s5, b5.loadAll, ⟨_, _, rfl, ⟨v, by rw [hz], (r4.kept keep5).below old03.1⟩, (old03.trans (old4.mono old03.1)).trans (old5.mono (Nat.le_trans old1.1 old2.1)), wf5⟩, (old4.mono old3.1).trans old5⟩
  by_cases hx0 : x = 0
  · have hz : x * y = 0 := by rw [hx0]; exact Int.zero_mul y
    have e0 : ((nf x.natAbs).length : Int) = 0 := by rw [hx0, show ((0 : Int).natAbs : Int) = 0 from rfl, nf_zero]; rfl
    have e1 : decide (((nf x.natAbs).length : Int) = 0) = true := by rw [e0]; rfl
    obtain ⟨H5, s5, s6, ow, _⟩ := fin H3 (.slice none 0 0) false (x * y) (Old.refl _ _) wf3 (by rw [hz, show ((0 : Int).natAbs : Int) = 0 from rfl, nf_zero]; exact .inl ⟨rfl, rfl⟩) (by rw [hz]; rfl)
    simp (disch := omega) only [Try.f88, es_seq, es_region, es_cond, es_ret, ops_nil, ops_cons, ops_consG, st_move, sy_pick, pickS_true, sy_len uL, sy_bin, binS_eql, bindO_some, bindF_some, bindX_normal, bindX_ret, condX_true, iteB_false, ev_tmp, ev_const, putA, upd_at, Option.map_some, ↓reduceIte, Nat.reduceEqDiff, frOf_0, frOf_1, List.map_nil, Bool.not_true, yieldO_eq, yO, yV_bool, some_false, List.getElem?_cons_zero, List.getElem?_cons_succ, ↓bindO_some, ↓bindF_some, ↓bindX_normal, ↓bindX_ret, ↓condX_true, ↓iteB_false, fin_r, res_nil, pack_1, sy_load aL, sy_faddr fW1, sy_storeN zW, sy_alloc iW scal_agg, sy_box, sy_build, bW0, res_cell aW zW, scal_agg, hH1, hH2, hH3, f11, l11, hlx, e1, s5, s6]
    exact ow
  · have ex : decide (((nf x.natAbs).length : Int) = 0) = false := decide_eq_false (by have := (nf_last (z := (x.natAbs : Int)) (by omega)).1; omega)
    by_cases hy0 : y = 0
    · have hz : x * y = 0 := by rw [hy0]; exact Int.mul_zero x
      have e0 : ((nf y.natAbs).length : Int) = 0 := by rw [hy0, show ((0 : Int).natAbs : Int) = 0 from rfl, nf_zero]; rfl
      have e1 : decide (((nf y.natAbs).length : Int) = 0) = true := by rw [e0]; rfl
      obtain ⟨H5, s5, s6, ow, _⟩ := fin H3 (.slice none 0 0) false (x * y) (Old.refl _ _) wf3 (by rw [hz, show ((0 : Int).natAbs : Int) = 0 from rfl, nf_zero]; exact .inl ⟨rfl, rfl⟩) (by rw [hz]; rfl)
      simp (disch := omega) only [Try.f88, es_seq, es_region, es_cond, es_ret, ops_nil, ops_cons, ops_consG, st_move, sy_pick, pickS_false, sy_len uL, sy_bin, binS_eql, bindO_some, bindF_some, bindX_normal, bindX_ret, condX_true, iteB_true, ev_tmp, ev_const, putA, upd_at, Option.map_some, ↓reduceIte, Nat.reduceEqDiff, frOf_0, frOf_1, List.map_nil, yieldO_eq, yO, yV_bool, List.getElem?_cons_zero, List.getElem?_cons_succ, beq_self_eq_true, ↓bindO_some, ↓bindF_some, ↓bindX_normal, ↓bindX_ret, ↓condX_true, ↓iteB_true, fin_r, res_nil, pack_1, sy_load aL, sy_faddr fW1, sy_storeN zW, sy_alloc iW scal_agg, sy_box, sy_build, bW0, res_cell aW zW, scal_agg, hH1, hH2, hH3, f11, f21, l11, l21, hlx, hly, ex, e1, s5, s6]
      exact ow
    · have ey : decide (((nf y.natAbs).length : Int) = 0) = false := decide_eq_false (by have := (nf_last (z := (y.natAbs : Int)) (by omega)).1; omega)
      have hsg := mul_sign hnx hny hx0 hy0
      have hab : ((x * y).natAbs : Int) = x.natAbs * y.natAbs := by rw [Int.natAbs_mul]; exact Int.natCast_mul ..
      have e1 : IntKind.i64.wrap (((nf x.natAbs).length : Int) + ((nf y.natAbs).length : Int)) = (((nf y.natAbs).length + (nf x.natAbs).length : Nat) : Int) := by rw [wr64 (by omega) (by omega)]; omega
      have c2 : (0 : Int) ≤ (((nf y.natAbs).length + (nf x.natAbs).length : Nat) : Int) := by omega
      have c3 : (((nf y.natAbs).length + (nf x.natAbs).length : Nat) : Int) ≤ 1048576 := by omega
      have hz := zeros_I ((nf y.natAbs).length + (nf x.natAbs).length)
      have hlr : (ints (List.replicate ((nf y.natAbs).length + (nf x.natAbs).length) (0 : Int))).length = (nf y.natAbs).length + (nf x.natAbs).length := by rw [ints_len, List.length_replicate]
      have or := O.made (B := H3.length) (Nat.le_refl H3.length) (ints (List.replicate ((nf y.natAbs).length + (nf x.natAbs).length) (0 : Int)))
      rw [hlr] at or
      have oldm := Old.app H3 [.cells H3.length true (ints (List.replicate ((nf y.natAbs).length + (nf x.natAbs).length) (0 : Int)))]
      have wfm := wf3.app (Nat.le_refl H3.length) (o := true) (cs := ints (List.replicate ((nf y.natAbs).length + (nf x.natAbs).length) (0 : Int)))
      have l11m : loadS (bx (ptrA H.length 0) 1) (H3 ++ [.cells H3.length true (ints (List.replicate ((nf y.natAbs).length + (nf x.natAbs).length) (0 : Int)))]) = some vx := (b1.mono (oldm.mono (by have := old2.1; have := old3.1; omega))).load 1
      have key := fun (A : Fr) => tim_outer (p2 := ptrA H.length 0) (p4 := ptrA H2.length 0) oldm.1 f21 (fun G hG => (b2.mono ((oldm.trans hG).mono old3.1)).load 1) (fun G hG => hx3.mono (oldm.trans hG)) (fun G hG => hy3.mono (oldm.trans hG)) (by omega) (by omega) (by omega) (by omega) or wfm (evB Try.prog noC n) n Try.f88.ntmps (by omega) (a := A) (k := n) (by omega)
      rw [show timA = atC [1, 1, 1, 0, 1, 0, 0] ((Try.f88.body).getD .skip) from rfl] at key
      have kr := fun (A : Fr) {G G' : Heap} {vo d : Value} => tim_r16 (H := G) (H6 := G') (px := ptrA H.length 0) (py := ptrA H1.length 0) (p4 := ptrA H2.length 0) (vo := vo) (d := d) (nx := nx) (ny := ny) (evB Try.prog noC n) n Try.f88.ntmps none (a := A) (q0 := bx (ptrA H.length 0) 0) (q1 := bx (ptrA H1.length 0) 0)
      simp only [Try.f88, Option.getD_some, atC] at key kr
      simp (disch := omega) only [Try.f88, es_seq, es_region, es_cond, es_block, es_loop, es_skip, es_ret, ops_nil, ops_cons, ops_consG, st_move, st_assign, sy_pick, pickS_false, sy_len uL, sy_bin, sy_make eL yI (by decide), binS_eql, binS_add, bindO_some, bindF_some, bindX_normal, condX_false, iteB_true, ev_tmp, ev_const, putA, upd_at, Option.map_some, ↓reduceIte, Nat.reduceEqDiff, Int.toNat_natCast, frOf_0, frOf_1, yieldO_eq, yO, yV_bool, List.getElem?_cons_zero, List.getElem?_cons_succ, beq_self_eq_true, ↓bindO_some, ↓bindF_some, ↓bindX_normal, ↓condX_false, ↓iteB_true, sy_load aL, sy_faddr fW1, sy_alloc iW scal_agg, sy_box, scal_agg, hH1, hH2, hH3, f11, f21, l11, l21, hlx, hly, ex, ey, e1, c2, c3, Int.le_refl, and_self, hz, l11m]
      generalize hA : upd _ 34 _ = A
      obtain ⟨r, a', H', e, hr, g2, g3, g4, g5, old4, wf4, lo, ol, hd, hll, hval⟩ := key A (by subst hA; rfl) (by subst hA; rfl) (by subst hA; rfl) (by subst hA; rfl) (by subst hA; rfl) (by subst hA; rfl) (by subst hA; rfl)
      subst hr
      rw [e]
      clear e key
      have old34 := oldm.trans old4
      obtain ⟨d, sd, rd⟩ := trimmed_run ol.RO (by omega) n (by omega)
      rw [nf_of_digs hd hval, ← hab] at rd
      obtain ⟨H5, s5, s6, ow, old5⟩ := fin H' d _ (x * y) old34 wf4 rd hsg
      have old5' := old5.mono old2.1
      have old35 := old34.mono (Nat.le_trans old2.1 old3.1)
      obtain ⟨a2, H2', e2, hH', g4'⟩ := kr a' (G := H') (G' := H5) g2 g3 g4 g5 f10 f20 (fun G h => by
        rcases h with rfl | rfl
        · exact (b1.mono old35).load 0
        · exact (b1.mono old5').load 0) (fun G h => by
        rcases h with rfl | rfl
        · exact (b2.mono (old34.mono old3.1)).load 0
        · exact (b2.mono old5).load 0) sd rd.R.scal s5
      subst hH'
      simp (disch := omega) only [bindX_normal, blkX_exit, ↓reduceIte, ↓bindX_normal]
      rw [e2]
      simp (disch := omega) only [bindX_normal, Option.map_some, ↓bindX_normal, fin_r, res_nil, pack_1, res_cell aW zW, g4', s6]
      exact ow
end Go.Proofs.Ytmmgdgmjkhcfaaa
