/- Rim hooks of the program. -/
import Derived.Test.YtmmgdgmjkhcfaaaSzA
import Derived.Test.YtmmgdgmjkhcfaaaSyG
import Derived.Test.YtmmgdgmjkhcfaaaSzP
set_option linter.all false
namespace Go.Proofs.Ytmmgdgmjkhcfaaa
open Go Go.Abs Go.Num
set_option maxRecDepth 10000
attribute [local congr] bindO_congr bindF_congr bindX_congr condX_congr iteB_congr binS_congr pickS_congr eqB_congr nilS_congr clsW_congr maxS_congr minS_congr
theorem zIn : ∀ n : Nat, zeros Try.prog 3 1 n = some (ints (List.replicate n 0)) := by
  have hr : ∀ n : Nat, repl n [vi 0] = ints (List.replicate n 0) := by
    intro n
    induction n with
    | zero => rfl
    | succ n ih => rw [repl, ih, List.replicate_succ]; rfl
  have h1 : ∀ n : Nat, zeros Try.prog 3 1 n = some (repl n [vi 0]) := by
    intro n
    have hz : zeroT Try.prog 3 = some (vi 0) := by kernel_rfl
    unfold zeros
    rw [hz]
    rfl
  intro n
  rw [h1, hr]
theorem uHH : Try.prog.underlying 60 = some (.slice 66) := by kernel_rfl
theorem eHH : sliceElem Try.prog 60 = some (66, 2) := by kernel_rfl
theorem oHH : zeros Try.prog 66 2 1 = some [.slice none 0 0, vi 0] := by kernel_rfl
theorem pHH : ((bytesT Try.prog 66).isSome && decide ((bytesT Try.prog 66).getD 0 ≤ maxA) && (zeros Try.prog 66 2 1).isSome) = true := by kernel_rfl
theorem iHk : zeroT Try.prog 66 = some (.agg #[.slice none 0 0, vi 0]) := by kernel_rfl
theorem uHk : Try.prog.underlying 66 = some (.struct (sfs 66)) := by kernel_rfl
theorem zHk : sizesOf Try.prog (sfs 66).toList = some [(0, 1), (1, 1)] := by kernel_rfl
theorem bHk (v : Value) (z : Int) (h : scal v = some [v]) : buildA Try.prog 66 [(0, v), (1, vi z)] = some (.agg #[v, vi z]) := by
  have hz : scal (vi z) = some [vi z] := rfl
  simp only [buildA, iHk, uHk, zHk, fillL, h, hz]
  rfl
theorem sHk {v : Value} {z : Int} : scal (.agg #[v, vi z]) = some [v, vi z] := (rfl)
noncomputable def ixA : Code := atC [1, 0, 1, 0, 0] ((Try.f132.body).getD .skip)
theorem index_run {H : Heap} {v : Value} {l : List Int} (hv : R H v (ints l)) (hl : l.length ≤ 1000) (x : Int) (n : Nat) (hn : 1010 ≤ n) : ∃ r, evB Try.prog noC n (.func (.func 132) #[] #[]) [v, vi x] H = some (vi r, H) ∧ (0 ≤ r ↔ x ∈ l) := by
  refine run_of (F := 1009) (Q := fun q => ∃ r, q = some (vi r, H) ∧ (0 ≤ r ↔ x ∈ l)) (fun n hn => ?_) n hn
  rw [body_runS Try.func132 rfl (ok_fn (by rfl) Try.func132 rfl) (Nat.le_of_ble_eq_true rfl) (D := D0) (by kernel_rfl)]
  have key : ∀ A : Fr, A 0 = v → A 1 = vi x → A 7 = vi l.length → A 8 = vi (0 : Nat) → ∃ r a' H', loopN (evS Try.prog (evB Try.prog noC n) n Try.f132.ntmps none ixA) n A H = some (r, a', H') ∧ H' = H ∧ ((r = .exit 0 ∧ x ∉ l) ∨ (r = .ret ∧ x ∈ l ∧ ∃ i : Nat, a' 4 = vi i)) := by
    intro A h0 h1 h7 h8
    refine loop_up l.length (fun i a H' => H' = H ∧ a 0 = v ∧ a 1 = vi x ∧ a 7 = vi l.length ∧ a 8 = vi i ∧ ∀ t, t < i → x ≠ l.getD t 0) _ ?_ ?_ (by omega) ⟨rfl, h0, h1, h7, h8, fun t ht => by omega⟩
    · intro i a H' hi ⟨hH, h0, h1, h7, h8, ht⟩
      subst hH
      rw [show ixA = atC [1, 0, 1, 0, 0] ((Try.f132.body).getD .skip) from rfl]
      have hlt : (i : Int) < l.length := by omega
      have e1 : IntKind.i64.wrap ((i : Int) + 1) = ((i + 1 : Nat) : Int) := by rw [wr64 (by omega) (by omega)]; omega
      by_cases hx : x = l.getD i 0
      · right
        have c1 : decide (x = l.getD i 0) = true := decide_eq_true hx
        simp (disch := omega) only [Try.f132, Option.getD_some, atC, es_seq, es_region, es_cond, es_block, es_skip, es_ret, ops_nil, ops_cons, st_move, st_assign, sy_addr eL, sy_load aI, sy_bin, binS_lss, binS_eql, bindO_some, bindF_some, bindX_normal, bindX_ret, blkX_ret, condX_true, ev_tmp, putA, upd_at, Option.map_some, ↓reduceIte, Nat.reduceEqDiff, Int.toNat_natCast, decide_true, ↓bindO_some, ↓bindF_some, ↓bindX_normal, ↓bindX_ret, ↓condX_true, h0, h1, h7, h8, hlt, hv.addrI, hv.loadI, c1]
        exact ⟨_, _, _, rfl, by simp, rfl, .inr ⟨rfl, by rw [hx]; exact getD_mem hi, i, rfl⟩⟩
      · left
        have c1 : decide (x = l.getD i 0) = false := decide_eq_false hx
        simp (disch := omega) only [Try.f132, Option.getD_some, atC, es_seq, es_region, es_cond, es_block, es_skip, ops_nil, ops_cons, st_move, st_assign, sy_addr eL, sy_load aI, sy_bin, binS_lss, binS_eql, binS_add, bindO_some, bindF_some, bindX_normal, blkX_normal, condX_true, condX_false, ev_tmp, ev_const, putA, upd_at, Option.map_some, ↓reduceIte, Nat.reduceEqDiff, Int.toNat_natCast, decide_true, ↓bindO_some, ↓bindF_some, ↓bindX_normal, ↓condX_true, ↓condX_false, h0, h1, h7, h8, hlt, hv.addrI, hv.loadI, c1, e1]
        refine ⟨_, _, rfl, rfl, h0, h1, h7, rfl, fun t h => ?_⟩
        by_cases e : t = i
        · subst e; exact hx
        · exact ht t (by omega)
    · intro a H' ⟨hH, h0, h1, h7, h8, ht⟩
      subst hH
      rw [show ixA = atC [1, 0, 1, 0, 0] ((Try.f132.body).getD .skip) from rfl]
      simp (disch := omega) only [Try.f132, Option.getD_some, atC, es_seq, es_region, es_cond, es_exit, ops_nil, ops_cons, sy_bin, binS_lss, bindO_some, bindF_some, bindX_normal, bindX_exit, condX_false, ev_tmp, putA, upd_at, ↓reduceIte, decide_false, ↓bindO_some, ↓bindF_some, ↓bindX_normal, ↓bindX_exit, ↓condX_false, h7, h8, Int.lt_irrefl]
      refine ⟨_, _, _, rfl, by simp, rfl, .inl ⟨rfl, fun hm => ?_⟩⟩
      obtain ⟨t, ht', e⟩ := List.getElem_of_mem hm
      have := ht t ht'
      rw [List.getD_eq_getElem?_getD, List.getElem?_eq_getElem ht'] at this
      exact this (by simp only [Option.getD_some]; exact e.symm)
  rw [show ixA = atC [1, 0, 1, 0, 0] ((Try.f132.body).getD .skip) from rfl] at key
  simp only [Try.f132, Option.getD_some, atC] at key
  simp (disch := omega) only [Try.f132, es_seq, es_region, es_block, es_loop, es_ret, ops_nil, ops_cons, st_move, st_assign, sy_len uL, bindO_some, bindF_some, bindX_normal, ev_tmp, ev_const, putA, upd_at, Option.map_some, ↓reduceIte, Nat.reduceEqDiff, frOf_0, ↓bindO_some, ↓bindF_some, ↓bindX_normal, hv.lenI]
  generalize hA : upd _ 8 _ = A
  obtain ⟨r, a', H', e, hH, h⟩ := key A (by subst hA; rfl) (by subst hA; rfl) (by subst hA; rfl) (by subst hA; rfl)
  subst hH
  rw [e]
  rcases h with ⟨rfl, hm⟩ | ⟨rfl, hm, i, h4⟩
  · simp (disch := omega) only [bindX_normal, blkX_exit, upd_at, Option.map_some, ↓reduceIte, ↓bindX_normal, fin_r, res_nil, res_tmp, pack_1, scal_vi]
    exact ⟨_, rfl, ⟨fun h => by omega, fun h => absurd h hm⟩⟩
  · simp (disch := omega) only [bindX_ret, blkX_ret, Option.map_some, ↓bindX_ret, fin_r, res_nil, res_tmp, pack_1, scal_vi, h4]
    exact ⟨_, rfl, ⟨fun _ => hm, fun _ => by omega⟩⟩
theorem contains_run {H : Heap} {v : Value} {l : List Int} (hv : R H v (ints l)) (hl : l.length ≤ 1000) (x : Int) (n : Nat) (hn : 1011 ≤ n) : evB Try.prog noC n (.func (.func 119) #[] #[]) [v, vi x] H = some (.bool (decide (x ∈ l)), H) := by
  refine run_of (F := 1010) (Q := fun q => q = some (.bool (decide (x ∈ l)), H)) (fun n hn => ?_) n hn
  rw [body_runS Try.func119 rfl (ok_fn (by rfl) Try.func119 rfl) (Nat.le_of_ble_eq_true rfl) (D := D0) (by kernel_rfl)]
  obtain ⟨r, s1, hr⟩ := index_run hv hl x n hn
  have e : decide (0 ≤ r) = decide (x ∈ l) := decide_eq_decide.2 hr
  simp (disch := omega) only [Try.f119, es_seq, es_region, es_ret, ops_nil, ops_cons, st_move, st_assign, st_fun, sy_bin, binS_geq, bindO_some, bindF_some, bindX_normal, ev_tmp, ev_const, ev_func, putA, upd_at, Option.map_some, ↓reduceIte, Nat.reduceEqDiff, frOf_0, frOf_1, List.map_cons, List.map_nil, ↓bindO_some, ↓bindF_some, ↓bindX_normal, fin_r, res_nil, res_tmp, pack_1, scal_bool, s1, e]
/- The loops of 'rims'. -/
def nx (l : List Int) (i j r : Nat) : Int := if i ≤ r ∧ r < j then bead l (r + 1) else bead l r
def nxL (l : List Int) (i j : Nat) : List Int := (List.range l.length).map (nx l i j)
def fz (l : List Int) (i J : Nat) (t : Int) (r : Nat) : Int := if r = J then t else nx l i J r
def fzL (l : List Int) (i J : Nat) (t : Int) : List Int := (List.range l.length).map (fz l i J t)
theorem map_range_set {n j : Nat} (f : Nat → Int) (x : Int) : ((List.range n).map f).set j x = (List.range n).map fun r => if r = j then x else f r := by
  apply List.ext_getElem
  · simp
  · intro r h1 h2
    rw [List.getElem_set, List.getElem_map, List.getElem_map, List.getElem_range]
    by_cases e : j = r
    · subst e; simp
    · rw [if_neg e, if_neg (fun e' => e e'.symm)]
theorem map_range_getD {n r : Nat} (f : Nat → Int) (h : r < n) : ((List.range n).map f).getD r 0 = f r := by
  rw [List.getD_eq_getElem?_getD, List.getElem?_map, List.getElem?_range h]; rfl
theorem nxL_0 (l : List Int) (i : Nat) : nxL l i i = beadsL l := by
  unfold nxL beadsL
  congr 1
  funext r
  unfold nx
  rw [if_neg (by omega)]
theorem nxL_set {l : List Int} {i j : Nat} (h : i ≤ j) : (nxL l i j).set j (bead l (j + 1)) = nxL l i (j + 1) := by
  unfold nxL
  rw [map_range_set]
  congr 1
  funext r
  unfold nx
  by_cases e : r = j
  · subst e; rw [if_pos rfl, if_pos (by omega)]
  · rw [if_neg e]
    by_cases c : i ≤ r ∧ r < j
    · rw [if_pos c, if_pos (by omega)]
    · rw [if_neg c, if_neg (by omega)]
theorem fzL_set {l : List Int} {i J : Nat} {t : Int} : (nxL l i J).set J t = fzL l i J t := by
  unfold nxL fzL
  rw [map_range_set]; rfl
theorem fz_pf {l : List Int} {i J r : Nat} {t : Int} (h : i ≤ J) : fz l i J t r - (l.length - 1 - r) = pf l i J t r := by
  unfold fz nx bead
  by_cases c1 : r = J
  · subst c1; rw [if_pos rfl, pf_at h]
  · rw [if_neg c1]
    by_cases c2 : r < i
    · rw [if_neg (by omega), pf_lo c2]; omega
    · by_cases c3 : r < J
      · rw [if_pos (by omega), pf_mid (by omega) c3]; omega
      · rw [if_neg (by omega), pf_hi h (by omega)]; omega
theorem bead_bd {l : List Int} (hp : Part l) (r : Nat) (hr : r < l.length) : 1 ≤ bead l r ∧ bead l r ≤ 40 := by
  have := hp.getD hr
  have := hp.len
  unfold bead; omega
noncomputable def rmL1 : Code := atC [1, 1, 1, 0, 1, 0, 0] ((Try.f92.body).getD .skip)
theorem rims_l1 {H0 H : Heap} {v vb : Value} {l : List Int} (hp : Part l) (hv : R H0 v (ints l)) (old : Old H0.length H0 H) (hw : WF H) (ho : O H0.length H vb (ints (List.replicate l.length 0))) (call : CallF) (m nt : Nat) {a : Fr} {k : Nat} (hk : 30 ≤ k) {v1 : Value} (h1 : a 1 = v1) (h5 : a 5 = vi l.length) (h6 : a 6 = vb) (h23 : a 23 = v) (h24 : a 24 = vi l.length) (h25 : a 25 = vi (0 : Nat)) :
    ∃ r a' H', loopN (evS Try.prog call m nt none rmL1) k a H = some (r, a', H') ∧ r = .exit 0 ∧ a' 1 = v1 ∧ a' 5 = vi l.length ∧ a' 6 = vb ∧ Old H0.length H0 H' ∧ WF H' ∧ O H0.length H' vb (ints (beadsL l)) := by
  have hl := hp.len
  refine loop_up l.length (fun i a H' => a 1 = v1 ∧ a 5 = vi l.length ∧ a 6 = vb ∧ a 23 = v ∧ a 24 = vi l.length ∧ a 25 = vi i ∧ Old H0.length H0 H' ∧ WF H' ∧ O H0.length H' vb (ints ((List.range i).map (bead l) ++ List.replicate (l.length - i) 0))) _ ?_ ?_ (by omega) ⟨h1, h5, h6, h23, h24, h25, old, hw, ho⟩
  · intro i a H' hi ⟨h1, h5, h6, h23, h24, h25, old, hw, ho⟩
    left
    rw [show rmL1 = atC [1, 1, 1, 0, 1, 0, 0] ((Try.f92.body).getD .skip) from rfl]
    have hv' := hv.mono old
    have hlt : (i : Int) < l.length := by omega
    have hg := hp.getD hi
    have hlen : ((List.range i).map (bead l) ++ List.replicate (l.length - i) 0).length = l.length := by simp; omega
    have e1 : IntKind.i64.wrap ((i : Int) + 1) = ((i + 1 : Nat) : Int) := by rw [wr64 (by omega) (by omega)]; omega
    have e2 : IntKind.i64.wrap (l.getD i 0 + (l.length : Int)) = l.getD i 0 + (l.length : Int) := wr64 (by omega) (by omega)
    have e3 : IntKind.i64.wrap (l.getD i 0 + (l.length : Int) - 1) = l.getD i 0 + (l.length : Int) - 1 := wr64 (by omega) (by omega)
    have e4 : IntKind.i64.wrap (l.getD i 0 + (l.length : Int) - 1 - (i : Int)) = bead l i := wr64 (by omega) (by omega)
    have a1 : addrS 1 vb (vi (i : Int)) = some (pt vb i) := by have := ho.R.addrI (i := (i : Int)) (by omega) (by omega); rwa [Int.toNat_natCast] at this
    obtain ⟨H2, s2, o2, old2, wf2⟩ := ho.setI hw (i := i) (by omega) (bead l i)
    simp (disch := omega) only [Try.f92, Option.getD_some, atC, es_seq, es_region, es_cond, es_block, es_skip, ops_nil, ops_cons, st_move, st_assign, sy_addr eL, sy_load aI, sy_store zI, sy_bin, binS_lss, binS_add, binS_sub, bindO_some, bindF_some, bindX_normal, blkX_normal, condX_true, ev_tmp, ev_const, putA, upd_at, Option.map_some, ↓reduceIte, Nat.reduceEqDiff, Int.toNat_natCast, decide_true, ↓bindO_some, ↓bindF_some, ↓bindX_normal, ↓condX_true, h5, h6, h23, h24, h25, hlt, hv'.addrI, hv'.loadI, e2, e3, e4, a1, s2, e1]
    refine ⟨_, _, rfl, h1, h5, h6, h23, h24, rfl, old.trans old2, wf2, ?_⟩
    have e : ((List.range i).map (bead l) ++ List.replicate (l.length - i) 0).set i (bead l i) = (List.range (i + 1)).map (bead l) ++ List.replicate (l.length - (i + 1)) 0 := by
      rw [map_range_succ, List.set_append_right _ _ (by simp), List.length_map, List.length_range, Nat.sub_self, List.append_assoc]
      obtain ⟨q, hq⟩ : ∃ q, l.length - i = q + 1 := ⟨l.length - i - 1, by omega⟩
      rw [hq, show l.length - (i + 1) = q from by omega, List.replicate_succ]
      rfl
    rw [← e]; exact o2
  · intro a H' ⟨h1, h5, h6, h23, h24, h25, old, hw, ho⟩
    rw [show rmL1 = atC [1, 1, 1, 0, 1, 0, 0] ((Try.f92.body).getD .skip) from rfl]
    simp (disch := omega) only [Try.f92, Option.getD_some, atC, es_seq, es_region, es_cond, es_exit, ops_nil, ops_cons, sy_bin, binS_lss, bindO_some, bindF_some, bindX_normal, bindX_exit, condX_false, ev_tmp, putA, upd_at, ↓reduceIte, decide_false, ↓bindO_some, ↓bindF_some, ↓bindX_normal, ↓bindX_exit, ↓condX_false, h24, h25, Int.lt_irrefl]
    rw [Nat.sub_self, List.replicate_zero, List.append_nil] at ho
    exact ⟨_, _, _, rfl, by simp, rfl, h1, h5, h6, old, hw, ho⟩
end Go.Proofs.Ytmmgdgmjkhcfaaa
