/- Integers of the reference: the normal form. -/
import Derived.Test.YtmmgdgmjkhcfaaaSyA
set_option linter.all false
namespace Go.Proofs.Ytmmgdgmjkhcfaaa
open Go Go.Abs Go.Num
set_option maxRecDepth 10000
attribute [local congr] bindO_congr bindF_congr bindX_congr condX_congr iteB_congr binS_congr pickS_congr
noncomputable def normA : Code := atC [1, 1, 1, 0, 1, 0, 0] ((Try.f80.body).getD .skip)
noncomputable def normB : Code := atC [1, 1, 1, 1, 0, 0, 0] ((Try.f80.body).getD .skip)
noncomputable def normC : Code := atC [1, 1, 1, 1, 1, 1, 1, 1, 0, 1, 0, 0] ((Try.f80.body).getD .skip)
theorem norm_loop1 {H0 : Heap} {v : Value} {l : List Int} (hw0 : WF H0) (hv : R H0 v (ints l)) (hl : l.length ≤ 900) (hb : ∀ x ∈ l, -4000000000000000000 ≤ x ∧ x ≤ 4000000000000000000) (n m nt : Nat) (hn : 10 ≤ n) {a : Fr} {k : Nat} (hk : l.length < k)
    (h0 : a 0 = v) (h3 : a 3 = .slice none 0 0) (h4 : a 4 = vi 0) (h5 : a 5 = vi (0 : Nat)) :
    ∃ x a' H', loopN (evS Try.prog (evB Try.prog noC n) m nt none normA) k a H0 = some (x, a', H') ∧ x = .exit 0 ∧ ∃ vo out c, a' 3 = vo ∧ a' 4 = vi c ∧ O H0.length H' vo (ints out) ∧ Old H0.length H0 H' ∧ WF H' ∧ out.length = l.length ∧ Dg out ∧ val out + B ^ out.length * c = val l ∧ -100000000000 ≤ c ∧ c ≤ 100000000000 := by
  refine loop_up l.length (fun i a H' => a 0 = v ∧ a 5 = vi i ∧ ∃ vo out c, a 3 = vo ∧ a 4 = vi c ∧ O H0.length H' vo (ints out) ∧ Old H0.length H0 H' ∧ WF H' ∧ out.length = i ∧ Dg out ∧ val out + B ^ i * c = val (l.take i) ∧ -100000000000 ≤ c ∧ c ≤ 100000000000) _ ?_ ?_ hk
    ⟨h0, h5, _, [], 0, h3, h4, O.nil _ _, Old.refl _ _, hw0, rfl, Dg.nil, by simp [val], by omega, by omega⟩
  · intro i a H' hi ⟨h0, h5, vo, out, c, h3, h4, ho, old, hw, hol, hd, hval, hc1, hc2⟩
    left
    rw [show normA = atC [1, 1, 1, 0, 1, 0, 0] ((Try.f80.body).getD .skip) from rfl]
    have hx := hb _ (getD_mem hi)
    have hr := hv.keep (Nat.le_refl _) old
    have hlt : (i : Int) < l.length := by omega
    have s1 := split_run hx.1 hx.2 n H' hn
    have e1 : IntKind.i64.wrap (l.getD i 0 % 100000000 + c) = l.getD i 0 % 100000000 + c := wr64 (by omega) (by omega)
    have s2 := split_run (z := l.getD i 0 % 100000000 + c) (by omega) (by omega) n H' hn
    have e2 : IntKind.i64.wrap (l.getD i 0 / 100000000 + (l.getD i 0 % 100000000 + c) / 100000000) = l.getD i 0 / 100000000 + (l.getD i 0 % 100000000 + c) / 100000000 := wr64 (by omega) (by omega)
    have e3 : IntKind.i64.wrap ((i : Int) + 1) = ((i + 1 : Nat) : Int) := by rw [wr64 (by omega) (by omega)]; omega
    obtain ⟨v2, H2, ep, o2, old2, wf2⟩ := ho.pushI hw old.1 (by unfold maxA; omega) ((l.getD i 0 % 100000000 + c) % 100000000)
    simp (disch := omega) only [Try.f80, Option.getD_some, atC, es_seq, es_region, es_cond, es_block, es_skip, ops_nil, ops_cons, st_move, st_assign, st_fun, sy_len uL, sy_addr eL, sy_load aI, sy_bin, sy_append eL pI, sy_build1 eL oI, sy_ext, ext_20, ext_21, binS_lss, binS_add, bindO_some, bindF_some, bindX_normal, blkX_normal, condX_true, ev_tmp, ev_const, ev_func, putA, upd_at, Option.map_some, ↓reduceIte, Nat.reduceEqDiff, Int.toNat_natCast, List.map_cons, List.map_nil, decide_true, ↓bindO_some, ↓bindF_some, ↓bindX_normal, ↓condX_true, scal_vi, h0, h3, h4, h5, hr.lenI, hlt, hr.addrI, hr.loadI, s1, s2, e1, e2, e3, ep]
    refine ⟨_, _, rfl, by simp only [upd_get, ↓reduceIte, Nat.reduceEqDiff, h0], by simp only [upd_get, ↓reduceIte], v2, _, l.getD i 0 / 100000000 + (l.getD i 0 % 100000000 + c) / 100000000, by simp only [upd_get, ↓reduceIte, Nat.reduceEqDiff], by simp only [upd_get, ↓reduceIte, Nat.reduceEqDiff], o2, old.trans old2, wf2, by simp [hol], hd.app (Dg.one (by omega) (by unfold B; omega)), ?_, by omega, by omega⟩
    rw [take_snoc' hi]
    exact norm_step hol hval (by rw [List.length_take]; omega)
  · intro a H' ⟨h0, h5, vo, out, c, h3, h4, ho, old, hw, hol, hd, hval, hc1, hc2⟩
    rw [show normA = atC [1, 1, 1, 0, 1, 0, 0] ((Try.f80.body).getD .skip) from rfl]
    have hr := hv.keep (Nat.le_refl _) old
    simp (disch := omega) only [Try.f80, Option.getD_some, atC, es_seq, es_region, es_cond, es_exit, ops_nil, ops_cons, st_move, sy_len uL, sy_bin, binS_lss, bindO_some, bindF_some, bindX_normal, bindX_exit, condX_false, ev_tmp, putA, upd_at, Option.map_some, ↓reduceIte, Nat.reduceEqDiff, decide_false, ↓bindO_some, ↓bindF_some, ↓bindX_normal, ↓bindX_exit, ↓condX_false, h0, h5, hr.lenI, Int.lt_irrefl]
    exact ⟨_, _, _, rfl, by simp, rfl, vo, out, c, by simp only [upd_get, ↓reduceIte, Nat.reduceEqDiff, h3], by simp only [upd_get, ↓reduceIte, Nat.reduceEqDiff, h4], ho, old, hw, hol, hd, by rw [hol, hval, List.take_length], hc1, hc2⟩
def MM (n : Nat) (c : Int) : Prop := (n = 0 ∧ (c = 0 ∨ c = -1)) ∨ (n = 1 ∧ -10000000 ≤ c ∧ c ≤ 10000000) ∨ (n = 2 ∧ -100000000000 ≤ c ∧ c ≤ 100000000000)
theorem norm_loop2 {H0 : Heap} {L : Nat} {z : Int} (hL : L ≤ 1000) (n m nt : Nat) (hn : 10 ≤ n) {a : Fr} {H : Heap} {k : Nat} (hk : 2 < k) {vo : Value} {out : List Int} {c : Int}
    (h3 : a 3 = vo) (h4 : a 4 = vi c) (ho : O H0.length H vo (ints out)) (old : Old H0.length H0 H) (hw : WF H) (hol : out.length + 2 ≤ L) (hd : Dg out) (hval : val out + B ^ out.length * c = z) (hc1 : -100000000000 ≤ c) (hc2 : c ≤ 100000000000) :
    ∃ x a' H', loopN (evS Try.prog (evB Try.prog noC n) m nt none normB) k a H = some (x, a', H') ∧ x = .exit 2 ∧ ∃ vo out c, a' 3 = vo ∧ a' 4 = vi c ∧ O H0.length H' vo (ints out) ∧ Old H0.length H0 H' ∧ WF H' ∧ out.length ≤ L ∧ Dg out ∧ val out + B ^ out.length * c = z ∧ (c = 0 ∨ c = -1) := by
  refine loop_wf (fun n a H' => ∃ vo out c, a 3 = vo ∧ a 4 = vi c ∧ O H0.length H' vo (ints out) ∧ Old H0.length H0 H' ∧ WF H' ∧ out.length + n ≤ L ∧ Dg out ∧ val out + B ^ out.length * c = z ∧ MM n c) _ ?_ k 2 a H hk ⟨vo, out, c, h3, h4, ho, old, hw, hol, hd, hval, .inr (.inr ⟨rfl, hc1, hc2⟩)⟩
  intro q a H' ⟨vo, out, c, h3, h4, ho, old, hw, hol, hd, hval, hM⟩
  rw [show normB = atC [1, 1, 1, 1, 0, 0, 0] ((Try.f80.body).getD .skip) from rfl]
  by_cases hz : c = 0
  · right
    simp (disch := omega) only [Try.f80, Option.getD_some, atC, es_seq, es_region, es_cond, es_exit, ops_nil, ops_cons, ops_consG, st_move, sy_pick, pickS_false, sy_bin, binS_neq, bindO_some, bindF_some, bindX_normal, bindX_exit, condX_false, iteB_false, ev_tmp, ev_const, putA, upd_at, ↓reduceIte, Nat.reduceEqDiff, decide_true, Bool.not_true, yieldO_eq, yO, yV_bool, some_true, List.getElem?_cons_zero, List.getElem?_cons_succ, ↓bindO_some, ↓bindF_some, ↓bindX_normal, ↓bindX_exit, ↓condX_false, ↓iteB_false, h4, hz]
    exact ⟨_, _, _, rfl, by simp, rfl, vo, out, 0, by simp only [upd_get, ↓reduceIte, Nat.reduceEqDiff, h3], by simp only [upd_get, ↓reduceIte, Nat.reduceEqDiff, h4, hz], ho, old, hw, by omega, hd, by rw [← hz]; exact hval, .inl rfl⟩
  · by_cases hy : c = -1
    · right
      simp (disch := omega) only [Try.f80, Option.getD_some, atC, es_seq, es_region, es_cond, es_block, es_skip, es_exit, ops_nil, ops_cons, ops_consG, st_move, st_assign, sy_pick, st_fun, sy_bin, sy_append eL pI, sy_build1 eL oI, sy_ext, binS_neq, bindO_some, bindF_some, ev_tmp, ev_const, ev_func, putA, upd_at, ↓reduceIte, Nat.reduceEqDiff, List.map_cons, List.map_nil, decide_true, Bool.not_true, yieldO_eq, yO, yV_bool, some_true, List.getElem?_cons_zero, List.getElem?_cons_succ, ↓bindO_some, ↓bindF_some, h4, hy]
      exact ⟨_, _, _, rfl, by simp, rfl, vo, out, -1, by simp only [upd_get, ↓reduceIte, Nat.reduceEqDiff, h3], by simp only [upd_get, ↓reduceIte, Nat.reduceEqDiff, h4, hy], ho, old, hw, by omega, hd, by rw [← hy]; exact hval, .inr rfl⟩
    · left
      have s1 := split_run (z := c) (by rcases hM with h | h | h <;> omega) (by rcases hM with h | h | h <;> omega) n H' hn
      obtain ⟨v2, H2, ep, o2, old2, wf2⟩ := ho.pushI hw old.1 (by unfold maxA; omega) (c % 100000000)
      simp (disch := omega) only [Try.f80, Option.getD_some, atC, es_seq, es_region, es_cond, es_block, es_skip, ops_nil, ops_cons, ops_consG, st_move, st_assign, sy_pick, pickS_true, st_fun, sy_bin, sy_append eL pI, sy_build1 eL oI, sy_ext, ext_20, ext_21, binS_neq, bindO_some, bindF_some, bindX_normal, blkX_normal, condX_true, iteB_true, ev_tmp, ev_const, ev_func, putA, upd_at, Option.map_some, ↓reduceIte, Nat.reduceEqDiff, List.map_cons, List.map_nil, decide_false, Bool.not_false, yieldO_eq, yO, yV_bool, List.getElem?_cons_zero, List.getElem?_cons_succ, beq_self_eq_true, ↓bindO_some, ↓bindF_some, ↓bindX_normal, ↓condX_true, ↓iteB_true, scal_vi, h3, h4, hz, hy, s1, ep]
      refine ⟨_, _, rfl, q - 1, by rcases hM with h | h | h <;> omega, v2, _, c / 100000000, by simp only [upd_get, ↓reduceIte, Nat.reduceEqDiff], by simp only [upd_get, ↓reduceIte], o2, old.trans old2, wf2, by rw [List.length_append, List.length_singleton]; rcases hM with h | h | h <;> omega, hd.app (Dg.one (by omega) (by unfold B; omega)), carry_step z hval, ?_⟩
      rcases hM with h | h | h
      · omega
      · exact .inl ⟨by omega, by omega⟩
      · exact .inr (.inl ⟨by omega, by omega, by omega⟩)
theorem norm_loop3 {H0 H1 : Heap} {vo : Value} {out : List Int} (ho : R H1 vo (ints out)) (hd : Dg out) (old0 : Old H0.length H0 H1) (hw1 : WF H1) (hol : out.length ≤ 1000) (call : CallF) (m nt : Nat) {a : Fr} {k : Nat} (hk : out.length < k)
    (h3 : a 3 = vo) (h12 : a 12 = .slice none 0 0) (h13 : a 13 = vi 0) (h14 : a 14 = vi (0 : Nat)) :
    ∃ x a' H', loopN (evS Try.prog call m nt none normC) k a H1 = some (x, a', H') ∧ x = .exit 4 ∧ ∃ vs sz b, a' 12 = vs ∧ a' 13 = vi b ∧ O H1.length H' vs (ints sz) ∧ Old H1.length H1 H' ∧ WF H' ∧ sz.length = out.length ∧ Dg sz ∧ val sz = b * B ^ out.length - val out ∧ (b = 0 ∨ b = 1) := by
  refine loop_up out.length (fun i a H' => a 3 = vo ∧ a 14 = vi i ∧ ∃ vs sz b, a 12 = vs ∧ a 13 = vi b ∧ O H1.length H' vs (ints sz) ∧ Old H1.length H1 H' ∧ WF H' ∧ sz.length = i ∧ Dg sz ∧ val sz = b * B ^ i - val (out.take i) ∧ (b = 0 ∨ b = 1)) _ ?_ ?_ hk
    ⟨h3, h14, _, [], 0, h12, h13, O.nil _ _, Old.refl _ _, hw1, rfl, Dg.nil, by simp [val], .inl rfl⟩
  · intro i a H' hi ⟨h3, h14, vs, sz, b, h12, h13, hs, old, hw, hsl, hds, hval, hb⟩
    left
    rw [show normC = atC [1, 1, 1, 1, 1, 1, 1, 1, 0, 1, 0, 0] ((Try.f80.body).getD .skip) from rfl]
    have hr := ho.keep (Nat.le_refl _) old
    have hx := hd _ (getD_mem hi)
    unfold B at hx
    have hlt : (i : Int) < out.length := by omega
    have e1 : IntKind.i64.wrap (0 - out.getD i 0) = - out.getD i 0 := by rw [wr64 (by omega) (by omega)]; omega
    have e2 : IntKind.i64.wrap (- out.getD i 0 - b) = - out.getD i 0 - b := wr64 (by omega) (by omega)
    have e3 : IntKind.i64.wrap ((i : Int) + 1) = ((i + 1 : Nat) : Int) := by rw [wr64 (by omega) (by omega)]; omega
    have hst := fun (b2 : Int) => compl_step (o := out.getD i 0) (b2 := b2) hsl (by rw [List.length_take]; omega) hval
    by_cases hneg : - out.getD i 0 - b < 0
    · have e4 : IntKind.i64.wrap (- out.getD i 0 - b + 100000000) = - out.getD i 0 - b + 100000000 := wr64 (by omega) (by omega)
      obtain ⟨v2, H2, ep, o2, old2, wf2⟩ := hs.pushI hw old.1 (by unfold maxA; omega) (- out.getD i 0 - b + 100000000)
      simp (disch := omega) only [Try.f80, Option.getD_some, atC, es_seq, es_region, es_cond, es_block, es_skip, ops_nil, ops_cons, st_move, st_assign, sy_len uL, sy_addr eL, sy_load aI, sy_bin, sy_neg, sy_append eL pI, sy_build1 eL oI, binS_lss, binS_add, binS_sub, bindO_some, bindF_some, bindX_normal, blkX_normal, condX_true, ev_tmp, ev_const, putA, upd_at, Option.map_some, ↓reduceIte, Nat.reduceEqDiff, Int.toNat_natCast, decide_true, ↓bindO_some, ↓bindF_some, ↓bindX_normal, ↓condX_true, scal_vi, h3, h12, h13, h14, hr.lenI, hlt, hr.addrI, hr.loadI, e1, e2, hneg, e4, e3, ep]
      exact ⟨_, _, rfl, by simp only [upd_get, ↓reduceIte, Nat.reduceEqDiff, h3], by simp only [upd_get, ↓reduceIte], v2, _, 1, by simp only [upd_get, ↓reduceIte, Nat.reduceEqDiff], by simp only [upd_get, ↓reduceIte, Nat.reduceEqDiff], o2, old.trans old2, wf2, by simp [hsl], hds.app (Dg.one (by omega) (by unfold B; omega)), by rw [take_snoc' hi]; exact hst 1, .inr rfl⟩
    · obtain ⟨v2, H2, ep, o2, old2, wf2⟩ := hs.pushI hw old.1 (by unfold maxA; omega) (- out.getD i 0 - b)
      simp (disch := omega) only [Try.f80, Option.getD_some, atC, es_seq, es_region, es_cond, es_block, es_skip, ops_nil, ops_cons, st_move, st_assign, sy_len uL, sy_addr eL, sy_load aI, sy_bin, sy_neg, sy_append eL pI, sy_build1 eL oI, binS_lss, binS_add, binS_sub, bindO_some, bindF_some, bindX_normal, blkX_normal, condX_true, condX_false, ev_tmp, ev_const, putA, upd_at, Option.map_some, ↓reduceIte, Nat.reduceEqDiff, Int.toNat_natCast, decide_true, decide_false, ↓bindO_some, ↓bindF_some, ↓bindX_normal, ↓condX_true, ↓condX_false, scal_vi, h3, h12, h13, h14, hr.lenI, hlt, hr.addrI, hr.loadI, e1, e2, hneg, e3, ep]
      exact ⟨_, _, rfl, by simp only [upd_get, ↓reduceIte, Nat.reduceEqDiff, h3], by simp only [upd_get, ↓reduceIte], v2, _, 0, by simp only [upd_get, ↓reduceIte, Nat.reduceEqDiff], by simp only [upd_get, ↓reduceIte, Nat.reduceEqDiff], o2, old.trans old2, wf2, by simp [hsl], hds.app (Dg.one (by omega) (by unfold B; omega)), by rw [take_snoc' hi]; have := hst 0; simpa using this, .inl rfl⟩
  · intro a H' ⟨h3, h14, vs, sz, b, h12, h13, hs, old, hw, hsl, hds, hval, hb⟩
    rw [show normC = atC [1, 1, 1, 1, 1, 1, 1, 1, 0, 1, 0, 0] ((Try.f80.body).getD .skip) from rfl]
    have hr := ho.keep (Nat.le_refl _) old
    simp (disch := omega) only [Try.f80, Option.getD_some, atC, es_seq, es_region, es_cond, es_exit, ops_nil, ops_cons, st_move, sy_len uL, sy_bin, binS_lss, bindO_some, bindF_some, bindX_normal, bindX_exit, condX_false, ev_tmp, putA, upd_at, Option.map_some, ↓reduceIte, Nat.reduceEqDiff, decide_false, ↓bindO_some, ↓bindF_some, ↓bindX_normal, ↓bindX_exit, ↓condX_false, h3, h14, hr.lenI, Int.lt_irrefl]
    exact ⟨_, _, _, rfl, by simp, rfl, vs, sz, b, by simp only [upd_get, ↓reduceIte, Nat.reduceEqDiff, h12], by simp only [upd_get, ↓reduceIte, Nat.reduceEqDiff, h13], hs, old, hw, hsl, hds, by rw [hval, List.take_length], hb⟩
theorem OneL.trans {H H1 : Heap} {r : Option (Value × Heap)} {l : List Int} (ho : Old H.length H H1) (h : OneL H1 r l) : OneL H r l := by
  obtain ⟨v', H', e, o, old, wf⟩ := h
  exact ⟨v', H', e, o.below ho.1, ho.trans (old.mono ho.1), wf⟩
theorem norm_run {H : Heap} {v : Value} {l : List Int} (hw : WF H) (hv : R H v (ints l)) (hl : l.length ≤ 900) (hb : ∀ x ∈ l, -4000000000000000000 ≤ x ∧ x ≤ 4000000000000000000) (n : Nat) (hn : 2003 ≤ n) :
    OneL H (evB Try.prog noC n (.func (.func 80) #[] #[]) [v] H) (nf (val l)) := by
  refine run_of (F := 2002) (Q := fun x => OneL H x (nf (val l))) (fun n hn => ?_) n hn
  rw [body_runS Try.func80 rfl (ok_fn (by rfl) Try.func80 rfl) (Nat.le_of_ble_eq_true rfl) (D := D0) (by kernel_rfl)]
  have key1 := fun (A : Fr) => norm_loop1 hw hv hl hb n n Try.f80.ntmps (by omega) (a := A) (k := n) (by omega)
  have key2 := fun (A : Fr) {H' : Heap} {vo : Value} {out : List Int} {c : Int} (ho : out.length + 2 ≤ 902) => norm_loop2 (H0 := H) (L := 902) (z := val l) (by omega) n n Try.f80.ntmps (by omega) (a := A) (H := H') (k := n) (by omega) (vo := vo) (out := out) (c := c)
  have key3 := fun (A : Fr) {H1 : Heap} {vo : Value} {out : List Int} (hol : out.length ≤ 902) (ho : R H1 vo (ints out)) (hd : Dg out) (old0 : Old H.length H H1) (hw1 : WF H1) => norm_loop3 (H0 := H) ho hd old0 hw1 (by omega) (evB Try.prog noC n) n Try.f80.ntmps (a := A) (k := n) (by omega)
  rw [show normA = atC [1, 1, 1, 0, 1, 0, 0] ((Try.f80.body).getD .skip) from rfl] at key1
  rw [show normB = atC [1, 1, 1, 1, 0, 0, 0] ((Try.f80.body).getD .skip) from rfl] at key2
  rw [show normC = atC [1, 1, 1, 1, 1, 1, 1, 1, 0, 1, 0, 0] ((Try.f80.body).getD .skip) from rfl] at key3
  simp only [Try.f80, Option.getD_some, atC] at key1 key2 key3
  simp (disch := omega) only [Try.f80, es_seq, es_region, es_cond, es_block, es_loop, es_skip, es_ret, ops_nil, ops_cons, st_move, st_assign, st_fun, sy_bin, sy_append eL pI, sy_build1 eL oI, bindO_some, bindF_some, bindX_normal, ev_tmp, ev_const, ev_func, putA, upd_at, ↓reduceIte, Nat.reduceEqDiff, List.map_cons, List.map_nil, ↓bindO_some, ↓bindF_some, ↓bindX_normal, scal_vi]
  generalize hA : upd _ 5 _ = A
  obtain ⟨x, a1, H1, e1, hx, vo, out, c, h3, h4, o1, old1, wf1, hol, hd, hval, hc1, hc2⟩ := key1 A (by subst hA; rfl) (by subst hA; rfl) (by subst hA; rfl) (by subst hA; rfl)
  subst hx
  rw [e1]
  simp (disch := omega) only [bindX_normal, blkX_exit, ↓reduceIte, ↓bindX_normal]
  clear key1 e1
  obtain ⟨x, a2, H2, e2, hx, vo, out, c, h3, h4, o2, old2, wf2, hol, hd, hval, hc⟩ := key2 a1 (by omega) h3 h4 o1 old1 wf1 (by omega) hd hval hc1 hc2
  subst hx
  rw [e2]
  simp (disch := omega) only [bindX_normal, blkX_exit, ↓reduceIte, ↓bindX_normal]
  clear key2 e2
  rcases hc with rfl | rfl
  · rw [Int.mul_zero, Int.add_zero] at hval
    obtain ⟨v3, H3, e3, o3, old3, wf3⟩ := trim_run wf2 o2.R (by omega) n (by omega)
    simp (disch := omega) only [binS_eql, bindO_some, bindF_some, bindX_normal, bindX_ret, condX_true, upd_at, Option.map_some, ↓reduceIte, Nat.reduceEqDiff, decide_true, ↓bindO_some, ↓bindF_some, ↓bindX_normal, ↓bindX_ret, ↓condX_true, fin_r, res_nil, res_tmp, pack_1, h3, h4, e3, o3.R.scal]
    refine ⟨_, _, rfl, ?_, old2.trans (old3.mono old2.1), wf3⟩
    rw [← nf_of_digs hd hval]
    exact o3.below old2.1
  · have hneg := hd.val
    have hz : ¬ (-1 : Int) = 0 := by omega
    simp (disch := omega) only [binS_eql, bindO_some, bindF_some, bindX_normal, condX_false, upd_at, ↓reduceIte, decide_false, ↓bindO_some, ↓bindF_some, ↓bindX_normal, ↓condX_false, h4, hz]
    generalize hA : upd _ 14 _ = A
    obtain ⟨x, a3, H3, e3, hx, vs, sz, b, h12, h13, o3, old3, wf3, hsl, hds, hvs, hb'⟩ := key3 A (by omega) o2.R hd old2 wf2 (by subst hA; exact h3) (by subst hA; rfl) (by subst hA; rfl) (by subst hA; rfl)
    subst hx
    rw [e3]
    clear key3 e3
    simp (disch := omega) only [bindX_normal, blkX_exit, ↓reduceIte, ↓bindX_normal]
    have bd : ∀ {m : List Int}, Dg m → ∀ x ∈ m, -4000000000000000000 ≤ x ∧ x ≤ 4000000000000000000 := fun h x hx => by have := h x hx; unfold B at this; omega
    have old23 := old2.trans (old3.mono old2.1)
    rcases hb' with rfl | rfl
    · obtain ⟨v4, H4, e4, o4, old4, wf4⟩ := o3.pushI wf3 old3.1 (by unfold maxA; omega) 1
      obtain ⟨v5, H5, e5, o5, old5, wf5⟩ := signed_run wf4 o4.R (by rw [List.length_append, List.length_singleton]; omega) (bd (hds.app (Dg.one (by omega) (by unfold B; omega)))) true n (by omega)
      have old24 := old23.trans (old4.mono old2.1)
      simp (disch := omega) only [binS_eql, bindO_some, bindF_some, bindX_normal, condX_true, upd_at, Option.map_some, ↓reduceIte, Nat.reduceEqDiff, decide_true, ↓bindO_some, ↓bindF_some, ↓bindX_normal, ↓condX_true, fin_r, res_nil, res_tmp, pack_1, h12, h13, e4, e5, o5.R.scal]
      refine ⟨_, _, rfl, ?_, old24.trans (old5.mono old24.1), wf5⟩
      have := nf_of_neg (l := sz ++ [1]) (z := val l) (hds.app (Dg.one (by omega) (by unfold B; omega))) (by rw [val_snoc, hvs, hsl]; omega)
      rw [← this]
      exact o5.below old24.1
    · obtain ⟨v5, H5, e5, o5, old5, wf5⟩ := signed_run wf3 o3.R (by omega) (bd hds) true n (by omega)
      have hone : ¬ (1 : Int) = 0 := by omega
      simp (disch := omega) only [binS_eql, bindO_some, bindF_some, bindX_normal, condX_false, upd_at, Option.map_some, ↓reduceIte, Nat.reduceEqDiff, decide_false, ↓bindO_some, ↓bindF_some, ↓bindX_normal, ↓condX_false, fin_r, res_nil, res_tmp, pack_1, h12, h13, e5, hone, o5.R.scal]
      refine ⟨_, _, rfl, ?_, old23.trans (old5.mono old23.1), wf5⟩
      have := nf_of_neg (l := sz) (z := val l) hds (by rw [hvs]; omega)
      rw [← this]
      exact o5.below old23.1
end Go.Proofs.Ytmmgdgmjkhcfaaa
