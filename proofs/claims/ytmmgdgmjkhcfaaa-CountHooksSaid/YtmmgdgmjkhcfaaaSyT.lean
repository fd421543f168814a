/- Integers of the program: division by more than one digit. -/
import Derived.Test.YtmmgdgmjkhcfaaaSyS
set_option linter.all false
namespace Go.Proofs.Ytmmgdgmjkhcfaaa
open Go Go.Abs Go.Num
set_option maxRecDepth 10000
attribute [local congr] bindO_congr bindF_congr bindX_congr condX_congr iteB_congr binS_congr pickS_congr eqB_congr nilS_congr clsW_congr maxS_congr minS_congr
theorem mid_get {A w Y : List Int} {i : Nat} (h : i < w.length) : (A ++ (w ++ Y)).getD (i + A.length) 0 = w.getD i 0 := by
  rw [List.getD_eq_getElem?_getD, List.getElem?_append_right (by omega), Nat.add_sub_cancel, List.getElem?_append_left h, ← List.getD_eq_getElem?_getD]
theorem mid_set {A w Y : List Int} {i : Nat} (h : i < w.length) (x : Int) : (A ++ (w ++ Y)).set (i + A.length) x = A ++ (w.set i x ++ Y) := by
  rw [List.set_append_right _ _ (by omega), Nat.add_sub_cancel, List.set_append_left _ _ h]
theorem top_get {A w Z : List Int} {e : Int} : (A ++ (w ++ (e :: Z))).getD (A.length + w.length) 0 = e := by
  rw [List.getD_eq_getElem?_getD, List.getElem?_append_right (by omega), Nat.add_sub_cancel_left, List.getElem?_append_right (Nat.le_refl _), Nat.sub_self]; rfl
theorem top_set {A w Z : List Int} {e : Int} (x : Int) : (A ++ (w ++ (e :: Z))).set (A.length + w.length) x = A ++ (w ++ (x :: Z)) := by
  rw [List.set_append_right _ _ (by omega), Nat.add_sub_cancel_left, List.set_append_right _ _ (Nat.le_refl _), Nat.sub_self]; rfl
theorem sub_step {w : List Int} {i : Nat} {c g m : Int} (h : i < w.length) : val (w.set i ((w.getD i 0 - g * m + c) % 100000000)) + B ^ (i + 1) * ((w.getD i 0 - g * m + c) / 100000000) = (val w + B ^ i * c) - B ^ i * (g * m) := by
  have := times_step (n := -g) (m := m) (c := c) h
  rw [show w.getD i 0 + -g * m + c = w.getD i 0 - g * m + c from by rw [Int.neg_mul]; omega, Int.neg_mul, Int.mul_neg] at this
  omega
theorem add_step {w : List Int} {i : Nat} {c m : Int} (h : i < w.length) : val (w.set i ((w.getD i 0 + m + c) % 100000000)) + B ^ (i + 1) * ((w.getD i 0 + m + c) / 100000000) = (val w + B ^ i * c) + B ^ i * m := by
  have := times_step (n := 1) (m := m) (c := c) h
  rw [Int.one_mul] at this
  exact this
/-- What stands in the frame throughout. -/
structure LS (a : Fr) (f : Int) (vu vv vo : Value) (n j : Int) : Prop where
  s6 : a 6 = vi f
  s7 : a 7 = vu
  s8 : a 8 = vv
  s9 : a 9 = vi n
  s10 : a 10 = vo
  s11 : a 11 = vi j
theorem LS.upd {a : Fr} {f : Int} {vu vv vo : Value} {n j : Int} (h : LS a f vu vv vo n j) {t : Nat} (ht : 12 ≤ t) (v : Value) : LS (Abs.upd a t v) f vu vv vo n j := by
  constructor <;> rw [upd_at, if_neg (by omega)]
  · exact h.s6
  · exact h.s7
  · exact h.s8
  · exact h.s9
  · exact h.s10
  · exact h.s11
noncomputable def lgS : Code := atC [1, 1, 1, 1, 1, 1, 0, 1, 0, 0, 1, 0, 0, 1, 1, 0, 1, 0, 0] ((Try.f155.body).getD .skip)
noncomputable def lgD : Code := atC [1, 1, 1, 1, 1, 1, 0, 1, 0, 0, 1, 0, 0, 1, 1, 1, 1, 0, 0, 0, 1, 0, 1, 1, 0, 1, 0, 0] ((Try.f155.body).getD .skip)
noncomputable def lgW : Code := atC [1, 1, 1, 1, 1, 1, 0, 1, 0, 0, 1, 0, 0, 1, 1, 1, 1, 0, 0, 0] ((Try.f155.body).getD .skip)
noncomputable def lgO : Code := atC [1, 1, 1, 1, 1, 1, 0, 1, 0, 0] ((Try.f155.body).getD .skip)
theorem lg_sub {B0 C0 : Nat} {H : Heap} {vu vv vo : Value} {f V g : Int} {A w Y : List Int} (hv : ∀ G, Old B0 H G → Kept C0 H G → R G vv (ints (nf V))) (V0 : 0 ≤ V) (hg : 0 ≤ g ∧ g < 100000000) (ho : OM B0 C0 H vu (ints (A ++ (w ++ Y)))) (hd : Dg w) (hl : w.length = (nf V).length) (hA : A.length ≤ 900) (ln : (nf V).length ≤ 400) (hw : WF H)
    (n m nt : Nat) (hn : 10 ≤ n) {a : Fr} {k : Nat} (hk : (nf V).length < k) (hs : LS a f vu vv vo (nf V).length A.length) (h12 : a 12 = vi g) (h13 : a 13 = vi 0) (h81 : a 81 = vi (nf V).length) (h82 : a 82 = vi (0 : Nat)) :
    ∃ r a' H', loopN (evS Try.prog (evB Try.prog noC n) m nt none lgS) k a H = some (r, a', H') ∧ r = .exit 2 ∧ LS a' f vu vv vo (nf V).length A.length ∧ a' 12 = vi g ∧ Old B0 H H' ∧ Kept C0 H H' ∧ WF H' ∧ ∃ w' c, a' 13 = vi c ∧ OM B0 C0 H' vu (ints (A ++ (w' ++ Y))) ∧ w'.length = w.length ∧ Dg w' ∧ -100000000 < c ∧ c ≤ 0 ∧ val w' + B ^ (nf V).length * c = val w - g * V := by
  refine loop_up (nf V).length (fun i a H' => LS a f vu vv vo (nf V).length A.length ∧ a 12 = vi g ∧ a 81 = vi (nf V).length ∧ a 82 = vi i ∧ Old B0 H H' ∧ Kept C0 H H' ∧ WF H' ∧ ∃ w' c, a 13 = vi c ∧ OM B0 C0 H' vu (ints (A ++ (w' ++ Y))) ∧ w'.length = w.length ∧ Dg w' ∧ -100000000 < c ∧ c ≤ 0 ∧ val w' + B ^ i * c = val w - g * val ((nf V).take i)) _ ?_ ?_ hk
    ⟨hs, h12, h81, h82, Old.refl _ _, Kept.refl _ _, hw, w, 0, h13, ho, rfl, hd, by omega, by omega, by simp [val]⟩
  · intro i a H' hi ⟨hs, h12, h81, h82, old, kept, hw, w', c, h13, ho, hl', hd, c0, c1, hval⟩
    left
    rw [show lgS = atC [1, 1, 1, 1, 1, 1, 0, 1, 0, 0, 1, 0, 0, 1, 1, 0, 1, 0, 0] ((Try.f155.body).getD .skip) from rfl]
    have hrv := hv H' old kept
    have hm := (nf_dg V0).getD i
    have hx := hd.getD i
    have hp := prod_le hg hm
    have hro := ho.O.R
    have hil : i < w'.length := by omega
    have hlt : (i : Int) < (nf V).length := by omega
    have hlen : (A ++ (w' ++ Y)).length = A.length + (w'.length + Y.length) := by rw [List.length_append, List.length_append]
    have e0 : IntKind.i64.wrap ((i : Int) + (A.length : Int)) = ((i + A.length : Nat) : Int) := by rw [wr64 (by omega) (by omega)]; omega
    have a1 : addrS 1 vu (vi ((i + A.length : Nat) : Int)) = some (pt vu (i + A.length)) := by have := hro.addrI (i := ((i + A.length : Nat) : Int)) (by omega) (by omega); rwa [Int.toNat_natCast] at this
    have l1 : loadS (pt vu (i + A.length)) H' = some (vi (w'.getD i 0)) := by rw [hro.loadI (by omega), mid_get hil]
    have e1 : IntKind.i64.wrap (g * (nf V).getD i 0) = g * (nf V).getD i 0 := wr64 (by omega) (by omega)
    have e2 : IntKind.i64.wrap (w'.getD i 0 - g * (nf V).getD i 0) = w'.getD i 0 - g * (nf V).getD i 0 := wr64 (by omega) (by omega)
    have e3 : IntKind.i64.wrap (w'.getD i 0 - g * (nf V).getD i 0 + c) = w'.getD i 0 - g * (nf V).getD i 0 + c := wr64 (by omega) (by omega)
    have s1 := floored_run (z := w'.getD i 0 - g * (nf V).getD i 0 + c) (by omega) (by omega) n H' hn
    have e7 : IntKind.i64.wrap ((i : Int) + 1) = ((i + 1 : Nat) : Int) := by rw [wr64 (by omega) (by omega)]; omega
    obtain ⟨H2, s2, o2, old2, wf2, k2⟩ := ho.setKI hw (i := i + A.length) (by omega) ((w'.getD i 0 - g * (nf V).getD i 0 + c) % 100000000)
    rw [mid_set hil] at o2
    simp (disch := omega) only [Try.f155, Option.getD_some, atC, es_seq, es_region, es_draw, d0, es_cond, es_block, es_skip, ops_nil, ops_cons, opsV_nil, opsV_cons, st_move, st_assign, st_fun, sy_addr eL, sy_load aI, sy_store zI, sy_bin, sy_ext, ext_20, ext_21, binS_lss, binS_add, binS_sub, binS_mul, bindO_some, bindF_some, bindX_normal, blkX_normal, condX_true, iteB_true, iteB_false, ev_tmp, ev_const, ev_func, putA, upd_at, Option.map_some, ↓reduceIte, Nat.reduceEqDiff, Int.toNat_natCast, List.map_cons, List.map_nil, decide_true, ↓bindO_some, ↓bindF_some, ↓bindX_normal, ↓condX_true, ↓iteB_true, ↓iteB_false, reflV_load, reflV_move, reflV_assign, reflV_bin, reflV_addr, reflV_call, reflV_extract, vEq_vi, hs.s7, hs.s8, hs.s11, h12, h13, h81, h82, hlt, hrv.addrI, hrv.loadI, e0, a1, l1, e1, e2, e3, s1, s2, e7]
    refine ⟨_, _, rfl, (by repeat refine LS.upd ?_ (by decide) _
                           exact hs), h12, h81, rfl, old.trans old2, Kept.trans kept k2, wf2, _, _, by simp only [upd_at, ↓reduceIte, Nat.reduceEqDiff]; rfl, o2, by rw [List.length_set]; exact hl', hd.set i (by omega) (by omega), by omega, by omega, ?_⟩
    rw [sub_step hil, hval, val_take_succ, Int.mul_add, Int.mul_left_comm g (B ^ i)]
    omega
  · intro a H' ⟨hs, h12, h81, h82, old, kept, hw, w', c, h13, ho, hl', hd, c0, c1, hval⟩
    rw [show lgS = atC [1, 1, 1, 1, 1, 1, 0, 1, 0, 0, 1, 0, 0, 1, 1, 0, 1, 0, 0] ((Try.f155.body).getD .skip) from rfl]
    simp (disch := omega) only [Try.f155, Option.getD_some, atC, es_seq, es_region, es_cond, es_exit, ops_nil, ops_cons, sy_bin, binS_lss, bindO_some, bindF_some, bindX_normal, bindX_exit, condX_false, ev_tmp, putA, upd_at, ↓reduceIte, decide_false, ↓bindO_some, ↓bindF_some, ↓bindX_normal, ↓bindX_exit, ↓condX_false, h81, h82, Int.lt_irrefl]
    exact ⟨_, _, _, rfl, by simp, rfl, (by repeat refine LS.upd ?_ (by decide) _
                                           exact hs), h12, old, kept, hw, w', c, h13, ho, hl', hd, c0, c1, by rw [hval, List.take_length, nf_val]⟩
theorem lg_add {B0 C0 : Nat} {H : Heap} {vu vv vo : Value} {f V g : Int} {A w Y : List Int} (hv : ∀ G, Old B0 H G → Kept C0 H G → R G vv (ints (nf V))) (V0 : 0 ≤ V) (ho : OM B0 C0 H vu (ints (A ++ (w ++ Y)))) (hd : Dg w) (hl : w.length = (nf V).length) (hA : A.length ≤ 900) (ln : (nf V).length ≤ 400) (hw : WF H)
    (n m nt : Nat) (hn : 10 ≤ n) {a : Fr} {k : Nat} (hk : (nf V).length < k) (hs : LS a f vu vv vo (nf V).length A.length) (h12 : a 12 = vi g) (h13 : a 13 = vi 0) (h81 : a 130 = vi (nf V).length) (h82 : a 131 = vi (0 : Nat)) :
    ∃ r a' H', loopN (evS Try.prog (evB Try.prog noC n) m nt none lgD) k a H = some (r, a', H') ∧ r = .exit 6 ∧ LS a' f vu vv vo (nf V).length A.length ∧ a' 12 = vi g ∧ Old B0 H H' ∧ Kept C0 H H' ∧ WF H' ∧ ∃ w' c, a' 13 = vi c ∧ OM B0 C0 H' vu (ints (A ++ (w' ++ Y))) ∧ w'.length = w.length ∧ Dg w' ∧ 0 ≤ c ∧ c ≤ 1 ∧ val w' + B ^ (nf V).length * c = val w + V := by
  refine loop_up (nf V).length (fun i a H' => LS a f vu vv vo (nf V).length A.length ∧ a 12 = vi g ∧ a 130 = vi (nf V).length ∧ a 131 = vi i ∧ Old B0 H H' ∧ Kept C0 H H' ∧ WF H' ∧ ∃ w' c, a 13 = vi c ∧ OM B0 C0 H' vu (ints (A ++ (w' ++ Y))) ∧ w'.length = w.length ∧ Dg w' ∧ 0 ≤ c ∧ c ≤ 1 ∧ val w' + B ^ i * c = val w + val ((nf V).take i)) _ ?_ ?_ hk
    ⟨hs, h12, h81, h82, Old.refl _ _, Kept.refl _ _, hw, w, 0, h13, ho, rfl, hd, by omega, by omega, by simp [val]⟩
  · intro i a H' hi ⟨hs, h12, h81, h82, old, kept, hw, w', c, h13, ho, hl', hd, c0, c1, hval⟩
    left
    rw [show lgD = atC [1, 1, 1, 1, 1, 1, 0, 1, 0, 0, 1, 0, 0, 1, 1, 1, 1, 0, 0, 0, 1, 0, 1, 1, 0, 1, 0, 0] ((Try.f155.body).getD .skip) from rfl]
    have hrv := hv H' old kept
    have hm := (nf_dg V0).getD i
    have hx := hd.getD i
    have hro := ho.O.R
    have hil : i < w'.length := by omega
    have hlt : (i : Int) < (nf V).length := by omega
    have hlen : (A ++ (w' ++ Y)).length = A.length + (w'.length + Y.length) := by rw [List.length_append, List.length_append]
    have e0 : IntKind.i64.wrap ((i : Int) + (A.length : Int)) = ((i + A.length : Nat) : Int) := by rw [wr64 (by omega) (by omega)]; omega
    have a1 : addrS 1 vu (vi ((i + A.length : Nat) : Int)) = some (pt vu (i + A.length)) := by have := hro.addrI (i := ((i + A.length : Nat) : Int)) (by omega) (by omega); rwa [Int.toNat_natCast] at this
    have l1 : loadS (pt vu (i + A.length)) H' = some (vi (w'.getD i 0)) := by rw [hro.loadI (by omega), mid_get hil]
    have e2 : IntKind.i64.wrap (w'.getD i 0 + (nf V).getD i 0) = w'.getD i 0 + (nf V).getD i 0 := wr64 (by omega) (by omega)
    have e3 : IntKind.i64.wrap (w'.getD i 0 + (nf V).getD i 0 + c) = w'.getD i 0 + (nf V).getD i 0 + c := wr64 (by omega) (by omega)
    have s1 := floored_run (z := w'.getD i 0 + (nf V).getD i 0 + c) (by omega) (by omega) n H' hn
    have e7 : IntKind.i64.wrap ((i : Int) + 1) = ((i + 1 : Nat) : Int) := by rw [wr64 (by omega) (by omega)]; omega
    obtain ⟨H2, s2, o2, old2, wf2, k2⟩ := ho.setKI hw (i := i + A.length) (by omega) ((w'.getD i 0 + (nf V).getD i 0 + c) % 100000000)
    rw [mid_set hil] at o2
    simp (disch := omega) only [Try.f155, Option.getD_some, atC, es_seq, es_region, es_draw, d0, es_cond, es_block, es_skip, ops_nil, ops_cons, opsV_nil, opsV_cons, st_move, st_assign, st_fun, sy_addr eL, sy_load aI, sy_store zI, sy_bin, sy_ext, ext_20, ext_21, binS_lss, binS_add, bindO_some, bindF_some, bindX_normal, blkX_normal, condX_true, iteB_true, iteB_false, ev_tmp, ev_const, ev_func, putA, upd_at, Option.map_some, ↓reduceIte, Nat.reduceEqDiff, Int.toNat_natCast, List.map_cons, List.map_nil, decide_true, ↓bindO_some, ↓bindF_some, ↓bindX_normal, ↓condX_true, ↓iteB_true, ↓iteB_false, reflV_load, reflV_move, reflV_assign, reflV_bin, reflV_addr, reflV_call, reflV_extract, vEq_vi, hs.s7, hs.s8, hs.s11, h13, h81, h82, hlt, hrv.addrI, hrv.loadI, e0, a1, l1, e2, e3, s1, s2, e7]
    refine ⟨_, _, rfl, (by repeat refine LS.upd ?_ (by decide) _
                           exact hs), h12, h81, rfl, old.trans old2, Kept.trans kept k2, wf2, _, _, by simp only [upd_at, ↓reduceIte, Nat.reduceEqDiff]; rfl, o2, by rw [List.length_set]; exact hl', hd.set i (by omega) (by omega), by omega, by omega, ?_⟩
    rw [add_step hil, hval, val_take_succ]
    omega
  · intro a H' ⟨hs, h12, h81, h82, old, kept, hw, w', c, h13, ho, hl', hd, c0, c1, hval⟩
    rw [show lgD = atC [1, 1, 1, 1, 1, 1, 0, 1, 0, 0, 1, 0, 0, 1, 1, 1, 1, 0, 0, 0, 1, 0, 1, 1, 0, 1, 0, 0] ((Try.f155.body).getD .skip) from rfl]
    simp (disch := omega) only [Try.f155, Option.getD_some, atC, es_seq, es_region, es_cond, es_exit, ops_nil, ops_cons, sy_bin, binS_lss, bindO_some, bindF_some, bindX_normal, bindX_exit, condX_false, ev_tmp, putA, upd_at, ↓reduceIte, decide_false, ↓bindO_some, ↓bindF_some, ↓bindX_normal, ↓bindX_exit, ↓condX_false, h81, h82, Int.lt_irrefl]
    exact ⟨_, _, _, rfl, by simp, rfl, (by repeat refine LS.upd ?_ (by decide) _
                                           exact hs), h12, old, kept, hw, w', c, h13, ho, hl', hd, c0, c1, by rw [hval, List.take_length, nf_val]⟩
theorem divmod_of {T g V : Int} (h0 : 0 ≤ T - g * V) (h1 : T < (g + 1) * V) : T / V = g ∧ T % V = T - g * V := by
  rw [Int.add_mul, Int.one_mul] at h1
  have e : T = (T - g * V) + V * g := by rw [Int.mul_comm V g]; omega
  have hV : 0 < V := by omega
  constructor
  · rw [e, Int.add_mul_ediv_left _ _ (by omega), Int.ediv_eq_zero_of_lt h0 (by omega)]; omega
  · conv => lhs; rw [e]
    rw [Int.add_mul_emod_self_left, Int.emod_eq_of_lt h0 (by omega)]
theorem lg_while {B0 C0 : Nat} {H : Heap} {vu vv vo : Value} {f V g T e : Int} {A w Z : List Int} (hv : ∀ G, Old B0 H G → Kept C0 H G → R G vv (ints (nf V))) (V0 : 0 < V) (T0 : 0 ≤ T) (hg : 0 ≤ g ∧ g < 100000000) (ho : OM B0 C0 H vu (ints (A ++ (w ++ (e :: Z))))) (hd : Dg w) (hl : w.length = (nf V).length) (he : -100000000 < e ∧ e < 100000000)
    (hval : val w + B ^ (nf V).length * e = T - g * V) (hT : T < (g + 1) * V) (hA : A.length ≤ 900) (ln : (nf V).length ≤ 400) (hw : WF H)
    (n m nt : Nat) (hn : 10 ≤ n) (hm : 1000 ≤ m) {a : Fr} {k : Nat} (hk : 100000000 ≤ k) (hs : LS a f vu vv vo (nf V).length A.length) (h12 : a 12 = vi g) :
    ∃ r a' H', loopN (evS Try.prog (evB Try.prog noC n) m nt none lgW) k a H = some (r, a', H') ∧ r = .exit 4 ∧ LS a' f vu vv vo (nf V).length A.length ∧ a' 12 = vi (T / V) ∧ Old B0 H H' ∧ Kept C0 H H' ∧ WF H' ∧ ∃ w', OM B0 C0 H' vu (ints (A ++ (w' ++ (0 :: Z)))) ∧ w'.length = w.length ∧ Dg w' ∧ val w' = T % V := by
  refine loop_wf (fun j a H' => ∃ g w1 e, j = g.toNat ∧ 0 ≤ g ∧ g < 100000000 ∧ LS a f vu vv vo (nf V).length A.length ∧ a 12 = vi g ∧ Old B0 H H' ∧ Kept C0 H H' ∧ WF H' ∧ OM B0 C0 H' vu (ints (A ++ (w1 ++ (e :: Z)))) ∧ w1.length = w.length ∧ Dg w1 ∧ -100000000 < e ∧ e < 100000000 ∧ val w1 + B ^ (nf V).length * e = T - g * V ∧ T < (g + 1) * V) _ ?_ k g.toNat a H (by omega)
    ⟨g, w, e, rfl, hg.1, hg.2, hs, h12, Old.refl _ _, Kept.refl _ _, hw, ho, rfl, hd, he.1, he.2, hval, hT⟩
  intro j a H' ⟨g, w1, e, hj, g0, g1, hs, h12, old, kept, hw, ho, hl', hd, he0, he1, hval, hT⟩
  rw [show lgW = atC [1, 1, 1, 1, 1, 1, 0, 1, 0, 0, 1, 0, 0, 1, 1, 1, 1, 0, 0, 0] ((Try.f155.body).getD .skip) from rfl]
  have hro := ho.O.R
  have hlen : (A ++ (w1 ++ (e :: Z))).length = A.length + (w1.length + (Z.length + 1)) := by rw [List.length_append, List.length_append, List.length_cons]
  have e0 : IntKind.i64.wrap ((A.length : Int) + ((nf V).length : Int)) = ((A.length + w1.length : Nat) : Int) := by rw [wr64 (by omega) (by omega)]; omega
  have a1 : addrS 1 vu (vi ((A.length + w1.length : Nat) : Int)) = some (pt vu (A.length + w1.length)) := by have := hro.addrI (i := ((A.length + w1.length : Nat) : Int)) (by omega) (by omega); rwa [Int.toNat_natCast] at this
  have l1 : loadS (pt vu (A.length + w1.length)) H' = some (vi e) := by rw [hro.loadI (by omega), top_get]
  have hw1 := hd.val
  have hpB := pow_pos (nf V).length
  have hsV := (nf_size V).2
  rw [show w1.length = (nf V).length from by omega] at hw1
  by_cases hneg : e < 0
  · left
    have hBe : B ^ (nf V).length * e ≤ B ^ (nf V).length * (-1) := Int.mul_le_mul_of_nonneg_left (by omega) (by omega)
    have hg1 : 1 ≤ g := by
      apply Decidable.byContradiction
      intro h
      have : g = 0 := by omega
      subst this
      rw [Int.zero_mul] at hval
      omega
    have c1 : IntKind.i64.wrap (g - 1) = g - 1 := wr64 (by omega) (by omega)
    have key := fun (A' : Fr) => lg_add (f := f) (vo := vo) (g := g - 1) (A := A) (w := w1) (Y := e :: Z) (fun G h1 h2 => hv G (old.trans h1) (Kept.trans kept h2)) (by omega : 0 ≤ V) ho hd (by omega) hA ln hw n m nt hn (a := A') (k := m) (by omega)
    rw [show lgD = atC [1, 1, 1, 1, 1, 1, 0, 1, 0, 0, 1, 0, 0, 1, 1, 1, 1, 0, 0, 0, 1, 0, 1, 1, 0, 1, 0, 0] ((Try.f155.body).getD .skip) from rfl] at key
    simp only [Try.f155, Option.getD_some, atC] at key
    simp (disch := omega) only [Try.f155, Option.getD_some, atC, es_seq, es_region, es_cond, es_block, es_loop, es_skip, ops_nil, ops_cons, st_move, st_assign, sy_addr eL, sy_load aI, sy_store zI, sy_bin, binS_lss, binS_add, binS_sub, bindO_some, bindF_some, bindX_normal, condX_true, ev_tmp, ev_const, putA, upd_at, Option.map_some, ↓reduceIte, Nat.reduceEqDiff, decide_true, ↓bindO_some, ↓bindF_some, ↓bindX_normal, ↓condX_true, hs.s7, hs.s9, hs.s11, h12, e0, a1, l1, hneg, c1]
    generalize hA' : upd _ 131 _ = A'
    obtain ⟨r, a', H2, e', hr, hs', g12, old2, k2, wf2, w2, c, g13, ho2, hl2, hd2, c0, c2, hval2⟩ := key A' (by
      subst hA'
      repeat refine LS.upd ?_ (by decide) _
      exact hs) (by subst hA'; rfl) (by subst hA'; rfl) (by subst hA'; rfl) (by subst hA'; rfl)
    subst hr
    rw [e']
    clear e' key
    have hro2 := ho2.O.R
    have hlen2 : (A ++ (w2 ++ (e :: Z))).length = A.length + (w2.length + (Z.length + 1)) := by rw [List.length_append, List.length_append, List.length_cons]
    rw [show w1.length = w2.length from hl2.symm] at e0
    have a2 : addrS 1 vu (vi ((A.length + w2.length : Nat) : Int)) = some (pt vu (A.length + w2.length)) := by have := hro2.addrI (i := ((A.length + w2.length : Nat) : Int)) (by omega) (by omega); rwa [Int.toNat_natCast] at this
    have l2 : loadS (pt vu (A.length + w2.length)) H2 = some (vi e) := by rw [hro2.loadI (by omega), top_get]
    have c3 : IntKind.i64.wrap (e + c) = e + c := wr64 (by omega) (by omega)
    obtain ⟨H3, s3, o3, old3, wf3, k3⟩ := ho2.setKI wf2 (i := A.length + w2.length) (by omega) (e + c)
    rw [top_set] at o3
    simp (disch := omega) only [binS_add, bindO_some, bindF_some, bindX_normal, blkX_normal, blkX_exit, Option.map_some, ↓reduceIte, ↓bindO_some, ↓bindF_some, ↓bindX_normal, hs'.s7, hs'.s9, hs'.s11, g13, e0, a2, l2, c3, s3]
    refine ⟨_, _, rfl, (g - 1).toNat, by omega, g - 1, w2, e + c, rfl, by omega, by omega, (by
      repeat refine LS.upd ?_ (by decide) _
      exact hs'), g12, (old.trans old2).trans old3, Kept.trans (Kept.trans kept k2) k3, wf3, o3, by omega, hd2, by omega, by omega, ?_, ?_⟩
    · rw [Int.mul_add, Int.sub_mul, Int.one_mul]; omega
    · rw [Int.sub_add_cancel]; omega
  · right
    simp (disch := omega) only [Try.f155, Option.getD_some, atC, es_seq, es_region, es_cond, es_exit, ops_nil, ops_cons, st_move, sy_addr eL, sy_load aI, sy_bin, binS_lss, binS_add, bindO_some, bindF_some, bindX_normal, bindX_exit, condX_false, ev_tmp, ev_const, putA, upd_at, Option.map_some, ↓reduceIte, Nat.reduceEqDiff, decide_false, ↓bindO_some, ↓bindF_some, ↓bindX_normal, ↓bindX_exit, ↓condX_false, hs.s7, hs.s9, hs.s11, e0, a1, l1, hneg]
    have hBe := Int.mul_nonneg (Int.le_of_lt hpB) (by omega : 0 ≤ e)
    obtain ⟨q1, q2⟩ := divmod_of (T := T) (g := g) (V := V) (by omega) hT
    have hez : e = 0 := by
      apply Decidable.byContradiction
      intro h
      have : B ^ (nf V).length * 1 ≤ B ^ (nf V).length * e := Int.mul_le_mul_of_nonneg_left (by omega) (by omega)
      rw [Int.add_mul, Int.one_mul] at hT
      omega
    subst hez
    rw [Int.mul_zero] at hval
    refine ⟨_, _, _, rfl, by simp, rfl, (by
      repeat refine LS.upd ?_ (by decide) _
      exact hs), by simp only [upd_at, ↓reduceIte, Nat.reduceEqDiff, h12, q1], old, kept, hw, w1, ho, hl', hd, by omega⟩
end Go.Proofs.Ytmmgdgmjkhcfaaa
