/- Of the law: texts of its proof, joined (part 13). -/
import Derived.Test.YtmdnofcphdjieaaGreatDoorQow12
import Derived.Test.YtmdnofcphdjieaaGreatDoorQow3
import Derived.Test.YtmdnofcphdjieaaGreatDoorQow4
import Derived.Test.YtmdnofcphdjieaaGreatDoorQow5
import Derived.Test.YtmdnofcphdjieaaGreatDoorQow6
import Derived.Test.YtmdnofcphdjieaaGreatDoorQow7
import Derived.Test.YtmdnofcphdjieaaGreatDoorQow8
set_option linter.all false
namespace Go.Proofs.YtmdnofcphdjieaaGreatDoor
open Go Go.Abs
theorem aI : isAggT Tryz.prog 3 = some false := by kernel_rfl
theorem b_ft : (false == true) = false := (rfl)
theorem ok_fn {f : Nat} {fn : Func} {c : Code} (ho : okN f = true) (hf : Tryz.prog.funcs[f]? = some fn) (hb : fn.body = some c) : funcOk fn c = true := hF f fn c ho hf hb
theorem ansB {m g : Nat} {args : List VV} {r : VV} {fresh : Bool} (h : AnsAt (evBody Tryz.prog (evB Tryz.prog bC m) m) g args r fresh) (hb : ∀ vs H, bC (.func (.func g) #[] #[]) vs H = none := by intros; rfl) : AnsAt (evB Tryz.prog bC (m + 1)) g args r fresh := by
  intro Z H vs hw hA
  obtain ⟨v, H', h1, h2⟩ := h Z H vs hw hA
  exact ⟨v, H', by rw [evB_body (hb vs H)]; exact h1, h2⟩
def OK (F f : Nat) (s : VSpec) : Prop := ∀ n, F ≤ n → VSpecOK (evB Tryz.prog bC n) f s
theorem OK.mono {F F' f : Nat} {s : VSpec} (h : OK F f s) (hf : F ≤ F') : OK F' f s := fun n hn => h n (by omega)
theorem packV_rp {l : List VV} {cs : List VV} (h : packV l = .rp cs) : l = [.rp cs] := by
  unfold packV at h
  split at h
  · subst h; rfl
  · cases h
theorem peek_rp {σ : VSt} {A : VV} {cs : List VV} (h : peek σ A = some (.rp cs)) : False := by
  cases A with
  | st l => simp only [peek] at h; split at h <;> cases h
  | tup l => simp only [peek] at h; split at h <;> cases h
  | own id ver =>
    simp only [peek, peek1] at h
    split at h
    · split at h <;> cases h
    · cases h
  | _ => cases h
theorem resV_rp {σ : VSt} {a : VF} {rs : List ResultVar} {cs : List VV} (h : resV Tryz.prog σ a rs = some [.rp cs]) : False := by
  cases rs with
  | nil => cases h
  | cons r rs =>
    cases r with
    | tmp t =>
      simp only [resV] at h
      split at h
      · rename_i q1 q2 q3 h1 h2 h3
        injection h with h; injection h with e1 e2; subst e1
        exact peek_rp (by assumption)
      · cases h
    | cell t ty =>
      simp only [resV] at h
      split at h
      · rename_i q1 q2 h1 h2
        injection h with h; injection h with e1 e2; subst e1
        cases hl : loadV Tryz.prog ty σ (a t) with
        | none => rw [hl] at h1; cases h1
        | some B => rw [hl] at h1; exact peek_rp h1
      · cases h
theorem fin_rp {rs : List ResultVar} {x : Option (X × VF × VSt × Nat)} {r : VV} {fresh : Bool} (h : finV Tryz.prog rs x = some (r, fresh)) : ∀ cs, r ≠ .rp cs := by
  rintro cs rfl
  unfold finV at h
  have key : ∀ {A' σ'}, (resV Tryz.prog σ' A' rs).map (fun vs => (packV vs, freshV A' rs)) = some (VV.rp cs, fresh) → False := by
    intro A' σ' h2
    cases hr : resV Tryz.prog σ' A' rs with
    | none => rw [hr] at h2; cases h2
    | some l =>
      rw [hr] at h2
      injection h2 with h2; injection h2 with e1 _
      rw [packV_rp e1] at hr
      exact resV_rp hr
  split at h
  · exact key h
  · exact key h
  · cases h
theorem OK.of {F g : Nat} {s : VSpec} {fn : Func} {x : Code} {tb : List (Nat × VSpec)} {pol : Nat → Bool} (htb : ∀ y ∈ tb, OK F y.1 y.2) (hfn : Tryz.prog.funcs[g]? = some fn) (hb : fn.body = some x) (hok : funcOk fn x = true) (hd : drawsOk (fun id => pol (1000000 + id)) x = true)
    (hbc : ∀ vs H, bC (.func (.func g) #[] #[]) vs H = none)
    (h : ∀ n, F ≤ n → ∀ args r fresh, s args = some (r, fresh) → ∃ args', (∀ Z H vs, RepCL Z H args vs → RepCL Z H args' vs) ∧ args'.length ≤ fn.ntmps ∧ finV Tryz.prog fn.results.toList (evVC Tryz.prog (callOf tb) pol n x (frV args') (fun _ => none) 0) = some (r, fresh)) : OK (F + 1) g s := by
  intro n hn args r fresh hs
  obtain ⟨m, rfl⟩ : ∃ m, n = m + 1 := ⟨n - 1, by omega⟩
  obtain ⟨args', h1, h2, h3⟩ := h m (by omega) args r fresh hs
  exact (AnsAt.args (args' := args') (ansB (fn_sound (callOf_ok fun y hy => htb y hy m (by omega)) hfn hb hok hd h2 h3) hbc) h1).x (fin_rp h3)
section
variable {α β γ : Type} {F g : Nat} {fn : Func} {x : Code} {tb : List (Nat × VSpec)} {pol : Nat → Bool} {fr : Bool}
theorem OK.of1 {c : Cod α} {p : α → Bool} {gg : α → VV} (htb : ∀ y ∈ tb, OK F y.1 y.2) (hl : 1 ≤ fn.ntmps) (hfn : Tryz.prog.funcs[g]? = some fn) (hb : fn.body = some x) (hok : funcOk fn x = true) (hd : drawsOk (fun id => pol (1000000 + id)) x = true)
    (hbc : ∀ vs H, bC (.func (.func g) #[] #[]) vs H = none)
    (h : ∀ n, F ≤ n → ∀ y, p y = true → finV Tryz.prog fn.results.toList (evVC Tryz.prog (callOf tb) pol n x (frV [c.enc y]) (fun _ => none) 0) = some (gg y, fr)) : OK (F + 1) g (spec1 c p gg fr) := by
  refine OK.of (tb := tb) (pol := pol) htb hfn hb hok hd hbc fun n hn args r fresh hs => ?_
  obtain ⟨y, h1, rfl, rfl, h2⟩ := spec1_inv hs
  exact ⟨_, h2, hl, h n hn y h1⟩
theorem OK.of2 {c : Cod α} {d : Cod β} {p : α → β → Bool} {gg : α → β → VV} (htb : ∀ y ∈ tb, OK F y.1 y.2) (hl : 2 ≤ fn.ntmps) (hfn : Tryz.prog.funcs[g]? = some fn) (hb : fn.body = some x) (hok : funcOk fn x = true) (hd : drawsOk (fun id => pol (1000000 + id)) x = true)
    (hbc : ∀ vs H, bC (.func (.func g) #[] #[]) vs H = none)
    (h : ∀ n, F ≤ n → ∀ y z, p y z = true → finV Tryz.prog fn.results.toList (evVC Tryz.prog (callOf tb) pol n x (frV [c.enc y, d.enc z]) (fun _ => none) 0) = some (gg y z, fr)) : OK (F + 1) g (spec2 c d p gg fr) := by
  refine OK.of (tb := tb) (pol := pol) htb hfn hb hok hd hbc fun n hn args r fresh hs => ?_
  obtain ⟨y, z, h1, rfl, rfl, h2⟩ := spec2_inv hs
  exact ⟨_, h2, hl, h n hn y z h1⟩
end
end Go.Proofs.YtmdnofcphdjieaaGreatDoor
namespace Go.Proofs.YtmdnofcphdjieaaGreatDoor
open Go Go.Abs
noncomputable def sfs (t : TypeId) : Array Field := match Tryz.prog.underlying t with
  | some (.struct fs) => fs
  | _ => #[]
end Go.Proofs.YtmdnofcphdjieaaGreatDoor
namespace Go.Proofs.YtmdnofcphdjieaaGreatDoor
open Go Go.Abs
theorem aU : isAggT Tryz.prog 24 = some true := by kernel_rfl
theorem zU : sizeT Tryz.prog 24 = some 4 := by kernel_rfl
theorem fU0 : fieldOff Tryz.prog 24 0 = some 0 := by kernel_rfl
theorem fU1 : fieldOff Tryz.prog 24 1 = some 1 := by kernel_rfl
theorem fU2 : fieldOff Tryz.prog 24 2 = some 2 := by kernel_rfl
theorem fU3 : fieldOff Tryz.prog 24 3 = some 3 := by kernel_rfl
theorem uU : Tryz.prog.underlying 24 = some (.struct (sfs 24)) := by kernel_rfl
theorem oU : sizesOf Tryz.prog (sfs 24).toList = some [(0, 1), (1, 1), (2, 1), (3, 1)] := by kernel_rfl
theorem iU : zeroV Tryz.prog 24 = some [.sc (vi 0), .sc (vi 0), .sc (vi 0), .sc (vi 0)] := by kernel_rfl
theorem bU {σ : VSt} {a b c d : Value} : buildV Tryz.prog σ 24 [(0, .sc a), (1, .sc b), (2, .sc c), (3, .sc d)] = some (.st [.sc a, .sc b, .sc c, .sc d]) := by
  unfold buildV
  rw [iU, uU]
  simp only [oU, fillV, scalV, List.getElem?_cons_zero, List.getElem?_cons_succ, List.length_cons, List.length_nil]
  rfl
theorem bU0 {σ : VSt} : buildV Tryz.prog σ 24 [] = some (.st [.sc (vi 0), .sc (vi 0), .sc (vi 0), .sc (vi 0)]) := by
  unfold buildV
  rw [iU, uU]
  simp only [oU, fillV, Option.map_some]
end Go.Proofs.YtmdnofcphdjieaaGreatDoor
namespace Go.Proofs.YtmdnofcphdjieaaGreatDoor
open Go Go.Abs
set_option maxRecDepth 10000
attribute [local congr] bindS_congr bindG_congr bindC_congr condV_congr grdV_congr pickV_congr binV_congr optG_congr optP_congr optL_congr optD_congr opt1_congr gO_congr ldS_congr ansS_congr iteB_congr rdC_congr idxV_congr
def small (z : Int) : Bool := decide (-1000000 ≤ z) && decide (z ≤ 1000000)
theorem small_ok : OK 1 82 (spec1 cI (fun _ => true) (fun z => vB (small z)) false) := by
  refine OK.of1 (F := 0) (tb := []) (pol := fun _ => false) (by simp) (x := (Tryz.f82.body).getD .skip) (Nat.le_of_ble_eq_true rfl) Tryz.func82 rfl (ok_fn (by rfl) Tryz.func82 rfl) (by kernel_rfl) (by intros; rfl) fun n hn z hc => ?_
  by_cases h1 : -1000000 ≤ z
  · simp (disch := omega) only [Tryz.f82, Option.getD_some, vo_nil, List.getElem?_toArray, vo_cons, vo_consG, guardS_some, gdV_b, vc_region, vc_seq, vc_ret, vs_move, vs_assign, vs_pick, vs_bin, binV_leq, binV_geq, bindS_some, bindG_some, bindC_n, grdV_t, pickV_t, ↓bindS_some, ↓bindG_some, ↓bindC_n, ↓grdV_t, ↓pickV_t, updV_at, evV_tmp, evV_int, evV_bool, putV_some, optL_some, ↓optL_some, rs_nil, rs_tmp, tmpV_sc, fv_r, pv_1, fsh_1, isOwn_sc, frV_0, ↓reduceIte, Nat.reduceEqDiff, decide_true, List.getElem?_cons_zero, List.getElem?_cons_succ, beq_self_eq_true, Option.getD_some, enc_I, h1]
    unfold small
    rw [decide_eq_true h1, Bool.true_and]
  · simp (disch := omega) only [Tryz.f82, Option.getD_some, vo_nil, List.getElem?_toArray, vo_cons, vo_consG, guardS_some, gdV_b, vc_region, vc_seq, vc_ret, vs_move, vs_assign, vs_pick, vs_bin, binV_geq, bindS_some, bindG_some, bindC_n, grdV_f, pickV_f, ↓bindS_some, ↓bindG_some, ↓bindC_n, ↓grdV_f, ↓pickV_f, updV_at, evV_tmp, evV_int, evV_bool, putV_some, optL_some, ↓optL_some, rs_nil, rs_tmp, tmpV_sc, fv_r, pv_1, fsh_1, isOwn_sc, frV_0, ↓reduceIte, Nat.reduceEqDiff, decide_false, List.getElem?_cons_zero, List.getElem?_cons_succ, b_ft, Option.getD_some, enc_I, h1]
    unfold small
    rw [decide_eq_false h1, Bool.false_and]
abbrev Un := Int × Int × Int × Int
def smallU (m : Un) : Bool := small m.1 && small m.2.1 && small m.2.2.1 && small m.2.2.2
abbrev smT : List (Nat × VSpec) := [(82, spec1 cI (fun _ => true) (fun z => vB (small z)) false)]
theorem smAll_ok : OK 2 44 (spec1 cU (fun _ => true) (fun m => vB (smallU m)) false) := by
  refine OK.of1 (F := 1) (tb := smT) (pol := fun _ => false) ?_ (x := (Tryz.f44.body).getD .skip) (Nat.le_of_ble_eq_true rfl) Tryz.func44 rfl (ok_fn (by rfl) Tryz.func44 rfl) (by kernel_rfl) (by intros; rfl) fun n hn m hc => ?_
  · intro y hy
    simp only [smT, List.mem_singleton] at hy
    subst hy
    exact small_ok
  obtain ⟨a, b, c, d⟩ := m
  unfold smallU
  cases h1 : small a <;> cases h2 : small b <;> cases h3 : small c <;> cases h4 : small d <;>
    simp (disch := omega) only [Tryz.f44, Option.getD_some, vo_nil, List.getElem?_toArray, vo_cons, vo_consG, guardS_some, gdV_b, vc_region, vc_seq, vc_ret, vs_move, vs_assign, vs_pick, vs_box, vs_load, vs_faddr, vs_call, bindS_some, bindG_some, bindC_n, grdV_t, grdV_f, pickV_t, pickV_f, ↓bindS_some, ↓bindG_some, ↓bindC_n, ↓grdV_t, ↓grdV_f, ↓pickV_t, ↓pickV_f, rtV_some, boxV_some, updV_at, evV_tmp, evV_func, evV_bool, putV_some, getO_eq, gO_same, optG_some, optP_some, optL_some, ↓optG_some, ↓optP_some, ↓optL_some, ld_ptr aI, ldS_sc, mkBox_some, pk_nil, pk_cons, pk_sc, vcall, ansS_sc, callOf_cons, rs_nil, rs_tmp, tmpV_sc, fv_r, pv_1, fsh_1, isOwn_sc, frV_0, ↓reduceIte, Nat.reduceEqDiff, Nat.zero_add, Nat.add_zero, List.map_cons, List.map_nil, List.getElem?_cons_zero, List.getElem?_cons_succ, beq_self_eq_true, b_ft, iteB_true, ↓iteB_true, Bool.and_true, Bool.and_false, Option.getD_some, sp1, enc_U, optD_some, ↓optD_some, dec_I, sv_st, fa_ptr fU0, fa_ptr fU1, fa_ptr fU2, fa_ptr fU3, h1, h2, h3, h4]
theorem small_iff {z : Int} : small z = true ↔ -1000000 ≤ z ∧ z ≤ 1000000 := by unfold small; simp
theorem mul_b {a b : Int} (h1 : -1000000 ≤ a ∧ a ≤ 1000000) (h2 : -1000000 ≤ b ∧ b ≤ 1000000) : -1000000000000 ≤ a * b ∧ a * b ≤ 1000000000000 := by
  have k : (a * b).natAbs ≤ 1000000000000 := by
    rw [Int.natAbs_mul]
    have x1 : a.natAbs ≤ 1000000 := by omega
    have x2 : b.natAbs ≤ 1000000 := by omega
    exact Nat.le_trans (Nat.mul_le_mul x1 x2) (by decide)
  omega
theorem w64 {z : Int} (h : -9000000000000000000 ≤ z ∧ z ≤ 9000000000000000000) : IntKind.i64.wrap z = z := wr64 (by omega) (by omega)
theorem smallU_iff {a b c d : Int} : smallU (a, b, c, d) = true ↔ (-1000000 ≤ a ∧ a ≤ 1000000) ∧ (-1000000 ≤ b ∧ b ≤ 1000000) ∧ (-1000000 ≤ c ∧ c ≤ 1000000) ∧ (-1000000 ≤ d ∧ d ≤ 1000000) := by
  unfold smallU
  simp only [Bool.and_eq_true, small_iff]
  constructor
  · rintro ⟨⟨⟨h1, h2⟩, h3⟩, h4⟩; exact ⟨h1, h2, h3, h4⟩
  · rintro ⟨h1, h2, h3, h4⟩; exact ⟨⟨⟨h1, h2⟩, h3⟩, h4⟩
def prodU (a b : Un) : Un := (a.1 * b.1 + a.2.1 * b.2.2.1, a.1 * b.2.1 + a.2.1 * b.2.2.2, a.2.2.1 * b.1 + a.2.2.2 * b.2.2.1, a.2.2.1 * b.2.1 + a.2.2.2 * b.2.2.2)
abbrev encU (m : Un) : VV := vU m.1 m.2.1 m.2.2.1 m.2.2.2
abbrev prS : VSpec := spec2 cU cU (fun a b => smallU a && smallU b) (fun a b => encU (prodU a b)) false
theorem prod_ok : OK 1 43 prS := by
  refine OK.of2 (F := 0) (tb := []) (pol := fun _ => false) (by simp) (x := (Tryz.f43.body).getD .skip) (Nat.le_of_ble_eq_true rfl) Tryz.func43 rfl (ok_fn (by rfl) Tryz.func43 rfl) (by kernel_rfl) (by intros; rfl) fun n hn m k hc => ?_
  obtain ⟨a, b, c, d⟩ := m
  obtain ⟨e, f, g, h⟩ := k
  rw [Bool.and_eq_true] at hc
  obtain ⟨h1, h2, h3, h4⟩ := smallU_iff.1 hc.1
  obtain ⟨k1, k2, k3, k4⟩ := smallU_iff.1 hc.2
  have m1 := mul_b h1 k1
  have m2 := mul_b h2 k3
  have m3 := mul_b h1 k2
  have m4 := mul_b h2 k4
  have m5 := mul_b h3 k1
  have m6 := mul_b h4 k3
  have m7 := mul_b h3 k2
  have m8 := mul_b h4 k4
  have w1 := w64 (z := a * e) (by omega)
  have w2 := w64 (z := b * g) (by omega)
  have w3 := w64 (z := a * f) (by omega)
  have w4 := w64 (z := b * h) (by omega)
  have w5 := w64 (z := c * e) (by omega)
  have w6 := w64 (z := d * g) (by omega)
  have w7 := w64 (z := c * f) (by omega)
  have w8 := w64 (z := d * h) (by omega)
  have x1 := w64 (z := a * e + b * g) (by omega)
  have x2 := w64 (z := a * f + b * h) (by omega)
  have x3 := w64 (z := c * e + d * g) (by omega)
  have x4 := w64 (z := c * f + d * h) (by omega)
  simp (disch := omega) only [Tryz.f43, Option.getD_some, vo_nil, vo_cons, vc_region, vc_seq, vc_ret, vs_box, vs_build, vs_load, vs_store, vs_faddr, vs_bin, binV_add, binV_mul, bindS_some, bindG_some, bindC_n, ↓bindS_some, ↓bindG_some, ↓bindC_n, rtV_some, stoV_some, boxV_some, updV_at, evV_tmp, putV_some, putV_none, getO_eq, gO_same, optG_some, optP_some, optL_some, ↓optG_some, ↓optP_some, ↓optL_some, ld_ptr aI, ldS_sc, mkBox_some, pk1_nil, pk1_cons, pk_st, pk1_sc, rs_nil, rs_cell, fv_r, pv_1, fsh_c, frV_0, frV_1, ↓reduceIte, Nat.reduceEqDiff, Nat.zero_add, Nat.add_zero, List.map_cons, List.map_nil, List.getElem?_cons_zero, List.getElem?_cons_succ, Option.getD_some, enc_U, stW_box, sv_st, setLs_nil, setLs_cons, sl_sc, soln_true, ldN_4, List.set_cons_zero, List.set_cons_succ, List.length_cons, List.length_nil, Nat.reduceAdd, Nat.le_refl, List.drop_zero, ldN_ptr aU zU, st_W zU, fa_ptr fU0, fa_ptr fU1, fa_ptr fU2, fa_ptr fU3, bU, vs_alloc iU, w1, w2, w3, w4, w5, w6, w7, w8, x1, x2, x3, x4]
  rfl
end Go.Proofs.YtmdnofcphdjieaaGreatDoor
namespace Go.Proofs.YtmdnofcphdjieaaGreatDoor
open Go Go.Abs
set_option maxRecDepth 10000
attribute [local congr] bindS_congr bindG_congr bindC_congr condV_congr grdV_congr pickV_congr binV_congr optG_congr optP_congr optL_congr gO_congr ldS_congr ansS_congr iteB_congr
def invK (l : List Int) (i : Nat) : List Int := (List.range i).foldl (fun (o : List Int) (j : Nat) => o.set (l.getD j 0).toNat (j : Int)) (List.replicate l.length 0)
def invL (l : List Int) : List Int := invK l l.length
def afterF (p q : List Int) (i : Nat) : Int := q.getD (p.getD i 0).toNat 0
def afterL (p q : List Int) : List Int := (List.range p.length).map (afterF p q)
theorem afterL_len (p q : List Int) : (afterL p q).length = p.length := by simp [afterL]
def inB (p : List Int) (n : Nat) : Bool := p.all fun z => decide (0 ≤ z) && decide (z < n)
theorem inB_get {l : List Int} {n : Nat} (h : inB l n = true) {i : Nat} (hi : i < l.length) : 0 ≤ l.getD i 0 ∧ l.getD i 0 < n := by
  unfold inB at h
  have := List.all_eq_true.1 h (l.getD i 0) (by rw [List.getD_eq_getElem?_getD, List.getElem?_eq_getElem hi]; exact List.getElem_mem hi)
  simpa using this
abbrev thenP (p q : List Int) : Bool := inB p q.length && decide (p.length ≤ 1000)
abbrev thenS : VSpec := spec2 cL cL thenP (fun p q => vL (afterL p q)) true
end Go.Proofs.YtmdnofcphdjieaaGreatDoor
namespace Go.Proofs.YtmdnofcphdjieaaGreatDoor
open Go Go.Abs
set_option maxRecDepth 10000
attribute [local congr] bindS_congr bindG_congr bindC_congr condV_congr grdV_congr pickV_congr binV_congr optG_congr optP_congr optL_congr optD_congr gO_congr ldS_congr ansS_congr iteB_congr
def idL (n : Nat) : List Int := (List.range n).map fun (i : Nat) => (i : Int)
theorem idL_len (n : Nat) : (idL n).length = n := by simp [idL]
def Pn (n : Nat) (p : List Int) : Prop := p.length = n ∧ inB p n = true
theorem inB_of {p : List Int} {n : Nat} (h : ∀ i, i < p.length → 0 ≤ p.getD i 0 ∧ p.getD i 0 < n) : inB p n = true := by
  unfold inB
  rw [List.all_eq_true]
  intro z hz
  obtain ⟨i, hi, e⟩ := List.getElem_of_mem hz
  have := h i hi
  rw [List.getD_eq_getElem?_getD, List.getElem?_eq_getElem hi, Option.getD_some, e] at this
  simpa using this
theorem afterL_get {p q : List Int} {i : Nat} (hi : i < p.length) : (afterL p q).getD i 0 = q.getD (p.getD i 0).toNat 0 := by
  unfold afterL
  rw [List.getD_eq_getElem?_getD, List.getElem?_map, List.getElem?_range hi]
  rfl
theorem Pn.after {n : Nat} {p q : List Int} (hp : Pn n p) (hq : Pn n q) : Pn n (afterL p q) := by
  refine ⟨by rw [afterL_len]; exact hp.1, inB_of fun i hi => ?_⟩
  rw [afterL_len] at hi
  rw [afterL_get hi]
  have := inB_get hp.2 hi
  exact inB_get hq.2 (by rw [hq.1]; omega)
theorem Pn.id (n : Nat) : Pn n (idL n) := by
  refine ⟨idL_len n, inB_of fun i hi => ?_⟩
  rw [idL_len] at hi
  unfold idL
  rw [List.getD_eq_getElem?_getD, List.getElem?_map, List.getElem?_range hi]
  simp; omega
def bp (out p : List Int) (k : Nat) : List Int := if h : k = 0 then out else bp (if k % 2 = 1 then afterL out p else out) (afterL p p) (k / 2)
termination_by k
decreasing_by omega
def repL (p : List Int) (z : Int) : List Int := bp (idL p.length) (if z < 0 then invL p else p) z.natAbs
abbrev repP (p : List Int) (z : Int) : Bool := inB p p.length && decide (p.length ≤ 1000) && decide (z.natAbs ≤ 1000000000000)
abbrev repS : VSpec := spec2 cL cI repP (fun p z => vL (repL p z)) true
end Go.Proofs.YtmdnofcphdjieaaGreatDoor
namespace Go.Proofs.YtmdnofcphdjieaaGreatDoor
open Go Go.Abs
set_option maxRecDepth 10000
attribute [local congr] bindS_congr bindG_congr bindC_congr condV_congr grdV_congr pickV_congr binV_congr optG_congr optP_congr optL_congr optD_congr opt1_congr gO_congr ldS_congr ansS_congr iteB_congr rdC_congr
abbrev shT : List (Nat × VSpec) := [(100, repS), (132, thenS)]
end Go.Proofs.YtmdnofcphdjieaaGreatDoor
namespace Go.Proofs.YtmdnofcphdjieaaGreatDoor
open Go Go.Abs
set_option maxRecDepth 10000
attribute [local congr] bindS_congr bindG_congr bindC_congr condV_congr grdV_congr pickV_congr binV_congr optG_congr optP_congr optL_congr optD_congr opt1_congr gO_congr ldS_congr ansS_congr iteB_congr rdC_congr
noncomputable def orC : Code := atC [1, 1, 0, 1, 0, 0] ((Tryz.f155.body).getD .skip)
end Go.Proofs.YtmdnofcphdjieaaGreatDoor
namespace Go.Proofs.YtmdnofcphdjieaaGreatDoor
open Go Go.Abs
set_option maxRecDepth 10000
attribute [local congr] bindS_congr bindG_congr bindC_congr condV_congr grdV_congr pickV_congr binV_congr optG_congr optP_congr optL_congr optD_congr opt1_congr gO_congr ldS_congr ansS_congr iteB_congr rdC_congr idxV_congr
abbrev NSt := List Int × List Int
def visit (s : NSt) (y : Int) : NSt := if s.1.getD y.toNat 0 < 0 then (s.1.set y.toNat (s.2.length : Int), s.2 ++ [y]) else s
def nstep (o : List Int × List Int) (s : NSt) (k : Nat) : NSt := visit (visit s (o.1.getD (s.2.getD k 0).toNat 0)) (o.2.getD (s.2.getD k 0).toNat 0)
def nstart (n : Nat) (x : Int) : NSt := ((List.replicate n (-1)).set x.toNat 0, [x])
def cntN (l : List Int) : Nat := l.countP fun z => decide (0 ≤ z)
structure NOk (n : Nat) (s : NSt) : Prop where
  len : s.1.length = n
  ord : inB s.2 n = true
  cnt : cntN s.1 = s.2.length
  low : ∀ i, i < n → -1 ≤ s.1.getD i 0 ∧ s.1.getD i 0 ≤ n
theorem NOk.le {n : Nat} {s : NSt} (h : NOk n s) : s.2.length ≤ n := by
  rw [← h.cnt, ← h.len]
  exact List.countP_le_length
theorem cnt_set {l : List Int} {i : Nat} (hi : i < l.length) (hn : l.getD i 0 < 0) {z : Int} (hz : 0 ≤ z) : cntN (l.set i z) = cntN l + 1 := by
  induction l generalizing i with
  | nil => simp at hi
  | cons x l ih =>
    cases i with
    | zero =>
      have hx : ¬ (0 ≤ x) := by simpa using hn
      simp only [List.set_cons_zero, cntN, List.countP_cons, decide_eq_true_eq]
      rw [if_pos hz, if_neg hx]
    | succ i =>
      have := ih (i := i) (by simpa using hi) (by simpa using hn)
      simp only [List.set_cons_succ, cntN, List.countP_cons] at this ⊢
      omega
theorem NOk.visit {n : Nat} {s : NSt} (h : NOk n s) {y : Int} (h0 : 0 ≤ y) (h1 : y < n) : NOk n (visit s y) := by
  unfold YtmdnofcphdjieaaGreatDoor.visit
  split
  · rename_i hy
    have hle := h.le
    have hyl : y.toNat < s.1.length := by rw [h.len]; omega
    have hc := cnt_set hyl hy (z := (s.2.length : Int)) (by omega)
    refine ⟨by rw [List.length_set]; exact h.len, ?_, ?_, fun i hi => ?_⟩
    · unfold inB
      rw [List.all_append]
      have := h.ord
      unfold inB at this
      rw [this]
      simp [h0, h1]
    · show cntN (s.1.set y.toNat (s.2.length : Int)) = (s.2 ++ [y]).length
      rw [hc, h.cnt]; simp
    · have hl : cntN (s.1.set y.toNat (s.2.length : Int)) ≤ n := by
        have : cntN (s.1.set y.toNat (s.2.length : Int)) ≤ (s.1.set y.toNat (s.2.length : Int)).length := List.countP_le_length
        rw [List.length_set, h.len] at this; exact this
      rw [hc, h.cnt] at hl
      show -1 ≤ (s.1.set y.toNat (s.2.length : Int)).getD i 0 ∧ _
      rw [List.getD_eq_getElem?_getD, List.getElem?_set]
      split
      · simp; omega
      · have := h.low i hi
        rw [List.getD_eq_getElem?_getD] at this
        exact this
  · exact h
theorem NOk.start {n : Nat} {x : Int} (h0 : 0 ≤ x) (h1 : x < n) : NOk n (nstart n x) := by
  have hr : cntN (List.replicate n (-1)) = 0 := by
    unfold cntN
    rw [List.countP_eq_zero]
    intro a ha
    rw [List.eq_of_mem_replicate ha]; simp
  have hx : (List.replicate n (-1 : Int)).getD x.toNat 0 = -1 := by
    rw [List.getD_eq_getElem?_getD, List.getElem?_replicate, if_pos (by omega)]; rfl
  refine ⟨by simp [nstart], by simp [nstart, inB, h0, h1], ?_, ?_⟩
  · show cntN ((List.replicate n (-1)).set x.toNat 0) = 1
    rw [cnt_set (by simp; omega) (by rw [hx]; omega) (Int.le_refl 0), hr]
  · show ∀ i, i < n → -1 ≤ ((List.replicate n (-1 : Int)).set x.toNat 0).getD i 0 ∧ ((List.replicate n (-1 : Int)).set x.toNat 0).getD i 0 ≤ n
    intro i hi
    rw [List.getD_eq_getElem?_getD, List.getElem?_set]
    split
    · rw [if_pos (by simp; omega)]; simp
    · rw [List.getElem?_replicate, if_pos hi]; simp
theorem NOk.step {n : Nat} {o : List Int × List Int} {s : NSt} (h : NOk n s) (h1 : Pn n o.1) (h2 : Pn n o.2) {k : Nat} (hk : k < s.2.length) : NOk n (nstep o s k) := by
  have hx := inB_get h.ord hk
  have ha := inB_get h1.2 (i := (s.2.getD k 0).toNat) (by rw [h1.1]; omega)
  have hb := inB_get h2.2 (i := (s.2.getD k 0).toNat) (by rw [h2.1]; omega)
  exact (h.visit ha.1 ha.2).visit hb.1 hb.2
theorem evBv_base {f n : Nat} {args : List Value} {H : Heap} {r : Value × Heap} (h : bC (.func (.func f) #[] #[]) args H = some r) : evB Tryz.prog bC n (.func (.func f) #[] #[]) args H = some r := by
  cases n with
  | zero => exact h
  | succ n =>
    show (match bC (.func (.func f) #[] #[]) args H with | some r => some r | none => _) = _
    rw [h]
end Go.Proofs.YtmdnofcphdjieaaGreatDoor
namespace Go.Proofs.YtmdnofcphdjieaaGreatDoor
open Go Go.Abs
set_option maxRecDepth 10000
attribute [local congr] bindS_congr bindG_congr bindC_congr condV_congr grdV_congr pickV_congr binV_congr optG_congr optP_congr optL_congr optD_congr opt1_congr gO_congr ldS_congr ansS_congr iteB_congr rdC_congr idxV_congr
theorem uS9 : Tryz.prog.underlying 9 = some .string := by kernel_rfl
abbrev bts (s : ByteArray) : List UInt8 := s.data.toList
theorem bts_len (s : ByteArray) : (bts s).length = s.size := by rw [Array.length_toList]; rfl
def letS : ByteArray := ⟨#[83, 84, 115, 116]⟩
def isLt (b : UInt8) : Bool := (bts letS).contains b
def chkW (l : List UInt8) : Int := if 200 < l.length then 8 else if l.all isLt then 0 else 7
theorem dropW_all {α : Type} {p : α → Bool} : ∀ {l : List α}, l.all p = true → l.dropWhile p = [] := by
  intro l
  induction l with
  | nil => intro _; rfl
  | cons x l ih => intro h; rw [List.all_cons, Bool.and_eq_true] at h; rw [List.dropWhile_cons, if_pos h.1]; exact ih h.2
theorem dropW_some {α : Type} {p : α → Bool} : ∀ {l : List α}, l.all p = false → ∃ x r, l.dropWhile p = x :: r ∧ p x = false := by
  intro l
  induction l with
  | nil => intro h; cases h
  | cons x l ih =>
    intro h
    rw [List.dropWhile_cons]
    cases hp : p x with
    | false => exact ⟨x, l, by simp, hp⟩
    | true =>
      rw [if_pos rfl]
      refine ih ?_
      rw [List.all_cons, hp, Bool.true_and] at h
      exact h
theorem trim_nil {l cs : List UInt8} : (Lib.trimS l cs = []) ↔ l.all (cs.contains ·) = true := by
  constructor
  · intro h
    cases ha : l.all (cs.contains ·) with
    | true => rfl
    | false =>
      have hr : l.reverse.all (cs.contains ·) = false := by rw [List.all_reverse]; exact ha
      obtain ⟨x, r, e1, e2⟩ := dropW_some hr
      exfalso
      unfold Lib.trimS Lib.trimRightS Lib.trimLeftS at h
      rw [e1] at h
      have h3 : (x :: r).reverse.all (cs.contains ·) = false := by rw [List.all_reverse, List.all_cons, e2, Bool.false_and]
      obtain ⟨y, q, e3, _⟩ := dropW_some h3
      rw [e3] at h
      cases h
  · intro h
    unfold Lib.trimS Lib.trimRightS Lib.trimLeftS
    have hr : l.reverse.all (cs.contains ·) = true := by rw [List.all_reverse]; exact h
    rw [dropW_all hr]
    rfl
abbrev trmV : VSpec := spec2 cS cS (fun s t => decide (s.size < 1000000) && decide (t.size < 1000000) && ascii t) (fun s t => .sc (.string ⟨(Lib.trimS (bts s) (bts t)).toArray⟩)) false
theorem trm_ok : OK 1 49 trmV := by
  intro n hn args r fresh hs
  obtain ⟨s, t, hp, rfl, rfl, hA⟩ := spec2_inv hs
  simp only [Bool.and_eq_true, decide_eq_true_eq] at hp
  obtain ⟨⟨h1, h2⟩, h3⟩ := hp
  have h : AnsAt (evB Tryz.prog bC n) 49 [.sc (.string s), .sc (.string t)] (.sc (.string ⟨(Lib.trimS (bts s) (bts t)).toArray⟩)) false := by
    intro Z H vs hw hA
    simp only [RepCL] at hA
    obtain ⟨v1, ws, rfl, q1, v2, ws2, rfl, q2, rfl⟩ := hA
    obtain ⟨rfl, _⟩ := repC_sc.1 q1
    obtain ⟨rfl, _⟩ := repC_sc.1 q2
    refine ⟨_, H, evBv_base (r := (.string ⟨(Lib.trimS (bts s) (bts t)).toArray⟩, H)) ?_, repC_sc.2 ⟨rfl, rfl⟩, Old.refl _ _, hw, fun e => by cases e⟩
    show trimC 49 (.func (.func 49) #[] #[]) [.string s, .string t] H = _
    unfold trimC
    simp only
    rw [if_pos ⟨trivial, h1, h2, h3, rfl⟩]
  exact (h.args hA).x (fun cs e => by cases e)
abbrev cwT : List (Nat × VSpec) := [(49, trmV)]
theorem asc_let : ascii letS = true := by kernel_rfl
theorem str_empty {l : List UInt8} : ((⟨l.toArray⟩ : ByteArray).toList == (⟨#[]⟩ : ByteArray).toList) = decide (l = []) := by
  rw [ByteArray.toList_eq, ByteArray.toList_eq]
  cases l <;> simp
theorem cw_ok : OK 2 12 (spec1 cS (fun s => decide (s.size < 1000000)) (fun s => vI (chkW (bts s))) false) := by
  refine OK.of1 (F := 1) (tb := cwT) (pol := fun _ => false) ?_ (x := (Tryz.f12.body).getD .skip) (Nat.le_of_ble_eq_true rfl) Tryz.func12 rfl (ok_fn (by rfl) Tryz.func12 rfl) (by kernel_rfl) (by intros; rfl) fun n hn s hc => ?_
  · intro y hy
    simp only [cwT, List.mem_singleton] at hy
    subst hy
    exact trm_ok
  have hs : s.size < 1000000 := by simpa using hc
  have hs' : decide (s.size < 1000000) = true := by simpa using hc
  have h4 : decide ((⟨#[83, 84, 115, 116]⟩ : ByteArray).size < 1000000) = true := by kernel_rfl
  have ha : ascii ⟨#[83, 84, 115, 116]⟩ = true := asc_let
  unfold chkW
  by_cases h2 : 200 < s.size
  · have e2 : (200 : Int) < (s.size : Int) := by omega
    simp (disch := omega) only [Tryz.f12, Option.getD_some, vo_nil, vo_cons, vc_region, vc_seq, vc_cond, vc_ret, vs_move, vs_assign, vs_bin, binV_gtr, bindS_some, bindG_some, bindC_n, bindC_r, condV_t, ↓bindS_some, ↓bindG_some, ↓bindC_n, ↓bindC_r, ↓condV_t, updV_at, evV_tmp, evV_int, putV_some, optL_some, ↓optL_some, rs_nil, rs_tmp, tmpV_sc, fv_r, pv_1, fsh_1, isOwn_sc, frV_0, ↓reduceIte, Nat.reduceEqDiff, decide_true, Option.getD_some, enc_S, vs_slen uS9, slenV, e2]
    rw [if_pos (by rw [bts_len]; exact h2)]
  · have e2 : ¬ (200 : Int) < (s.size : Int) := by omega
    rw [if_neg (by rw [bts_len]; exact h2)]
    cases h3 : (bts s).all isLt with
    | true =>
      have e3 : Lib.trimS (bts s) (bts ⟨#[83, 84, 115, 116]⟩) = [] := trim_nil.2 h3
      simp (disch := omega) only [Tryz.f12, Option.getD_some, vo_nil, vo_cons, vc_region, vc_seq, vc_cond, vc_skip, vc_ret, vs_move, vs_assign, vs_call, vs_bin, binV_gtr, binT_neq, bindS_some, bindG_some, bindC_n, condV_f, ↓bindS_some, ↓bindG_some, ↓bindC_n, ↓condV_f, updV_at, evV_tmp, evV_func, evV_int, evV_str, putV_some, optP_some, optL_some, ↓optP_some, ↓optL_some, pk_nil, pk_cons, pk_sc, vcall, ansS_sc, callOf_cons, rs_nil, rs_tmp, tmpV_sc, fv_r, pv_1, fsh_1, isOwn_sc, frV_0, ↓reduceIte, Nat.reduceEqDiff, List.map_cons, List.map_nil, decide_false, Bool.not_true, beq_self_eq_true, iteB_true, ↓iteB_true, Bool.and_true, Option.getD_some, sp2, enc_S, optD_some, ↓optD_some, dec_S, vs_slen uS9, slenV, e2, hs', h4, ha, e3]
    | false =>
      have e3 : ¬ Lib.trimS (bts s) (bts ⟨#[83, 84, 115, 116]⟩) = [] := fun h => by
        have := trim_nil.1 h
        have e : ((bts s).all fun x => (bts ⟨#[83, 84, 115, 116]⟩).contains x) = (bts s).all isLt := rfl
        rw [e, h3] at this; cases this
      simp (disch := omega) only [Tryz.f12, Option.getD_some, vo_nil, vo_cons, vc_region, vc_seq, vc_cond, vc_skip, vc_ret, vs_move, vs_assign, vs_call, vs_bin, binV_gtr, binT_neq, bindS_some, bindG_some, bindC_n, bindC_r, condV_t, condV_f, ↓bindS_some, ↓bindG_some, ↓bindC_n, ↓bindC_r, ↓condV_t, ↓condV_f, updV_at, evV_tmp, evV_func, evV_int, evV_str, putV_some, optP_some, optL_some, ↓optP_some, ↓optL_some, pk_nil, pk_cons, pk_sc, vcall, ansS_sc, callOf_cons, rs_nil, rs_tmp, tmpV_sc, fv_r, pv_1, fsh_1, isOwn_sc, frV_0, ↓reduceIte, Nat.reduceEqDiff, List.map_cons, List.map_nil, decide_false, Bool.not_false, Bool.false_eq_true, iteB_true, ↓iteB_true, Bool.and_true, Option.getD_some, sp2, enc_S, optD_some, ↓optD_some, dec_S, vs_slen uS9, slenV, e2, hs', h4, ha, str_empty, e3]
end Go.Proofs.YtmdnofcphdjieaaGreatDoor
namespace Go.Proofs.YtmdnofcphdjieaaGreatDoor
open Go Go.Abs
set_option maxRecDepth 10000
attribute [local congr] bindS_congr bindG_congr bindC_congr condV_congr grdV_congr pickV_congr binV_congr optG_congr optP_congr optL_congr optD_congr opt1_congr gO_congr ldS_congr ansS_congr iteB_congr rdC_congr idxV_congr
theorem OK.of0 {F g : Nat} {fn : Func} {x : Code} {tb : List (Nat × VSpec)} {pol : Nat → Bool} {fr : Bool} {gg : VV} (htb : ∀ y ∈ tb, OK F y.1 y.2) (hl : 0 ≤ fn.ntmps) (hfn : Tryz.prog.funcs[g]? = some fn) (hb : fn.body = some x) (hok : funcOk fn x = true) (hd : drawsOk (fun id => pol (1000000 + id)) x = true)
    (hbc : ∀ vs H, bC (.func (.func g) #[] #[]) vs H = none)
    (h : ∀ n, F ≤ n → finV Tryz.prog fn.results.toList (evVC Tryz.prog (callOf tb) pol n x (frV []) (fun _ => none) 0) = some (gg, fr)) : OK (F + 1) g (spec0 gg fr) := by
  refine OK.of (tb := tb) (pol := pol) htb hfn hb hok hd hbc fun n hn args r fresh hs => ?_
  unfold spec0 at hs
  split at hs
  · injection hs with hs
    injection hs with h1 h2
    subst h1; subst h2
    exact ⟨[], fun _ _ _ h => h, hl, h n hn⟩
  · cases hs
theorem bU12 {σ : VSt} {b c : Value} : buildV Tryz.prog σ 24 [(1, .sc b), (2, .sc c)] = some (.st [.sc (vi 0), .sc b, .sc c, .sc (vi 0)]) := by
  unfold buildV
  rw [iU, uU]
  simp only [oU, fillV, scalV, List.getElem?_cons_zero, List.getElem?_cons_succ, List.length_cons, List.length_nil]
  rfl
theorem bU03 {σ : VSt} {b c : Value} : buildV Tryz.prog σ 24 [(0, .sc b), (3, .sc c)] = some (.st [.sc b, .sc (vi 0), .sc (vi 0), .sc c]) := by
  unfold buildV
  rw [iU, uU]
  simp only [oU, fillV, scalV, List.getElem?_cons_zero, List.getElem?_cons_succ, List.length_cons, List.length_nil]
  rfl
theorem bU013 {σ : VSt} {a b c : Value} : buildV Tryz.prog σ 24 [(0, .sc a), (1, .sc b), (3, .sc c)] = some (.st [.sc a, .sc b, .sc (vi 0), .sc c]) := by
  unfold buildV
  rw [iU, uU]
  simp only [oU, fillV, scalV, List.getElem?_cons_zero, List.getElem?_cons_succ, List.length_cons, List.length_nil]
  rfl
theorem abs_ok : OK 1 57 (spec1 cI (fun z => decide (-9000000000000000000 ≤ z) && decide (z ≤ 9000000000000000000)) (fun z => vI z.natAbs) false) := by
  refine OK.of1 (F := 0) (tb := []) (pol := fun _ => false) (by simp) (x := (Tryz.f57.body).getD .skip) (Nat.le_of_ble_eq_true rfl) Tryz.func57 rfl (ok_fn (by rfl) Tryz.func57 rfl) (by kernel_rfl) (by intros; rfl) fun n hn z hc => ?_
  simp only [Bool.and_eq_true, decide_eq_true_eq] at hc
  by_cases h1 : z < 0
  · have w1 : IntKind.i64.wrap (0 - z) = (z.natAbs : Int) := by rw [w64 (by omega)]; omega
    simp (disch := omega) only [Tryz.f57, Option.getD_some, vo_nil, vo_cons, vc_region, vc_seq, vc_cond, vc_ret, vs_move, vs_assign, vs_bin, binV_lss, vs_neg, negV_i, bindS_some, bindG_some, bindC_n, bindC_r, condV_t, ↓bindS_some, ↓bindG_some, ↓bindC_n, ↓bindC_r, ↓condV_t, updV_at, evV_tmp, evV_int, putV_some, optL_some, ↓optL_some, rs_nil, rs_tmp, tmpV_sc, fv_r, pv_1, fsh_1, isOwn_sc, frV_0, ↓reduceIte, Nat.reduceEqDiff, decide_true, Option.getD_some, enc_I, h1, w1]
  · have w1 : z = (z.natAbs : Int) := by omega
    simp (disch := omega) only [Tryz.f57, Option.getD_some, vo_nil, vo_cons, vc_region, vc_seq, vc_cond, vc_skip, vc_ret, vs_move, vs_assign, vs_bin, binV_lss, bindS_some, bindG_some, bindC_n, condV_f, ↓bindS_some, ↓bindG_some, ↓bindC_n, ↓condV_f, updV_at, evV_tmp, evV_int, putV_some, optL_some, ↓optL_some, rs_nil, rs_tmp, tmpV_sc, fv_r, pv_1, fsh_1, isOwn_sc, frV_0, ↓reduceIte, Nat.reduceEqDiff, decide_false, Option.getD_some, enc_I, h1]
    rw [← w1]
theorem rone_ok : OK 1 45 (spec0 (vU 1 0 0 1) false) := by
  refine OK.of0 (F := 0) (tb := []) (pol := fun _ => false) (by simp) (x := (Tryz.f45.body).getD .skip) (Nat.le_of_ble_eq_true rfl) Tryz.func45 rfl (ok_fn (by rfl) Tryz.func45 rfl) (by kernel_rfl) (by intros; rfl) fun n hn => ?_
  simp (disch := omega) only [Tryz.f45, Option.getD_some, vo_nil, vo_cons, vc_region, vc_seq, vc_ret, vs_build, vs_store, bindS_some, bindG_some, bindC_n, ↓bindS_some, ↓bindG_some, ↓bindC_n, rtV_some, stoV_some, updV_at, evV_tmp, evV_int, putV_some, putV_none, getO_eq, gO_same, optG_some, optP_some, optL_some, ↓optG_some, ↓optP_some, ↓optL_some, mkBox_some, pk1_nil, pk1_cons, pk_st, pk1_sc, rs_nil, rs_cell, fv_r, pv_1, fsh_c, ↓reduceIte, Nat.reduceEqDiff, Nat.zero_add, List.map_cons, List.map_nil, Option.getD_some, stW_box, sv_st, setLs_nil, setLs_cons, sl_sc, soln_true, ldN_4, List.set_cons_zero, List.set_cons_succ, List.length_cons, List.length_nil, Nat.reduceAdd, Nat.le_refl, List.drop_zero, ldN_ptr aU zU, st_W zU, vs_alloc iU, bU03]
theorem one_ok : OK 1 41 (spec0 (vU 1 0 0 1) false) := by
  refine OK.of0 (F := 0) (tb := []) (pol := fun _ => false) (by simp) (x := (Tryz.f41.body).getD .skip) (Nat.le_of_ble_eq_true rfl) Tryz.func41 rfl (ok_fn (by rfl) Tryz.func41 rfl) (by kernel_rfl) (by intros; rfl) fun n hn => ?_
  simp (disch := omega) only [Tryz.f41, Option.getD_some, vo_nil, vo_cons, vc_region, vc_seq, vc_ret, vs_build, vs_store, bindS_some, bindG_some, bindC_n, ↓bindS_some, ↓bindG_some, ↓bindC_n, rtV_some, stoV_some, updV_at, evV_tmp, evV_int, putV_some, putV_none, getO_eq, gO_same, optG_some, optP_some, optL_some, ↓optG_some, ↓optP_some, ↓optL_some, mkBox_some, pk1_nil, pk1_cons, pk_st, pk1_sc, rs_nil, rs_cell, fv_r, pv_1, fsh_c, ↓reduceIte, Nat.reduceEqDiff, Nat.zero_add, List.map_cons, List.map_nil, Option.getD_some, stW_box, sv_st, setLs_nil, setLs_cons, sl_sc, soln_true, ldN_4, List.set_cons_zero, List.set_cons_succ, List.length_cons, List.length_nil, Nat.reduceAdd, Nat.le_refl, List.drop_zero, ldN_ptr aU zU, st_W zU, vs_alloc iU, bU03]
theorem rprod_ok : OK 1 46 prS := by
  refine OK.of2 (F := 0) (tb := []) (pol := fun _ => false) (by simp) (x := (Tryz.f46.body).getD .skip) (Nat.le_of_ble_eq_true rfl) Tryz.func46 rfl (ok_fn (by rfl) Tryz.func46 rfl) (by kernel_rfl) (by intros; rfl) fun n hn m k hc => ?_
  obtain ⟨a, b, c, d⟩ := m
  obtain ⟨e, f, g, h⟩ := k
  rw [Bool.and_eq_true] at hc
  obtain ⟨h1, h2, h3, h4⟩ := smallU_iff.1 hc.1
  obtain ⟨k1, k2, k3, k4⟩ := smallU_iff.1 hc.2
  have m1 := mul_b h1 k1
  have m2 := mul_b h2 k3
  have m3 := mul_b h1 k2
  have m4 := mul_b h2 k4
  have m5 := mul_b h3 k1
  have m6 := mul_b h4 k3
  have m7 := mul_b h3 k2
  have m8 := mul_b h4 k4
  have w1 := w64 (z := a * e) (by omega)
  have w2 := w64 (z := b * g) (by omega)
  have w3 := w64 (z := a * f) (by omega)
  have w4 := w64 (z := b * h) (by omega)
  have w5 := w64 (z := c * e) (by omega)
  have w6 := w64 (z := d * g) (by omega)
  have w7 := w64 (z := c * f) (by omega)
  have w8 := w64 (z := d * h) (by omega)
  have x1 := w64 (z := a * e + b * g) (by omega)
  have x2 := w64 (z := a * f + b * h) (by omega)
  have x3 := w64 (z := c * e + d * g) (by omega)
  have x4 := w64 (z := c * f + d * h) (by omega)
  simp (disch := omega) only [Tryz.f46, Option.getD_some, vo_nil, vo_cons, vc_region, vc_seq, vc_ret, vs_box, vs_build, vs_load, vs_store, vs_faddr, vs_bin, binV_add, binV_mul, bindS_some, bindG_some, bindC_n, ↓bindS_some, ↓bindG_some, ↓bindC_n, rtV_some, stoV_some, boxV_some, updV_at, evV_tmp, putV_some, putV_none, getO_eq, gO_same, optG_some, optP_some, optL_some, ↓optG_some, ↓optP_some, ↓optL_some, ld_ptr aI, ldS_sc, mkBox_some, pk1_nil, pk1_cons, pk_st, pk1_sc, rs_nil, rs_cell, fv_r, pv_1, fsh_c, frV_0, frV_1, ↓reduceIte, Nat.reduceEqDiff, Nat.zero_add, Nat.add_zero, List.map_cons, List.map_nil, List.getElem?_cons_zero, List.getElem?_cons_succ, Option.getD_some, enc_U, stW_box, sv_st, setLs_nil, setLs_cons, sl_sc, soln_true, ldN_4, List.set_cons_zero, List.set_cons_succ, List.length_cons, List.length_nil, Nat.reduceAdd, Nat.le_refl, List.drop_zero, ldN_ptr aU zU, st_W zU, fa_ptr fU0, fa_ptr fU1, fa_ptr fU2, fa_ptr fU3, bU, vs_alloc iU, w1, w2, w3, w4, w5, w6, w7, w8, x1, x2, x3, x4]
  rfl
def ofL (b : Int) : Un := if b = 83 then (0, -1, 1, 0) else if b = 115 then (0, 1, -1, 0) else if b = 84 then (1, 1, 0, 1) else (1, -1, 0, 1)
theorem rof_ok : OK 1 47 (spec1 cY (fun _ => true) (fun b => encU (ofL b)) false) := by
  refine OK.of1 (F := 0) (tb := []) (pol := fun _ => false) (by simp) (x := (Tryz.f47.body).getD .skip) (Nat.le_of_ble_eq_true rfl) Tryz.func47 rfl (ok_fn (by rfl) Tryz.func47 rfl) (by kernel_rfl) (by intros; rfl) fun n hn b hc => ?_
  unfold ofL
  by_cases h1 : b = 83
  · simp (disch := omega) only [Tryz.f47, Option.getD_some, vo_nil, vo_cons, vc_region, vc_seq, vc_cond, vc_block, vc_ret, vs_move, vs_assign, vs_build, vs_store, vs_bin, binY_eql, bindS_some, bindG_some, bindC_n, bindC_r, blkC_r, condV_t, ↓bindS_some, ↓bindG_some, ↓bindC_n, ↓bindC_r, ↓condV_t, rtV_some, stoV_some, updV_at, evV_tmp, evV_int, putV_some, putV_none, getO_eq, gO_same, optG_some, optP_some, optL_some, ↓optG_some, ↓optP_some, ↓optL_some, mkBox_some, pk1_nil, pk1_cons, pk_st, pk1_sc, rs_nil, rs_cell, fv_r, pv_1, fsh_c, frV_0, ↓reduceIte, Nat.reduceEqDiff, Nat.zero_add, List.map_cons, List.map_nil, decide_true, Option.getD_some, enc_Y, stW_box, sv_st, setLs_nil, setLs_cons, sl_sc, soln_true, ldN_4, List.set_cons_zero, List.set_cons_succ, List.length_cons, List.length_nil, Nat.reduceAdd, Nat.le_refl, List.drop_zero, ldN_ptr aU zU, st_W zU, vs_alloc iU, bU12, h1]
  · by_cases h2 : b = 115
    · simp (disch := omega) only [Tryz.f47, Option.getD_some, vo_nil, vo_cons, vc_region, vc_seq, vc_cond, vc_block, vc_ret, vs_move, vs_assign, vs_build, vs_store, vs_bin, binY_eql, bindS_some, bindG_some, bindC_n, condV_t, ↓bindS_some, ↓bindG_some, ↓bindC_n, ↓condV_t, rtV_some, stoV_some, updV_at, evV_tmp, evV_int, putV_some, putV_none, getO_eq, gO_same, optG_some, optL_some, ↓optG_some, ↓optL_some, mkBox_some, frV_0, ↓reduceIte, Nat.reduceEqDiff, Nat.zero_add, List.map_cons, List.map_nil, decide_true, Option.getD_some, enc_Y, stW_box, sv_st, setLs_nil, setLs_cons, List.set_cons_zero, List.set_cons_succ, List.length_cons, List.length_nil, Nat.reduceAdd, Nat.le_refl, st_W zU, vs_alloc iU, bU12, bU013, h2]
      rfl
    · by_cases h3 : b = 84
      · simp (disch := omega) only [Tryz.f47, Option.getD_some, vo_nil, vo_cons, vc_region, vc_seq, vc_cond, vc_block, vc_ret, vs_move, vs_assign, vs_build, vs_store, vs_bin, binY_eql, bindS_some, bindG_some, bindC_n, condV_t, ↓bindS_some, ↓bindG_some, ↓bindC_n, ↓condV_t, rtV_some, stoV_some, updV_at, evV_tmp, evV_int, putV_some, putV_none, getO_eq, gO_same, optG_some, optL_some, ↓optG_some, ↓optL_some, mkBox_some, frV_0, ↓reduceIte, Nat.reduceEqDiff, Nat.zero_add, List.map_cons, List.map_nil, decide_true, Option.getD_some, enc_Y, stW_box, sv_st, setLs_nil, setLs_cons, List.set_cons_zero, List.set_cons_succ, List.length_cons, List.length_nil, Nat.reduceAdd, Nat.le_refl, st_W zU, vs_alloc iU, bU12, bU013, h3]
        rfl
      · simp (disch := omega) only [Tryz.f47, Option.getD_some, vo_nil, vo_cons, vc_region, vc_seq, vc_cond, vc_block, vc_skip, vc_ret, vs_move, vs_assign, vs_build, vs_store, vs_bin, binY_eql, bindS_some, bindG_some, bindC_n, blkC_n, condV_f, ↓bindS_some, ↓bindG_some, ↓bindC_n, ↓condV_f, rtV_some, stoV_some, updV_at, evV_tmp, evV_int, putV_some, putV_none, getO_eq, gO_same, optG_some, optP_some, optL_some, ↓optG_some, ↓optP_some, ↓optL_some, mkBox_some, pk1_nil, pk1_cons, pk_st, pk1_sc, rs_nil, rs_cell, fv_r, pv_1, fsh_c, frV_0, ↓reduceIte, Nat.reduceEqDiff, Nat.zero_add, List.map_cons, List.map_nil, decide_false, Option.getD_some, enc_Y, stW_box, sv_st, setLs_nil, setLs_cons, sl_sc, soln_true, ldN_4, List.set_cons_zero, List.set_cons_succ, List.length_cons, List.length_nil, Nat.reduceAdd, Nat.le_refl, List.drop_zero, ldN_ptr aU zU, st_W zU, vs_alloc iU, bU013, h1, h2, h3]
end Go.Proofs.YtmdnofcphdjieaaGreatDoor
namespace Go.Proofs.YtmdnofcphdjieaaGreatDoor
open Go Go.Abs
set_option maxRecDepth 10000
section
attribute [local congr] bindO_congr bindF_congr bindX_congr condX_congr iteB_congr
theorem uMl : Tryz.prog.underlying 81 = some (.map 5 24) := by kernel_rfl
theorem uY8 : Tryz.prog.underlying 5 = some (.int .u8) := by kernel_rfl
theorem zUt : zeroT Tryz.prog 24 = some (.agg #[vi 0, vi 0, vi 0, vi 0]) := by kernel_rfl
theorem bl1 : buildA Tryz.prog 24 [(1, vi (-1)), (2, vi 1)] = some (.agg #[vi 0, vi (-1), vi 1, vi 0]) := by kernel_rfl
theorem bl2 : buildA Tryz.prog 24 [(1, vi 1), (2, vi (-1))] = some (.agg #[vi 0, vi 1, vi (-1), vi 0]) := by kernel_rfl
theorem bl3 : buildA Tryz.prog 24 [(0, vi 1), (1, vi 1), (3, vi 1)] = some (.agg #[vi 1, vi 1, vi 0, vi 1]) := by kernel_rfl
theorem bl4 : buildA Tryz.prog 24 [(0, vi 1), (1, vi (-1)), (3, vi 1)] = some (.agg #[vi 1, vi (-1), vi 0, vi 1]) := by kernel_rfl
theorem sy_mkmapL {call : CallF} {a : Fr} {H : Heap} {d : Option Nat} {ty : TypeId} {pos : String} {aft : Array Edge} {g : Option (Nat × Bool)} : stepA Tryz.prog call a ⟨d, .makeMap 81 none, ty, pos, aft, g⟩ H = some (.map (some H.length), H ++ [.map []]) := by
  show aexec Tryz.prog a ⟨d, .makeMap 81 none, ty, pos, aft, g⟩ H = _
  simp only [aexec, uMl]
  rfl
theorem sy_mapupL {call : CallF} {a : Fr} {H : Heap} {d : Option Nat} {ty : TypeId} {pos : String} {aft : Array Edge} {g : Option (Nat × Bool)} {t : TypeId} {x k v : Operand} : stepA Tryz.prog call a ⟨d, .insert t x k v, ty, pos, aft, g⟩ H = (mapUpdateA Tryz.prog t (ev a x) (ev a k) (ev a v) H).map fun h => (undef, h) := (rfl)
def okE (es : List (Value × Value)) : Bool := es.all fun e => keyKind (.int .u8) e.1
theorem mapupL {H : Heap} {es : List (Value × Value)} (hk : okE es = true) {k : Int} {cs : Array Value} : mapUpdateA Tryz.prog 81 (.map (some H.length)) (.int .u8 k) (.agg cs) (H ++ [.map es]) = some (H ++ [.map (setA (.int .u8 k) (.agg cs) es)]) := by
  have hs : scal (.agg cs) = some cs.toList := rfl
  have hm : (H ++ [Blk.map es])[H.length]? = some (.map es) := by rw [List.getElem?_append_right (Nat.le_refl _), Nat.sub_self]; rfl
  unfold mapUpdateA
  simp only [uMl, uY8, hs, hm]
  rw [if_pos ⟨rfl, hk⟩, List.set_append_right _ _ (Nat.le_refl _), Nat.sub_self]
  rfl
def letE0 : List (Value × Value) := setA (.int .u8 83) (.agg #[vi 0, vi (-1), vi 1, vi 0]) []
def letE1 : List (Value × Value) := setA (.int .u8 115) (.agg #[vi 0, vi 1, vi (-1), vi 0]) letE0
def letE2 : List (Value × Value) := setA (.int .u8 84) (.agg #[vi 1, vi 1, vi 0, vi 1]) letE1
def letE : List (Value × Value) := setA (.int .u8 116) (.agg #[vi 1, vi (-1), vi 0, vi 1]) letE2
theorem lets_ok : OK 1 42 (spec0 (.mp letE) false) := by
  intro n hn args r fresh hs
  obtain ⟨m, rfl⟩ : ∃ m, n = m + 1 := ⟨n - 1, by omega⟩
  unfold spec0 at hs
  split at hs
  case h_2 => cases hs
  injection hs with hs
  injection hs with h1 h2
  subst h1; subst h2
  refine AnsAt.x (ansB ?_) (fun cs e => by cases e)
  intro Z H vs hw hA
  simp only [RepCL] at hA
  subst hA
  refine ⟨.map (some H.length), H ++ [.map letE], ?_, ?_, Old.app _ _, ?_, fun e => by cases e⟩
  · rw [body_runS Tryz.func42 rfl (ok_fn (by rfl) Tryz.func42 rfl) (Nat.le_of_ble_eq_true rfl) (D := fun _ => false) (by kernel_rfl)]
    have e0 : okE ([] : List (Value × Value)) = true := rfl
    have e1 : okE letE0 = true := by kernel_rfl
    have e2 : okE letE1 = true := by kernel_rfl
    have e3 : okE letE2 = true := by kernel_rfl
    have m0 : ∀ H : Heap, mapUpdateA Tryz.prog 81 (.map (some H.length)) (.int .u8 83) (.agg #[vi 0, vi (-1), vi 1, vi 0]) (H ++ [.map []]) = some (H ++ [.map letE0]) := fun H => mapupL e0
    have m1 : ∀ H : Heap, mapUpdateA Tryz.prog 81 (.map (some H.length)) (.int .u8 115) (.agg #[vi 0, vi 1, vi (-1), vi 0]) (H ++ [.map letE0]) = some (H ++ [.map letE1]) := fun H => mapupL e1
    have m2 : ∀ H : Heap, mapUpdateA Tryz.prog 81 (.map (some H.length)) (.int .u8 84) (.agg #[vi 1, vi 1, vi 0, vi 1]) (H ++ [.map letE1]) = some (H ++ [.map letE2]) := fun H => mapupL e2
    have m3 : ∀ H : Heap, mapUpdateA Tryz.prog 81 (.map (some H.length)) (.int .u8 116) (.agg #[vi 1, vi (-1), vi 0, vi 1]) (H ++ [.map letE2]) = some (H ++ [.map letE]) := fun H => mapupL e3
    simp only [Tryz.f42, es_seq, es_region, es_ret, ops_nil, ops_cons, st_move, st_assign, sy_build, sy_mkmapL, sy_mapupL, m0, m1, m2, m3, bl1, bl2, bl3, bl4, bindO_some, bindF_some, bindX_normal, upd_at, ↓reduceIte, Nat.reduceEqDiff, ev_tmp, ev_const, putA, Option.map_some, List.map_cons, List.map_nil, fin_r, res_nil, res_tmp]
    rfl
  · simp only [RepC]
    exact ⟨H.length, rfl, by rw [List.getElem?_append_right (Nat.le_refl _), Nat.sub_self]; rfl⟩
  · intro b f o cs hb
    by_cases hlt : b < H.length
    · rw [List.getElem?_append_left hlt] at hb; exact hw b f o cs hb
    · rw [List.getElem?_append_right (by omega)] at hb
      cases hb' : b - H.length with
      | zero => rw [hb'] at hb; cases hb
      | succ k => rw [hb'] at hb; cases hb
end
theorem lk_let {b : Int} : lookV Tryz.prog 81 letE (.int .u8 b) = some (if b = 83 ∨ b = 115 ∨ b = 84 ∨ b = 116 then encU (ofL b) else vU 0 0 0 0) := by
  have hk : (keyKind (.int .u8) (.int .u8 b)) = true ∧ (letE.all fun e => keyKind (.int .u8) e.1) = true := ⟨rfl, by kernel_rfl⟩
  have hf : findA (.int .u8 b) letE = if b = 83 then some (.agg #[vi 0, vi (-1), vi 1, vi 0]) else if b = 115 then some (.agg #[vi 0, vi 1, vi (-1), vi 0]) else if b = 84 then some (.agg #[vi 1, vi 1, vi 0, vi 1]) else if b = 116 then some (.agg #[vi 1, vi (-1), vi 0, vi 1]) else none := by
    have he : letE = [(.int .u8 83, .agg #[vi 0, vi (-1), vi 1, vi 0]), (.int .u8 115, .agg #[vi 0, vi 1, vi (-1), vi 0]), (.int .u8 84, .agg #[vi 1, vi 1, vi 0, vi 1]), (.int .u8 116, .agg #[vi 1, vi (-1), vi 0, vi 1])] := rfl
    rw [he]
    simp only [findA, sameKey, beq_self_eq_true, Bool.true_and, beq_iff_eq]
  unfold lookV
  simp only [uMl, uY8, zUt]
  rw [if_pos hk, hf]
  unfold ofL
  by_cases h1 : b = 83
  · subst h1; rfl
  by_cases h2 : b = 115
  · subst h2; rfl
  by_cases h3 : b = 84
  · subst h3; rfl
  by_cases h4 : b = 116
  · subst h4; rfl
  rw [if_neg h1, if_neg h2, if_neg h3, if_neg h4, if_neg (by simp [h1, h2, h3, h4])]
  rfl
end Go.Proofs.YtmdnofcphdjieaaGreatDoor
namespace Go.Proofs.YtmdnofcphdjieaaGreatDoor
open Go Go.Abs
set_option maxRecDepth 10000
attribute [local congr] bindS_congr bindG_congr bindC_congr condV_congr grdV_congr pickV_congr binV_congr optG_congr optP_congr optL_congr optD_congr opt1_congr gO_congr ldS_congr ansS_congr iteB_congr rdC_congr idxV_congr lkV_congr
abbrev abS : VSpec := spec1 cI (fun z => decide (-9000000000000000000 ≤ z) && decide (z ≤ 9000000000000000000)) (fun z => vI z.natAbs) false
abbrev inT : List (Nat × VSpec) := [(57, abS)]
def wide (z : Int) : Bool := decide (-9000000000000000000 ≤ z) && decide (z ≤ 9000000000000000000)
def wideU (m : Un) : Bool := wide m.1 && wide m.2.1 && wide m.2.2.1 && wide m.2.2.2
theorem wideU_iff {a b c d : Int} : wideU (a, b, c, d) = true ↔ (-9000000000000000000 ≤ a ∧ a ≤ 9000000000000000000) ∧ (-9000000000000000000 ≤ b ∧ b ≤ 9000000000000000000) ∧ (-9000000000000000000 ≤ c ∧ c ≤ 9000000000000000000) ∧ (-9000000000000000000 ≤ d ∧ d ≤ 9000000000000000000) := by
  unfold wideU wide
  simp only [Bool.and_eq_true, decide_eq_true_eq]
  constructor
  · rintro ⟨⟨⟨h1, h2⟩, h3⟩, h4⟩; exact ⟨h1, h2, h3, h4⟩
  · rintro ⟨h1, h2, h3, h4⟩; exact ⟨⟨⟨h1, h2⟩, h3⟩, h4⟩
theorem small_abs {z : Int} : (decide ((z.natAbs : Int) ≤ 1000000)) = small z := by
  unfold small
  by_cases h1 : -1000000 ≤ z <;> by_cases h2 : z ≤ 1000000 <;> simp [h1, h2] <;> omega
theorem ins_ok : OK 2 48 (spec1 cU wideU (fun m => vB (smallU m)) false) := by
  refine OK.of1 (F := 1) (tb := inT) (pol := fun _ => false) ?_ (x := (Tryz.f48.body).getD .skip) (Nat.le_of_ble_eq_true rfl) Tryz.func48 rfl (ok_fn (by rfl) Tryz.func48 rfl) (by kernel_rfl) (by intros; rfl) fun n hn m hc => ?_
  · intro y hy
    simp only [inT, List.mem_singleton] at hy
    subst hy
    exact abs_ok
  obtain ⟨a, b, c, d⟩ := m
  obtain ⟨⟨a1, a2⟩, ⟨b1, b2⟩, ⟨c1, c2⟩, ⟨d1, d2⟩⟩ := wideU_iff.1 hc
  unfold smallU
  cases h1 : small a <;> cases h2 : small b <;> cases h3 : small c <;> cases h4 : small d <;>
    simp (disch := omega) only [Tryz.f48, Option.getD_some, vo_nil, List.getElem?_toArray, vo_cons, vo_consG, guardS_some, gdV_b, vc_region, vc_seq, vc_ret, vs_move, vs_assign, vs_pick, vs_box, vs_load, vs_faddr, vs_call, vs_bin, binV_leq, bindS_some, bindG_some, bindC_n, grdV_t, grdV_f, pickV_t, pickV_f, ↓bindS_some, ↓bindG_some, ↓bindC_n, ↓grdV_t, ↓grdV_f, ↓pickV_t, ↓pickV_f, rtV_some, boxV_some, updV_at, evV_tmp, evV_func, evV_int, evV_bool, putV_some, getO_eq, gO_same, optG_some, optP_some, optL_some, ↓optG_some, ↓optP_some, ↓optL_some, ld_ptr aI, ldS_sc, mkBox_some, pk_nil, pk_cons, pk_sc, vcall, ansS_sc, callOf_cons, rs_nil, rs_tmp, tmpV_sc, fv_r, pv_1, fsh_1, isOwn_sc, frV_0, ↓reduceIte, Nat.reduceEqDiff, Nat.zero_add, Nat.add_zero, List.map_cons, List.map_nil, decide_true, List.getElem?_cons_zero, List.getElem?_cons_succ, beq_self_eq_true, b_ft, iteB_true, ↓iteB_true, Bool.and_true, Bool.and_false, Option.getD_some, sp1, enc_U, optD_some, ↓optD_some, dec_I, sv_st, fa_ptr fU0, fa_ptr fU1, fa_ptr fU2, fa_ptr fU3, a1, a2, b1, b2, c1, c2, d1, d2, small_abs, h1, h2, h3, h4]
theorem isLt_iff {b : UInt8} : isLt b = true ↔ ((b.toNat : Int) = 83 ∨ (b.toNat : Int) = 115 ∨ (b.toNat : Int) = 84 ∨ (b.toNat : Int) = 116) := by
  have e : ∀ k : UInt8, (b = k) ↔ (b.toNat : Int) = k.toNat := fun k => by
    constructor
    · rintro rfl; rfl
    · intro h; exact UInt8.toNat_inj.1 (by omega)
  unfold isLt bts letS
  simp only [List.contains_cons, List.contains_nil, Bool.or_false, Bool.or_eq_true, beq_iff_eq]
  rw [e 83, e 84, e 115, e 116]
  constructor
  · rintro (h | h | h | h)
    · exact .inl h
    · exact .inr (.inr (.inl h))
    · exact .inr (.inl h)
    · exact .inr (.inr (.inr h))
  · rintro (h | h | h | h)
    · exact .inl h
    · exact .inr (.inr (.inl h))
    · exact .inr (.inl h)
    · exact .inr (.inr (.inr h))
noncomputable def rcwC : Code := atC [1, 1, 0, 1, 0, 0] ((Tryz.f13.body).getD .skip)
theorem rcw_loop {s : ByteArray} (hl : s.size ≤ 200) {call : VCall} {pol : Nat → Bool} {m k c : Nat} {a : VF} {σ : VSt} (hk : s.size < k) (h0 : a 0 = .sc (.string s)) (h3 : a 3 = vI ((0 : Nat) : Int)) :
    ∃ x a' σ' c', loopV (evVC Tryz.prog call pol m rcwC) k a σ c = some (x, a', σ', c') ∧ ((x = .exit 0 ∧ (bts s).all isLt = true) ∨ (x = .ret ∧ a' 2 = vI 7 ∧ (bts s).all isLt = false)) := by
  have hlen := bts_len s
  refine loopV_up s.size (fun i a σ _ => a 0 = .sc (.string s) ∧ a 3 = vI i ∧ ((bts s).take i).all isLt = true) _ ?_ ?_ hk ⟨h0, h3, rfl⟩
  · intro i a σ c hi ⟨h0, h3, ha⟩
    have c1 : (i : Int) < (s.size : Int) := by omega
    have e3 : IntKind.i64.wrap ((i : Int) + 1) = ((i + 1 : Nat) : Int) := by rw [wr64 (by omega) (by omega)]; omega
    obtain ⟨b, hb⟩ : ∃ b, (bts s)[i]? = some b := ⟨_, List.getElem?_eq_getElem (by omega)⟩
    have hx := fun r => sidx_ok (s := s) (k := i) (b := b) (σ := σ) (c := c) hb (r := r)
    rw [show rcwC = atC [1, 1, 0, 1, 0, 0] ((Tryz.f13.body).getD .skip) from rfl]
    have hall : ((bts s).take (i + 1)).all isLt = isLt b := by
      rw [List.take_add_one, hb, List.all_append, ha]
      simp
    cases hl : isLt b with
    | true =>
      left
      have hor := isLt_iff.1 hl
      have out : ((bts s).take (i + 1)).all isLt = true := by rw [hall, hl]
      by_cases g1 : (b.toNat : Int) = 83
      · simp (disch := omega) only [Tryz.f13, Option.getD_some, atC, vo_nil, List.getElem?_toArray, vo_cons, vo_consG, guardS_some, gdV_b, vc_region, vc_seq, vc_cond, vc_block, vc_skip, vs_move, vs_assign, vs_pick, vs_bin, binV_lss, binV_add, binY_neq, bindS_some, bindG_some, bindC_n, blkC_n, condV_t, condV_f, grdV_f, pickV_f, ↓bindS_some, ↓bindG_some, ↓bindC_n, ↓condV_t, ↓condV_f, ↓grdV_f, ↓pickV_f, updV_at, evV_tmp, evV_int, evV_bool, putV_some, ↓reduceIte, Nat.reduceEqDiff, decide_true, Bool.not_true, List.getElem?_cons_zero, List.getElem?_cons_succ, b_ft, Option.getD_some, vs_index, vs_slen uS9, slenV, rest_sidx uS9, idxV_sc, hx, h0, h3, c1, g1, e3]
        exact ⟨_, _, _, rfl, by simp only [updV_at, ↓reduceIte, Nat.reduceEqDiff, h0], by simp only [updV_at, ↓reduceIte], out⟩
      · by_cases g2 : (b.toNat : Int) = 115
        · replace g2 := eq_true g2
          simp (disch := omega) only [Tryz.f13, Option.getD_some, atC, vo_nil, List.getElem?_toArray, vo_cons, vo_consG, guardS_some, gdV_b, vc_region, vc_seq, vc_cond, vc_block, vc_skip, vs_move, vs_assign, vs_pick, vs_bin, binV_lss, binV_add, binY_neq, bindS_some, bindG_some, bindC_n, blkC_n, condV_t, condV_f, grdV_t, grdV_f, pickV_t, pickV_f, ↓bindS_some, ↓bindG_some, ↓bindC_n, ↓condV_t, ↓condV_f, ↓grdV_t, ↓grdV_f, ↓pickV_t, ↓pickV_f, updV_at, evV_tmp, evV_int, evV_bool, putV_some, ↓reduceIte, Nat.reduceEqDiff, decide_true, decide_false, Bool.not_true, Bool.not_false, List.getElem?_cons_zero, List.getElem?_cons_succ, beq_self_eq_true, b_ft, Option.getD_some, vs_index, vs_slen uS9, slenV, rest_sidx uS9, idxV_sc, hx, h0, h3, c1, g1, g2, e3]
          exact ⟨_, _, _, rfl, by simp only [updV_at, ↓reduceIte, Nat.reduceEqDiff, h0], by simp only [updV_at, ↓reduceIte], out⟩
        · by_cases g3 : (b.toNat : Int) = 84
          · replace g3 := eq_true g3
            simp (disch := omega) only [Tryz.f13, Option.getD_some, atC, vo_nil, List.getElem?_toArray, vo_cons, vo_consG, guardS_some, gdV_b, vc_region, vc_seq, vc_cond, vc_block, vc_skip, vs_move, vs_assign, vs_pick, vs_bin, binV_lss, binV_add, binY_neq, bindS_some, bindG_some, bindC_n, blkC_n, condV_t, condV_f, grdV_t, grdV_f, pickV_t, pickV_f, ↓bindS_some, ↓bindG_some, ↓bindC_n, ↓condV_t, ↓condV_f, ↓grdV_t, ↓grdV_f, ↓pickV_t, ↓pickV_f, updV_at, evV_tmp, evV_int, evV_bool, putV_some, ↓reduceIte, Nat.reduceEqDiff, decide_true, decide_false, Bool.not_true, Bool.not_false, List.getElem?_cons_zero, List.getElem?_cons_succ, beq_self_eq_true, b_ft, Option.getD_some, vs_index, vs_slen uS9, slenV, rest_sidx uS9, idxV_sc, hx, h0, h3, c1, g1, g2, g3, e3]
            exact ⟨_, _, _, rfl, by simp only [updV_at, ↓reduceIte, Nat.reduceEqDiff, h0], by simp only [updV_at, ↓reduceIte], out⟩
          · have g4 : ((b.toNat : Int) = 116) = True := eq_true (by omega)
            simp (disch := omega) only [Tryz.f13, Option.getD_some, atC, vo_nil, List.getElem?_toArray, vo_cons, vo_consG, guardS_some, gdV_b, vc_region, vc_seq, vc_cond, vc_block, vc_skip, vs_move, vs_assign, vs_pick, vs_bin, binV_lss, binV_add, binY_neq, bindS_some, bindG_some, bindC_n, blkC_n, condV_t, condV_f, grdV_t, pickV_t, ↓bindS_some, ↓bindG_some, ↓bindC_n, ↓condV_t, ↓condV_f, ↓grdV_t, ↓pickV_t, updV_at, evV_tmp, evV_int, putV_some, ↓reduceIte, Nat.reduceEqDiff, decide_true, decide_false, Bool.not_true, Bool.not_false, List.getElem?_cons_zero, List.getElem?_cons_succ, beq_self_eq_true, Option.getD_some, vs_index, vs_slen uS9, slenV, rest_sidx uS9, idxV_sc, hx, h0, h3, c1, g1, g2, g3, g4, e3]
            exact ⟨_, _, _, rfl, by simp only [updV_at, ↓reduceIte, Nat.reduceEqDiff, h0], by simp only [updV_at, ↓reduceIte], out⟩
    | false =>
      right
      have hno : ¬ ((b.toNat : Int) = 83 ∨ (b.toNat : Int) = 115 ∨ (b.toNat : Int) = 84 ∨ (b.toNat : Int) = 116) := fun h => by rw [isLt_iff.2 h] at hl; cases hl
      have g1 : ¬ (b.toNat : Int) = 83 := fun h => hno (.inl h)
      have g2 : ¬ (b.toNat : Int) = 115 := fun h => hno (.inr (.inl h))
      have g3 : ¬ (b.toNat : Int) = 84 := fun h => hno (.inr (.inr (.inl h)))
      have g4 : ¬ (b.toNat : Int) = 116 := fun h => hno (.inr (.inr (.inr h)))
      simp (disch := omega) only [Tryz.f13, Option.getD_some, atC, vo_nil, List.getElem?_toArray, vo_cons, vo_consG, guardS_some, gdV_b, vc_region, vc_seq, vc_cond, vc_block, vc_skip, vc_ret, vs_move, vs_assign, vs_pick, vs_bin, binV_lss, binY_neq, bindS_some, bindG_some, bindC_n, bindC_r, blkC_r, condV_t, grdV_t, pickV_t, ↓bindS_some, ↓bindG_some, ↓bindC_n, ↓bindC_r, ↓condV_t, ↓grdV_t, ↓pickV_t, updV_at, evV_tmp, evV_int, putV_some, ↓reduceIte, Nat.reduceEqDiff, decide_true, decide_false, Bool.not_false, List.getElem?_cons_zero, List.getElem?_cons_succ, beq_self_eq_true, Option.getD_some, vs_index, vs_slen uS9, slenV, rest_sidx uS9, idxV_sc, hx, h0, h3, c1, g1, g2, g3, g4]
      refine ⟨_, _, _, _, rfl, by simp, .inr ⟨rfl, by simp only [updV_at, ↓reduceIte], ?_⟩⟩
      cases hc : (bts s).all isLt with
      | false => rfl
      | true =>
        have := List.all_eq_true.1 hc b (List.mem_of_getElem? hb)
        rw [hl] at this; cases this
  · intro a σ c ⟨h0, h3, ha⟩
    have c1 : ¬ ((s.size : Int) < (s.size : Int)) := by omega
    rw [show rcwC = atC [1, 1, 0, 1, 0, 0] ((Tryz.f13.body).getD .skip) from rfl]
    simp only [Tryz.f13, Option.getD_some, atC, vo_nil, vo_cons, vc_region, vc_seq, vc_cond, vc_exit, vs_move, vs_bin, binV_lss, bindS_some, bindG_some, bindC_n, bindC_e, condV_f, ↓bindS_some, ↓bindG_some, ↓bindC_n, ↓bindC_e, ↓condV_f, updV_at, evV_tmp, putV_some, ↓reduceIte, Nat.reduceEqDiff, decide_false, Option.getD_some, vs_slen uS9, slenV, h0, h3, c1]
    refine ⟨_, _, _, _, rfl, by simp, .inl ⟨rfl, ?_⟩⟩
    rw [← hlen, List.take_length] at ha
    exact ha
abbrev cwS : VSpec := spec1 cS (fun s => decide (s.size < 1000000)) (fun s => vI (chkW (bts s))) false
theorem rcw_ok : OK 1000 13 cwS := by
  refine OK.of1 (F := 999) (tb := []) (pol := fun _ => false) (by simp) (x := (Tryz.f13.body).getD .skip) (Nat.le_of_ble_eq_true rfl) Tryz.func13 rfl (ok_fn (by rfl) Tryz.func13 rfl) (by kernel_rfl) (by intros; rfl) fun n hn s hc => ?_
  have key := fun (hl : s.size ≤ 200) (a : VF) (σ : VSt) (c : Nat) => rcw_loop hl (call := callOf []) (pol := fun _ => false) (m := n) (k := n) (a := a) (σ := σ) (c := c) (by omega)
  rw [show rcwC = atC [1, 1, 0, 1, 0, 0] ((Tryz.f13.body).getD .skip) from rfl] at key
  simp only [Tryz.f13, Option.getD_some, atC] at key
  unfold chkW
  by_cases h2 : 200 < s.size
  · have e2 : (200 : Int) < (s.size : Int) := by omega
    simp (disch := omega) only [Tryz.f13, Option.getD_some, vo_nil, vo_cons, vc_region, vc_seq, vc_cond, vc_ret, vs_move, vs_assign, vs_bin, binV_gtr, bindS_some, bindG_some, bindC_n, bindC_r, condV_t, ↓bindS_some, ↓bindG_some, ↓bindC_n, ↓bindC_r, ↓condV_t, updV_at, evV_tmp, evV_int, putV_some, optL_some, ↓optL_some, rs_nil, rs_tmp, tmpV_sc, fv_r, pv_1, fsh_1, isOwn_sc, frV_0, ↓reduceIte, Nat.reduceEqDiff, decide_true, Option.getD_some, enc_S, vs_slen uS9, slenV, e2]
    rw [if_pos (by rw [bts_len]; exact h2)]
  · have e2 : ¬ (200 : Int) < (s.size : Int) := by omega
    rw [if_neg (by rw [bts_len]; exact h2)]
    simp (disch := omega) only [Tryz.f13, Option.getD_some, vo_nil, vo_cons, vc_region, vc_seq, vc_cond, vc_block, vc_loop, vc_skip, vc_ret, vs_move, vs_assign, vs_bin, binV_gtr, bindS_some, bindG_some, bindC_n, condV_f, ↓bindS_some, ↓bindG_some, ↓bindC_n, ↓condV_f, updV_at, evV_tmp, evV_int, putV_some, frV_0, ↓reduceIte, Nat.reduceEqDiff, decide_false, Option.getD_some, enc_S, vs_slen uS9, slenV, e2]
    generalize hA : updV _ 3 _ = B
    obtain ⟨x, a', σ', c', e, ⟨rfl, h⟩ | ⟨rfl, h7, h⟩⟩ := key (by omega) B (fun _ => none) _ (by subst hA; rfl) (by subst hA; rfl)
    · rw [e]
      simp (disch := omega) only [bindC_n, blkC_e, ↓bindC_n, updV_at, optL_some, ↓optL_some, rs_nil, rs_tmp, tmpV_sc, fv_r, pv_1, fsh_1, isOwn_sc, ↓reduceIte, h]
    · rw [e]
      simp (disch := omega) only [bindC_r, blkC_r, ↓bindC_r, optL_some, ↓optL_some, rs_nil, rs_tmp, tmpV_sc, fv_r, pv_1, fsh_1, isOwn_sc, ↓reduceIte, Bool.false_eq_true, h7, h]
end Go.Proofs.YtmdnofcphdjieaaGreatDoor
namespace Go.Proofs.YtmdnofcphdjieaaGreatDoor
open Go Go.Abs
set_option maxRecDepth 10000
attribute [local congr] bindS_congr bindG_congr bindC_congr condV_congr grdV_congr pickV_congr binV_congr optG_congr optP_congr optL_congr optD_congr opt1_congr gO_congr ldS_congr ansS_congr iteB_congr rdC_congr idxV_congr lkV_congr
def matK : List UInt8 → Un → Option Un
  | [], m => some m
  | b :: l, m => if smallU (prodU m (ofL b.toNat)) then matK l (prodU m (ofL b.toNat)) else none
def oneU : Un := (1, 0, 0, 1)
def matR (l : List UInt8) : VV := if chkW l = 0 then (match matK l oneU with
  | some m => .tup [encU m, vI 0]
  | none => .tup [vU 0 0 0 0, vI 8]) else .tup [vU 0 0 0 0, vI (chkW l)]
theorem ofL_small (b : Int) : smallU (ofL b) = true := by
  unfold ofL
  split
  · rfl
  · split
    · rfl
    · split <;> rfl
theorem prod_wide {m k : Un} (h1 : smallU m = true) (h2 : smallU k = true) : wideU (prodU m k) = true := by
  obtain ⟨a, b, c, d⟩ := m
  obtain ⟨e, f, g, h⟩ := k
  obtain ⟨h1, h2', h3, h4⟩ := smallU_iff.1 h1
  obtain ⟨k1, k2, k3, k4⟩ := smallU_iff.1 h2
  have m1 := mul_b h1 k1
  have m2 := mul_b h2' k3
  have m3 := mul_b h1 k2
  have m4 := mul_b h2' k4
  have m5 := mul_b h3 k1
  have m6 := mul_b h4 k3
  have m7 := mul_b h3 k2
  have m8 := mul_b h4 k4
  refine wideU_iff.2 ⟨?_, ?_, ?_, ?_⟩ <;> constructor <;> simp only [] <;> omega
abbrev bx4 (u : Nat) (m : Un) : Option Ob := some ⟨u, 0, 0, [vI m.1, vI m.2.1, vI m.2.2.1, vI m.2.2.2]⟩
abbrev smS : VSpec := spec1 cU (fun _ => true) (fun m => vB (smallU m)) false
abbrev maT : List (Nat × VSpec) := [(12, cwS), (41, spec0 (vU 1 0 0 1) false), (42, spec0 (.mp letE) false), (43, prS), (44, smS)]
noncomputable def matC : Code := atC [1, 1, 1, 0, 1, 0, 0] ((Tryz.f10.body).getD .skip)
theorem mat_loop {s : ByteArray} (hl : s.size ≤ 200) (hlt : (bts s).all isLt = true) {pol : Nat → Bool} (hpol : pol = fun _ => false) {mm k c u v : Nat} {a : VF} {σ : VSt} (hk : s.size < k) (h0 : a 0 = .sc (.string s)) (h2 : a 2 = .ptr 2 v 0) (h5 : a 5 = .ptr 5 u 0) (h6 : a 6 = .mp letE) (h17 : a 17 = vI s.size) (h18 : a 18 = vI ((0 : Nat) : Int))
    (s2 : σ 2 = bx4 v (0, 0, 0, 0)) (s5 : σ 5 = bx4 u oneU) :
    ∃ x a' σ' c', loopV (evVC Tryz.prog (callOf maT) pol mm matC) k a σ c = some (x, a', σ', c') ∧ a' 2 = .ptr 2 v 0 ∧ ((x = .exit 0 ∧ a' 5 = .ptr 5 u 0 ∧ ∃ m, matK (bts s) oneU = some m ∧ σ' 5 = bx4 u m ∧ σ' 2 = bx4 v (0, 0, 0, 0)) ∨ (x = .ret ∧ a' 3 = vI 8 ∧ matK (bts s) oneU = none ∧ σ' 2 = bx4 v (0, 0, 0, 0))) := by
  subst hpol
  have hlen := bts_len s
  refine loopV_up s.size (fun i a σ _ => a 0 = .sc (.string s) ∧ a 2 = .ptr 2 v 0 ∧ a 5 = .ptr 5 u 0 ∧ a 6 = .mp letE ∧ a 17 = vI s.size ∧ a 18 = vI i ∧ σ 2 = bx4 v (0, 0, 0, 0) ∧ ∃ m, smallU m = true ∧ matK (bts s) oneU = matK ((bts s).drop i) m ∧ σ 5 = bx4 u m) _ ?_ ?_ hk ⟨h0, h2, h5, h6, h17, h18, s2, oneU, rfl, rfl, s5⟩
  · intro i a σ c hi ⟨h0, h2, h5, h6, h17, h18, s2, m, hm, hK, s5⟩
    have c1 : (i : Int) < (s.size : Int) := by omega
    have e3 : IntKind.i64.wrap ((i : Int) + 1) = ((i + 1 : Nat) : Int) := by rw [wr64 (by omega) (by omega)]; omega
    obtain ⟨b, hb⟩ : ∃ b, (bts s)[i]? = some b := ⟨_, List.getElem?_eq_getElem (by omega)⟩
    have hx := fun r (σ : VSt) (c : Nat) => sidx_ok (s := s) (k := i) (b := b) (σ := σ) (c := c) hb (r := r)
    have hlb : isLt b = true := List.all_eq_true.1 hlt b (List.mem_of_getElem? hb)
    have hor := isLt_iff.1 hlb
    have hdr : (bts s).drop i = b :: (bts s).drop (i + 1) := by
      obtain ⟨hi', e⟩ := List.getElem?_eq_some_iff.1 hb
      rw [List.drop_eq_getElem_cons hi', e]
    have hlk := lk_let (b := (b.toNat : Int))
    have hof := ofL_small (b.toNat : Int)
    rw [hdr] at hK
    simp only [matK] at hK
    cases hq : ofL (b.toNat : Int) with
    | mk e q =>
    obtain ⟨f, g, h⟩ := q
    rw [if_pos (by rcases hor with h | h | h | h <;> simp [h]), hq] at hlk
    rw [hq] at hof hK
    obtain ⟨m1, m2, m3, m4⟩ := m
    have hw : (smallU (m1, m2, m3, m4) && smallU (e, f, g, h)) = true := by rw [hm, hof]; rfl
    cases hp : prodU (m1, m2, m3, m4) (e, f, g, h) with
    | mk p1 q =>
    obtain ⟨p2, p3, p4⟩ := q
    rw [hp] at hK
    rw [show matC = atC [1, 1, 1, 0, 1, 0, 0] ((Tryz.f10.body).getD .skip) from rfl]
    cases hs : smallU (p1, p2, p3, p4) with
    | true =>
      left
      rw [hs, if_pos rfl] at hK
      simp (disch := omega) only [Tryz.f10, Option.getD_some, atC, vo_nil, vo_cons, vc_region, vc_draw, vc_seq, vc_cond, vc_block, vc_skip, vs_move, vs_assign, vs_load, vs_store, vs_call, vs_bin, vs_not, binV_lss, binV_add, notV_b, bindS_some, bindG_some, bindC_n, blkC_n, condV_t, condV_f, ↓bindS_some, ↓bindG_some, ↓bindC_n, ↓condV_t, ↓condV_f, rtV_some, stoV_some, updV_at, evV_tmp, evV_func, evV_int, putV_some, putV_none, getO_eq, gO_same, optG_some, optP_some, optL_some, ↓optG_some, ↓optP_some, ↓optL_some, pk_nil, pk_cons, pk1_nil, pk1_cons, pk_st, pk1_sc, vcall, ansS_sc, ansS_st0, callOf_cons, own_st, own1_sc, List.flatMap_cons, List.flatMap_nil, List.append_nil, ↓reduceIte, Nat.reduceEqDiff, Nat.succ_ne_self, Nat.zero_add, List.map_cons, List.map_nil, decide_true, Bool.not_true, iteB_true, iteB_false, ↓iteB_true, ↓iteB_false, Option.getD_some, sp1, sp2, optD_some, ↓optD_some, dec_U, vs_index, stW_box, sv_st, setLs_nil, setLs_cons, sl_sc, soln_true, ldN_4, List.set_cons_zero, List.set_cons_succ, List.length_cons, List.length_nil, Nat.reduceAdd, Nat.le_refl, List.drop_zero, ldN_ptr aU zU, st_W zU, rest_sidx uS9, idxV_sc, hx, vs_lookup, lkV_mp, hlk, h0, h5, h6, h17, h18, s5, c1, e3, hw, hp, hs]
      exact ⟨_, _, _, rfl, by simp only [updV_at, ↓reduceIte, Nat.reduceEqDiff, h0], by simp only [updV_at, ↓reduceIte, Nat.reduceEqDiff, h2], by simp only [updV_at, ↓reduceIte, Nat.reduceEqDiff, h5], by simp only [updV_at, ↓reduceIte, Nat.reduceEqDiff, h6], by simp only [updV_at, ↓reduceIte, Nat.reduceEqDiff, h17], by simp only [updV_at, ↓reduceIte], by simp only [updV_at, ↓reduceIte, Nat.reduceEqDiff, s2], (p1, p2, p3, p4), hs, hK, by simp only [updV_at, ↓reduceIte]⟩
    | false =>
      right
      rw [hs, if_neg (by simp)] at hK
      simp (disch := omega) only [Tryz.f10, Option.getD_some, atC, vo_nil, vo_cons, vc_region, vc_draw, vc_seq, vc_cond, vc_block, vc_skip, vc_ret, vs_move, vs_assign, vs_build, vs_load, vs_store, vs_call, vs_bin, vs_not, binV_lss, notV_b, bindS_some, bindG_some, bindC_n, bindC_r, blkC_r, condV_t, ↓bindS_some, ↓bindG_some, ↓bindC_n, ↓bindC_r, ↓condV_t, rtV_some, stoV_some, updV_at, evV_tmp, evV_func, evV_int, putV_some, putV_none, getO_eq, gO_same, optG_some, optP_some, optL_some, ↓optG_some, ↓optP_some, ↓optL_some, pk_nil, pk_cons, pk1_nil, pk1_cons, pk_st, pk1_sc, vcall, ansS_sc, ansS_st0, callOf_cons, own_st, own1_sc, List.flatMap_cons, List.flatMap_nil, List.append_nil, ↓reduceIte, Nat.reduceEqDiff, Nat.succ_ne_self, Nat.zero_add, List.map_cons, List.map_nil, decide_true, Bool.not_false, iteB_true, iteB_false, ↓iteB_true, ↓iteB_false, Option.getD_some, sp1, sp2, optD_some, ↓optD_some, dec_U, vs_index, stW_box, sv_st, setLs_nil, setLs_cons, sl_sc, soln_true, ldN_4, List.set_cons_zero, List.set_cons_succ, List.length_cons, List.length_nil, Nat.reduceAdd, Nat.le_refl, List.drop_zero, ldN_ptr aU zU, st_W zU, bU0, rest_sidx uS9, idxV_sc, hx, vs_lookup, lkV_mp, hlk, h0, h2, h5, h6, h17, h18, s2, s5, c1, hw, hp, hs]
      exact ⟨_, _, _, _, rfl, by simp, by simp only [updV_at, ↓reduceIte, Nat.reduceEqDiff, h2], .inr ⟨rfl, by simp only [updV_at, ↓reduceIte], hK, by simp only [updV_at, ↓reduceIte]⟩⟩
  · intro a σ c ⟨h0, h2, h5, h6, h17, h18, s2, m, hm, hK, s5⟩
    have c1 : ¬ ((s.size : Int) < (s.size : Int)) := by omega
    rw [show matC = atC [1, 1, 1, 0, 1, 0, 0] ((Tryz.f10.body).getD .skip) from rfl]
    simp only [Tryz.f10, Option.getD_some, atC, vo_nil, vo_cons, vc_region, vc_seq, vc_cond, vc_exit, vs_bin, binV_lss, bindS_some, bindG_some, bindC_n, bindC_e, condV_f, ↓bindS_some, ↓bindG_some, ↓bindC_n, ↓bindC_e, ↓condV_f, updV_at, evV_tmp, putV_some, ↓reduceIte, decide_false, Option.getD_some, h17, h18, c1]
    refine ⟨_, _, _, _, rfl, by simp, by simp only [updV_at, ↓reduceIte, Nat.reduceEqDiff, h2], .inl ⟨rfl, by simp only [updV_at, ↓reduceIte, Nat.reduceEqDiff, h5], m, ?_, s5, s2⟩⟩
    rw [hK, ← hlen, List.drop_length]
    rfl
abbrev maS : VSpec := spec1 cS (fun s => decide (s.size < 1000000)) (fun s => matR (bts s)) false
theorem mat_ok : OK 1001 10 maS := by
  refine OK.of1 (F := 1000) (tb := maT) (pol := fun _ => false) ?_ (x := (Tryz.f10.body).getD .skip) (Nat.le_of_ble_eq_true rfl) Tryz.func10 rfl (ok_fn (by rfl) Tryz.func10 rfl) (by kernel_rfl) (by intros; rfl) fun n hn s hc => ?_
  · intro y hy
    simp only [maT, List.mem_cons, List.not_mem_nil, or_false] at hy
    rcases hy with rfl | rfl | rfl | rfl | rfl
    · exact cw_ok.mono (by omega)
    · exact one_ok.mono (by omega)
    · exact lets_ok.mono (by omega)
    · exact prod_ok.mono (by omega)
    · exact smAll_ok.mono (by omega)
  have key := fun (hl : s.size ≤ 200) (hlt : (bts s).all isLt = true) (a : VF) (σ : VSt) (c u v : Nat) => mat_loop hl hlt (pol := fun _ => false) rfl (mm := n) (k := n) (a := a) (σ := σ) (c := c) (u := u) (v := v) (by omega)
  rw [show matC = atC [1, 1, 1, 0, 1, 0, 0] ((Tryz.f10.body).getD .skip) from rfl] at key
  simp only [Tryz.f10, Option.getD_some, atC] at key
  by_cases h0 : chkW (bts s) = 0
  · have hb : s.size ≤ 200 ∧ (bts s).all isLt = true := by
      unfold chkW at h0
      split at h0
      · cases h0
      · rename_i h200
        split at h0
        · rename_i hall
          exact ⟨by rw [← bts_len]; omega, hall⟩
        · cases h0
    have hT : (chkW (bts s) = 0) = True := eq_true h0
    simp (disch := omega) only [Tryz.f10, Option.getD_some, vo_nil, vo_cons, vc_region, vc_seq, vc_cond, vc_block, vc_loop, vc_skip, vc_ret, vs_move, vs_assign, vs_load, vs_store, vs_call, vs_bin, binV_neq, bindS_some, bindG_some, bindC_n, condV_f, ↓bindS_some, ↓bindG_some, ↓bindC_n, ↓condV_f, stoV_some, updV_at, evV_tmp, evV_func, evV_int, putV_some, putV_none, getO_eq, gO_same, optG_some, optP_some, optL_some, ↓optG_some, ↓optP_some, ↓optL_some, mkBox_some, pk_nil, pk_cons, pk_sc, vcall, ansS_sc, ansS_st0, callOf_cons, frV_0, List.flatMap_nil, ↓reduceIte, Nat.reduceEqDiff, Nat.succ_ne_self, Nat.zero_add, List.map_cons, List.map_nil, decide_true, Bool.not_true, iteB_true, ↓iteB_true, Option.getD_some, sp0, sp1, enc_S, optD_some, ↓optD_some, dec_S, stW_box, sv_st, setLs_nil, setLs_cons, List.set_cons_zero, List.set_cons_succ, List.length_cons, List.length_nil, Nat.reduceAdd, Nat.le_refl, st_W zU, vs_alloc iU, vs_slen uS9, slenV, ansS_mp, hc, hT]
    generalize hA : updV _ 18 _ = B
    generalize hS : updV _ 5 _ = τ
    obtain ⟨x, a', σ', c', e, w2, ⟨rfl, w5, m, hK, q5, q2⟩ | ⟨rfl, w3, hK, q2⟩⟩ := key hb.1 hb.2 B τ _ _ _ (by subst hA; rfl) (by subst hA; rfl) (by subst hA; rfl) (by subst hA; rfl) (by subst hA; rfl) (by subst hA; rfl) (by subst hS; rfl) (by subst hS; rfl)
    · rw [e]
      simp (disch := omega) only [bindS_some, bindG_some, bindC_n, blkC_e, ↓bindS_some, ↓bindG_some, ↓bindC_n, rtV_some, stoV_some, updV_at, getO_eq, gO_same, optG_some, optP_some, optL_some, ↓optG_some, ↓optP_some, ↓optL_some, pk1_nil, pk1_cons, pk_st, pk1_sc, rs_nil, rs_tmp, rs_cell, tmpV_sc, fv_r, pv_2, fsh_2, ↓reduceIte, Nat.reduceEqDiff, Nat.zero_add, stW_box, sv_st, setLs_nil, setLs_cons, sl_sc, soln_true, ldN_4, List.set_cons_zero, List.set_cons_succ, List.length_cons, List.length_nil, Nat.reduceAdd, Nat.le_refl, List.drop_zero, ldN_ptr aU zU, st_W zU, w2, w5, q5, q2]
      unfold matR
      rw [if_pos h0, hK]
    · rw [e]
      simp (disch := omega) only [bindC_r, blkC_r, ↓bindC_r, getO_eq, gO_same, optG_some, optP_some, optL_some, ↓optG_some, ↓optP_some, ↓optL_some, pk1_nil, pk1_cons, pk_st, pk1_sc, rs_nil, rs_tmp, rs_cell, tmpV_sc, fv_r, pv_2, fsh_2, ↓reduceIte, Nat.zero_add, sl_sc, soln_true, ldN_4, List.length_cons, List.length_nil, Nat.reduceAdd, Nat.le_refl, List.drop_zero, ldN_ptr aU zU, w2, w3, q2]
      unfold matR
      rw [if_pos h0, hK]
  · have hf : (chkW (bts s) = 0) = False := eq_false h0
    simp (disch := omega) only [Tryz.f10, Option.getD_some, vo_nil, vo_cons, vc_region, vc_seq, vc_cond, vc_ret, vs_move, vs_assign, vs_build, vs_store, vs_call, vs_bin, binV_neq, bindS_some, bindG_some, bindC_n, bindC_r, condV_t, ↓bindS_some, ↓bindG_some, ↓bindC_n, ↓bindC_r, ↓condV_t, rtV_some, stoV_some, updV_at, evV_tmp, evV_func, evV_int, putV_some, putV_none, getO_eq, gO_same, optG_some, optP_some, optL_some, ↓optG_some, ↓optP_some, ↓optL_some, mkBox_some, pk_nil, pk_cons, pk1_nil, pk1_cons, pk_sc, pk_st, pk1_sc, vcall, ansS_sc, callOf_cons, rs_nil, rs_tmp, rs_cell, tmpV_sc, fv_r, pv_2, fsh_2, frV_0, ↓reduceIte, Nat.reduceEqDiff, Nat.zero_add, List.map_cons, List.map_nil, decide_false, Bool.not_false, iteB_true, ↓iteB_true, Option.getD_some, sp1, enc_S, optD_some, ↓optD_some, dec_S, stW_box, sv_st, setLs_nil, setLs_cons, sl_sc, soln_true, ldN_4, List.set_cons_zero, List.set_cons_succ, List.length_cons, List.length_nil, Nat.reduceAdd, Nat.le_refl, List.drop_zero, ldN_ptr aU zU, st_W zU, bU0, vs_alloc iU, hc, hf]
    unfold matR
    rw [if_neg h0]
abbrev rmT : List (Nat × VSpec) := [(13, cwS), (45, spec0 (vU 1 0 0 1) false), (47, spec1 cY (fun _ => true) (fun b => encU (ofL b)) false), (46, prS), (48, spec1 cU wideU (fun m => vB (smallU m)) false)]
abbrev polM (i : Nat) : Nat → Bool := fun d => d == 1000000 + i
theorem rmat_loop {s : ByteArray} (hl : s.size ≤ 200) {mm k c u v : Nat} {a : VF} {σ : VSt} (hk : s.size < k) (h0 : a 0 = .sc (.string s)) (h2 : a 2 = .ptr 2 v 0) (h5 : a 5 = .ptr 5 u 0) (h6 : a 6 = vI ((0 : Nat) : Int))
    (s2 : σ 2 = bx4 v (0, 0, 0, 0)) (s5 : σ 5 = bx4 u oneU) :
    ∃ x a' σ' c', loopV (evVC Tryz.prog (callOf rmT) (polM 8) mm (atC [1, 1, 1, 0, 1, 0, 0] ((Tryz.f11.body).getD .skip))) k a σ c = some (x, a', σ', c') ∧ a' 2 = .ptr 2 v 0 ∧ ((x = .exit 0 ∧ a' 5 = .ptr 5 u 0 ∧ ∃ m, matK (bts s) oneU = some m ∧ σ' 5 = bx4 u m ∧ σ' 2 = bx4 v (0, 0, 0, 0)) ∨ (x = .ret ∧ a' 3 = vI 8 ∧ matK (bts s) oneU = none ∧ σ' 2 = bx4 v (0, 0, 0, 0))) := by
  have p8 : polM 8 (1000000 + 8) = true := rfl
  have di : drawI (regOps (atC [1, 1, 1, 0, 1, 0, 0, 1, 0, 0, 0] ((Tryz.f11.body).getD .skip))) (Region.before (regOps (atC [1, 1, 1, 0, 1, 0, 0, 1, 0, 0, 0] ((Tryz.f11.body).getD .skip)))) = true := by kernel_rfl
  simp only [Tryz.f11, Option.getD_some, atC, regOps] at di
  have hlen := bts_len s
  refine loopV_up s.size (fun i a σ _ => a 0 = .sc (.string s) ∧ a 2 = .ptr 2 v 0 ∧ a 5 = .ptr 5 u 0 ∧ a 6 = vI i ∧ σ 2 = bx4 v (0, 0, 0, 0) ∧ ∃ m, smallU m = true ∧ matK (bts s) oneU = matK ((bts s).drop i) m ∧ σ 5 = bx4 u m) _ ?_ ?_ hk ⟨h0, h2, h5, h6, s2, oneU, rfl, rfl, s5⟩
  · intro i a σ c hi ⟨h0, h2, h5, h6, s2, m, hm, hK, s5⟩
    have c1 : (i : Int) < (s.size : Int) := by omega
    have e3 : IntKind.i64.wrap ((i : Int) + 1) = ((i + 1 : Nat) : Int) := by rw [wr64 (by omega) (by omega)]; omega
    obtain ⟨b, hb⟩ : ∃ b, (bts s)[i]? = some b := ⟨_, List.getElem?_eq_getElem (by omega)⟩
    have hx := fun r (σ : VSt) (c : Nat) => sidx_ok (s := s) (k := i) (b := b) (σ := σ) (c := c) hb (r := r)
    have hdr : (bts s).drop i = b :: (bts s).drop (i + 1) := by
      obtain ⟨hi', e⟩ := List.getElem?_eq_some_iff.1 hb
      rw [List.drop_eq_getElem_cons hi', e]
    have hof := ofL_small (b.toNat : Int)
    rw [hdr] at hK
    simp only [matK] at hK
    cases hq : ofL (b.toNat : Int) with
    | mk e q =>
    obtain ⟨f, g, h⟩ := q
    rw [hq] at hof hK
    obtain ⟨m1, m2, m3, m4⟩ := m
    have hw : (smallU (m1, m2, m3, m4) && smallU (e, f, g, h)) = true := by rw [hm, hof]; rfl
    have hwd := prod_wide hm hof
    cases hp : prodU (m1, m2, m3, m4) (e, f, g, h) with
    | mk p1 q =>
    obtain ⟨p2, p3, p4⟩ := q
    rw [hp] at hK hwd
    cases hs : smallU (p1, p2, p3, p4) with
    | true =>
      left
      rw [hs, if_pos rfl] at hK
      simp (disch := omega) only [Tryz.f11, Option.getD_some, atC, vo_nil, vo_cons, vc_region, vc_draw, vc_seq, vc_cond, vc_block, vc_skip, vs_move, vs_assign, vs_load, vs_store, vs_call, vs_bin, vs_not, binV_lss, binV_add, notV_b, bindS_some, bindG_some, bindC_n, blkC_n, condV_t, condV_f, ↓bindS_some, ↓bindG_some, ↓bindC_n, ↓condV_t, ↓condV_f, rtV_some, stoV_some, updV_at, evV_tmp, evV_func, evV_int, putV_some, putV_none, getO_eq, gO_same, optG_some, optP_some, optL_some, ↓optG_some, ↓optP_some, ↓optL_some, pk_nil, pk_cons, pk1_nil, pk1_cons, pk_sc, pk_st, pk1_sc, vcall, noIP_eq, ipF_st, ansS_sc, ansS_st0, callOf_cons, own_sc, own_st, own1_sc, List.flatMap_cons, List.flatMap_nil, List.append_nil, ↓reduceIte, Nat.reduceEqDiff, Nat.succ_ne_self, Nat.zero_add, List.map_cons, List.map_nil, decide_true, Bool.not_true, beq_self_eq_true, iteB_true, ↓iteB_true, Bool.and_true, Bool.and_false, Option.getD_some, sp1, sp2, optD_some, ↓optD_some, dec_Y, dec_U, vs_index, stW_box, sv_st, setLs_nil, setLs_cons, sl_sc, soln_true, ldN_4, List.set_cons_zero, List.set_cons_succ, List.length_cons, List.length_nil, Nat.reduceAdd, Nat.le_refl, List.drop_zero, ldN_ptr aU zU, st_W zU, vi_nil, vi_cons, rdC_t, ro_move, ro_store, ro_index, ro_call, isCur_ptr, ro_load, co_move, co_load, co_index, co_callF, co_store, Option.isSome_some, Bool.or_true, vs_slen uS9, slenV, rest_sidx uS9, idxV_sc, hx, hq, di, h0, h5, h6, s5, c1, e3, hw, hwd, hp, hs]
      exact ⟨_, _, _, rfl, by simp only [updV_at, ↓reduceIte, Nat.reduceEqDiff, h0], by simp only [updV_at, ↓reduceIte, Nat.reduceEqDiff, h2], by simp only [updV_at, ↓reduceIte, Nat.reduceEqDiff, h5], by simp only [updV_at, ↓reduceIte], by simp only [updV_at, ↓reduceIte, Nat.reduceEqDiff, s2], (p1, p2, p3, p4), hs, hK, by simp only [updV_at, ↓reduceIte]⟩
    | false =>
      right
      rw [hs, if_neg (by simp)] at hK
      simp (disch := omega) only [Tryz.f11, Option.getD_some, atC, vo_nil, vo_cons, vc_region, vc_draw, vc_seq, vc_cond, vc_block, vc_skip, vc_ret, vs_move, vs_assign, vs_build, vs_load, vs_store, vs_call, vs_bin, vs_not, binV_lss, notV_b, bindS_some, bindG_some, bindC_n, bindC_r, blkC_r, condV_t, ↓bindS_some, ↓bindG_some, ↓bindC_n, ↓bindC_r, ↓condV_t, rtV_some, stoV_some, updV_at, evV_tmp, evV_func, evV_int, putV_some, putV_none, getO_eq, gO_same, optG_some, optP_some, optL_some, ↓optG_some, ↓optP_some, ↓optL_some, pk_nil, pk_cons, pk1_nil, pk1_cons, pk_sc, pk_st, pk1_sc, vcall, noIP_eq, ipF_st, ansS_sc, ansS_st0, callOf_cons, own_sc, own_st, own1_sc, List.flatMap_cons, List.flatMap_nil, List.append_nil, ↓reduceIte, Nat.reduceEqDiff, Nat.succ_ne_self, Nat.zero_add, List.map_cons, List.map_nil, decide_true, Bool.not_false, beq_self_eq_true, iteB_true, ↓iteB_true, Bool.and_true, Bool.and_false, Option.getD_some, sp1, sp2, optD_some, ↓optD_some, dec_Y, dec_U, vs_index, stW_box, sv_st, setLs_nil, setLs_cons, sl_sc, soln_true, ldN_4, List.set_cons_zero, List.set_cons_succ, List.length_cons, List.length_nil, Nat.reduceAdd, Nat.le_refl, List.drop_zero, ldN_ptr aU zU, st_W zU, bU0, vi_nil, vi_cons, rdC_t, ro_move, ro_store, ro_index, ro_call, isCur_ptr, ro_load, co_move, co_load, co_index, co_callF, co_store, Option.isSome_some, Bool.or_true, vs_slen uS9, slenV, rest_sidx uS9, idxV_sc, hx, hq, di, h0, h2, h5, h6, s2, s5, c1, hw, hwd, hp, hs]
      exact ⟨_, _, _, _, rfl, by simp, by simp only [updV_at, ↓reduceIte, Nat.reduceEqDiff, h2], .inr ⟨rfl, by simp only [updV_at, ↓reduceIte], hK, by simp only [updV_at, ↓reduceIte]⟩⟩
  · intro a σ c ⟨h0, h2, h5, h6, s2, m, hm, hK, s5⟩
    have c1 : ¬ ((s.size : Int) < (s.size : Int)) := by omega
    simp only [Tryz.f11, Option.getD_some, atC, vo_nil, vo_cons, vc_region, vc_seq, vc_cond, vc_exit, vs_move, vs_bin, binV_lss, bindS_some, bindG_some, bindC_n, bindC_e, condV_f, ↓bindS_some, ↓bindG_some, ↓bindC_n, ↓bindC_e, ↓condV_f, updV_at, evV_tmp, putV_some, ↓reduceIte, Nat.reduceEqDiff, decide_false, Option.getD_some, vs_slen uS9, slenV, h0, h6, c1]
    refine ⟨_, _, _, _, rfl, by simp, by simp only [updV_at, ↓reduceIte, Nat.reduceEqDiff, h2], .inl ⟨rfl, by simp only [updV_at, ↓reduceIte, Nat.reduceEqDiff, h5], m, ?_, s5, s2⟩⟩
    rw [hK, ← hlen, List.drop_length]
    rfl
theorem rmat_ok : OK 1001 11 maS := by
  refine OK.of1 (F := 1000) (tb := rmT) (pol := polM 8) ?_ (x := (Tryz.f11.body).getD .skip) (Nat.le_of_ble_eq_true rfl) Tryz.func11 rfl (ok_fn (by rfl) Tryz.func11 rfl) (by kernel_rfl) (by intros; rfl) fun n hn s hc => ?_
  · intro y hy
    simp only [rmT, List.mem_cons, List.not_mem_nil, or_false] at hy
    rcases hy with rfl | rfl | rfl | rfl | rfl
    · exact rcw_ok
    · exact rone_ok.mono (by omega)
    · exact rof_ok.mono (by omega)
    · exact rprod_ok.mono (by omega)
    · exact ins_ok.mono (by omega)
  have key := fun (hl : s.size ≤ 200) (a : VF) (σ : VSt) (c u v : Nat) => rmat_loop hl (mm := n) (k := n) (a := a) (σ := σ) (c := c) (u := u) (v := v) (by omega)
  simp only [Tryz.f11, Option.getD_some, atC] at key
  by_cases h0 : chkW (bts s) = 0
  · have hb : s.size ≤ 200 := by
      unfold chkW at h0
      split at h0
      · cases h0
      · rename_i h200
        rw [← bts_len]; omega
    have hT : (chkW (bts s) = 0) = True := eq_true h0
    simp (disch := omega) only [Tryz.f11, Option.getD_some, vo_nil, vo_cons, vc_region, vc_seq, vc_cond, vc_block, vc_loop, vc_skip, vc_ret, vs_move, vs_assign, vs_load, vs_store, vs_call, vs_bin, binV_neq, bindS_some, bindG_some, bindC_n, condV_f, ↓bindS_some, ↓bindG_some, ↓bindC_n, ↓condV_f, stoV_some, updV_at, evV_tmp, evV_func, evV_int, putV_some, putV_none, getO_eq, gO_same, optG_some, optP_some, optL_some, ↓optG_some, ↓optP_some, ↓optL_some, mkBox_some, pk_nil, pk_cons, pk_sc, vcall, ansS_sc, ansS_st0, callOf_cons, frV_0, List.flatMap_nil, ↓reduceIte, Nat.reduceEqDiff, Nat.zero_add, List.map_cons, List.map_nil, decide_true, Bool.not_true, iteB_true, ↓iteB_true, Option.getD_some, sp0, sp1, enc_S, optD_some, ↓optD_some, dec_S, stW_box, sv_st, setLs_nil, setLs_cons, List.set_cons_zero, List.set_cons_succ, List.length_cons, List.length_nil, Nat.reduceAdd, Nat.le_refl, st_W zU, vs_alloc iU, hc, hT]
    generalize hA : updV _ 6 _ = B
    generalize hS : updV _ 5 _ = τ
    obtain ⟨x, a', σ', c', e, w2, ⟨rfl, w5, m, hK, q5, q2⟩ | ⟨rfl, w3, hK, q2⟩⟩ := key hb B τ _ _ _ (by subst hA; rfl) (by subst hA; rfl) (by subst hA; rfl) (by subst hA; rfl) (by subst hS; rfl) (by subst hS; rfl)
    · rw [e]
      simp (disch := omega) only [bindS_some, bindG_some, bindC_n, blkC_e, ↓bindS_some, ↓bindG_some, ↓bindC_n, rtV_some, stoV_some, updV_at, getO_eq, gO_same, optG_some, optP_some, optL_some, ↓optG_some, ↓optP_some, ↓optL_some, pk1_nil, pk1_cons, pk_st, pk1_sc, rs_nil, rs_tmp, rs_cell, tmpV_sc, fv_r, pv_2, fsh_2, ↓reduceIte, Nat.reduceEqDiff, Nat.zero_add, stW_box, sv_st, setLs_nil, setLs_cons, sl_sc, soln_true, ldN_4, List.set_cons_zero, List.set_cons_succ, List.length_cons, List.length_nil, Nat.reduceAdd, Nat.le_refl, List.drop_zero, ldN_ptr aU zU, st_W zU, w2, w5, q5, q2]
      unfold matR
      rw [if_pos h0, hK]
    · rw [e]
      simp (disch := omega) only [bindC_r, blkC_r, ↓bindC_r, getO_eq, gO_same, optG_some, optP_some, optL_some, ↓optG_some, ↓optP_some, ↓optL_some, pk1_nil, pk1_cons, pk_st, pk1_sc, rs_nil, rs_tmp, rs_cell, tmpV_sc, fv_r, pv_2, fsh_2, ↓reduceIte, Nat.zero_add, sl_sc, soln_true, ldN_4, List.length_cons, List.length_nil, Nat.reduceAdd, Nat.le_refl, List.drop_zero, ldN_ptr aU zU, w2, w3, q2]
      unfold matR
      rw [if_pos h0, hK]
  · have hf : (chkW (bts s) = 0) = False := eq_false h0
    simp (disch := omega) only [Tryz.f11, Option.getD_some, vo_nil, vo_cons, vc_region, vc_seq, vc_cond, vc_ret, vs_move, vs_assign, vs_build, vs_store, vs_call, vs_bin, binV_neq, bindS_some, bindG_some, bindC_n, bindC_r, condV_t, ↓bindS_some, ↓bindG_some, ↓bindC_n, ↓bindC_r, ↓condV_t, rtV_some, stoV_some, updV_at, evV_tmp, evV_func, evV_int, putV_some, putV_none, getO_eq, gO_same, optG_some, optP_some, optL_some, ↓optG_some, ↓optP_some, ↓optL_some, mkBox_some, pk_nil, pk_cons, pk1_nil, pk1_cons, pk_sc, pk_st, pk1_sc, vcall, ansS_sc, callOf_cons, rs_nil, rs_tmp, rs_cell, tmpV_sc, fv_r, pv_2, fsh_2, frV_0, ↓reduceIte, Nat.reduceEqDiff, Nat.zero_add, List.map_cons, List.map_nil, decide_false, Bool.not_false, iteB_true, ↓iteB_true, Option.getD_some, sp1, enc_S, optD_some, ↓optD_some, dec_S, stW_box, sv_st, setLs_nil, setLs_cons, sl_sc, soln_true, ldN_4, List.set_cons_zero, List.set_cons_succ, List.length_cons, List.length_nil, Nat.reduceAdd, Nat.le_refl, List.drop_zero, ldN_ptr aU zU, st_W zU, bU0, vs_alloc iU, hc, hf]
    unfold matR
    rw [if_neg h0]
end Go.Proofs.YtmdnofcphdjieaaGreatDoor
namespace Go.Proofs.YtmdnofcphdjieaaGreatDoor
open Go Go.Abs
set_option maxRecDepth 10000
attribute [local congr] bindS_congr bindG_congr bindC_congr condV_congr grdV_congr pickV_congr binV_congr optG_congr optP_congr optL_congr optD_congr opt1_congr gO_congr ldS_congr ansS_congr iteB_congr rdC_congr idxV_congr lkV_congr
theorem eqF_U : ∀ (us : List Value), (∃ a b c d : Int, us = [vi a, vi b, vi c, vi d]) → eqFieldsA Tryz.prog us us (sfs 24).toList = some true := by
  rintro us ⟨a, b, c, d, rfl⟩
  have hf : (sfs 24).toList.map (fun f => (f.name, f.type, f.offset)) = [("A", 3, 0), ("B", 3, 1), ("C", 3, 2), ("D", 3, 3)] := by kernel_rfl
  have hu : Tryz.prog.underlying 3 = some (.int .i64) := by kernel_rfl
  generalize (sfs 24).toList = l at hf
  rcases l with _ | ⟨f0, _ | ⟨f1, _ | ⟨f2, _ | ⟨f3, _ | ⟨f4, l⟩⟩⟩⟩⟩
  · cases hf
  · injection hf with _ hf; cases hf
  · injection hf with _ hf; injection hf with _ hf; cases hf
  · injection hf with _ hf; injection hf with _ hf; injection hf with _ hf; cases hf
  · simp only [List.map_cons, List.map_nil, List.cons.injEq, Prod.mk.injEq, and_true] at hf
    obtain ⟨⟨n0, t0, o0⟩, ⟨n1, t1, o1⟩, ⟨n2, t2, o2⟩, ⟨n3, t3, o3⟩⟩ := hf
    simp [eqFieldsA, partA, n0, n1, n2, n3, t0, t1, t2, t3, o0, o1, o2, o3, hu, aI]
  · injection hf with _ hf; injection hf with _ hf; injection hf with _ hf; injection hf with _ hf; cases hf
theorem cmp_Ur {σ : VSt} {a b c d : Int} : cmpV Tryz.prog 24 σ (vU a b c d) (vU a b c d) = some true := by
  have h1 : Tryz.prog.stoodInHeld 24 = false ∧ Tryz.prog.eqGuardType Tryz.prog.depth 24 = false := ⟨by kernel_rfl, by kernel_rfl⟩
  show structEqA Tryz.prog 24 (.agg [vi a, vi b, vi c, vi d].toArray) (.agg [vi a, vi b, vi c, vi d].toArray) = _
  unfold structEqA
  rw [uU]
  simp only
  rw [if_pos h1]
  exact eqF_U _ ⟨a, b, c, d, rfl⟩
theorem aw_ok : OK 1 9 (spec0 (.sc (.bool true)) false) := by
  intro n hn args r fresh hs
  unfold spec0 at hs
  split at hs
  case h_2 => cases hs
  injection hs with hs
  injection hs with h1 h2
  subst h1; subst h2
  have h := tab_fit (sp := awkS) (g := 9) («ays» := []) (args := []) (r := .sc (.bool true)) (v := .bool true) (bs := []) (by unfold awkS; rw [if_pos rfl]) rfl rfl (fun Z H vs _ hA => by simp only [RepCL] at hA; subst hA; rfl)
  refine AnsAt.x (fun Z H vs hw hA => ?_) (fun cs e => by cases e)
  obtain ⟨v, H', q1, q2⟩ := h Z H vs hw hA
  exact ⟨v, H', evBv_base (by exact q1), q2⟩
theorem matR_form (l : List UInt8) : ∃ a b c d e : Int, matR l = .tup [vU a b c d, vI e] := by
  unfold matR
  split
  · split
    · rename_i m _; exact ⟨_, _, _, _, _, rfl⟩
    · exact ⟨_, _, _, _, _, rfl⟩
  · exact ⟨_, _, _, _, _, rfl⟩
abbrev owT : List (Nat × VSpec) := [(9, spec0 (.sc (.bool true)) false), (10, maS), (11, maS), (12, cwS), (13, cwS)]
theorem ow_ok : OK 1002 3 (spec1 cS (fun _ => true) (fun _ => .sc (.bool true)) false) := by
  refine OK.of1 (F := 1001) (tb := owT) (pol := fun _ => false) ?_ (x := (Tryz.f3.body).getD .skip) (Nat.le_of_ble_eq_true rfl) Tryz.func3 rfl (ok_fn (by rfl) Tryz.func3 rfl) (by kernel_rfl) (by intros; rfl) fun n hn s hc => ?_
  · intro y hy
    simp only [owT, List.mem_cons, List.not_mem_nil, or_false] at hy
    rcases hy with rfl | rfl | rfl | rfl | rfl
    · exact aw_ok.mono (by omega)
    · exact mat_ok
    · exact rmat_ok
    · exact cw_ok.mono (by omega)
    · exact rcw_ok.mono (by omega)
  by_cases h3 : (300 : Int) < (s.size : Int)
  · simp (disch := omega) only [Tryz.f3, Option.getD_some, vo_nil, vo_cons, vc_region, vc_seq, vc_cond, vc_skip, vc_ret, vs_move, vs_assign, vs_call, vs_bin, vs_not, binV_gtr, notV_b, bindS_some, bindG_some, bindC_n, bindC_r, condV_t, condV_f, ↓bindS_some, ↓bindG_some, ↓bindC_n, ↓bindC_r, ↓condV_t, ↓condV_f, updV_at, evV_tmp, evV_func, evV_int, evV_bool, putV_some, optL_some, ↓optL_some, pk_nil, vcall, ansS_sc, callOf_cons, rs_nil, rs_tmp, tmpV_sc, fv_r, pv_1, fsh_1, isOwn_sc, frV_0, ↓reduceIte, Nat.reduceEqDiff, List.map_nil, decide_true, Bool.not_true, Option.getD_some, sp0, enc_S, vs_slen uS9, slenV, h3]
  · obtain ⟨a, b, c, d, e, hM⟩ := matR_form (bts s)
    have hs : decide (s.size < 1000000) = true := decide_eq_true (by omega)
    simp (disch := omega) only [Tryz.f3, Option.getD_some, vo_nil, List.getElem?_toArray, vo_cons, vo_consG, guardS_some, gdV_b, vc_region, vc_seq, vc_cond, vc_skip, vc_ret, vs_move, vs_assign, vs_pick, vs_load, vs_store, vs_ext, vs_call, vs_bin, vs_not, binV_gtr, binV_eql, notV_b, bindS_some, bindG_some, bindC_n, condV_f, grdV_t, pickV_t, ↓bindS_some, ↓bindG_some, ↓bindC_n, ↓condV_f, ↓grdV_t, ↓pickV_t, rtV_some, stoV_some, updV_at, evV_tmp, evV_func, evV_int, evV_bool, putV_some, putV_none, getO_eq, gO_same, optG_some, optP_some, optL_some, ↓optG_some, ↓optP_some, ↓optL_some, mkBox_some, pk_nil, pk_cons, pk_sc, vcall, ansS_sc, ansS_tup0, callOf_cons, rs_nil, rs_tmp, tmpV_sc, fv_r, pv_1, fsh_1, isOwn_sc, frV_0, own_sc, List.flatMap_cons, List.flatMap_nil, List.append_nil, Option.map_some, ↓reduceIte, Nat.reduceEqDiff, Nat.succ_ne_self, Nat.zero_add, List.map_cons, List.map_nil, decide_true, decide_false, Bool.not_true, List.getElem?_cons_zero, List.getElem?_cons_succ, beq_self_eq_true, iteB_true, iteB_false, ↓iteB_true, ↓iteB_false, Option.getD_some, sp0, sp1, enc_S, optD_some, ↓optD_some, dec_S, stW_box, sv_st, setLs_nil, setLs_cons, sl_sc, soln_true, ldN_4, List.set_cons_zero, List.set_cons_succ, List.length_cons, List.length_nil, Nat.reduceAdd, Nat.le_refl, List.drop_zero, ldN_ptr aU zU, st_W zU, vs_alloc iU, vs_slen uS9, slenV, h3, hs, hM, rest_eql, bothSc_st, binV_st, cmp_Ur, extV_tup, eq_self]
end Go.Proofs.YtmdnofcphdjieaaGreatDoor
namespace Go.Proofs.YtmdnofcphdjieaaGreatDoor
open Go Go.Abs
open Go.RowKit in
theorem law_D {F f : Nat} {s : VSpec} (h : OK F f s) {shs : List Sh} {w : World} {args : List Value} (ha : All2 (ArgSh w) shs args) (hs : ∀ As, All2 ShArg shs As → ∃ fr, s As = some (.sc (.bool true), fr)) (hb : ∀ vs H, bC (.func (.func f) #[] #[]) vs H = none) :
    Calls Tryz.prog f ⟨args⟩ w fun e w' => e = .returned (.bool true) ∧ Below w.heap.size w w' := by
  obtain ⟨m, H, As, us, _, b, o, r, k⟩ := args_rep ha (bears_nil w)
  obtain ⟨fr, hA⟩ := hs As o
  have h1 : AnsAt (evB Tryz.prog bC (F + 1)) f As (.sc (.bool true)) fr := h (F + 1) (by omega) As _ _ hA
  obtain ⟨v, H', e, h2, _⟩ := h1 TT H us b.wf r
  obtain ⟨rfl, _⟩ := repC_sc.1 h2
  rw [evB_body (hb us H)] at e
  have s3 := body_calls hmix (evB_ok hmix bC_ok bC_grow F) (evB_grow bC_grow F) e b.rel (args' := ⟨args⟩) k
  have hno : ∀ g, ¬ Owned m H g := by
    rintro g ⟨c, x, l, q1, q2, q3, _⟩
    rw [b.own c x q1] at q3; cases q3
  refine fun cs => ?_
  obtain ⟨e, w2, fr, ⟨m', v', rfl, s1, s2⟩, h2⟩ := s3 cs
  obtain rfl := s2.plain rfl
  exact ⟨_, _, fr, ⟨rfl, s1.keep.os, s1.keep.tape, s1.keep.output, s1.keep.size, fun k hk => s1.keep.block k hk (hno k)⟩, h2⟩
end Go.Proofs.YtmdnofcphdjieaaGreatDoor
namespace Go.Proofs.YtmdnofcphdjieaaGreatDoor
open Go Go.Abs
open Go.RowKit in
theorem OrbitWords_walk' {W : World} {v0 : Value} (w0 : ArgSh W .str v0) : Calls Tryz.prog 3 #[v0] W fun e w' => e = .returned (.bool true) ∧ Below W.heap.size W w' :=
  law_D ow_ok (.cons w0 .nil) (fun As h => by
    cases h with
    | cons h1 h2 =>
      cases h2
      obtain ⟨s, hs⟩ := sh_S h1
      exact ⟨_, by rw [sp1, hs]; rfl⟩) (fun _ _ => rfl)
end Go.Proofs.YtmdnofcphdjieaaGreatDoor
