/- Runs over values that are not known: ends of bodies; small facts. -/
import Derived.Test.YtmmgdgmjkhcfaaaSymB
set_option linter.all false
namespace Go.Abs
section
variable {P : Program}
theorem fin_n {a : Fr} {H : Heap} {rs : List ResultVar} : finB P rs (some (.normal, a, H)) = (resList P a H rs).map fun vs => (pack vs, H) := (rfl)
theorem fin_r {a : Fr} {H : Heap} {rs : List ResultVar} : finB P rs (some (.ret, a, H)) = (resList P a H rs).map fun vs => (pack vs, H) := (rfl)
theorem res_nil {a : Fr} {H : Heap} : resList P a H [] = some [] := (rfl)
theorem res_tmp {a : Fr} {H : Heap} {t : Nat} {rs : List ResultVar} : resList P a H (.tmp t :: rs) = (match scal (a t) with | some _ => (resList P a H rs).map (a t :: ·) | none => none) := (rfl)
theorem pack_1 {v : Value} : pack [v] = v := (rfl)
theorem pack_2 {u v : Value} : pack [u, v] = .tuple #[u, v] := (rfl)
theorem pack_3 {t u v : Value} : pack [t, u, v] = .tuple #[t, u, v] := (rfl)
theorem scal_vi {z : Int} : scal (vi z) = some [vi z] := (rfl)
theorem scal_bool {b : Bool} : scal (.bool b) = some [.bool b] := (rfl)
theorem scal_nil : scal (.slice none 0 0) = some [.slice none 0 0] := (rfl)
theorem scal_sl {b o n e : Nat} : scal (sliceA b o n e) = some [sliceA b o n e] := (rfl)
end
theorem reflV_load {t : TypeId} {x : Operand} {v : Value} : reflV (.load t x) v = vEq v v := (rfl)
theorem reflV_move {x : Operand} {v : Value} : reflV (.move x) v = true := (rfl)
theorem reflV_assign {x : Operand} {v : Value} : reflV (.assign x) v = true := (rfl)
theorem reflV_pick {c x y : Operand} {v : Value} : reflV (.pick c x y) v = true := (rfl)
theorem reflV_bin {op : BinOp} {t t' : TypeId} {x y : Operand} {v : Value} : reflV (.binOp op t x y t') v = true := (rfl)
theorem reflV_un {op : UnOp} {t : TypeId} {x : Operand} {v : Value} : reflV (.unOp op t x) v = true := (rfl)
theorem reflV_addr {t : TypeId} {x y : Operand} {v : Value} : reflV (.indexAddr t x y) v = true := (rfl)
theorem reflV_faddr {t : TypeId} {x : Operand} {i : Nat} {v : Value} : reflV (.fieldAddr t x i) v = true := (rfl)
theorem reflV_field {t : TypeId} {x : Operand} {i : Nat} {v : Value} : reflV (.field t x i) v = true := (rfl)
theorem reflV_call {c : Call} {v : Value} : reflV (.call c) v = true := by
 unfold reflV
 have h : cls (.call c) ≠ .read := by
  unfold cls
  split <;> first | (intro h; cases h; done) | (rename_i h2; cases h2) | (rename_i h2 _; cases h2) | skip
  all_goals (rename_i h2; intro _; cases h2)
 revert h
 cases cls (.call c) <;> intro h <;> first | rfl | exact absurd rfl h
theorem reflV_build {t : TypeId} {n : Nat} {x : Array (Nat × Operand)} {v : Value} : reflV (.buildSlice t n x) v = true := (rfl)
theorem reflV_make {t : TypeId} {x y : Operand} {v : Value} : reflV (.makeSlice t x y) v = true := (rfl)
theorem reflV_slice {t : TypeId} {x : Operand} {l h m : Option Operand} {v : Value} : reflV (.slice t x l h m) v = true := (rfl)
theorem reflV_extract {x : Operand} {i : Nat} {v : Value} : reflV (.extract x i) v = true := (rfl)
theorem reflV_store {t : TypeId} {x y : Operand} {v : Value} : reflV (.store t x y) v = true := (rfl)
theorem vEq_bool {b : Bool} : vEq (.bool b) (.bool b) = true := by simp [vEq, sEq]
theorem vEq_sl {b o n e : Nat} : vEq (sliceA b o n e) (sliceA b o n e) = true := by simp [vEq, sEq, sliceA]
theorem wr64 {z : Int} (h1 : -9223372036854775808 ≤ z) (h2 : z ≤ 9223372036854775807) : IntKind.i64.wrap z = z := wrap_small h1 h2
theorem upd_at {a : Fr} {t i : Nat} {v : Value} : upd a t v i = if i = t then v else a i := by by_cases h : i = t <;> simp [upd, h]
theorem ev_tmp {a : Fr} {t : Nat} : ev a (.tmp t) = a t := by simp only [ev]
theorem ev_const {a : Fr} {v : Value} : ev a (.const v) = v := by simp only [ev]
theorem ev_func {a : Fr} {f : Nat} : ev a (.func f) = .func (.func f) #[] #[] := by simp only [ev]
def yieldV (v : Value) : Option Bool := match v with
 | .bool b => some b
 | _ => none
theorem yO {t : Nat} {op : Op} {ty : TypeId} {pos : String} {aft : Array Edge} {g : Option (Nat × Bool)} {a : Fr} : yieldO (some ⟨some t, op, ty, pos, aft, g⟩) a = yieldV (a t) := (rfl)
theorem yV_bool {b : Bool} : yieldV (.bool b) = some b := (rfl)
theorem yV_undef : yieldV undef = none := (rfl)
theorem none_some {b : Bool} : ((none : Option Bool) == some b) = false := (rfl)
theorem some_true {b : Bool} : (some b == some true) = b := by cases b <;> rfl
theorem some_false {b : Bool} : (some b == some false) = !b := by cases b <;> rfl
theorem dec00 : decide ((0 : Int) < 0) = false := (rfl)
theorem dec0n : decide ((0 : Int) < ((0 : Nat) : Int)) = false := (rfl)
theorem b_ft : (false == true) = false := (rfl)
theorem b_tf : (true == false) = false := (rfl)
theorem frOf_3 {s t u v : Value} {vs : List Value} : frOf (s :: t :: u :: v :: vs) 3 = v := (rfl)
theorem frOf_4 {r s t u v : Value} {vs : List Value} : frOf (r :: s :: t :: u :: v :: vs) 4 = v := (rfl)
theorem pick_bool {b : Bool} {x y : Value} {H : Heap} {α : Type} {k : Value → Heap → Option α} : bindO (match (Value.bool b) with | .bool t => some (if t then x else y, H) | _ => none) k = k (if b then x else y) H := (rfl)
def pickS (v x y : Value) (H : Heap) : Option (Value × Heap) := match v with
 | .bool t => some (if t then x else y, H)
 | _ => none
theorem pickS_congr {v v' x y : Value} {H : Heap} (h : v = v') : pickS v x y H = pickS v' x y H := by rw [h]
theorem pickS_true {x y : Value} {H : Heap} : pickS (.bool true) x y H = some (x, H) := (rfl)
theorem pickS_false {x y : Value} {H : Heap} : pickS (.bool false) x y H = some (y, H) := (rfl)
theorem pickS_pos {p : Prop} [Decidable p] {x y : Value} {H : Heap} (h : p) : pickS (.bool (decide p)) x y H = some (x, H) := by simp [pickS, h]
theorem pickS_neg {p : Prop} [Decidable p] {x y : Value} {H : Heap} (h : ¬ p) : pickS (.bool (decide p)) x y H = some (y, H) := by simp [pickS, h]
theorem sy_pick {P : Program} {call : CallF} {a : Fr} {H : Heap} {d : Option Nat} {ty : TypeId} {pos : String} {aft : Array Edge} {g : Option (Nat × Bool)} {c x y : Operand} : stepA P call a ⟨d, .pick c x y, ty, pos, aft, g⟩ H = pickS (ev a c) (ev a x) (ev a y) H := (rfl)
def yieldS (x : Option Oper) (a : Fr) : Option Bool := yieldO x a
theorem tup_0 {u v : Value} {H : Heap} : (match (Value.tuple #[u, v]) with | .tuple vs => (vs[0]?).map (·, H) | _ => none) = some (u, H) := (rfl)
theorem tup_1 {u v : Value} {H : Heap} : (match (Value.tuple #[u, v]) with | .tuple vs => (vs[1]?).map (·, H) | _ => none) = some (v, H) := (rfl)
def extS (v : Value) (i : Nat) : Option Value := match v with
 | .tuple vs => vs[i]?
 | _ => none
theorem sy_ext {P : Program} {call : CallF} {a : Fr} {H : Heap} {d : Option Nat} {ty : TypeId} {pos : String} {aft : Array Edge} {g : Option (Nat × Bool)} {x : Operand} {i : Nat} : stepA P call a ⟨d, .extract x i, ty, pos, aft, g⟩ H = (extS (ev a x) i).map fun v => (v, H) := by
 rw [sy_extract]
 unfold extS
 cases ev a x <;> rfl
theorem ext_20 {u v : Value} : extS (.tuple #[u, v]) 0 = some u := (rfl)
theorem ext_21 {u v : Value} : extS (.tuple #[u, v]) 1 = some v := (rfl)
theorem ext_30 {u v t : Value} : extS (.tuple #[u, v, t]) 0 = some u := (rfl)
theorem ext_31 {u v t : Value} : extS (.tuple #[u, v, t]) 1 = some v := (rfl)
theorem ext_32 {u v t : Value} : extS (.tuple #[u, v, t]) 2 = some t := (rfl)
theorem O.empty {B : Nat} {H : Heap} (hB : B ≤ H.length) : O B (H ++ [.cells H.length true []]) (sliceA H.length 0 0 1) [] := .inr ⟨H.length, H.length, rfl, hB, hB, by simp⟩
theorem R.upto {H : Heap} {v : Value} {l : List Int} (h : R H v (ints l)) {c : Nat} (hc : c ≤ l.length) : ∃ v', subS v none (some (vi c)) = some v' ∧ R H v' (ints (l.take c)) := by
 obtain ⟨v', e, h'⟩ := h.sub (lo := 0) (hi := c) (by omega) (by rw [ints_len]; exact hc)
 have e' : subS v (some (vi ((0 : Nat) : Int))) (some (vi c)) = some v' := e
 rw [show ((0 : Nat) : Int) = 0 from rfl, subS_lo] at e'
 refine ⟨v', e', ?_⟩
 rw [List.drop_zero, Nat.sub_zero] at h'
 unfold ints at h' ⊢
 rw [List.map_take]; exact h'
theorem R.from {H : Heap} {v : Value} {l : List Int} (h : R H v (ints l)) {c : Nat} (hc : c ≤ l.length) : ∃ v', subS v (some (vi c)) none = some v' ∧ R H v' (ints (l.drop c)) := by
 obtain ⟨v', e, h'⟩ := h.sub (lo := c) (hi := l.length) hc (by rw [ints_len]; exact Nat.le_refl _)
 have e2 := subS_hi h (lo := some (vi c))
 rw [ints_len] at e2
 refine ⟨v', by rw [← e2]; exact e, ?_⟩
 rw [List.take_of_length_le (by rw [List.length_drop, ints_len]; exact Nat.le_refl _)] at h'
 unfold ints at h' ⊢
 rw [List.map_drop]; exact h'
/-- A list of the call's own, made at or above B and below C. -/
def OM (B C : Nat) (H : Heap) (v : Value) (l : List Value) : Prop := (v = .slice none 0 0 ∧ l = []) ∨ ∃ b f, v = sliceA b 0 l.length 1 ∧ B ≤ b ∧ B ≤ f ∧ b < C ∧ f < C ∧ H[b]? = some (.cells f true l)
theorem OM.of {B : Nat} {H : Heap} {v : Value} {l : List Value} (h : O B H v l) (hw : WF H) : OM B H.length H v l := by
 rcases h with h | ⟨b, f, h1, h2, h3, hb⟩
 ·exact .inl h
 ·have := lt_of_blk hb
  have := hw b f true l hb
  exact .inr ⟨b, f, h1, h2, h3, by omega, by omega, hb⟩
theorem OM.O {B C : Nat} {H : Heap} {v : Value} {l : List Value} (h : OM B C H v l) : O B H v l := by
 rcases h with h | ⟨b, f, h1, h2, h3, _, _, hb⟩
 ·exact .inl h
 ·exact .inr ⟨b, f, h1, h2, h3, hb⟩
theorem OM.mono {B C : Nat} {H H' : Heap} {v : Value} {l : List Value} (h : OM B C H v l) (ho : Old C H H') : OM B C H' v l := by
 rcases h with h | ⟨b, f, h1, h2, h3, h4, h5, hb⟩
 ·exact .inl h
 ·exact .inr ⟨b, f, h1, h2, h3, h4, h5, by rw [ho.2 b h4]; exact hb⟩
/-- A cell is written: what was made later stands. -/
theorem OM.set {B C : Nat} {H : Heap} {s : Value} {l : List Value} (h : OM B C H s l) (hw : WF H) {i : Nat} (hi : i < l.length) {c : Value} (hc : Abs.scal c = some [c]) :
  ∃ H', storeS (pt s i) c H = some H' ∧ OM B C H' s (l.set i c) ∧ Old B H H' ∧ WF H' ∧ ∀ v m, Abs.O C H v m → Abs.O C H' v m := by
 rcases h with ⟨rfl, rfl⟩ | ⟨b, f, rfl, h1, h2, h3, h4, hb⟩
 ·simp at hi
 ·refine ⟨(H.map (truncFam f i)).set b (.cells f true (l.set i c)), ?_, .inr ⟨b, f, by simp, h1, h2, h3, h4, ?_⟩, ?_, ?_, ?_⟩
  ·simp only [pt, sliceA, storeS, ptrA, hc, Heap.write, hb, Nat.zero_add]
   rw [if_pos (by simp; omega)]
   simp [setList]
  ·rw [List.getElem?_set]
   simp [lt_of_blk hb]
  ·have h3 := old_trunc hw h2 (k := i)
   refine ⟨by simp, fun x hx => ?_⟩
   rw [List.getElem?_set, if_neg (by omega), h3.2 x hx]
  ·intro b' f' o' cs' hb'
   rw [List.getElem?_set] at hb'
   split at hb'
   ·rename_i e
    subst e
    split at hb'
    ·injection hb' with hb'; injection hb' with e1 _ _; subst e1; exact hw b f true l hb
    ·cases hb'
   ·exact wf_trunc hw b' f' o' cs' hb'
  ·intro v m hv
   rcases hv with h | ⟨b2, f2, e1, e2, e3, hb2⟩
   ·exact .inl h
   ·refine .inr ⟨b2, f2, e1, e2, e3, ?_⟩
    rw [List.getElem?_set, if_neg (by omega), List.getElem?_map, hb2, Option.map_some]
    simp only [truncFam]
    rw [if_neg (by omega)]
theorem OM.setI {B C : Nat} {H : Heap} {s : Value} {l : List Int} (h : OM B C H s (ints l)) (hw : WF H) {i : Nat} (hi : i < l.length) (z : Int) :
  ∃ H', storeS (pt s i) (vi z) H = some H' ∧ OM B C H' s (ints (l.set i z)) ∧ Old B H H' ∧ WF H' ∧ ∀ v m, Abs.O C H v m → Abs.O C H' v m := by
 have := h.set hw (i := i) (by rw [ints_len]; exact hi) (c := vi z) rfl
 rw [ints_set] at this; exact this
/-- A list made with zeros. -/
theorem O.made {B : Nat} {H : Heap} (hB : B ≤ H.length) (l : List Value) : O B (H ++ [.cells H.length true l]) (sliceA H.length 0 l.length 1) l := .inr ⟨H.length, H.length, rfl, hB, hB, by simp⟩
/-- Blocks made at or above C, of families made there, stand. -/
def Kept (C : Nat) (H H' : Heap) : Prop := ∀ (b f : Nat) (o : Bool) (cs : List Value), C ≤ b → C ≤ f → H[b]? = some (.cells f o cs) → H'[b]? = some (.cells f o cs)
theorem O.kept {C : Nat} {H H' : Heap} {v : Value} {l : List Value} (h : O C H v l) (k : Kept C H H') : O C H' v l := by
 rcases h with h | ⟨b, f, h1, h2, h3, hb⟩
 ·exact .inl h
 ·exact .inr ⟨b, f, h1, h2, h3, k b f true l h2 h3 hb⟩
/-- A value that reads as a list, in a block made at or above C. -/
def RO (C : Nat) (H : Heap) (v : Value) (l : List Value) : Prop :=
 (v = .slice none 0 0 ∧ l = []) ∨ (v = lostSlice ∧ l = []) ∨ ∃ b o f w cs, v = sliceA b o l.length 1 ∧ C ≤ b ∧ C ≤ f ∧ H[b]? = some (.cells f w cs) ∧ o + l.length ≤ cs.length ∧ (cs.drop o).take l.length = l
theorem RO.R {C : Nat} {H : Heap} {v : Value} {l : List Value} (h : RO C H v l) : R H v l := by
 rcases h with h | h | ⟨b, o, f, w, cs, h1, _, _, h2⟩
 ·exact .inl h
 ·exact .inr (.inl h)
 ·exact .inr (.inr ⟨b, o, f, w, cs, h1, h2⟩)
theorem R.RO {H : Heap} {v : Value} {l : List Value} (h : R H v l) : RO 0 H v l := by
 rcases h with h | h | ⟨b, o, f, w, cs, h1, h2⟩
 ·exact .inl h
 ·exact .inr (.inl h)
 ·exact .inr (.inr ⟨b, o, f, w, cs, h1, Nat.zero_le _, Nat.zero_le _, h2⟩)
theorem O.RO {C : Nat} {H : Heap} {v : Value} {l : List Value} (h : O C H v l) : RO C H v l := by
 rcases h with h | ⟨b, f, h1, h2, h3, hb⟩
 ·exact .inl h
 ·exact .inr (.inr ⟨b, 0, f, true, l, h1, h2, h3, hb, by simp, by simp⟩)
theorem RO.below {C C' : Nat} {H : Heap} {v : Value} {l : List Value} (h : RO C H v l) (hc : C' ≤ C) : RO C' H v l := by
 rcases h with h | h | ⟨b, o, f, w, cs, h1, h2, h3, h4⟩
 ·exact .inl h
 ·exact .inr (.inl h)
 ·exact .inr (.inr ⟨b, o, f, w, cs, h1, by omega, by omega, h4⟩)
theorem RO.kept {C : Nat} {H H' : Heap} {v : Value} {l : List Value} (h : RO C H v l) (k : Kept C H H') : RO C H' v l := by
 rcases h with h | h | ⟨b, o, f, w, cs, h1, h2, h3, hb, h4⟩
 ·exact .inl h
 ·exact .inr (.inl h)
 ·exact .inr (.inr ⟨b, o, f, w, cs, h1, h2, h3, k b f w cs h2 h3 hb, h4⟩)
theorem RO.mono {C : Nat} {H H' : Heap} {v : Value} {l : List Value} (h : RO C H v l) (ho : Old H.length H H') : RO C H' v l := by
 rcases h with h | h | ⟨b, o, f, w, cs, h1, h2, h3, hb, h4⟩
 ·exact .inl h
 ·exact .inr (.inl h)
 ·exact .inr (.inr ⟨b, o, f, w, cs, h1, h2, h3, by rw [ho.2 b (lt_of_blk hb)]; exact hb, h4⟩)
theorem RO.upto {C : Nat} {H : Heap} {v : Value} {l : List Int} (h : RO C H v (ints l)) {c : Nat} (hc : c ≤ l.length) : ∃ v', subS v none (some (vi c)) = some v' ∧ RO C H v' (ints (l.take c)) := by
 obtain ⟨v', e, r⟩ := h.R.upto hc
 refine ⟨v', e, ?_⟩
 have bA : boundA (some (vi c)) l.length l.length = some c := by simp only [boundA]; rw [if_pos ⟨by omega, by omega⟩]; simp
 rcases h with ⟨rfl, hl⟩ | ⟨rfl, hl⟩ | ⟨b, o, f, w, cs, rfl, h2, h3, hb, h4, h5⟩
 ·have : l = [] := by simpa [ints] using hl
  subst this
  obtain rfl : c = 0 := by simpa using hc
  simp only [List.length_nil] at bA
  simp only [subS] at e
  have e2 : boundA (some (vi ((0 : Nat) : Int))) 0 0 = some 0 := bA
  rw [e2] at e
  simp [boundA] at e
  exact .inl ⟨e.symm, by simp [ints]⟩
 ·have : l = [] := by simpa [ints] using hl
  subst this
  obtain rfl : c = 0 := by simpa using hc
  simp only [subS, lostSlice] at e
  have e2 : boundA (some (vi ((0 : Nat) : Int))) 0 0 = some 0 := bA
  rw [e2] at e
  simp [boundA] at e
  exact .inr (.inl ⟨e.symm, by simp [ints]⟩)
 ·simp only [subS, sliceA, ints_len] at e
  rw [bA] at e
  simp only [boundA, if_true] at e
  injection e with e
  subst e
  refine .inr (.inr ⟨b, o, f, w, cs, by simp [sliceA, ints_len, List.length_take]; omega, h2, h3, hb, by rw [ints_len, List.length_take] at *; omega, ?_⟩)
  have hl2 : (ints (l.take c)).length = c := by rw [ints_len, List.length_take]; omega
  rw [hl2]
  unfold ints
  rw [List.map_take]
  conv => rhs; rw [show l.map vi = ints l from rfl, ← h5]
  rw [List.take_take, Nat.min_eq_left (by rw [ints_len]; exact hc)]
def atC : List Nat → Code → Code
 | [], c => c
 | 0 :: p, .seq x _ => atC p x
 | _ :: p, .seq _ y => atC p y
 | 0 :: p, .cond _ x _ => atC p x
 | _ :: p, .cond _ _ y => atC p y
 | _ :: p, .block _ c => atC p c
 | _ :: p, .loop c => atC p c
 | _, c => c
end Go.Abs
