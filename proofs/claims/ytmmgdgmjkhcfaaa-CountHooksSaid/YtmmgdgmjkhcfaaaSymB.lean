/- Runs over values that are not known: the evaluator of a body in a form that 'simp' runs; lists in the heap. -/
import Derived.Test.YtmmgdgmjkhcfaaaSymA
set_option linter.all false
namespace Go.Abs
/- The evaluator. -/
def drawsOk (D : Nat → Bool) : Code → Bool
 | .region id ops true => D id || drawSeq ops (Region.before ops)
 | .seq x y => drawsOk D x && drawsOk D y
 | .cond _ x y => drawsOk D x && drawsOk D y
 | .block _ c => drawsOk D c
 | .loop c => drawsOk D c
 | _ => true
def rangeS (call : CallF) (nt : Nat) (rd : Option Nat) (f : Value) (params : Array Nat) (assign body : Code) (a : Fr) (H : Heap) : Option (X × Fr × Heap) :=
 if rdOk H rd then
  match call f [.func (.yield H.length) #[] #[]] (H ++ [.loop .ready none nt a params.toList assign body]) with
  | some (_, H') => match H'[H.length]? with
    | some (.loop st pend _ _ _ _ _) => if st = .busy then none else match jumpX pend with
      | some x => some (x, a, H'.set H.length .dead)
      | none => none
    | _ => none
  | none => none
 else none
/-- D: the regions whose order is drawn to the letter. -/
def evT (P : Program) (call : CallF) (k nt : Nat) (rd : Option Nat) (D : Nat → Bool) : Code → Fr → Heap → Option (X × Fr × Heap)
 | .skip, a, H => some (.normal, a, H)
 | .label _, a, H => some (.normal, a, H)
 | .region _ ops false, a, H => bindF (evOps P call ops ops.toList a H) fun a' H' => some (.normal, a', H')
 | .region id ops true, a, H => iteB (D id) (bindF (evDraw P call ops (Region.before ops) (List.range ops.size) a H [(none, H)] []) fun a' H' => some (.normal, a', H')) (bindF (evOpsV P call ops ops.toList a H) fun a' H' => some (.normal, a', H'))
 | .seq x y, a, H => bindX (evT P call k nt rd D x a H) fun a' H' => evT P call k nt rd D y a' H'
 | .cond c x y, a, H => condX (ev a c) (evT P call k nt rd D x a H) (evT P call k nt rd D y a H)
 | .block id c, a, H => blkX id (evT P call k nt rd D c a H)
 | .loop c, a, H => loopN (evT P call k nt rd D c) k a H
 | .exit id, a, H => some (.exit id, a, H)
 | .ret, a, H => some (.ret, a, H)
 | .rangeFunc f params assign body, a, H => rangeS call nt rd (ev a f) params assign body a H
 | .scope _, _, _ => none
 | .goto _, _, _ => none
 | .refuse _, _, _ => none
def D0 : Nat → Bool := fun _ => false
abbrev evS (P : Program) (call : CallF) (k nt : Nat) (rd : Option Nat) : Code → Fr → Heap → Option (X × Fr × Heap) := evT P call k nt rd D0
section
variable {P : Program} {call : CallF} {k nt : Nat} {rd : Option Nat} {D : Nat → Bool}
theorem evS_eq : ∀ (c : Code), drawsOk D c = true → ∀ a H, evCode P call k nt rd c a H = evT P call k nt rd D c a H := by
 intro c
 induction c with
 | region id ops draw =>
   intro h a H
   cases draw with
   | false => rfl
   | true =>
     simp only [drawsOk, Bool.or_eq_true] at h
     show evCode P call k nt rd (.region id ops true) a H = iteB (D id) _ _
     cases hd : D id with
     | true => rfl
     | false =>
       rw [hd] at h
       exact sy_draw (h.resolve_left (by simp))
 | seq x y ihx ihy =>
   intro h a H
   simp only [drawsOk, Bool.and_eq_true] at h
   have e : evCode P call k nt rd y = evT P call k nt rd D y := funext fun a => funext fun H => ihy h.2 a H
   rw [code_seq, evT, ihx h.1, e]
 | cond c x y ihx ihy =>
   intro h a H
   simp only [drawsOk, Bool.and_eq_true] at h
   rw [code_cond, evT, ihx h.1, ihy h.2]
 | block id c ih =>
   intro h a H
   rw [code_block, evT, ih h]
 | loop c ih =>
   intro h a H
   have e : evCode P call k nt rd c = evT P call k nt rd D c := funext fun a => funext fun H => ih h a H
   rw [code_loop, evT, e]
 | _ => intro h a H; rfl
theorem es_region {id : Nat} {ops : Array Oper} {a : Fr} {H : Heap} : evT P call k nt rd D (.region id ops false) a H = bindF (evOps P call ops ops.toList a H) fun a' H' => some (.normal, a', H') := (rfl)
theorem es_draw {id : Nat} {ops : Array Oper} {a : Fr} {H : Heap} : evT P call k nt rd D (.region id ops true) a H = iteB (D id) (bindF (evDraw P call ops (Region.before ops) (List.range ops.size) a H [(none, H)] []) fun a' H' => some (.normal, a', H')) (bindF (evOpsV P call ops ops.toList a H) fun a' H' => some (.normal, a', H')) := (rfl)
theorem d0 {i : Nat} : D0 i = false := (rfl)
theorem es_seq {x y : Code} {a : Fr} {H : Heap} : evT P call k nt rd D (.seq x y) a H = bindX (evT P call k nt rd D x a H) fun a' H' => evT P call k nt rd D y a' H' := (rfl)
theorem es_cond {c : Operand} {x y : Code} {a : Fr} {H : Heap} : evT P call k nt rd D (.cond c x y) a H = condX (ev a c) (evT P call k nt rd D x a H) (evT P call k nt rd D y a H) := (rfl)
theorem es_block {id : Nat} {c : Code} {a : Fr} {H : Heap} : evT P call k nt rd D (.block id c) a H = blkX id (evT P call k nt rd D c a H) := (rfl)
theorem es_skip {a : Fr} {H : Heap} : evT P call k nt rd D .skip a H = some (.normal, a, H) := (rfl)
theorem es_exit {i : Nat} {a : Fr} {H : Heap} : evT P call k nt rd D (.exit i) a H = some (.exit i, a, H) := (rfl)
theorem es_ret {a : Fr} {H : Heap} : evT P call k nt rd D .ret a H = some (.ret, a, H) := (rfl)
theorem es_loop {c : Code} {a : Fr} {H : Heap} : evT P call k nt rd D (.loop c) a H = loopN (evT P call k nt rd D c) k a H := (rfl)
theorem body_runS {n f : Nat} {fn : Func} {c : Code} {args : List Value} {H : Heap} (hf : P.funcs[f]? = some fn) (hb : fn.body = some c) (hok : funcOk fn c = true) (hl : args.length ≤ fn.ntmps) (hd : drawsOk D c = true) :
  evBody P call n (.func (.func f) #[] #[]) args H = finB P fn.results.toList (evT P call n fn.ntmps none D c (frOf args) H) := by
 rw [body_run hf hb hok hl, evS_eq c hd]
theorem run_of {F : Nat} {fv : Value} {args : List Value} {H : Heap} {Q : Option (Value × Heap) → Prop} (h : ∀ n, F ≤ n → Q (evBody P (evB P noC n) n fv args H)) : ∀ n, F + 1 ≤ n → Q (evB P noC n fv args H) := by
 intro n hn
 obtain ⟨m, rfl⟩ : ∃ m, n = m + 1 := ⟨n - 1, by omega⟩
 rw [evB_noC]
 exact h m (by omega)
/- Loops. -/
/-- A loop whose measure goes down: 'I n' holds at each head, n the measure. -/
theorem loop_wf {f : Fr → Heap → Option (X × Fr × Heap)} (I : Nat → Fr → Heap → Prop) (Q : X → Fr → Heap → Prop)
  (step : ∀ n a H, I n a H → (∃ a' H', f a H = some (.normal, a', H') ∧ ∃ m, m < n ∧ I m a' H') ∨ (∃ x a' H', f a H = some (x, a', H') ∧ x ≠ .normal ∧ Q x a' H')) :
  ∀ (k n : Nat) a H, n < k → I n a H → ∃ x a' H', loopN f k a H = some (x, a', H') ∧ Q x a' H' := by
 intro k
 induction k with
 | zero => intro n a H h; omega
 | succ k ih =>
   intro n a H hk hI
   rcases step n a H hI with ⟨a', H', e, m, hm, hI'⟩ | ⟨x, a', H', e, hx, hQ⟩
   ·obtain ⟨x, a2, H2, e2, hQ⟩ := ih m a' H' (by omega) hI'
    exact ⟨x, a2, H2, by rw [loopN, e]; exact e2, hQ⟩
   ·refine ⟨x, a', H', ?_, hQ⟩
    rw [loopN, e]
    cases x with
    | normal => exact absurd rfl hx
    | _ => rfl
/-- A loop that counts up to N. -/
theorem loop_up {f : Fr → Heap → Option (X × Fr × Heap)} (N : Nat) (I : Nat → Fr → Heap → Prop) (Q : X → Fr → Heap → Prop)
  (step : ∀ i a H, i < N → I i a H → (∃ a' H', f a H = some (.normal, a', H') ∧ I (i + 1) a' H') ∨ (∃ x a' H', f a H = some (x, a', H') ∧ x ≠ .normal ∧ Q x a' H'))
  (last : ∀ a H, I N a H → ∃ x a' H', f a H = some (x, a', H') ∧ x ≠ .normal ∧ Q x a' H') {k : Nat} (hk : N < k) {a : Fr} {H : Heap} (h0 : I 0 a H) :
  ∃ x a' H', loopN f k a H = some (x, a', H') ∧ Q x a' H' := by
 refine loop_wf (fun n a H => n ≤ N ∧ I (N - n) a H) Q ?_ k N a H hk ⟨Nat.le_refl _, by rw [Nat.sub_self]; exact h0⟩
 intro n a H ⟨hn, hI⟩
 by_cases h : n = 0
 ·subst h
  exact .inr (last a H hI)
 ·rcases step (N - n) a H (by omega) hI with ⟨a', H', e, h'⟩ | h'
  ·exact .inl ⟨a', H', e, n - 1, by omega, by omega, by rw [show N - (n - 1) = N - n + 1 from by omega]; exact h'⟩
  ·exact .inr h'
end
/- Lists in the heap. -/
def ints (l : List Int) : List Value := l.map vi
theorem ints_len (l : List Int) : (ints l).length = l.length := List.length_map ..
theorem ints_app (l m : List Int) : ints (l ++ m) = ints l ++ ints m := List.map_append ..
theorem ints_getD (l : List Int) {i : Nat} (h : i < l.length) : (ints l)[i]? = some (vi (l.getD i 0)) := by simp [ints, h]
def WF (H : Heap) : Prop := ∀ (b f : Nat) (o : Bool) (cs : List Value), H[b]? = some (.cells f o cs) → f ≤ b
/-- The blocks below B are the same. -/
def Old (B : Nat) (H H' : Heap) : Prop := H.length ≤ H'.length ∧ ∀ b, b < B → H'[b]? = H[b]?
/-- A value that reads as a list of cells. -/
def R (H : Heap) (v : Value) (l : List Value) : Prop :=
 (v = .slice none 0 0 ∧ l = []) ∨ (v = lostSlice ∧ l = []) ∨ ∃ b o f w cs, v = sliceA b o l.length 1 ∧ H[b]? = some (.cells f w cs) ∧ o + l.length ≤ cs.length ∧ (cs.drop o).take l.length = l
/-- A list of the call's own: made at or above B. -/
def O (B : Nat) (H : Heap) (v : Value) (l : List Value) : Prop :=
 (v = .slice none 0 0 ∧ l = []) ∨ ∃ b f, v = sliceA b 0 l.length 1 ∧ B ≤ b ∧ B ≤ f ∧ H[b]? = some (.cells f true l)
def pt (v : Value) (i : Nat) : Value := match v with
 | .slice (some ⟨b, o, none⟩) _ _ => ptrA b (o + i)
 | _ => undef
theorem lt_of_blk {H : Heap} {b : Nat} {x : Blk} (h : H[b]? = some x) : b < H.length := by
 obtain ⟨h1, _⟩ := List.getElem?_eq_some_iff.1 h
 exact h1
theorem Old.refl (B : Nat) (H : Heap) : Old B H H := ⟨Nat.le_refl _, fun _ _ => rfl⟩
theorem Old.trans {B : Nat} {H1 H2 H3 : Heap} (h : Old B H1 H2) (h' : Old B H2 H3) : Old B H1 H3 := ⟨Nat.le_trans h.1 h'.1, fun b hb => by rw [h'.2 b hb, h.2 b hb]⟩
theorem Old.mono {B B' : Nat} {H1 H2 : Heap} (h : Old B H1 H2) (hb : B' ≤ B) : Old B' H1 H2 := ⟨h.1, fun b hb' => h.2 b (by omega)⟩
theorem Old.app (H J : Heap) : Old H.length H (H ++ J) := ⟨by simp, fun b hb => List.getElem?_append_left hb⟩
theorem WF.app {H : Heap} (h : WF H) {f : Nat} {o : Bool} {cs : List Value} (hf : f ≤ H.length) : WF (H ++ [.cells f o cs]) := by
 intro b f' o' cs' hb
 by_cases hlt : b < H.length
 ·rw [List.getElem?_append_left hlt] at hb; exact h b f' o' cs' hb
 ·rw [List.getElem?_append_right (by omega)] at hb
  have : b - H.length = 0 := by
   have := lt_of_blk hb; simp at this; omega
  rw [this] at hb
  simp at hb
  omega
theorem R.lt {H : Heap} {v : Value} {l : List Value} (h : R H v l) : v = .slice none 0 0 ∨ v = lostSlice ∨ ∃ b o, v = sliceA b o l.length 1 ∧ b < H.length := by
 rcases h with ⟨h, _⟩ | ⟨h, _⟩ | ⟨b, o, f, w, cs, h, hb, _⟩
 ·exact .inl h
 ·exact .inr (.inl h)
 ·exact .inr (.inr ⟨b, o, h, lt_of_blk hb⟩)
theorem R.mono {H H' : Heap} {v : Value} {l : List Value} (h : R H v l) (ho : Old H.length H H') : R H' v l := by
 rcases h with h | h | ⟨b, o, f, w, cs, h1, hb, h2, h3⟩
 ·exact .inl h
 ·exact .inr (.inl h)
 ·exact .inr (.inr ⟨b, o, f, w, cs, h1, by rw [ho.2 b (lt_of_blk hb)]; exact hb, h2, h3⟩)
/-- What stands since the heap G goes on standing. -/
theorem R.keep {G H : Heap} {v : Value} {l : List Value} (h : R G v l) {B : Nat} (hB : G.length ≤ B) (ho : Old B G H) : R H v l := h.mono (ho.mono hB)
theorem R.len {H : Heap} {v : Value} {l : List Value} (h : R H v l) : lenS v = some l.length := by
 rcases h with ⟨rfl, rfl⟩ | ⟨rfl, rfl⟩ | ⟨b, o, f, w, cs, rfl, _⟩ <;> rfl
theorem R.refl {H : Heap} {v : Value} {l : List Value} (h : R H v l) : vEq v v = true := by
 rcases h with ⟨rfl, rfl⟩ | ⟨rfl, rfl⟩ | ⟨b, o, f, w, cs, rfl, _⟩ <;> simp [vEq, sEq, sliceA, lostSlice]
theorem R.scal {H : Heap} {v : Value} {l : List Value} (h : R H v l) : scal v = some [v] := by
 rcases h with ⟨rfl, rfl⟩ | ⟨rfl, rfl⟩ | ⟨b, o, f, w, cs, rfl, _⟩ <;> rfl
theorem R.addr {H : Heap} {v : Value} {l : List Value} (h : R H v l) {i : Int} (h0 : 0 ≤ i) (h1 : i < l.length) : addrS 1 v (vi i) = some (pt v i.toNat) := by
 rcases h with ⟨rfl, rfl⟩ | ⟨rfl, rfl⟩ | ⟨b, o, f, w, cs, rfl, _⟩
 ·simp at h1; omega
 ·simp at h1; omega
 ·simp only [addrS, sliceA, pt]; rw [if_pos ⟨h0, h1⟩, Nat.mul_one]
theorem R.load {H : Heap} {v : Value} {l : List Value} (h : R H v l) {i : Nat} (h1 : i < l.length) : loadS (pt v i) H = l[i]? := by
 rcases h with ⟨rfl, rfl⟩ | ⟨rfl, rfl⟩ | ⟨b, o, f, w, cs, rfl, hb, h2, h3⟩
 ·simp at h1
 ·simp at h1
 ·simp only [sliceA, pt, ptrA, loadS, Heap.cell, hb]
  have : ((cs.drop o).take l.length)[i]? = l[i]? := by rw [h3]
  rw [List.getElem?_take, if_pos h1, List.getElem?_drop] at this
  exact this
theorem R.lenI {H : Heap} {v : Value} {l : List Int} (h : R H v (ints l)) : lenS v = some l.length := by rw [h.len, ints_len]
theorem R.addrI {H : Heap} {v : Value} {l : List Int} (h : R H v (ints l)) {i : Int} (h0 : 0 ≤ i) (h1 : i < l.length) : addrS 1 v (vi i) = some (pt v i.toNat) := h.addr h0 (by rw [ints_len]; exact h1)
theorem R.loadI {H : Heap} {v : Value} {l : List Int} (h : R H v (ints l)) {i : Nat} (h1 : i < l.length) : loadS (pt v i) H = some (vi (l.getD i 0)) := by rw [h.load (by rw [ints_len]; exact h1), ints_getD l h1]
theorem O.R {B : Nat} {H : Heap} {v : Value} {l : List Value} (h : O B H v l) : R H v l := by
 rcases h with h | ⟨b, f, h1, _, _, hb⟩
 ·exact .inl h
 ·exact .inr (.inr ⟨b, 0, f, true, l, h1, hb, by simp, by simp⟩)
theorem O.nil (B : Nat) (H : Heap) : O B H (.slice none 0 0) [] := .inl ⟨rfl, rfl⟩
theorem O.mono {B : Nat} {H H' : Heap} {v : Value} {l : List Value} (h : O B H v l) (ho : Old H.length H H') : O B H' v l := by
 rcases h with h | ⟨b, f, h1, h2, h3, hb⟩
 ·exact .inl h
 ·exact .inr ⟨b, f, h1, h2, h3, by rw [ho.2 b (lt_of_blk hb)]; exact hb⟩
theorem O.below {B B' : Nat} {H : Heap} {v : Value} {l : List Value} (h : O B H v l) (hb : B' ≤ B) : O B' H v l := by
 rcases h with h | ⟨b, f, h1, h2, h3, h4⟩
 ·exact .inl h
 ·exact .inr ⟨b, f, h1, by omega, by omega, h4⟩
/- Operations on lists. -/
def appS (s x : Value) (H : Heap) : Option (Value × Heap) := match readA H 1 x, x with
 | some news, .slice _ k _ => if k = 0 then (match s with | .slice _ _ _ => some (s, H) | _ => none) else match s with
   | .slice none 0 0 => if k ≤ maxA then some (sliceA H.length 0 k 1, H ++ [.cells H.length true news]) else none
   | .slice (some ⟨b, 0, none⟩) n sz => match H[b]? with
     | some (.cells fam true cs) => if sz = 1 ∧ n ≤ cs.length ∧ n + k ≤ maxA then some (sliceA H.length 0 (n + k) 1, H.map (truncFam fam n) ++ [.cells fam true (cs.take n ++ news)]) else none
     | _ => none
   | _ => none
 | _, _ => none
def subS (x : Value) (lo hi : Option Value) : Option Value := match x with
 | .slice none 0 0 => match boundA hi 0 0 with
   | some h => match boundA lo 0 h with
     | some _ => some (.slice none 0 0)
     | none => none
   | none => none
 | .slice (some ⟨b, o, s⟩) n sz => match boundA hi n n with
   | some h => match boundA lo 0 h with
     | some l => if l = 0 then some (.slice (some ⟨b, o, s⟩) h sz) else if l = h then some lostSlice else if s.isNone ∧ 1 = sz then some (sliceA b (o + l) (h - l) 1) else none
     | none => none
   | none => none
 | _ => none
section
variable {P : Program} {call : CallF} {a : Fr} {H : Heap} {d : Option Nat} {ty : TypeId} {pos : String} {aft : Array Edge} {g : Option (Nat × Bool)}
theorem sy_append {t el : TypeId} {x y : Operand} (hs : sliceElem P t = some (el, 1)) (hb : ((bytesT P el).isSome && decide ((bytesT P el).getD 0 ≤ maxA) && (zeros P el 1 1).isSome) = true) :
  stepA P call a ⟨d, .call { callee := .builtin .append, args := #[x, y], argTypes := #[t, t] }, ty, pos, aft, g⟩ H = appS (ev a x) (ev a y) H := by
 show builtinA P a ⟨d, .call { callee := .builtin .append, args := #[x, y], argTypes := #[t, t] }, ty, pos, aft, g⟩ .append [ev a x, ev a y] [t, t] H = _
 simp only [builtinA, if_true]
 unfold appendA appS
 simp only [Bool.and_eq_true, decide_eq_true_eq] at hb
 simp only [hs]
 rw [if_pos ⟨hb.1.1, hb.1.2, hb.2⟩]
 simp only [Nat.mul_one, Nat.zero_lt_one, true_and]
 rfl
theorem sy_build1 {t el : TypeId} {x : Operand} {z : Value} (hs : sliceElem P t = some (el, 1)) (hz : zeros P el 1 1 = some [z]) :
  stepA P call a ⟨d, .buildSlice t 1 #[(0, x)], ty, pos, aft, g⟩ H = (match scal (ev a x) with | some [c] => some (sliceA H.length 0 1 1, H ++ [.cells H.length true [c]]) | _ => none) := by
 show buildSliceA P t 1 [(0, ev a x)] H = _
 unfold buildSliceA
 simp only [hs]
 rw [if_pos ⟨by omega, by unfold maxA; omega⟩]
 simp only [hz, fillL]
 cases h : scal (ev a x) with
 | none => rfl
 | some cs =>
   match cs with
   | [] => rfl
   | [c] => simp [setList]
   | _ :: _ :: _ => simp
theorem sy_build0 {t el : TypeId} (hs : sliceElem P t = some (el, 1)) (hz : zeros P el 1 0 = some []) :
  stepA P call a ⟨d, .buildSlice t 0 #[], ty, pos, aft, g⟩ H = some (sliceA H.length 0 0 1, H ++ [.cells H.length true []]) := by
 show buildSliceA P t 0 [] H = _
 unfold buildSliceA
 simp only [hs]
 rw [if_pos ⟨by omega, by unfold maxA; omega⟩]
 simp only [hz, fillL]
theorem sy_slice {t el : TypeId} {x : Operand} {lo hi : Option Operand} (hs : sliceElem P t = some (el, 1)) :
  stepA P call a ⟨d, .slice t x lo hi none, ty, pos, aft, g⟩ H = (subS (ev a x) (lo.map (ev a)) (hi.map (ev a))).map fun v => (v, H) := by
 show (if (none : Option Operand).isSome then none else (sliceExprA P t (ev a x) (lo.map (ev a)) (hi.map (ev a))).map (·, H)) = _
 rw [if_neg (by simp)]
 congr 1
 unfold sliceExprA subS
 simp only [hs]
 cases ev a x with
 | slice q n c =>
   cases q with
   | none =>
     cases n with
     | zero =>
       cases c with
       | zero => simp only; cases boundA (hi.map (ev a)) 0 0 <;> rfl
       | succ _ => rfl
     | succ _ => rfl
   | some q =>
     obtain ⟨b, o, s⟩ := q
     simp only
     cases boundA (hi.map (ev a)) n n with
     | none => rfl
     | some h => simp only [Nat.mul_one]; rfl
 | _ => rfl
theorem sy_extract {x : Operand} {i : Nat} : stepA P call a ⟨d, .extract x i, ty, pos, aft, g⟩ H = (match ev a x with | .tuple vs => (vs[i]?).map (·, H) | _ => none) := (rfl)
theorem sy_make {t e : TypeId} {l c : Operand} {by_ : Nat} (hs : sliceElem P t = some (e, 1)) (hb : bytesT P e = some by_) (hb2 : by_ ≤ 1048576) :
  stepA P call a ⟨d, .makeSlice t l c, ty, pos, aft, g⟩ H = (match ev a l, ev a c with
   | .int _ n, .int _ m => if 0 ≤ n ∧ n ≤ m ∧ m ≤ 1048576 then (zeros P e 1 n.toNat).map fun z => (sliceA H.length 0 n.toNat 1, H ++ [.cells H.length true z]) else none
   | _, _ => none) := by
 show aexec P a ⟨d, .makeSlice t l c, ty, pos, aft, g⟩ H = _
 simp only [aexec, hs, Option.getD_some, hb]
 cases ev a l with
 | int kl n =>
   cases ev a c with
   | int kc m =>
     simp only
     by_cases h : 0 ≤ n ∧ n ≤ m ∧ m ≤ 1048576
     ·rw [if_pos h, if_pos ⟨h.1, h.2.1, h.2.2, by omega, hb2⟩]
      cases zeros P e 1 n.toNat <;> rfl
     ·rw [if_neg h, if_neg (fun h' => h ⟨h'.1, h'.2.1, h'.2.2.1⟩)]
   | _ => rfl
 | _ => rfl
end
theorem truncFam_other {fam k : Nat} {x : Blk} (h : ∀ f o cs, x = .cells f o cs → f ≠ fam) : truncFam fam k x = x := by
 unfold truncFam
 split
 ·rename_i f o cs
  rw [if_neg (h f o cs rfl)]
 ·rfl
theorem old_trunc {B fam k : Nat} {H : Heap} (hw : WF H) (hf : B ≤ fam) : Old B H (H.map (truncFam fam k)) := by
 refine ⟨by simp, fun b hb => ?_⟩
 rw [List.getElem?_map]
 cases h : H[b]? with
 | none => rfl
 | some x =>
   rw [Option.map_some, truncFam_other]
   intro f o cs e
   subst e
   have := hw b f o cs h
   omega
theorem wf_trunc {fam k : Nat} {H : Heap} (hw : WF H) : WF (H.map (truncFam fam k)) := by
 intro b f o cs h
 rw [List.getElem?_map] at h
 cases hx : H[b]? with
 | none => rw [hx] at h; cases h
 | some x =>
   rw [hx, Option.map_some] at h
   cases x with
   | cells f' o' cs' =>
     unfold truncFam at h
     simp only at h
     split at h <;> (injection h with h; injection h with h1 h2 h3; subst h1; exact hw b _ _ _ hx)
   | _ => injection h with h; simp [truncFam] at h
theorem R.read {H : Heap} {v : Value} {l : List Value} (h : R H v l) : readA H 1 v = some l ∧ ∃ p c, v = .slice p l.length c := by
 rcases h with ⟨rfl, rfl⟩ | ⟨rfl, rfl⟩ | ⟨b, o, f, w, cs, rfl, hb, h2, h3⟩
 ·exact ⟨rfl, _, _, rfl⟩
 ·exact ⟨rfl, _, _, rfl⟩
 ·refine ⟨?_, _, _, rfl⟩
  simp only [readA, sliceA, Heap.cellsAt, hb, Nat.mul_one]
  rw [if_pos h2, h3]
theorem O.app {B : Nat} {H : Heap} {s x : Value} {l m : List Value} (h : O B H s l) (hw : WF H) (hB : B ≤ H.length) (hx : Abs.R H x m) (hl : l.length + m.length ≤ maxA) :
  ∃ v' H', appS s x H = some (v', H') ∧ O B H' v' (l ++ m) ∧ Old B H H' ∧ WF H' := by
 obtain ⟨hr, p, c, hv⟩ := hx.read
 by_cases h0 : m.length = 0
 ·have hm : m = [] := List.eq_nil_of_length_eq_zero h0
  subst hm
  refine ⟨s, H, ?_, by rw [List.append_nil]; exact h, Old.refl _ _, hw⟩
  unfold appS
  rw [hr, hv]
  simp only [List.length_nil, if_true]
  rcases h with ⟨rfl, _⟩ | ⟨b, f, rfl, _⟩ <;> rfl
 ·rcases h with ⟨rfl, rfl⟩ | ⟨b, f, rfl, h1, h2, hb⟩
  ·refine ⟨sliceA H.length 0 m.length 1, H ++ [.cells H.length true m], ?_, .inr ⟨H.length, H.length, by simp, hB, hB, by simp⟩, (Old.app H _).mono hB, hw.app (Nat.le_refl _)⟩
   unfold appS
   rw [hr, hv]
   simp only [h0, if_false]
   rw [if_pos (by simpa using hl)]
  ·refine ⟨sliceA H.length 0 (l.length + m.length) 1, H.map (truncFam f l.length) ++ [.cells f true (l.take l.length ++ m)], ?_, .inr ⟨H.length, f, by simp, hB, h2, by simp⟩, ?_, ?_⟩
   ·unfold appS
    rw [hr, hv]
    simp only [h0, if_false, sliceA, hb]
    rw [if_pos ⟨trivial, by simp, hl⟩]
   ·refine (old_trunc hw h2 (k := l.length)).trans ?_
    have := (Old.app (H.map (truncFam f l.length)) [.cells f true (l.take l.length ++ m)])
    exact this.mono (by simpa using hB)
   ·refine (wf_trunc hw).app ?_
    have := hw b f true l hb
    have := lt_of_blk hb
    simp; omega
theorem R.push {H : Heap} {f : Nat} {c : Value} : Abs.R (H ++ [.cells f true [c]]) (sliceA H.length 0 1 1) [c] := .inr (.inr ⟨H.length, 0, f, true, [c], rfl, by simp, by simp, by simp⟩)
/-- One element behind a list of the call's own. -/
theorem O.push {B : Nat} {H : Heap} {s : Value} {l : List Value} (h : O B H s l) (hw : WF H) (hB : B ≤ H.length) (hl : l.length + 1 ≤ maxA) (c : Value) :
  ∃ v' H', appS s (sliceA H.length 0 1 1) (H ++ [.cells H.length true [c]]) = some (v', H') ∧ O B H' v' (l ++ [c]) ∧ Old B H H' ∧ WF H' := by
 have ho := Old.app H [.cells H.length true [c]]
 obtain ⟨v', H', e, h1, h2, h3⟩ := (h.mono ho).app (hw.app (Nat.le_refl _)) (by simp; omega) R.push (by simpa using hl)
 exact ⟨v', H', e, h1, (ho.mono hB).trans h2, h3⟩
theorem O.pushI {B : Nat} {H : Heap} {s : Value} {l : List Int} (h : O B H s (ints l)) (hw : WF H) (hB : B ≤ H.length) (hl : l.length + 1 ≤ maxA) (z : Int) :
  ∃ v' H', appS s (sliceA H.length 0 1 1) (H ++ [.cells H.length true [vi z]]) = some (v', H') ∧ O B H' v' (ints (l ++ [z])) ∧ Old B H H' ∧ WF H' := by
 have := h.push hw hB (by rw [ints_len]; exact hl) (vi z)
 rw [ints_app]; exact this
theorem setList_len : ∀ (vs cs : List Value) (o : Nat), (setList cs o vs).length = cs.length := by
 intro vs
 induction vs with
 | nil => intro cs o; rfl
 | cons v vs ih => intro cs o; rw [setList, ih, List.length_set]
/-- A cell of a list of the call's own is written. -/
theorem O.set {B : Nat} {H : Heap} {s : Value} {l : List Value} (h : O B H s l) (hw : WF H) {i : Nat} (hi : i < l.length) {c : Value} (hc : Abs.scal c = some [c]) :
  ∃ H', storeS (pt s i) c H = some H' ∧ O B H' s (l.set i c) ∧ Old B H H' ∧ WF H' := by
 rcases h with ⟨rfl, rfl⟩ | ⟨b, f, rfl, h1, h2, hb⟩
 ·simp at hi
 ·refine ⟨(H.map (truncFam f i)).set b (.cells f true (l.set i c)), ?_, .inr ⟨b, f, by simp, h1, h2, ?_⟩, ?_, ?_⟩
  ·simp only [pt, sliceA, storeS, ptrA, hc, Heap.write, hb, Nat.zero_add]
   rw [if_pos (by simp; omega)]
   simp [setList]
  ·rw [List.getElem?_set]
   simp [lt_of_blk hb]
  ·have h3 := old_trunc hw h2 (k := i)
   refine ⟨by simp, fun x hx => ?_⟩
   rw [List.getElem?_set, if_neg (by omega), h3.2 x hx]
  ·intro b' f' o' cs' hb'
   rw [List.getElem?_set] at hb'
   split at hb'
   ·rename_i e
    subst e
    split at hb'
    ·injection hb' with hb'; injection hb' with e1 _ _; subst e1; exact hw b f true l hb
    ·cases hb'
   ·exact wf_trunc hw b' f' o' cs' hb'
theorem ints_set (l : List Int) (i : Nat) (z : Int) : (ints l).set i (vi z) = ints (l.set i z) := by unfold ints; rw [List.map_set]
theorem O.setI {B : Nat} {H : Heap} {s : Value} {l : List Int} (h : O B H s (ints l)) (hw : WF H) {i : Nat} (hi : i < l.length) (z : Int) :
  ∃ H', storeS (pt s i) (vi z) H = some H' ∧ O B H' s (ints (l.set i z)) ∧ Old B H H' ∧ WF H' := by
 have := h.set hw (i := i) (by rw [ints_len]; exact hi) (c := vi z) rfl
 rw [ints_set] at this; exact this
/- Parts of lists. -/
theorem R.sub {H : Heap} {v : Value} {l : List Value} (h : R H v l) {lo hi : Nat} (h1 : lo ≤ hi) (h2 : hi ≤ l.length) : ∃ v', subS v (some (vi lo)) (some (vi hi)) = some v' ∧ Abs.R H v' ((l.drop lo).take (hi - lo)) := by
 have bA : ∀ (k most d : Nat), k ≤ most → boundA (some (vi k)) d most = some k := fun k most d hk => by
  simp only [boundA]; rw [if_pos ⟨by omega, by omega⟩]; simp
 rcases h with ⟨rfl, rfl⟩ | ⟨rfl, rfl⟩ | ⟨b, o, f, w, cs, rfl, hb, h3, h4⟩
 ·simp at h2
  obtain rfl : lo = 0 := by omega
  subst h2
  exact ⟨.slice none 0 0, by simp only [subS, bA _ _ _ (Nat.le_refl 0)], .inl ⟨rfl, by simp⟩⟩
 ·simp at h2
  obtain rfl : lo = 0 := by omega
  subst h2
  exact ⟨lostSlice, by simp only [subS, lostSlice, bA _ _ _ (Nat.le_refl 0)]; rfl, .inr (.inl ⟨rfl, by simp⟩)⟩
 ·simp only [subS, sliceA, bA _ _ _ h2, bA _ _ _ h1]
  by_cases hz : lo = 0
  ·subst hz
   rw [if_pos rfl]
   refine ⟨_, rfl, .inr (.inr ⟨b, o, f, w, cs, by simp [sliceA]; omega, hb, by simp; omega, ?_⟩)⟩
   rw [List.drop_zero, Nat.sub_zero, List.length_take, Nat.min_eq_left h2]
   conv => rhs; rw [← h4]
   rw [List.take_take, Nat.min_eq_left h2]
  ·rw [if_neg hz]
   by_cases he : lo = hi
   ·subst he
    rw [if_pos rfl]
    exact ⟨_, rfl, .inr (.inl ⟨rfl, by simp⟩)⟩
   ·rw [if_neg he, if_pos ⟨rfl, trivial⟩]
    refine ⟨_, rfl, .inr (.inr ⟨b, o + lo, f, w, cs, by simp [sliceA]; omega, hb, by simp; omega, ?_⟩)⟩
    have hl : ((l.drop lo).take (hi - lo)).length = hi - lo := by simp; omega
    rw [hl]
    conv => rhs; rw [← h4]
    rw [List.drop_take, List.take_take, List.drop_drop, Nat.min_eq_left (by omega)]
theorem subS_lo {v : Value} {hi : Option Value} : subS v (some (vi 0)) hi = subS v none hi := by
 unfold subS
 have e : ∀ m, boundA (some (vi 0)) 0 m = boundA none 0 m := fun m => by simp [boundA]
 simp only [e]
theorem subS_hi {H : Heap} {v : Value} {l : List Value} (h : R H v l) {lo : Option Value} : subS v lo (some (vi l.length)) = subS v lo none := by
 have e : ∀ n : Nat, boundA (some (vi n)) n n = boundA none n n := fun n => by simp [boundA]
 rcases h with ⟨rfl, rfl⟩ | ⟨rfl, rfl⟩ | ⟨b, o, f, w, cs, rfl, hb, h3, h4⟩
 ·have := e 0
  simp only [subS, List.length_nil]; rw [this]
 ·have := e 0
  simp only [subS, lostSlice, List.length_nil]; rw [this]
 ·simp only [subS, sliceA, e]
end Go.Abs
