/- Runs over values that are not known: lists whose elements are lists, or structs with lists. -/
import Derived.Test.YtmmgdgmjkhcfaaaSymE
set_option linter.all false
namespace Go.Abs
/-- Blocks of other families than f stand. -/
def Oth (f : Nat) (H H' : Heap) : Prop := ∀ (b g : Nat) (w : Bool) (cs : List Value), g ≠ f → H[b]? = some (.cells g w cs) → H'[b]? = some (.cells g w cs)
theorem Oth.refl (f : Nat) (H : Heap) : Oth f H H := fun _ _ _ _ _ h => h
theorem Oth.trans {f : Nat} {H1 H2 H3 : Heap} (h : Oth f H1 H2) (h' : Oth f H2 H3) : Oth f H1 H3 := fun b g w cs hg hb => h' b g w cs hg (h b g w cs hg hb)
theorem Old.oth {f : Nat} {H H' : Heap} (h : Old H.length H H') : Oth f H H' := fun b g w cs _ hb => by rw [h.2 b (lt_of_blk hb)]; exact hb
theorem trunc_oth (f k : Nat) (H : Heap) : Oth f H (H.map (truncFam f k)) := fun b g w cs hg hb => by
 rw [List.getElem?_map, hb, Option.map_some]
 simp only [truncFam]
 rw [if_neg hg]
/-- A list that is read in a block of another family than f. -/
def RX (f : Nat) (H : Heap) (v : Value) (l : List Value) : Prop :=
 (v = .slice none 0 0 ∧ l = []) ∨ (v = lostSlice ∧ l = []) ∨ ∃ b o g w cs, v = sliceA b o l.length 1 ∧ g ≠ f ∧ H[b]? = some (.cells g w cs) ∧ o + l.length ≤ cs.length ∧ (cs.drop o).take l.length = l
theorem RX.R {f : Nat} {H : Heap} {v : Value} {l : List Value} (h : RX f H v l) : R H v l := by
 rcases h with h | h | ⟨b, o, g, w, cs, h1, _, h2⟩
 ·exact .inl h
 ·exact .inr (.inl h)
 ·exact .inr (.inr ⟨b, o, g, w, cs, h1, h2⟩)
theorem RX.oth {f : Nat} {H H' : Heap} {v : Value} {l : List Value} (h : RX f H v l) (ho : Oth f H H') : RX f H' v l := by
 rcases h with h | h | ⟨b, o, g, w, cs, h1, h2, hb, h3⟩
 ·exact .inl h
 ·exact .inr (.inl h)
 ·exact .inr (.inr ⟨b, o, g, w, cs, h1, h2, ho b g w cs h2 hb, h3⟩)
/-- A list made at or above C is in another family than one that was there, or than one not yet made. -/
theorem O.RX {C f : Nat} {H : Heap} {v : Value} {l : List Value} (h : O C H v l) (hw : WF H) (hf : f < C ∨ H.length ≤ f) : RX f H v l := by
 rcases h with h | ⟨b, g, h1, h2, h3, hb⟩
 ·exact .inl h
 ·refine .inr (.inr ⟨b, 0, g, true, l, h1, ?_, hb, by simp, by simp⟩)
  have := hw b g true l hb
  have := lt_of_blk hb
  omega
/-- Elements of s cells each, in a list of the call's own; 'Q f H c a': the cells c are the element a, in blocks of other families than f. -/
def OG {α : Type} (s : Nat) (Q : Nat → Heap → List Value → α → Prop) (B : Nat) (H : Heap) (v : Value) (ls : List α) : Prop :=
 (v = .slice none 0 0 ∧ ls = []) ∨ ∃ (b f : Nat) (css : List (List Value)), v = sliceA b 0 css.length s ∧ B ≤ b ∧ B ≤ f ∧ H[b]? = some (.cells f true css.flatten) ∧ (∀ c ∈ css, c.length = s) ∧ css.length = ls.length ∧ ∀ (i : Nat) (c : List Value) (a : α), css[i]? = some c → ls[i]? = some a → Q f H c a
def StableQ {α : Type} (Q : Nat → Heap → List Value → α → Prop) : Prop := ∀ (f : Nat) (H H' : Heap) (c : List Value) (a : α), Q f H c a → Oth f H H' → Q f H' c a
def appNS (sz : Nat) (s x : Value) (H : Heap) : Option (Value × Heap) := match readA H sz x, x with
 | some news, .slice _ k _ => if k = 0 then (match s with | .slice _ _ _ => some (s, H) | _ => none) else match s with
   | .slice none 0 0 => if 0 < sz ∧ k * sz ≤ maxA then some (sliceA H.length 0 k sz, H ++ [.cells H.length true news]) else none
   | .slice (some ⟨b, 0, none⟩) n s2 => match H[b]? with
     | some (.cells fam true cs) => if s2 = sz ∧ 0 < sz ∧ n * sz ≤ cs.length ∧ (n + k) * sz ≤ maxA then some (sliceA H.length 0 (n + k) sz, H.map (truncFam fam (n * sz)) ++ [.cells fam true (cs.take (n * sz) ++ news)]) else none
     | _ => none
   | _ => none
 | _, _ => none
theorem sy_appN {P : Program} {call : CallF} {a : Fr} {H : Heap} {d : Option Nat} {ty : TypeId} {pos : String} {aft : Array Edge} {g : Option (Nat × Bool)} {t el : TypeId} {s : Nat} {x y : Operand} (hs : sliceElem P t = some (el, s)) (hb : ((bytesT P el).isSome && decide ((bytesT P el).getD 0 ≤ maxA) && (zeros P el s 1).isSome) = true) :
  stepA P call a ⟨d, .call { callee := .builtin .append, args := #[x, y], argTypes := #[t, t] }, ty, pos, aft, g⟩ H = appNS s (ev a x) (ev a y) H := by
 show builtinA P a ⟨d, .call { callee := .builtin .append, args := #[x, y], argTypes := #[t, t] }, ty, pos, aft, g⟩ .append [ev a x, ev a y] [t, t] H = _
 simp only [builtinA, if_true]
 unfold appendA appNS
 simp only [Bool.and_eq_true, decide_eq_true_eq] at hb
 simp only [hs]
 rw [if_pos ⟨hb.1.1, hb.1.2, hb.2⟩]
 rfl
theorem flatten_len {s : Nat} : ∀ {css : List (List Value)}, (∀ c ∈ css, c.length = s) → css.flatten.length = css.length * s := by
 intro css
 induction css with
 | nil => intro _; simp
 | cons c css ih =>
   intro h
   rw [List.flatten_cons, List.length_append, h c (List.mem_cons_self ..), ih fun x hx => h x (List.mem_cons_of_mem _ hx), List.length_cons, Nat.add_mul, Nat.one_mul, Nat.add_comm]
theorem flatten_get {s : Nat} : ∀ {css : List (List Value)}, (∀ c ∈ css, c.length = s) → ∀ {i t : Nat} {c : List Value}, css[i]? = some c → t < s → css.flatten[i * s + t]? = c[t]? := by
 intro css
 induction css with
 | nil => intro _ i t c h; simp at h
 | cons c0 css ih =>
   intro h i t c hi ht
   have h0 := h c0 (List.mem_cons_self ..)
   cases i with
   | zero =>
     simp at hi
     subst hi
     rw [Nat.zero_mul, Nat.zero_add, List.flatten_cons, List.getElem?_append_left (by omega)]
   | succ i =>
     rw [List.flatten_cons, List.getElem?_append_right (by rw [Nat.add_mul]; omega), h0, show (i + 1) * s + t - s = i * s + t from by rw [Nat.add_mul]; omega]
     exact ih (fun x hx => h x (List.mem_cons_of_mem _ hx)) (by simpa using hi) ht
theorem OG.nil {α : Type} {s : Nat} {Q : Nat → Heap → List Value → α → Prop} (B : Nat) (H : Heap) : OG s Q B H (.slice none 0 0) [] := .inl ⟨rfl, rfl⟩
theorem OG.mono {α : Type} {s : Nat} {Q : Nat → Heap → List Value → α → Prop} (hQ : StableQ Q) {B : Nat} {H H' : Heap} {v : Value} {ls : List α} (h : OG s Q B H v ls) (ho : Old H.length H H') : OG s Q B H' v ls := by
 rcases h with h | ⟨b, f, css, h1, h2, h3, hb, h4, h5, h6⟩
 ·exact .inl h
 ·exact .inr ⟨b, f, css, h1, h2, h3, by rw [ho.2 b (lt_of_blk hb)]; exact hb, h4, h5, fun i c a hc ha => hQ f H H' c a (h6 i c a hc ha) ho.oth⟩
theorem OG.below {α : Type} {s : Nat} {Q : Nat → Heap → List Value → α → Prop} {B B' : Nat} {H : Heap} {v : Value} {ls : List α} (h : OG s Q B H v ls) (hb : B' ≤ B) : OG s Q B' H v ls := by
 rcases h with h | ⟨b, f, css, h1, h2, h3, h4⟩
 ·exact .inl h
 ·exact .inr ⟨b, f, css, h1, by omega, by omega, h4⟩
/-- One element behind a list of the call's own. -/
theorem OG.push {α : Type} {s : Nat} {Q : Nat → Heap → List Value → α → Prop} (hQ : StableQ Q) (hs : 0 < s) {B : Nat} {H0 H : Heap} {v : Value} {ls : List α} (h : OG s Q B H0 v ls) (ho : Old H0.length H0 H) (hw : WF H) (hB : B ≤ H0.length) {c : List Value} {a : α} (hc : c.length = s)
  (hn : ∀ f H', (f < H0.length ∨ H.length ≤ f) → Oth f H H' → Q f H' c a) (hl : (ls.length + 1) * s ≤ maxA) :
  ∃ v' H', appNS s v (sliceA H.length 0 1 s) (H ++ [.cells H.length true c]) = some (v', H') ∧ OG s Q B H' v' (ls ++ [a]) ∧ Old B H H' ∧ WF H' := by
 have old1 := Old.app H [.cells H.length true c]
 have wf1 := hw.app (Nat.le_refl H.length) (o := true) (cs := c)
 have hr : readA (H ++ [.cells H.length true c]) s (sliceA H.length 0 1 s) = some c := by
  have hx : (H ++ [Blk.cells H.length true c])[H.length]? = some (.cells H.length true c) := by simp
  simp only [readA, sliceA, Heap.cellsAt, hx]
  rw [if_pos (by omega)]
  rw [List.drop_zero, List.take_of_length_le (by omega)]
 have h00 := ho.1
 have hs1 : s ≤ maxA := by
  have h2 : 1 * s ≤ (ls.length + 1) * s := Nat.mul_le_mul_right s (by omega)
  omega
 have l1 : (H ++ [Blk.cells H.length true c]).length = H.length + 1 := by simp
 have hbk : ∀ b x, H[b]? = some x → (H ++ [Blk.cells H.length true c])[b]? = some x := fun b x h => by rw [old1.2 b (lt_of_blk h)]; exact h
 generalize hH1 : H ++ [Blk.cells H.length true c] = H1 at *
 rcases h with ⟨rfl, rfl⟩ | ⟨b, f, css, rfl, h1, h2, hb, h3, h4, h5⟩
 ·have old2 := Old.app H1 [Blk.cells H1.length true c]
  have old12 := old1.trans (old2.mono old1.1)
  refine ⟨sliceA H1.length 0 1 s, H1 ++ [Blk.cells H1.length true c], ?_, .inr ⟨H1.length, H1.length, [c], rfl, by omega, by omega, by simp, by simpa using hc, rfl, ?_⟩, old12.mono (by omega), wf1.app (Nat.le_refl _)⟩
  ·unfold appNS
   rw [hr]
   simp only [sliceA, Nat.one_ne_zero, if_false, Nat.one_mul]
   rw [if_pos ⟨hs, hs1⟩]
  ·intro i c' a' h1 h2
   cases i with
   | zero =>
     simp at h1 h2
     subst h1; subst h2
     exact hn _ _ (.inr (by omega)) old12.oth
   | succ i => simp at h1
 ·have hbH : H[b]? = some (.cells f true css.flatten) := by rw [ho.2 b (lt_of_blk hb)]; exact hb
  have hb1 := hbk b _ hbH
  have hfb := hw b f true _ hbH
  have hblt := lt_of_blk hb
  have hfl := flatten_len h3
  obtain ⟨H2, hH2⟩ : ∃ H2, H2 = H1.map (truncFam f (css.length * s)) := ⟨_, rfl⟩
  have l2 : H2.length = H1.length := by rw [hH2]; simp
  have wf2 : WF H2 := by rw [hH2]; exact wf_trunc wf1
  have old2 : Old B H1 H2 := by rw [hH2]; exact old_trunc wf1 h2
  have old3 := Old.app H2 [Blk.cells f true (css.flatten.take (css.length * s) ++ c)]
  have hfo : Oth f H (H2 ++ [Blk.cells f true (css.flatten.take (css.length * s) ++ c)]) := by
   refine old1.oth.trans (Oth.trans ?_ old3.oth)
   rw [hH2]; exact trunc_oth f _ _
  refine ⟨sliceA H1.length 0 (css.length + 1) s, H2 ++ [Blk.cells f true (css.flatten.take (css.length * s) ++ c)], ?_, .inr ⟨H1.length, f, css ++ [c], by rw [List.length_append]; rfl, by omega, h2, ?_, ?_, by simp [h4], ?_⟩, (old1.mono (by omega)).trans (old2.trans (old3.mono (by omega))), wf2.app (by omega)⟩
  ·unfold appNS
   rw [hr]
   simp only [sliceA, Nat.one_ne_zero, if_false]
   rw [hb1]
   simp only
   rw [if_pos ⟨trivial, hs, by omega, by rw [h4]; exact hl⟩, hH2]
  ·rw [List.getElem?_append_right (by omega), l2, Nat.sub_self, ← hfl, List.take_length, List.flatten_append]
   simp
  ·intro x hx
   rcases List.mem_append.1 hx with hx | hx
   ·exact h3 x hx
   ·simp at hx; subst hx; exact hc
  ·intro i c' a' e1 e2
   by_cases hi : i < css.length
   ·rw [List.getElem?_append_left hi] at e1
    rw [List.getElem?_append_left (by omega)] at e2
    exact hQ f H0 _ c' a' (h5 i c' a' e1 e2) (ho.oth.trans hfo)
   ·have hi2 : i = css.length := by
     have := (List.getElem?_eq_some_iff.1 e1).1
     simp at this
     omega
    subst hi2
    simp at e1
    rw [h4] at e2
    simp at e2
    subst e1; subst e2
    exact hn f _ (.inl (by omega)) hfo
/-- A value that reads as a list of elements of s cells each. -/
def RG {α : Type} (s : Nat) (Q : Heap → List Value → α → Prop) (H : Heap) (v : Value) (ls : List α) : Prop :=
 (v = .slice none 0 0 ∧ ls = []) ∨ ∃ (b f : Nat) (w : Bool) (css : List (List Value)), v = sliceA b 0 css.length s ∧ H[b]? = some (.cells f w css.flatten) ∧ (∀ c ∈ css, c.length = s) ∧ css.length = ls.length ∧ ∀ (i : Nat) (c : List Value) (a : α), css[i]? = some c → ls[i]? = some a → Q H c a
theorem OG.RG {α : Type} {s : Nat} {Q : Nat → Heap → List Value → α → Prop} {Q' : Heap → List Value → α → Prop} (hq : ∀ f H c a, Q f H c a → Q' H c a) {B : Nat} {H : Heap} {v : Value} {ls : List α} (h : OG s Q B H v ls) : RG s Q' H v ls := by
 rcases h with h | ⟨b, f, css, h1, h2, h3, hb, h4, h5, h6⟩
 ·exact .inl h
 ·exact .inr ⟨b, f, true, css, h1, hb, h4, h5, fun i c a hc ha => hq f H c a (h6 i c a hc ha)⟩
theorem RG.mono {α : Type} {s : Nat} {Q : Heap → List Value → α → Prop} (hQ : ∀ H H' c a, Q H c a → Old H.length H H' → Q H' c a) {H H' : Heap} {v : Value} {ls : List α} (h : RG s Q H v ls) (ho : Old H.length H H') : RG s Q H' v ls := by
 rcases h with h | ⟨b, f, w, css, h1, hb, h2, h3, h4⟩
 ·exact .inl h
 ·exact .inr ⟨b, f, w, css, h1, by rw [ho.2 b (lt_of_blk hb)]; exact hb, h2, h3, fun i c a hc ha => hQ H H' c a (h4 i c a hc ha) ho⟩
theorem RG.len {α : Type} {s : Nat} {Q : Heap → List Value → α → Prop} {H : Heap} {v : Value} {ls : List α} (h : RG s Q H v ls) : lenS v = some ls.length := by
 rcases h with ⟨rfl, rfl⟩ | ⟨b, f, w, css, rfl, _, _, h, _⟩
 ·rfl
 ·simp only [lenS, sliceA, h]
theorem RG.scal {α : Type} {s : Nat} {Q : Heap → List Value → α → Prop} {H : Heap} {v : Value} {ls : List α} (h : RG s Q H v ls) : scal v = some [v] := by
 rcases h with ⟨rfl, _⟩ | ⟨b, f, w, css, rfl, _⟩ <;> rfl
theorem RG.addr {α : Type} {s : Nat} {Q : Heap → List Value → α → Prop} {H : Heap} {v : Value} {ls : List α} (h : RG s Q H v ls) {i : Nat} (hi : i < ls.length) : addrS s v (vi i) = some (pt v (i * s)) := by
 rcases h with ⟨_, rfl⟩ | ⟨b, f, w, css, rfl, _, _, h, _⟩
 ·simp at hi
 ·simp only [addrS, sliceA, pt]
  rw [if_pos ⟨by omega, by omega⟩, Int.toNat_natCast]
/-- The cells of an element. -/
theorem RG.item {α : Type} {s : Nat} {Q : Heap → List Value → α → Prop} {H : Heap} {v : Value} {ls : List α} (h : RG s Q H v ls) {i : Nat} {a : α} (hi : ls[i]? = some a) : ∃ c, c.length = s ∧ Q H c a ∧ ∀ t, t < s → loadS (pt v (i * s + t)) H = c[t]? := by
 rcases h with ⟨_, rfl⟩ | ⟨b, f, w, css, rfl, hb, h1, h2, h3⟩
 ·simp at hi
 ·have hlt : i < css.length := by rw [h2]; exact (List.getElem?_eq_some_iff.1 hi).1
  have hc : css[i]? = some css[i] := List.getElem?_eq_getElem hlt
  refine ⟨css[i], h1 _ (List.getElem_mem hlt), h3 i _ a hc hi, fun t ht => ?_⟩
  simp only [pt, sliceA, ptrA, loadS, Heap.cell, hb, Nat.zero_add]
  exact flatten_get h1 hc ht
/- Rows. -/
def RowX (f : Nat) (H : Heap) (c : List Value) (l : List Int) : Prop := ∃ v, c = [v] ∧ RX f H v (ints l)
def RowR (H : Heap) (c : List Value) (l : List Int) : Prop := ∃ v, c = [v] ∧ R H v (ints l)
theorem RowX.stable : StableQ RowX := fun f H H' c l ⟨v, h1, h2⟩ ho => ⟨v, h1, h2.oth ho⟩
theorem RowX.R (f : Nat) (H : Heap) (c : List Value) (l : List Int) (h : RowX f H c l) : RowR H c l := by obtain ⟨v, h1, h2⟩ := h; exact ⟨v, h1, h2.R⟩
theorem RowR.mono (H H' : Heap) (c : List Value) (l : List Int) (h : RowR H c l) (ho : Old H.length H H') : RowR H' c l := by obtain ⟨v, h1, h2⟩ := h; exact ⟨v, h1, h2.mono ho⟩
/-- Lists of lists: of the call's own, and read. -/
abbrev OL (B : Nat) (H : Heap) (v : Value) (ls : List (List Int)) : Prop := OG 1 RowX B H v ls
abbrev RL (H : Heap) (v : Value) (ls : List (List Int)) : Prop := RG 1 RowR H v ls
theorem OL.RL {B : Nat} {H : Heap} {v : Value} {ls : List (List Int)} (h : OL B H v ls) : RL H v ls := OG.RG RowX.R h
theorem RL.mono {H H' : Heap} {v : Value} {ls : List (List Int)} (h : RL H v ls) (ho : Old H.length H H') : RL H' v ls := RG.mono RowR.mono h ho
theorem RL.addr {H : Heap} {v : Value} {ls : List (List Int)} (h : RL H v ls) {i : Nat} (hi : i < ls.length) : addrS 1 v (vi i) = some (pt v i) := by
 have := RG.addr h hi
 rwa [Nat.mul_one] at this
theorem RL.row {H : Heap} {v : Value} {ls : List (List Int)} (h : RL H v ls) {i : Nat} (hi : i < ls.length) : ∃ r, loadS (pt v i) H = some r ∧ R H r (ints (ls.getD i [])) := by
 have e : ls[i]? = some (ls.getD i []) := by simp [List.getD_eq_getElem?_getD, List.getElem?_eq_getElem hi]
 obtain ⟨c, h1, ⟨r, rfl, h2⟩, h3⟩ := RG.item h e
 have := h3 0 (by omega)
 rw [Nat.mul_one, Nat.add_zero] at this
 exact ⟨r, this, h2⟩
/-- A row made since is put behind the rows. -/
theorem OL.push {B C : Nat} {H0 H : Heap} {v r : Value} {ls : List (List Int)} {l : List Int} (h : OL B H0 v ls) (ho : Old H0.length H0 H) (hw : WF H) (hB : B ≤ H0.length) (hr : O C H r (ints l)) (hC : H0.length ≤ C) (hl : ls.length + 1 ≤ maxA) :
  ∃ v' H', appNS 1 v (sliceA H.length 0 1 1) (H ++ [.cells H.length true [r]]) = some (v', H') ∧ OL B H' v' (ls ++ [l]) ∧ Old B H H' ∧ WF H' :=
 OG.push RowX.stable (by omega) h ho hw hB rfl (fun f H' hf hoth => ⟨r, rfl, (hr.RX hw (by omega)).oth hoth⟩) (by omega)
end Go.Abs
namespace Go.Abs
def buildS (s : Nat) (x : Option (List Value)) (H : Heap) : Option (Value × Heap) := match x with
 | some cs => if cs.length = s then some (sliceA H.length 0 1 s, H ++ [.cells H.length true cs]) else none
 | none => none
theorem sy_buildN {P : Program} {call : CallF} {a : Fr} {H : Heap} {d : Option Nat} {ty : TypeId} {pos : String} {aft : Array Edge} {g : Option (Nat × Bool)} {t el : TypeId} {s : Nat} {x : Operand} {z : List Value} (hs : sliceElem P t = some (el, s)) (hz : zeros P el s 1 = some z) (hl : z.length = s) (h0 : (decide (0 < s) && decide (s ≤ maxA)) = true) :
  stepA P call a ⟨d, .buildSlice t 1 #[(0, x)], ty, pos, aft, g⟩ H = buildS s (scal (ev a x)) H := by
 simp only [Bool.and_eq_true, decide_eq_true_eq] at h0
 show buildSliceA P t 1 [(0, ev a x)] H = _
 unfold buildSliceA buildS
 simp only [hs]
 rw [if_pos ⟨h0.1, by omega⟩]
 simp only [hz, fillL, Nat.zero_mul]
 cases h : scal (ev a x) with
 | none => rfl
 | some cs =>
   by_cases hc : cs.length = s
   ·simp only [hc, if_true]
    rw [setList_all cs z (by omega), if_pos ⟨trivial, by omega⟩]
   ·simp only [hc, if_false]
    rw [if_neg (fun h => h.1)]
theorem buildS_2 {u v : Value} {H : Heap} : buildS 2 (some [u, v]) H = some (sliceA H.length 0 1 2, H ++ [.cells H.length true [u, v]]) := (rfl)
/- A list and a number. -/
def HkX (f : Nat) (H : Heap) (c : List Value) (a : List Int × Int) : Prop := ∃ v, c = [v, vi a.2] ∧ RX f H v (ints a.1)
def HkR (H : Heap) (c : List Value) (a : List Int × Int) : Prop := ∃ v, c = [v, vi a.2] ∧ R H v (ints a.1)
theorem HkX.stable : StableQ HkX := fun f H H' c l ⟨v, h1, h2⟩ ho => ⟨v, h1, h2.oth ho⟩
theorem HkX.R (f : Nat) (H : Heap) (c : List Value) (a : List Int × Int) (h : HkX f H c a) : HkR H c a := by obtain ⟨v, h1, h2⟩ := h; exact ⟨v, h1, h2.R⟩
theorem HkR.mono (H H' : Heap) (c : List Value) (a : List Int × Int) (h : HkR H c a) (ho : Old H.length H H') : HkR H' c a := by obtain ⟨v, h1, h2⟩ := h; exact ⟨v, h1, h2.mono ho⟩
abbrev OH (B : Nat) (H : Heap) (v : Value) (ls : List (List Int × Int)) : Prop := OG 2 HkX B H v ls
abbrev RH (H : Heap) (v : Value) (ls : List (List Int × Int)) : Prop := RG 2 HkR H v ls
theorem OH.RH {B : Nat} {H : Heap} {v : Value} {ls : List (List Int × Int)} (h : OH B H v ls) : RH H v ls := OG.RG HkX.R h
theorem RH.mono {H H' : Heap} {v : Value} {ls : List (List Int × Int)} (h : RH H v ls) (ho : Old H.length H H') : RH H' v ls := RG.mono HkR.mono h ho
theorem RH.item {H : Heap} {v : Value} {ls : List (List Int × Int)} (h : RH H v ls) {i : Nat} {a : List Int × Int} (hi : ls[i]? = some a) : ∃ r, loadS (pt v (i * 2)) H = some r ∧ R H r (ints a.1) ∧ loadS (pt v (i * 2 + 1)) H = some (vi a.2) := by
 obtain ⟨c, h1, ⟨r, rfl, h2⟩, h3⟩ := RG.item h hi
 exact ⟨r, h3 0 (by omega), h2, h3 1 (by omega)⟩
theorem RH.faddr {H : Heap} {v : Value} {ls : List (List Int × Int)} (h : RH H v ls) {i : Nat} (hi : i < ls.length) (t : Nat) : faddrS t (pt v (i * 2)) = some (pt v (i * 2 + t)) := by
 rcases h with ⟨_, rfl⟩ | ⟨b, f, w, css, rfl, _⟩
 ·simp at hi
 ·simp only [faddrS, pt, sliceA, ptrA, Nat.zero_add]
theorem OH.push {B C : Nat} {H0 H : Heap} {v r : Value} {ls : List (List Int × Int)} {l : List Int} {z : Int} (h : OH B H0 v ls) (ho : Old H0.length H0 H) (hw : WF H) (hB : B ≤ H0.length) (hr : O C H r (ints l)) (hC : H0.length ≤ C) (hl : (ls.length + 1) * 2 ≤ maxA) :
  ∃ v' H', appNS 2 v (sliceA H.length 0 1 2) (H ++ [.cells H.length true [r, vi z]]) = some (v', H') ∧ OH B H' v' (ls ++ [(l, z)]) ∧ Old B H H' ∧ WF H' :=
 OG.push HkX.stable (by omega) h ho hw hB rfl (fun f H' hf hoth => ⟨r, rfl, (hr.RX hw (by omega)).oth hoth⟩) hl
end Go.Abs
