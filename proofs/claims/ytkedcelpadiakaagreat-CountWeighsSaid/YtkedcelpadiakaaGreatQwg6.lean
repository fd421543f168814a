/- Of the law: texts of its proof, joined (part 6). -/
import Derived.Shelf.SlSortCmp.NoneTotal
import Derived.Deep.Draws
import Derived.Test.YtkedcelpadiakaaGreatRows
import Derived.Shelf.SlLaysF0
import Derived.Maps.RangeRun
import Derived.Sort.Grow
import Derived.Test.YtkedcelpadiakaaGreatQwg2
import Derived.Test.YtkedcelpadiakaaGreatQwg3
import Derived.Test.YtkedcelpadiakaaGreatQwg4
import Derived.Test.YtkedcelpadiakaaGreatQwg5
set_option linter.all false
namespace Go.Num
def arrP : Nat → List Bool → List Int → List (List Int)
  | 0, _, l => [l]
  | k + 1, us, l => (List.range us.length).flatMap fun i => if us.getD i true then [] else arrP k (us.set i true) (l ++ [(i : Int)])
def permsP (n : Nat) : List (List Int) := arrP n (List.replicate n false) []
structure Rng (n : Nat) (l : List Int) : Prop where
  len : l.length = n
  mem : ∀ x ∈ l, 0 ≤ x ∧ x < n
theorem arrP_rng {n : Nat} : ∀ (k : Nat) (us : List Bool) (l : List Int), us.length = n → l.length + k = n → (∀ x ∈ l, 0 ≤ x ∧ x < n) → ∀ p ∈ arrP k us l, Rng n p := by
  intro k
  induction k with
  | zero =>
    intro us l _ h2 h3 p hp
    obtain rfl := List.mem_singleton.1 hp
    exact ⟨by omega, h3⟩
  | succ k ih =>
    intro us l h1 h2 h3 p hp
    obtain ⟨i, hi, hp⟩ := List.mem_flatMap.1 hp
    have hi := List.mem_range.1 hi
    split at hp
    · cases hp
    · refine ih _ _ (by rw [List.length_set]; exact h1) (by rw [List.length_append]; simp; omega) (fun x hx => ?_) p hp
      rcases List.mem_append.1 hx with hx | hx
      · exact h3 x hx
      · obtain rfl := List.mem_singleton.1 hx
        omega
theorem perms_rng {n : Nat} : ∀ p ∈ permsP n, Rng n p := arrP_rng n _ [] (by simp) (by simp) (by simp)
def walkP (f : List Int) : Nat → List Bool → Nat → Nat → List Bool × Nat
  | 0, s, _, c => (s, c)
  | k + 1, s, x, c => if s.getD x true then (s, c) else walkP f k (s.set x true) (f.getD x 0).toNat (c + 1)
def cycG (f : List Int) : List Nat → List Bool → List Int → List Int
  | [], _, o => o
  | i :: is, s, o => match walkP f (f.length + 1) s i 0 with
    | (s', c) => cycG f is s' (if 0 < c then o ++ [(c : Int)] else o)
def insD (x : Int) : List Int → List Int
  | [] => [x]
  | y :: l => if y < x then x :: y :: l else y :: insD x l
def sortD : List Int → List Int
  | [] => []
  | x :: l => insD x (sortD l)
def cycP (f : List Int) : List Int := sortD (cycG f (List.range f.length) (List.replicate f.length false) [])
def backS (r u : List Int) (b : List Int) (i : Nat) : List Int := b.set (r.getD (u.getD i 0).toNat 0).toNat (i : Int)
def backP (r u : List Int) : List Int := (List.range r.length).foldl (backS r u) (List.replicate r.length 0)
def commV (r u b : List Int) (i : Nat) : Int := b.getD (u.getD (r.getD i 0).toNat 0).toNat 0
def commP (r u : List Int) : List Int := (List.range r.length).map (commV r u (backP r u))
def kindP (r u : List Int) : List Int := cycP (commP r u)
theorem foldl_range_succ {α : Type} (f : α → Nat → α) (a : α) (i : Nat) : (List.range (i + 1)).foldl f a = f ((List.range i).foldl f a) i := by rw [List.range_succ, List.foldl_append]; rfl
theorem back_len (r u : List Int) : ∀ (i : Nat) (b : List Int), ((List.range i).foldl (backS r u) b).length = b.length := by
  intro i
  induction i with
  | zero => intro b; rfl
  | succ i ih => intro b; rw [foldl_range_succ, backS, List.length_set, ih]
theorem back_mem {r u : List Int} {n : Nat} (hn : r.length ≤ n) : ∀ (i : Nat), i ≤ n → ∀ (b : List Int), (∀ x ∈ b, 0 ≤ x ∧ x < n) → ∀ x ∈ (List.range i).foldl (backS r u) b, 0 ≤ x ∧ x < n := by
  intro i
  induction i with
  | zero => intro _ b hb; exact hb
  | succ i ih =>
    intro hi b hb x hx
    rw [foldl_range_succ, backS] at hx
    rcases List.mem_or_eq_of_mem_set hx with hx | hx
    · exact ih (by omega) b hb x hx
    · subst hx; omega
theorem Rng.getD {n : Nat} {l : List Int} (h : Rng n l) {i : Nat} (hi : i < n) : 0 ≤ l.getD i 0 ∧ l.getD i 0 < n := by
  rw [List.getD_eq_getElem?_getD, List.getElem?_eq_getElem (by rw [h.len]; exact hi)]
  exact h.mem _ (List.getElem_mem _)
theorem back_rng {n : Nat} {r u : List Int} (hr : Rng n r) {i : Nat} (hi : i ≤ n) : Rng n ((List.range i).foldl (backS r u) (List.replicate r.length 0)) := by
  refine ⟨by rw [back_len, List.length_replicate]; exact hr.len, back_mem (by rw [hr.len]; exact Nat.le_refl _) i hi _ fun x hx => ?_⟩
  obtain ⟨h1, rfl⟩ := List.mem_replicate.1 hx
  rw [hr.len] at h1
  omega
end Go.Num
namespace Go.Abs
section
variable {P : Program}
inductive ArgAt (w : World) : Arg → Value → Prop
 | imm {v v' : Value} (h : ∀ m, VR m v v') : ArgAt w (.imm v) v'
 | li {l : List Value} {g o cap : Nat} {C : Array Value} {el : TypeId} {fr : Nat × Nat} (h : w.heap[g]? = some (.cells C el fr)) (hl : l.length ≤ cap) (hc : o + cap ≤ C.size) (hv : ∀ i v, l[i]? = some v → C[o + i]? = some v) (hp : ∀ v ∈ l, plain v = true) :
  ArgAt w (.li l) (.slice (some ⟨g, o, none⟩) l.length cap)
theorem args_at {w : World} : ∀ {ays : List Arg} {args' : List Value} (k : Nat), All2 (ArgAt w) ays args' →
  ∃ locs : List Loc, locs.length = (mkHeap k ays).length ∧ (∀ (i : Nat) (x : Blk) (l : Loc), (mkHeap k ays)[i]? = some x → locs[i]? = some l → x.owned = false ∧ l.g < w.heap.size ∧ ∀ m', BR m' w l x) ∧
    ∀ ms : Mp, (∀ i, i < locs.length → ms (k + i) = locs[i]?) → All2 (VR ms) (mkVals k ays) args' := by
 intro ays
 induction ays with
 | nil => intro args' k h; cases h; exact ⟨[], rfl, fun i x l hx => by simp [mkHeap] at hx, fun ms _ => .nil⟩
 | cons a ays ih =>
   intro args' k h
   cases h with
   | cons ha ht =>
     cases ha with
     | imm hv =>
       obtain ⟨locs, e1, e2, e3⟩ := ih k ht
       exact ⟨locs, e1, e2, fun ms hms => .cons (hv ms) (e3 ms hms)⟩
     | @li l g o cap C el fr hh hl hc hcell hp =>
       obtain ⟨locs, e1, e2, e3⟩ := ih (k + 1) ht
       refine ⟨⟨g, o, C.size⟩ :: locs, by simp [mkHeap, e1], fun i x y hx hy => ?_, fun ms hms => .cons ?_ (e3 ms fun i hi => ?_)⟩
       ·cases i with
        | zero =>
          simp [mkHeap] at hx hy
          subst hx; subst hy
          have hlt : g < w.heap.size := by
           apply Nat.lt_of_not_le
           intro hge
           rw [Array.getElem?_eq_none hge] at hh
           cases hh
          exact ⟨rfl, hlt, fun m' => ⟨C, el, fr, hh, rfl, (fun h => by cases h), fun i v hv => ⟨v, hcell i v hv, by
           have := VR.of_plain m' (hp v (List.mem_of_getElem? hv))
           cases this with
           | a h => cases h with
             | s h => exact h
             | agg h => have := hp _ (List.mem_of_getElem? hv); simp [plain] at this
           | tuple h => have := hp _ (List.mem_of_getElem? hv); simp [plain] at this⟩⟩⟩
        | succ i => exact e2 i x y (by simpa [mkHeap] using hx) (by simpa using hy)
       ·have h0 := hms 0 (by simp)
        simp at h0
        have := SR.slice (m := ms) k 0 l.length 1 cap ⟨g, o, C.size⟩ h0 hl (by simp; omega)
        exact .a (.s this)
       ·have := hms (i + 1) (by simp; omega)
        rw [show k + (i + 1) = k + 1 + i by omega] at this
        simpa using this
theorem rows_rel {w : World} {ays : List Arg} {args' : List Value} (h : All2 (ArgAt w) ays args') : ∃ m, Rel m (mkHeap 0 ays) w ∧ All2 (VR m) (mkVals 0 ays) args' ∧ ∀ g, ¬ Owned m (mkHeap 0 ays) g := by
 obtain ⟨locs, la, lb, lc⟩ := args_at 0 h
 refine ⟨fun b => locs[b]?, ?_, lc _ fun i hi => by simp, ?_⟩
 ·exact {
   len := fun b l hb => by have := lt_of_get hb; omega
   has := fun b x hx _ => by
    have := lt_of_get hx
    exact ⟨locs[b]'(by omega), List.getElem?_eq_getElem _⟩
   bnd := fun b l hb => by
    have := lt_of_get hb
    exact (lb b _ l (List.getElem?_eq_getElem (by omega)) hb).2.1
   blk := fun b x l hx hb => (lb b x l hx hb).2.2 _
   sep := fun b c x y l k _ hx hy hb hc ho => by have := (lb b x l hx hb).1; rw [this] at ho; cases ho }
 ·rintro g ⟨b, x, l, h1, h2, h3, _⟩
  have := (lb b x l h1 h2).1
  rw [this] at h3; cases h3
open Go.RowKit in
/-- A law over lists, from the evaluator's answer. -/
theorem law_args (hmix : P.follows .mixedOrders = true) {call : CallF} (hcall : CallOK P call) (hg : CallGrow call) {n f : Nat} {ays : List Arg} {H' : Heap} (h : evBody P call n (.func (.func f) #[] #[]) (mkVals 0 ays) (mkHeap 0 ays) = some (.bool true, H'))
  {w : World} {args : Array Value} (ha : All2 (ArgAt w) ays args.toList) : Calls P f args w fun e w' => e = .returned (.bool true) ∧ Below w.heap.size w w' := by
 obtain ⟨m, hR, hargs, hno⟩ := rows_rel ha
 have s3 := body_calls hmix hcall hg h hR hargs
 refine fun cs => ?_
 obtain ⟨e, w2, fr, ⟨m', v', rfl, s1, s2⟩, h2⟩ := s3 cs
 obtain rfl := s2.plain rfl
 exact ⟨_, _, fr, ⟨rfl, s1.keep.os, s1.keep.tape, s1.keep.output, s1.keep.size, fun k hk => s1.keep.block k hk (hno k)⟩, h2⟩
end
end Go.Abs
namespace Go.Abs
section
variable {P : Program} {call : CallF}
theorem body_runC {n f : Nat} {fn : Func} {c : Code} {caps : Array Value} {args : List Value} {H : Heap} {D : Nat → Bool} (hf : P.funcs[f]? = some fn) (hb : fn.body = some c) (hok : funcOk fn c = true) (hl : (args ++ caps.toList).length ≤ fn.ntmps) (hd : drawsOk D c = true) :
  evBody P call n (.func (.func f) #[] caps) args H = finB P fn.results.toList (evT P call n fn.ntmps none D c (frOf (args ++ caps.toList)) H) := by
 rw [← evS_eq c hd]
 unfold evBody finB
 simp only [hf, hb]
 rw [if_pos ⟨hok, rfl, hl⟩]
 cases evCode P call n fn.ntmps none c (frOf (args ++ caps.toList)) H with
 | none => rfl
 | some r => obtain ⟨x, a, H'⟩ := r; cases x <;> rfl
theorem yield_run {n L nt nt1 nt2 : Nat} {pnd p1 p2 : Option Code} {tmps tm1 tm2 : Fr} {params pr1 pr2 : List Nat} {assign body as1 bd1 as2 bd2 : Code} {st2 : LoopState} {args : List Value} {H H1 H2 : Heap} {a a2 : Fr} {D : Nat → Bool}
  (hL : H[L]? = some (.loop .ready pnd nt tmps params assign body)) (hl : args.length = params.length) (hda : drawsOk D assign = true) (hdb : drawsOk D body = true)
  (h1 : evT P call n nt (some L) D assign (putAll tmps params args) H = some (.normal, a, H1)) (hL1 : H1[L]? = some (.loop .ready p1 nt1 tm1 pr1 as1 bd1))
  {x : X} (h2 : evT P call n nt (some L) D body a (H1.set L (.loop .busy p1 nt1 tm1 pr1 as1 bd1)) = some (x, a2, H2)) (hL2 : H2[L]? = some (.loop st2 p2 nt2 tm2 pr2 as2 bd2)) :
  evBody P call n (.func (.yield L) #[] #[]) args H = some (.bool (xBool x), H2.set L (.loop (xState x) (xJump x) nt2 tm2 pr2 as2 bd2)) := by
 rw [← evS_eq _ hda] at h1
 rw [← evS_eq _ hdb] at h2
 unfold evBody
 simp only [hL]
 rw [if_pos hl, h1]
 simp only [hL1, h2, hL2]
theorem range_run {k nt : Nat} {rd : Option Nat} {D : Nat → Bool} {f : Operand} {params : Array Nat} {assign body : Code} {a : Fr} {H H' : Heap} {v : Value} {nt' : Nat} {tm' : Fr} {pr' : List Nat} {ays' bd' : Code} (hrd : rdOk H rd = true)
  (h : call (ev a f) [.func (.yield H.length) #[] #[]] (H ++ [.loop .ready none nt a params.toList assign body]) = some (v, H')) (hL : H'[H.length]? = some (.loop .ready none nt' tm' pr' ays' bd')) :
  evT P call k nt rd D (.rangeFunc f params assign body) a H = some (.normal, a, H'.set H.length .dead) := by
 show rangeS call nt rd (ev a f) params assign body a H = _
 unfold rangeS
 rw [if_pos hrd, h]
 simp only [hL]
 rfl
end
def famIn (G : Nat → Prop) : Blk → Prop
 | .cells f _ _ => G f
 | _ => True
def KeepG (G : Nat → Prop) (H H' : Heap) : Prop := H.length ≤ H'.length ∧ ∀ (b : Nat) (x : Blk), G b → H[b]? = some x → famIn G x → H'[b]? = some x
theorem KeepG.refl (G : Nat → Prop) (H : Heap) : KeepG G H H := ⟨Nat.le_refl _, fun _ _ _ h _ => h⟩
theorem KeepG.trans {G : Nat → Prop} {H1 H2 H3 : Heap} (h : KeepG G H1 H2) (k : KeepG G H2 H3) : KeepG G H1 H3 := ⟨Nat.le_trans h.1 k.1, fun b x hb hx hf => k.2 b x hb (h.2 b x hb hx hf) hf⟩
theorem famIn.mono {G G' : Nat → Prop} (h : ∀ b, G b → G' b) {x : Blk} (hx : famIn G x) : famIn G' x := by
 cases x with
 | cells f o cs => exact h f hx
 | _ => exact hx
theorem KeepG.sub {G G' : Nat → Prop} {H H' : Heap} (h : KeepG G H H') (hs : ∀ b, G' b → G b) : KeepG G' H H' := ⟨h.1, fun b x hb hx hf => h.2 b x (hs b hb) hx (hf.mono hs)⟩
theorem Old.keepG {H H' : Heap} (h : Old H.length H H') (G : Nat → Prop) : KeepG G H H' := ⟨h.1, fun b x _ hx _ => by rw [h.2 b (lt_of_blk hx)]; exact hx⟩
theorem KeepG.old {B : Nat} {G : Nat → Prop} {H0 H H' : Heap} (h : KeepG G H H') (hw : WF H) (hG : ∀ b, b < B → G b) (ho : Old B H0 H) (hB : B ≤ H0.length) : Old B H0 H' := by
 refine ⟨Nat.le_trans ho.1 h.1, fun b hb => ?_⟩
 rw [← ho.2 b hb]
 have hlt : b < H.length := by have := ho.1; omega
 have hx : H[b]? = some H[b] := List.getElem?_eq_getElem hlt
 rw [hx]
 refine h.2 b _ (hG b hb) hx ?_
 cases hc : H[b] with
 | cells f o cs =>
   rw [hc] at hx
   have := hw b f o cs hx
   exact hG f (by omega)
 | _ => trivial
def RI (G : Nat → Prop) (H : Heap) (v : Value) (l : List Value) : Prop :=
 (v = .slice none 0 0 ∧ l = []) ∨ (v = lostSlice ∧ l = []) ∨ ∃ b o f w cs, v = sliceA b o l.length 1 ∧ G b ∧ G f ∧ H[b]? = some (.cells f w cs) ∧ o + l.length ≤ cs.length ∧ (cs.drop o).take l.length = l
theorem RI.R {G : Nat → Prop} {H : Heap} {v : Value} {l : List Value} (h : RI G H v l) : R H v l := by
 rcases h with h | h | ⟨b, o, f, w, cs, h1, _, _, h2⟩
 ·exact .inl h
 ·exact .inr (.inl h)
 ·exact .inr (.inr ⟨b, o, f, w, cs, h1, h2⟩)
theorem RI.keep {G : Nat → Prop} {H H' : Heap} {v : Value} {l : List Value} (h : RI G H v l) (k : KeepG G H H') : RI G H' v l := by
 rcases h with h | h | ⟨b, o, f, w, cs, h1, h2, h3, hb, h4⟩
 ·exact .inl h
 ·exact .inr (.inl h)
 ·exact .inr (.inr ⟨b, o, f, w, cs, h1, h2, h3, k.2 b _ h2 hb h3, h4⟩)
theorem RI.sub {G G' : Nat → Prop} (hs : ∀ b, G b → G' b) {H : Heap} {v : Value} {l : List Value} (h : RI G H v l) : RI G' H v l := by
 rcases h with h | h | ⟨b, o, f, w, cs, h1, h2, h3, h4⟩
 ·exact .inl h
 ·exact .inr (.inl h)
 ·exact .inr (.inr ⟨b, o, f, w, cs, h1, hs _ h2, hs _ h3, h4⟩)
theorem R.RI {G : Nat → Prop} {B : Nat} {H0 H : Heap} {v : Value} {l : List Value} (h : R H0 v l) (hw : WF H0) (hB : H0.length ≤ B) (hG : ∀ b, b < B → G b) (ho : Old H0.length H0 H) : RI G H v l := by
 rcases h with h | h | ⟨b, o, f, w, cs, h1, hb, h2⟩
 ·exact .inl h
 ·exact .inr (.inl h)
 ·have := lt_of_blk hb
  have := hw b f w cs hb
  exact .inr (.inr ⟨b, o, f, w, cs, h1, hG b (by omega), hG f (by omega), by rw [ho.2 b (lt_of_blk hb)]; exact hb, h2⟩)
theorem O.RI {G : Nat → Prop} {B C : Nat} {H : Heap} {v : Value} {l : List Value} (h : O B H v l) (hw : WF H) (hC : H.length ≤ C) (hG : ∀ b, B ≤ b → b < C → G b) : RI G H v l := by
 rcases h with h | ⟨b, f, h1, h2, h3, hb⟩
 ·exact .inl h
 ·have := lt_of_blk hb
  have := hw b f true l hb
  exact .inr (.inr ⟨b, 0, f, true, l, h1, hG b h2 (by omega), hG f h3 (by omega), hb, by simp, by simp⟩)
def extG (G : Nat → Prop) (H H' : Heap) : Nat → Prop := fun b => G b ∨ (H.length ≤ b ∧ b < H'.length)
structure GOk (B : Nat) (G : Nat → Prop) (H : Heap) : Prop where
 all : ∀ b, b < B → G b
 lt : ∀ b, G b → b < H.length
 len : B ≤ H.length
theorem GOk.ext {B : Nat} {G : Nat → Prop} {H H' : Heap} (h : GOk B G H) (hl : H.length ≤ H'.length) : GOk B (extG G H H') H' :=
 ⟨fun b hb => .inl (h.all b hb), fun b hb => by rcases hb with hb | hb; have := h.lt b hb; omega; exact hb.2, Nat.le_trans h.len hl⟩
theorem GOk.grow {B : Nat} {G : Nat → Prop} {H H' : Heap} (h : GOk B G H) (hl : H.length ≤ H'.length) : GOk B G H' := ⟨h.all, fun b hb => Nat.lt_of_lt_of_le (h.lt b hb) hl, Nat.le_trans h.len hl⟩
theorem vEq_yield {L : Nat} : vEq (.func (.yield L) #[] #[]) (.func (.yield L) #[] #[]) = true := by simp [vEq, sEq, fnEq, ptrsOf]
theorem scal_yield {L : Nat} : scal (.func (.yield L) #[] #[]) = some [.func (.yield L) #[] #[]] := (rfl)
def rfBody : Code → Code
 | .rangeFunc _ _ _ b => b
 | c => c
def rfAsg : Code → Code
 | .rangeFunc _ _ b _ => b
 | c => c
structure Eats {α : Type} (call : Nat → CallF) (F : Nat) (Y : Value) (B : Nat) (S : Nat → Prop) (items : List α) (Q : (Nat → Prop) → Heap → List Value → α → Prop) (I : (Nat → Prop) → List α → Heap → Prop) : Prop where
 step : ∀ (n : Nat), F ≤ n → ∀ (G : Nat → Prop) (done : List α) (x : α) (rest : List α) (vs : List Value) (H1 : Heap), items = done ++ x :: rest → WF H1 → GOk B G H1 → I G done H1 → Q G H1 vs x →
  ∃ H2, call n Y vs H1 = some (.bool true, H2) ∧ WF H2 ∧ KeepG (fun b => ¬G b) H1 H2 ∧ (∀ b, b < B → ¬S b → H2[b]? = H1[b]?) ∧ I (extG G H1 H2) (done ++ [x]) H2
 eqv : vEq Y Y = true
 sc : scal Y = some [Y]
 keep : ∀ (G : Nat → Prop) (done : List α) (H1 H2 : Heap), WF H1 → WF H2 → GOk B G H1 → KeepG G H1 H2 → I G done H1 → I G done H2
def Feeds {α : Type} (call : Nat → CallF) (D : Nat) (f : Value) (K : Nat → Prop) (H : Heap) (items : List α) (Q : (Nat → Prop) → Heap → List Value → α → Prop) : Prop :=
 ∀ (F : Nat) (Y : Value) (S : Nat → Prop) (I : (Nat → Prop) → List α → Heap → Prop), (∀ b, K b → ¬S b) → Eats call F Y H.length S items Q I → I (fun b => b < H.length) [] H →
   ∀ n, F + D ≤ n → ∃ G' H', call n f [Y] H = some (.tuple #[], H') ∧ WF H' ∧ GOk H.length G' H' ∧ (∀ b, b < H.length → ¬S b → H'[b]? = H[b]?) ∧ I G' items H'
theorem feeds_range {α : Type} {P : Program} {call : Nat → CallF} {D F n k nt : Nat} {rd : Option Nat} {Dr : Nat → Bool} {f : Operand} {params : Array Nat} {assign body : Code} {a : Fr} {K : Nat → Prop} {H : Heap} {items : List α} {Q : (Nat → Prop) → Heap → List Value → α → Prop} {S : Nat → Prop} {I : (Nat → Prop) → List α → Heap → Prop}
  (hf : Feeds call D (ev a f) K (H ++ [.loop .ready none nt a params.toList assign body]) items Q) (hK : ∀ b, K b → ¬S b) (hS : ¬S H.length)
  (he : Eats call F (.func (.yield H.length) #[] #[]) (H.length + 1) S items Q I) (h0 : I (fun b => b < H.length + 1) [] (H ++ [.loop .ready none nt a params.toList assign body])) (hn : F + D ≤ n) (hrd : rdOk H rd = true) :
  ∃ G' H', evT P (call n) k nt rd Dr (.rangeFunc f params assign body) a H = some (.normal, a, H'.set H.length .dead) ∧ WF H' ∧ GOk (H.length + 1) G' H' ∧ (∀ b, b < H.length → ¬S b → H'[b]? = H[b]?) ∧ I G' items H' := by
 have hl : (H ++ [Blk.loop .ready none nt a params.toList assign body]).length = H.length + 1 := by simp
 have h1 := hf F (.func (.yield H.length) #[] #[]) S I hK (by rw [hl]; exact he) (by rw [hl]; exact h0) n hn
 rw [hl] at h1
 obtain ⟨G', H', e, wf, hG, hs, hi⟩ := h1
 refine ⟨G', H', ?_, wf, hG, fun b hb hns => by rw [hs b (by omega) hns, List.getElem?_append_left hb], hi⟩
 refine range_run hrd e (nt' := nt) (tm' := a) (pr' := params.toList) (ays' := assign) (bd' := body) ?_
 rw [hs H.length (by omega) hS, List.getElem?_append_right (Nat.le_refl _), Nat.sub_self]
 rfl
end Go.Abs
namespace Go.Abs
def mkF1 (f : Nat) (v : Value) (H : Heap) : Option (Value × Heap) := if isPtr v then some (.func (.func f) #[] #[v], H) else none
theorem sy_makeF1 {P : Program} {call : CallF} {a : Fr} {H : Heap} {d : Option Nat} {ty : TypeId} {pos : String} {aft : Array Edge} {g : Option (Nat × Bool)} {f : Nat} {x : Operand} : stepA P call a ⟨d, .makeFunc (.func f) #[] #[x], ty, pos, aft, g⟩ H = mkF1 f (ev a x) H := by
 show (if ((#[] : Array Operand).isEmpty && (#[x].toList.map (ev a)).all isPtr) = true then some (Value.func (.func f) #[] (#[x].map (ev a)), H) else none) = _
 unfold mkF1
 simp
theorem mkF1_ptr {f b o : Nat} {H : Heap} : mkF1 f (ptrA b o) H = some (.func (.func f) #[] #[ptrA b o], H) := (rfl)
theorem scal_fn {f : Fn} {x y : Array Value} : scal (.func f x y) = some [.func f x y] := (rfl)
def famLe (f k : Nat) : Blk → Prop
 | .cells g _ cs => g = f → cs.length ≤ k
 | _ => True
theorem trunc_le {f k : Nat} {x : Blk} (h : famLe f k x) : truncFam f k x = x := by
 cases x with
 | cells g o cs =>
   unfold truncFam
   simp only
   split
   ·rename_i e
    rw [List.take_of_length_le (h e)]
   ·rfl
 | _ => rfl
theorem famLe_ne {f k : Nat} {x : Blk} (h : ∀ g o cs, x = .cells g o cs → g ≠ f) : famLe f k x := by
 cases x with
 | cells g o cs => exact fun e => absurd e (h g o cs rfl)
 | _ => trivial
theorem own_set {H : Heap} {b f : Nat} {cs : List Value} (hw : WF H) (hb : H[b]? = some (.cells f true cs)) {i : Nat} (hi : i < cs.length) {c : Value} (hc : scal c = some [c]) :
  ∃ H', storeS (pt (sliceA b 0 cs.length 1) i) c H = some H' ∧ H'.length = H.length ∧ H'[b]? = some (.cells f true (cs.set i c)) ∧ WF H' ∧ ∀ (d : Nat) (x : Blk), H[d]? = some x → d ≠ b → famLe f i x → H'[d]? = some x := by
 refine ⟨(H.map (truncFam f i)).set b (.cells f true (cs.set i c)), ?_, by simp, ?_, ?_, ?_⟩
 ·simp only [pt, sliceA, storeS, ptrA, hc, Heap.write, hb, Nat.zero_add]
  rw [if_pos (by simp; omega)]
  simp [setList]
 ·rw [List.getElem?_set]
  simp [lt_of_blk hb]
 ·intro b' f' o' cs' hb'
  rw [List.getElem?_set] at hb'
  split at hb'
  ·rename_i e
   subst e
   split at hb'
   ·injection hb' with hb'; injection hb' with e1 _ _; subst e1; exact hw b f true cs hb
   ·cases hb'
  ·exact wf_trunc hw b' f' o' cs' hb'
 ·intro d x hx hd hf
  rw [List.getElem?_set, if_neg (by omega), List.getElem?_map, hx, Option.map_some, trunc_le hf]
theorem own_push {H : Heap} {b f : Nat} {cs : List Value} (hw : WF H) (hb : H[b]? = some (.cells f true cs)) (hl : cs.length + 1 ≤ maxA) (c : Value) :
  ∃ H', appS (sliceA b 0 cs.length 1) (sliceA H.length 0 1 1) (H ++ [.cells H.length true [c]]) = some (sliceA (H.length + 1) 0 (cs.length + 1) 1, H') ∧ H'.length = H.length + 2 ∧ H'[H.length + 1]? = some (.cells f true (cs ++ [c])) ∧ WF H' ∧ ∀ (d : Nat) (x : Blk), H[d]? = some x → famLe f cs.length x → H'[d]? = some x := by
 have hlt := lt_of_blk hb
 have hf := hw b f true cs hb
 have hb2 : (H ++ [Blk.cells H.length true [c]])[b]? = some (.cells f true cs) := by rw [List.getElem?_append_left hlt]; exact hb
 have hl2 : (H ++ [Blk.cells H.length true [c]]).length = H.length + 1 := by simp
 refine ⟨(H ++ [Blk.cells H.length true [c]]).map (truncFam f cs.length) ++ [.cells f true (cs ++ [c])], ?_, by simp, ?_, ?_, ?_⟩
 ·unfold appS
  have hr : readA (H ++ [Blk.cells H.length true [c]]) 1 (sliceA H.length 0 1 1) = some [c] := by
   simp only [readA, sliceA, Heap.cellsAt]
   rw [List.getElem?_append_right (Nat.le_refl _), Nat.sub_self]
   rfl
  rw [hr]
  simp only [sliceA, hb2, hl2]
  rw [if_neg (by omega), if_pos ⟨trivial, Nat.le_refl _, hl⟩, List.take_length]
 ·rw [List.getElem?_append_right (by simp), List.length_map, hl2, Nat.sub_self]; rfl
 ·exact (wf_trunc (hw.app (Nat.le_refl _))).app (by simp; omega)
 ·intro d x hx hle
  have hd := lt_of_blk hx
  rw [List.getElem?_append_left (by simp; omega), List.getElem?_map, List.getElem?_append_left hd, hx, Option.map_some, trunc_le hle]
theorem fresh_box {H : Heap} (hw : WF H) {x c : Value} (hc : scal c = some [c]) : storeS (ptrA H.length 0) c (H ++ [.cells H.length true [x]]) = some (H ++ [.cells H.length true [c]]) := by
 have hb : (H ++ [Blk.cells H.length true [x]])[H.length]? = some (.cells H.length true [x]) := by rw [List.getElem?_append_right (Nat.le_refl _), Nat.sub_self]; rfl
 simp only [storeS, ptrA, hc, Heap.write, hb]
 rw [if_pos (by simp)]
 have e : (H ++ [Blk.cells H.length true [x]]).map (truncFam H.length 0) = H ++ [.cells H.length true []] := by
  rw [List.map_append]
  congr 1
  ·refine List.ext_getElem? fun i => ?_
   rw [List.getElem?_map]
   cases h : H[i]? with
   | none => rfl
   | some y =>
     rw [Option.map_some, trunc_le]
     cases y with
     | cells g o cs =>
       have := hw i g o cs h
       have := lt_of_blk h
       exact fun e => by omega
     | _ => trivial
  ·simp [truncFam]
 rw [e]
 simp [setList]
theorem load_box {H : Heap} {b f : Nat} {o : Bool} {v : Value} (h : H[b]? = some (.cells f o [v])) : loadS (ptrA b 0) H = some v := by simp [loadS, ptrA, Heap.cell, h]
theorem app_at {H : Heap} {x : Blk} : (H ++ [x])[H.length]? = some x := by rw [List.getElem?_append_right (Nat.le_refl _), Nat.sub_self]; rfl
theorem app_lt {H : Heap} {x : Blk} {b : Nat} (h : b < H.length) : (H ++ [x])[b]? = H[b]? := List.getElem?_append_left h
theorem app_len {H : Heap} {x : Blk} : (H ++ [x]).length = H.length + 1 := by simp
theorem WF.loop {H : Heap} (hw : WF H) {st : LoopState} {p : Option Code} {nt : Nat} {a : Fr} {pr : List Nat} {c d : Code} : WF (H ++ [.loop st p nt a pr c d]) := by
 intro b f o cs hb
 by_cases hlt : b < H.length
 ·rw [List.getElem?_append_left hlt] at hb; exact hw b f o cs hb
 ·rw [List.getElem?_append_right (by omega)] at hb
  cases hk : b - H.length with
  | zero => rw [hk] at hb; cases hb
  | succ k => rw [hk] at hb; simp at hb
theorem WF.set {H : Heap} (hw : WF H) {L : Nat} {x : Blk} (hx : ∀ f o cs, x ≠ .cells f o cs) : WF (H.set L x) := by
 intro b f o cs hb
 rw [List.getElem?_set] at hb
 split at hb
 ·split at hb
  ·injection hb with hb; exact absurd hb (hx f o cs)
  ·cases hb
 ·exact hw b f o cs hb
theorem KeepG.set {G : Nat → Prop} {H : Heap} {L : Nat} (h : ¬G L) (x : Blk) : KeepG G H (H.set L x) := ⟨by simp, fun b y hb hy _ => by rw [List.getElem?_set, if_neg (fun e => h (by rw [e]; exact hb))]; exact hy⟩
section
variable {P : Program} {call : CallF} {ops : Array Oper} {a : Fr} {H : Heap} {Gs : List HpI} {rs : List RdI} {d : Option Nat} {op : Op} {ty : TypeId} {pos : String} {aft : Array Edge} {os : List Oper} {j : Nat}
end
end Go.Abs
namespace Go.Abs
theorem set_ne {H : Heap} {b L : Nat} {y : Blk} (h : b ≠ L) : (H.set L y)[b]? = H[b]? := by rw [List.getElem?_set, if_neg (by omega)]
theorem set_eq {H : Heap} {L : Nat} {y x : Blk} (h : H[L]? = some x) : (H.set L y)[L]? = some y := by rw [List.getElem?_set, if_pos rfl, if_pos (lt_of_blk h)]
theorem set_len {H : Heap} {L : Nat} {y : Blk} : (H.set L y).length = H.length := by simp
theorem KeepG.below {B : Nat} {G : Nat → Prop} {H H' : Heap} (h : KeepG G H H') (hw : WF H) (hG : ∀ b, b < B → G b) (hB : B ≤ H.length) {b : Nat} (hb : b < B) : H'[b]? = H[b]? := by
  have hx : H[b]? = some H[b] := List.getElem?_eq_getElem (by omega)
  rw [hx]
  refine h.2 b _ (hG b hb) hx ?_
  cases hc : H[b] with
  | cells f o cs =>
    rw [hc] at hx
    have := hw b f o cs hx
    exact hG f (by omega)
  | _ => trivial
theorem loop_nc {st : LoopState} {p : Option Code} {nt : Nat} {a : Fr} {pr : List Nat} {c d : Code} : ∀ f o cs, Blk.loop st p nt a pr c d ≠ .cells f o cs := fun _ _ _ h => by cases h
end Go.Abs
namespace Go.Abs
open Go.Sort
def unInts : List Value → Option (List Int)
  | [] => some []
  | .int .i64 z :: vs => (unInts vs).map (z :: ·)
  | _ => none
theorem unInts_eq : ∀ {vs : List Value} {zs : List Int}, unInts vs = some zs → vs = zs.map (Value.int .i64) := by
  intro vs
  induction vs with
  | nil => intro zs h; simp [unInts] at h; subst h; rfl
  | cons v vs ih =>
    intro zs h
    unfold unInts at h
    split at h
    · rename_i e; cases e
    · rename_i z vs' e
      injection e with e1 e2
      subst e1; subst e2
      cases hz : unInts vs with
      | none => rw [hz] at h; cases h
      | some ys =>
        rw [hz] at h
        simp only [Option.map_some] at h
        injection h with h
        subst h
        rw [ih hz]; rfl
    · cases h
theorem unInts_map (zs : List Int) : unInts (zs.map (Value.int .i64)) = some zs := by
  induction zs with
  | nil => rfl
  | cons z zs ih => simp [unInts, ih]
section
variable {P : Program} {m : Mp} {H : Heap} {w : World}
theorem write_sim (P : Program) {b o : Nat} {vs vs' : List Value} {H' : Heap} {l : Loc} (hR : Rel m H w) (hH : H.write b o vs = some H') (hl : m b = some l) (hv : All2 (SR m) vs vs') (hpos : 0 < vs.length) :
    ∃ C el, w.heap[l.g]? = some (.cells C el (0, 0)) ∧ l.o + o + vs.length ≤ C.size ∧ ∀ W : World, W.os = w.os → W.tape = w.tape → W.output = w.output → w.drawn ≤ W.drawn → w.heap.size ≤ W.heap.size → W.heap[l.g]? = some (.cells (setArr C (l.o + o) vs') el (0, 0)) → (∀ g, g < w.heap.size → g ≠ l.g → W.heap[g]? = w.heap[g]?) → Sim m H w m H' W := by
  obtain ⟨w1, hr, hs⟩ := Sim.write (P := P) hR hH hl hv
  have hH2 := hH
  unfold Heap.write at hH2
  split at hH2
  · rename_i fam cs hb
    split at hH2
    · rename_i hle
      obtain ⟨C, el, fr, h1, h2, h3, h4⟩ := hR.blk b _ l hb hl
      obtain rfl : fr = (0, 0) := h3 rfl
      have hlen := hv.length
      have hfit : l.o + o + vs.length ≤ C.size := by
        obtain ⟨v', a, _⟩ := h4 (o + vs.length - 1) _ (List.getElem?_eq_getElem (by omega))
        rcases Nat.lt_or_ge (l.o + (o + vs.length - 1)) C.size with hlt | hge
        · omega
        · rw [Array.getElem?_eq_none hge] at a; cases a
      have hone : ∀ v ∈ vs', one v := by
        intro v hv'
        obtain ⟨i, hi, rfl⟩ := List.getElem_of_mem hv'
        obtain ⟨y, _, hy⟩ := hv.getR i _ (List.getElem?_eq_getElem hi)
        exact hy.one
      obtain ⟨w2, hr2, hw⟩ := run_storeCells P l.g el vs' (l.o + o) 0 C w h1 (by omega) hone
      rw [hr] at hr2
      injection hr2 with _ e2
      subst e2
      simp only [Nat.add_zero] at hw
      refine ⟨C, el, h1, hfit, fun W k1 k2 k3 k4 k5 k6 k7 => ?_⟩
      have hagree : ∀ g, g < w1.heap.size → W.heap[g]? = w1.heap[g]? := by
        intro g hg
        rw [hw.size] at hg
        by_cases e : g = l.g
        · subst e; rw [k6, hw.here]
        · rw [k7 g hg e, hw.there g e]
      refine ⟨.refl m, hs.rel.world hagree, ⟨k1, k2, k3, k5, fun g hg hn => k7 g hg fun e => hn ⟨b, _, l, hb, hl, rfl, e.symm⟩, k4⟩, hs.fresh, hs.grow, fun c k hc => .inl ⟨c, k, hc, rfl⟩⟩
    · cases hH2
  · cases hH2
theorem putCells_id (C : Array Value) (o : Nat) (vs : List Value) (h : o + vs.length ≤ C.size) : putCells id o vs.toArray C = setArr C o vs := by
  apply Array.ext_getElem?
  intro k
  rw [setArr_get _ _ _ _ h]
  simp only [putCells, Array.getElem?_mapIdx, List.size_toArray]
  by_cases hk : o ≤ k ∧ k < o + vs.length
  · rw [if_pos hk, Array.getElem?_eq_getElem (by omega)]
    have hi : k - o < vs.length := by omega
    rw [List.getElem?_eq_getElem hi]
    simp [hk, getElem!_pos vs.toArray (k - o) (by simpa using hi)]
  · rw [if_neg hk]
    cases hc : C[k]? with
    | none => rfl
    | some v => simp [hk]
end
abbrev Key := List Int × List Int
def RowW (W : World) (v : Value) (zs : List Int) : Prop :=
  ∃ g o c C el fr, v = .slice (some ⟨g, o, none⟩) zs.length c ∧ zs.length ≤ c ∧ W.heap[g]? = some (.cells C el fr) ∧ o + c ≤ C.size ∧ ∀ i z, zs[i]? = some z → C[o + i]? = some (.int .i64 z)
def cmpHeap (r u r' u' : List Int) : Heap := [.cells 0 false (r.map (.int .i64)), .cells 1 false (u.map (.int .i64)), .cells 2 false (r'.map (.int .i64)), .cells 3 false (u'.map (.int .i64))]
def cmpArgs (r u r' u' : List Int) : List Value := [.agg #[.slice (some ⟨0, 0, none⟩) r.length 1, .slice (some ⟨1, 0, none⟩) u.length 1], .agg #[.slice (some ⟨2, 0, none⟩) r'.length 1, .slice (some ⟨3, 0, none⟩) u'.length 1]]
def CmpSaysK (P : Program) (g : Nat) (cmp : Key → Key → Int) : Prop := ∀ r u r' u' : List Int, r.length ≤ 100 → u.length ≤ 100 → r'.length ≤ 100 → u'.length ≤ 100 →
  ∃ call n H', CallOK P call ∧ CallGrow call ∧ evBody P call n (.func (.func g) #[] #[]) (cmpArgs r u r' u') (cmpHeap r u r' u') = some (.int .i64 (cmp (r, u) (r', u')), H')
theorem cmp_calls {P : Program} (hmix : P.follows .mixedOrders = true) {g : Nat} {cmp : Key → Key → Int} (hC : CmpSaysK P g cmp) {W : World} {v1 v2 v3 v4 : Value} {r u r' u' : List Int} (h1 : RowW W v1 r) (h2 : RowW W v2 u) (h3 : RowW W v3 r') (h4 : RowW W v4 u')
    (l1 : r.length ≤ 100) (l2 : u.length ≤ 100) (l3 : r'.length ≤ 100) (l4 : u'.length ≤ 100) :
    Calls P g #[.agg #[v1, v2], .agg #[v3, v4]] W fun e w' => e = .returned (.int .i64 (cmp (r, u) (r', u'))) ∧ ∃ q os', w' = grow (W.drewN q) os' := by
  obtain ⟨call, n, H', hcall, hg, hev⟩ := hC r u r' u' l1 l2 l3 l4
  obtain ⟨g1, o1, c1, C1, el1, fr1, rfl, a1, b1, d1, f1⟩ := h1
  obtain ⟨g2, o2, c2, C2, el2, fr2, rfl, a2, b2, d2, f2⟩ := h2
  obtain ⟨g3, o3, c3, C3, el3, fr3, rfl, a3, b3, d3, f3⟩ := h3
  obtain ⟨g4, o4, c4, C4, el4, fr4, rfl, a4, b4, d4, f4⟩ := h4
  let ms : Mp := fun j => [(⟨g1, o1, C1.size⟩ : Loc), ⟨g2, o2, C2.size⟩, ⟨g3, o3, C3.size⟩, ⟨g4, o4, C4.size⟩][j]?
  have lt : ∀ {g : Nat} {C : Array Value} {el : TypeId} {fr : Nat × Nat}, W.heap[g]? = some (.cells C el fr) → g < W.heap.size := fun h => (Array.getElem?_eq_some_iff.1 h).1
  have br : ∀ {g o : Nat} {C : Array Value} {el : TypeId} {fr : Nat × Nat} {zs : List Int} {f : Nat}, W.heap[g]? = some (.cells C el fr) → (∀ i z, zs[i]? = some z → C[o + i]? = some (.int .i64 z)) → BR ms W ⟨g, o, C.size⟩ (.cells f false (zs.map (.int .i64))) := by
    intro g o C el fr zs f h hz
    refine ⟨C, el, fr, h, rfl, fun e => (Bool.false_ne_true e).elim, fun i v hv => ?_⟩
    rw [List.getElem?_map] at hv
    cases hzi : zs[i]? with
    | none => rw [hzi] at hv; cases hv
    | some z => rw [hzi] at hv; cases hv; exact ⟨_, hz i z hzi, .int _ _⟩
  have hR : Rel ms (cmpHeap r u r' u') W := {
    len := fun b l hb => by have := lt_of_get hb; simpa [cmpHeap] using this
    has := fun b x hx _ => by
      have := lt_of_get hx
      simp [cmpHeap] at this
      exact ⟨_, List.getElem?_eq_getElem (by simpa using this)⟩
    bnd := fun b l hb => by
      match b, hb with
      | 0, hb => injection hb with hb; subst hb; exact lt b1
      | 1, hb => injection hb with hb; subst hb; exact lt b2
      | 2, hb => injection hb with hb; subst hb; exact lt b3
      | 3, hb => injection hb with hb; subst hb; exact lt b4
      | b + 4, hb => simp [ms] at hb
    blk := fun b x l hx hb => by
      match b, hx, hb with
      | 0, hx, hb => injection hb with hb; injection hx with hx; subst hb; subst hx; exact br b1 f1
      | 1, hx, hb => injection hb with hb; injection hx with hx; subst hb; subst hx; exact br b2 f2
      | 2, hx, hb => injection hb with hb; injection hx with hx; subst hb; subst hx; exact br b3 f3
      | 3, hx, hb => injection hb with hb; injection hx with hx; subst hb; subst hx; exact br b4 f4
      | b + 4, hx, hb => simp [ms] at hb
    sep := fun b c x y l k _ hx _ _ _ ho => by
      match b, hx with
      | 0, hx => injection hx with hx; subst hx; cases ho
      | 1, hx => injection hx with hx; subst hx; cases ho
      | 2, hx => injection hx with hx; subst hx; cases ho
      | 3, hx => injection hx with hx; subst hx; cases ho
      | b + 4, hx => simp [cmpHeap] at hx }
  have hno : ∀ gg, ¬ Owned ms (cmpHeap r u r' u') gg := by
    rintro gg ⟨b, x, l, hx, _, ho, _⟩
    match b, hx with
    | 0, hx => injection hx with hx; subst hx; cases ho
    | 1, hx => injection hx with hx; subst hx; cases ho
    | 2, hx => injection hx with hx; subst hx; cases ho
    | 3, hx => injection hx with hx; subst hx; cases ho
    | b + 4, hx => simp [cmpHeap] at hx
  have sl : ∀ {j g o c : Nat} {C : Array Value} {zs : List Int}, ms j = some ⟨g, o, C.size⟩ → zs.length ≤ c → o + c ≤ C.size → SR ms (.slice (some ⟨j, 0, none⟩) zs.length 1) (.slice (some ⟨g, o, none⟩) zs.length c) := fun {j g o c C zs} hj h1 h2 => .slice j 0 _ 1 c ⟨g, o, C.size⟩ hj h1 (by simpa using h2)
  have hargs : All2 (VR ms) (cmpArgs r u r' u') (#[.agg #[.slice (some ⟨g1, o1, none⟩) r.length c1, .slice (some ⟨g2, o2, none⟩) u.length c2], .agg #[.slice (some ⟨g3, o3, none⟩) r'.length c3, .slice (some ⟨g4, o4, none⟩) u'.length c4]] : Array Value).toList :=
    .cons (.a (.agg (.cons (sl (j := 0) rfl a1 d1) (.cons (sl (j := 1) rfl a2 d2) .nil)))) (.cons (.a (.agg (.cons (sl (j := 2) rfl a3 d3) (.cons (sl (j := 3) rfl a4 d4) .nil)))) .nil)
  refine (body_calls hmix hcall hg hev hR hargs).mono ?_
  rintro e w2 ⟨m', v', rfl, hs, hv⟩
  obtain rfl := hv.plain rfl
  refine ⟨rfl, w2.drawn - W.drawn, w2.heap.extract W.heap.size w2.heap.size, ?_⟩
  have hheap : w2.heap = W.heap ++ w2.heap.extract W.heap.size w2.heap.size := by
    apply Array.ext_getElem?
    intro k
    have hsz := hs.keep.size
    by_cases hk : k < W.heap.size
    · rw [Array.getElem?_append_left hk, hs.keep.block k hk (hno k)]
    · rw [Array.getElem?_append_right (by omega), Array.getElem?_extract]
      by_cases hk2 : k < w2.heap.size
      · rw [if_pos (by omega)]; congr 1; omega
      · rw [if_neg (by omega), Array.getElem?_eq_none (by omega)]
  have hd := hs.keep.drawn
  have h1 := hs.keep.os
  have h2 := hs.keep.tape
  have h3 := hs.keep.output
  cases w2 with
  | mk heap tape drawn os output =>
    cases W with
    | mk heap0 tape0 drawn0 os0 output0 =>
      simp only [grow, World.drewN] at *
      subst h1; subst h2; subst h3
      rw [← hheap]
      congr 1
      omega
end Go.Abs
namespace Go.Abs
open Go.Sort Go.Proofs
def SortSaysK (P : Program) (F g : Nat) : Prop := ∀ (N : Nat) (enc : Fin (N + 1) → List Value) (cf : Fin (N + 1) → Fin (N + 1) → Int) (blk off cap : Nat) (w : World), (∀ i, (enc i).length = 2) → (∀ i, ∀ v ∈ enc i, v.oneCell' = true) →
  SWO (ltOf cf) → (∀ x y, ltOf cf x y = false → ltOf cf y x = false → x = y) → CmpLays P g #[] enc 2 cf blk off (N + 1) w → HoldsK enc 2 w blk off (List.finRange (N + 1)).toArray → blk < w.heap.size → N < 1000000 →
  Calls P F #[.slice (some ⟨blk, off, none⟩) (N + 1) cap, .func (.func g) #[] #[]] w fun e w' => e = .returned (.tuple #[]) ∧ ∃ n os, w' = sortWorldK enc 2 w blk off n ((List.finRange (N + 1)).mergeSort fun x y => !(ltOf cf) y x).toArray os
structure CmpOrd (cmp : Key → Key → Int) : Prop where
  irrefl : ∀ x, ¬ cmp x x < 0
  trans : ∀ x y z, cmp x y < 0 → cmp y z < 0 → cmp x z < 0
  ntrans : ∀ x y z, ¬ cmp x y < 0 → ¬ cmp y z < 0 → ¬ cmp x z < 0
  total : ∀ x y, ¬ cmp x y < 0 → ¬ cmp y x < 0 → x = y
def rowOf (H : Heap) (fam : Nat) (v : Value) : Option (List Int) := match v with
  | .slice (some ⟨b, o, none⟩) n 1 => match H[b]? with
    | some (.cells f _ cs) => if f ≠ fam ∧ o + n ≤ cs.length ∧ n ≤ 100 then unInts ((cs.drop o).take n) else none
    | _ => none
  | _ => none
def pairsOf : List Value → Option (List (Value × Value))
  | [] => some []
  | [_] => none
  | a :: b :: r => (pairsOf r).map ((a, b) :: ·)
def keyOf (H : Heap) (fam : Nat) (p : Value × Value) : Option Key := match rowOf H fam p.1, rowOf H fam p.2 with
  | some r, some u => some (r, u)
  | _, _ => none
def flat2 (ps : List (Value × Value)) : List Value := ps.flatMap fun p => [p.1, p.2]
def sortZ (cmp : Key → Key → Int) (ks : List Key) (ps : List (Value × Value)) : List (Value × Value) := ((ks.zip ps).mergeSort fun x y => !decide (cmp y.1 x.1 < 0)).map (·.2)
theorem pairsOf_flat : ∀ {vs : List Value} {ps : List (Value × Value)}, pairsOf vs = some ps → vs = flat2 ps
  | [], ps, h => by simp [pairsOf] at h; subst h; rfl
  | [_], ps, h => by simp [pairsOf] at h
  | a :: b :: r, ps, h => by
    simp only [pairsOf] at h
    cases hr : pairsOf r with
    | none => rw [hr] at h; cases h
    | some qs =>
      rw [hr] at h
      simp only [Option.map_some] at h
      injection h with h
      subst h
      rw [pairsOf_flat hr]; rfl
theorem flat2_len (ps : List (Value × Value)) : (flat2 ps).length = ps.length * 2 := by
  induction ps with
  | nil => rfl
  | cons p ps ih => unfold flat2 at *; simp [ih]; omega
theorem flatMap_get {α : Type} (enc : α → List Value) (h2 : ∀ x, (enc x).length = 2) : ∀ (d : List α) (t : Nat) (x : α), d[t / 2]? = some x → (d.flatMap enc)[t]? = (enc x)[t % 2]? := by
  intro d
  induction d with
  | nil => intro t x h; simp at h
  | cons y d ih =>
    intro t x h
    rw [List.flatMap_cons]
    by_cases ht : t < 2
    · rw [List.getElem?_append_left (by rw [h2]; exact ht)]
      have e : t / 2 = 0 := by omega
      rw [e] at h
      simp at h
      subst h
      rw [Nat.mod_eq_of_lt ht]
    · rw [List.getElem?_append_right (by rw [h2]; omega), h2]
      have e : t / 2 = (t - 2) / 2 + 1 := by omega
      rw [e] at h
      rw [ih (t - 2) x (by simpa using h)]
      congr 1
      omega
theorem flatMap_len {α : Type} (enc : α → List Value) (h2 : ∀ x, (enc x).length = 2) (d : List α) : (d.flatMap enc).length = d.length * 2 := by
  induction d with
  | nil => rfl
  | cons y d ih => rw [List.flatMap_cons, List.length_append, h2, ih, List.length_cons]; omega
theorem flatK_flat {α : Type} [Inhabited α] (enc : α → List Value) (h2 : ∀ x, (enc x).length = 2) (d : List α) : flatK enc 2 d.toArray = (d.flatMap enc).toArray := by
  apply Array.ext_getElem?
  intro t
  by_cases ht : t < d.length * 2
  · have hx : d[t / 2]? = some d[t / 2] := List.getElem?_eq_getElem (by omega)
    rw [show ((d.flatMap enc).toArray)[t]? = (d.flatMap enc)[t]? from by simp, flatMap_get enc h2 d t _ hx]
    have hsz : t < (flatK enc 2 d.toArray).size := by simpa using ht
    have hlt : t % 2 < (enc d[t / 2]).length := by rw [h2]; omega
    rw [Array.getElem?_eq_getElem hsz, List.getElem?_eq_getElem hlt]
    simp only [flatK, Array.getElem_map, Array.getElem_range]
    have e1 : d.toArray[t / 2]! = d[t / 2] := by rw [getElem!_pos d.toArray (t / 2) (by simp; omega)]; simp
    rw [e1, getElem!_pos (enc d[t / 2]) (t % 2) hlt]
  · rw [Array.getElem?_eq_none (by simpa using ht), Array.getElem?_eq_none (by rw [List.size_toArray, flatMap_len enc h2]; omega)]
open Classical in
/-- The base call: F at an own row of pairs of lists and g. -/
noncomputable def sortKC (F g : Nat) (cmp : Key → Key → Int) : CallF := fun fv args H => match fv, args with
  | .func (.func f) fs cap, [.slice (some ⟨b, o, none⟩) n e, .func (.func g') fs' cap'] =>
    if f = F ∧ g' = g ∧ e = 2 ∧ 0 < n ∧ n < 1000000 ∧ (fs.isEmpty && cap.isEmpty && fs'.isEmpty && cap'.isEmpty) = true then match H[b]? with
      | some (.cells fam true cs) => if o + n * 2 ≤ cs.length then match pairsOf ((cs.drop o).take (n * 2)) with
        | some ps => match mapO (keyOf H fam) ps with
          | some ks => if ks.Nodup then (H.write b o (flat2 (sortZ cmp ks ps))).map fun H' => (.tuple #[], H') else none
          | none => none
        | none => none
        else none
      | _ => none
    else none
  | _, _ => none
theorem mapO_getG {α β : Type} {f : α → Option β} : ∀ {l : List α} {l2 : List β}, mapO f l = some l2 → l2.length = l.length ∧ ∀ (i : Nat) (x : α), l[i]? = some x → ∃ y, l2[i]? = some y ∧ f x = some y := by
  intro l
  induction l with
  | nil => intro l2 h; cases h; exact ⟨rfl, fun i y h => by simp at h⟩
  | cons x xs ih =>
    intro l2 h
    unfold mapO at h
    split at h
    case h_2 => cases h
    rename_i y ys h1 h2
    cases h
    obtain ⟨e1, e2⟩ := ih h2
    refine ⟨by simp [e1], fun i z hz => ?_⟩
    cases i with
    | zero => simp at hz; subst hz; exact ⟨y, rfl, h1⟩
    | succ i => simpa using e2 i z (by simpa using hz)
section
variable {P : Program} {m : Mp} {H : Heap} {w : World}
theorem SR.one' {v v' : Value} (h : SR m v v') : v'.oneCell' = true := by cases h <;> rfl
theorem rowOf_world (hR : Rel m H w) {fam b : Nat} {cs0 : List Value} {l : Loc} (hb : H[b]? = some (.cells fam true cs0)) (hl : m b = some l) {v v' : Value} {zs : List Int} (h : rowOf H fam v = some zs) (hv : SR m v v') {W : World} (hW : ∀ g, g < w.heap.size → g ≠ l.g → W.heap[g]? = w.heap[g]?) : RowW W v' zs ∧ zs.length ≤ 100 := by
  unfold rowOf at h
  split at h
  case h_2 => cases h
  rename_i b1 o1 n1
  split at h
  case h_2 => cases h
  rename_i f own cs hb1
  split at h
  case isFalse => cases h
  rename_i hc
  obtain ⟨hf, hle, hn⟩ := hc
  have hz := unInts_eq h
  have hlen : zs.length = n1 := by
    have := congrArg List.length hz
    rw [List.length_take, List.length_drop, List.length_map] at this
    omega
  cases hv with
  | slice _ _ _ _ c l1 hl1 h1 h2 =>
    obtain ⟨C, el, fr, k1, k2, k3, k4⟩ := hR.blk b1 _ l1 hb1 hl1
    have hne : l1.g ≠ l.g := by
      intro e
      have hbb : b ≠ b1 := fun e' => by
        rw [← e', hb] at hb1
        injection hb1 with hb1
        injection hb1 with e1 _ _
        exact hf e1.symm
      have := (hR.sep b b1 _ _ l l1 hbb hb hb1 hl hl1 rfl rfl e.symm).1
      cases own with
      | true => exact hf this.symm
      | false => exact this
    have hlt : l1.g < w.heap.size := (Array.getElem?_eq_some_iff.1 k1).1
    refine ⟨⟨l1.g, l1.o + o1, c, C, el, fr, by rw [hlen], by rw [hlen]; exact h1, (hW _ hlt hne).trans k1, by rw [k2]; simpa using h2, fun i z hi => ?_⟩, by omega⟩
    have hiz : i < n1 := by have := (List.getElem?_eq_some_iff.1 hi).1; omega
    have hx : cs[o1 + i]? = some (Value.int .i64 z) := by
      have h3 : ((cs.drop o1).take n1)[i]? = some (Value.int .i64 z) := by rw [hz, List.getElem?_map, hi]; rfl
      rw [List.getElem?_take, if_pos hiz, List.getElem?_drop] at h3
      exact h3
    obtain ⟨v', a1, a2⟩ := k4 _ _ hx
    cases a2
    rw [Nat.add_assoc]; exact a1
theorem sortKC_ok (hmix : P.follows .mixedOrders = true) {F g : Nat} {cmp : Key → Key → Int} (hent : ∀ args w, (callFunc F args).run P w = .ok (.enter F args) w) (hS : SortSaysK P F g) (hC : CmpSaysK P g cmp) (hO : CmpOrd cmp) : CallOK P (sortKC F g cmp) := by
  intro fv args H v H' h m w fv' args' hR hfv hargs
  unfold sortKC at h
  split at h
  case h_2 => cases h
  rename_i f fs0 cap0 b o n e g' fs1 cap1
  split at h
  case isFalse => cases h
  rename_i hc
  obtain ⟨rfl, rfl, rfl, hn0, hn, hem⟩ := hc
  simp only [Bool.and_eq_true, Array.isEmpty_iff] at hem
  obtain ⟨⟨⟨rfl, rfl⟩, rfl⟩, rfl⟩ := hem
  split at h
  case h_2 => cases h
  rename_i fam cs hb
  split at h
  case isFalse => cases h
  rename_i hle
  split at h
  case h_2 => cases h
  rename_i ps hps
  split at h
  case h_2 => cases h
  rename_i ks hks
  split at h
  case isFalse => cases h
  rename_i hnd
  cases hw : H.write b o (flat2 (sortZ cmp ks ps)) with
  | none => rw [hw] at h; cases h
  | some H1 =>
    rw [hw] at h
    simp only [Option.map_some] at h
    injection h with h
    injection h with h1 h2
    subst h1; subst h2
    obtain rfl : fv' = .func (.func f) #[] #[] := by
      cases hfv with
      | a h => cases h with
        | s h => cases h with
          | func _ _ cap' hc =>
            have : cap' = #[] := by cases cap' with | mk l => cases hc; rfl
            rw [this]
    have hargs2 : ∃ l c, m b = some l ∧ args' = #[.slice (some ⟨l.g, l.o + o, none⟩) n c, .func (.func g') #[] #[]] := by
      cases args' with
      | mk l0 =>
        cases hargs with
        | cons ha hb =>
          cases hb with
          | cons hb hc =>
            cases hc
            cases ha with
            | a ha => cases ha with
              | s ha => cases ha with
                | slice _ _ _ _ c l hl _ _ =>
                  refine ⟨l, c, hl, ?_⟩
                  cases hb with
                  | a hb => cases hb with
                    | s hb => cases hb with
                      | func _ _ cap' hc =>
                        have : cap' = #[] := by cases cap' with | mk l => cases hc; rfl
                        rw [this]
    obtain ⟨l, c, hl, rfl⟩ := hargs2
    have hflat := pairsOf_flat hps
    have hpl : ps.length = n := by
      have := congrArg List.length hflat
      rw [List.length_take, List.length_drop, flat2_len] at this
      omega
    obtain ⟨hkl, hkg⟩ := mapO_getG hks
    obtain ⟨N, rfl⟩ : ∃ N, n = N + 1 := ⟨n - 1, by omega⟩
    obtain ⟨C, el, fr, k1, k2, k3, k4⟩ := hR.blk b _ l hb hl
    obtain rfl : fr = (0, 0) := k3 rfl
    -- the world's cells
    have cell : ∀ t, t < (N + 1) * 2 → ∃ v v', (flat2 ps)[t]? = some v ∧ C[l.o + o + t]? = some v' ∧ SR m v v' := by
      intro t ht
      have h1 : (flat2 ps)[t]? = cs[o + t]? := by rw [← hflat, List.getElem?_take, if_pos ht, List.getElem?_drop]
      have h2 : cs[o + t]? = some cs[o + t] := List.getElem?_eq_getElem (by omega)
      obtain ⟨v', a1, a2⟩ := k4 _ _ h2
      exact ⟨_, v', h1.trans h2, by rw [Nat.add_assoc]; exact a1, a2⟩
    let enc : Fin (N + 1) → List Value := fun i => [(C[l.o + o + 2 * i.1]?).getD undef, (C[l.o + o + (2 * i.1 + 1)]?).getD undef]
    let abs : Fin (N + 1) → List Value := fun i => [(ps.getD i.1 (undef, undef)).1, (ps.getD i.1 (undef, undef)).2]
    have flatI : ∀ (i : Nat), i < N + 1 → (flat2 ps)[2 * i]? = some (ps.getD i (undef, undef)).1 ∧ (flat2 ps)[2 * i + 1]? = some (ps.getD i (undef, undef)).2 := by
      intro i hi
      have hp : ps[i]? = some ps[i] := List.getElem?_eq_getElem (by omega)
      have e : ps.getD i (undef, undef) = ps[i] := by rw [List.getD_eq_getElem?_getD, hp]; rfl
      constructor
      · have := flatMap_get (fun p : Value × Value => [p.1, p.2]) (fun _ => rfl) ps (2 * i) ps[i] (by rw [show 2 * i / 2 = i from by omega]; exact hp)
        rw [show 2 * i % 2 = 0 from by omega] at this
        rw [e]; exact this
      · have := flatMap_get (fun p : Value × Value => [p.1, p.2]) (fun _ => rfl) ps (2 * i + 1) ps[i] (by rw [show (2 * i + 1) / 2 = i from by omega]; exact hp)
        rw [show (2 * i + 1) % 2 = 1 from by omega] at this
        rw [e]; exact this
    have encR : ∀ i : Fin (N + 1), All2 (SR m) (abs i) (enc i) := by
      intro i
      obtain ⟨f1, f2⟩ := flatI i.1 i.2
      obtain ⟨v, v', a1, a2, a3⟩ := cell (2 * i.1) (by omega)
      obtain ⟨u, u', b1, b2, b3⟩ := cell (2 * i.1 + 1) (by omega)
      rw [f1] at a1; injection a1 with a1
      rw [f2] at b1; injection b1 with b1
      refine .cons ?_ (.cons ?_ .nil)
      · rw [a2, a1]; exact a3
      · rw [b2, b1]; exact b3
    have enc2 : ∀ i, (enc i).length = 2 := fun _ => rfl
    have enc1 : ∀ i, ∀ v ∈ enc i, v.oneCell' = true := by
      intro i v hv
      obtain ⟨j, hj, rfl⟩ := List.getElem_of_mem hv
      obtain ⟨x, _, hx⟩ := (encR i).getR j _ (List.getElem?_eq_getElem hj)
      exact hx.one'
    have keyI : ∀ i : Fin (N + 1), ∃ r u, ks[i.1]? = some (r, u) ∧ rowOf H fam (ps.getD i.1 (undef, undef)).1 = some r ∧ rowOf H fam (ps.getD i.1 (undef, undef)).2 = some u := by
      intro i
      have hp : ps[i.1]? = some (ps.getD i.1 (undef, undef)) := by rw [List.getD_eq_getElem?_getD, List.getElem?_eq_getElem (by omega)]; rfl
      obtain ⟨y, y1, y2⟩ := hkg i.1 _ hp
      unfold keyOf at y2
      split at y2
      · rename_i r u h1 h2
        injection y2 with y2
        subst y2
        exact ⟨r, u, y1, h1, h2⟩
      · cases y2
    let kf : Fin (N + 1) → Key := fun i => ks.getD i.1 ([], [])
    let cf : Fin (N + 1) → Fin (N + 1) → Int := fun i j => cmp (kf i) (kf j)
    have hswo : SWO (ltOf cf) := ⟨fun x => by simpa [ltOf, cf] using hO.irrefl (kf x), fun x y z h1 h2 => by simp only [ltOf, decide_eq_true_eq, cf] at *; exact hO.trans _ _ _ h1 h2, fun x y z h1 h2 => by simp only [ltOf, decide_eq_false_iff_not, cf] at *; exact hO.ntrans _ _ _ h1 h2⟩
    have hT : ∀ x y, ltOf cf x y = false → ltOf cf y x = false → x = y := by
      intro x y h1 h2
      simp only [ltOf, decide_eq_false_iff_not, cf] at h1 h2
      have := hO.total _ _ h1 h2
      simp only [kf] at this
      have hx : x.1 < ks.length := by omega
      have hy : y.1 < ks.length := by omega
      rw [List.getD_eq_getElem?_getD, List.getD_eq_getElem?_getD, List.getElem?_eq_getElem hx, List.getElem?_eq_getElem hy] at this
      exact Fin.ext ((List.getElem_inj hnd).1 this)
    have hblk : l.g < w.heap.size := (Array.getElem?_eq_some_iff.1 k1).1
    have wrld : ∀ (mm : Nat) (os : Array Obj) (dk : Array (Fin (N + 1))), ∀ gg, gg < w.heap.size → gg ≠ l.g → (sortWorldK enc 2 w l.g (l.o + o) mm dk os).heap[gg]? = w.heap[gg]? := by
      intro mm os dk gg h1 h2
      show ((w.heap.modify l.g _) ++ os)[gg]? = _
      rw [Array.getElem?_append_left (by simpa using h1), Array.getElem?_modify, if_neg (Ne.symm h2)]
    have hcmp : CmpLays P g' #[] enc 2 cf l.g (l.o + o) (N + 1) w := by
      intro mm os dk _ x y
      obtain ⟨r, u, hk, hr, hu⟩ := keyI x
      obtain ⟨r', u', hk', hr', hu'⟩ := keyI y
      have ex : kf x = (r, u) := by simp only [kf]; rw [List.getD_eq_getElem?_getD, hk]; rfl
      have ey : kf y = (r', u') := by simp only [kf]; rw [List.getD_eq_getElem?_getD, hk']; rfl
      have sx := encR x
      have sy := encR y
      simp only [abs, enc] at sx sy
      cases sx with
      | cons x1 sx => cases sx with
        | cons x2 _ => cases sy with
          | cons y1 sy => cases sy with
            | cons y2 _ =>
              obtain ⟨w1, z1⟩ := rowOf_world hR hb hl hr x1 (wrld mm os dk)
              obtain ⟨w2, z2⟩ := rowOf_world hR hb hl hu x2 (wrld mm os dk)
              obtain ⟨w3, z3⟩ := rowOf_world hR hb hl hr' y1 (wrld mm os dk)
              obtain ⟨w4, z4⟩ := rowOf_world hR hb hl hu' y2 (wrld mm os dk)
              have := cmp_calls hmix hC w1 w2 w3 w4 z1 z2 z3 z4
              show Calls P g' _ _ fun e w' => e = .returned (.int .i64 (cmp (kf x) (kf y))) ∧ _
              rw [ex, ey]
              exact this
    have hhold : HoldsK enc 2 w l.g (l.o + o) (List.finRange (N + 1)).toArray := by
      intro t ht
      rw [flatK_flat enc enc2] at ht ⊢
      have ht : t < (N + 1) * 2 := by
        rw [List.size_toArray, flatMap_len enc enc2, List.length_finRange] at ht; exact ht
      have hx : (List.finRange (N + 1))[t / 2]? = some ⟨t / 2, by omega⟩ := by
        rw [List.getElem?_eq_getElem (by rw [List.length_finRange]; omega)]; simp
      have hget := flatMap_get enc enc2 _ t _ hx
      obtain ⟨v, v', a1, a2, a3⟩ := cell t ht
      have hval : ((List.finRange (N + 1)).flatMap enc)[t]? = some v' := by
        rw [hget]
        simp only [enc]
        rcases Nat.mod_two_eq_zero_or_one t with e | e
        · rw [e, List.getElem?_cons_zero, show 2 * (t / 2) = t from by omega, a2]; rfl
        · rw [e, List.getElem?_cons_succ, List.getElem?_cons_zero, show 2 * (t / 2) + 1 = t from by omega, a2]; rfl
      have hbang : ((List.finRange (N + 1)).flatMap enc).toArray[t]! = v' := by
        have hlt := (List.getElem?_eq_some_iff.1 hval).1
        rw [getElem!_pos _ _ (by simpa using hlt)]
        rw [List.getElem_toArray]
        exact (List.getElem?_eq_some_iff.1 hval).2
      rw [hbang]
      refine ⟨?_, by simp [World.frozen?, k1]⟩
      simp only [World.cell?, k1]
      exact a2
    have hcalls := hS N enc cf l.g (l.o + o) c w enc2 enc1 hswo hT hcmp hhold hblk (by omega)
    -- the sorted row
    let srt := (List.finRange (N + 1)).mergeSort fun x y => !(ltOf cf) y x
    have hzip : ks.zip ps = (List.finRange (N + 1)).map fun i => (kf i, ps.getD i.1 (undef, undef)) := by
      apply List.ext_getElem?
      intro i
      rw [List.getElem?_map]
      by_cases hi : i < N + 1
      · rw [List.getElem?_eq_getElem (by rw [List.length_zip]; omega), List.getElem_zip, List.getElem?_eq_getElem (by rw [List.length_finRange]; exact hi)]
        simp only [List.getElem_finRange, Option.map_some, Fin.cast_mk, kf]
        rw [List.getD_eq_getElem?_getD, List.getD_eq_getElem?_getD, List.getElem?_eq_getElem (by omega : i < ks.length), List.getElem?_eq_getElem (by omega : i < ps.length)]
        rfl
      · rw [List.getElem?_eq_none (by rw [List.length_zip]; omega), List.getElem?_eq_none (by rw [List.length_finRange]; omega)]
        rfl
    have hsort : sortZ cmp ks ps = srt.map fun i => ps.getD i.1 (undef, undef) := by
      unfold sortZ
      rw [hzip]
      have := List.map_mergeSort (r := fun x y => !(ltOf cf) y x) (s := fun x y : Key × (Value × Value) => !decide (cmp y.1 x.1 < 0)) (f := fun i : Fin (N + 1) => (kf i, ps.getD i.1 (undef, undef))) (l := List.finRange (N + 1)) (fun a _ b _ => rfl)
      rw [← this, List.map_map]
      rfl
    have hfl : flat2 (sortZ cmp ks ps) = srt.flatMap abs := by
      rw [hsort]
      unfold flat2
      rw [List.flatMap_map]
    have hall : All2 (SR m) (flat2 (sortZ cmp ks ps)) (srt.flatMap enc) := by
      rw [hfl]
      have : ∀ d : List (Fin (N + 1)), All2 (SR m) (d.flatMap abs) (d.flatMap enc) := by
        intro d
        induction d with
        | nil => exact .nil
        | cons i d ih => exact (encR i).append ih
      exact this srt
    have hlen : (flat2 (sortZ cmp ks ps)).length = (N + 1) * 2 := by
      rw [hfl, flatMap_len abs (fun _ => rfl)]
      simp only [srt, List.length_mergeSort, List.length_finRange]
    obtain ⟨C', el', e1, hfit, hsim⟩ := write_sim P hR hw hl hall (by omega)
    rw [k1] at e1
    injection e1 with e1
    injection e1 with e1 e2 _
    subst e1; subst e2
    refine ⟨.enter f #[.slice (some ⟨l.g, l.o + o, none⟩) (N + 1) c, .func (.func g') #[] #[]], Frame.enter P f #[.slice (some ⟨l.g, l.o + o, none⟩) (N + 1) c, .func (.func g') #[] #[]] .normal, ?_, .enter _ _, fun fr cs' => ?_⟩
    · have := hent #[.slice (some ⟨l.g, l.o + o, none⟩) (N + 1) c, .func (.func g') #[] #[]] w
      simpa [Deferred.ofValue, invoke] using this
    · obtain ⟨e, w2, fr2, ⟨rfl, k, os, rfl⟩, q1, _, q2⟩ := hcalls (fr :: cs')
      refine ⟨m, _, .tuple #[], hsim (sortWorldK enc 2 w l.g (l.o + o) k srt.toArray os) rfl rfl rfl (Nat.le_add_right _ _) ?_ ?_ (wrld k os _), .tuple .nil, Steps.trans q1 (.one (step_leave_returned q2))⟩
      · show w.heap.size ≤ ((w.heap.modify l.g _) ++ os).size
        rw [Array.size_append, Array.size_modify]; omega
      · show ((w.heap.modify l.g (onCells (putCells id (l.o + o) (flatK enc 2 srt.toArray)))) ++ os)[l.g]? = _
        rw [Array.getElem?_append_left (by simpa using hblk), Array.getElem?_modify, if_pos rfl, k1, Option.map_some, onCells, flatK_flat enc enc2, putCells_id]
        rw [← hall.length]; exact hfit
theorem sortKC_grow {F g : Nat} {cmp : Key → Key → Int} : CallGrow (sortKC F g cmp) := by
  intro fv args H v H' h
  unfold sortKC at h
  split at h
  case h_2 => cases h
  split at h
  case isFalse => cases h
  split at h
  case h_2 => cases h
  split at h
  case isFalse => cases h
  split at h
  case h_2 => cases h
  split at h
  case h_2 => cases h
  split at h
  case isFalse => cases h
  simp only [Option.map_eq_some_iff] at h
  obtain ⟨H1, hw, h⟩ := h
  injection h with h1 h2
  subst h2
  unfold Heap.write at hw
  split at hw
  · split at hw
    · injection hw with hw; subst hw; simp
    · cases hw
  · cases hw
end
end Go.Abs
namespace Go.Proofs.YtkedcelpadiakaaGreat
open Go.Shelf
def srtKRen : Ren := ⟨fun | 6 => 50 | 14 => 100 | 15 => 101 | 20 => 151 | 21 => 152 | 22 => 153 | 23 => 154 | 24 => 155 | 25 => 156 | 26 => 157 | 27 => 158 | 28 => 159 | 29 => 160 | 46 => 196 | 47 => 197 | 48 => 198 | 49 => 199 | 50 => 200 | 57 => 211 | n => n,
  fun | 0 => 0 | 3 => 3 | 4 => 4 | 5 => 5 | 9 => 9 | 22 => 27 | 23 => 79 | 24 => 34 | 25 => 82 | 26 => 211 | 37 => 123 | 39 => 125 | 40 => 84 | 44 => 154 | 45 => 155 | 46 => 156 | 47 => 157 | 48 => 158 | 49 => 159 | 50 => 145 | 51 => 160 | 53 => 162 | 55 => 164 | 66 => 187 | 69 => 190 | 70 => 191 | 71 => 192 | 76 => 200 | 77 => 139 | 78 => 201 | n => n, fun n => n⟩
theorem srtKLays : SlLaysF0.n6 Tryz.prog srtKRen where
  mixed := by kernel_rfl
  f6 := ⟨"slices.SortFunc[[]flatland/api.Origami,flatland/api.Origami]", by decide, Tryz.func50.trans (congrArg some (by kernel_rfl))⟩
  f14 := ⟨"slices.pdqsortCmpFunc[flatland/api.Origami]", by decide, Tryz.func100.trans (congrArg some (by kernel_rfl))⟩
  f15 := Tryz.func101.trans (congrArg some (by kernel_rfl))
  f20 := ⟨"slices.insertionSortCmpFunc[flatland/api.Origami]", by decide, Tryz.func151.trans (congrArg some (by kernel_rfl))⟩
  f21 := ⟨"slices.heapSortCmpFunc[flatland/api.Origami]", by decide, Tryz.func152.trans (congrArg some (by kernel_rfl))⟩
  f22 := ⟨"slices.breakPatternsCmpFunc[flatland/api.Origami]", by decide, Tryz.func153.trans (congrArg some (by kernel_rfl))⟩
  f23 := ⟨"slices.choosePivotCmpFunc[flatland/api.Origami]", by decide, Tryz.func154.trans (congrArg some (by kernel_rfl))⟩
  f24 := ⟨"slices.reverseRangeCmpFunc[flatland/api.Origami]", by decide, Tryz.func155.trans (congrArg some (by kernel_rfl))⟩
  f25 := ⟨"slices.partialInsertionSortCmpFunc[flatland/api.Origami]", by decide, Tryz.func156.trans (congrArg some (by kernel_rfl))⟩
  f26 := ⟨"slices.partitionEqualCmpFunc[flatland/api.Origami]", by decide, Tryz.func157.trans (congrArg some (by kernel_rfl))⟩
  f27 := ⟨"slices.partitionCmpFunc[flatland/api.Origami]", by decide, Tryz.func158.trans (congrArg some (by kernel_rfl))⟩
  f28 := Tryz.func159.trans (congrArg some (by kernel_rfl))
  f29 := Tryz.func160.trans (congrArg some (by kernel_rfl))
  f46 := ⟨"slices.siftDownCmpFunc[flatland/api.Origami]", by decide, Tryz.func196.trans (congrArg some (by kernel_rfl))⟩
  f47 := Tryz.func197.trans (congrArg some (by kernel_rfl))
  f48 := Tryz.func198.trans (congrArg some (by kernel_rfl))
  f49 := ⟨"slices.medianAdjacentCmpFunc[flatland/api.Origami]", by decide, Tryz.func199.trans (congrArg some (by kernel_rfl))⟩
  f50 := ⟨"slices.medianCmpFunc[flatland/api.Origami]", by decide, Tryz.func200.trans (congrArg some (by kernel_rfl))⟩
  f57 := ⟨"slices.order2CmpFunc[flatland/api.Origami]", by decide, Tryz.func211.trans (congrArg some (by kernel_rfl))⟩
  t0 := Tryz.underlying0
  a0 := Tryz.isAgg0
  z0 := Tryz.sizeOf0
  v0 := Tryz.zeroValue0
  t3 := Tryz.underlying3
  a3 := Tryz.isAgg3
  z3 := Tryz.sizeOf3
  v3 := Tryz.zeroValue3
  t4 := Tryz.underlying4
  a4 := Tryz.isAgg4
  z4 := Tryz.sizeOf4
  v4 := Tryz.zeroValue4
  t5 := Tryz.underlying5
  a5 := Tryz.isAgg5
  z5 := Tryz.sizeOf5
  v5 := Tryz.zeroValue5
  t9 := Tryz.underlying9
  a9 := Tryz.isAgg9
  z9 := Tryz.sizeOf9
  v9 := Tryz.zeroValue9
  t22 := Tryz.underlying27
  a22 := Tryz.isAgg27
  z22 := Tryz.sizeOf27
  v22 := Tryz.zeroValue27
  t25 := Tryz.underlying82
  a25 := Tryz.isAgg82
  z25 := Tryz.sizeOf82
  v25 := Tryz.zeroValue82
  t39 := Tryz.underlying125
  a39 := Tryz.isAgg125
  z39 := Tryz.sizeOf125
  v39 := Tryz.zeroValue125
  t45 := Tryz.underlying155
  a45 := Tryz.isAgg155
  z45 := Tryz.sizeOf155
  v45 := Tryz.zeroValue155
  t46 := Tryz.underlying156
  a46 := Tryz.isAgg156
  z46 := Tryz.sizeOf156
  v46 := Tryz.zeroValue156
  t50 := Tryz.underlying145
  a50 := Tryz.isAgg145
  z50 := Tryz.sizeOf145
  v50 := Tryz.zeroValue145
  t53 := Tryz.underlying162
  a53 := Tryz.isAgg162
  z53 := Tryz.sizeOf162
  v53 := Tryz.zeroValue162
  t55 := Tryz.underlying164
  a55 := Tryz.isAgg164
  z55 := Tryz.sizeOf164
  v55 := Tryz.zeroValue164
  t66 := Tryz.underlying187
  a66 := Tryz.isAgg187
  z66 := Tryz.sizeOf187
  v66 := Tryz.zeroValue187
  t70 := Tryz.underlying191
  a70 := Tryz.isAgg191
  z70 := Tryz.sizeOf191
  v70 := Tryz.zeroValue191
  t76 := Tryz.underlying200
  a76 := Tryz.isAgg200
  z76 := Tryz.sizeOf200
  v76 := Tryz.zeroValue200
  t77 := Tryz.underlying139
  a77 := Tryz.isAgg139
  z77 := Tryz.sizeOf139
  v77 := Tryz.zeroValue139
end Go.Proofs.YtkedcelpadiakaaGreat
namespace Go.Abs
open Go.ChangeMaps (setBlock)
section
variable {P : Program} {nt lo : Nat}
structure St (nt lo : Nat) (m : Mp) (H : Heap) (w : World) (a : Fr) (tmps : Array Value) (ds : List Deferred) : Prop where
  rel : Rel m H w
  fr : FR m nt a tmps
  mks : Marks lo m H w ds
variable {call : CallF} {m : Mp} {H H' : Heap} {w : World} {a a' : Fr} {tmps : Array Value} {ds : List Deferred}
theorem St.code (hcall : CallOK P call) (hdraw : DrawOK P call nt) {b : Frame} (hb : b.roundOf = none) {kk : Nat} {c : Code} (hok : codeOk nt c = true) (h : evCode P call kk nt none c a H = some (.normal, a', H')) (s : St nt lo m H w a tmps ds) (k : List Item) (cs : List Frame) :
    ∃ m' w' tmps' ds', Sim m H w m' H' w' ∧ St nt lo m' H' w' a' tmps' ds' ∧ Steps P (lone (onF b tmps ds (.code c :: k)) cs w) (lone (onF b tmps' ds' k) cs w') := by
  obtain ⟨m1, w1, t1, d1, s1, s2, s3, _, s5⟩ := code_sim (lo := lo) hcall hdraw b none kk c hok h s.rel s.fr s.mks hb (fun h => absurd rfl h) k cs
  exact ⟨m1, w1, t1, d1, s1, ⟨s1.rel, s2, s3⟩, s5⟩
theorem St.ops (hcall : CallOK P call) {ops : Array Oper} (hok : ∀ o ∈ ops.toList, operOk nt o = true) {l : List Oper} {i : Nat} (hl : ops.toList.drop i = l) (h : evOps P call ops l a H = some (a', H')) (s : St nt lo m H w a tmps ds) (b : Frame) (k : List Item) (cs : List Frame) :
    ∃ m' w' tmps', Sim m H w m' H' w' ∧ St nt lo m' H' w' a' tmps' ds ∧ Steps P (lone (onF b tmps ds (.inRegion ops (List.range' i l.length) :: k)) cs w) (lone (onF b tmps' ds k) cs w') := by
  obtain ⟨m1, w1, t1, s1, s2, s3⟩ := ops_sim hcall hok l i hl s.rel s.fr h b ds k cs
  exact ⟨m1, w1, t1, s1, ⟨s1.rel, s2, s.mks.sim s1⟩, s3⟩
theorem st_hand {b : Frame} {ops : Array Oper} {i : Nat} {rest : List Nat} {o : Oper} (ho : ops[i]? = some o) (hg : o.guard = none) (hd : ∀ c, o.op ≠ .defer c) {v : Value} {w' : World} (hr : (execOp (evC tmps) o).run P w = .ok (.value v) w') (k : List Item) (cs : List Frame) :
    Steps P (lone (onF b tmps ds (.inRegion ops (i :: rest) :: k)) cs w) (lone (onF b (putC tmps o.dst v) ds (.inRegion ops rest :: k)) cs w') :=
  .one (st_value ho (by simp [Region.wanted, hg]) hd hr rfl)
theorem run_valued {x : Sem Value} {v : Value} {w w' : World} (hr : x.run P w = .ok v w') : ((fun y : Sem Value => Next.value <$> y) x).run P w = .ok (.value v) w' := by
  show (x >>= fun v => pure (Next.value v)).run P w = _
  rw [Sem.run_bind, hr]
  rfl
theorem exec_next {ρ : Operand → Value} {o : Oper} {it : Operand} (h : o.op = .next it false) {v : Value} {w' : World} (hr : (Instr.next (ρ it) false o.type).run P w = .ok v w') : (execOp ρ o).run P w = .ok (.value v) w' := by
  simp only [execOp, h]
  exact run_valued hr
theorem exec_range {ρ : Operand → Value} {o : Oper} {t : TypeId} {x : Operand} (h : o.op = .range t x) {v : Value} {w' : World} (hr : (Instr.range t (ρ x)).run P w = .ok v w') : (execOp ρ o).run P w = .ok (.value v) w' := by
  simp only [execOp, h]
  exact run_valued hr
theorem exec_entry {ρ : Operand → Value} {o : Oper} {it : Operand} (h : o.op = .entry it) {v : Value} {w' : World} (hr : (Instr.entry (ρ it)).run P w = .ok v w') : (execOp ρ o).run P w = .ok (.value v) w' := by
  simp only [execOp, h]
  exact run_valued hr
theorem BR.noIter {l : Loc} {x : Blk} (h : BR m w l x) (hl : x.live = true) {p : Option Nat} {s c : Nat} {seen : Array Nat} : w.heap[l.g]? ≠ some (.mapIter p s seen c) := by
  intro e
  cases x with
  | dead => cases hl
  | cells f own cs => obtain ⟨C, el, fr, h, _⟩ := h; rw [e] at h; cases h
  | map es => obtain ⟨es', ck, h, _⟩ := h; rw [e] at h; cases h
  | loop st pend nt tmps params assign body => obtain ⟨fn, ds, tmps', h, _⟩ := h; rw [e] at h; cases h
structure Turned (w w' : World) (gi : Nat) : Prop where
  os : w'.os = w.os
  tape : w'.tape = w.tape
  output : w'.output = w.output
  size : w'.heap.size = w.heap.size
  there : ∀ g, g ≠ gi → w'.heap[g]? = w.heap[g]?
  drawn : w.drawn ≤ w'.drawn
theorem Rel.turned {w' : World} {gi : Nat} (h : Rel m H w) (ht : Turned w w' gi) {p : Option Nat} {s c : Nat} {seen : Array Nat} (hi : w.heap[gi]? = some (.mapIter p s seen c)) : Rel m H w' where
  len := h.len
  has := h.has
  bnd := fun b l hb => by rw [ht.size]; exact h.bnd b l hb
  blk := fun b x l hx hl => (h.blk b x l hx hl).keep (.refl m) fun hlv => ht.there _ fun e => (h.blk b x l hx hl).noIter hlv (by rw [e]; exact hi)
  sep := h.sep
theorem Marks.turned {w' : World} {gi : Nat} (ht : Turned w w' gi) {p : Option Nat} {s c : Nat} {seen : Array Nat} (hi : w.heap[gi]? = some (.mapIter p s seen c)) {ds : List Deferred} (h : Marks lo m H w ds) : Marks lo m H w' ds := by
  induction h with
  | nil h => exact .nil (by rw [ht.size]; exact h)
  | cons r ds h0 h1 h2 h3 _ ih => exact .cons r ds h0 ((ht.there r fun e => by rw [e, hi] at h1; cases h1).trans h1) h2 h3 ih
theorem Sim.turned {m0 : Mp} {H0 : Heap} {w0 w' : World} {gi : Nat} (h : Sim m0 H0 w0 m H w) (hge : w0.heap.size ≤ gi) (ht : Turned w w' gi) {p : Option Nat} {s c : Nat} {seen : Array Nat} (hi : w.heap[gi]? = some (.mapIter p s seen c)) : Sim m0 H0 w0 m H w' where
  ext := h.ext
  rel := h.rel.turned ht hi
  keep := ⟨ht.os.trans h.keep.os, ht.tape.trans h.keep.tape, ht.output.trans h.keep.output, by rw [ht.size]; exact h.keep.size, fun g hg hn => (ht.there g (by omega)).trans (h.keep.block g hg hn), Nat.le_trans h.keep.drawn ht.drawn⟩
  fresh := h.fresh
  grow := h.grow
  img := h.img
theorem Sim.kill (hR : Rel m H w) (b : Nat) : Sim m H w m (H.set b .dead) w := by
  have get : ∀ (c : Nat) (y : Blk), (H.set b .dead)[c]? = some y → y = .dead ∨ H[c]? = some y := by
    intro c y hc
    rw [List.getElem?_set] at hc
    split at hc
    · split at hc
      · injection hc with hc; exact .inl hc.symm
      · cases hc
    · exact .inr hc
  refine ⟨.refl m, ⟨fun c l hc => by rw [List.length_set]; exact hR.len c l hc, fun c y hy hlv => ?_, hR.bnd, fun c y l hy hl => ?_, fun c d x y l k hcd hx hy hl hk ho hlv hg => ?_⟩, .refl m _ w, fun g ⟨c, y, l, h1, h2, h3, h4⟩ => ?_, by simp, fun c l hc => .inl ⟨c, l, hc, rfl⟩⟩
  · rcases get c y hy with rfl | h
    · cases hlv
    · exact hR.has c y h hlv
  · rcases get c y hy with rfl | h
    · trivial
    · exact hR.blk c y l h hl
  · rcases get c x hx with rfl | h
    · cases ho
    · rcases get d y hy with rfl | h'
      · cases hlv
      · exact hR.sep c d x y l k hcd h h' hl hk ho hlv hg
  · rcases get c y h1 with rfl | h
    · cases h3
    · exact .inl ⟨c, y, l, h, h2, h3, h4⟩
theorem Sim.ghost (hR : Rel m H w) {w' : World} {o : Obj} (hw : w' = { w with heap := w.heap.push o }) : Sim m H w (psh m H.length ⟨w.heap.size, 0, 0⟩) (H ++ [.dead]) w' := by
  subst hw
  have get : ∀ (c : Nat) (y : Blk), (H ++ [.dead])[c]? = some y → y = .dead ∨ (c < H.length ∧ H[c]? = some y) := by
    intro c y hc
    by_cases hlt : c < H.length
    · rw [List.getElem?_append_left hlt] at hc; exact .inr ⟨hlt, hc⟩
    · have := lt_of_get hc
      have e : c = H.length := by simp at this; omega
      subst e
      simp at hc; exact .inl hc.symm
  have ext : Ext m (psh m H.length ⟨w.heap.size, 0, 0⟩) := .push _ hR.free
  have old : ∀ (c : Nat) (l : Loc), c < H.length → psh m H.length ⟨w.heap.size, 0, 0⟩ c = some l → m c = some l := fun c l hc h => by rwa [psh_old _ (by omega)] at h
  refine ⟨ext, ⟨fun c l hc => ?_, fun c y hy hlv => ?_, fun c l hc => ?_, fun c y l hy hl => ?_, fun c d x y l k hcd hx hy hl hk ho hlv hg => ?_⟩, ⟨rfl, rfl, rfl, by simp, fun g hg _ => heap_push_lt w o hg, Nat.le_refl _⟩, fun g ⟨c, y, l, h1, h2, h3, h4⟩ => ?_, by simp, fun c l hc => ?_⟩
  · by_cases e : c = H.length
    · subst e; simp
    · rw [psh_old _ e] at hc; have := hR.len c l hc; simp; omega
  · rcases get c y hy with rfl | ⟨hlt, h⟩
    · cases hlv
    · obtain ⟨l, hl⟩ := hR.has c y h hlv; exact ⟨l, ext _ _ hl⟩
  · by_cases e : c = H.length
    · subst e; rw [psh_new] at hc; injection hc with hc; subst hc; simp
    · rw [psh_old _ e] at hc; have := hR.bnd c l hc; simp; omega
  · rcases get c y hy with rfl | ⟨hlt, h⟩
    · trivial
    · exact (hR.blk c y l h (old c l hlt hl)).keep ext fun hlv => heap_push_lt w o ((hR.blk c y l h (old c l hlt hl)).lt hlv)
  · rcases get c x hx with rfl | ⟨h1, h⟩
    · cases ho
    · rcases get d y hy with rfl | ⟨h2, h'⟩
      · cases hlv
      · exact hR.sep c d x y l k hcd h h' (old c l h1 hl) (old d k h2 hk) ho hlv hg
  · rcases get c y h1 with rfl | ⟨hlt, h⟩
    · cases h3
    · exact .inl ⟨c, y, l, h, old c l hlt h2, h3, h4⟩
  · by_cases e : c = H.length
    · subst e; rw [psh_new] at hc; injection hc with hc; subst hc; exact .inr (Nat.le_refl _)
    · rw [psh_old _ e] at hc; exact .inl ⟨c, l, hc, rfl⟩
structure Iter (m : Mp) (H : Heap) (w : World) (gm gi kb : Nat) (es : Array MapEntry) (ck : Nat) (seen : Array Nat) : Prop where
  hm : w.heap[gm]? = some (.map es ck)
  hi : w.heap[gi]? = some (.mapIter (some gm) ck seen ck)
  nm : ¬ Owned m H gm
  ni : ¬ Owned m H gi
  kb : m kb = some ⟨gi, 0, 0⟩
theorem lt_of_obj {g : Nat} {o : Obj} (h : w.heap[g]? = some o) : g < w.heap.size := (Array.getElem?_eq_some_iff.1 h).1
theorem Iter.sim {m' : Mp} {w' : World} {gm gi kb ck : Nat} {es : Array MapEntry} {seen : Array Nat} (h : Iter m H w gm gi kb es ck seen) (s : Sim m H w m' H' w') : Iter m' H' w' gm gi kb es ck seen where
  hm := (s.keep.block _ (lt_of_obj h.hm) h.nm).trans h.hm
  hi := (s.keep.block _ (lt_of_obj h.hi) h.ni).trans h.hi
  nm := fun ho => (s.fresh _ ho).elim h.nm fun hge => by have := lt_of_obj h.hm; omega
  ni := fun ho => (s.fresh _ ho).elim h.ni fun hge => by have := lt_of_obj h.hi; omega
  kb := s.ext _ _ h.kb
theorem All2.split {α β : Type} {R : α → β → Prop} : ∀ {l2 : List β} {l : List α} {l1 : List β} {y : β}, All2 R l (l1 ++ y :: l2) → ∃ a1 x a2, l = a1 ++ x :: a2 ∧ All2 R a1 l1 ∧ R x y ∧ All2 R a2 l2 := by
  intro l2 l l1
  induction l1 generalizing l with
  | nil =>
    intro y h
    cases h with
    | cons h1 h2 => exact ⟨[], _, _, rfl, .nil, h1, h2⟩
  | cons z l1 ih =>
    intro y h
    cases h with
    | cons h1 h2 =>
      obtain ⟨a1, x, a2, rfl, k1, k2, k3⟩ := ih h2
      exact ⟨_ :: a1, x, a2, rfl, .cons h1 k1, k2, k3⟩
theorem left_push (es : Array MapEntry) (seen : Array Nat) (b : Nat) : (leftOf es (seen.push b)).toList = (leftOf es seen).toList.filter fun x => x.born != b := by
  unfold leftOf
  rw [Array.toList_filter, Array.toList_filter, List.filter_filter]
  congr 1
  funext x
  have : (seen.push b).contains x.born = (seen.contains x.born || x.born == b) := by
    by_cases h : x.born = b <;> simp [h]
  rw [this]
  cases seen.contains x.born <;> cases hxb : x.born == b <;> simp [bne, hxb]
theorem filter_one {l1 l2 : List MapEntry} {e : MapEntry} (h : ((l1 ++ e :: l2).map (·.born)).Nodup) : (l1 ++ e :: l2).filter (fun x => x.born != e.born) = l1 ++ l2 := by
  rw [List.map_append, List.map_cons] at h
  have h2 := List.nodup_append.1 h
  have hn := (List.nodup_cons.1 h2.2.1).1
  have f1 : ∀ x ∈ l1, (x.born != e.born) = true := fun x hx => by
    have := h2.2.2 x.born (List.mem_map.2 ⟨x, hx, rfl⟩) e.born (List.mem_cons_self ..)
    simpa using this
  have f2 : ∀ x ∈ l2, (x.born != e.born) = true := fun x hx => by
    have : x.born ≠ e.born := fun e' => hn (e' ▸ List.mem_map.2 ⟨x, hx, rfl⟩)
    simpa using this
  rw [List.filter_append, List.filter_cons]
  simp only [bne_self_eq_false, Bool.false_eq_true, if_false]
  rw [List.filter_eq_self.2 f1, List.filter_eq_self.2 f2]
theorem left_nodup {es : Array MapEntry} {ck : Nat} (h : BornOk es ck) (seen : Array Nat) : ((leftOf es seen).toList.map (·.born)).Nodup := by
  unfold leftOf
  rw [Array.toList_filter]
  exact h.2.sublist (List.filter_sublist.map _)
section
variable {kk kb it tn tok te ex bl id1 id2 : Nat} {ops1 ops2 : Array Oper} {o1 o2 : Oper} {l1 l2 : List Oper} {body : Code} {I : List (Value × Value) → Fr → Heap → Prop} {Pe : Value × Value → Prop} {N : Nat}
theorem VR.ptr_at {m : Mp} {k gi : Nat} {v' : Value} (h : VR m (.pointer (some ⟨k, 0, none⟩)) v') (hk : m k = some ⟨gi, 0, 0⟩) : v' = .pointer (some ⟨gi, 0, none⟩) := by
  cases h with
  | a h => cases h with
    | s h => cases h with
      | ptr _ _ l hl => rw [hk] at hl; injection hl with hl; subst hl; rfl
def roundC (tok ex bl id1 id2 : Nat) (ops1 ops2 : Array Oper) (body : Code) : Code := .seq (.region id1 ops1 false) (.seq (.cond (.tmp tok) .skip (.exit ex)) (.block bl (.seq (.region id2 ops2 false) body)))
theorem map_rounds (hcall : CallOK P call) (hdraw : DrawOK P call nt) {b : Frame} (hb : b.roundOf = none) (hok : codeOk nt (roundC tok ex bl id1 id2 ops1 ops2 body) = true)
    (h1 : ops1.toList = o1 :: l1) (g1 : o1.guard = none) (d1 : o1.dst = some tn) (p1 : o1.op = .next (.tmp it) false)
    (h2 : ops2.toList = o2 :: l2) (g2 : o2.guard = none) (d2 : o2.dst = some te) (p2 : o2.op = .entry (.tmp it))
    (e1 : ∀ (a : Fr) (H : Heap) (vs : Array Value) (bv : Bool), vs[0]? = some (.bool bv) → evOps P call ops1 l1 (upd a tn (.tuple vs)) H = some (upd (upd a tn (.tuple vs)) tok (.bool bv), H))
    (hit : it < nt)
    (hI0 : ∀ done a H, I done a H → a it = .pointer (some ⟨kb, 0, none⟩)) (hI1 : ∀ done a H v u, I done a H → I done (upd (upd a tn v) tok u) H)
    {es : Array MapEntry} {ck gm gi : Nat} (hbo : BornOk es ck) (hkey : ∀ x ∈ es.toList, ∃ s, x.key = .string s)
    (hbody : ∀ done e a H, Pe e → done.length < N → I done a H → ∃ a1 H1 a2 H2, evOps P call ops2 l2 (upd a te (.tuple #[e.1, e.2])) H = some (a1, H1) ∧ evCode P call kk nt none body a1 H1 = some (.normal, a2, H2) ∧ I (done ++ [e]) a2 H2)
    {m0 : Mp} {H0 : Heap} {w0 : World} (hgi : w0.heap.size ≤ gi) :
    ∀ (left : List (Value × Value)) {m : Mp} {H : Heap} {w : World} {a : Fr} {tmps : Array Value} {ds : List Deferred} {seen : Array Nat} {done : List (Value × Value)}, St nt lo m H w a tmps ds → Sim m0 H0 w0 m H w → Iter m H w gm gi kb es ck seen → All2 (ER m) left (leftOf es seen).toList → (∀ e ∈ left, Pe e) → done.length + left.length = N → I done a H →
      ∀ k cs, ∃ m' H' w' a' tmps' ds' done', St nt lo m' H' w' a' tmps' ds' ∧ Sim m0 H0 w0 m' H' w' ∧ (done ++ left).Perm done' ∧ I done' a' H' ∧
        Steps P (lone (onF b tmps ds (.code (roundC tok ex bl id1 id2 ops1 ops2 body) :: .inLoop (roundC tok ex bl id1 id2 ops1 ops2 body) :: .inBlock ex :: k)) cs w) (lone (onF b tmps' ds' k) cs w') := by
  have hok' := hok
  unfold roundC at hok'
  simp only [codeOk, Bool.and_eq_true] at hok'
  obtain ⟨⟨hk1, _⟩, _, ⟨hk2, _⟩, hk3⟩ := hok'
  have hops1 : ∀ o ∈ ops1.toList, operOk nt o = true := List.all_eq_true.1 hk1
  have hops2 : ∀ o ∈ ops2.toList, operOk nt o = true := List.all_eq_true.1 hk2
  have s1 : ops1.size = l1.length + 1 := by have := congrArg List.length h1; simpa using this
  have s2 : ops2.size = l2.length + 1 := by have := congrArg List.length h2; simpa using this
  have x1 : ops1[0]? = some o1 := by rw [← Array.getElem?_toList, h1]; rfl
  have x2 : ops2[0]? = some o2 := by rw [← Array.getElem?_toList, h2]; rfl
  have r1 : List.range ops1.size = 0 :: List.range' 1 l1.length := by rw [s1, List.range_eq_range', List.range'_succ]
  have r2 : List.range ops2.size = 0 :: List.range' 1 l2.length := by rw [s2, List.range_eq_range', List.range'_succ]
  have dr1 : ops1.toList.drop 1 = l1 := by rw [h1]; rfl
  have dr2 : ops2.toList.drop 1 = l2 := by rw [h2]; rfl
  have nd1 : ∀ c, o1.op ≠ .defer c := fun c h => by rw [p1] at h; cases h
  have nd2 : ∀ c, o2.op ≠ .defer c := fun c h => by rw [p2] at h; cases h
  intro left
  induction hn : left.length generalizing left with
  | zero =>
    intro m H w a tmps ds seen done s S0 hI hA hPe hN hinv k cs
    have hl0 : left = [] := List.eq_nil_of_length_eq_zero hn
    subst hl0
    have hz : (leftOf es seen).size = 0 := by have := hA.length; simpa using this.symm
    have hptr : evC tmps (.tmp it) = .pointer (some ⟨gi, 0, none⟩) := by
      have h3 := s.fr.opnd (x := .tmp it) (by simpa [opndOk] using hit)
      rw [show ev a (.tmp it) = a it from rfl, hI0 _ _ _ hinv] at h3
      exact h3.ptr_at hI.kb
    have hr : (Instr.next (evC tmps (.tmp it)) false o1.type).run P w = .ok (.tuple #[.bool false]) w := by
      rw [hptr]
      rcases run_next_at (P := P) w o1.type gi gm ck ck seen es ck hI.hi hI.hm hbo.1 (Nat.le_refl _) with ⟨_, h⟩ | ⟨e, he, _⟩
      · exact h
      · have := Array.eq_empty_of_size_eq_zero hz
        rw [this] at he; simp at he
    have fr1 : FR m nt (upd a tn (.tuple #[.bool false])) (putC tmps o1.dst (.tuple #[.bool false])) := by
      rw [d1]; exact s.fr.put (VR.tuple (.cons (.s (.bool _)) .nil)) tn
    have st1 : St nt lo m H w (upd a tn (.tuple #[.bool false])) (putC tmps o1.dst (.tuple #[.bool false])) ds := ⟨s.rel, fr1, s.mks⟩
    obtain ⟨m2, w2, t2, q1, q2, q3⟩ := st1.ops hcall hops1 dr1 (e1 a H #[.bool false] false rfl) b (.code (.seq (.cond (.tmp tok) .skip (.exit ex)) (.block bl (.seq (.region id2 ops2 false) body))) :: .inLoop (roundC tok ex bl id1 id2 ops1 ops2 body) :: .inBlock ex :: k) cs
    have htok : tok < nt := by
      have := hok
      unfold roundC at this
      simp only [codeOk, Bool.and_eq_true, opndOk, decide_eq_true_eq] at this
      exact this.2.1.1.1
    have hbv : evC t2 (.tmp tok) = .bool false := by
      have h3 := q2.fr.opnd (x := .tmp tok) (by simpa [opndOk] using htok)
      rw [show ev (upd (upd a tn (.tuple #[.bool false])) tok (.bool false)) (.tmp tok) = .bool false from by simp [ev, upd]] at h3
      exact h3.bool_
    refine ⟨m2, H, w2, _, t2, ds, done, q2, S0.trans q1, by rw [List.append_nil], hI1 _ _ _ _ _ hinv, ?_⟩
    unfold roundC
    refine .head st_seq (.head st_region ?_)
    rw [r1]
    refine (st_hand x1 g1 nd1 (exec_next p1 hr) _ cs).trans (q3.trans (.head st_seq (.head (st_cond (t := false) hbv) ?_)))
    refine .one (st_exit ?_)
    simp [exitTo]
  | succ n ih =>
    intro m H w a tmps ds seen done s S0 hI hA hPe hN hinv k cs
    have hsz : (leftOf es seen).size = n + 1 := by have := hA.length; rw [hn] at this; simpa using this.symm
    have hptr : evC tmps (.tmp it) = .pointer (some ⟨gi, 0, none⟩) := by
      have h3 := s.fr.opnd (x := .tmp it) (by simpa [opndOk] using hit)
      rw [show ev a (.tmp it) = a it from rfl, hI0 _ _ _ hinv] at h3
      exact h3.ptr_at hI.kb
    rcases run_next_at (P := P) w o1.type gi gm ck ck seen es ck hI.hi hI.hm hbo.1 (Nat.le_refl _) with ⟨h, _⟩ | ⟨e, he, w1, hal, hrun⟩
    · omega
    obtain ⟨hem, hes⟩ := mem_left he
    obtain ⟨L1, L2, hL⟩ := List.append_of_mem he
    rw [hL] at hA
    obtain ⟨A1, x, A2, rfl, k1, k2, k3⟩ := hA.split
    have hnew : (leftOf es (seen.push e.born)).toList = L1 ++ L2 := by
      rw [left_push, hL]
      have := left_nodup hbo seen
      rw [hL] at this
      exact filter_one this
    have hgm : gm ≠ gi := fun e' => by have h1 := hI.hm; rw [e', hI.hi] at h1; cases h1
    have hlt := lt_of_obj hI.hi
    generalize hw2 : setBlock w1 gi (.mapIter (some gm) ck (seen.push e.born) ck) = w2 at hrun
    have hh1 : w1.heap = w.heap := by rcases hal with rfl | rfl <;> rfl
    have turn : Turned w w2 gi := by
      subst hw2
      refine ⟨?_, ?_, ?_, by simp [setBlock, hh1], fun g hg => ?_, ?_⟩
      · rcases hal with rfl | rfl <;> rfl
      · rcases hal with rfl | rfl <;> rfl
      · rcases hal with rfl | rfl <;> rfl
      · show (w1.heap.setIfInBounds gi _)[g]? = _
        rw [Array.getElem?_setIfInBounds, if_neg (fun e' => hg e'.symm), hh1]
      · rcases hal with rfl | rfl
        · exact Nat.le_refl _
        · exact Nat.le_succ _
    have hi2 : w2.heap[gi]? = some (.mapIter (some gm) ck (seen.push e.born) ck) := by
      subst hw2
      show (w1.heap.setIfInBounds gi _)[gi]? = _
      rw [Array.getElem?_setIfInBounds, if_pos rfl, if_pos (by rw [hh1]; exact hlt)]
    have hI2 : Iter m H w2 gm gi kb es ck (seen.push e.born) := ⟨(turn.there gm hgm).trans hI.hm, hi2, hI.nm, hI.ni, hI.kb⟩
    have S2 : Sim m0 H0 w0 m H w2 := S0.turned hgi turn hI.hi
    obtain ⟨ks, hks⟩ := hkey e hem
    have hx1 : x.1 = .string ks := by rw [← k2.1]; exact hks
    have hr : (Instr.next (evC tmps (.tmp it)) false o1.type).run P w = .ok (.tuple #[.bool true, e.key, e.val]) w2 := by rw [hptr]; exact hrun
    have fr1 : FR m nt (upd a tn (.tuple #[.bool true, x.1, x.2])) (putC tmps o1.dst (.tuple #[.bool true, e.key, e.val])) := by
      rw [d1]
      refine s.fr.put (VR.tuple (.cons (.s (.bool _)) (.cons ?_ (.cons k2.2 .nil)))) tn
      rw [hx1, hks]; exact .s (.string _)
    have st1 : St nt lo m H w2 (upd a tn (.tuple #[.bool true, x.1, x.2])) (putC tmps o1.dst (.tuple #[.bool true, e.key, e.val])) ds := ⟨S2.rel, fr1, s.mks.turned turn hI.hi⟩
    obtain ⟨m3, w3, t3, q1, q2, q3⟩ := st1.ops hcall hops1 dr1 (e1 a H #[.bool true, x.1, x.2] true rfl) b (.code (.seq (.cond (.tmp tok) .skip (.exit ex)) (.block bl (.seq (.region id2 ops2 false) body))) :: .inLoop (roundC tok ex bl id1 id2 ops1 ops2 body) :: .inBlock ex :: k) cs
    have htok : tok < nt := by
      have := hok
      unfold roundC at this
      simp only [codeOk, Bool.and_eq_true, opndOk, decide_eq_true_eq] at this
      exact this.2.1.1.1
    have hbv : evC t3 (.tmp tok) = .bool true := by
      have h3 := q2.fr.opnd (x := .tmp tok) (by simpa [opndOk] using htok)
      rw [show ev (upd (upd a tn (.tuple #[.bool true, x.1, x.2])) tok (.bool true)) (.tmp tok) = .bool true from by simp [ev, upd]] at h3
      exact h3.bool_
    have hinv3 := hI1 _ _ _ (.tuple #[.bool true, x.1, x.2]) (.bool true) hinv
    have hI3 := hI2.sim q1
    have hptr3 : evC t3 (.tmp it) = .pointer (some ⟨gi, 0, none⟩) := by
      have h3 := q2.fr.opnd (x := .tmp it) (by simpa [opndOk] using hit)
      rw [show ev (upd (upd a tn (.tuple #[.bool true, x.1, x.2])) tok (.bool true)) (.tmp it) = (upd (upd a tn (.tuple #[.bool true, x.1, x.2])) tok (.bool true)) it from rfl, hI0 _ _ _ hinv3] at h3
      exact h3.ptr_at hI3.kb
    have hr3 : (Instr.entry (evC t3 (.tmp it))).run P w3 = .ok (.tuple #[e.key, e.val]) w3 := by
      rw [hptr3]
      exact run_entry_at w3 gi gm ck seen es ck e hI3.hi hI3.hm hem hbo.2
    have fr3 : FR m3 nt (upd (upd (upd a tn (.tuple #[.bool true, x.1, x.2])) tok (.bool true)) te (.tuple #[x.1, x.2])) (putC t3 o2.dst (.tuple #[e.key, e.val])) := by
      rw [d2]
      refine q2.fr.put (VR.tuple (.cons ?_ (.cons (k2.2.mono q1.ext) .nil))) te
      rw [hx1, hks]; exact .s (.string _)
    have st3 : St nt lo m3 H w3 (upd (upd (upd a tn (.tuple #[.bool true, x.1, x.2])) tok (.bool true)) te (.tuple #[x.1, x.2])) (putC t3 o2.dst (.tuple #[e.key, e.val])) ds := ⟨q2.rel, fr3, q2.mks⟩
    obtain ⟨a1, H1, a2, H2, b1, b2, b3⟩ := hbody done x _ H (hPe x (by simp)) (by omega) hinv3
    obtain ⟨m4, w4, t4, u1, u2, u3⟩ := st3.ops hcall hops2 dr2 b1 b (.code body :: .inBlock bl :: .inLoop (roundC tok ex bl id1 id2 ops1 ops2 body) :: .inBlock ex :: k) cs
    obtain ⟨m5, w5, t5, d5, v1, v2, v3⟩ := u2.code hcall hdraw hb hk3 b2 (.inBlock bl :: .inLoop (roundC tok ex bl id1 id2 ops1 ops2 body) :: .inBlock ex :: k) cs
    have hA5 : All2 (ER m5) (A1 ++ A2) (leftOf es (seen.push e.born)).toList := by
      rw [hnew]
      exact (k1.append k3).mono fun p q h => ⟨h.1, h.2.mono ((q1.ext.trans u1.ext).trans v1.ext)⟩
    obtain ⟨m', H', w', a', tmps', ds', done', z1, z2, z3, z4, z5⟩ := ih (A1 ++ A2) (by simp at hn ⊢; omega) v2 ((S2.trans q1).trans (u1.trans v1)) ((hI3.sim u1).sim v1) hA5 (fun e he => hPe e (by rcases List.mem_append.1 he with h | h <;> simp [h])) (by simp at hN hn ⊢; omega) b3 k cs
    refine ⟨m', H', w', a', tmps', ds', done', z1, z2, ?_, z4, ?_⟩
    · refine List.Perm.trans ?_ z3
      rw [List.append_assoc]
      exact (List.perm_middle).append_left done
    · conv => rhs; rhs
      have head : Steps P (lone (onF b tmps ds (.code (roundC tok ex bl id1 id2 ops1 ops2 body) :: .inLoop (roundC tok ex bl id1 id2 ops1 ops2 body) :: .inBlock ex :: k)) cs w) (lone (onF b t5 d5 (.inBlock bl :: .inLoop (roundC tok ex bl id1 id2 ops1 ops2 body) :: .inBlock ex :: k)) cs w5) := by
        rw [show Item.code (roundC tok ex bl id1 id2 ops1 ops2 body) = .code (.seq (.region id1 ops1 false) (.seq (.cond (.tmp tok) .skip (.exit ex)) (.block bl (.seq (.region id2 ops2 false) body)))) from rfl]
        refine .head st_seq (.head st_region ?_)
        rw [r1]
        refine (st_hand x1 g1 nd1 (exec_next p1 hr) _ cs).trans (q3.trans (.head st_seq (.head (st_cond (t := true) hbv) (.head st_skip (.head st_block (.head st_seq (.head st_region ?_)))))))
        rw [r2]
        exact (st_hand x2 g2 nd2 (exec_entry p2 hr3) _ cs).trans (u3.trans v3)
      exact head.trans (.head st_inBlock (.head st_inLoop z5))
theorem leftOf_none (es : Array MapEntry) : (leftOf es #[]).toList = es.toList := by
  unfold leftOf
  rw [Array.toList_filter]
  exact List.filter_eq_self.2 fun x _ => by simp
theorem map_range (hcall : CallOK P call) (hdraw : DrawOK P call nt) {b : Frame} (hb : b.roundOf = none) {id0 : Nat} {ops0 : Array Oper} {oL oR : Oper} {tm : Nat} {tt kt et : TypeId} {mb : Nat} {ents : List (Value × Value)}
    (hok : codeOk nt (.seq (.region id0 ops0 false) (.block ex (.loop (roundC tok ex bl id1 id2 ops1 ops2 body)))) = true)
    (h0 : ops0.toList = [oL, oR]) (gL : oL.guard = none) (dL : oL.dst = some tm) (gR : oR.guard = none) (dR : oR.dst = some it) (pR : oR.op = .range tt (.tmp tm)) (htt : P.underlying tt = some (.map kt et))
    (hL : stepA P call a oL H = some (.map (some mb), H)) (hmb : H[mb]? = some (.map ents)) (hents : ∀ e ∈ ents, ∃ s, e.1 = .string s)
    (h1 : ops1.toList = o1 :: l1) (g1 : o1.guard = none) (d1 : o1.dst = some tn) (p1 : o1.op = .next (.tmp it) false)
    (h2 : ops2.toList = o2 :: l2) (g2 : o2.guard = none) (d2 : o2.dst = some te) (p2 : o2.op = .entry (.tmp it))
    (e1 : ∀ (a : Fr) (H : Heap) (vs : Array Value) (bv : Bool), vs[0]? = some (.bool bv) → evOps P call ops1 l1 (upd a tn (.tuple vs)) H = some (upd (upd a tn (.tuple vs)) tok (.bool bv), H))
    (hI0 : ∀ done a H', I done a H' → a it = .pointer (some ⟨H.length, 0, none⟩)) (hI1 : ∀ done a H v u, I done a H → I done (upd (upd a tn v) tok u) H)
    (hbody : ∀ done e a H, Pe e → done.length < N → I done a H → ∃ a1 H1 a2 H2, evOps P call ops2 l2 (upd a te (.tuple #[e.1, e.2])) H = some (a1, H1) ∧ evCode P call kk nt none body a1 H1 = some (.normal, a2, H2) ∧ I (done ++ [e]) a2 H2)
    (hPe : ∀ e ∈ ents, Pe e) (hN : ents.length = N) (hI : I [] (upd (upd a tm (.map (some mb))) it (.pointer (some ⟨H.length, 0, none⟩))) (H.set mb .dead ++ [.dead]))
    (s : St nt lo m H w a tmps ds) (k : List Item) (cs : List Frame) :
    ∃ m' H' w' a' tmps' ds' done', St nt lo m' H' w' a' tmps' ds' ∧ Sim m H w m' H' w' ∧ ents.Perm done' ∧ I done' a' H' ∧
      Steps P (lone (onF b tmps ds (.code (.seq (.region id0 ops0 false) (.block ex (.loop (roundC tok ex bl id1 id2 ops1 ops2 body)))) :: k)) cs w) (lone (onF b tmps' ds' k) cs w') := by
  have hok' := hok
  simp only [codeOk, Bool.and_eq_true] at hok'
  obtain ⟨⟨hk0, _⟩, hk1⟩ := hok'
  have hops0 : ∀ o ∈ ops0.toList, operOk nt o = true := List.all_eq_true.1 hk0
  have x0 : ops0[0]? = some oL := by rw [← Array.getElem?_toList, h0]; rfl
  have x1 : ops0[1]? = some oR := by rw [← Array.getElem?_toList, h0]; rfl
  have s0 : ops0.size = 2 := by have := congrArg List.length h0; simpa using this
  have r0 : List.range ops0.size = [0, 1] := by rw [s0]; rfl
  have ndR : ∀ c, oR.op ≠ .defer c := fun c h => by rw [pR] at h; cases h
  have hit : it < nt := by
    have := hops0 oR (by rw [h0]; simp)
    unfold operOk at this
    rw [dR] at this
    simp at this
    exact this.2
  have htm : tm < nt := by
    have := hops0 oL (by rw [h0]; simp)
    unfold operOk at this
    rw [dL] at this
    simp at this
    exact this.2
  obtain ⟨m1, w1, v', q1, q2, q3⟩ := op_sim hcall s.rel s.fr hops0 x0 (by simp [Region.wanted, gL]) hL b ds [1] (.code (.block ex (.loop (roundC tok ex bl id1 id2 ops1 ops2 body))) :: k) cs
  obtain ⟨l, hl, rfl⟩ := q2.map_
  obtain ⟨es, ck, b1, b2, b3⟩ := q1.rel.blk mb _ l hmb hl
  have fr1 : FR m1 nt (upd a tm (.map (some mb))) (putC tmps oL.dst (.map (some l.g))) := by rw [dL]; exact (s.fr.mono q1.ext).put q2 tm
  have hmap : evC (putC tmps oL.dst (.map (some l.g))) (.tmp tm) = .map (some l.g) := by
    have h3 := fr1.opnd (x := .tmp tm) (by simpa [opndOk] using htm)
    rw [show ev (upd a tm (.map (some mb))) (.tmp tm) = .map (some mb) from by simp [ev, upd]] at h3
    obtain ⟨l', hl', e⟩ := h3.map_
    rw [hl] at hl'; injection hl' with hl'; rw [e, ← hl']
  have hr : (Instr.range tt (evC (putC tmps oL.dst (.map (some l.g))) (.tmp tm))).run P w1 = .ok (.pointer (some ⟨w1.heap.size, 0, none⟩)) (w1.alloc (.mapIter (some l.g) ck #[] ck)) := by
    rw [hmap]; exact run_range_map w1 tt kt et l.g es ck htt b1
  have kill := Sim.kill q1.rel mb
  have ghost := Sim.ghost kill.rel (w' := w1.alloc (.mapIter (some l.g) ck #[] ck)) (o := .mapIter (some l.g) ck #[] ck) rfl
  have hlen : (H.set mb .dead).length = H.length := by simp
  rw [hlen] at ghost
  have S0 := (q1.trans kill).trans ghost
  have hlt := lt_of_obj b1
  have iter : Iter (psh m1 H.length ⟨w1.heap.size, 0, 0⟩) (H.set mb .dead ++ [.dead]) (w1.alloc (.mapIter (some l.g) ck #[] ck)) l.g w1.heap.size H.length es ck #[] := by
    have own : ∀ g, Owned (psh m1 H.length ⟨w1.heap.size, 0, 0⟩) (H.set mb .dead ++ [.dead]) g → ∃ (c : Nat) (y : Blk) (k : Loc), c ≠ mb ∧ H[c]? = some y ∧ m1 c = some k ∧ y.owned = true ∧ k.g = g := by
      rintro g ⟨c, y, k, z1, z2, z3, z4⟩
      by_cases hc : c < H.length
      · rw [List.getElem?_append_left (by simpa using hc), List.getElem?_set] at z1
        split at z1
        · split at z1
          · injection z1 with z1; subst z1; cases z3
          · cases z1
        · rename_i hne
          rw [psh_old _ (by omega)] at z2
          exact ⟨c, y, k, fun e => hne e.symm, z1, z2, z3, z4⟩
      · rw [List.getElem?_append_right (by simpa using hc)] at z1
        have := lt_of_get z1
        simp at this
        have e : c - (H.set mb .dead).length = 0 := by simp; omega
        rw [e] at z1
        simp at z1
        subst z1; cases z3
    refine ⟨(heap_push_lt w1 _ hlt).trans b1, heap_push_eq w1 _, fun ho => ?_, fun ho => ?_, psh_new ..⟩
    · obtain ⟨c, y, k, y1, y2, y3, y4, y5⟩ := own _ ho
      have hk := (q1.rel.sep c mb y _ k l y1 y2 hmb y3 hl y4 rfl y5).1
      cases y <;> simp [Blk.kin] at hk
    · obtain ⟨c, y, k, y1, y2, y3, y4, y5⟩ := own _ ho
      have := q1.rel.bnd c k y3
      omega
  have fr2 : FR (psh m1 H.length ⟨w1.heap.size, 0, 0⟩) nt (upd (upd a tm (.map (some mb))) it (.pointer (some ⟨H.length, 0, none⟩))) (putC (putC tmps oL.dst (.map (some l.g))) oR.dst (.pointer (some ⟨w1.heap.size, 0, none⟩))) := by
    rw [dR]
    exact (fr1.mono (kill.ext.trans ghost.ext)).put (.a (.s (.ptr H.length 0 ⟨w1.heap.size, 0, 0⟩ (psh_new ..)))) it
  have st2 : St nt lo (psh m1 H.length ⟨w1.heap.size, 0, 0⟩) (H.set mb .dead ++ [.dead]) (w1.alloc (.mapIter (some l.g) ck #[] ck)) (upd (upd a tm (.map (some mb))) it (.pointer (some ⟨H.length, 0, none⟩))) (putC (putC tmps oL.dst (.map (some l.g))) oR.dst (.pointer (some ⟨w1.heap.size, 0, none⟩))) ds := ⟨S0.rel, fr2, s.mks.sim S0⟩
  have hA : All2 (ER (psh m1 H.length ⟨w1.heap.size, 0, 0⟩)) ents (leftOf es #[]).toList := by
    rw [leftOf_none]
    exact b2.mono fun p q h => ⟨h.1, h.2.mono (kill.ext.trans ghost.ext)⟩
  have hkey : ∀ x ∈ es.toList, ∃ s, x.key = .string s := by
    intro x hx
    obtain ⟨i, hi, rfl⟩ := List.getElem_of_mem hx
    obtain ⟨y, y1, y2⟩ := b2.getR i _ (List.getElem?_eq_getElem hi)
    obtain ⟨s, hs⟩ := hents y (List.mem_of_getElem? y1)
    exact ⟨s, by rw [y2.1, hs]⟩
  have hokr : codeOk nt (roundC tok ex bl id1 id2 ops1 ops2 body) = true := by simpa [codeOk] using hk1
  obtain ⟨m', H', w', a', tmps', ds', done', z1, z2, z3, z4, z5⟩ := map_rounds (lo := lo) hcall hdraw hb hokr h1 g1 d1 p1 h2 g2 d2 p2 e1 hit hI0 hI1 b3 hkey hbody (m0 := m) (H0 := H) (w0 := w) (gi := w1.heap.size) q1.keep.size ents st2 S0 iter hA hPe (by simpa using hN) hI k cs
  refine ⟨m', H', w', a', tmps', ds', done', z1, z2, by simpa using z3, z4, ?_⟩
  refine .head st_seq (.head st_region ?_)
  rw [r0]
  refine q3.trans ((st_hand x1 gR ndR (exec_range pR hr) _ cs).trans ?_)
  exact .head st_regionEnd (.head st_block (.head st_loop z5))
end
theorem func_rel (hle0 : True) {f : FuncId} {fn : Func} {c : Code} (hfn : P.funcs[f]? = some fn) (hbody : fn.body = some c) (hok : fn.results.toList.all (resOk fn.ntmps) = true) {vs vs' : List Value} (hle : vs.length ≤ fn.ntmps) {H : Heap} {m : Mp} {w : World} (hR : Rel m H w) (hvs : All2 (VR m) vs vs') {Q : Fr → Heap → Prop} {R : Value → Heap → Prop}
    (run : ∀ (b : Frame), b.roundOf = none → ∀ tmps, St fn.ntmps w.heap.size m H w (frOf vs) tmps [] → ∀ cs, ∃ m' H' w' a' tmps' ds' k', St fn.ntmps w.heap.size m' H' w' a' tmps' ds' ∧ Sim m H w m' H' w' ∧ Q a' H' ∧ Steps P (lone (onF b tmps [] [.code c]) cs w) (lone (onF b tmps' ds' (.code .ret :: k')) cs w'))
    (hres : ∀ a' H', Q a' H' → ∃ rs, resList P a' H' fn.results.toList = some rs ∧ R (pack rs) H') :
    Calls P f vs'.toArray w fun e w2 => ∃ m' H' v v', e = .returned v' ∧ Sim m H w m' H' w2 ∧ VR m' v v' ∧ R v H' := by
  intro cs
  let b : Frame := { (default : Frame) with fn := f, kind := .normal, roundOf := none }
  have hf := frOf_rel hvs hle
  obtain ⟨m1, H1, w1, a1, t1, d1, k', s1, s2, hQ, s5⟩ := run b rfl _ ⟨hR, hf, .nil (Nat.le_refl _)⟩ cs
  have enter : lone (Frame.enter P f vs'.toArray .normal) cs w = lone (onF b (vs'.toArray ++ Array.replicate (fn.ntmps - vs'.length) undef) [] [.code c]) cs w := by
    simp [Frame.enter, hfn, hbody, onF, b]
  obtain ⟨w2, k1, k2, k3, k4, k5, k6, k7, k8⟩ := take_marks (P := P) d1 s1.mks s1.rel
  have hsim : Sim m H w m1 H1 w2 := ⟨s2.ext, k2, ⟨k3.trans s2.keep.os, k4.trans s2.keep.tape, k5.trans s2.keep.output, by rw [k6]; exact s2.keep.size, fun g hg hn => (k7 g hg).trans (s2.keep.block g hg hn), by rw [k8]; exact s2.keep.drawn⟩, s2.fresh, s2.grow, s2.img⟩
  obtain ⟨rs, hrs, hRR⟩ := hres a1 H1 hQ
  obtain ⟨v', r1, r2⟩ := results_sound (P := P) k2 s1.fr hok hrs
  have hs : Steps P (lone (Frame.enter P f vs'.toArray .normal) cs w) (lone { onF b t1 d1 (.code .ret :: k') with mode := .returning } cs w1) := by rw [enter]; exact Steps.trans s5 (.one (st_ret rfl))
  exact ⟨.returned v', w2, _, ⟨m1, H1, _, v', rfl, hsim, r2, hRR⟩, hs.trans (k1 b t1 _ cs), rfl, rfl, rfl, rfl, fn, hfn, r1⟩
theorem seq_split {kk : Nat} {x y : Code} {a a' : Fr} {H H' : Heap} (h : evCode P call kk nt none (.seq x y) a H = some (.normal, a', H')) : ∃ a1 H1, evCode P call kk nt none x a H = some (.normal, a1, H1) ∧ evCode P call kk nt none y a1 H1 = some (.normal, a', H') := by
  simp only [evCode] at h
  split at h
  · rename_i a1 H1 h1
    exact ⟨a1, H1, h1, h⟩
  · rename_i hne
    exact absurd h (hne _ _)
end
end Go.Abs
namespace Go.Abs
abbrev Key2 := List Int × List Int
def canS : Nat → List Key2 → List Value
  | _, [] => []
  | j, (r, u) :: l => .slice (some ⟨j, 0, none⟩) r.length 1 :: .slice (some ⟨j + 1, 0, none⟩) u.length 1 :: canS (j + 2) l
def canB : List Key2 → List (List Value)
  | [] => []
  | (r, u) :: l => r.map (.int .i64) :: u.map (.int .i64) :: canB l
def flatE : List (Value × Value) → Option (List Value)
  | [] => some []
  | (.string _, .agg cs) :: r => match cs.toList with
    | [a, b] => (flatE r).map fun l => a :: b :: l
    | _ => none
  | _ => none
noncomputable def ndMapK (d : Nd) (k : List (Value × Value) → RC) : RC := Nd.rec (fun x _ _ => FB.rec RC.no (fun _ _ _ _ => RC.no) (fun _ es _ => k es) (fun _ _ _ _ _ _ _ => RC.no) x) d
noncomputable def preK (P : Program) (call : CallFF) (nt n : Nat) (pre : Code) (slot : Nat) (ays : List Arg) (E : List Key2) : RC :=
  startK ays fun vs H => RC.rec (fun T' H' => (opB 0 [] 0 (.tmp slot)).run [] T' fun p => match p with
    | .pointer (some ⟨pb, 0, none⟩) => cellsK H' pb fun _ _ n t => rowK t 0 n fun cs => match cs with
      | [.map (some mb)] => ndK H' mb fun d => ndMapK d fun es => match flatE es with
        | some fl => matchLs matchS fl (canS 0 E) zeroA 0 fun A m => matchB H' (canB E) 0 A m zeroA
        | none => RC.no
      | _ => RC.no
    | _ => RC.no) (fun _ _ _ => RC.no) (fun _ _ => RC.no) (fun _ _ => RC.no) RC.no RC.no ((cc P 0 nt pre).run ⟨call, n, none⟩ (ofL vs) H)
def PreOK (P : Program) (nt : Nat) (pre : Code) (slot : Nat) (ays : List Arg) (E : List Key2) : Prop :=
  ∃ (call : CallF) (n : Nat) (a' : Fr) (H' : Heap) (pb mb fam : Nat) (own : Bool) (es : List (Value × Value)) (fl : List Value) (acc : List Nat), CallOK P call ∧ CallGrow call ∧ evCode P call n nt none pre (frOf (mkVals 0 ays)) (mkHeap 0 ays) = some (.normal, a', H') ∧ a' slot = .pointer (some ⟨pb, 0, none⟩) ∧
    H'[pb]? = some (.cells fam own [.map (some mb)]) ∧ H'[mb]? = some (.map es) ∧ flatE es = some fl ∧ All2 (MS acc) fl (canS 0 E) ∧ (canB E).length = acc.length ∧
    (∀ (j b : Nat), acc[j]? = some b → ∃ f cs c, H'[b]? = some (.cells f true cs) ∧ (canB E)[j]? = some c ∧ All2 (MS acc) cs c) ∧
    (∀ (i j b c f : Nat) cs ds, i ≠ j → acc[i]? = some b → acc[j]? = some c → H'[b]? = some (.cells f true cs) → H'[c]? = some (.cells f true ds) → False) ∧
    ∀ (b f : Nat) (o : Bool) (cs : List Value), H'[b]? = some (.cells f o cs) → f < H'.length
theorem absH_fam {H : FH} (hH : H.OK) (b f : Nat) (o : Bool) (cs : List Value) (h : (absH H)[b]? = some (.cells f o cs)) : f < (absH H).length := by
  rw [absH_get] at h
  split at h
  · rename_i hb
    have hok := hH.ok b hb
    cases hx : (H.nd b).x with
    | cells fam own n t =>
      rw [hx] at h hok
      injection h with h
      injection h with h1 _ _
      subst h1
      have : (absH H).length = H.n := by simp [absH]
      rw [this]; exact hok.2.1
    | _ => rw [hx] at h; injection h with h; simp [absB] at h
  · cases h
theorem preK_sound {P : Program} {cf : CallFF} {call : CallF} (hc : CallSound cf call) (hok : CallOK P call) (hg : CallGrow call) {nt n slot : Nat} {pre : Code} {ays : List Arg} {E : List Key2} (hlen : ays.length ≤ 100) (h : preK P cf nt n pre slot ays E = RC.skip) : PreOK P nt pre slot ays E := by
  unfold preK startK at h
  generalize hf : (fun (vs : List Value) (H : FH) => _) = f at h
  rcases startR_or ays ⟨0, deadT⟩ f dead_OK with e | ⟨H, hH, habs, e⟩
  · rw [e] at h; cases h
  rw [e] at h
  have habs : absH H = mkHeap 0 ays := by rw [habs]; rfl
  have e0 : mkVals (⟨0, deadT⟩ : FH).n ays = mkVals 0 ays := rfl
  rw [e0] at h
  subst hf
  simp only at h
  have hvl : (mkVals 0 ays).length ≤ 262144 := by
    have : ∀ (ays : List Arg) (k : Nat), (mkVals k ays).length = ays.length := by
      intro ays
      induction ays with
      | nil => intro k; rfl
      | cons a ays ih => intro k; cases a <;> simp [mkVals, ih]
    rw [this]; omega
  have hfra : Fra 0 (frOf (mkVals 0 ays)) (ofL (mkVals 0 ays)) := fun t _ => by rw [den_ofL hvl]
  rcases cc_or (P := P) (L := 0) (nt := nt) (c := ⟨cf, n, none⟩) hc pre _ H _ hfra hH with e2 | ⟨x, T', H', a', h1, h2, h3, h4⟩
  · rw [e2] at h; cases h
  rw [h4] at h
  cases x with
  | exit id => cases h
  | ret => cases h
  | normal =>
    simp only [mkRC] at h
    generalize hg2 : (fun (p : Value) => (_ : RC)) = g at h
    rcases opB_or (FInv.start h3) (.tmp slot) g with e3 | e3
    · rw [e3] at h; cases h
    rw [e3] at h
    subst hg2
    simp only at h
    split at h
    case h_2 => cases h
    rename_i pb hp
    have hp : a' slot = .pointer (some ⟨pb, 0, none⟩) := hp
    rcases cellsK_or H' pb _ with e4 | ⟨fam, own, m, t, hb, hx, e4⟩
    · rw [e4] at h; cases h
    rw [e4] at h
    rw [rowK_eq (t := t) (o := 0) (n := m) (m := m) (by omega)] at h
    have hdr : ((toL m t).drop 0).take m = toL m t := by rw [List.drop_zero, List.take_of_length_le (by rw [toL_length]; exact Nat.le_refl _)]
    rw [hdr] at h
    split at h
    case h_2 => cases h
    rename_i mb hcs
    rw [ndK_eq] at h
    split at h
    case isFalse => cases h
    rename_i hmb
    have hmap : ∃ kk es mt, (H'.nd mb).x = .map kk es mt ∧ (match flatE es with | some fl => matchLs matchS fl (canS 0 E) zeroA 0 fun A m => matchB H' (canB E) 0 A m zeroA | none => RC.no) = RC.skip := by
      unfold ndMapK at h
      cases hd : H'.nd mb with
      | mk x mx ms =>
        rw [hd] at h
        cases x with
        | map kk es mt => exact ⟨kk, es, mt, rfl, h⟩
        | _ => cases h
    obtain ⟨kk, es, mt, hes, h⟩ := hmap
    split at h
    case h_2 => cases h
    rename_i fl hfl
    rcases matchLs_or matchS (M := MS) (fun g _ _ h => h.mono g) (fun v u A m hm k => matchS_or hm k) fl (canS 0 E) zeroA 0 (by omega) (fun A m => matchB H' (canB E) 0 A m zeroA) with e5 | ⟨A, mm, g1, k1, e5⟩
    · rw [e5] at h; cases h
    rw [e5] at h
    obtain ⟨A', m', g2, hlenB, hall, hdis⟩ := matchB_or h1 (canB E) 0 A mm zeroA g1.top h
    have hl : (accL A' m').length = m' := by simp [accL]
    refine ⟨call, n, a', absH H', pb, mb, fam, own, es, fl, accL A' m', hok, hg, by rw [← habs]; exact h2, hp, by rw [cells_abs hb hx, hcs], ?_, hfl, k1.mono fun _ _ h => h.mono g2, by rw [hl]; omega, ?_, ?_, absH_fam h1⟩
    · rw [absH_get, if_pos hmb, hes]; rfl
    · intro j b hj
      have hjm : j < (canB E).length := by have := lt_of_get hj; rw [hl] at this; omega
      obtain ⟨b', fam, n, t, c, z1, z2, z3, z4, z5, _⟩ := hall j hjm
      rw [Nat.zero_add, hj] at z1
      cases z1
      exact ⟨fam, toL n t, c, cells_abs z2 z3, z4, z5⟩
    · intro i j b c f cs ds hij h1 h2 h3 h4
      have him : i < (canB E).length := by have := lt_of_get h1; rw [hl] at this; omega
      have hjm : j < (canB E).length := by have := lt_of_get h2; rw [hl] at this; omega
      obtain ⟨b', fam, n, t, c', z1, z2, z3, _⟩ := hall i him
      obtain ⟨b2, fam2, n2, t2, c2, y1, y2, y3, _⟩ := hall j hjm
      rw [Nat.zero_add, h1] at z1
      cases z1
      rw [Nat.zero_add, h2] at y1
      cases y1
      rw [cells_abs z2 z3] at h3
      rw [cells_abs y2 y3] at h4
      cases h3
      cases h4
      rcases Nat.lt_or_gt_of_ne hij with hlt | hlt
      · exact hdis i j b c _ n n2 t t2 hlt hjm (by rw [Nat.zero_add]; exact h1) (by rw [Nat.zero_add]; exact h2) z3 y3
      · exact hdis j i c b _ n2 n t2 t hlt him (by rw [Nat.zero_add]; exact h2) (by rw [Nat.zero_add]; exact h1) y3 z3
end Go.Abs
namespace Go.Abs
section
variable {P : Program} {nt lo : Nat} {call : CallF} {m : Mp} {H H' : Heap} {w : World} {a a' : Fr} {tmps : Array Value} {ds : List Deferred}
theorem St.head (hcall : CallOK P call) (hdraw : DrawOK P call nt) {b : Frame} (hb : b.roundOf = none) {kk : Nat} {c d : Code} (hok : codeOk nt c = true) (h : evCode P call kk nt none c a H = some (.normal, a', H')) (s : St nt lo m H w a tmps ds) (k : List Item) (cs : List Frame) :
    ∃ m' w' tmps' ds', Sim m H w m' H' w' ∧ St nt lo m' H' w' a' tmps' ds' ∧ Steps P (lone (onF b tmps ds (.code (.seq c d) :: k)) cs w) (lone (onF b tmps' ds' (.code d :: k)) cs w') := by
  obtain ⟨m1, w1, t1, d1, s1, s2, s3⟩ := s.code hcall hdraw hb hok h (.code d :: k) cs
  exact ⟨m1, w1, t1, d1, s1, s2, .head st_seq s3⟩
theorem line_rel {f : Nat} {fn : Func} {c : Code} (hfn : P.funcs[f]? = some fn) (hbody : fn.body = some c) (hok : fn.results.toList.all (resOk fn.ntmps) = true) (hent : ∀ args w, (callFunc f args).run P w = .ok (.enter f args) w) {ays : List Arg} (hle : (mkVals 0 ays).length ≤ fn.ntmps) {r : Res} {Q : Fr → Heap → Prop}
    (run : ∀ (m : Mp) (w : World), Rel m (mkHeap 0 ays) w → ∀ (b : Frame), b.roundOf = none → ∀ tmps, St fn.ntmps w.heap.size m (mkHeap 0 ays) w (frOf (mkVals 0 ays)) tmps [] → ∀ cs, ∃ m' H' w' a' tmps' ds' k', St fn.ntmps w.heap.size m' H' w' a' tmps' ds' ∧ Sim m (mkHeap 0 ays) w m' H' w' ∧ Q a' H' ∧ Steps P (lone (onF b tmps [] [.code c]) cs w) (lone (onF b tmps' ds' (.code .ret :: k')) cs w'))
    (hres : ∀ a' H', Q a' H' → ∃ rs, resList P a' H' fn.results.toList = some rs ∧ ∃ acc, GoodRes acc H' (pack rs) r) : LineOK P f ays r := by
  intro ms w args' hR hargs
  have hc := func_rel (P := P) trivial hfn hbody hok hle hR hargs (Q := Q) (R := fun v H' => ∃ acc, GoodRes acc H' v r) (run ms w hR) hres
  refine ⟨.enter f args', Frame.enter P f args' .normal, ?_, .enter _ _, fun fr cs' => ?_⟩
  · have := hent args' w
    simpa [Deferred.ofValue, invoke] using this
  · obtain ⟨e, w2, fr2, ⟨m', H', v, v', rfl, h1, h2, acc, h3⟩, q1, _, q2⟩ := hc (fr :: cs')
    exact ⟨acc, v, H', m', w2, v', h3, h1, h2, Steps.trans q1 (.one (step_leave_returned q2))⟩
end
end Go.Abs
namespace Go.Abs
open Go.Sort
section
variable {P : Program}
def sortN (F : Nat) : CallF := fun fv args H => match fv, args with
  | .func (.func f) fs cap, [.slice none 0 0, .func (.func _) fs' _] =>
    if f = F ∧ (fs.isEmpty && cap.isEmpty && fs'.isEmpty) = true then some (.tuple #[], H) else none
  | _, _ => none
theorem sortN_ok {F : Nat} (hent : ∀ args w, (callFunc F args).run P w = .ok (.enter F args) w) (hS : ∀ (fv : Value) (w : World), Calls P F #[.slice none 0 0, fv] w fun e w' => e = .returned (.tuple #[]) ∧ w' = w) : CallOK P (sortN F) := by
  intro fv args H v H' h m w fv' args' hR hfv hargs
  unfold sortN at h
  split at h
  case h_2 => cases h
  rename_i f fs0 cap0 g fs1 cap1
  split at h
  case isFalse => cases h
  rename_i hc
  obtain ⟨rfl, hem⟩ := hc
  simp only [Bool.and_eq_true, Array.isEmpty_iff] at hem
  obtain ⟨⟨rfl, rfl⟩, rfl⟩ := hem
  injection h with h
  injection h with h1 h2
  subst h1; subst h2
  obtain rfl : fv' = .func (.func f) #[] #[] := by
    cases hfv with
    | a h => cases h with
      | s h => cases h with
        | func _ _ cap' hc =>
          have : cap' = #[] := by cases cap' with | mk l => cases hc; rfl
          rw [this]
  have hargs2 : ∃ fv2, args' = #[.slice none 0 0, fv2] := by
    cases args' with
    | mk ays =>
      cases hargs with
      | cons ha hb =>
        cases hb with
        | cons hb hc =>
          cases hc
          cases ha with
          | a ha => cases ha with
            | s ha => cases ha with
              | sliceNil => exact ⟨_, rfl⟩
  obtain ⟨fv2, rfl⟩ := hargs2
  refine ⟨.enter f #[.slice none 0 0, fv2], Frame.enter P f #[.slice none 0 0, fv2] .normal, ?_, .enter _ _, fun fr cs' => ?_⟩
  · have := hent #[.slice none 0 0, fv2] w
    simpa [Deferred.ofValue, invoke] using this
  · obtain ⟨e, w2, fr2, ⟨rfl, rfl⟩, k1, _, k2⟩ := hS fv2 w (fr :: cs')
    exact ⟨m, w2, .tuple #[], .refl hR, .tuple .nil, Steps.trans k1 (.one (step_leave_returned k2))⟩
theorem sortN_grow {F : Nat} : CallGrow (sortN F) := by
  intro fv args H v H' h
  unfold sortN at h
  split at h
  case h_2 => cases h
  split at h
  case isFalse => cases h
  injection h with h
  injection h with h1 h2
  subst h2
  exact Nat.le_refl _
end
end Go.Abs
namespace Go.Abs
noncomputable def topC (P : Program) (okF : Nat → Bool) (call : CallFF) (n f : Nat) (ays : List Arg) : RC :=
 startK ays fun vs H => RC.rec (fun _ _ => RC.no) (fun _ _ _ => RC.no) (fun _ _ => RC.no) (fun u _ => Bool.rec RC.no RC.skip (vEq2 u (.bool true))) RC.no RC.no (bodyK P okF call n (.func (.func f) #[] #[]) vs H)
open Go.RowKit in
theorem SpOk.topC {P : Program} {okF : Nat → Bool} (hF : ∀ f fn c, okF f = true → P.funcs[f]? = some fn → fn.body = some c → funcOk fn c = true) (hmix : P.follows .mixedOrders = true) {sp : Spec} (h : SpOk P sp) {n f : Nat} {ays : List Arg}
  (hs : topC P okF (evF P okF (tabF sp) n) n f ays = RC.skip) {w : World} {args : Array Value} (ha : All2 (ArgAt w) ays args.toList) : Calls P f args w fun e w' => e = .returned (.bool true) ∧ Below w.heap.size w w' := by
 obtain ⟨c1, c2, c3⟩ := h.calls hF hmix n
 unfold Abs.topC startK at hs
 rcases startR_or ays ⟨0, deadT⟩ (fun vs H => RC.rec (fun _ _ => RC.no) (fun _ _ _ => RC.no) (fun _ _ => RC.no) (fun u _ => Bool.rec RC.no RC.skip (vEq2 u (.bool true))) RC.no RC.no (bodyK P okF (evF P okF (tabF sp) n) n (.func (.func f) #[] #[]) vs H)) dead_OK with e | ⟨H, hH, habs, e⟩
 ·rw [e] at hs; cases hs
 rw [e] at hs
 have habs : absH H = mkHeap 0 ays := by rw [habs]; rfl
 have e0 : mkVals (⟨0, deadT⟩ : FH).n ays = mkVals 0 ays := rfl
 rw [e0] at hs
 cases hr : bodyK P okF (evF P okF (tabF sp) n) n (.func (.func f) #[] #[]) (mkVals 0 ays) H with
 | val u H' =>
   rw [hr] at hs
   simp only at hs
   cases hv : vEq2 u (.bool true) with
   | false => rw [hv] at hs; cases hs
   | true =>
     obtain rfl := vEq2_sound hv
     obtain ⟨_, o2⟩ := bodyK_sound hF c1 n _ _ _ _ _ hH hr
     rw [habs] at o2
     exact law_args hmix c2 c3 o2 ha
 | _ => rw [hr] at hs; cases hs
end Go.Abs
