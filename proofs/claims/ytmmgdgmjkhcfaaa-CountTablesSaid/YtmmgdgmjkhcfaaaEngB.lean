/- The relation between the abstract heap and the world, and that new blocks, reads, writes keep it. -/
import Derived.Test.YtmmgdgmjkhcfaaaEngA
import Derived.Laws.Entries
import Derived.Below
namespace Go.Abs
inductive All2 {α β : Type} (R : α → β → Prop) : List α → List β → Prop
  | nil : All2 R [] []
  | cons {x y l l'} : R x y → All2 R l l' → All2 R (x :: l) (y :: l')
section
variable {α β : Type} {R S : α → β → Prop}
theorem All2.mono {l : List α} {l' : List β} (h : All2 R l l') (f : ∀ x y, R x y → S x y) : All2 S l l' := by
  induction h with
  | nil => exact .nil
  | cons h _ ih => exact .cons (f _ _ h) ih
theorem All2.length {l : List α} {l' : List β} (h : All2 R l l') : l.length = l'.length := by
  induction h with
  | nil => rfl
  | cons _ _ ih => simp [ih]
theorem All2.get {l : List α} {l' : List β} (h : All2 R l l') : ∀ (i : Nat) (x : α), l[i]? = some x → ∃ y, l'[i]? = some y ∧ R x y := by
  induction h with
  | nil => intro i x hx; simp at hx
  | cons h _ ih =>
    intro i x hx
    cases i with
    | zero => simp at hx; subst hx; exact ⟨_, by simp, h⟩
    | succ i => simp at hx; simpa using ih i x hx
theorem All2.getR {l : List α} {l' : List β} (h : All2 R l l') : ∀ (i : Nat) (y : β), l'[i]? = some y → ∃ x, l[i]? = some x ∧ R x y := by
  induction h with
  | nil => intro i y hy; simp at hy
  | cons hxy _ ih =>
    intro i y hy
    cases i with
    | zero => simp at hy; subst hy; exact ⟨_, rfl, hxy⟩
    | succ i => simpa using ih i y (by simpa using hy)
theorem All2.append {l m : List α} {l' m' : List β} (h : All2 R l l') (k : All2 R m m') : All2 R (l ++ m) (l' ++ m') := by
  induction h with
  | nil => exact k
  | cons h _ ih => exact .cons h ih
theorem All2.take {l : List α} {l' : List β} (h : All2 R l l') : ∀ n, All2 R (l.take n) (l'.take n) := by
  induction h with
  | nil => intro n; simp; exact .nil
  | cons h _ ih =>
    intro n
    cases n with
    | zero => simp; exact .nil
    | succ n => simp; exact .cons h (ih n)
theorem All2.drop {l : List α} {l' : List β} (h : All2 R l l') : ∀ n, All2 R (l.drop n) (l'.drop n) := by
  induction h with
  | nil => intro n; simp; exact .nil
  | cons h t ih =>
    intro n
    cases n with
    | zero => simp; exact .cons h t
    | succ n => simp; exact ih n
theorem All2.set {l : List α} {l' : List β} (h : All2 R l l') {x : α} {y : β} (hxy : R x y) : ∀ n, All2 R (l.set n x) (l'.set n y) := by
  induction h with
  | nil => intro n; simp; exact .nil
  | cons h t ih =>
    intro n
    cases n with
    | zero => simp; exact .cons hxy t
    | succ n => simp; exact .cons h (ih n)
theorem All2.of_get {l : List α} : ∀ {l' : List β}, l.length = l'.length → (∀ (i : Nat) x y, l[i]? = some x → l'[i]? = some y → R x y) → All2 R l l' := by
  induction l with
  | nil => intro l' hl _; cases l' with | nil => exact .nil | cons _ _ => simp at hl
  | cons x l ih =>
    intro l' hl h
    cases l' with
    | nil => simp at hl
    | cons y l' =>
      refine .cons (h 0 x y (by simp) (by simp)) (ih (by simpa using hl) fun i a b ha hb => h (i + 1) a b (by simpa using ha) (by simpa using hb))
theorem All2.map_same {γ : Type} {R : β → β → Prop} {f g : γ → β} (l : List γ) (h : ∀ x ∈ l, R (f x) (g x)) : All2 R (l.map f) (l.map g) := by
  induction l with
  | nil => exact .nil
  | cons x l ih => exact .cons (h x (by simp)) (ih fun y hy => h y (by simp [hy]))
end

structure Loc where
  g : Nat
  o : Nat
  N : Nat
/-- Where the blocks lie: not every number has a place (yet). -/
abbrev Mp := Nat → Option Loc
def psh (m : Mp) (n : Nat) (l : Loc) : Mp := fun b => if b = n then some l else m b
theorem psh_new (m : Mp) (n : Nat) (l : Loc) : psh m n l n = some l := by simp [psh]
theorem psh_old {m : Mp} {n b : Nat} (l : Loc) (h : b ≠ n) : psh m n l b = m b := by simp [psh, h]
/-- Pointers that a closure has captured. -/
inductive PR (m : Mp) : Value → Value → Prop
  | ptr (b o : Nat) (l : Loc) : m b = some l → PR m (.pointer (some ⟨b, o, none⟩)) (.pointer (some ⟨l.g, l.o + o, none⟩))
inductive SR (m : Mp) : Value → Value → Prop
  | bool (b : Bool) : SR m (.bool b) (.bool b)
  | int (k : IntKind) (n : Int) : SR m (.int k n) (.int k n)
  | string (s : ByteArray) : SR m (.string s) (.string s)
  | ptrNil : SR m (.pointer none) (.pointer none)
  | sliceNil : SR m (.slice none 0 0) (.slice none 0 0)
  | mapNil : SR m (.map none) (.map none)
  | nilFunc : SR m .nilFunc .nilFunc
  | nilIface : SR m .nilIface .nilIface
  | ptr (b o : Nat) (l : Loc) : m b = some l → SR m (.pointer (some ⟨b, o, none⟩)) (.pointer (some ⟨l.g, l.o + o, none⟩))
  | slice (b o n e c : Nat) (l : Loc) : m b = some l → n ≤ c → l.o + o + c * e ≤ l.N → SR m (.slice (some ⟨b, o, none⟩) n e) (.slice (some ⟨l.g, l.o + o, none⟩) n c)
  | lost (p : Nat) (c : Nat) (g : Addr) (c' : Nat) : SR m (.slice (some ⟨0, 0, some p⟩) 0 c) (.slice (some g) 0 c')
  | map (b : Nat) (l : Loc) : m b = some l → SR m (.map (some b)) (.map (some l.g))
  | func (f : Nat) (cap cap' : Array Value) : All2 (PR m) cap.toList cap'.toList → SR m (.func (.func f) #[] cap) (.func (.func f) #[] cap')
  | yield (b : Nat) (l : Loc) : m b = some l → SR m (.func (.yield b) #[] #[]) (.func (.yield l.g) #[] #[])
inductive AR (m : Mp) : Value → Value → Prop
  | s {v v'} : SR m v v' → AR m v v'
  | agg {cs cs' : Array Value} : All2 (SR m) cs.toList cs'.toList → AR m (.agg cs) (.agg cs')
inductive VR (m : Mp) : Value → Value → Prop
  | a {v v'} : AR m v v' → VR m v v'
  | tuple {vs vs' : Array Value} : All2 (AR m) vs.toList vs'.toList → VR m (.tuple vs) (.tuple vs')
theorem VR.undef (m : Mp) : VR m undef undef := .tuple .nil
/-- The one list of places goes on from the other. -/
def Ext (m m' : Mp) : Prop := ∀ (b : Nat) (l : Loc), m b = some l → m' b = some l
theorem Ext.refl (m : Mp) : Ext m m := fun _ _ h => h
theorem Ext.trans {a b c : Mp} (h : Ext a b) (k : Ext b c) : Ext a c := fun i l hi => k i l (h i l hi)
theorem Ext.push {m : Mp} {n : Nat} (l : Loc) (hn : m n = none) : Ext m (psh m n l) := fun b x h => by
  rw [psh_old l (fun e => by subst e; rw [hn] at h; cases h)]; exact h
section
variable {m m' : Mp} (hm : Ext m m')
include hm
theorem PR.mono {v v' : Value} (h : PR m v v') : PR m' v v' := by
  cases h with
  | ptr b o l hl => exact .ptr b o l (hm _ _ hl)
theorem SR.mono {v v' : Value} (h : SR m v v') : SR m' v v' := by
  cases h with
  | bool b => exact .bool b
  | int k n => exact .int k n
  | string s => exact .string s
  | ptrNil => exact .ptrNil
  | sliceNil => exact .sliceNil
  | mapNil => exact .mapNil
  | nilFunc => exact .nilFunc
  | nilIface => exact .nilIface
  | ptr b o l hl => exact .ptr b o l (hm _ _ hl)
  | slice b o n e c l hl h1 h2 => exact .slice b o n e c l (hm _ _ hl) h1 h2
  | lost p c g c' => exact .lost p c g c'
  | map b l hl => exact .map b l (hm _ _ hl)
  | func f c c' h => exact .func f c c' (h.mono fun _ _ => PR.mono hm)
  | yield b l hl => exact .yield b l (hm _ _ hl)
theorem AR.mono {v v' : Value} (h : AR m v v') : AR m' v v' := by
  cases h with
  | s h => exact .s (h.mono hm)
  | agg h => exact .agg (h.mono fun _ _ => SR.mono hm)
theorem VR.mono {v v' : Value} (h : VR m v v') : VR m' v v' := by
  cases h with
  | a h => exact .a (h.mono hm)
  | tuple h => exact .tuple (h.mono fun _ _ => AR.mono hm)
end
theorem SR.plain {m : Mp} {v v' : Value} (hp : Abs.plain v = true) (h : SR m v v') : v' = v := by
  cases h <;> first | rfl | simp [Abs.plain] at hp
theorem VR.plain {m : Mp} {v v' : Value} (hp : Abs.plain v = true) (h : VR m v v') : v' = v := by
  cases h with
  | a h => cases h with
    | s h => exact h.plain hp
    | agg h => simp [Abs.plain] at hp
  | tuple h => simp [Abs.plain] at hp
theorem VR.of_plain (m : Mp) {v : Value} (hp : Abs.plain v = true) : VR m v v := by
  cases v <;> first | exact .a (.s (.bool _)) | exact .a (.s (.int _ _)) | exact .a (.s (.string _)) | simp [Abs.plain] at hp
theorem SR.of_const (m : Mp) {v : Value} (h : constOk v = true) : SR m v v := by
  unfold constOk at h
  split at h <;> first | constructor | cases h
theorem AR.of_const (m : Mp) {v : Value} (h : constAgg v = true) : AR m v v := by
  unfold constAgg at h
  split at h
  · rename_i cs
    refine .agg ?_
    have := All2.map_same (R := SR m) (f := id) (g := id) cs.toList (fun x hx => SR.of_const m (List.all_eq_true.1 h x hx))
    simpa using this
  · exact .s (.of_const m h)

/-- May the block be written? -/
def Blk.owned : Blk → Bool
  | .dead => false
  | .cells _ own _ => own
  | .map _ => true
  | .loop .. => true
def Blk.live : Blk → Bool
  | .dead => false
  | _ => true
def Blk.kin : Blk → Blk → Prop
  | .cells f true _, .cells g true _ => f = g
  | _, _ => False
def FR (m : Mp) (nt : Nat) (a : Fr) (tmps : Array Value) : Prop := tmps.size = nt ∧ ∀ t, t < nt → ∃ v', tmps[t]? = some v' ∧ VR m (a t) v'
def BR (m : Mp) (w : World) (l : Loc) : Blk → Prop
  | .dead => True
  | .cells _ own cs => ∃ C el fr, w.heap[l.g]? = some (.cells C el fr) ∧ C.size = l.N ∧ (own = true → fr = (0, 0)) ∧ ∀ i v, cs[i]? = some v → ∃ v', C[l.o + i]? = some v' ∧ SR m v v'
  | .map es => ∃ es' ck, w.heap[l.g]? = some (.map es' ck) ∧ All2 (fun (e : Value × Value) (e' : MapEntry) => e'.key = e.1 ∧ AR m e.2 e'.val) es es'.toList
  | .loop st pend nt tmps params assign body => ∃ fn ds tmps', w.heap[l.g]? = some (.loop { state := st, pending := pend, fn := fn, tmps := tmps', params := params.toArray, assign := assign, body := body, defers := ds }) ∧
      FR m nt tmps tmps' ∧ codeOk nt assign = true ∧ codeOk nt body = true ∧ params.all (· < nt) = true
structure Rel (m : Mp) (H : Heap) (w : World) : Prop where
  len : ∀ b l, m b = some l → b < H.length
  has : ∀ (b : Nat) x, H[b]? = some x → x.live = true → ∃ l, m b = some l
  bnd : ∀ b l, m b = some l → l.g < w.heap.size
  blk : ∀ (b : Nat) x l, H[b]? = some x → m b = some l → BR m w l x
  sep : ∀ (b c : Nat) x y l k, b ≠ c → H[b]? = some x → H[c]? = some y → m b = some l → m c = some k → x.owned = true → y.live = true → l.g = k.g → x.kin y ∧ l.o = k.o
def Owned (m : Mp) (H : Heap) (g : Nat) : Prop := ∃ (b : Nat) (x : Blk) (l : Loc), H[b]? = some x ∧ m b = some l ∧ x.owned = true ∧ l.g = g
/-- What a run leaves of the world: streams and tape as they were, and every block that is not the heap's own. -/
structure Keep (m : Mp) (H : Heap) (w w' : World) : Prop where
  os : w'.os = w.os
  tape : w'.tape = w.tape
  output : w'.output = w.output
  size : w.heap.size ≤ w'.heap.size
  block : ∀ g, g < w.heap.size → ¬ Owned m H g → w'.heap[g]? = w.heap[g]?
structure Sim (m : Mp) (H : Heap) (w : World) (m' : Mp) (H' : Heap) (w' : World) : Prop where
  ext : Ext m m'
  rel : Rel m' H' w'
  keep : Keep m H w w'
  fresh : ∀ g, Owned m' H' g → Owned m H g ∨ w.heap.size ≤ g
  grow : H.length ≤ H'.length
  img : ∀ b l, m' b = some l → (∃ c k, m c = some k ∧ k.g = l.g) ∨ w.heap.size ≤ l.g
theorem Keep.refl (m : Mp) (H : Heap) (w : World) : Keep m H w w := ⟨rfl, rfl, rfl, Nat.le_refl _, fun _ _ _ => rfl⟩
theorem Sim.refl {m : Mp} {H : Heap} {w : World} (h : Rel m H w) : Sim m H w m H w := ⟨.refl m, h, .refl m H w, fun _ h => .inl h, Nat.le_refl _, fun b l h => .inl ⟨b, l, h, rfl⟩⟩
theorem Sim.trans {m1 m2 m3 : Mp} {H1 H2 H3 : Heap} {w1 w2 w3 : World} (h : Sim m1 H1 w1 m2 H2 w2) (k : Sim m2 H2 w2 m3 H3 w3) : Sim m1 H1 w1 m3 H3 w3 where
  ext := h.ext.trans k.ext
  rel := k.rel
  keep := ⟨k.keep.os.trans h.keep.os, k.keep.tape.trans h.keep.tape, k.keep.output.trans h.keep.output, Nat.le_trans h.keep.size k.keep.size, fun g hg hn =>
    (k.keep.block g (Nat.lt_of_lt_of_le hg h.keep.size) fun ho => by
      rcases h.fresh g ho with ho | ho
      · exact hn ho
      · omega).trans (h.keep.block g hg hn)⟩
  fresh := fun g ho => by
    rcases k.fresh g ho with ho | ho
    · exact h.fresh g ho
    · exact .inr (Nat.le_trans h.keep.size ho)
  grow := Nat.le_trans h.grow k.grow
  img := fun b l hb => by
    rcases k.img b l hb with ⟨c, j, hc, hj⟩ | hg
    · rcases h.img c j hc with ⟨d, i, hd, hi⟩ | hg
      · exact .inl ⟨d, i, hd, hi.trans hj⟩
      · exact .inr (by omega)
    · exact .inr (Nat.le_trans h.keep.size hg)

theorem lt_of_get {α : Type} {l : List α} {i : Nat} {x : α} (h : l[i]? = some x) : i < l.length := by
  rcases Nat.lt_or_ge i l.length with hlt | hge
  · exact hlt
  · rw [List.getElem?_eq_none hge] at h; cases h
theorem Rel.free {m : Mp} {H : Heap} {w : World} (h : Rel m H w) : m H.length = none := by
  cases hm : m H.length with
  | none => rfl
  | some l => exact absurd (h.len _ _ hm) (Nat.lt_irrefl _)
theorem FR.mono {m m' : Mp} (hm : Ext m m') {nt : Nat} {a : Fr} {tmps : Array Value} (h : FR m nt a tmps) : FR m' nt a tmps :=
  ⟨h.1, fun t ht => let ⟨v', h1, h2⟩ := h.2 t ht; ⟨v', h1, h2.mono hm⟩⟩
theorem BR.lt {m : Mp} {w : World} {l : Loc} {x : Blk} (h : BR m w l x) (hl : x.live = true) : l.g < w.heap.size := by
  have : ∀ o, w.heap[l.g]? = some o → l.g < w.heap.size := fun o ho => by
    rcases Nat.lt_or_ge l.g w.heap.size with hlt | hge
    · exact hlt
    · rw [Array.getElem?_eq_none hge] at ho; cases ho
  cases x with
  | dead => cases hl
  | cells f own cs => obtain ⟨C, el, fr, h, _⟩ := h; exact this _ h
  | map es => obtain ⟨es', ck, h, _⟩ := h; exact this _ h
  | loop st pend nt tmps params assign body => obtain ⟨fn, ds, tmps', h, _⟩ := h; exact this _ h
/-- A block stands where its place in the world reads as it did. -/
theorem BR.keep {m m' : Mp} (hm : Ext m m') {w w' : World} {l : Loc} {x : Blk} (h : BR m w l x) (hw : x.live = true → w'.heap[l.g]? = w.heap[l.g]?) : BR m' w' l x := by
  cases x with
  | dead => trivial
  | cells f own cs =>
    obtain ⟨C, el, fr, h1, h2, h3, h4⟩ := h
    exact ⟨C, el, fr, (hw rfl).trans h1, h2, h3, fun i v hv => let ⟨v', a, b⟩ := h4 i v hv; ⟨v', a, b.mono hm⟩⟩
  | map es =>
    obtain ⟨es', ck, h1, h2⟩ := h
    exact ⟨es', ck, (hw rfl).trans h1, h2.mono fun _ _ h => ⟨h.1, h.2.mono hm⟩⟩
  | loop st pend nt tmps params assign body =>
    obtain ⟨fn, ds, tmps', h1, h2, h3⟩ := h
    exact ⟨fn, ds, tmps', (hw rfl).trans h1, h2.mono hm, h3⟩

/-- The world grows by blocks that nobody knows; a count of draws moves. -/
theorem Rel.world {m : Mp} {H : Heap} {w w' : World} (h : Rel m H w) (hw : ∀ g, g < w.heap.size → w'.heap[g]? = w.heap[g]?) : Rel m H w' where
  len := h.len
  has := h.has
  bnd := fun b l hb => by
    have h1 := h.bnd b l hb
    have h2 := hw _ h1
    rw [Array.getElem?_eq_getElem h1] at h2
    rcases Nat.lt_or_ge l.g w'.heap.size with hlt | hge
    · exact hlt
    · rw [Array.getElem?_eq_none hge] at h2; cases h2
  blk := fun b x l hx hl => (h.blk b x l hx hl).keep (.refl m) fun hlive => hw _ ((h.blk b x l hx hl).lt hlive)
  sep := h.sep
theorem heap_push_lt (w : World) (o : Obj) {g : Nat} (hg : g < w.heap.size) : (w.heap.push o)[g]? = w.heap[g]? := by
  rw [Array.getElem?_push, if_neg (by omega)]
theorem heap_push_eq (w : World) (o : Obj) : (w.heap.push o)[w.heap.size]? = some o := by
  rw [Array.getElem?_push, if_pos rfl]
/-- A new block, known at once. -/
theorem Sim.push {m : Mp} {H : Heap} {w : World} (h : Rel m H w) (o : Obj) (x : Blk) (l : Loc) (hl : l.g = w.heap.size) (hown : x.owned = true)
    (hbr : BR (psh m H.length l) { w with heap := w.heap.push o } l x) : Sim m H w (psh m H.length l) (H ++ [x]) { w with heap := w.heap.push o } where
  ext := .push l h.free
  keep := ⟨rfl, rfl, rfl, by simp, fun g hg _ => heap_push_lt w o hg⟩
  rel := by
    have old : ∀ (b : Nat) y k, b ≠ H.length → (H ++ [x])[b]? = some y → psh m H.length l b = some k → H[b]? = some y ∧ m b = some k := by
      intro b y k hb hy hk
      have hlt : b < H.length := by have := lt_of_get hy; simp at this; omega
      rw [List.getElem?_append_left hlt] at hy
      rw [psh_old l hb] at hk
      exact ⟨hy, hk⟩
    have new : ∀ y k, (H ++ [x])[H.length]? = some y → psh m H.length l H.length = some k → y = x ∧ k = l := by
      intro y k hy hk
      rw [List.getElem?_append_right (Nat.le_refl _)] at hy
      rw [psh_new] at hk
      simp at hy hk
      exact ⟨hy.symm, hk.symm⟩
    have oldlt : ∀ (b : Nat) y k, H[b]? = some y → m b = some k → y.live = true → k.g < w.heap.size := fun b y k hy hk hlv => (h.blk b y k hy hk).lt hlv
    have liveOf : ∀ y : Blk, y.owned = true → y.live = true := fun y hy => by cases y <;> first | rfl | cases hy
    refine ⟨fun b k hk => ?_, fun b y hy hlv => ?_, ?_, ?_, ?_⟩
    · by_cases hb : b = H.length
      · subst hb; simp
      · rw [psh_old l hb] at hk
        have := h.len _ _ hk
        simp; omega
    · by_cases hb : b = H.length
      · subst hb; exact ⟨l, psh_new ..⟩
      · have hlt : b < H.length := by have := lt_of_get hy; simp at this; omega
        rw [List.getElem?_append_left hlt] at hy
        rw [psh_old l hb]
        exact h.has b y hy hlv
    · intro b k hk
      by_cases hb : b = H.length
      · subst hb
        rw [psh_new] at hk
        injection hk with hk
        subst hk
        simp; omega
      · rw [psh_old l hb] at hk
        have := h.bnd b k hk
        simp; omega
    · intro b y k hy hk
      by_cases hb : b = H.length
      · subst hb
        obtain ⟨rfl, rfl⟩ := new y k hy hk
        exact hbr
      · obtain ⟨hy, hk⟩ := old b y k hb hy hk
        exact (h.blk b y k hy hk).keep (.push l h.free) fun hlv => heap_push_lt w o (oldlt b y k hy hk hlv)
    · intro b c y z k j hbc hy hz hk hj hyo hzl hg
      by_cases hb : b = H.length
      · subst hb
        obtain ⟨rfl, rfl⟩ := new y k hy hk
        obtain ⟨hz, hj⟩ := old c z j (fun e => hbc e.symm) hz hj
        have := oldlt c z j hz hj hzl
        omega
      · obtain ⟨hy, hk⟩ := old b y k hb hy hk
        have hlt := oldlt b y k hy hk (liveOf y hyo)
        by_cases hc : c = H.length
        · subst hc
          obtain ⟨rfl, rfl⟩ := new z j hz hj
          omega
        · obtain ⟨hz, hj⟩ := old c z j hc hz hj
          exact h.sep b c y z k j hbc hy hz hk hj hyo hzl hg
  fresh := by
    rintro g ⟨b, y, k, hy, hk, ho, hg⟩
    by_cases hb : b = H.length
    · subst hb
      rw [psh_new] at hk
      injection hk with hk
      subst hk
      exact .inr (by omega)
    · have hlt : b < H.length := by have := lt_of_get hy; simp at this; omega
      rw [List.getElem?_append_left hlt] at hy
      rw [psh_old l hb] at hk
      exact .inl ⟨b, y, k, hy, hk, ho, hg⟩
  grow := by simp
  img := fun b k hk => by
    by_cases hb : b = H.length
    · subst hb
      rw [psh_new] at hk
      injection hk with hk
      subst hk
      exact .inr (by omega)
    · rw [psh_old l hb] at hk
      exact .inl ⟨b, k, hk, rfl⟩
/-- A new row of cells of which the first are known. -/
theorem Sim.pushCells {m : Mp} {H : Heap} {w : World} (h : Rel m H w) (C : Array Value) (el : TypeId) (cs : List Value) (hcs : ∀ (i : Nat) (v : Value), cs[i]? = some v → ∃ v', C[i]? = some v' ∧ SR m v v') :
    Sim m H w (psh m H.length ⟨w.heap.size, 0, C.size⟩) (H ++ [.cells H.length true cs]) { w with heap := w.heap.push (.cells C el) } :=
  Sim.push h _ _ ⟨w.heap.size, 0, C.size⟩ rfl rfl ⟨C, el, (0, 0), heap_push_eq w _, rfl, fun _ => rfl, fun i v hv => by
    obtain ⟨v', h1, h2⟩ := hcs i v hv
    exact ⟨v', by simpa using h1, h2.mono (.push _ h.free)⟩⟩
end Go.Abs
