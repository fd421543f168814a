/- The fast evaluator: rows of eight, trees of them, the heap as a tree. -/
import Derived.Test.YtmmgdgmjkhcfaaaEngN
namespace Go.Abs
structure Box (α : Type) where
  run : α
structure D8 (α : Type) where
  (a0 a1 a2 a3 a4 a5 a6 a7 : α)
/-- A tree of rows, so deep. -/
@[reducible] def Dn (α : Type) : Nat → Type
  | 0 => α
  | d + 1 => D8 (Dn α d)
inductive TR (α : Type) where
  | s (t : Dn α 2)
  | m (t : Dn α 3)
  | l (t : Dn α 6)
abbrev FT := TR Value
/-- The entries of a map by the numbers of their keys: a tree by the bits of a number's mix. -/
inductive MT where
  | e
  | n (c : Nat) (v : Value) (l r : MT)
def mfind (c : Nat) : MT → Nat → Option Value
  | .e, _ => none
  | .n c' v l r, h => if c = c' then some v else if h % 2 = 0 then mfind c l (h / 2) else mfind c r (h / 2)
def mins (c : Nat) (v : Value) : MT → Nat → MT
  | .e, _ => .n c v .e .e
  | .n c' v' l r, h => if c = c' then .n c v l r else if h % 2 = 0 then .n c' v' (mins c v l (h / 2)) r else .n c' v' l (mins c v r (h / 2))
def mix (c : Nat) : Nat := Nat.mod (Nat.mul c 11400714819323198485) 2305843009213693951
theorem mfind_same (c : Nat) (v : Value) : ∀ (t : MT) (h : Nat), mfind c (mins c v t h) h = some v := by
  intro t
  induction t with
  | e => intro h; simp [mins, mfind]
  | n c' v' l r ihl ihr =>
    intro h
    unfold mins
    by_cases hc : c = c'
    · simp [hc, mfind]
    · by_cases hh : h % 2 = 0
      · simp [hc, hh, mfind, ihl]
      · simp [hc, hh, mfind, ihr]
theorem mfind_other {c d : Nat} (hd : d ≠ c) (v : Value) : ∀ (t : MT) (h h' : Nat), mfind d (mins c v t h) h' = mfind d t h' := by
  intro t
  induction t with
  | e => intro h h'; simp [mins, mfind, hd]
  | n c' v' l r ihl ihr =>
    intro h h'
    unfold mins
    by_cases hc : c = c'
    · subst hc; simp [mfind, hd]
    · by_cases hh : h % 2 = 0
      · simp [hc, hh, mfind, ihl]
      · simp [hc, hh, mfind, ihr]
def ikNo : IntKind → Nat
  | .i8 => 3 | .i16 => 4 | .i32 => 5 | .i64 => 6 | .u8 => 7 | .u16 => 8 | .u32 => 9 | .u64 => 10
def keyTag : Value → Nat
  | .string _ => 1
  | .bool _ => 2
  | .int k _ => ikNo k
  | _ => 0
def kdTag : TypeDesc → Nat
  | .string => 1
  | .bool => 2
  | .int k => ikNo k
  | _ => 0
def codeBs : List UInt8 → Nat → Nat
  | [], a => a
  | b :: bs, a => codeBs bs (a * 256 + b.toNat)
def codeK' : Value → Nat
  | .string s => codeBs s.data.toList 1
  | .bool b => if b then 1 else 0
  | .int _ (.ofNat n) => 2 * n
  | .int _ (.negSucc n) => 2 * n + 1
  | _ => 0
inductive FB where
  | dead
  | cells (fam : Nat) (own : Bool) (n : Nat) (t : FT)
  | map (kk : Nat) (es : List (Value × Value)) (mt : MT)
  | loop (st : LoopState) (pend : Option Code) (nt : Nat) (T : FT) (params : List Nat) (assign body : Code)
/-- A block, and what is known of the family that began here: a bound on the lengths, the members that are not empty. -/
structure Nd where
  x : FB
  mx : Nat
  ms : List Nat
structure FH where
  n : Nat
  t : TR Nd
inductive RC where
  | nx (T : FT) (H : FH)
  | ex (id : Nat) (T : FT) (H : FH)
  | rt (T : FT) (H : FH)
  | val (v : Value) (H : FH)
  | skip
  | no
namespace D8
variable {α γ : Type}
def rep (x : α) : D8 α := ⟨x, x, x, x, x, x, x, x⟩
def get (c : D8 α) (i : Nat) : α := match i with | 0 => c.a0 | 1 => c.a1 | 2 => c.a2 | 3 => c.a3 | 4 => c.a4 | 5 => c.a5 | 6 => c.a6 | _ => c.a7
def set (c : D8 α) (i : Nat) (v : α) : D8 α := match i with | 0 => ⟨v, c.a1, c.a2, c.a3, c.a4, c.a5, c.a6, c.a7⟩ | 1 => ⟨c.a0, v, c.a2, c.a3, c.a4, c.a5, c.a6, c.a7⟩ | 2 => ⟨c.a0, c.a1, v, c.a3, c.a4, c.a5, c.a6, c.a7⟩ | 3 => ⟨c.a0, c.a1, c.a2, v, c.a4, c.a5, c.a6, c.a7⟩ | 4 => ⟨c.a0, c.a1, c.a2, c.a3, v, c.a5, c.a6, c.a7⟩ | 5 => ⟨c.a0, c.a1, c.a2, c.a3, c.a4, v, c.a6, c.a7⟩ | 6 => ⟨c.a0, c.a1, c.a2, c.a3, c.a4, c.a5, v, c.a7⟩ | _ => ⟨c.a0, c.a1, c.a2, c.a3, c.a4, c.a5, c.a6, v⟩
noncomputable def g0 (i : Nat) : Box (D8 α → (α → RC) → RC) := match i with | 0 => ⟨fun c k => D8.rec (fun x _ _ _ _ _ _ _ => k x) c⟩ | 1 => ⟨fun c k => D8.rec (fun _ x _ _ _ _ _ _ => k x) c⟩ | 2 => ⟨fun c k => D8.rec (fun _ _ x _ _ _ _ _ => k x) c⟩ | 3 => ⟨fun c k => D8.rec (fun _ _ _ x _ _ _ _ => k x) c⟩ | 4 => ⟨fun c k => D8.rec (fun _ _ _ _ x _ _ _ => k x) c⟩ | 5 => ⟨fun c k => D8.rec (fun _ _ _ _ _ x _ _ => k x) c⟩ | 6 => ⟨fun c k => D8.rec (fun _ _ _ _ _ _ x _ => k x) c⟩ | _ => ⟨fun c k => D8.rec (fun _ _ _ _ _ _ _ x => k x) c⟩
noncomputable def gC (inner : Box (γ → (α → RC) → RC)) (i : Nat) : Box (D8 γ → (α → RC) → RC) := match i with | 0 => ⟨fun c k => D8.rec (fun x _ _ _ _ _ _ _ => inner.run x k) c⟩ | 1 => ⟨fun c k => D8.rec (fun _ x _ _ _ _ _ _ => inner.run x k) c⟩ | 2 => ⟨fun c k => D8.rec (fun _ _ x _ _ _ _ _ => inner.run x k) c⟩ | 3 => ⟨fun c k => D8.rec (fun _ _ _ x _ _ _ _ => inner.run x k) c⟩ | 4 => ⟨fun c k => D8.rec (fun _ _ _ _ x _ _ _ => inner.run x k) c⟩ | 5 => ⟨fun c k => D8.rec (fun _ _ _ _ _ x _ _ => inner.run x k) c⟩ | 6 => ⟨fun c k => D8.rec (fun _ _ _ _ _ _ x _ => inner.run x k) c⟩ | _ => ⟨fun c k => D8.rec (fun _ _ _ _ _ _ _ x => inner.run x k) c⟩
noncomputable def s0 (i : Nat) : Box (D8 α → α → (D8 α → RC) → RC) := match i with | 0 => ⟨fun c v k => D8.rec (fun _ x1 x2 x3 x4 x5 x6 x7 => k ⟨v, x1, x2, x3, x4, x5, x6, x7⟩) c⟩ | 1 => ⟨fun c v k => D8.rec (fun x0 _ x2 x3 x4 x5 x6 x7 => k ⟨x0, v, x2, x3, x4, x5, x6, x7⟩) c⟩ | 2 => ⟨fun c v k => D8.rec (fun x0 x1 _ x3 x4 x5 x6 x7 => k ⟨x0, x1, v, x3, x4, x5, x6, x7⟩) c⟩ | 3 => ⟨fun c v k => D8.rec (fun x0 x1 x2 _ x4 x5 x6 x7 => k ⟨x0, x1, x2, v, x4, x5, x6, x7⟩) c⟩ | 4 => ⟨fun c v k => D8.rec (fun x0 x1 x2 x3 _ x5 x6 x7 => k ⟨x0, x1, x2, x3, v, x5, x6, x7⟩) c⟩ | 5 => ⟨fun c v k => D8.rec (fun x0 x1 x2 x3 x4 _ x6 x7 => k ⟨x0, x1, x2, x3, x4, v, x6, x7⟩) c⟩ | 6 => ⟨fun c v k => D8.rec (fun x0 x1 x2 x3 x4 x5 _ x7 => k ⟨x0, x1, x2, x3, x4, x5, v, x7⟩) c⟩ | _ => ⟨fun c v k => D8.rec (fun x0 x1 x2 x3 x4 x5 x6 _ => k ⟨x0, x1, x2, x3, x4, x5, x6, v⟩) c⟩
noncomputable def sC (inner : Box (γ → α → (γ → RC) → RC)) (i : Nat) : Box (D8 γ → α → (D8 γ → RC) → RC) := match i with | 0 => ⟨fun c v k => D8.rec (fun x0 x1 x2 x3 x4 x5 x6 x7 => inner.run x0 v fun y => k ⟨y, x1, x2, x3, x4, x5, x6, x7⟩) c⟩ | 1 => ⟨fun c v k => D8.rec (fun x0 x1 x2 x3 x4 x5 x6 x7 => inner.run x1 v fun y => k ⟨x0, y, x2, x3, x4, x5, x6, x7⟩) c⟩ | 2 => ⟨fun c v k => D8.rec (fun x0 x1 x2 x3 x4 x5 x6 x7 => inner.run x2 v fun y => k ⟨x0, x1, y, x3, x4, x5, x6, x7⟩) c⟩ | 3 => ⟨fun c v k => D8.rec (fun x0 x1 x2 x3 x4 x5 x6 x7 => inner.run x3 v fun y => k ⟨x0, x1, x2, y, x4, x5, x6, x7⟩) c⟩ | 4 => ⟨fun c v k => D8.rec (fun x0 x1 x2 x3 x4 x5 x6 x7 => inner.run x4 v fun y => k ⟨x0, x1, x2, x3, y, x5, x6, x7⟩) c⟩ | 5 => ⟨fun c v k => D8.rec (fun x0 x1 x2 x3 x4 x5 x6 x7 => inner.run x5 v fun y => k ⟨x0, x1, x2, x3, x4, y, x6, x7⟩) c⟩ | 6 => ⟨fun c v k => D8.rec (fun x0 x1 x2 x3 x4 x5 x6 x7 => inner.run x6 v fun y => k ⟨x0, x1, x2, x3, x4, x5, y, x7⟩) c⟩ | _ => ⟨fun c v k => D8.rec (fun x0 x1 x2 x3 x4 x5 x6 x7 => inner.run x7 v fun y => k ⟨x0, x1, x2, x3, x4, x5, x6, y⟩) c⟩
theorem g0_eq (i : Nat) (c : D8 α) (k : α → RC) : (g0 i).run c k = k (c.get i) := by unfold g0 get; split <;> rfl
theorem s0_eq (i : Nat) (c : D8 α) (v : α) (k : D8 α → RC) : (s0 i).run c v k = k (c.set i v) := by unfold s0 set; split <;> rfl
theorem gC_eq (inner : Box (γ → (α → RC) → RC)) (i : Nat) (c : D8 γ) (k : α → RC) : (gC inner i).run c k = inner.run (c.get i) k := by unfold gC get; split <;> rfl
theorem sC_eq (inner : Box (γ → α → (γ → RC) → RC)) (i : Nat) (c : D8 γ) (v : α) (k : D8 γ → RC) : (sC inner i).run c v k = inner.run (c.get i) v fun y => k (c.set i y) := by unfold sC get set; split <;> rfl
theorem gs0 (c : D8 α) (v : α) : ∀ j, j < 8 → (c.set 0 v).get j = if j = 0 then v else c.get j | 0, _ => rfl | 1, _ => rfl | 2, _ => rfl | 3, _ => rfl | 4, _ => rfl | 5, _ => rfl | 6, _ => rfl | 7, _ => rfl | n + 8, h => absurd h (by omega)
theorem gs1 (c : D8 α) (v : α) : ∀ j, j < 8 → (c.set 1 v).get j = if j = 1 then v else c.get j | 0, _ => rfl | 1, _ => rfl | 2, _ => rfl | 3, _ => rfl | 4, _ => rfl | 5, _ => rfl | 6, _ => rfl | 7, _ => rfl | n + 8, h => absurd h (by omega)
theorem gs2 (c : D8 α) (v : α) : ∀ j, j < 8 → (c.set 2 v).get j = if j = 2 then v else c.get j | 0, _ => rfl | 1, _ => rfl | 2, _ => rfl | 3, _ => rfl | 4, _ => rfl | 5, _ => rfl | 6, _ => rfl | 7, _ => rfl | n + 8, h => absurd h (by omega)
theorem gs3 (c : D8 α) (v : α) : ∀ j, j < 8 → (c.set 3 v).get j = if j = 3 then v else c.get j | 0, _ => rfl | 1, _ => rfl | 2, _ => rfl | 3, _ => rfl | 4, _ => rfl | 5, _ => rfl | 6, _ => rfl | 7, _ => rfl | n + 8, h => absurd h (by omega)
theorem gs4 (c : D8 α) (v : α) : ∀ j, j < 8 → (c.set 4 v).get j = if j = 4 then v else c.get j | 0, _ => rfl | 1, _ => rfl | 2, _ => rfl | 3, _ => rfl | 4, _ => rfl | 5, _ => rfl | 6, _ => rfl | 7, _ => rfl | n + 8, h => absurd h (by omega)
theorem gs5 (c : D8 α) (v : α) : ∀ j, j < 8 → (c.set 5 v).get j = if j = 5 then v else c.get j | 0, _ => rfl | 1, _ => rfl | 2, _ => rfl | 3, _ => rfl | 4, _ => rfl | 5, _ => rfl | 6, _ => rfl | 7, _ => rfl | n + 8, h => absurd h (by omega)
theorem gs6 (c : D8 α) (v : α) : ∀ j, j < 8 → (c.set 6 v).get j = if j = 6 then v else c.get j | 0, _ => rfl | 1, _ => rfl | 2, _ => rfl | 3, _ => rfl | 4, _ => rfl | 5, _ => rfl | 6, _ => rfl | 7, _ => rfl | n + 8, h => absurd h (by omega)
theorem gs7 (c : D8 α) (v : α) : ∀ j, j < 8 → (c.set 7 v).get j = if j = 7 then v else c.get j | 0, _ => rfl | 1, _ => rfl | 2, _ => rfl | 3, _ => rfl | 4, _ => rfl | 5, _ => rfl | 6, _ => rfl | 7, _ => rfl | n + 8, h => absurd h (by omega)
theorem get_set (c : D8 α) (v : α) : ∀ i, i < 8 → ∀ j, j < 8 → (c.set i v).get j = if j = i then v else c.get j | 0, _ => gs0 c v | 1, _ => gs1 c v | 2, _ => gs2 c v | 3, _ => gs3 c v | 4, _ => gs4 c v | 5, _ => gs5 c v | 6, _ => gs6 c v | 7, _ => gs7 c v | n + 8, h => absurd h (by omega)
theorem get_rep (x : α) (i : Nat) : (rep x).get i = x := by unfold get rep; split <;> rfl
end D8
section
variable {α : Type}
def Dn.rep (x : α) : (d : Nat) → Dn α d
  | 0 => x
  | d + 1 => D8.rep (Dn.rep x d)
def Dn.get : (d : Nat) → Dn α d → Nat → α
  | 0, x, _ => x
  | d + 1, t, i => Dn.get d (D8.get t (i / 8 ^ d % 8)) i
def Dn.set : (d : Nat) → Dn α d → Nat → α → Dn α d
  | 0, _, _, v => v
  | d + 1, t, i, v => D8.set t (i / 8 ^ d % 8) (Dn.set d (D8.get t (i / 8 ^ d % 8)) i v)
theorem Dn.get_rep (x : α) (i : Nat) : ∀ d, Dn.get d (Dn.rep x d) i = x := by
  intro d
  induction d with
  | zero => rfl
  | succ d ih => unfold Dn.get Dn.rep; rw [D8.get_rep]; exact ih
theorem Dn.get_set (v : α) (i j : Nat) : ∀ d (t : Dn α d), Dn.get d (Dn.set d t i v) j = if j % 8 ^ d = i % 8 ^ d then v else Dn.get d t j := by
  intro d
  induction d with
  | zero => intro t; simp [Dn.get, Dn.set, Nat.mod_one]
  | succ d ih =>
    intro (t : D8 (Dn α d))
    show Dn.get d (D8.get (D8.set t (i / 8 ^ d % 8) (Dn.set d (D8.get t (i / 8 ^ d % 8)) i v)) (j / 8 ^ d % 8)) j = if j % 8 ^ (d + 1) = i % 8 ^ (d + 1) then v else Dn.get d (D8.get t (j / 8 ^ d % 8)) j
    rw [D8.get_set _ _ _ (Nat.mod_lt _ (by omega)) _ (Nat.mod_lt _ (by omega))]
    rw [Nat.mod_pow_succ, Nat.mod_pow_succ]
    have hp : 0 < 8 ^ d := Nat.pow_pos (by omega)
    have hi := Nat.mod_lt i hp
    have hj := Nat.mod_lt j hp
    by_cases h : j / 8 ^ d % 8 = i / 8 ^ d % 8
    · rw [if_pos h, ih, h]
      by_cases h2 : j % 8 ^ d = i % 8 ^ d
      · rw [if_pos h2, if_pos (by rw [h2])]
      · rw [if_neg h2, if_neg (by omega)]
    · rw [if_neg h, if_neg]
      intro e
      apply h
      have h1 : j % 8 ^ d + 8 ^ d * (j / 8 ^ d % 8) = i % 8 ^ d + 8 ^ d * (i / 8 ^ d % 8) := e
      have h3 := congrArg (· / 8 ^ d) h1
      simp only [Nat.add_mul_div_left _ _ hp, Nat.div_eq_of_lt hi, Nat.div_eq_of_lt hj, Nat.zero_add] at h3
      exact h3
noncomputable def gnB (i : Nat) : (d : Nat) → Box (Dn α d → (α → RC) → RC)
  | 0 => ⟨fun x k => k x⟩
  | d + 1 => D8.gC (gnB i d) (i / 8 ^ d % 8)
noncomputable def snB (i : Nat) : (d : Nat) → Box (Dn α d → α → (Dn α d → RC) → RC)
  | 0 => ⟨fun _ v k => k v⟩
  | d + 1 => D8.sC (snB i d) (i / 8 ^ d % 8)
theorem gnB_eq (i : Nat) : ∀ d (t : Dn α d) (k : α → RC), (gnB i d).run t k = k (Dn.get d t i) := by
  intro d
  induction d with
  | zero => intro t k; rfl
  | succ d ih => intro t k; unfold gnB Dn.get; rw [D8.gC_eq]; exact ih _ _
theorem snB_eq (i : Nat) : ∀ d (t : Dn α d) (v : α) (k : Dn α d → RC), (snB i d).run t v k = k (Dn.set d t i v) := by
  intro d
  induction d with
  | zero => intro t v k; rfl
  | succ d ih => intro t v k; unfold snB Dn.set; rw [D8.sC_eq]; exact ih _ _ _
/- the same, without a step at the leaves -/
noncomputable def g2 (i : Nat) : Box (Dn α 2 → (α → RC) → RC) := D8.gC (α := α) (γ := D8 α) (D8.g0 (i % 8)) (i / 8 % 8)
noncomputable def s2 (i : Nat) : Box (Dn α 2 → α → (Dn α 2 → RC) → RC) := D8.sC (α := α) (γ := D8 α) (D8.s0 (i % 8)) (i / 8 % 8)
theorem g2_eq (i : Nat) (t : Dn α 2) (k : α → RC) : (g2 i).run t k = k (Dn.get 2 t i) := by
  unfold g2; rw [D8.gC_eq, D8.g0_eq]
  simp only [Dn.get, Nat.pow_one, Nat.pow_zero, Nat.div_one]
theorem s2_eq (i : Nat) (t : Dn α 2) (v : α) (k : Dn α 2 → RC) : (s2 i).run t v k = k (Dn.set 2 t i v) := by
  unfold s2; rw [D8.sC_eq, D8.s0_eq]
  simp only [Dn.set, Nat.pow_one, Nat.pow_zero, Nat.div_one]
noncomputable def g3 (i : Nat) : Box (Dn α 3 → (α → RC) → RC) := D8.gC (α := α) (γ := Dn α 2) (g2 i) (i / 64 % 8)
noncomputable def s3 (i : Nat) : Box (Dn α 3 → α → (Dn α 3 → RC) → RC) := D8.sC (α := α) (γ := Dn α 2) (s2 i) (i / 64 % 8)
theorem g3_eq (i : Nat) (t : Dn α 3) (k : α → RC) : (g3 i).run t k = k (Dn.get 3 t i) := by
  unfold g3; rw [D8.gC_eq]; exact g2_eq _ _ _
theorem s3_eq (i : Nat) (t : Dn α 3) (v : α) (k : Dn α 3 → RC) : (s3 i).run t v k = k (Dn.set 3 t i v) := by
  unfold s3; rw [D8.sC_eq]; exact s2_eq _ _ _ _
noncomputable def g4 (i : Nat) : Box (Dn α 4 → (α → RC) → RC) := D8.gC (α := α) (γ := Dn α 3) (g3 i) (i / 512 % 8)
noncomputable def s4 (i : Nat) : Box (Dn α 4 → α → (Dn α 4 → RC) → RC) := D8.sC (α := α) (γ := Dn α 3) (s3 i) (i / 512 % 8)
theorem g4_eq (i : Nat) (t : Dn α 4) (k : α → RC) : (g4 i).run t k = k (Dn.get 4 t i) := by
  unfold g4; rw [D8.gC_eq]; exact g3_eq _ _ _
theorem s4_eq (i : Nat) (t : Dn α 4) (v : α) (k : Dn α 4 → RC) : (s4 i).run t v k = k (Dn.set 4 t i v) := by
  unfold s4; rw [D8.sC_eq]; exact s3_eq _ _ _ _
noncomputable def g5 (i : Nat) : Box (Dn α 5 → (α → RC) → RC) := D8.gC (α := α) (γ := Dn α 4) (g4 i) (i / 4096 % 8)
noncomputable def s5 (i : Nat) : Box (Dn α 5 → α → (Dn α 5 → RC) → RC) := D8.sC (α := α) (γ := Dn α 4) (s4 i) (i / 4096 % 8)
theorem g5_eq (i : Nat) (t : Dn α 5) (k : α → RC) : (g5 i).run t k = k (Dn.get 5 t i) := by
  unfold g5; rw [D8.gC_eq]; exact g4_eq _ _ _
theorem s5_eq (i : Nat) (t : Dn α 5) (v : α) (k : Dn α 5 → RC) : (s5 i).run t v k = k (Dn.set 5 t i v) := by
  unfold s5; rw [D8.sC_eq]; exact s4_eq _ _ _ _
noncomputable def g6 (i : Nat) : Box (Dn α 6 → (α → RC) → RC) := D8.gC (α := α) (γ := Dn α 5) (g5 i) (i / 32768 % 8)
noncomputable def s6 (i : Nat) : Box (Dn α 6 → α → (Dn α 6 → RC) → RC) := D8.sC (α := α) (γ := Dn α 5) (s5 i) (i / 32768 % 8)
theorem g6_eq (i : Nat) (t : Dn α 6) (k : α → RC) : (g6 i).run t k = k (Dn.get 6 t i) := by
  unfold g6; rw [D8.gC_eq]; exact g5_eq _ _ _
theorem s6_eq (i : Nat) (t : Dn α 6) (v : α) (k : Dn α 6 → RC) : (s6 i).run t v k = k (Dn.set 6 t i v) := by
  unfold s6; rw [D8.sC_eq]; exact s5_eq _ _ _ _
/-- A tree one row deeper. -/
def up (dv : α) {d : Nat} (t : Dn α d) : Dn α (d + 1) := let e := Dn.rep dv d; (⟨t, e, e, e, e, e, e, e⟩ : D8 (Dn α d))
theorem up_get (dv : α) {d : Nat} (t : Dn α d) (i : Nat) (hi : i < 8 ^ (d + 1)) : Dn.get (d + 1) (up dv t) i = if i < 8 ^ d then Dn.get d t i else dv := by
  show Dn.get d (D8.get (⟨t, Dn.rep dv d, Dn.rep dv d, Dn.rep dv d, Dn.rep dv d, Dn.rep dv d, Dn.rep dv d, Dn.rep dv d⟩ : D8 (Dn α d)) (i / 8 ^ d % 8)) i = _
  have hp : 0 < 8 ^ d := Nat.pow_pos (by omega)
  by_cases h : i < 8 ^ d
  · rw [if_pos h, Nat.div_eq_of_lt h]; rfl
  · rw [if_neg h]
    have h2 : i / 8 ^ d < 8 := by
      rw [Nat.div_lt_iff_lt_mul hp, Nat.mul_comm, ← Nat.pow_succ]; exact hi
    have h1 : 1 ≤ i / 8 ^ d := by
      rw [Nat.le_div_iff_mul_le hp]; omega
    rw [Nat.mod_eq_of_lt h2]
    have : ∀ n, 1 ≤ n → n < 8 → Dn.get d (D8.get (⟨t, Dn.rep dv d, Dn.rep dv d, Dn.rep dv d, Dn.rep dv d, Dn.rep dv d, Dn.rep dv d, Dn.rep dv d⟩ : D8 (Dn α d)) n) i = dv
      | 1, _, _ => Dn.get_rep _ _ _ | 2, _, _ => Dn.get_rep _ _ _ | 3, _, _ => Dn.get_rep _ _ _ | 4, _, _ => Dn.get_rep _ _ _ | 5, _, _ => Dn.get_rep _ _ _ | 6, _, _ => Dn.get_rep _ _ _ | 7, _, _ => Dn.get_rep _ _ _
      | 0, h, _ => absurd h (by omega)
      | n + 8, _, h => absurd h (by omega)
    exact this _ h1 h2
def TR.get (dv : α) (t : TR α) (i : Nat) : α := match t with
  | .s t => if i < 64 then Dn.get 2 t i else dv
  | .m t => if i < 512 then Dn.get 3 t i else dv
  | .l t => if i < 262144 then Dn.get 6 t i else dv
def TR.set (dv : α) (t : TR α) (i : Nat) (v : α) : TR α := match t with
  | .s t => if i < 64 then .s (Dn.set 2 t i v) else if i < 512 then .m (Dn.set 3 (up dv t) i v) else .l (Dn.set 6 (up dv (up dv (up dv (up dv t)))) i v)
  | .m t => if i < 512 then .m (Dn.set 3 t i v) else .l (Dn.set 6 (up dv (up dv (up dv t))) i v)
  | .l t => .l (Dn.set 6 t i v)
theorem up3_get (dv : α) (t : Dn α 3) (i : Nat) (hi : i < 262144) : Dn.get 6 (up dv (up dv (up dv t))) i = if i < 512 then Dn.get 3 t i else dv := by
  have e3 : (8 : Nat) ^ 3 = 512 := rfl
  have e4 : (8 : Nat) ^ 4 = 4096 := rfl
  have e5 : (8 : Nat) ^ 5 = 32768 := rfl
  rw [up_get _ _ _ hi, e5]
  by_cases h5 : i < 32768
  · rw [if_pos h5, up_get _ _ _ h5, e4]
    by_cases h4 : i < 4096
    · rw [if_pos h4, up_get _ _ _ h4, e3]
    · rw [if_neg h4, if_neg (by omega)]
  · rw [if_neg h5, if_neg (by omega)]
theorem TR.get_set (dv : α) (t : TR α) (v : α) {i j : Nat} (hi : i < 262144) (hj : j < 262144) : TR.get dv (TR.set dv t i v) j = if j = i then v else TR.get dv t j := by
  have e2 : (8 : Nat) ^ 2 = 64 := rfl
  have e3 : (8 : Nat) ^ 3 = 512 := rfl
  have e4 : (8 : Nat) ^ 6 = 262144 := rfl
  cases t with
  | s t =>
    simp only [TR.set]
    by_cases h1 : i < 64
    · rw [if_pos h1]
      simp only [TR.get]
      by_cases h2 : j < 64
      · simp only [h2, if_true]; rw [Dn.get_set, e2, Nat.mod_eq_of_lt h1, Nat.mod_eq_of_lt h2]
      · simp only [h2, if_false]; rw [if_neg (by omega)]
    · rw [if_neg h1]
      by_cases h3 : i < 512
      · rw [if_pos h3]
        simp only [TR.get]
        by_cases h2 : j < 512
        · simp only [h2, if_true]
          rw [Dn.get_set, e3, Nat.mod_eq_of_lt h3, Nat.mod_eq_of_lt h2, up_get _ _ _ (by omega), e2]
        · simp only [h2, if_false]; rw [if_neg (by omega), if_neg (by omega)]
      · rw [if_neg h3]
        simp only [TR.get]
        simp only [hj, if_true]
        rw [Dn.get_set, e4, Nat.mod_eq_of_lt hi, Nat.mod_eq_of_lt hj, up3_get _ _ _ hj]
        by_cases h4 : j < 512
        · rw [if_pos h4, up_get _ _ _ (by omega), e2]
        · rw [if_neg h4, if_neg (show ¬ j < 64 by omega)]
  | m t =>
    simp only [TR.set]
    by_cases h3 : i < 512
    · rw [if_pos h3]
      simp only [TR.get]
      by_cases h2 : j < 512
      · simp only [h2, if_true]; rw [Dn.get_set, e3, Nat.mod_eq_of_lt h3, Nat.mod_eq_of_lt h2]
      · simp only [h2, if_false]; rw [if_neg (by omega)]
    · rw [if_neg h3]
      simp only [TR.get]
      simp only [hj, if_true]
      rw [Dn.get_set, e4, Nat.mod_eq_of_lt hi, Nat.mod_eq_of_lt hj, up3_get _ _ _ hj]
  | l t =>
    simp only [TR.set, TR.get, hj, if_true]
    rw [Dn.get_set, e4, Nat.mod_eq_of_lt hi, Nat.mod_eq_of_lt hj]
noncomputable def tG2 (i : Nat) (fm : Dn α 3 → (α → RC) → RC) (fl : Dn α 6 → (α → RC) → RC) : Box (TR α → (α → RC) → RC) := match i / 8 % 8 with | 0 => ⟨TR.rec (motive := fun _ => (α → RC) → RC) (fun t k => D8.rec (fun x _ _ _ _ _ _ _ => (D8.g0 (i % 8)).run x k) t) fm fl⟩ | 1 => ⟨TR.rec (motive := fun _ => (α → RC) → RC) (fun t k => D8.rec (fun _ x _ _ _ _ _ _ => (D8.g0 (i % 8)).run x k) t) fm fl⟩ | 2 => ⟨TR.rec (motive := fun _ => (α → RC) → RC) (fun t k => D8.rec (fun _ _ x _ _ _ _ _ => (D8.g0 (i % 8)).run x k) t) fm fl⟩ | 3 => ⟨TR.rec (motive := fun _ => (α → RC) → RC) (fun t k => D8.rec (fun _ _ _ x _ _ _ _ => (D8.g0 (i % 8)).run x k) t) fm fl⟩ | 4 => ⟨TR.rec (motive := fun _ => (α → RC) → RC) (fun t k => D8.rec (fun _ _ _ _ x _ _ _ => (D8.g0 (i % 8)).run x k) t) fm fl⟩ | 5 => ⟨TR.rec (motive := fun _ => (α → RC) → RC) (fun t k => D8.rec (fun _ _ _ _ _ x _ _ => (D8.g0 (i % 8)).run x k) t) fm fl⟩ | 6 => ⟨TR.rec (motive := fun _ => (α → RC) → RC) (fun t k => D8.rec (fun _ _ _ _ _ _ x _ => (D8.g0 (i % 8)).run x k) t) fm fl⟩ | _ => ⟨TR.rec (motive := fun _ => (α → RC) → RC) (fun t k => D8.rec (fun _ _ _ _ _ _ _ x => (D8.g0 (i % 8)).run x k) t) fm fl⟩
noncomputable def tS2 (i : Nat) (fm : Dn α 3 → α → (TR α → RC) → RC) (fl : Dn α 6 → α → (TR α → RC) → RC) : Box (TR α → α → (TR α → RC) → RC) := match i / 8 % 8 with | 0 => ⟨TR.rec (motive := fun _ => α → (TR α → RC) → RC) (fun t v k => D8.rec (fun x0 x1 x2 x3 x4 x5 x6 x7 => (D8.s0 (i % 8)).run x0 v fun y => k (.s (⟨y, x1, x2, x3, x4, x5, x6, x7⟩ : D8 (D8 α)))) t) fm fl⟩ | 1 => ⟨TR.rec (motive := fun _ => α → (TR α → RC) → RC) (fun t v k => D8.rec (fun x0 x1 x2 x3 x4 x5 x6 x7 => (D8.s0 (i % 8)).run x1 v fun y => k (.s (⟨x0, y, x2, x3, x4, x5, x6, x7⟩ : D8 (D8 α)))) t) fm fl⟩ | 2 => ⟨TR.rec (motive := fun _ => α → (TR α → RC) → RC) (fun t v k => D8.rec (fun x0 x1 x2 x3 x4 x5 x6 x7 => (D8.s0 (i % 8)).run x2 v fun y => k (.s (⟨x0, x1, y, x3, x4, x5, x6, x7⟩ : D8 (D8 α)))) t) fm fl⟩ | 3 => ⟨TR.rec (motive := fun _ => α → (TR α → RC) → RC) (fun t v k => D8.rec (fun x0 x1 x2 x3 x4 x5 x6 x7 => (D8.s0 (i % 8)).run x3 v fun y => k (.s (⟨x0, x1, x2, y, x4, x5, x6, x7⟩ : D8 (D8 α)))) t) fm fl⟩ | 4 => ⟨TR.rec (motive := fun _ => α → (TR α → RC) → RC) (fun t v k => D8.rec (fun x0 x1 x2 x3 x4 x5 x6 x7 => (D8.s0 (i % 8)).run x4 v fun y => k (.s (⟨x0, x1, x2, x3, y, x5, x6, x7⟩ : D8 (D8 α)))) t) fm fl⟩ | 5 => ⟨TR.rec (motive := fun _ => α → (TR α → RC) → RC) (fun t v k => D8.rec (fun x0 x1 x2 x3 x4 x5 x6 x7 => (D8.s0 (i % 8)).run x5 v fun y => k (.s (⟨x0, x1, x2, x3, x4, y, x6, x7⟩ : D8 (D8 α)))) t) fm fl⟩ | 6 => ⟨TR.rec (motive := fun _ => α → (TR α → RC) → RC) (fun t v k => D8.rec (fun x0 x1 x2 x3 x4 x5 x6 x7 => (D8.s0 (i % 8)).run x6 v fun y => k (.s (⟨x0, x1, x2, x3, x4, x5, y, x7⟩ : D8 (D8 α)))) t) fm fl⟩ | _ => ⟨TR.rec (motive := fun _ => α → (TR α → RC) → RC) (fun t v k => D8.rec (fun x0 x1 x2 x3 x4 x5 x6 x7 => (D8.s0 (i % 8)).run x7 v fun y => k (.s (⟨x0, x1, x2, x3, x4, x5, x6, y⟩ : D8 (D8 α)))) t) fm fl⟩
noncomputable def tvG (dv : α) (i : Nat) : Box (TR α → (α → RC) → RC) :=
  bif Nat.ble (i + 1) 64 then tG2 i (fun t k => (g3 i).run t k) (fun t k => (g6 i).run t k) else bif Nat.ble (i + 1) 512 then ⟨TR.rec (motive := fun _ => (α → RC) → RC) (fun _ k => k dv) (fun t k => (g3 i).run t k) (fun t k => (g6 i).run t k)⟩
  else bif Nat.ble (i + 1) 262144 then ⟨TR.rec (motive := fun _ => (α → RC) → RC) (fun _ k => k dv) (fun _ k => k dv) (fun t k => (g6 i).run t k)⟩ else ⟨fun _ k => k dv⟩
noncomputable def tvS (dv : α) (i : Nat) : Box (TR α → α → (TR α → RC) → RC) :=
  bif Nat.ble (i + 1) 64 then tS2 i (fun t v k => (s3 i).run t v fun t => k (.m t)) (fun t v k => (s6 i).run t v fun t => k (.l t))
  else bif Nat.ble (i + 1) 512 then ⟨TR.rec (motive := fun _ => α → (TR α → RC) → RC) (fun t v k => (s3 i).run (up dv t) v fun t => k (.m t)) (fun t v k => (s3 i).run t v fun t => k (.m t)) (fun t v k => (s6 i).run t v fun t => k (.l t))⟩
  else ⟨TR.rec (motive := fun _ => α → (TR α → RC) → RC) (fun t v k => (s6 i).run (up dv (up dv (up dv (up dv t)))) v fun t => k (.l t)) (fun t v k => (s6 i).run (up dv (up dv (up dv t))) v fun t => k (.l t)) (fun t v k => (s6 i).run t v fun t => k (.l t))⟩
theorem tG2_eq (i : Nat) (fm : Dn α 3 → (α → RC) → RC) (fl : Dn α 6 → (α → RC) → RC) (t : TR α) (k : α → RC) : (tG2 i fm fl).run t k = match t with
    | .s t => k (Dn.get 2 t i)
    | .m t => fm t k
    | .l t => fl t k := by
  cases t with
  | s t =>
    show _ = k (Dn.get 2 t i)
    rw [← g2_eq i t k]
    unfold tG2 g2 D8.gC
    split <;> rfl
  | m t => unfold tG2; split <;> rfl
  | l t => unfold tG2; split <;> rfl
theorem tS2_eq (i : Nat) (fm : Dn α 3 → α → (TR α → RC) → RC) (fl : Dn α 6 → α → (TR α → RC) → RC) (t : TR α) (v : α) (k : TR α → RC) : (tS2 i fm fl).run t v k = match t with
    | .s t => k (.s (Dn.set 2 t i v))
    | .m t => fm t v k
    | .l t => fl t v k := by
  cases t with
  | s t =>
    show _ = k (.s (Dn.set 2 t i v))
    rw [← s2_eq i t v (fun y => k (.s y))]
    unfold tS2 s2 D8.sC
    split <;> rfl
  | m t => unfold tS2; split <;> rfl
  | l t => unfold tS2; split <;> rfl
theorem ble_if {i n : Nat} : Nat.ble (i + 1) n = decide (i < n) := by
  rw [Bool.eq_iff_iff, decide_eq_true_iff]; exact ⟨fun h => Nat.le_of_ble_eq_true h, fun h => Nat.ble_eq_true_of_le h⟩
theorem tvG_eq (dv : α) (i : Nat) (t : TR α) (k : α → RC) : (tvG dv i).run t k = k (TR.get dv t i) := by
  unfold tvG TR.get
  simp only [ble_if]
  by_cases h : i < 64
  · simp only [h, decide_true, cond_true, tG2_eq]
    cases t with
    | s t => simp
    | m t => simp only [g3_eq]; rw [if_pos (by omega)]
    | l t => simp only [g6_eq]; rw [if_pos (by omega)]
  · by_cases h2 : i < 512
    · cases t <;> simp [h, h2, g3_eq, g6_eq, show i < 262144 by omega]
    · by_cases h3 : i < 262144 <;> cases t <;> simp [h, h2, h3, g6_eq]
theorem tvS_eq (dv : α) (i : Nat) (t : TR α) (v : α) (k : TR α → RC) : (tvS dv i).run t v k = k (TR.set dv t i v) := by
  unfold tvS TR.set
  simp only [ble_if]
  by_cases h : i < 64
  · simp only [h, decide_true, cond_true, tS2_eq]
    cases t with
    | s t => simp
    | m t => simp only [s3_eq]; rw [if_pos (by omega)]
    | l t => simp only [s6_eq]
  · by_cases h2 : i < 512 <;> cases t <;> simp [h, h2, s3_eq, s6_eq]
end
def T2.get (t : FT) (i : Nat) : Value := TR.get undef t i
def T2.set (t : FT) (i : Nat) (v : Value) : FT := TR.set undef t i v
theorem T2.get_set (t : FT) (v : Value) {i j : Nat} (hi : i < 262144) (hj : j < 262144) : T2.get (T2.set t i v) j = if j = i then v else T2.get t j := TR.get_set undef t v hi hj
noncomputable def g2B (i : Nat) : Box (FT → (Value → RC) → RC) := tvG undef i
noncomputable def s2B (i : Nat) : Box (FT → Value → (FT → RC) → RC) := tvS undef i
theorem g2B_eq (i : Nat) (t : FT) (k : Value → RC) : (g2B i).run t k = k (T2.get t i) := tvG_eq _ _ _ _
theorem s2B_eq (i : Nat) (t : FT) (v : Value) (k : FT → RC) : (s2B i).run t v k = k (T2.set t i v) := tvS_eq _ _ _ _ _
def deadNd : Nd := ⟨.dead, 0, []⟩
def T3.get (t : TR Nd) (i : Nat) : Nd := TR.get deadNd t i
def T3.set (t : TR Nd) (i : Nat) (v : Nd) : TR Nd := TR.set deadNd t i v
theorem T3.get_set (t : TR Nd) (v : Nd) {i j : Nat} (hi : i < 262144) (hj : j < 262144) : T3.get (T3.set t i v) j = if j = i then v else T3.get t j := TR.get_set deadNd t v hi hj
noncomputable def g3B (i : Nat) : Box (TR Nd → (Nd → RC) → RC) := tvG deadNd i
noncomputable def s3B (i : Nat) : Box (TR Nd → Nd → (TR Nd → RC) → RC) := tvS deadNd i
theorem g3B_eq (i : Nat) (t : TR Nd) (k : Nd → RC) : (g3B i).run t k = k (T3.get t i) := tvG_eq _ _ _ _
theorem s3B_eq (i : Nat) (t : TR Nd) (v : Nd) (k : TR Nd → RC) : (s3B i).run t v k = k (T3.set t i v) := tvS_eq _ _ _ _ _
def blank : FT := .s (Dn.rep undef 2)
def deadT : TR Nd := .s (Dn.rep deadNd 2)
def toL (n : Nat) (t : FT) : List Value := (List.range n).map (T2.get t)
def den (T : FT) : Fr := fun i => if i < 262144 then T2.get T i else undef
def absB : FB → Blk
  | .dead => .dead
  | .cells fam own n t => .cells fam own (toL n t)
  | .map _ es _ => .map es
  | .loop st pend nt T params assign body => .loop st pend nt (den T) params assign body
def FH.nd (H : FH) (i : Nat) : Nd := T3.get H.t i
def absH (H : FH) : Heap := (List.range H.n).map fun i => absB (H.nd i).x
def BOK (H : FH) (i : Nat) : FB → Prop
  | .cells fam _ n _ => n ≤ 262144 ∧ fam < H.n ∧ (0 < n → i ∈ (H.nd fam).ms) ∧ n ≤ (H.nd fam).mx
  | .map kk es mt => kk ≠ 0 ∧ (∀ e ∈ es, keyTag e.1 = kk) ∧ ∀ k, keyTag k = kk → mfind (codeK' k) mt (mix (codeK' k)) = findA k es
  | _ => True
structure FH.OK (H : FH) : Prop where
  le : H.n ≤ 262144
  ok : ∀ i, i < H.n → BOK H i (H.nd i).x
theorem toL_length (n : Nat) (t : FT) : (toL n t).length = n := by simp [toL]
theorem toL_get {n : Nat} {t : FT} {i : Nat} : (toL n t)[i]? = if i < n then some (T2.get t i) else none := by
  unfold toL
  rw [List.getElem?_map]
  split
  · rename_i h; rw [List.getElem?_range h]; rfl
  · rename_i h; rw [List.getElem?_eq_none (by simp; omega)]; rfl
theorem toL_take {n k : Nat} {t : FT} (h : k ≤ n) : (toL n t).take k = toL k t := by
  apply List.ext_getElem?
  intro i
  rw [List.getElem?_take, toL_get, toL_get]
  split
  · rw [if_pos (by omega)]
  · rfl
theorem absH_length (H : FH) : (absH H).length = H.n := by simp [absH]
theorem absH_get {H : FH} {i : Nat} : (absH H)[i]? = if i < H.n then some (absB (H.nd i).x) else none := by
  unfold absH
  rw [List.getElem?_map]
  split
  · rename_i h; rw [List.getElem?_range h]; rfl
  · rename_i h; rw [List.getElem?_eq_none (by simp; omega)]; rfl
/-- Two heaps that look alike at each place. -/
theorem absH_eq {H : FH} {G : Heap} (hl : G.length = H.n) (h : ∀ i, i < H.n → G[i]? = some (absB (H.nd i).x)) : absH H = G := by
  apply List.ext_getElem?
  intro i
  rw [absH_get]
  split
  · rename_i hi; rw [h i hi]
  · rename_i hi; rw [List.getElem?_eq_none (by omega)]
end Go.Abs
