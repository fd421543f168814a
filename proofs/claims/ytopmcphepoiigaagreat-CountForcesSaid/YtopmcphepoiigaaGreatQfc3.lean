/- Of the law: texts of its proof, joined (part 3). -/
import Derived.Test.YtopmcphepoiigaaGreatQfc2
set_option linter.all false
namespace Go.Num
def arrP : Nat → List Bool → List Int → List (List Int)
  | 0, _, l => [l]
  | k + 1, us, l => (List.range us.length).flatMap fun i => if us.getD i true then [] else arrP k (us.set i true) (l ++ [(i : Int)])
def permsP (n : Nat) : List (List Int) := arrP n (List.replicate n false) []
structure Rng (n : Nat) (l : List Int) : Prop where
  len : l.length = n
  mem : ∀ x ∈ l, 0 ≤ x ∧ x < n
theorem arrP_rng {n : Nat} : ∀ (k : Nat) (us : List Bool) (l : List Int), us.length = n → l.length + k = n → (∀ x ∈ l, 0 ≤ x ∧ x < n) → ∀ p ∈ arrP k us l, Rng n p := by
  intro k
  induction k with
  | zero =>
    intro us l _ h2 h3 p hp
    obtain rfl := List.mem_singleton.1 hp
    exact ⟨by omega, h3⟩
  | succ k ih =>
    intro us l h1 h2 h3 p hp
    obtain ⟨i, hi, hp⟩ := List.mem_flatMap.1 hp
    have hi := List.mem_range.1 hi
    split at hp
    · cases hp
    · refine ih _ _ (by rw [List.length_set]; exact h1) (by rw [List.length_append]; simp; omega) (fun x hx => ?_) p hp
      rcases List.mem_append.1 hx with hx | hx
      · exact h3 x hx
      · obtain rfl := List.mem_singleton.1 hx
        omega
theorem perms_rng {n : Nat} : ∀ p ∈ permsP n, Rng n p := arrP_rng n _ [] (by simp) (by simp) (by simp)
theorem arrP_mem {n : Nat} : ∀ (rest l : List Int) (us : List Bool), us.length = n → (∀ x ∈ rest, 0 ≤ x ∧ x < n ∧ us.getD x.toNat true = false) → rest.Nodup → l ++ rest ∈ arrP rest.length us l := by
  intro rest
  induction rest with
  | nil => intro l us _ _ _; simp [arrP]
  | cons y rest ih =>
    intro l us h1 h2 h3
    have hy := h2 y (by simp)
    have hn := List.nodup_cons.1 h3
    show l ++ y :: rest ∈ arrP (rest.length + 1) us l
    unfold arrP
    refine List.mem_flatMap.2 ⟨y.toNat, List.mem_range.2 (by omega), ?_⟩
    rw [hy.2.2, if_neg (by simp), show ((y.toNat : Nat) : Int) = y from by omega]
    have := ih (l ++ [y]) (us.set y.toNat true) (by rw [List.length_set]; exact h1) (fun x hx => by
      have hx2 := h2 x (by simp [hx])
      refine ⟨hx2.1, hx2.2.1, ?_⟩
      have hne : x ≠ y := fun e => hn.1 (e ▸ hx)
      rw [List.getD_eq_getElem?_getD, List.getElem?_set, if_neg (by omega), ← List.getD_eq_getElem?_getD]
      exact hx2.2.2) hn.2
    rwa [List.append_assoc, List.singleton_append] at this
def okB (n : Nat) (f : List Int) : Bool := Nat.beq f.length n && f.all (fun x => decide (0 ≤ x) && decide (x < n)) && decide f.Nodup
theorem okB_mem {n : Nat} {f : List Int} (h : okB n f = true) : f ∈ permsP n := by
  simp only [okB, Bool.and_eq_true, List.all_eq_true, decide_eq_true_eq] at h
  obtain ⟨⟨h1, h2⟩, h3⟩ := h
  have h1 := Nat.eq_of_beq_eq_true h1
  subst h1
  have := arrP_mem (n := f.length) f [] (List.replicate f.length false) (by simp) (fun x hx => by
    have := h2 x hx
    refine ⟨this.1, this.2, ?_⟩
    rw [List.getD_eq_getElem?_getD, List.getElem?_replicate, if_pos (by omega)]; rfl) h3
  rwa [List.nil_append] at this
def walkP (f : List Int) : Nat → List Bool → Nat → Nat → List Bool × Nat
  | 0, s, _, c => (s, c)
  | k + 1, s, x, c => if s.getD x true then (s, c) else walkP f k (s.set x true) (f.getD x 0).toNat (c + 1)
def cycG (f : List Int) : List Nat → List Bool → List Int → List Int
  | [], _, o => o
  | i :: is, s, o => match walkP f (f.length + 1) s i 0 with
    | (s', c) => cycG f is s' (if 0 < c then o ++ [(c : Int)] else o)
def insD (x : Int) : List Int → List Int
  | [] => [x]
  | y :: l => if y < x then x :: y :: l else y :: insD x l
def sortD : List Int → List Int
  | [] => []
  | x :: l => insD x (sortD l)
def cycP (f : List Int) : List Int := sortD (cycG f (List.range f.length) (List.replicate f.length false) [])
def backS (r u : List Int) (b : List Int) (i : Nat) : List Int := b.set (r.getD (u.getD i 0).toNat 0).toNat (i : Int)
def backP (r u : List Int) : List Int := (List.range r.length).foldl (backS r u) (List.replicate r.length 0)
def commV (r u b : List Int) (i : Nat) : Int := b.getD (u.getD (r.getD i 0).toNat 0).toNat 0
def commP (r u : List Int) : List Int := (List.range r.length).map (commV r u (backP r u))
def kindP (r u : List Int) : List Int := cycP (commP r u)
def rowP (n : Nat) (c r : List Int) : List (List Int × List Int) := ((permsP n).filter fun u => decide (kindP r u = c)).map fun u => (r, u)
def pairsP (n : Nat) (c : List Int) : List (List Int × List Int) := (permsP n).flatMap (rowP n c)
theorem foldl_range_succ {α : Type} (f : α → Nat → α) (a : α) (i : Nat) : (List.range (i + 1)).foldl f a = f ((List.range i).foldl f a) i := by rw [List.range_succ, List.foldl_append]; rfl
theorem back_len (r u : List Int) : ∀ (i : Nat) (b : List Int), ((List.range i).foldl (backS r u) b).length = b.length := by
  intro i
  induction i with
  | zero => intro b; rfl
  | succ i ih => intro b; rw [foldl_range_succ, backS, List.length_set, ih]
theorem back_mem {r u : List Int} {n : Nat} (hn : r.length ≤ n) : ∀ (i : Nat), i ≤ n → ∀ (b : List Int), (∀ x ∈ b, 0 ≤ x ∧ x < n) → ∀ x ∈ (List.range i).foldl (backS r u) b, 0 ≤ x ∧ x < n := by
  intro i
  induction i with
  | zero => intro _ b hb; exact hb
  | succ i ih =>
    intro hi b hb x hx
    rw [foldl_range_succ, backS] at hx
    rcases List.mem_or_eq_of_mem_set hx with hx | hx
    · exact ih (by omega) b hb x hx
    · subst hx; omega
theorem Rng.getD {n : Nat} {l : List Int} (h : Rng n l) {i : Nat} (hi : i < n) : 0 ≤ l.getD i 0 ∧ l.getD i 0 < n := by
  rw [List.getD_eq_getElem?_getD, List.getElem?_eq_getElem (by rw [h.len]; exact hi)]
  exact h.mem _ (List.getElem_mem _)
theorem back_rng {n : Nat} {r u : List Int} (hr : Rng n r) {i : Nat} (hi : i ≤ n) : Rng n ((List.range i).foldl (backS r u) (List.replicate r.length 0)) := by
  refine ⟨by rw [back_len, List.length_replicate]; exact hr.len, back_mem (by rw [hr.len]; exact Nat.le_refl _) i hi _ fun x hx => ?_⟩
  obtain ⟨h1, rfl⟩ := List.mem_replicate.1 hx
  rw [hr.len] at h1
  omega
def commOk (n : Nat) : Bool := (permsP n).all fun r => (permsP n).all fun u => okB n (commP r u)
set_option maxRecDepth 100000 in
theorem commOk_lo : ∀ k : Fin 5, commOk k.1 = true := by decide +kernel
def commOk5 (k : Nat) : Bool := (((permsP 5).drop (24 * k)).take 24).all fun r => (permsP 5).all fun u => okB 5 (commP r u)
set_option maxRecDepth 100000 in
theorem commOk_50 : commOk5 0 = true := by decide +kernel
def frcT : List (List Int × Int) := [([], 1), ([1], 1), ([2], 0), ([1, 1], 4), ([3], 18), ([2, 1], 0), ([1, 1, 1], 18), ([4], 0), ([3, 1], 288), ([2, 2], 168), ([2, 1, 1], 0), ([1, 1, 1, 1], 120), ([5], 4800), ([4, 1], 0), ([3, 2], 0), ([3, 1, 1], 5040), ([2, 2, 1], 3720), ([2, 1, 1, 1], 0), ([1, 1, 1, 1, 1], 840)]
end Go.Num
