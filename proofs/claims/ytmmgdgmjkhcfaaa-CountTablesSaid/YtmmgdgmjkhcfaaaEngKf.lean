/- A region that draws its order: what its checks say, and the heaps in layers. -/
import Derived.Test.YtmmgdgmjkhcfaaaEngKe
namespace Go.Abs
def rst (M : Mp) (k : Nat) : Mp := fun b => if b < k then M b else none
theorem rst_some {M : Mp} {k b : Nat} {l : Loc} : rst M k b = some l ↔ b < k ∧ M b = some l := by
  unfold rst; split
  · simp [*]
  · simp; omega
theorem rst_ext {M M' : Mp} (h : Ext M M') {k k' : Nat} (hk : k ≤ k') : Ext (rst M k) (rst M' k') := fun b l hb => by
  rw [rst_some] at hb ⊢; exact ⟨by omega, h _ _ hb.2⟩
theorem rst_rst {M : Mp} {k k' : Nat} (hk : k ≤ k') : rst (rst M k') k = rst M k := by
  funext b; unfold rst; split
  · rw [if_pos (by omega)]
  · rfl
theorem rst_self {M : Mp} {k : Nat} (h : ∀ b l, M b = some l → b < k) : rst M k = M := by
  funext b; unfold rst; split
  · rfl
  · cases hb : M b with
    | none => rfl
    | some l => exact absurd (h b l hb) (by assumption)
/-- Dead blocks behind. -/
theorem Rel.dead {m : Mp} {G : Heap} {w : World} (h : Rel m G w) (j : Nat) : Rel m (G ++ List.replicate j .dead) w := by
  have old : ∀ (b : Nat) x, b < G.length → (G ++ List.replicate j Blk.dead)[b]? = some x → G[b]? = some x := fun b x hb hx => by
    rwa [List.getElem?_append_left hb] at hx
  refine ⟨fun b l hb => by have := h.len b l hb; simp; omega, fun b x hx hlv => ?_, h.bnd, fun b x l hx hl => h.blk b x l (old b x (h.len b l hl) hx) hl,
    fun b c x y l k hbc hx hy hl hk => h.sep b c x y l k hbc (old b x (h.len b l hl) hx) (old c y (h.len c k hk) hy) hl hk⟩
  rcases Nat.lt_or_ge b G.length with hlt | hge
  · exact h.has b x (old b x hlt hx) hlv
  · rw [List.getElem?_append_right hge] at hx
    have := List.mem_of_getElem? hx
    rw [List.mem_replicate] at this
    rw [this.2] at hlv
    cases hlv
theorem Sim.dead {m0 m : Mp} {H0 G : Heap} {w0 w : World} (h : Sim m0 H0 w0 m G w) (j : Nat) : Sim m0 H0 w0 m (G ++ List.replicate j .dead) w where
  ext := h.ext
  rel := h.rel.dead j
  keep := h.keep
  fresh := fun g ⟨b, x, l, h1, h2, h3, h4⟩ => h.fresh g ⟨b, x, l, by rwa [List.getElem?_append_left (h.rel.len b l h2)] at h1, h2, h3, h4⟩
  grow := by have := h.grow; simp; omega
  img := h.img
/-- A block that the world holds already comes behind. -/
theorem Sim.snoc {m0 M : Mp} {H0 G : Heap} {w0 w : World} {B : Blk} {l : Loc} (h : Sim m0 H0 w0 (rst M G.length) G w) (hl : M G.length = some l) (hbr : BR (rst M (G.length + 1)) w l B) (ho : B.owned = true) (hlt : l.g < w.heap.size)
    (hge : w0.heap.size ≤ l.g) (hap : ∀ b k, b ≠ G.length → M b = some k → k.g ≠ l.g) : Sim m0 H0 w0 (rst M (G.length + 1)) (G ++ [B]) w := by
  have hE : Ext (rst M G.length) (rst M (G.length + 1)) := rst_ext (.refl M) (by omega)
  have cases_ : ∀ b k, rst M (G.length + 1) b = some k → (b < G.length ∧ rst M G.length b = some k) ∨ (b = G.length ∧ k = l) := fun b k hb => by
    rw [rst_some] at hb
    rcases Nat.lt_or_ge b G.length with h1 | h1
    · exact .inl ⟨h1, rst_some.2 ⟨h1, hb.2⟩⟩
    · obtain rfl : b = G.length := by omega
      rw [hl] at hb
      exact .inr ⟨rfl, by injection hb.2 with e; exact e.symm⟩
  have at_ : ∀ (b : Nat) x, b < G.length → (G ++ [B])[b]? = some x → G[b]? = some x := fun b x hb hx => by rwa [List.getElem?_append_left hb] at hx
  have last : ∀ x, (G ++ [B])[G.length]? = some x → x = B := fun x hx => by
    rw [List.getElem?_append_right (Nat.le_refl _)] at hx; simp at hx; exact hx.symm
  refine ⟨h.ext.trans hE, ⟨fun b k hb => by rw [rst_some] at hb; simp; exact hb.1, fun b x hx hlv => ?_, fun b k hb => ?_, fun b x k hx hk => ?_, fun b c x y k j hbc hx hy hk hj hox hlv hg => ?_⟩, h.keep, fun g ⟨b, x, k, h1, h2, h3, h4⟩ => ?_, by have := h.grow; simp; omega, fun b k hb => ?_⟩
  · rcases Nat.lt_or_ge b G.length with hlt' | hge'
    · obtain ⟨k, hk⟩ := h.rel.has b x (at_ b x hlt' hx) hlv
      exact ⟨k, hE _ _ hk⟩
    · have := lt_of_get hx
      simp at this
      obtain rfl : b = G.length := by omega
      exact ⟨l, rst_some.2 ⟨by omega, hl⟩⟩
  · rcases cases_ b k hb with ⟨_, h1⟩ | ⟨_, rfl⟩
    · exact h.rel.bnd b k h1
    · exact hlt
  · rcases cases_ b k hk with ⟨h0, h1⟩ | ⟨rfl, rfl⟩
    · exact (h.rel.blk b x k (at_ b x h0 hx) h1).keep hE fun _ => rfl
    · rw [last x hx]; exact hbr
  · rcases cases_ b k hk with ⟨h0, h1⟩ | ⟨rfl, rfl⟩
    · rcases cases_ c j hj with ⟨h2, h3⟩ | ⟨rfl, rfl⟩
      · exact h.rel.sep b c x y k j hbc (at_ b x h0 hx) (at_ c y h2 hy) h1 h3 hox hlv hg
      · exact absurd hg (hap b k hbc (rst_some.1 h1).2)
    · rcases cases_ c j hj with ⟨h2, h3⟩ | ⟨rfl, rfl⟩
      · exact absurd hg.symm (hap c j (fun e => hbc e.symm) (rst_some.1 h3).2)
      · exact absurd rfl hbc
  · rcases cases_ b k h2 with ⟨h5, h6⟩ | ⟨rfl, rfl⟩
    · exact h.fresh g ⟨b, x, k, at_ b x h5 h1, h6, h3, h4⟩
    · exact .inr (by omega)
  · rcases cases_ b k hb with ⟨_, h6⟩ | ⟨_, rfl⟩
    · exact h.img b k h6
    · exact .inr hge
theorem Sim.junk {m : Mp} {H : Heap} {w : World} (hR : Rel m H w) (o : Obj) : Sim m H w m H { w with heap := w.heap.push o } :=
  ⟨.refl m, hR.world fun _ h => heap_push_lt w o h, ⟨rfl, rfl, rfl, by simp, fun g h _ => heap_push_lt w o h⟩, fun g h => .inl h, Nat.le_refl _, fun b l h => .inl ⟨b, l, h, rfl⟩⟩
section
variable {P : Program} {call : CallF} {ops : Array Oper} {a : Fr} {H : Heap} {nt : Nat}
def bit (ops : Array Oper) (j i : Nat) : Bool := ((Region.before ops).getD j 0).testBit i
structure DrawF (ops : Array Oper) : Prop where
  pre : ∀ j, j < ops.size → ∀ i ∈ preds (opAt ops j), i < j
  clash : ∀ i j, i < j → j < ops.size → Abs.clash (opAt ops i) (opAt ops j) = true → bit ops j i = true
  effs : ∀ i j, i < j → j < ops.size → cls (opAt ops i).op = .eff → cls (opAt ops j).op = .eff → bit ops j i = true
  dst : ∀ i j t, i < j → j < ops.size → (opAt ops i).dst = some t → (opAt ops j).dst ≠ some t
  alloc : ∀ i e, i < e → e < ops.size → cls (opAt ops i).op = .all_ → cls (opAt ops e).op = .eff → bit ops e i = true
  guard : ∀ j i p, j < ops.size → (opAt ops j).guard = some (i, p) → i < j ∧ bit ops j i = true ∧ (opAt ops i).dst.isSome = true
theorem mem_pairs {n i j : Nat} (h : i < j) (hj : j < n) : (i, j) ∈ pairs n := by
  simp only [pairs, List.mem_flatMap, List.mem_range, List.mem_map]
  exact ⟨j, hj, i, h, rfl⟩
theorem DrawF.of (h : drawOk ops (Region.before ops) (Abs.effs ops) = true) : DrawF ops := by
  unfold drawOk at h
  simp only [Bool.and_eq_true] at h
  obtain ⟨⟨⟨⟨h1, h2⟩, h3⟩, h4⟩, h5⟩ := h
  refine ⟨fun j hj i hi => ?_, fun i j hij hj hc => ?_, fun i j hij hj hc hc' => ?_, fun i j t hij hj ht ht' => ?_, fun i e hie he hc hc' => ?_, fun j i p hj hg => ?_⟩
  · have := List.all_eq_true.1 h1 j (by simpa using hj)
    simpa using List.all_eq_true.1 this i hi
  · have := List.all_eq_true.1 h2 _ (mem_pairs hij hj)
    simp only [Bool.and_eq_true, Bool.or_eq_true, Bool.not_eq_true'] at this
    rcases this.1 with e | e
    · unfold opAt at hc; rw [hc] at e; cases e
    · exact e
  · have := List.all_eq_true.1 h2 _ (mem_pairs hij hj)
    simp only [Bool.and_eq_true, Bool.or_eq_true, Bool.not_eq_true'] at this
    rcases this.2 with e | e
    · unfold opAt at hc hc'; rw [hc, hc'] at e; cases e
    · exact e
  · have := List.all_eq_true.1 h3 _ (mem_pairs hij hj)
    unfold opAt at ht ht'
    simp only [ht, ht'] at this
    simp at this
  · have := List.all_eq_true.1 h4 i (by simp; omega)
    simp only [Bool.or_eq_true, Bool.not_eq_true'] at this
    rcases this with e1 | e1
    · unfold opAt at hc; rw [hc] at e1; cases e1
    · have hmem : e ∈ Abs.effs ops := by
        unfold Abs.effs
        rw [List.mem_filter]
        refine ⟨by simpa using he, ?_⟩
        unfold opAt at hc'; rw [hc']; rfl
      have := List.all_eq_true.1 e1 e hmem
      simp only [Bool.or_eq_true, Bool.not_eq_true', decide_eq_false_iff_not] at this
      rcases this with e | e
      · exact absurd hie e
      · exact e
  · have := List.all_eq_true.1 h5 j (by simpa using hj)
    unfold opAt at hg
    rw [hg] at this
    simp only [Bool.and_eq_true, decide_eq_true_eq] at this
    exact ⟨this.1.1, this.1.2, this.2⟩
theorem bit_iff (hD : DrawF ops) {j i : Nat} (hj : j < ops.size) : bit ops j i = true ↔ ∃ p ∈ preds (opAt ops j), p = i ∨ bit ops p i = true :=
  before_bits hD.pre j hj i
theorem bit_lt (hD : DrawF ops) : ∀ j, j < ops.size → ∀ i, bit ops j i = true → i < j := by
  intro j
  induction j using Nat.strongRecOn with
  | _ j ih =>
    intro hj i hb
    obtain ⟨p, hp, h⟩ := (bit_iff hD hj).1 hb
    have hlt := hD.pre j hj p hp
    rcases h with rfl | h
    · exact hlt
    · have := ih p hlt (by omega) i h
      omega
/-- What is listed is listed with all that it must come behind. -/
def Down (ops : Array Oper) (L : Nat → Bool) : Prop := ∀ j, j < ops.size → L j = true → ∀ i, bit ops j i = true → L i = true
theorem Down.bits (hD : DrawF ops) {L : Nat → Bool} (hL : Down ops L) {x : Nat} (hx : x < ops.size) (hp : ∀ p ∈ preds (opAt ops x), L p = true) : ∀ i, bit ops x i = true → L i = true := by
  intro i hb
  obtain ⟨p, hpm, h⟩ := (bit_iff hD hx).1 hb
  have hlt := hD.pre x hx p hpm
  rcases h with rfl | h
  · exact hp p hpm
  · exact hL p (by omega) (hp p hpm) i h
theorem Down.add (hD : DrawF ops) {L : Nat → Bool} (hL : Down ops L) {x : Nat} (hx : x < ops.size) (hp : ∀ p ∈ preds (opAt ops x), L p = true) : Down ops fun j => decide (j = x) || L j := by
  intro j hj hLj i hb
  simp only [Bool.or_eq_true, decide_eq_true_eq] at hLj ⊢
  rcases hLj with rfl | hLj
  · exact .inr (hL.bits hD hx hp i hb)
  · exact .inr (hL j hj hLj i hb)
variable (P call ops a H) in
abbrev hl (j : Nat) : Nat := (trH P call ops a H j).length
variable (P call ops a H) in
/-- A block is made at this place. -/
def mkAt (j : Nat) : Prop := trW P call ops a H j = true ∧ cls (opAt ops j).op = .all_
theorem hl_step (hg : CallGrow call) {bef : Array Nat} (hok : ∀ j, j < ops.size → StepOk P call ops a H bef j) {j : Nat} (hj : j < ops.size) : hl P call ops a H j ≤ hl P call ops a H (j + 1) := by
  by_cases hE : isE P call ops a H j
  · exact stepA_grow hg ((hok j hj).eff hE).1
  · by_cases hm : trW P call ops a H j = true ∧ cls (opAt ops j).op = .all_
    · exact aexec_grow ((hok j hj).alloc hm.1 hm.2)
    · unfold hl; rw [(hok j hj).still hE hm]; exact Nat.le_refl _
theorem hl_mono (hg : CallGrow call) {bef : Array Nat} (hok : ∀ j, j < ops.size → StepOk P call ops a H bef j) {i : Nat} : ∀ {j : Nat}, i ≤ j → j ≤ ops.size → hl P call ops a H i ≤ hl P call ops a H j := by
  intro j
  induction j with
  | zero => intro h _; obtain rfl : i = 0 := by omega
            exact Nat.le_refl _
  | succ j ih =>
    intro h hj
    rcases Nat.eq_or_lt_of_le h with e | e
    · rw [e]; exact Nat.le_refl _
    · exact Nat.le_trans (ih (by omega) (by omega)) (hl_step hg hok (by omega))
theorem trA_no {bef : Array Nat} (hok : ∀ j, j < ops.size → StepOk P call ops a H bef j) {t : Nat} : ∀ x, x ≤ ops.size → (∀ y, y < x → (opAt ops y).dst ≠ some t) → trA P call ops a H x t = a t := by
  intro x
  induction x with
  | zero => intro _ _; rfl
  | succ x ih =>
    intro hx hno
    rw [(hok x (by omega)).next]
    have h1 := hno x (by omega)
    cases hd : (opAt ops x).dst with
    | none => simp only [putA]; exact ih (by omega) fun y hy => hno y (by omega)
    | some d =>
      have : t ≠ d := fun e => h1 (by rw [hd, e])
      simp only [putA, upd, if_neg this]
      exact ih (by omega) fun y hy => hno y (by omega)
theorem trA_wr (hD : DrawF ops) {bef : Array Nat} (hok : ∀ j, j < ops.size → StepOk P call ops a H bef j) {t y : Nat} (hy : (opAt ops y).dst = some t) : ∀ x, x ≤ ops.size → y < x → trA P call ops a H x t = trV P call ops a H y := by
  intro x
  induction x with
  | zero => intro _ h; omega
  | succ x ih =>
    intro hx hlt
    rw [(hok x (by omega)).next]
    rcases Nat.eq_or_lt_of_le (Nat.le_of_lt_succ hlt) with e | e
    · subst e
      rw [hy]; simp [putA, upd]
    · have h1 := hD.dst y x t e (by omega) hy
      cases hd : (opAt ops x).dst with
      | none => simp only [putA]; exact ih (by omega) e
      | some d =>
        have : t ≠ d := fun e => h1 (by rw [hd, e])
        simp only [putA, upd, if_neg this]
        exact ih (by omega) e
variable (P call ops a H) in
/-- The state of a drawn run: 'L' is done; of the effects those below 'c'. -/
structure Inv (nt : Nat) (m0 : Mp) (w0 : World) (L : Nat → Bool) (M : Mp) (w : World) (tmps : Array Value) (c : Nat) : Prop where
  le : c ≤ ops.size
  at_ : c = 0 ∨ ∃ e, c = e + 1 ∧ isE P call ops a H e
  eff : ∀ e, e < ops.size → isE P call ops a H e → (L e = true ↔ e < c)
  down : Down ops L
  base : Sim m0 H w0 (rst M (hl P call ops a H c)) (trH P call ops a H c) w
  early : ∀ x, x < ops.size → c ≤ x → L x = true → mkAt P call ops a H x → ∃ l B, M (hl P call ops a H x) = some l ∧ trH P call ops a H (x + 1) = trH P call ops a H x ++ [B] ∧ B.owned = true ∧
    BR (rst M (hl P call ops a H (x + 1))) w l B ∧ l.g < w.heap.size ∧ w0.heap.size ≤ l.g ∧ ∀ b k, b ≠ hl P call ops a H x → M b = some k → k.g ≠ l.g
  dom : ∀ b l, M b = some l → b < hl P call ops a H c ∨ ∃ x, x < ops.size ∧ c ≤ x ∧ L x = true ∧ mkAt P call ops a H x ∧ b = hl P call ops a H x
  size : tmps.size = nt
  frame : ∀ t, t < nt → ∃ v', tmps[t]? = some v' ∧ ((∃ y, y < ops.size ∧ L y = true ∧ (opAt ops y).dst = some t ∧ VR (rst M (hl P call ops a H (max (y + 1) c))) (trV P call ops a H y) v') ∨
    ((∀ y, y < ops.size → L y = true → (opAt ops y).dst ≠ some t) ∧ VR (rst M (hl P call ops a H c)) (a t) v'))
variable {m0 : Mp} {w0 w : World} {L : Nat → Bool} {M : Mp} {tmps : Array Value} {c : Nat}
theorem mk_hl {bef : Array Nat} (hok : ∀ j, j < ops.size → StepOk P call ops a H bef j) {nt : Nat} (hI : Inv P call ops a H nt m0 w0 L M w tmps c) {x : Nat} (hx : x < ops.size) (hc : c ≤ x) (hL : L x = true) (hm : mkAt P call ops a H x) : hl P call ops a H (x + 1) = hl P call ops a H x + 1 := by
  obtain ⟨l, B, _, h, _⟩ := hI.early x hx hc hL hm
  unfold hl; rw [h]; simp
/-- The blocks between two places that nobody has made have no place in the world. -/
theorem no_place (hg : CallGrow call) {bef : Array Nat} (hok : ∀ j, j < ops.size → StepOk P call ops a H bef j) (hI : Inv P call ops a H nt m0 w0 L M w tmps c) {j : Nat} (hj : j < ops.size) (hcj : c ≤ j) (hno : ¬ (L j = true ∧ mkAt P call ops a H j)) {b : Nat}
    (h1 : hl P call ops a H j ≤ b) (h2 : b < hl P call ops a H (j + 1)) : M b = none := by
  cases hb : M b with
  | none => rfl
  | some l =>
    exfalso
    rcases hI.dom b l hb with h | ⟨x, hx, hcx, hLx, hm, rfl⟩
    · have := hl_mono hg hok hcj (by omega)
      omega
    · rcases Nat.lt_trichotomy x j with h | h | h
      · have e1 := mk_hl hok hI hx hcx hLx hm
        have := hl_mono hg hok (show x + 1 ≤ j by omega) (by omega)
        omega
      · subst h; exact hno ⟨hLx, hm⟩
      · have := hl_mono hg hok (show j + 1 ≤ x by omega) (by omega)
        omega
theorem layers (hg : CallGrow call) {bef : Array Nat} (hok : ∀ j, j < ops.size → StepOk P call ops a H bef j) (hI : Inv P call ops a H nt m0 w0 L M w tmps c) : ∀ k, c + k ≤ ops.size → ∃ G, Sim m0 H w0 (rst M (hl P call ops a H (c + k))) G w ∧ G.length = hl P call ops a H (c + k) ∧ Sub (trH P call ops a H c) G ∧
    ((∀ j, c ≤ j → j < c + k → ¬ isE P call ops a H j ∧ (mkAt P call ops a H j → L j = true)) → G = trH P call ops a H (c + k)) := by
  intro k
  induction k with
  | zero => intro _; exact ⟨_, hI.base, rfl, fun _ _ h => h, fun _ => rfl⟩
  | succ k ih =>
    intro hk
    obtain ⟨G, h1, h2, h3, h4⟩ := ih (by omega)
    have hj : c + k < ops.size := by omega
    have hsub : ∀ r, Sub (trH P call ops a H c) (G ++ r) := fun r b x hb => by
      have := h3 b x hb
      rw [List.getElem?_append_left (lt_of_get this)]; exact this
    by_cases hm : L (c + k) = true ∧ mkAt P call ops a H (c + k)
    · obtain ⟨l, B, e1, e2, e3, e4, e5, e6, e7⟩ := hI.early _ hj (by omega) hm.1 hm.2
      have e0 : hl P call ops a H (c + k + 1) = G.length + 1 := by rw [h2]; exact mk_hl hok hI hj (by omega) hm.1 hm.2
      refine ⟨G ++ [B], ?_, by rw [List.length_append, show c + (k + 1) = c + k + 1 from rfl, e0]; rfl, hsub _, fun hall => ?_⟩
      · rw [show c + (k + 1) = c + k + 1 from rfl, e0]
        rw [← h2] at h1 e1 e7
        rw [e0] at e4
        exact h1.snoc e1 e4 e3 e5 e6 e7
      · rw [h4 fun j h5 h6 => hall j h5 (by omega), show c + (k + 1) = c + k + 1 from rfl, e2]
    · have hle := hl_step hg hok hj
      refine ⟨G ++ List.replicate (hl P call ops a H (c + k + 1) - G.length) .dead, ?_, by rw [List.length_append, List.length_replicate]; rw [← h2] at hle; rw [show c + (k + 1) = c + k + 1 from rfl]; exact Nat.add_sub_cancel' hle, hsub _, fun hall => ?_⟩
      · have : rst M (hl P call ops a H (c + (k + 1))) = rst M (hl P call ops a H (c + k)) := by
          funext b
          unfold rst
          rw [show c + (k + 1) = c + k + 1 from rfl]
          rcases Nat.lt_or_ge b (hl P call ops a H (c + k)) with hb | hb
          · rw [if_pos hb, if_pos (Nat.lt_of_lt_of_le hb hle)]
          · rw [if_neg (Nat.not_lt.2 hb)]
            split
            · rename_i hb2
              exact no_place hg hok hI hj (by omega) hm hb hb2
            · rfl
        rw [this]
        exact h1.dead _
      · have hq := hall (c + k) (by omega) (by omega)
        have hst := (hok _ hj).still hq.1 fun e => hm ⟨hq.2 e, e⟩
        have he : G = trH P call ops a H (c + k) := h4 fun j h5 h6 => hall j h5 (by omega)
        have : hl P call ops a H (c + k + 1) - G.length = 0 := by unfold hl; rw [hst, he]; omega
        rw [this, show c + (k + 1) = c + k + 1 from rfl, hst, he]
        simp
/-- An operation's operands are what the text's order makes them. -/
theorem Inv.opnd (hg : CallGrow call) (hD : DrawF ops) {bef : Array Nat} (hok : ∀ j, j < ops.size → StepOk P call ops a H bef j) (hI : Inv P call ops a H nt m0 w0 L M w tmps c) {x : Nat} (hx : x < ops.size) (hLx : L x = false) (hbits : ∀ i, bit ops x i = true → L i = true)
    {z : Operand} (hz : z ∈ (opAt ops x).op.operands.toList) (hzo : opndOk nt z = true) : VR (rst M (hl P call ops a H (max x c))) (ev (trA P call ops a H x) z) (evC tmps z) := by
  cases z with
  | tmp t =>
    have ht : t < nt := by simpa [opndOk] using hzo
    obtain ⟨v', h1, h2⟩ := hI.frame t ht
    have hname : t ∈ namesOf (opAt ops x) := by
      unfold namesOf
      rw [List.mem_append, List.mem_filterMap]
      exact .inr ⟨_, hz, rfl⟩
    have hev : evC tmps (.tmp t) = v' := by simp [evC, h1]
    rw [hev]
    simp only [ev]
    have hle : max x c ≤ ops.size := by have := hI.le; omega
    rcases h2 with ⟨y, hy, hLy, hd, hv⟩ | ⟨hno, hv⟩
    · have hyx : y < x := by
        rcases Nat.lt_trichotomy y x with h | h | h
        · exact h
        · subst h; rw [hLx] at hLy; cases hLy
        · have hc : clash (opAt ops x) (opAt ops y) = true := by
            unfold clash; rw [hd]; simp [hname]
          have := hI.down y hy hLy x (hD.clash x y h hy hc)
          rw [hLx] at this; cases this
      rw [trA_wr hD hok hd x (by omega) hyx]
      exact hv.mono (rst_ext (.refl M) (hl_mono hg hok (by omega) hle))
    · have : trA P call ops a H x t = a t := trA_no hok x (by omega) fun y hy hd => by
        have hc : clash (opAt ops y) (opAt ops x) = true := by
          unfold clash; rw [hd]; simp [hname]
        exact hno y (by omega) (hbits y (hD.clash y x hy hx hc)) hd
      rw [this]
      exact hv.mono (rst_ext (.refl M) (hl_mono hg hok (by omega) hle))
  | const v =>
    have hc : constAgg v = true := by simpa [opndOk] using hzo
    exact (VR.a (AR.of_const _ hc) : VR _ v v)
  | func f => exact .a (.s (.func f #[] #[] .nil))
  | global g => simp [opndOk] at hzo
theorem Inv.wanted (hg : CallGrow call) (hD : DrawF ops) {bef : Array Nat} (hok : ∀ j, j < ops.size → StepOk P call ops a H bef j) (hops : ∀ o ∈ ops.toList, operOk nt o = true) (hI : Inv P call ops a H nt m0 w0 L M w tmps c) {x : Nat} (hx : x < ops.size) (hbits : ∀ i, bit ops x i = true → L i = true) :
    Region.wanted (opAt ops x) (yielded ops tmps) = trW P call ops a H x := by
  unfold trW Region.wanted
  cases hgd : (opAt ops x).guard with
  | none => rfl
  | some gp =>
    obtain ⟨i, p⟩ := gp
    obtain ⟨g1, g2, g3⟩ := hD.guard x i p hx hgd
    have hLi := hbits i g2
    have key : yielded ops tmps i = yieldedA ops (trA P call ops a H x) i := by
      unfold yielded yieldedA
      rw [opAt_get (by omega : i < ops.size)]
      cases hd : (opAt ops i).dst with
      | none => rw [hd] at g3; cases g3
      | some t =>
        have ht : t < nt := by
          have h1 := hops _ (List.mem_of_getElem? (by simpa using opAt_get (by omega : i < ops.size) : ops.toList[i]? = some (opAt ops i)))
          unfold operOk at h1
          rw [hd] at h1
          simp only [Bool.and_eq_true] at h1
          simpa using h1.2
        obtain ⟨v', h1, h2⟩ := hI.frame t ht
        simp only [Option.bind_some, hd, h1]
        rcases h2 with ⟨y, hy, hLy, hd', hv⟩ | ⟨hno, hv⟩
        · have : y = i := by
            rcases Nat.lt_trichotomy y i with h | h | h
            · exact absurd hd (hD.dst y i t h (by omega) hd')
            · exact h
            · exact absurd hd' (hD.dst i y t h (by omega) hd)
          subst this
          rw [trA_wr hD hok hd x (by omega) g1]
          generalize trV P call ops a H y = u at hv
          cases u with
          | bool b => rw [hv.bool_]
          | _ =>
            split
            · rename_i c hc
              injection hc with hc
              subst hc
              cases hv.bool_right
            · rfl
        · exact absurd hd (hno i (by omega) hLi)
    simp only [key]
end
end Go.Abs
