/- Reads and writes of the abstract heap against the world's. -/
import Derived.Test.YtmmgdgmjkhcfaaaEngB
namespace Go.Abs
theorem add_none (b o i : Nat) : (⟨b, o, none⟩ : Addr).add i = ⟨b, o + i, none⟩ := by
  unfold Addr.add
  split
  · rename_i h; subst h; rfl
  · rfl
inductive Like : Blk → Blk → Prop
  | dead (x : Blk) : Like x .dead
  | cells (f : Nat) (own : Bool) (cs cs' : List Value) : Like (.cells f own cs) (.cells f own cs')
  | map (es es' : List (Value × Value)) : Like (.map es) (.map es')
  | loop (a b c d e f g a' b' c' d' e' f' g') : Like (.loop a b c d e f g) (.loop a' b' c' d' e' f' g')
theorem Like.refl (x : Blk) : Like x x := by cases x <;> constructor
theorem Like.owned {x y : Blk} (h : Like x y) (ho : y.owned = true) : x.owned = true := by cases h <;> first | exact ho | cases ho
theorem Like.live {x y : Blk} (h : Like x y) (ho : y.live = true) : x.live = true := by cases h <;> first | exact ho | rfl | cases ho
theorem kin_iff {x y : Blk} : x.kin y ↔ ∃ f cs ds, x = .cells f true cs ∧ y = .cells f true ds := by
  constructor
  · intro h
    unfold Blk.kin at h
    split at h
    · subst h; exact ⟨_, _, _, rfl, rfl⟩
    · exact h.elim
  · rintro ⟨f, cs, ds, rfl, rfl⟩
    rfl
theorem Like.kin {x x' y y' : Blk} (h : Like x x') (k : Like y y') (hx : x'.live = true) (hy : y'.live = true) (hk : x.kin y) : x'.kin y' := by
  obtain ⟨f, cs, ds, rfl, rfl⟩ := kin_iff.1 hk
  cases h with
  | dead => exact absurd hx (by simp [Blk.live])
  | cells _ _ _ cs' => cases k with
    | dead => exact absurd hy (by simp [Blk.live])
    | cells _ _ _ ds' => rfl
theorem Rel.like {m : Mp} {H H' : Heap} {w w' : World} (h : Rel m H w) (hsz : w.heap.size ≤ w'.heap.size) (hlen : H'.length = H.length)
    (hl : ∀ (b : Nat) x', H'[b]? = some x' → ∃ x, H[b]? = some x ∧ Like x x')
    (hb : ∀ (b : Nat) x' l, H'[b]? = some x' → m b = some l → BR m w' l x') : Rel m H' w' where
  len := fun b l hb => by rw [hlen]; exact h.len b l hb
  has := fun b x' hx' hlv => by
    obtain ⟨x, hx, lx⟩ := hl b x' hx'
    exact h.has b x hx (lx.live hlv)
  bnd := fun b l hb => Nat.lt_of_lt_of_le (h.bnd b l hb) hsz
  blk := hb
  sep := by
    intro b c x' y' l k hbc hx' hy' hl' hk' ho hlv hg
    obtain ⟨x, hx, lx⟩ := hl b x' hx'
    obtain ⟨y, hy, ly⟩ := hl c y' hy'
    obtain ⟨h1, h2⟩ := h.sep b c x y l k hbc hx hy hl' hk' (lx.owned ho) (ly.live hlv) hg
    exact ⟨lx.kin ly (by cases x' <;> first | rfl | cases ho) hlv h1, h2⟩
theorem Sim.like {m : Mp} {H H' : Heap} {w w' : World} (h : Rel m H w) (hlen : H'.length = H.length)
    (hl : ∀ (b : Nat) x', H'[b]? = some x' → ∃ x, H[b]? = some x ∧ Like x x')
    (hb : ∀ (b : Nat) x' l, H'[b]? = some x' → m b = some l → BR m w' l x') (hk : Keep m H w w') : Sim m H w m H' w' where
  ext := .refl m
  rel := h.like hk.size hlen hl hb
  keep := hk
  fresh := by
    rintro g ⟨b, x', l, hx', hm, ho, hg⟩
    obtain ⟨x, hx, lx⟩ := hl b x' hx'
    exact .inl ⟨b, x, l, hx, hm, lx.owned ho, hg⟩
  grow := Nat.le_of_eq hlen.symm
  img := fun b l h => .inl ⟨b, l, h, rfl⟩

def setArr : Array Value → Nat → List Value → Array Value
  | C, _, [] => C
  | C, o, v :: vs => setArr (C.setIfInBounds o v) (o + 1) vs
theorem setArr_size (vs : List Value) : ∀ (C : Array Value) (o : Nat), (setArr C o vs).size = C.size := by
  induction vs with
  | nil => intro C o; rfl
  | cons v vs ih => intro C o; simp [setArr, ih]
theorem setList_length (vs : List Value) : ∀ (cs : List Value) (o : Nat), (setList cs o vs).length = cs.length := by
  induction vs with
  | nil => intro C o; rfl
  | cons v vs ih => intro C o; simp [setList, ih]
theorem setArr_get (vs : List Value) : ∀ (C : Array Value) (o i : Nat), o + vs.length ≤ C.size → (setArr C o vs)[i]? = if o ≤ i ∧ i < o + vs.length then vs[i - o]? else C[i]? := by
  induction vs with
  | nil => intro C o i _; simp [setArr]; omega
  | cons v vs ih =>
    intro C o i h
    simp only [List.length_cons] at h
    rw [setArr, ih _ _ _ (by simp; omega), Array.getElem?_setIfInBounds]
    by_cases h1 : o + 1 ≤ i ∧ i < o + 1 + vs.length
    · rw [if_pos h1, if_pos (by simp; omega)]
      obtain ⟨k, rfl⟩ : ∃ k, i = o + 1 + k := ⟨i - (o + 1), by omega⟩
      simp [show o + 1 + k - o = k + 1 from by omega]
    · rw [if_neg h1]
      by_cases h2 : o = i
      · subst h2; simp; omega
      · rw [if_neg h2, if_neg (by simp; omega)]
theorem setList_get (vs : List Value) : ∀ (cs : List Value) (o i : Nat), o + vs.length ≤ cs.length → (setList cs o vs)[i]? = if o ≤ i ∧ i < o + vs.length then vs[i - o]? else cs[i]? := by
  induction vs with
  | nil => intro C o i _; simp [setList]; omega
  | cons v vs ih =>
    intro C o i h
    simp only [List.length_cons] at h
    rw [setList, ih _ _ _ (by simp; omega), List.getElem?_set]
    by_cases h1 : o + 1 ≤ i ∧ i < o + 1 + vs.length
    · rw [if_pos h1, if_pos (by simp; omega)]
      obtain ⟨k, rfl⟩ : ∃ k, i = o + 1 + k := ⟨i - (o + 1), by omega⟩
      simp [show o + 1 + k - o = k + 1 from by omega]
    · rw [if_neg h1]
      by_cases h2 : o = i
      · subst h2; simp; omega
      · rw [if_neg h2, if_neg (by simp; omega)]
def one (v : Value) : Prop := match v with | .agg _ => False | .tuple _ => False | _ => True
theorem SR.one {m : Mp} {v v' : Value} (h : SR m v v') : Abs.one v' := by cases h <;> trivial
theorem SR.one_left {m : Mp} {v v' : Value} (h : SR m v v') : Abs.one v := by cases h <;> trivial
/-- What a store of a row leaves. -/
structure Wrote (w w' : World) (g : Nat) (o : Obj) : Prop where
  os : w'.os = w.os
  tape : w'.tape = w.tape
  output : w'.output = w.output
  size : w'.heap.size = w.heap.size
  here : w'.heap[g]? = some o
  there : ∀ k, k ≠ g → w'.heap[k]? = w.heap[k]?
theorem run_store_one (P : Program) (w : World) (a : Addr) (v : Value) (h1 : one v) {u : Value} (hc : w.cell? a = some u) (hf : w.frozen? a = false) :
    (store a v).run P w = .ok () (w.setCell a v) := by
  cases v <;> first | exact False.elim h1 | simp [store, Sem.run, hc, hf]
theorem run_storeCells (P : Program) (g el : Nat) (vs : List Value) : ∀ (o i : Nat) (C : Array Value) (w : World), w.heap[g]? = some (.cells C el (0, 0)) → o + i + vs.length ≤ C.size → (∀ v ∈ vs, one v) →
    ∃ w', (storeCells ⟨g, o, none⟩ vs i).run P w = .ok () w' ∧ Wrote w w' g (.cells (setArr C (o + i) vs) el (0, 0)) := by
  induction vs with
  | nil => intro o i C w h _ _; exact ⟨w, rfl, rfl, rfl, rfl, rfl, h, fun _ _ => rfl⟩
  | cons v vs ih =>
    intro o i C w h hlen h1
    simp only [List.length_cons] at hlen
    have hlt : o + i < C.size := by omega
    have hc : w.cell? ⟨g, o + i, none⟩ = some C[o + i] := by simp [World.cell?, h, hlt]
    have hf : w.frozen? ⟨g, o + i, none⟩ = false := by simp [World.frozen?, h]
    have hg : g < w.heap.size := by
      rcases Nat.lt_or_ge g w.heap.size with hlt | hge
      · exact hlt
      · rw [Array.getElem?_eq_none hge] at h; cases h
    have hw : (w.setCell ⟨g, o + i, none⟩ v).heap[g]? = some (.cells (C.setIfInBounds (o + i) v) el (0, 0)) := by
      simp [World.setCell, Array.getElem?_modify, h]
    obtain ⟨w', hr, hw'⟩ := ih o (i + 1) (C.setIfInBounds (o + i) v) (w.setCell ⟨g, o + i, none⟩ v) hw (by simp; omega) (fun u hu => h1 u (by simp [hu]))
    refine ⟨w', ?_, hw'.os, hw'.tape, hw'.output, ?_, by simpa [setArr, Nat.add_assoc] using hw'.here, fun k hk => ?_⟩
    · rw [storeCells, Sem.run_bind, add_none, run_store_one P w _ v (h1 v (by simp)) hc hf]
      exact hr
    · rw [hw'.size]; simp [World.setCell]
    · rw [hw'.there k hk]
      exact RowKit.Below.heap_setCell _ _ _ _ hk

theorem truncFam_like (f k : Nat) (x : Blk) : Like x (truncFam f k x) := by
  unfold truncFam
  split
  · split <;> constructor
  · exact .refl _
theorem map_get {H : Heap} {f : Blk → Blk} {b : Nat} {x' : Blk} (h : (H.map f)[b]? = some x') : ∃ x, H[b]? = some x ∧ x' = f x := by
  rw [List.getElem?_map] at h
  cases hb : H[b]? with
  | none => rw [hb] at h; cases h
  | some x => rw [hb] at h; exact ⟨x, rfl, by simpa using h.symm⟩
/-- A kin block cut at k reads the same in a row that has turned only from k on. -/
theorem BR.trunc {m : Mp} {w w' : World} {l : Loc} {f k : Nat} {x : Blk} (h : BR m w l x)
    (hw : x.live = true → w'.heap[l.g]? = w.heap[l.g]? ∨ ∃ C C' el, x.kin (.cells f true []) ∧ w.heap[l.g]? = some (.cells C el (0, 0)) ∧ w'.heap[l.g]? = some (.cells C' el (0, 0)) ∧ C'.size = C.size ∧ ∀ i, i < l.o + k → C'[i]? = C[i]?) :
    BR m w' l (truncFam f k x) := by
  cases x with
  | dead => trivial
  | cells g own cs =>
    rcases hw rfl with e | ⟨C, C', el, hkin, e1, e2, e3, e4⟩
    · have := h.keep (.refl m) fun _ => e
      obtain ⟨C, el, fr, h1, h2, h3, h4⟩ := this
      by_cases hgf : g = f
      · simp only [truncFam, if_pos hgf]
        refine ⟨C, el, fr, h1, h2, h3, fun i v hv => ?_⟩
        have hi : i < k := by have := lt_of_get hv; simp at this; omega
        rw [List.getElem?_take, if_pos hi] at hv
        exact h4 i v hv
      · simp only [truncFam, if_neg hgf]
        exact ⟨C, el, fr, h1, h2, h3, h4⟩
    · obtain ⟨C0, el0, fr, h1, h2, h3, h4⟩ := h
      have hgf : g = f ∧ own = true := by
        cases own
        · exact hkin.elim
        · exact ⟨hkin, rfl⟩
      obtain ⟨rfl, rfl⟩ := hgf
      rw [e1] at h1
      injection h1 with h1
      injection h1 with h1 h1' h1''
      subst h1; subst h1'
      simp only [truncFam, if_true]
      refine ⟨C', el, (0, 0), e2, by rw [e3, h2], fun _ => rfl, fun i v hv => ?_⟩
      have hi : i < k := by have := lt_of_get hv; simp at this; omega
      rw [List.getElem?_take, if_pos hi] at hv
      obtain ⟨v', a, b⟩ := h4 i v hv
      exact ⟨v', by rw [e4 _ (by omega)]; exact a, b⟩
  | map es =>
    rcases hw rfl with e | ⟨_, _, _, hkin, _⟩
    · exact h.keep (.refl m) fun _ => e
    · exact hkin.elim
  | loop =>
    rcases hw rfl with e | ⟨_, _, _, hkin, _⟩
    · exact h.keep (.refl m) fun _ => e
    · exact hkin.elim
/-- A store of scalars into a block of the call's own. -/
theorem Sim.write {P : Program} {m : Mp} {H H' : Heap} {w : World} {b o : Nat} {vs vs' : List Value} {l : Loc} (h : Rel m H w) (hH : H.write b o vs = some H') (hl : m b = some l) (hv : All2 (SR m) vs vs') :
    ∃ w', (storeCells ⟨l.g, l.o + o, none⟩ vs').run P w = .ok () w' ∧ Sim m H w m H' w' := by
  unfold Heap.write at hH
  split at hH
  · rename_i fam cs hb
    split at hH
    · rename_i hle
      injection hH with hH
      subst hH
      obtain ⟨C, el, fr, h1, h2, h3, h4⟩ := h.blk b _ l hb hl
      obtain rfl : fr = (0, 0) := h3 rfl
      have hlv := hv.length
      have hC : ∀ i, i < cs.length → l.o + i < C.size := fun i hi => by
        obtain ⟨v', a, _⟩ := h4 i _ (List.getElem?_eq_getElem hi)
        rcases Nat.lt_or_ge (l.o + i) C.size with hlt | hge
        · exact hlt
        · rw [Array.getElem?_eq_none hge] at a; cases a
      have hfit : vs'.length = 0 ∨ l.o + o + vs'.length ≤ C.size := by
        rcases Nat.eq_zero_or_pos vs'.length with e | e
        · exact .inl e
        · exact .inr (by have := hC (o + vs'.length - 1) (by omega); omega)
      have hone : ∀ v ∈ vs', Abs.one v := by
        intro v hv'
        obtain ⟨i, hi, rfl⟩ := List.getElem_of_mem hv'
        obtain ⟨y, hy, hr⟩ := hv.get i _ (List.getElem?_eq_getElem (by omega : i < vs.length))
        rw [List.getElem?_eq_getElem hi] at hy
        injection hy with hy
        rw [hy]; exact hr.one
      have hrun : ∃ w', (storeCells ⟨l.g, l.o + o, none⟩ vs').run P w = .ok () w' ∧ Wrote w w' l.g (.cells (setArr C (l.o + o) vs') el (0, 0)) := by
        rcases hfit with e | e
        · have : vs' = [] := List.eq_nil_of_length_eq_zero e
          subst this
          exact ⟨w, rfl, rfl, rfl, rfl, rfl, h1, fun _ _ => rfl⟩
        · exact run_storeCells P l.g el vs' (l.o + o) 0 C w h1 e hone
      obtain ⟨w', hr, hw⟩ := hrun
      refine ⟨w', hr, Sim.like h (by simp) ?_ ?_ ⟨hw.os, hw.tape, hw.output, Nat.le_of_eq hw.size.symm, fun g hg hn => ?_⟩⟩
      · intro c x' hx'
        by_cases hc : c = b
        · subst hc
          refine ⟨_, hb, ?_⟩
          rw [List.getElem?_set] at hx'
          simp only [if_true] at hx'
          split at hx'
          · injection hx' with hx'
            subst hx'
            constructor
          · cases hx'
        · rw [List.getElem?_set, if_neg (fun e => hc e.symm)] at hx'
          obtain ⟨x, hx, rfl⟩ := map_get hx'
          exact ⟨x, hx, truncFam_like _ _ _⟩
      · intro c x' k hx' hk
        by_cases hc : c = b
        · subst hc
          obtain rfl : k = l := by rw [hk] at hl; injection hl
          rw [List.getElem?_set] at hx'
          simp only [if_true] at hx'
          split at hx'
          · injection hx' with hx'
            subst hx'
            refine ⟨_, el, (0, 0), hw.here, by rw [setArr_size, h2], fun _ => rfl, fun i v hi => ?_⟩
            rw [setList_get _ _ _ _ hle] at hi
            have hgs : (setArr C (k.o + o) vs')[k.o + i]? = if k.o + o ≤ k.o + i ∧ k.o + i < k.o + o + vs'.length then vs'[k.o + i - (k.o + o)]? else C[k.o + i]? := by
              rcases hfit with e | e
              · have : vs' = [] := List.eq_nil_of_length_eq_zero e
                subst this
                simp [setArr]; omega
              · exact setArr_get _ _ _ _ e
            rw [hgs]
            split at hi
            · rename_i hin
              rw [if_pos (by omega), show k.o + i - (k.o + o) = i - o from by omega]
              exact hv.get _ _ hi
            · rename_i hin
              rw [if_neg (by omega)]
              exact h4 i v hi
          · cases hx'
        · rw [List.getElem?_set, if_neg (fun e => hc e.symm)] at hx'
          obtain ⟨x, hx, rfl⟩ := map_get hx'
          refine (h.blk c x k hx hk).trunc fun hlive => ?_
          by_cases hg : k.g = l.g
          · obtain ⟨hkin, ho⟩ := h.sep b c _ x l k (fun e => hc e.symm) hb hx hl hk rfl hlive hg.symm
            refine .inr ⟨C, setArr C (l.o + o) vs', el, ?_, by rw [hg]; exact h1, by rw [hg]; exact hw.here, setArr_size _ _ _, fun i hi => ?_⟩
            · cases x with
              | cells f own cs' =>
                cases own
                · exact hkin.elim
                · exact Eq.symm hkin
              | dead => exact hkin.elim
              | map => exact hkin.elim
              | loop => exact hkin.elim
            · rcases hfit with e | e
              · have : vs' = [] := List.eq_nil_of_length_eq_zero e
                subst this; rfl
              · rw [setArr_get _ _ _ _ e, if_neg (by omega)]
          · exact .inl (hw.there _ hg)
      · exact hw.there g fun e => hn ⟨b, _, l, hb, hl, rfl, e.symm⟩
    · cases hH
  · cases hH
end Go.Abs
