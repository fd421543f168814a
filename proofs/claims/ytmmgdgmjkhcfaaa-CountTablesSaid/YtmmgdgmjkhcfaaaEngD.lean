/- Each operation of the abstract evaluator is the world's. -/
import Derived.Test.YtmmgdgmjkhcfaaaEngC
namespace Go.Abs
section
variable {P : Program}
theorem run_of_pureVal {α : Type} {s : Sem α} : ∀ {v : α} {w : World}, pureVal P s = some v → s.run P w = .ok v w := by
  induction s with
  | pure a => intro v w h; simp [pureVal] at h; subst h; rfl
  | program k ih => intro v w h; simp only [pureVal] at h; rw [Sem.run]; exact ih P h
  | _ => intro v w h; simp [pureVal] at h
theorem run_size {t : TypeId} {s : Nat} (h : sizeT P t = some s) (w : World) : (sizeOf t).run P w = .ok s w := by
  unfold sizeT at h
  cases hi : P.info? t with
  | none => rw [hi] at h; cases h
  | some i => rw [hi] at h; simp at h; simp [sizeOf, typeInfo, hi, h]
theorem run_isAgg {t : TypeId} {b : Bool} (h : isAggT P t = some b) (w : World) : (isAgg t).run P w = .ok b w := by
  unfold isAggT at h
  split at h <;> first | cases h | skip
  · rename_i hu; simp [isAgg, run_underlying hu]
  · rename_i hu; simp [isAgg, run_underlying hu]
  · rename_i d h1 h2 hu
    simp only [isAgg, Sem.run_bind, run_underlying hu, Result.andThen_ok]
    rfl
theorem run_zero {t : TypeId} {z : Value} (h : zeroT P t = some z) (w : World) : (zeroValue t).run P w = .ok z w ∧ constAgg z = true := by
  unfold zeroT at h
  split at h
  · rename_i i hi
    split at h
    · rename_i z' hz
      split at h
      · rename_i hc
        injection h with h; subst h
        exact ⟨by simp [zeroValue, typeInfo, hi, hz], hc⟩
      · cases h
    · cases h
  · cases h

variable {m : Mp} {H : Heap} {w : World} {nt : Nat} {a : Fr} {tmps : Array Value}
def evC (tmps : Array Value) : Operand → Value
  | .tmp t => tmps.getD t undef
  | .const v => v
  | .global g => .pointer (some ⟨g, 0, none⟩)
  | .func f => .func (.func f) #[] #[]
theorem FR.tmp (h : FR m nt a tmps) {t : Nat} (ht : t < nt) : VR m (a t) (tmps.getD t undef) := by
  obtain ⟨v', h1, h2⟩ := h.2 t ht
  rw [Array.getD_eq_getD_getElem?, h1]; exact h2
theorem FR.opnd (h : FR m nt a tmps) {x : Operand} (hx : opndOk nt x = true) : VR m (ev a x) (evC tmps x) := by
  cases x with
  | tmp t => exact h.tmp (by simpa [opndOk] using hx)
  | const v =>
    have hc : constAgg v = true := by simpa [opndOk] using hx
    exact (VR.a (AR.of_const m hc) : VR m v v)
  | func f => exact .a (.s (.func f #[] #[] .nil))
  | global g => simp [opndOk] at hx
theorem FR.put (h : FR m nt a tmps) {v v' : Value} (hv : VR m v v') (d : Nat) : FR m nt (upd a d v) (tmps.setIfInBounds d v') := by
  refine ⟨by simp [h.1], fun t ht => ?_⟩
  obtain ⟨u, h1, h2⟩ := h.2 t ht
  rw [Array.getElem?_setIfInBounds]
  by_cases hd : d = t
  · subst hd
    rw [if_pos rfl, if_pos (by rw [h.1]; exact ht)]
    exact ⟨v', rfl, by simpa [upd] using hv⟩
  · rw [if_neg hd]
    exact ⟨u, h1, by simpa [upd, show ¬ t = d from fun e => hd e.symm] using h2⟩
theorem FR.putA (h : FR m nt a tmps) {v v' : Value} (hv : VR m v v') (d : Option Nat) : FR m nt (Abs.putA a d v) (match d with | some d => tmps.setIfInBounds d v' | none => tmps) := by
  cases d with
  | none => exact h
  | some d => exact h.put hv d

theorem VR.int_ {k : IntKind} {n : Int} {v' : Value} (h : VR m (.int k n) v') : v' = .int k n := h.plain rfl
theorem VR.bool_ {b : Bool} {v' : Value} (h : VR m (.bool b) v') : v' = .bool b := h.plain rfl
theorem VR.ptr_ {b o : Nat} {v' : Value} (h : VR m (.pointer (some ⟨b, o, none⟩)) v') : ∃ l, m b = some l ∧ v' = .pointer (some ⟨l.g, l.o + o, none⟩) := by
  cases h with
  | a h => cases h with
    | s h => cases h with
      | ptr b o l hl => exact ⟨l, hl, rfl⟩
theorem VR.slice_ {b o n e : Nat} {v' : Value} (h : VR m (.slice (some ⟨b, o, none⟩) n e) v') :
    ∃ l c, m b = some l ∧ v' = .slice (some ⟨l.g, l.o + o, none⟩) n c ∧ n ≤ c ∧ l.o + o + c * e ≤ l.N := by
  cases h with
  | a h => cases h with
    | s h => cases h with
      | slice b o n e c l hl h1 h2 => exact ⟨l, c, hl, rfl, h1, h2⟩
theorem VR.lost_ {b o p n e : Nat} {v' : Value} (h : VR m (.slice (some ⟨b, o, some p⟩) n e) v') : n = 0 ∧ b = 0 ∧ o = 0 ∧ ∃ g c, v' = .slice (some g) 0 c := by
  cases h with
  | a h => cases h with
    | s h => cases h with
      | lost p c g c' => exact ⟨rfl, rfl, rfl, g, c', rfl⟩
theorem VR.sliceNil_ {n c : Nat} {v' : Value} (h : VR m (.slice none n c) v') : n = 0 ∧ c = 0 ∧ v' = .slice none 0 0 := by
  cases h with
  | a h => cases h with
    | s h => cases h with
      | sliceNil => exact ⟨rfl, rfl, rfl⟩
theorem VR.map_ {b : Nat} {v' : Value} (h : VR m (.map (some b)) v') : ∃ l, m b = some l ∧ v' = .map (some l.g) := by
  cases h with
  | a h => cases h with
    | s h => cases h with
      | map b l hl => exact ⟨l, hl, rfl⟩
theorem VR.agg_ {cs : Array Value} {v' : Value} (h : VR m (.agg cs) v') : ∃ cs', v' = .agg cs' ∧ All2 (SR m) cs.toList cs'.toList := by
  cases h with
  | a h => cases h with
    | s h => cases h
    | agg h => exact ⟨_, rfl, h⟩
theorem VR.tuple_ {vs : Array Value} {v' : Value} (h : VR m (.tuple vs) v') : ∃ vs', v' = .tuple vs' ∧ All2 (AR m) vs.toList vs'.toList := by
  cases h with
  | a h => cases h with
    | s h => cases h
  | tuple h => exact ⟨_, rfl, h⟩
theorem scal_rel {v v' : Value} {cs : List Value} (hs : scal v = some cs) (h : VR m v v') : All2 (SR m) cs v'.cells.toList ∧ AR m v v' := by
  cases h with
  | a h => cases h with
    | s h =>
      have h1 := h.one
      have h2 := h.one_left
      have hc : v'.cells = #[v'] := by cases v' <;> first | rfl | exact False.elim h1
      have hv : scal v = some [v] := by cases v <;> first | rfl | exact False.elim h2
      rw [hv] at hs
      injection hs with hs
      subst hs
      exact ⟨by rw [hc]; exact .cons h .nil, .s h⟩
    | agg h => simp only [scal] at hs; injection hs with hs; subst hs; exact ⟨h, .agg h⟩
  | tuple h => simp [scal] at hs
/-- What a load reads. -/
theorem Rel.cell (h : Rel m H w) {b o : Nat} {v : Value} {l : Loc} (hc : H.cell b o = some v) (hl : m b = some l) : ∃ v', w.cell? ⟨l.g, l.o + o, none⟩ = some v' ∧ SR m v v' := by
  unfold Heap.cell at hc
  split at hc
  · rename_i f own cs hb
    obtain ⟨C, el, fr, h1, h2, h3, h4⟩ := h.blk b _ l hb hl
    obtain ⟨v', h5, h6⟩ := h4 o v hc
    exact ⟨v', by simp [World.cell?, h1, h5], h6⟩
  · cases hc
theorem cellsAt_get {b o n : Nat} {cs : List Value} (h : H.cellsAt b o n = some cs) : cs.length = n ∧ ∀ i, i < n → H.cell b (o + i) = cs[i]? := by
  unfold Heap.cellsAt at h
  split at h
  · rename_i f own ds hb
    split at h
    · rename_i hle
      injection h with h
      subst h
      refine ⟨by simp; omega, fun i hi => ?_⟩
      simp [Heap.cell, hb, hi]
    · cases h
  · cases h
theorem run_load {p : Addr} {v : Value} (h : w.cell? p = some v) : (load p).run P w = .ok v w := by simp [load, Sem.run, h]
theorem run_loadCellsFrom {g o : Nat} (vs : List Value) : ∀ (i : Nat) (acc : Array Value), (∀ (j : Nat) v, vs[j]? = some v → w.cell? ⟨g, o + i + j, none⟩ = some v) →
    (loadCellsFrom ⟨g, o, none⟩ i vs.length acc).run P w = .ok (acc ++ vs.toArray) w := by
  induction vs with
  | nil => intro i acc _; simp [loadCellsFrom]
  | cons v vs ih =>
    intro i acc h
    have h0 := h 0 v (by simp)
    rw [List.length_cons, loadCellsFrom, Sem.run_bind, add_none, run_load (by simpa using h0), Result.andThen_ok, ih (i + 1) (acc.push v) (fun j u hj => by
      have := h (j + 1) u (by simpa using hj)
      rw [show o + (i + 1) + j = o + i + (j + 1) from by omega]; exact this)]
    simp
theorem Rel.loads (h : Rel m H w) {b o n : Nat} {cs : List Value} {l : Loc} (hc : H.cellsAt b o n = some cs) (hl : m b = some l) :
    ∃ vs : Array Value, (loadCells ⟨l.g, l.o + o, none⟩ n).run P w = .ok vs w ∧ All2 (SR m) cs vs.toList ∧ vs.size = n ∧ ∀ (j : Nat) v, vs[j]? = some v → w.cell? ⟨l.g, l.o + o + j, none⟩ = some v := by
  obtain ⟨hn, hcell⟩ := cellsAt_get hc
  have hall : ∀ i, i < n → ∃ v', w.cell? ⟨l.g, l.o + o + i, none⟩ = some v' ∧ ∀ v, cs[i]? = some v → SR m v v' := by
    intro i hi
    have hx := hcell i hi
    rw [List.getElem?_eq_getElem (by omega)] at hx
    obtain ⟨v', h1, h2⟩ := h.cell hx hl
    exact ⟨v', by rw [Nat.add_assoc]; exact h1, fun v hv => by rw [List.getElem?_eq_getElem (by omega)] at hv; injection hv with hv; rw [← hv]; exact h2⟩
  have hvs : ∃ vs : List Value, vs.length = n ∧ (∀ (j : Nat) v, vs[j]? = some v → w.cell? ⟨l.g, l.o + o + j, none⟩ = some v) ∧ All2 (SR m) cs vs := by
    let f : Nat → Value := fun i => (w.cell? ⟨l.g, l.o + o + i, none⟩).getD undef
    refine ⟨(List.range n).map f, by simp, fun j v hj => ?_, .of_get (by simp [hn]) fun i x y hx hy => ?_⟩
    · have hlt : j < n := by have := lt_of_get hj; simpa using this
      obtain ⟨v', h1, _⟩ := hall j hlt
      simp [hlt, f, h1] at hj
      rw [h1, hj]
    · have hlt : i < n := by have := lt_of_get hy; simpa using this
      obtain ⟨v', h1, h2⟩ := hall i hlt
      simp [hlt, f, h1] at hy
      rw [← hy]; exact h2 x hx
  obtain ⟨vs, h1, h2, h3⟩ := hvs
  refine ⟨vs.toArray, ?_, by simpa using h3, by simpa using h1, fun j v hj => h2 j v (by simpa using hj)⟩
  have := run_loadCellsFrom (P := P) (w := w) (g := l.g) (o := l.o + o) vs 0 #[] (fun j v hj => by simpa using h2 j v hj)
  rw [h1] at this
  simpa [loadCells] using this
theorem loadA_sound (hR : Rel m H w) {t : TypeId} {v v' r : Value} (h : loadA P t v H = some r) (hv : VR m v v') : ∃ r', (Instr.loadAt t v').run P w = .ok r' w ∧ AR m r r' := by
  unfold loadA at h
  split at h
  · rename_i b o
    obtain ⟨l, hl, rfl⟩ := hv.ptr_
    split at h
    · rename_i hagg
      split at h
      · rename_i n hn
        split at h
        · rename_i cs hcs
          injection h with h
          subst h
          obtain ⟨vs, h1, h2, _⟩ := hR.loads (P := P) hcs hl
          exact ⟨.agg vs, by simp [Instr.loadAt, Instr.sureAddr, loadVar, run_isAgg hagg, run_size hn, h1], .agg (by simpa using h2)⟩
        · cases h
      · cases h
    · rename_i hagg
      obtain ⟨r', h1, h2⟩ := hR.cell h hl
      exact ⟨r', by simp [Instr.loadAt, Instr.sureAddr, loadVar, run_isAgg hagg, h1], .s h2⟩
    · cases h
  · cases h
theorem storeA_sound (hR : Rel m H w) {t : TypeId} {p p' v v' : Value} {H' : Heap} (h : storeA P t p v H = some H') (hp : VR m p p') (hv : VR m v v') :
    ∃ w', (Instr.storeAt t p' v').run P w = .ok () w' ∧ Sim m H w m H' w' := by
  unfold storeA at h
  split at h
  · rename_i b o cs n hs hn
    split at h
    · rename_i hlen
      obtain ⟨l, hl, rfl⟩ := hp.ptr_
      obtain ⟨h1, _⟩ := scal_rel hs hv
      obtain ⟨w', h2, h3⟩ := Sim.write (P := P) hR h hl h1
      refine ⟨w', ?_, h3⟩
      have hsz : v'.cells.size = n := by rw [← hlen, h1.length]; simp
      simp [Instr.storeAt, Instr.sureAddr, storeVar, run_size hn, hsz, h2]
    · cases h
  · cases h
theorem fieldAddrA_sound {t : TypeId} {v v' r : Value} {i : Nat} (h : fieldAddrA P t v i = some r) (hv : VR m v v') : ∃ r', (Instr.fieldAt t v' i).run P w = .ok r' w ∧ VR m r r' := by
  unfold fieldAddrA at h
  split at h
  · rename_i fields b o hu
    split at h
    · rename_i f hf
      split at h
      · rename_i s hs
        injection h with h
        subst h
        obtain ⟨l, hl, rfl⟩ := hv.ptr_
        refine ⟨_, ?_, .a (.s (.ptr b (o + f.offset) l hl))⟩
        simp [Instr.fieldAt, run_underlying hu, hf, Instr.sureAddr, fieldPlace, run_size hs, add_none, Nat.add_assoc]
      · cases h
    · cases h
  · cases h
theorem partA_sound {t : TypeId} {cs cs' : Array Value} {r : Value} {i : Nat} (h : partA P t cs.toList i = some r) (hv : All2 (SR m) cs.toList cs'.toList) : ∃ r', (part t cs' i).run P w = .ok r' w ∧ VR m r r' := by
  unfold partA at h
  split at h
  · rename_i hagg
    split at h
    · rename_i n hn
      injection h with h
      subst h
      refine ⟨_, by simp [part, run_isAgg hagg, run_size hn]; rfl, .a (.agg ?_)⟩
      have := (hv.drop i).take n
      simpa [Array.toList_extract, List.extract_eq_take_drop] using this
    · cases h
  · rename_i hagg
    obtain ⟨y, h1, h2⟩ := hv.get i r h
    refine ⟨y, ?_, .a (.s h2)⟩
    have : cs'[i]? = some y := by simpa using h1
    simp [part, run_isAgg hagg, this]
  · cases h
theorem fieldA_sound {t : TypeId} {v v' r : Value} {i : Nat} (h : fieldA P t v i = some r) (hv : VR m v v') : ∃ r', (Instr.field t v' i).run P w = .ok r' w ∧ VR m r r' := by
  unfold fieldA at h
  split at h
  · rename_i fields cs hu
    split at h
    · rename_i f hf
      obtain ⟨cs', rfl, hcs⟩ := hv.agg_
      obtain ⟨r', h1, h2⟩ := partA_sound (w := w) h hcs
      exact ⟨r', by simp [Instr.field, run_underlying hu, hf, asAgg, h1], h2⟩
    · cases h
  · cases h
theorem sliceElem_sound {t e : TypeId} {s : Nat} (h : sliceElem P t = some (e, s)) : P.underlying t = some (.slice e) ∧ sizeT P e = some s := by
  unfold sliceElem at h
  split at h
  · rename_i e' hu
    split at h
    · rename_i s' hs
      injection h with h
      injection h with h1 h2
      subst h1; subst h2
      exact ⟨hu, hs⟩
    · cases h
  · cases h
theorem indexAddrA_sound {t : TypeId} {x x' i i' r : Value} (h : indexAddrA P t x i = some r) (hx : VR m x x') (hi : VR m i i') : ∃ r', (Instr.indexAt t x' i').run P w = .ok r' w ∧ VR m r r' := by
  unfold indexAddrA at h
  split at h
  · rename_i e size b o n ec kk k he
    split at h
    · rename_i hk
      injection h with h
      subst h
      obtain ⟨l, c, hl, rfl, hn, _⟩ := hx.slice_
      obtain rfl := hi.int_
      obtain ⟨hu, hs⟩ := sliceElem_sound he
      refine ⟨_, ?_, .a (.s (.ptr b (o + k.toNat * size) l hl))⟩
      simp [Instr.indexAt, asIntOf, run_underlying hu, run_size hs, hk, add_none, Nat.add_assoc]
    · cases h
  · cases h
def bnd (v : Option Value) (dflt most : Nat) (code : BoundsCode) : Sem Nat := match v with | some x => Instr.sliceBound x most code | none => pure dflt
theorem boundA_sound {v v' : Option Value} {dflt most r : Nat} (code : BoundsCode) (h : boundA v dflt most = some r) (hv : ∀ x, v = some x → ∃ x', v' = some x' ∧ VR m x x') (h0 : v = none → v' = none) :
    (bnd v' dflt most code).run P w = .ok r w ∧ (v.isSome → r ≤ most) := by
  unfold boundA at h
  unfold bnd
  split at h
  · injection h with h
    subst h
    rw [h0 rfl]
    exact ⟨rfl, fun h => by simp at h⟩
  · rename_i k n
    split at h
    · rename_i hk
      injection h with h
      subst h
      obtain ⟨x', rfl, hx⟩ := hv _ rfl
      obtain rfl := hx.int_
      refine ⟨by simp [Instr.sliceBound, asIntOf, hk], fun _ => by omega⟩
    · cases h
  · cases h
theorem run_bounds {lo hi : Option Value} {len cap l h : Nat} (hh : (bnd hi len cap .sliceAcap).run P w = .ok h w)
    (hlo : (bnd lo 0 h .sliceB).run P w = .ok l w) : (Instr.sliceBounds true len cap lo hi none).run P w = .ok (l, h, cap) w := by
  unfold bnd at hh hlo
  unfold Instr.sliceBounds
  cases hi <;> cases lo <;> simp_all
theorem sliceExprA_sound {t : TypeId} {x x' r : Value} {lo hi lo' hi' : Option Value} (h : sliceExprA P t x lo hi = some r) (hx : VR m x x')
    (hlo : ∀ y, lo = some y → ∃ y', lo' = some y' ∧ VR m y y') (hlo0 : lo = none → lo' = none) (hhi : ∀ y, hi = some y → ∃ y', hi' = some y' ∧ VR m y y') (hhi0 : hi = none → hi' = none) :
    ∃ r', (Instr.sliceAt t x' lo' hi' none).run P w = .ok r' w ∧ VR m r r' := by
  unfold sliceExprA at h
  split at h
  · split at h
    · rename_i es hh he hb
      split at h
      · rename_i l hl
        injection h with h
        subst h
        obtain ⟨_, _, rfl⟩ := hx.sliceNil_
        obtain ⟨e, s⟩ := es
        obtain ⟨hu, hs⟩ := sliceElem_sound he
        obtain ⟨b1, c1⟩ := boundA_sound (P := P) (w := w) .sliceAcap hb hhi hhi0
        obtain ⟨b2, c2⟩ := boundA_sound (P := P) (w := w) .sliceB hl hlo hlo0
        have hh0 : hh = 0 := by
          cases hi with
          | none => simp [boundA] at hb; omega
          | some _ => have := c1 rfl; omega
        subst hh0
        have hl0 : l = 0 := by
          cases lo with
          | none => simp [boundA] at hl; omega
          | some _ => have := c2 rfl; omega
        subst hl0
        refine ⟨_, ?_, .a (.s .sliceNil)⟩
        simp [Instr.sliceAt, run_underlying hu, Instr.slice, run_bounds b1 b2, run_size hs]
      · cases h
    · cases h
  · rename_i b o sp n sz
    split at h
    · rename_i e size hh he hb
      split at h
      · rename_i l hl
        obtain ⟨hu, hs⟩ := sliceElem_sound he
        have key : ∀ (ad : Addr) (c : Nat), x' = .slice (some ad) n c → n ≤ c →
            (Instr.sliceAt t x' lo' hi' none).run P w = .ok (.slice (if c = l then some ad else some (ad.add (l * size))) (hh - l) (c - l)) w ∧ hh ≤ c ∧ l ≤ hh := by
          intro ad c hxe hnc
          have hb' : boundA hi n c = some hh := by
            unfold boundA at hb ⊢
            split
            · exact hb
            · rename_i k q
              simp only at hb
              split at hb
              · rename_i hq
                rw [if_pos (by omega)]; exact hb
              · cases hb
            · simp at hb
          obtain ⟨b1, c1⟩ := boundA_sound (P := P) (w := w) .sliceAcap hb' hhi hhi0
          obtain ⟨b2, c2⟩ := boundA_sound (P := P) (w := w) .sliceB hl hlo hlo0
          have hhc : hh ≤ c := by
            cases hi with
            | none => simp [boundA] at hb; omega
            | some _ => exact c1 rfl
          have hlh : l ≤ hh := by
            cases lo with
            | none => simp [boundA] at hl; omega
            | some _ => exact c2 rfl
          refine ⟨?_, hhc, hlh⟩
          subst hxe
          simp [Instr.sliceAt, run_underlying hu, Instr.slice, run_bounds b1 b2, run_size hs]
        have hshape : ∃ ad c, x' = .slice (some ad) n c ∧ n ≤ c ∧ (sp = none → ∃ l0, m b = some l0 ∧ ad = ⟨l0.g, l0.o + o, none⟩ ∧ l0.o + o + c * sz ≤ l0.N) ∧ (sp ≠ none → n = 0 ∧ b = 0 ∧ o = 0) := by
          cases sp with
          | none =>
            obtain ⟨l0, c, hl0, rfl, h1, h2⟩ := hx.slice_
            exact ⟨_, c, rfl, h1, (fun _ => ⟨l0, hl0, rfl, h2⟩), (fun h => absurd rfl h)⟩
          | some p =>
            obtain ⟨h1, h2, h3, g, c, rfl⟩ := hx.lost_
            subst h1; subst h2; subst h3
            exact ⟨g, c, rfl, Nat.zero_le _, (fun h => by cases h), (fun _ => ⟨rfl, rfl, rfl⟩)⟩
        obtain ⟨ad, c, hxe, hnc, hsp, hlost⟩ := hshape
        obtain ⟨hrun, hhc, hlh⟩ := key ad c hxe hnc
        split at h
        · rename_i hl0
          subst hl0
          injection h with h
          subst h
          refine ⟨_, hrun, ?_⟩
          have hadd : (if c = 0 then some ad else some (ad.add (0 * size))) = some ad := by
            split
            · rfl
            · simp [Addr.add]
          rw [hadd, Nat.sub_zero, Nat.sub_zero]
          cases sp with
          | none =>
            obtain ⟨l0, hl0, rfl, h2⟩ := hsp rfl
            exact .a (.s (.slice b o hh sz c l0 hl0 hhc h2))
          | some p =>
            obtain ⟨h1, h2, h3⟩ := hlost (by simp)
            subst h2; subst h3
            have : hh = 0 := by
              cases hi with
              | none => simp [boundA] at hb; omega
              | some y =>
                subst h1
                have := (boundA_sound (P := P) (w := w) .sliceAcap hb hhi hhi0).2 rfl
                omega
            subst this
            exact .a (.s (.lost p sz ad c))
        · rename_i hl0
          split at h
          · rename_i hlh'
            injection h with h
            subst h
            subst hlh'
            refine ⟨_, hrun, ?_⟩
            rw [Nat.sub_self]
            have : ∃ g, (if c = l then some ad else some (ad.add (l * size))) = some g := by split <;> exact ⟨_, rfl⟩
            obtain ⟨g, hg⟩ := this
            rw [hg]
            exact .a (.s (.lost 0 0 g _))
          · rename_i hne
            split at h
            · rename_i hsz
              injection h with h
              subst h
              obtain ⟨hspn, hsz⟩ := hsz
              obtain rfl : sp = none := by cases sp with | none => rfl | some _ => simp at hspn
              obtain ⟨l0, hl0', rfl, h2⟩ := hsp rfl
              refine ⟨_, hrun, ?_⟩
              rw [if_neg (by omega), add_none, Nat.add_assoc]
              refine .a (.s (.slice b (o + l * size) (hh - l) size (c - l) l0 hl0' (by omega) ?_))
              subst hsz
              have : (c - l) * size = c * size - l * size := Nat.sub_mul _ _ _
              have h3 : l * size ≤ c * size := Nat.mul_le_mul_right _ (by omega)
              omega
            · cases h
      · cases h
    · cases h
  · cases h
end
end Go.Abs
