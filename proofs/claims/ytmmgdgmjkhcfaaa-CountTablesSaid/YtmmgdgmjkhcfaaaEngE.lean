/- Operations that make, append, copy; maps. -/
import Derived.Test.YtmmgdgmjkhcfaaaEngD
namespace Go.Abs
section
variable {P : Program} {m : Mp} {H : Heap} {w : World} {nt : Nat} {a : Fr} {tmps : Array Value}
theorem setArr_toList (vs : List Value) : ∀ (C : Array Value) (o : Nat), (setArr C o vs).toList = setList C.toList o vs := by
  induction vs with
  | nil => intro C o; rfl
  | cons v vs ih => intro C o; rw [setArr, setList, ih]; simp
theorem foldZip (vs : List Value) (off : Nat) : ∀ (k : Nat) (C : Array Value), (vs.zipIdx k).foldl (fun cs (c : Value × Nat) => cs.setIfInBounds (off + c.2) c.1) C = setArr C (off + k) vs := by
  induction vs with
  | nil => intro k C; rfl
  | cons v vs ih =>
    intro k C
    rw [List.zipIdx_cons, List.foldl_cons, ih (k + 1), setArr]
    rfl
theorem setList_rel {cs cs' vs vs' : List Value} (hv : All2 (SR m) vs vs') : All2 (SR m) cs cs' → ∀ o, All2 (SR m) (setList cs o vs) (setList cs' o vs') := by
  induction hv generalizing cs cs' with
  | nil => intro h o; exact h
  | cons h _ ih => intro hc o; exact ih (hc.set h o) (o + 1)
theorem fill_sound {place : Nat → Option (Nat × Nat)} {parts parts' : List (Nat × Value)} (hp : All2 (fun (p q : Nat × Value) => q.1 = p.1 ∧ VR m p.2 q.2) parts parts') : ∀ {cs r : List Value} {C : Array Value},
    fillL place cs parts = some r → All2 (SR m) cs C.toList → ∃ R, Instr.fill place C parts' = some R ∧ All2 (SR m) r R.toList := by
  induction hp with
  | nil => intro cs r C h hc; simp only [fillL] at h; injection h with h; subst h; exact ⟨C, rfl, hc⟩
  | @cons p q l l' hpq _ ih =>
    intro cs r C h hc
    obtain ⟨i, v⟩ := p
    obtain ⟨i', v'⟩ := q
    obtain ⟨h1, h2⟩ := hpq
    simp only at h1 h2
    subst h1
    simp only [fillL] at h
    split at h
    · rename_i off size vc hpl hs
      split at h
      · rename_i hle
        obtain ⟨h3, _⟩ := scal_rel hs h2
        have hlen := h3.length
        have hcl := hc.length
        simp only [Array.length_toList] at hlen hcl
        have hnew := setList_rel h3 hc off
        rw [← setArr_toList v'.cells.toList C off] at hnew
        obtain ⟨R, hR, hr⟩ := ih h hnew
        refine ⟨R, ?_, hr⟩
        rw [Instr.fill, hpl]
        simp only
        rw [if_neg (by simp; omega)]
        have hz : v'.cells.zipIdx.foldl (fun cs (x : Value × Nat) => cs.setIfInBounds (off + x.2) x.1) C = setArr C off v'.cells.toList := by
          rw [← Array.foldl_toList, Array.toList_zipIdx, foldZip]; rfl
        exact (congrArg (fun x => Instr.fill place x l') hz).trans hR
      · cases h
    · cases h
theorem sizesOf_sound : ∀ {fs : List Field} {r : List (Nat × Nat)}, sizesOf P fs = some r → (fs.mapM (m := Sem) fun f => do pure (f.offset, ← sizeOf f.type)).run P w = .ok r w := by
  intro fs
  induction fs with
  | nil => intro r h; simp only [sizesOf] at h; injection h with h; subst h; rfl
  | cons f fs ih =>
    intro r h
    simp only [sizesOf] at h
    split at h
    · rename_i s r' hs hr
      injection h with h
      subst h
      simp only [List.mapM_cons, Sem.run_bind, run_size hs, Result.andThen_ok, ih hr, Sem.run_pure]
    · cases h
theorem parts_rel {parts : List (Nat × Operand)} (hv : ∀ p ∈ parts, VR m (ev a p.2) (evC tmps p.2)) :
    All2 (fun (p q : Nat × Value) => q.1 = p.1 ∧ VR m p.2 q.2) (parts.map fun p => (p.1, ev a p.2)) (parts.map fun p => (p.1, evC tmps p.2)) :=
  All2.map_same parts fun p hp => ⟨rfl, hv p hp⟩
theorem zero_rel {z : Value} (h : constAgg z = true) : All2 (SR m) z.cells.toList z.cells.toList := by
  have := AR.of_const m h
  cases this with
  | s h' =>
    have h1 := h'.one
    have hc : z.cells = #[z] := by cases z <;> first | rfl | exact False.elim h1
    rw [hc]; exact .cons h' .nil
  | agg h' => exact h'
theorem buildA_sound {t : TypeId} {parts parts' : List (Nat × Value)} {r : Value} (h : buildA P t parts = some r) (hp : All2 (fun (p q : Nat × Value) => q.1 = p.1 ∧ VR m p.2 q.2) parts parts') :
    ∃ r', (Instr.build t parts'.toArray).run P w = .ok r' w ∧ VR m r r' := by
  unfold buildA at h
  split at h
  · rename_i z fields hz hu
    obtain ⟨hz1, hz2⟩ := run_zero hz w
    split at h
    · rename_i places hpl
      split at h
      · rename_i cells hc
        injection h with h
        subst h
        obtain ⟨R, hR, hr⟩ := fill_sound (C := z.cells) hp hc (zero_rel hz2)
        refine ⟨.agg R, ?_, .a (.agg (by simpa using hr))⟩
        have hpl' := sizesOf_sound (w := w) hpl
        have hmap : (fields.mapM (m := Sem) fun f => do pure (f.offset, ← sizeOf f.type)).run P w = .ok places.toArray w := by
          rw [Array.mapM_eq_mapM_toList]
          simp only [← bind_pure_comp, Sem.run_bind, hpl', Result.andThen_ok]
          rfl
        simp only [Instr.build, Sem.run_bind, hz1, Result.andThen_ok, run_underlying hu, hmap]
        have : (fun (x : Nat) => places.toArray[x]?) = fun (x : Nat) => places[x]? := by funext x; simp
        rw [this, hR]
        rfl
      · cases h
    · cases h
  · rename_i z n elem hz hu
    obtain ⟨hz1, hz2⟩ := run_zero hz w
    split at h
    · rename_i size hs
      split at h
      · rename_i cells hc
        injection h with h
        subst h
        obtain ⟨R, hR, hr⟩ := fill_sound (C := z.cells) hp hc (zero_rel hz2)
        refine ⟨.agg R, ?_, .a (.agg (by simpa using hr))⟩
        simp only [Instr.build, Sem.run_bind, hz1, Result.andThen_ok, run_underlying hu, run_size hs, hR]
        rfl
      · cases h
    · cases h
  · cases h
theorem repl_length (z : List Value) : ∀ n, (repl n z).length = n * z.length := by
  intro n
  induction n with
  | zero => simp [repl]
  | succ n ih => simp [repl, ih, Nat.succ_mul, Nat.add_comm]
theorem repl_get (z : List Value) : ∀ (n i : Nat) v, (repl n z)[i]? = some v → z[i % z.length]? = some v := by
  intro n
  induction n with
  | zero => intro i v h; simp [repl] at h
  | succ n ih =>
    intro i v h
    rw [repl] at h
    by_cases hi : i < z.length
    · rw [List.getElem?_append_left hi] at h
      rw [Nat.mod_eq_of_lt hi]; exact h
    · rw [List.getElem?_append_right (by omega)] at h
      have := ih _ _ h
      rw [Nat.mod_eq_sub_mod (by omega)]; exact this
/-- A row of zeros: of the first n elements something is known, c lie there. -/
theorem zeros_rel {e : TypeId} {size n c : Nat} {zs : List Value} (h : zeros P e size n = some zs) (hnc : n ≤ c) :
    ∃ z, zeroT P e = some z ∧ z.cells.size = size ∧ zs.length = n * size ∧ ∀ (i : Nat) v, zs[i]? = some v → ∃ v', ((Array.range (c * size)).map (z.cells[· % z.cells.size]!))[i]? = some v' ∧ SR m v v' := by
  unfold zeros at h
  split at h
  · rename_i z hz
    split at h
    · rename_i hsz
      injection h with h
      subst h
      have hsz' : z.cells.size = size := by simpa using hsz
      refine ⟨z, hz, hsz', by rw [repl_length, hsz], fun i v hv => ?_⟩
      have hi : i < n * size := by have := lt_of_get hv; rw [repl_length, hsz] at this; exact this
      have hic : i < c * size := Nat.lt_of_lt_of_le hi (Nat.mul_le_mul_right _ hnc)
      have h1 := repl_get _ _ _ _ hv
      have hc := (run_zero hz default).2
      obtain ⟨y, h2, h3⟩ := (zero_rel (m := m) hc).get _ _ h1
      refine ⟨y, ?_, h3⟩
      have h4 : z.cells[i % z.cells.size]? = some y := by simpa using h2
      have h5 : z.cells[i % z.cells.size]! = y := by rw [getElem!_def, h4]
      simp [hic, h5]
    · cases h
  · cases h
theorem Sim.newRow (hR : Rel m H w) {C : Array Value} {el : TypeId} {cs : List Value} (hcs : ∀ (i : Nat) (v : Value), cs[i]? = some v → ∃ v', C[i]? = some v' ∧ SR m v v') :
    ∃ w' m', (newRow el C).run P w = .ok ⟨w.heap.size, 0, none⟩ w' ∧ m' = psh m H.length ⟨w.heap.size, 0, C.size⟩ ∧ Sim m H w m' (H ++ [.cells H.length true cs]) w' :=
  ⟨_, _, rfl, rfl, Sim.pushCells hR C el cs hcs⟩
theorem getLast_loc (_hR : Rel m H w) (l : Loc) : psh m H.length l H.length = some l := psh_new ..
theorem boxed_sound (hR : Rel m H w) {v v' : Value} {cs : List Value} {el : TypeId} (hs : scal v = some cs) (hv : VR m v v') :
    ∃ w' m' r', (Instr.box el v').run P w = .ok r' w' ∧ VR m' (ptrA H.length 0) r' ∧ Sim m H w m' (H ++ [.cells H.length true cs]) w' := by
  obtain ⟨h1, _⟩ := scal_rel hs hv
  obtain ⟨w', m', h2, h3, h4⟩ := Sim.newRow (P := P) (el := el) (C := v'.cells) hR (cs := cs) (fun i u hu => by simpa using h1.get i u hu)
  refine ⟨w', m', .pointer (some ⟨w.heap.size, 0, none⟩), by simp [Instr.box, newVar, h2], ?_, h4⟩
  have : m' H.length = some ⟨w.heap.size, 0, v'.cells.size⟩ := by rw [h3]; exact getLast_loc hR _
  exact .a (.s (.ptr _ 0 _ this))
theorem buildSlice_run {t e : TypeId} {size len : Nat} {parts' : Array (Nat × Value)} {z : Value} {R : Array Value} (hu : P.underlying t = some (.slice e)) (hs : sizeT P e = some size) (hlim : ¬ (len * size > 2 ^ 24)) (hz1 : zeroT P e = some z)
    (hR1 : Instr.fill (fun i => some (i * size, size)) ((Array.range (len * size)).map (z.cells[· % z.cells.size]!)) parts'.toList = some R) :
    (Instr.buildSlice t len parts').run P w = .ok (.slice (some ⟨w.heap.size, 0, none⟩) len len) { w with heap := w.heap.push (.cells R e) } := by
  simp only [Instr.buildSlice, Sem.run_bind, run_underlying hu, Result.andThen_ok, run_size hs, if_neg hlim]
  by_cases h0 : len * size = 0
  · have hsz0 : ((Array.range (len * size)).map (z.cells[· % z.cells.size]!)) = (Array.range (len * size)).map ((#[] : Array Value)[· % (#[] : Array Value).size]!) := by
      rw [h0]; simp
    rw [hsz0] at hR1
    simp only [h0] at hR1 ⊢
    simp only [if_true, Sem.run_pure, Result.andThen_ok, hR1, Sem.run_bind, newRow, newObj, Sem.run]
  · simp only [if_neg h0, Sem.run_bind, (run_zero hz1 w).1, Result.andThen_ok, Sem.run_pure, hR1, newRow, newObj, Sem.run]
theorem fillL_length {place : Nat → Option (Nat × Nat)} {ps : List (Nat × Value)} : ∀ {cs r : List Value}, fillL place cs ps = some r → r.length = cs.length := by
  induction ps with
  | nil => intro cs r h; simp only [fillL] at h; injection h with h; rw [h]
  | cons p ps ih =>
    intro cs r h
    obtain ⟨i, v⟩ := p
    simp only [fillL] at h
    split at h
    · split at h
      · rw [ih h, setList_length]
      · cases h
    · cases h
theorem buildSliceA_sound (hR : Rel m H w) {t : TypeId} {len : Nat} {parts parts' : List (Nat × Value)} {r : Value} {H' : Heap} (h : buildSliceA P t len parts H = some (r, H'))
    (hp : All2 (fun (p q : Nat × Value) => q.1 = p.1 ∧ VR m p.2 q.2) parts parts') : ∃ w' m' r', (Instr.buildSlice t len parts'.toArray).run P w = .ok r' w' ∧ VR m' r r' ∧ Sim m H w m' H' w' := by
  unfold buildSliceA at h
  split at h
  · rename_i e size he
    obtain ⟨hu, hs⟩ := sliceElem_sound he
    split at h
    · rename_i hsz
      split at h
      · rename_i zs hz
        split at h
        · rename_i cells hc
          injection h with h
          injection h with h1 h2
          subst h1; subst h2
          obtain ⟨z, hz1, hz2, hz3, hz4⟩ := zeros_rel (m := m) hz (Nat.le_refl len)
          have hC : All2 (SR m) zs ((Array.range (len * size)).map (z.cells[· % z.cells.size]!)).toList :=
            .of_get (by simp [hz3]) fun i x y hx hy => by
              obtain ⟨v', h1, h2⟩ := hz4 i x hx
              have hy' : ((Array.range (len * size)).map (z.cells[· % z.cells.size]!))[i]? = some y := by rw [← Array.getElem?_toList]; exact hy
              rw [h1] at hy'
              injection hy' with hy'
              rw [← hy']; exact h2
          obtain ⟨R, hR1, hr⟩ := fill_sound hp hc hC
          obtain ⟨w', m', h2, h3, h4⟩ := Sim.newRow (P := P) (el := e) (C := R) hR (cs := cells) (fun i u hu => by simpa using hr.get i u hu)
          refine ⟨w', m', .slice (some ⟨w.heap.size, 0, none⟩) len len, ?_, ?_, h4⟩
          · have hlim : ¬ (len * size > 2 ^ 24) := by unfold maxA at hsz; omega
            simp only [Instr.buildSlice, Sem.run_bind, run_underlying hu, Result.andThen_ok, run_size hs, if_neg hlim]
            by_cases h0 : len * size = 0
            · have hsz0 : ((Array.range (len * size)).map (z.cells[· % z.cells.size]!)) = (Array.range (len * size)).map ((#[] : Array Value)[· % (#[] : Array Value).size]!) := by
                rw [h0]; simp
              rw [hsz0] at hR1
              simp only [h0] at hR1 ⊢
              simp only [if_true, Sem.run_pure, Result.andThen_ok, hR1, Sem.run_bind, h2]
            · simp only [if_neg h0, Sem.run_bind, (run_zero hz1 w).1, Result.andThen_ok, Sem.run_pure, hR1, h2]
          · have hl : m' H.length = some ⟨w.heap.size, 0, R.size⟩ := by rw [h3]; exact getLast_loc hR _
            refine .a (.s (.slice _ 0 len size len _ hl (Nat.le_refl _) ?_))
            have := hr.length
            have h5 : ∀ {place : Nat → Option (Nat × Nat)} {cs r : List Value} {ps : List (Nat × Value)}, fillL place cs ps = some r → r.length = cs.length := by
              intro place cs r ps
              induction ps generalizing cs with
              | nil => intro h; simp only [fillL] at h; injection h with h; rw [h]
              | cons p ps ih =>
                intro h
                obtain ⟨i, v⟩ := p
                simp only [fillL] at h
                split at h
                · split at h
                  · rw [ih h, setList_length]
                  · cases h
                · cases h
            have h6 := h5 hc
            simp only [Array.length_toList] at this
            simp only
            omega
        · cases h
      · cases h
    · cases h
  · cases h
theorem makeSlice_run {t : TypeId} {e : TypeId} {size bytes n c : Nat} {z : Value} (he : sliceElem P t = some (e, size)) (hb : bytesT P e = some bytes)
    (hnc : n ≤ c) (hc : c ≤ 1048576) (hbytes : bytes ≤ 1048576) (hz1 : zeroT P e = some z) (hz2 : z.cells.size = size) (k k' : IntKind) :
    (Instr.makeSlice t (.int k n) (.int k' c)).run P w = .ok (.slice (some ⟨w.heap.size, 0, none⟩) n c) { w with heap := w.heap.push (.cells ((Array.range (c * size)).map (z.cells[· % z.cells.size]!)) e) } := by
  obtain ⟨hu, hs⟩ := sliceElem_sound he
  unfold bytesT at hb
  cases hi : P.info? e with
  | none => rw [hi] at hb; cases hb
  | some i =>
    rw [hi] at hb
    simp at hb
    have hw1 : IntKind.i64.wrap (n : Int) = n := by rw [IntKind.wrap_i64]; omega
    have hw2 : IntKind.i64.wrap (c : Int) = c := by rw [IntKind.wrap_i64]; omega
    have hm : bytes * c ≤ 1048576 * 1048576 := Nat.mul_le_mul hbytes hc
    have hmi : (bytes : Int) * (c : Int) ≤ 1099511627776 := by
      have : ((bytes * c : Nat) : Int) ≤ 1099511627776 := by omega
      rwa [Int.natCast_mul] at this
    have hn0 : ¬ ((c : Int) < 0) := by omega
    have htl : ¬ ((i.bytes : Int) * (c : Int) > 2 ^ 48) := by rw [hb]; omega
    have hroom : ¬ (c * i.bytes > roomBytes) := by rw [hb, Nat.mul_comm]; unfold roomBytes; omega
    have hcond : (decide ((c : Int) < 0) || decide ((i.bytes : Int) * (c : Int) > 2 ^ 48)) = false := by
      simp only [Bool.or_eq_false_iff, decide_eq_false_iff_not]; exact ⟨hn0, htl⟩
    simp only [Instr.makeSlice, Sem.run_bind, run_underlying hu, Result.andThen_ok, asInt, asIntOf, Sem.run_pure, typeInfo, program, Sem.run, hi, hw1, hw2, hcond, Int.toNat_natCast, askRoom, if_neg hroom]
    simp only [Bool.false_or, Bool.or_eq_true, decide_eq_true_eq, if_neg (show ¬ (((n : Int) < 0) ∨ (n : Int) > c) from by omega)]
    simp only [Sem.run_bind, Result.andThen_ok, Sem.run_pure, run_size hs]
    by_cases h0 : c * size = 0
    · simp only [h0, if_true]
      have hsz0 : ((Array.range 0).map (z.cells[· % z.cells.size]!)) = (Array.range 0).map ((#[] : Array Value)[· % (#[] : Array Value).size]!) := by simp
      rw [hsz0]
      simp only [Sem.run_bind, newRow, newObj, Sem.run, Result.andThen_ok, Sem.run_pure]
    · simp only [if_neg h0, Sem.run_bind, (run_zero hz1 w).1, Result.andThen_ok, Sem.run_pure, newRow, newObj, Sem.run]
theorem makeSlice_sound (hR : Rel m H w) {t : TypeId} {e : TypeId} {size bytes n c : Nat} {zs : List Value} (he : sliceElem P t = some (e, size)) (hb : bytesT P e = some bytes)
    (hnc : n ≤ c) (hc : c ≤ 1048576) (hbytes : bytes ≤ 1048576) (hz : zeros P e size n = some zs) (k k' : IntKind) :
    ∃ w' m' r', (Instr.makeSlice t (.int k n) (.int k' c)).run P w = .ok r' w' ∧ VR m' (sliceA H.length 0 n size) r' ∧ Sim m H w m' (H ++ [.cells H.length true zs]) w' := by
  obtain ⟨z, hz1, hz2, hz3, hz4⟩ := zeros_rel (m := m) hz hnc
  have hrun := makeSlice_run (P := P) (w := w) he hb hnc hc hbytes hz1 hz2 k k'
  refine ⟨_, _, _, hrun, ?_, Sim.pushCells hR _ e zs hz4⟩
  exact .a (.s (.slice _ 0 n size c _ (getLast_loc hR _) hnc (by simp)))
end
end Go.Abs
