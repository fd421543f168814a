/- append, copy, maps as the evaluator has them; every operation that is no call of a function value. -/
import Derived.Test.YtmmgdgmjkhcfaaaEngF
namespace Go.Abs
section
variable {P : Program} {m : Mp} {H : Heap} {w : World} {nt : Nat} {a : Fr} {tmps : Array Value}
theorem info_of {e : TypeId} {s b : Nat} {zs : List Value} (hs : sizeT P e = some s) (hb : bytesT P e = some b) (hz : zeros P e s 1 = some zs) :
    ∃ i z, P.info? e = some i ∧ i.size = s ∧ i.bytes = b ∧ i.zero = some z ∧ z.cells.size = s := by
  unfold sizeT at hs
  unfold bytesT at hb
  cases hi : P.info? e with
  | none => rw [hi] at hs; cases hs
  | some i =>
    rw [hi] at hs hb
    simp at hs hb
    unfold zeros zeroT at hz
    rw [hi] at hz
    simp only at hz
    cases hzz : i.zero with
    | none => rw [hzz] at hz; cases hz
    | some z =>
      rw [hzz] at hz
      simp only at hz
      split at hz
      · rename_i z' hz'
        split at hz'
        · injection hz' with hz'
          subst hz'
          split at hz
          · rename_i hsz
            exact ⟨i, z, rfl, hs, hb, hzz, by simpa using hsz⟩
          · cases hz
        · cases hz'
      · cases hz
theorem trunc_id (f : Nat) : ∀ H : Heap, ∃ q, ∀ q', q ≤ q' → H.map (truncFam f q') = H := by
  intro H
  induction H with
  | nil => exact ⟨0, fun _ _ => rfl⟩
  | cons x H ih =>
    obtain ⟨q, hq⟩ := ih
    refine ⟨q + (match x with | .cells _ _ cs => cs.length | _ => 0), fun q' h => ?_⟩
    rw [List.map_cons, hq q' (by omega)]
    congr 1
    cases x with
    | cells g own cs =>
      simp only [truncFam]
      split
      · rw [List.take_of_length_le (by simp only at h; omega)]
      · rfl
    | _ => rfl
theorem appendA_sound (hR : Rel m H w) {t ty : TypeId} {s s' x x' r : Value} {H' : Heap} (h : appendA P t s x H = some (r, H')) (hs : VR m s s') (hx : VR m x x') :
    ∃ w' m' r', (Builtin.append_ #[t, t] ty #[s', x']).run P w = .ok r' w' ∧ VR m' r r' ∧ Sim m H w m' H' w' := by
  unfold appendA at h
  split at h
  · rename_i el size he
    obtain ⟨hu, hsz⟩ := sliceElem_sound he
    split at h
    · rename_i hcond
      obtain ⟨hbs, hbl, hzs⟩ := hcond
      obtain ⟨bytes, hb⟩ := Option.isSome_iff_exists.1 hbs
      obtain ⟨zs1, hz1⟩ := Option.isSome_iff_exists.1 hzs
      obtain ⟨i, z, hi, hi1, hi2, hi3, hi4⟩ := info_of hsz hb hz1
      have hib : i.bytes ≤ maxA := by rw [hi2]; simpa [hb] using hbl
      split at h
      · rename_i news ba k cc hread
        obtain ⟨xbase, xn, xc, hxe, hlen, vs, hv1, hv2, _⟩ := readA_sound (P := P) hR hread hx
        have hxn : xn = k := by
          cases ba with
          | none => obtain ⟨h1, _, h3⟩ := hx.sliceNil_; subst h1; rw [h3] at hxe; injection hxe with _ e _; exact e.symm
          | some ad =>
            obtain ⟨b, o, sp⟩ := ad
            cases sp with
            | none => obtain ⟨l, c, _, h3, _⟩ := hx.slice_; rw [h3] at hxe; injection hxe with _ e _; exact e.symm
            | some p => obtain ⟨h1, _, _, g, c, h3⟩ := hx.lost_; subst h1; rw [h3] at hxe; injection hxe with _ e _; exact e.symm
        subst hxn
        have hlenOf : Builtin.lenOf x' = (pure xn : Sem Nat) := by rw [hxe]; rfl
        split at h
        · rename_i hk0
          subst hk0
          split at h
          · rename_i sb sn sc
            injection h with h
            injection h with h1 h2
            subst h1; subst h2
            have hshape : ∃ base c, s' = .slice base sn c ∧ sn ≤ c := by
              cases sb with
              | none => obtain ⟨h1, _, h3⟩ := hs.sliceNil_; subst h1; exact ⟨_, _, h3, Nat.le_refl _⟩
              | some ad =>
                obtain ⟨b, o, sp⟩ := ad
                cases sp with
                | none => obtain ⟨l, c, _, h3, h4, _⟩ := hs.slice_; exact ⟨_, _, h3, h4⟩
                | some p => obtain ⟨h1, _, _, g, c, h3⟩ := hs.lost_; subst h1; exact ⟨_, _, h3, Nat.zero_le _⟩
            obtain ⟨base, c, rfl, hnc⟩ := hshape
            exact ⟨w, m, _, run_append_none hu hi hnc ⟨_, _, hxe⟩, hs, .refl hR⟩
          · cases h
        · rename_i hk0
          -- behind one draw
          have hR1 : Rel m H { w with drawn := w.drawn + 1 } := hR.world fun _ _ => rfl
          have moves : ∀ (base : Option Addr) (n c : Nat) (ocs : List Value) (fam q fam' : Nat), s' = .slice base n c → n ≤ c → ¬ n + xn ≤ c → (n + xn) * size ≤ maxA → 0 < size → ocs.length = n * size →
              (∃ vs : Array Value, (Builtin.firstCells size n (.slice base n c)).run P { w with drawn := w.drawn + 1 } = .ok vs { w with drawn := w.drawn + 1 } ∧ All2 (SR m) ocs vs.toList) →
              ∃ w' m' r', (Builtin.append_ #[t, t] ty #[s', x']).run P w = .ok r' w' ∧ VR m' (sliceA H.length 0 (n + xn) size) r' ∧ Sim m H w m' (H.map (truncFam fam q) ++ [.cells fam' true (ocs ++ news)]) w' := by
            rintro base n c ocs fam q fam' rfl hnc hno hmax hpos hol ⟨old, ho1, ho2⟩
            obtain ⟨xb2, xn2, xc2, hxe2, hlen2, vs2, hw1, hw2, _⟩ := readA_sound (P := P) hR1 hread hx
            have : xn2 = xn := by rw [hxe] at hxe2; injection hxe2 with _ e _; exact e.symm
            subst this
            have hos : old.size = n * i.size := by rw [hi1]; have := ho2.length; simp at this; omega
            have hns : vs2.size = xn2 * i.size := by rw [hi1]; have := hw2.length; simp at this; omega
            have hnk : n + xn2 ≤ maxA := Nat.le_trans (Nat.le_mul_of_pos_right _ hpos) hmax
            obtain ⟨newCap, C, w1, e1, e2, e3, e4, hge, hCs, hCget, hrun⟩ := run_append_moves (ty := ty) hu hi hi3 (by rw [hi4, hi1]) hib hnk hno hlenOf (by rw [hi1]; exact ho1) (by rw [hi1]; exact hw1) hos hns
            have hall : All2 (SR m) (ocs ++ news) (old ++ vs2).toList := by simpa using ho2.append hw2
            have hlall : (ocs ++ news).length = (n + xn2) * size := by rw [List.length_append, hol, hlen, Nat.add_mul]
            have hsim := Sim.growAway hR (fam := fam) (q := q) (fam' := fam') e1 e2 e3 e4 C el (ocs ++ news) fun j v hj => by
              obtain ⟨y, a1, a2⟩ := hall.get j v hj
              refine ⟨y, ?_, a2⟩
              rw [hCget j (by rw [hi1, ← hlall]; exact lt_of_get hj), ← Array.getElem?_toList]
              exact a1
            refine ⟨_, _, _, hrun, ?_, hsim⟩
            have hl := getLast_loc hR (⟨w.heap.size, 0, C.size⟩ : Loc)
            exact .a (.s (.slice _ 0 (n + xn2) size newCap _ hl hge (by simp only; rw [hCs, hi1]; omega)))
          split at h
          · split at h
            · rename_i hc
              injection h with h
              injection h with h1 h2
              subst h1; subst h2
              obtain ⟨_, _, rfl⟩ := hs.sliceNil_
              obtain ⟨q, hq⟩ := trunc_id H.length H
              obtain ⟨w', m', r', h1, h2, h3⟩ := moves none 0 0 [] (H.length) q H.length rfl (Nat.le_refl _) (by omega) (by simpa using hc.2) hc.1 (by simp) ⟨#[], by simp [Builtin.firstCells], .nil⟩
              rw [hq q (Nat.le_refl _)] at h3
              exact ⟨w', m', r', h1, by simpa using h2, by simpa using h3⟩
            · cases h
          · rename_i b n sz
            split at h
            · rename_i fam cs hbk
              split at h
              · rename_i hc
                obtain ⟨hszz, hpos, hncs, hmax⟩ := hc
                subst hszz
                injection h with h
                injection h with h1 h2
                subst h1; subst h2
                obtain ⟨l, c, hl, rfl, hnc, hfit⟩ := hs.slice_
                simp only [Nat.add_zero] at hfit
                by_cases hroom : n + xn ≤ c
                · have hvl : vs.toList.length = xn * sz := by rw [← hv2.length, hlen]
                  have hmul : (n + xn) * sz ≤ c * sz := Nat.mul_le_mul_right _ hroom
                  rw [Nat.add_mul] at hmul
                  obtain ⟨w', hr, hsim⟩ := Sim.growHere (P := P) hR hbk hl hncs hv2 (by omega)
                  refine ⟨w', _, _, run_append_here hu hi hroom hlenOf (by rw [hi1]; exact hv1) (by rw [hi1, add_none, Nat.add_zero]; exact hr), ?_, hsim⟩
                  exact .a (.s (.slice _ 0 (n + xn) sz c _ (getLast_loc hR l) hroom (by simpa using hfit)))
                · refine moves _ n c (cs.take (n * sz)) fam (n * sz) fam rfl hnc hroom hmax hpos (by simp; omega) ?_
                  have hca : H.cellsAt b 0 (n * sz) = some (cs.take (n * sz)) := by simp [Heap.cellsAt, hbk, hncs]
                  obtain ⟨vs', h3, h4, _⟩ := hR1.loads (P := P) hca hl
                  exact ⟨vs', h3, h4⟩
              · cases h
            · cases h
          · cases h
      · cases h
    · cases h
  · cases h
theorem appendIntA_sound (hR : Rel m H w) {t t' ty : TypeId} {s s' x x' r : Value} {H' : Heap} (h : appendIntA P t t' s x H = some (r, H')) (hs : VR m s s') (hx : VR m x x') :
    ∃ w' m' r', (Builtin.append_ #[t, t'] ty #[s', x']).run P w = .ok r' w' ∧ VR m' r r' ∧ Sim m H w m' H' w' := by
  unfold appendIntA at h
  split at h
  case h_2 => cases h
  rename_i el size ik k he ht'
  split at h
  case isFalse => cases h
  rename_i hc
  obtain ⟨hk0, hpos, hmax, hbs, hbl⟩ := hc
  split at h
  case h_2 => cases h
  rename_i zs hz
  injection h with h
  injection h with h1 h2
  subst h1; subst h2
  obtain ⟨_, _, rfl⟩ := hs.sliceNil_
  have hx := hx.int_
  subst hx
  obtain ⟨n, rfl⟩ : ∃ n : Nat, k = n := ⟨k.toNat, by omega⟩
  simp only [Int.toNat_natCast] at hmax hz ⊢
  obtain ⟨hu, hsz⟩ := sliceElem_sound he
  obtain ⟨bytes, hb⟩ := Option.isSome_iff_exists.1 hbs
  obtain ⟨z, hz1, hz2, hz3, hz4⟩ := zeros_rel (m := m) hz (Nat.le_refl n)
  cases hi : P.info? el with
  | none => unfold bytesT at hb; rw [hi] at hb; cases hb
  | some i =>
    have hib : i.bytes ≤ maxA := by
      unfold bytesT at hb hbl; rw [hi] at hbl; simpa using hbl
    have hmA : maxA = 1048576 := rfl
    have hnA : n ≤ maxA := Nat.le_trans (Nat.le_mul_of_pos_right _ hpos) hmax
    have hcap := nextslicecap_le (n := n) (c := 0) (by omega)
    have hmul : Builtin.nextslicecap n 0 * i.bytes ≤ (2 * maxA + 192) * maxA := Nat.mul_le_mul (by omega) hib
    have hno : ¬ (Builtin.nextslicecap n 0 * i.bytes > 2 ^ 48) := by
      have : (2 * maxA + 192) * maxA ≤ 2 ^ 48 := by decide
      omega
    have hmx : ¬ (((n : Nat) : Int) > IntKind.i64.max ∧ (True ∨ i.bytes = 0)) := by
      have : (IntKind.i64.max : Int) = 9223372036854775807 := by decide
      omega
    have hw1 : IntKind.i64.wrap (n : Int) = n := by rw [IntKind.wrap_i64]; omega
    have hneg : ¬ ((n : Int) < 0) := by omega
    have hbig : ¬ ((n : Int) * (i.bytes : Int) > 2 ^ 48) := by
      have h1 : n * i.bytes ≤ maxA * maxA := Nat.mul_le_mul hnA hib
      have h2 : ((n * i.bytes : Nat) : Int) ≤ 1099511627776 := by rw [hmA] at h1; omega
      rw [Int.natCast_mul] at h2
      omega
    let q := Question.appendCap n 0 el
    have hch : (choose q).run P w = .ok (q.cut (w.tape w.drawn q)) { w with drawn := w.drawn + 1 } := by simp [choose, Sem.run, q, Question.forced]
    let w1 : World := { w with drawn := w.drawn + 1 }
    let newCap := q.cut (w.tape w.drawn q)
    have hge : n ≤ newCap := by show n ≤ n + _; omega
    have hroom : ∀ b w2, (askRoom b).run P w2 = .ok () w2 := by
      intro b w2; unfold askRoom; split
      · rfl
      · rfl
    have hI : ∀ w2, (typeInfo el).run P w2 = .ok i w2 := fun w2 => by simp [typeInfo, hi]
    have hS : ∀ w2, (sizeOf el).run P w2 = .ok size w2 := fun w2 => run_size hsz w2
    have hZ : ∀ w2, (zeroValue el).run P w2 = .ok z w2 := fun w2 => (run_zero hz1 w2).1
    have hn0 : ¬ n * size = 0 := by
      have : 0 < n * size := Nat.mul_pos (by omega) hpos
      omega
    have hlt : ¬ n ≤ 0 := by omega
    let C : Array Value := #[] ++ Builtin.zeroCells z.cells n ++ Builtin.zeroCells z.cells (newCap - n)
    have hrun : (Builtin.append_ #[t, t'] ty #[.slice none 0 0, .int .i64 n]).run P w = .ok (.slice (some ⟨w.heap.size, 0, none⟩) n newCap) { w1 with heap := w1.heap.push (.cells C el) } := by
      simp only [Builtin.append_, List.getElem?_toArray, List.getElem?_cons_zero, List.getElem?_cons_succ, Sem.run_bind, run_underlying hu, run_underlying ht', Result.andThen_ok, Sem.run_pure, hS, hI, asInt, asIntOf, hw1,
        if_true, if_neg hneg, if_neg hbig, Int.toNat_natCast, Nat.zero_add, if_neg hlt, if_neg hmx, if_neg hno]
      rw [hch]
      simp only [Result.andThen_ok, Sem.run_bind, hI, hroom, Bool.not_true, Bool.false_eq_true, if_false, if_neg hn0, hZ, Sem.run_pure, Builtin.firstCells]
      rfl
    have hCs : C.size = newCap * size := by
      simp only [C, Array.size_append, zeroCells_size, hz2, List.size_toArray, List.length_nil, Nat.zero_add]
      rw [← Nat.add_mul]; congr 1; omega
    have hcs : ∀ (j : Nat) (v : Value), zs[j]? = some v → ∃ v', C[j]? = some v' ∧ SR m v v' := by
      intro j v hj
      obtain ⟨y, a1, a2⟩ := hz4 j v hj
      refine ⟨y, ?_, a2⟩
      have hjl : j < n * size := by have := lt_of_get hj; omega
      have e : C[j]? = (Builtin.zeroCells z.cells n)[j]? := by
        show (#[] ++ Builtin.zeroCells z.cells n ++ Builtin.zeroCells z.cells (newCap - n))[j]? = _
        rw [Array.getElem?_append_left (by simp only [Array.size_append, zeroCells_size, hz2, List.size_toArray, List.length_nil, Nat.zero_add]; exact hjl)]
        simp
      rw [e, ← a1]
      unfold Builtin.zeroCells
      rw [hz2]
    obtain ⟨q0, hq0⟩ := trunc_id H.length H
    have hsim := Sim.growAway hR (fam := H.length) (q := q0) (fam' := H.length) (w1 := w1) rfl rfl rfl rfl C el zs hcs
    rw [hq0 q0 (Nat.le_refl _)] at hsim
    refine ⟨_, _, _, hrun, ?_, hsim⟩
    exact .a (.s (.slice _ 0 n size newCap _ (getLast_loc hR _) hge (by simp only; rw [hCs]; omega)))
theorem copyA_sound (hR : Rel m H w) {t t' ty : TypeId} {x x' y y' r : Value} {H' : Heap} (h : copyA P t x y H = some (r, H')) (hx : VR m x x') (hy : VR m y y') :
    ∃ w' r', (Builtin.copy_ #[t, t'] ty #[x', y']).run P w = .ok r' w' ∧ VR m r r' ∧ Sim m H w m H' w' := by
  unfold copyA at h
  split at h
  · rename_i el size ad dn dc sb sn sc he
    obtain ⟨hu, hsz⟩ := sliceElem_sound he
    have hyshape : ∃ base c, y' = .slice base sn c := by
      cases sb with
      | none => obtain ⟨h1, _, h3⟩ := hy.sliceNil_; subst h1; exact ⟨_, _, h3⟩
      | some ad =>
        obtain ⟨b, o, sp⟩ := ad
        cases sp with
        | none => obtain ⟨l, c, _, h3, h4, _⟩ := hy.slice_; exact ⟨_, _, h3⟩
        | some p => obtain ⟨h1, _, _, g, c, h3⟩ := hy.lost_; subst h1; exact ⟨_, _, h3⟩
    have hxshape : ∃ base c, x' = .slice base dn c := by
      cases ad with
      | none => obtain ⟨h1, _, h3⟩ := hx.sliceNil_; subst h1; exact ⟨_, _, h3⟩
      | some ad =>
        obtain ⟨b, o, sp⟩ := ad
        cases sp with
        | none => obtain ⟨l, c, _, h3, h4, _⟩ := hx.slice_; exact ⟨_, _, h3⟩
        | some p => obtain ⟨h1, _, _, g, c, h3⟩ := hx.lost_; subst h1; exact ⟨_, _, h3⟩
    obtain ⟨yb, yc, rfl⟩ := hyshape
    obtain ⟨xb, xc, rfl⟩ := hxshape
    split at h
    · rename_i h0
      injection h with h
      injection h with h1 h2
      subst h1; subst h2
      refine ⟨w, goInt 0, ?_, .a (.s (.int _ _)), .refl hR⟩
      have hf : (Builtin.firstCells size (Nat.min sn dn) (.slice yb sn yc)).run P w = .ok #[] w := by
        have : Nat.min sn dn = 0 := h0
        rw [this]
        cases yb <;> simp [Builtin.firstCells, loadCells, loadCellsFrom]
      have hm : Nat.min sn dn = 0 := h0
      simp only [Builtin.copy_, List.getElem?_toArray, List.getElem?_cons_zero, List.getElem?_cons_succ, Sem.run_bind, run_underlying hu, Result.andThen_ok, Builtin.lenOf, Sem.run_pure, run_size hsz, hf]
      cases xb <;> simp [storeCells, hm]
    · rename_i h0
      split at h
      · rename_i b o cs hread
        split at h
        · rename_i H1 hw
          injection h with h
          injection h with h1 h2
          subst h1; subst h2
          obtain ⟨l, c, hl, hxe, hnc, hfit⟩ := hx.slice_
          injection hxe with e1 _ e3
          subst e1
          subst e3
          -- the first cells of the source
          have hsrc : ∃ vs : Array Value, (Builtin.firstCells size (min sn dn) (.slice yb sn yc)).run P w = .ok vs w ∧ All2 (SR m) (cs.take (min sn dn * size)) vs.toList := by
            unfold readA at hread
            split at hread
            · rename_i heq
              injection heq with _ e _
              subst e
              exact absurd (by simp) h0
            · rename_i b2 o2 n2 e2 heq
              injection heq with q1 q2 q3
              subst q1; subst q2; subst q3
              obtain ⟨l2, c2, hl2, hye, _, _⟩ := hy.slice_
              injection hye with r1 _ _
              subst r1
              have hca : H.cellsAt b2 o2 (min sn dn * size) = some (cs.take (min sn dn * size)) := by
                unfold Heap.cellsAt at hread ⊢
                have hle : min sn dn * size ≤ sn * size := Nat.mul_le_mul_right _ (Nat.min_le_left _ _)
                split at hread
                · rename_i hbk
                  split at hread
                  · injection hread with hread
                    subst hread
                    rw [if_pos (by omega), List.take_take, Nat.min_eq_left hle]
                  · cases hread
                · cases hread
              obtain ⟨vs, h3, h4, _⟩ := hR.loads (P := P) hca hl2
              exact ⟨vs, h3, h4⟩
            · rename_i heq
              injection heq with q1 q2 q3
              subst q2
              exact absurd (by simp) h0
            · cases hread
          obtain ⟨vs, h3, h4⟩ := hsrc
          obtain ⟨w', h5, h6⟩ := Sim.write (P := P) hR hw hl h4
          refine ⟨w', goInt ((min sn dn : Nat) : Int), ?_, .a (.s (.int _ _)), h6⟩
          have hm : Nat.min sn dn = min sn dn := rfl
          simp only [Builtin.copy_, List.getElem?_toArray, List.getElem?_cons_zero, List.getElem?_cons_succ, Sem.run_bind, run_underlying hu, Result.andThen_ok, Builtin.lenOf, Sem.run_pure, run_size hsz, hm, h3, h5]
        · cases h
      · cases h
  · cases h
/- maps -/
theorem sameNow_eq {kd : TypeDesc} {k k' : Value} (h : keyKind kd k = true) (h' : keyKind kd k' = true) : Instr.sameNow kd k k' = some (sameKey k k') := by
  cases kd <;> cases k <;> first | (simp [keyKind] at h; done) | skip
  all_goals (cases k' <;> first | (simp [keyKind] at h'; done) | skip)
  · simp [Instr.sameNow, sameKey]
  · simp only [keyKind, beq_iff_eq] at h h'
    subst h; subst h'
    simp [Instr.sameNow, sameKey]
  · simp [Instr.sameNow, sameKey]
abbrev ER (m : Mp) (e : Value × Value) (e' : MapEntry) : Prop := e'.key = e.1 ∧ AR m e.2 e'.val
theorem findNow_sound {kd : TypeDesc} {k : Value} (hk : keyKind kd k = true) {es : List (Value × Value)} {es' : List MapEntry} (h : All2 (ER m) es es') (hes : es.all (fun e => keyKind kd e.1) = true) : ∀ i0,
    (∃ i v v', findA k es = some v ∧ Instr.findNow kd k es' i0 = some (some (i0 + i, v')) ∧ AR m v v' ∧ (∃ e', es'[i]? = some e' ∧ sameKey k e'.key = true ∧
      ∀ u u' (f : MapEntry → MapEntry), AR m u u' → (∀ e : MapEntry, (f e).key = k ∧ (f e).val = u') → All2 (ER m) (setA k u es) (es'.modify i f))) ∨
    (findA k es = none ∧ Instr.findNow kd k es' i0 = some none ∧ ∀ u u' b, AR m u u' → All2 (ER m) (setA k u es) (es' ++ [{ key := k, val := u', born := b }])) := by
  induction h with
  | nil => intro i0; exact .inr ⟨rfl, rfl, fun u u' b hu => .cons ⟨rfl, hu⟩ .nil⟩
  | @cons e e' l l' he hl ih =>
    intro i0
    obtain ⟨he1, he2⟩ := he
    simp only [List.all_cons, Bool.and_eq_true] at hes
    have hsn : Instr.sameNow kd k e'.key = some (sameKey k e.1) := by rw [he1]; exact sameNow_eq hk hes.1
    obtain ⟨ek, evv⟩ := e
    simp only at he1 he2 hsn
    cases hs : sameKey k ek with
    | true =>
      refine .inl ⟨0, evv, e'.val, by simp [findA, hs], by simp [Instr.findNow, hsn, hs], he2, e', by simp, by rw [he1]; exact hs, fun u u' f hu hf => ?_⟩
      simp only [setA, hs, if_true]
      have : (e' :: l').modify 0 f = f e' :: l' := by simp
      rw [this]
      exact .cons ⟨(hf e').1, by rw [(hf e').2]; exact hu⟩ hl
    | false =>
      have hne : (if sameKey k ek = true then (k, evv) :: l else (ek, evv) :: setA k evv l) = (ek, evv) :: setA k evv l := by simp [hs]
      rcases ih hes.2 (i0 + 1) with ⟨i, v, v', h1, h2, h3, e2, h4, h5, h6⟩ | ⟨h1, h2, h3⟩
      · refine .inl ⟨i + 1, v, v', by simp [findA, hs, h1], by simp [Instr.findNow, hsn, hs, h2]; omega, h3, e2, by simpa using h4, h5, fun u u' f hu hf => ?_⟩
        have : (e' :: l').modify (i + 1) f = e' :: l'.modify i f := by simp
        rw [this]
        simp only [setA, hs, Bool.false_eq_true, if_false]
        exact .cons ⟨he1, he2⟩ (h6 u u' f hu hf)
      · refine .inr ⟨by simp [findA, hs, h1], by simp [Instr.findNow, hsn, hs, h2], fun u u' b hu => ?_⟩
        simp only [setA, hs, Bool.false_eq_true, if_false]
        exact .cons ⟨he1, he2⟩ (h3 u u' b hu)
theorem run_checkKey {kt : TypeId} {kd : TypeDesc} {k : Value} (hkt : P.underlying kt = some kd) (hk : keyKind kd k = true) (e : Bool) (w : World) : (Instr.checkKey e 10000 kt k).run P w = .ok () w := by
  show (Instr.checkKey e (9999 + 1) kt k).run P w = .ok () w
  rw [Instr.checkKey]
  simp only [Sem.run_bind, run_underlying hkt, Result.andThen_ok]
  cases kd <;> first | (simp [keyKind] at hk; done) | rfl
theorem run_findKey {kt : TypeId} {kd : TypeDesc} {k : Value} {es : List MapEntry} {r : Option (Nat × Value)} (hkt : P.underlying kt = some kd) (h : Instr.findNow kd k es 0 = some r) (w : World) : (Instr.findKey kt k es).run P w = .ok r w := by
  simp only [Instr.findKey, Sem.run_bind, run_underlying hkt, Result.andThen_ok, h]
  rfl
theorem keyKind_plain {kd : TypeDesc} {k : Value} (h : keyKind kd k = true) : Abs.plain k = true := by
  cases kd <;> cases k <;> first | rfl | (simp [keyKind] at h; done)
theorem lookupA_sound (hR : Rel m H w) {t : TypeId} {x x' k k' r : Value} {ok : Bool} (h : lookupA P t x k ok H = some r) (hx : VR m x x') (hk : VR m k k') :
    ∃ r', (Instr.lookup t x' k' ok).run P w = .ok r' w ∧ VR m r r' := by
  unfold lookupA at h
  split at h
  · rename_i kt et hu
    split at h
    · rename_i kd z b hkt hz
      split at h
      · rename_i es hb
        split at h
        · rename_i hcond
          obtain ⟨hkk, hes⟩ := hcond
          obtain ⟨l, hl, rfl⟩ := hx.map_
          obtain rfl := hk.plain (keyKind_plain hkk)
          obtain ⟨es', ck, h1, h2⟩ := hR.blk b _ l hb hl
          have hget : (getObj l.g).run P w = .ok (.map es' ck) w := by simp [getObj, Sem.run, h1]
          have hck := run_checkKey (P := P) hkt hkk es'.isEmpty w
          obtain ⟨hz1, hz2⟩ := run_zero hz w
          rcases findNow_sound hkk h2 hes 0 with ⟨i, v, v', a1, a2, a3, _⟩ | ⟨a1, a2, _⟩
          · rw [a1] at h
            injection h with h
            subst h
            have hf := run_findKey (P := P) hkt a2 w
            refine ⟨if ok then .tuple #[v', .bool true] else v', ?_, ?_⟩
            · simp only [Instr.lookup, Sem.run_bind, run_underlying hu, Result.andThen_ok, hget, hck, hf, Sem.run_pure]
            · cases ok
              · exact .a a3
              · exact .tuple (.cons a3 (.cons (.s (.bool true)) .nil))
          · rw [a1] at h
            injection h with h
            subst h
            have hf := run_findKey (P := P) hkt a2 w
            refine ⟨if ok then .tuple #[z, .bool false] else z, ?_, ?_⟩
            · simp only [Instr.lookup, Sem.run_bind, run_underlying hu, Result.andThen_ok, hget, hck, hf, Sem.run_pure, hz1]
            · cases ok
              · exact .a (.of_const m hz2)
              · exact .tuple (.cons (.of_const m hz2) (.cons (.s (.bool false)) .nil))
        · cases h
      · cases h
    · cases h
  · cases h
theorem Sim.setObj (hR : Rel m H w) {b : Nat} {l : Loc} {x y : Blk} {o : Obj} (hb : H[b]? = some x) (hl : m b = some l) (hown : x.owned = true) (hlike : Like x y) (hncells : ∀ f o cs, x ≠ .cells f o cs) (hbr : BR m { w with heap := w.heap.setIfInBounds l.g o } l y) :
    Sim m H w m (H.set b y) { w with heap := w.heap.setIfInBounds l.g o } := by
  have hlive : x.live = true := by cases x <;> first | rfl | cases hown
  refine Sim.like hR (by simp) ?_ ?_ ⟨rfl, rfl, rfl, by simp, fun g hg hn => ?_⟩
  · intro c x' hx'
    by_cases hc : c = b
    · subst hc
      rw [List.getElem?_set] at hx'
      simp only [if_true] at hx'
      split at hx'
      · injection hx' with hx'; subst hx'; exact ⟨x, hb, hlike⟩
      · cases hx'
    · rw [List.getElem?_set, if_neg (fun e => hc e.symm)] at hx'
      exact ⟨x', hx', .refl _⟩
  · intro c x' k hx' hk
    by_cases hc : c = b
    · subst hc
      obtain rfl : k = l := by rw [hk] at hl; injection hl
      rw [List.getElem?_set] at hx'
      simp only [if_true] at hx'
      split at hx'
      · injection hx' with hx'; subst hx'; exact hbr
      · cases hx'
    · rw [List.getElem?_set, if_neg (fun e => hc e.symm)] at hx'
      refine (hR.blk c x' k hx' hk).keep (.refl m) fun hlv => ?_
      have hne : k.g ≠ l.g := fun e => by
        obtain ⟨hkin, _⟩ := hR.sep b c x x' l k (fun e => hc e.symm) hb hx' hl hk hown hlv e.symm
        obtain ⟨f, cs, ds, rfl, rfl⟩ := kin_iff.1 hkin
        exact hncells _ _ _ rfl
      simp only
      rw [Array.getElem?_setIfInBounds, if_neg (fun e => hne e.symm)]
  · have hne : l.g ≠ g := fun e => hn ⟨b, x, l, hb, hl, hown, e⟩
    simp only
    rw [Array.getElem?_setIfInBounds, if_neg hne]
theorem ba_beq {a b : ByteArray} : (a == b) = true ↔ a = b := by
  obtain ⟨x⟩ := a
  obtain ⟨y⟩ := b
  show (x == y) = true ↔ _
  rw [beq_iff_eq]
  exact ⟨fun h => by rw [h], fun h => by injection h⟩
theorem sameKey_eq {k k' : Value} (h : sameKey k k' = true) : Instr.sameBits 10000 k' k = true := by
  cases k <;> cases k' <;> first | (simp [sameKey] at h; done) | skip
  · simp only [sameKey, beq_iff_eq] at h; subst h; simp [Instr.sameBits]
  · simp only [sameKey, Bool.and_eq_true, beq_iff_eq] at h; obtain ⟨rfl, rfl⟩ := h; simp [Instr.sameBits]
  · simp only [sameKey, ba_beq] at h; subst h; simp [Instr.sameBits, ba_beq]
theorem mapUpdateA_sound (hR : Rel m H w) {t : TypeId} {x x' k k' v v' : Value} {H' : Heap} (h : mapUpdateA P t x k v H = some H') (hx : VR m x x') (hk : VR m k k') (hv : VR m v v') :
    ∃ w', (Instr.mapUpdate t x' k' v').run P w = .ok () w' ∧ Sim m H w m H' w' := by
  unfold mapUpdateA at h
  split at h
  · rename_i kt et hu
    split at h
    · rename_i kd b vs hkt hsc
      split at h
      · rename_i es hb
        split at h
        · rename_i hcond
          injection h with h
          subst h
          obtain ⟨hkk, hes⟩ := hcond
          obtain ⟨l, hl, rfl⟩ := hx.map_
          obtain rfl := hk.plain (keyKind_plain hkk)
          obtain ⟨_, hav⟩ := scal_rel hsc hv
          obtain ⟨es', ck, h1, h2⟩ := hR.blk b _ l hb hl
          have hget : (getObj l.g).run P w = .ok (.map es' ck) w := by simp [getObj, Sem.run, h1]
          have hck := run_checkKey (P := P) hkt hkk false w
          have hset : ∀ o, (setObj l.g o).run P w = .ok () { w with heap := w.heap.setIfInBounds l.g o } := fun o => by simp [setObj, Sem.run, h1]
          have hlt : l.g < w.heap.size := by
            rcases Nat.lt_or_ge l.g w.heap.size with hlt | hge
            · exact hlt
            · rw [Array.getElem?_eq_none hge] at h1; cases h1
          have fin : ∀ (o : Array MapEntry) ck', All2 (ER m) (setA k' v es) o.toList → Sim m H w m (H.set b (.map (setA k' v es))) { w with heap := w.heap.setIfInBounds l.g (.map o ck') } := fun o ck' ho =>
            Sim.setObj hR hb hl rfl (.map _ _) (fun _ _ _ e => by cases e) ⟨o, ck', by simp [hlt], ho⟩
          rcases findNow_sound hkk h2 hes 0 with ⟨i, u, u', a1, a2, a3, e', a4, a5, a6⟩ | ⟨a1, a2, a3⟩
          · have hf := run_findKey (P := P) hkt a2 w
            simp only [Nat.zero_add] at hf
            have hkeep : (Instr.keyThatStays (((es'[i]?).map (·.key)).getD k') k').run P w = .ok k' w := by
              have : es'[i]? = some e' := by simpa using a4
              simp only [this, Option.map_some, Option.getD_some, Instr.keyThatStays, sameKey_eq a5, if_true, Sem.run_pure]
            refine ⟨_, ?_, fin (es'.modify i fun e => { e with key := k', val := v' }) ck ?_⟩
            · simp only [Instr.mapUpdate, Sem.run_bind, run_underlying hu, Result.andThen_ok, hget, hck, hf, hkeep, hset]
            · rw [Array.toList_modify]
              exact a6 v v' _ hav fun _ => ⟨rfl, rfl⟩
          · have hf := run_findKey (P := P) hkt a2 w
            refine ⟨_, ?_, fin (es'.push { key := k', val := v', born := ck }) (ck + 1) ?_⟩
            · simp only [Instr.mapUpdate, Sem.run_bind, run_underlying hu, Result.andThen_ok, hget, hck, hf, hset]
            · rw [Array.toList_push]
              exact a3 v v' ck hav
        · cases h
      · cases h
    · cases h
  · cases h
end
end Go.Abs
