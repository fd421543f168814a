/- append, copy, maps; then every operation that is no call of a function value. -/
import Derived.Test.YtmmgdgmjkhcfaaaEngE
namespace Go.Abs
section
variable {P : Program} {m : Mp} {H : Heap} {w : World} {nt : Nat} {a : Fr} {tmps : Array Value}
/-- The cells that a slice reads as. -/
theorem readA_sound (hR : Rel m H w) {size : Nat} {v v' : Value} {cs : List Value} (h : readA H size v = some cs) (hv : VR m v v') :
    ∃ base n c, v' = .slice base n c ∧ cs.length = n * size ∧ ∃ vs : Array Value, (Builtin.firstCells size n v').run P w = .ok vs w ∧ All2 (SR m) cs vs.toList ∧ (base = none → n = 0) := by
  unfold readA at h
  split at h
  · injection h with h; subst h
    obtain ⟨_, _, rfl⟩ := hv.sliceNil_
    exact ⟨none, 0, 0, rfl, by simp, #[], by simp [Builtin.firstCells], .nil, fun _ => rfl⟩
  · rename_i b o n e
    obtain ⟨l, c, hl, rfl, h1, h2⟩ := hv.slice_
    obtain ⟨vs, h3, h4, h5, _⟩ := hR.loads (P := P) h hl
    exact ⟨_, n, c, rfl, (cellsAt_get h).1, vs, by simp [Builtin.firstCells, h3], h4, (fun h => by cases h)⟩
  · injection h with h; subst h
    rename_i b o p c
    obtain ⟨_, _, _, g, c', rfl⟩ := hv.lost_
    exact ⟨_, 0, c', rfl, by simp, #[], by simp [Builtin.firstCells, loadCells, loadCellsFrom], .nil, fun _ => rfl⟩
  · cases h
theorem growBy_le (newLen B : Nat) (hB : newLen + (newLen + 768) / 4 ≤ B) : ∀ r c, c ≤ B → Builtin.growBy newLen r c ≤ B := by
  intro r
  induction r with
  | zero => intro c h; exact h
  | succ r ih =>
    intro c h
    rw [Builtin.growBy]
    split
    · exact h
    · exact ih _ (by omega)
theorem nextslicecap_le {n c : Nat} (h : c < n) : Builtin.nextslicecap n c ≤ 2 * n + 192 := by
  unfold Builtin.nextslicecap
  split
  · omega
  · split
    · omega
    · exact growBy_le n _ (by omega) 4 c (by omega)
theorem zeroCells_size (z : Array Value) (n : Nat) : (Builtin.zeroCells z n).size = n * z.size := by simp [Builtin.zeroCells]
/-- append where it must move. -/
theorem run_append_moves {t ty e : TypeId} {i : TypeInfo} {z : Value} {base : Option Addr} {n c k : Nat} {x' : Value} {old new : Array Value} (hu : P.underlying t = some (.slice e)) (hi : P.info? e = some i) (hz : i.zero = some z)
    (hzs : z.cells.size = i.size) (hb : i.bytes ≤ maxA) (hnk : n + k ≤ maxA) (hc : ¬ n + k ≤ c) (hx : Builtin.lenOf x' = (pure k : Sem Nat)) (hold : (Builtin.firstCells i.size n (.slice base n c)).run P { w with drawn := w.drawn + 1 } = .ok old { w with drawn := w.drawn + 1 })
    (hnew : (Builtin.firstCells i.size k x').run P { w with drawn := w.drawn + 1 } = .ok new { w with drawn := w.drawn + 1 }) (hos : old.size = n * i.size) (hns : new.size = k * i.size) :
    ∃ (newCap : Nat) (C : Array Value) (w1 : World), w1.heap = w.heap ∧ w1.os = w.os ∧ w1.tape = w.tape ∧ w1.output = w.output ∧ n + k ≤ newCap ∧ C.size = newCap * i.size ∧ (∀ j, j < (n + k) * i.size → C[j]? = (old ++ new)[j]?) ∧
      (Builtin.append_ #[t, t] ty #[.slice base n c, x']).run P w = .ok (.slice (some ⟨w.heap.size, 0, none⟩) (n + k) newCap) { w1 with heap := w1.heap.push (.cells C e) } := by
  have hcap := nextslicecap_le (n := n + k) (c := c) (by omega)
  have hmul : Builtin.nextslicecap (n + k) c * i.bytes ≤ (2 * maxA + 192) * maxA := Nat.mul_le_mul (by omega) hb
  have hno : ¬ (Builtin.nextslicecap (n + k) c * i.bytes > 2 ^ 48) := by
    have : (2 * maxA + 192) * maxA ≤ 2 ^ 48 := by decide
    omega
  have hmx : ¬ (((n + k : Nat) : Int) > IntKind.i64.max) := by
    have : (IntKind.i64.max : Int) = 9223372036854775807 := by decide
    have hm : maxA = 1048576 := rfl
    omega
  let q := Question.appendCap (n + k) c e
  have hch : (choose q).run P w = .ok (q.cut (w.tape w.drawn q)) { w with drawn := w.drawn + 1 } := by simp [choose, Sem.run, q, Question.forced]
  let w1 : World := { w with drawn := w.drawn + 1 }
  let newCap := q.cut (w.tape w.drawn q)
  have hge : n + k ≤ newCap := by show n + k ≤ (n + k) + _; omega
  let rest := Builtin.zeroCells z.cells (newCap - (n + k))
  refine ⟨newCap, old ++ new ++ rest, w1, rfl, rfl, rfl, rfl, hge, ?_, ?_, ?_⟩
  · simp only [Array.size_append, hos, hns, rest, zeroCells_size, hzs]
    rw [← Nat.add_mul, ← Nat.add_mul]
    congr 1
    omega
  · intro j hj
    rw [Array.getElem?_append_left]
    simp only [Array.size_append, hos, hns]
    rw [← Nat.add_mul]; exact hj
  · have hzeros : (match (P.underlying t) with | some (.int _) => true | _ => false) = false := by rw [hu]
    have hroom : ∀ b w2, (askRoom b).run P w2 = .ok () w2 := by
      intro b w2; unfold askRoom; split
      · rfl
      · rfl
    have hI : ∀ w2, (typeInfo e).run P w2 = .ok i w2 := fun w2 => by simp [typeInfo, hi]
    have hS : ∀ w2, (sizeOf e).run P w2 = .ok i.size w2 := fun w2 => by simp [sizeOf, hI]
    have hZ : ∀ w2, (zeroValue e).run P w2 = .ok z w2 := fun w2 => by simp [zeroValue, hI, hz]
    have hmx' : ¬ (((n + k : Nat) : Int) > IntKind.i64.max ∧ (False ∨ i.bytes = 0)) := fun h => hmx h.1
    simp only [Builtin.append_, List.getElem?_toArray, List.getElem?_cons_zero, List.getElem?_cons_succ, Sem.run_bind, run_underlying hu, Result.andThen_ok, Sem.run_pure, hS, hI, hx,
      Bool.false_eq_true, if_false, if_neg hc, if_neg hmx', if_neg hno]
    rw [hch]
    simp only [Result.andThen_ok, Sem.run_bind, hI, hroom, Bool.not_false, if_true, hZ, Sem.run_pure]
    simp only [hold, hnew, Result.andThen_ok]
    rfl
theorem Rel.grow {w' : World} (h : Rel m H w) (hsz : w.heap.size ≤ w'.heap.size) (f : Blk → Blk) (hf : ∀ x, Like x (f x)) (x : Blk) (l : Loc) (hlg : l.g < w'.heap.size) (hold : ∀ (b : Nat) y k, H[b]? = some y → m b = some k → BR (psh m H.length l) w' k (f y)) (hnew : BR (psh m H.length l) w' l x)
    (hsep : ∀ (b : Nat) y k, H[b]? = some y → m b = some k → (f y).live = true → k.g = l.g → x.kin (f y) ∧ (f y).kin x ∧ l.o = k.o) : Rel (psh m H.length l) (H.map f ++ [x]) w' := by
  have old : ∀ (b : Nat) y k, b ≠ H.length → (H.map f ++ [x])[b]? = some y → psh m H.length l b = some k → ∃ z, H[b]? = some z ∧ y = f z ∧ m b = some k := by
    intro b y k hb hy hk
    have hlt : b < H.length := by have := lt_of_get hy; simp at this; omega
    rw [List.getElem?_append_left (by simpa using hlt)] at hy
    rw [psh_old l hb] at hk
    obtain ⟨z, hz, rfl⟩ := map_get hy
    exact ⟨z, hz, rfl, hk⟩
  have new : ∀ y k, (H.map f ++ [x])[H.length]? = some y → psh m H.length l H.length = some k → y = x ∧ k = l := by
    intro y k hy hk
    rw [List.getElem?_append_right (by simp)] at hy
    rw [psh_new] at hk
    simp at hy hk
    exact ⟨hy.symm, hk.symm⟩
  refine ⟨fun b k hk => ?_, fun b y hy hlv => ?_, fun b k hk => ?_, ?_, ?_⟩
  · by_cases hb : b = H.length
    · subst hb; simp
    · rw [psh_old l hb] at hk
      have := h.len _ _ hk
      simp; omega
  · by_cases hb : b = H.length
    · subst hb; exact ⟨l, psh_new ..⟩
    · have hlt : b < H.length := by have := lt_of_get hy; simp at this; omega
      rw [List.getElem?_append_left (by simpa using hlt)] at hy
      obtain ⟨z, hz, rfl⟩ := map_get hy
      rw [psh_old l hb]
      exact h.has b z hz ((hf z).live hlv)
  · by_cases hb : b = H.length
    · subst hb
      rw [psh_new] at hk
      injection hk with hk
      subst hk
      exact hlg
    · rw [psh_old l hb] at hk
      exact Nat.lt_of_lt_of_le (h.bnd b k hk) hsz
  · intro b y k hy hk
    by_cases hb : b = H.length
    · subst hb
      obtain ⟨rfl, rfl⟩ := new y k hy hk
      exact hnew
    · obtain ⟨z, hz, rfl, hk⟩ := old b y k hb hy hk
      exact hold b z k hz hk
  · intro b c y z k j hbc hy hz hk hj hyo hzl hg
    by_cases hb : b = H.length
    · subst hb
      obtain ⟨rfl, rfl⟩ := new y k hy hk
      obtain ⟨z', hz', rfl, hj'⟩ := old c z j (fun e => hbc e.symm) hz hj
      have := hsep c z' j hz' hj' hzl hg.symm
      exact ⟨this.1, this.2.2⟩
    · obtain ⟨y', hy', rfl, hk'⟩ := old b y k hb hy hk
      have hyl : (f y').live = true := by cases hfy : f y' <;> first | rfl | (rw [hfy] at hyo; cases hyo)
      by_cases hc : c = H.length
      · subst hc
        obtain ⟨rfl, rfl⟩ := new z j hz hj
        have := hsep b y' k hy' hk' hyl hg
        exact ⟨this.2.1, this.2.2.symm⟩
      · obtain ⟨z', hz', rfl, hj'⟩ := old c z j hc hz hj
        obtain ⟨h1, h2⟩ := h.sep b c y' z' k j hbc hy' hz' hk' hj' ((hf y').owned hyo) ((hf z').live hzl) hg
        exact ⟨(hf y').kin (hf z') hyl hzl h1, h2⟩
theorem kin_symm {x y : Blk} (h : x.kin y) : y.kin x := by
  obtain ⟨f, cs, ds, rfl, rfl⟩ := kin_iff.1 h
  exact kin_iff.2 ⟨f, ds, cs, rfl, rfl⟩
/-- append in place: a longer kin beside the old block. -/
theorem Sim.growHere (hR : Rel m H w) {b fam q : Nat} {cs news : List Value} {l : Loc} (hb : H[b]? = some (.cells fam true cs)) (hl : m b = some l) (hq : q ≤ cs.length) {vs : List Value} (hv : All2 (SR m) news vs)
    (hfit : l.o + q + vs.length ≤ l.N) : ∃ w', (storeCells ⟨l.g, l.o + q, none⟩ vs).run P w = .ok () w' ∧ Sim m H w (psh m H.length l) (H.map (truncFam fam q) ++ [.cells fam true (cs.take q ++ news)]) w' := by
  obtain ⟨C, el, fr, h1, h2, h3, h4⟩ := hR.blk b _ l hb hl
  obtain rfl : fr = (0, 0) := h3 rfl
  have hone : ∀ v ∈ vs, Abs.one v := by
    intro v hv'
    obtain ⟨i, hi, rfl⟩ := List.getElem_of_mem hv'
    obtain ⟨y, hy, hr⟩ := hv.get i _ (List.getElem?_eq_getElem (by rw [hv.length]; exact hi))
    rw [List.getElem?_eq_getElem hi] at hy
    injection hy with hy
    rw [hy]; exact hr.one
  obtain ⟨w', hr, hw⟩ := run_storeCells P l.g el vs (l.o + q) 0 C w h1 (by omega) hone
  simp only [Nat.add_zero] at hw
  have hget : ∀ i, (setArr C (l.o + q) vs)[i]? = if l.o + q ≤ i ∧ i < l.o + q + vs.length then vs[i - (l.o + q)]? else C[i]? := fun i => setArr_get vs C _ i (by omega)
  refine ⟨w', hr, .push l hR.free, ?_, ⟨hw.os, hw.tape, hw.output, Nat.le_of_eq hw.size.symm, fun g hg hn => hw.there g fun e => hn ⟨b, _, l, hb, hl, rfl, e.symm⟩⟩, ?_, by simp, fun c k hk => by
    by_cases hc : c = H.length
    · subst hc
      rw [psh_new] at hk
      injection hk with hk
      subst hk
      exact .inl ⟨b, _, hl, rfl⟩
    · rw [psh_old _ hc] at hk
      exact .inl ⟨c, k, hk, rfl⟩⟩
  · refine hR.grow (Nat.le_of_eq hw.size.symm) _ (truncFam_like fam q) _ l (by rw [hw.size]; exact hR.bnd b l hl) (fun c y k hy hk => ?_) ⟨_, el, (0, 0), hw.here, by rw [setArr_size, h2], fun _ => rfl, fun i v hi => ?_⟩ (fun c y k hy hk hyl hg => ?_)
    · refine BR.keep (m := m) (.push l hR.free) (w := w') ?_ (fun _ => rfl)
      refine (hR.blk c y k hy hk).trunc fun hlive => ?_
      by_cases hg : k.g = l.g
      · refine .inr ⟨C, _, el, ?_, by rw [hg]; exact h1, by rw [hg]; exact hw.here, setArr_size _ _ _, fun i hi => ?_⟩
        · by_cases hcb : c = b
          · subst hcb; rw [hy] at hb; injection hb with hb; subst hb; exact rfl
          · obtain ⟨hkin, _⟩ := hR.sep b c _ y l k (fun e => hcb e.symm) hb hy hl hk rfl hlive hg.symm
            obtain ⟨f, ds, es, e1, rfl⟩ := kin_iff.1 hkin
            injection e1 with e1
            subst e1
            exact rfl
        · have hko : k.o = l.o := by
            by_cases hcb : c = b
            · subst hcb; rw [hk] at hl; injection hl with hl; rw [hl]
            · exact (hR.sep b c _ y l k (fun e => hcb e.symm) hb hy hl hk rfl hlive hg.symm).2.symm
          rw [hget, if_neg (by omega)]
      · exact .inl (hw.there _ hg)
    · rw [hget]
      have hsplit : cs.length ≥ q := hq
      by_cases hiq : i < q
      · rw [List.getElem?_append_left (by simp; omega), List.getElem?_take, if_pos hiq] at hi
        obtain ⟨v', a1, a2⟩ := h4 i v hi
        exact ⟨v', by rw [if_neg (by omega)]; exact a1, a2.mono (.push l hR.free)⟩
      · rw [List.getElem?_append_right (by simp; omega)] at hi
        simp only [List.length_take, Nat.min_eq_left hq] at hi
        obtain ⟨y, a1, a2⟩ := hv.get _ _ hi
        have := lt_of_get a1
        exact ⟨y, by rw [if_pos (by omega), show l.o + i - (l.o + q) = i - q from by omega]; exact a1, a2.mono (.push l hR.free)⟩
    · have hlive : y.live = true := (truncFam_like fam q y).live hyl
      have hkin : (Blk.cells fam true cs).kin y ∧ l.o = k.o := by
        by_cases hcb : c = b
        · subst hcb
          rw [hy] at hb; injection hb with hb; subst hb
          rw [hk] at hl; injection hl with hl; subst hl
          exact ⟨rfl, rfl⟩
        · exact hR.sep b c _ y l k (fun e => hcb e.symm) hb hy hl hk rfl hlive hg.symm
      have h5 : (Blk.cells fam true (cs.take q ++ news)).kin (truncFam fam q y) := by
        obtain ⟨f, ds, es, e1, rfl⟩ := kin_iff.1 hkin.1
        injection e1 with e1
        subst e1
        simp only [truncFam, if_true]
        rfl
      exact ⟨h5, kin_symm h5, hkin.2⟩
  · rintro g ⟨c, y, k, hy, hk, ho, hg⟩
    by_cases hc : c = H.length
    · subst hc
      rw [psh_new] at hk
      injection hk with hk
      subst hk
      exact .inl ⟨b, _, l, hb, hl, rfl, hg⟩
    · have hlt : c < H.length := by have := lt_of_get hy; simp at this; omega
      rw [List.getElem?_append_left (by simpa using hlt)] at hy
      rw [psh_old _ hc] at hk
      obtain ⟨z, hz, rfl⟩ := map_get hy
      exact .inl ⟨c, z, k, hz, hk, (truncFam_like fam q z).owned ho, hg⟩
/-- append that moves: a block of the world's own, the old kin cut. -/
theorem Sim.growAway (hR : Rel m H w) {fam q fam' : Nat} {w1 : World} (hw1 : w1.heap = w.heap) (h1 : w1.os = w.os) (h2 : w1.tape = w.tape) (h3 : w1.output = w.output) (C : Array Value) (el : TypeId) (cs : List Value)
    (hcs : ∀ (i : Nat) (v : Value), cs[i]? = some v → ∃ v', C[i]? = some v' ∧ SR m v v') :
    Sim m H w (psh m H.length ⟨w.heap.size, 0, C.size⟩) (H.map (truncFam fam q) ++ [.cells fam' true cs]) { w1 with heap := w1.heap.push (.cells C el) } := by
  have hold : ∀ (b : Nat) y k, H[b]? = some y → m b = some k → y.live = true → k.g < w.heap.size := fun b y k hy hk hlv => (hR.blk b y k hy hk).lt hlv
  refine ⟨.push _ hR.free, ?_, ⟨h1, h2, h3, by simp [hw1], fun g hg _ => by simp only [hw1]; exact heap_push_lt w _ hg⟩, ?_, by simp, fun c k hk => by
    by_cases hc : c = H.length
    · subst hc
      rw [psh_new] at hk
      injection hk with hk
      subst hk
      exact .inr (Nat.le_refl _)
    · rw [psh_old _ hc] at hk
      exact .inl ⟨c, k, hk, rfl⟩⟩
  · refine hR.grow (by simp [hw1]) _ (truncFam_like fam q) _ _ (by simp [hw1]) (fun c y k hy hk => ?_) ⟨C, el, (0, 0), by simp only [hw1]; exact heap_push_eq w _, rfl, fun _ => rfl, fun i v hi => ?_⟩ (fun c y k hy hk hyl hg => ?_)
    · refine BR.keep (m := m) (.push _ hR.free) (w := { w1 with heap := w1.heap.push (.cells C el) }) ?_ (fun _ => rfl)
      refine (hR.blk c y k hy hk).trunc fun hlive => .inl ?_
      simp only [hw1]
      exact heap_push_lt w _ (hold c y k hy hk hlive)
    · obtain ⟨v', a1, a2⟩ := hcs i v hi
      exact ⟨v', by simpa using a1, a2.mono (.push _ hR.free)⟩
    · have := hold c y k hy hk ((truncFam_like fam q y).live hyl)
      simp only at hg
      omega
  · rintro g ⟨c, y, k, hy, hk, ho, hg⟩
    by_cases hc : c = H.length
    · subst hc
      rw [psh_new] at hk
      injection hk with hk
      subst hk
      exact .inr (by simp only at hg; omega)
    · have hlt : c < H.length := by have := lt_of_get hy; simp at this; omega
      rw [List.getElem?_append_left (by simpa using hlt)] at hy
      rw [psh_old _ hc] at hk
      obtain ⟨z, hz, rfl⟩ := map_get hy
      exact .inl ⟨c, z, k, hz, hk, (truncFam_like fam q z).owned ho, hg⟩
theorem run_append_none {t ty e : TypeId} {i : TypeInfo} {base : Option Addr} {n c : Nat} {x' : Value} (hu : P.underlying t = some (.slice e)) (hi : P.info? e = some i) (hnc : n ≤ c) (hx : ∃ b' c', x' = .slice b' 0 c') :
    (Builtin.append_ #[t, t] ty #[.slice base n c, x']).run P w = .ok (.slice base n c) w := by
  obtain ⟨b', c', rfl⟩ := hx
  have hS : ∀ w2, (sizeOf e).run P w2 = .ok i.size w2 := fun w2 => by simp [sizeOf, typeInfo, hi]
  simp only [Builtin.append_, List.getElem?_toArray, List.getElem?_cons_zero, List.getElem?_cons_succ, Sem.run_bind, run_underlying hu, Result.andThen_ok, Sem.run_pure, hS, Bool.false_eq_true, if_false, Builtin.lenOf, Nat.add_zero, if_pos hnc, Bool.not_false, if_true]
  have hf : (Builtin.firstCells i.size 0 (.slice b' 0 c')).run P w = .ok #[] w := by
    cases b' <;> simp [Builtin.firstCells, loadCells, loadCellsFrom]
  rw [hf]
  cases base <;> simp [storeCells]
theorem run_append_here {t ty e : TypeId} {i : TypeInfo} {ad : Addr} {n c k : Nat} {x' : Value} {new : Array Value} {w' : World} (hu : P.underlying t = some (.slice e)) (hi : P.info? e = some i) (hc : n + k ≤ c) (hx : Builtin.lenOf x' = (pure k : Sem Nat))
    (hnew : (Builtin.firstCells i.size k x').run P w = .ok new w) (hst : (storeCells (ad.add (n * i.size)) new.toList).run P w = .ok () w') :
    (Builtin.append_ #[t, t] ty #[.slice (some ad) n c, x']).run P w = .ok (.slice (some ad) (n + k) c) w' := by
  have hS : ∀ w2, (sizeOf e).run P w2 = .ok i.size w2 := fun w2 => by simp [sizeOf, typeInfo, hi]
  simp only [Builtin.append_, List.getElem?_toArray, List.getElem?_cons_zero, List.getElem?_cons_succ, Sem.run_bind, run_underlying hu, Result.andThen_ok, Sem.run_pure, hS, hx, Bool.false_eq_true, if_false, if_pos hc, Bool.not_false, if_true, hnew, hst]
end
end Go.Abs
