/- The fast evaluator's heap: cells are written, slices grown, blocks made. -/
import Derived.Test.YtmmgdgmjkhcfaaaFastC
namespace Go.Abs
section
noncomputable def finK (vs : List Value) (fam n : Nat) (t : FT) (b o : Nat) (k : FH → RC) (H : FH) : RC :=
  ndK H b fun d => Nd.rec (fun _ mx ms => setsK vs t o fun t => setNdK H b ⟨.cells fam true n t, mx, ms⟩ k) d
noncomputable def writeK (H : FH) (b o m : Nat) (vs : List Value) (k : FH → RC) : RC :=
  cellsK H b fun fam own n t => bif own && Nat.ble (Nat.add o m) n then
    ndK H fam fun r => Nd.rec (fun _ mx ms => bif single ms b then finK vs fam n t b o k H
      else truncK fam o b ms H fun H1 l => famK H1 fam mx l (finK vs fam n t b o k)) r else RC.no
noncomputable def growK (H : FH) (b n0 n1 : Nat) (news : List Value) (k : Nat → FH → RC) : RC :=
  cellsK H b fun fam own nn t => bif own && (Nat.ble n0 nn && Nat.ble n1 262144) then
    ndK H fam fun r => Nd.rec (fun _ mx ms => setsK news t n0 fun t =>
      bif Nat.ble mx n0 then pushK H (fun _ => ⟨.cells fam true n1 t, 0, []⟩) fun i H2 => famK H2 fam n1 (i :: ms) (k i)
      else truncK fam n0 262144 ms H fun H1 l => pushK H1 (fun _ => ⟨.cells fam true n1 t, 0, []⟩) fun i H2 => famK H2 fam n1 (i :: l) (k i)) r else RC.no
noncomputable def newK (H : FH) (l : List Value) (n : Nat) (k : Nat → FH → RC) : RC :=
  bif Nat.ble n 262144 then setsK l blank 0 fun t => pushK H (fun i => ⟨.cells i true n t, n, [i]⟩) k else RC.no
end
theorem famK_eq (H : FH) (fam mx : Nat) (ms : List Nat) (k : FH → RC) : famK H fam mx ms k = if fam < H.n then k (H.setNd fam ⟨(H.nd fam).x, mx, ms⟩) else RC.no := by
  unfold famK
  rw [ndK_eq]
  split
  · cases H.nd fam; simp only [setNdK_eq]
  · rfl
theorem abs_write {H H2 : FH} (hH : H.OK) (h2 : H2.OK) (hn : H2.n = H.n) {b o fam n : Nat} {t : FT} {vs : List Value} (hb : b < H.n) (hx : (H.nd b).x = .cells fam true n t) (ho : o + vs.length ≤ n) (hx2 : ∃ own, (H2.nd b).x = .cells fam own n t)
    (habs : ∀ i, i < H.n → i ≠ b → absB (H2.nd i).x = truncFam fam o (absB (H.nd i).x)) :
    (H2.setX b (.cells fam true n (sets vs t o))).OK ∧ (absH H).write b o vs = some (absH (H2.setX b (.cells fam true n (sets vs t o)))) := by
  have hb2 : b < H2.n := by omega
  have hbo := hH.ok b hb
  rw [hx] at hbo
  obtain ⟨own, hx2⟩ := hx2
  have hbo2 := h2.ok b hb2
  rw [hx2] at hbo2
  refine ⟨OK_setX h2 hb2 _ hbo2, ?_⟩
  unfold Heap.write
  rw [absH_get, if_pos hb, hx]
  simp only [absB, toL_length, if_pos ho]
  congr 1
  symm
  apply absH_eq
  · rw [List.length_set, List.length_map, absH_length]; exact hn.symm
  · intro i hi
    have hi : i < H2.n := hi
    rw [(setX_nd h2 hb2 _ hi).1, List.getElem?_set, List.length_map, absH_length]
    by_cases h : b = i
    · subst h
      rw [if_pos rfl, if_pos rfl, if_pos hb]
      simp only [absB]
      rw [sets_toL hbo.1 ho]
    · rw [if_neg h, if_neg (Ne.symm h), List.getElem?_map, absH_get, if_pos (by omega), Option.map_some, habs i (by omega) (Ne.symm h)]
section
theorem finK_eq {vs : List Value} {fam n b o : Nat} {t : FT} {k : FH → RC} {H : FH} (hb : b < H.n) : finK vs fam n t b o k H = k (H.setX b (.cells fam true n (sets vs t o))) := by
  unfold finK FH.setX
  rw [ndK_eq, if_pos hb]
  cases H.nd b
  simp only [setsK_eq, setNdK_eq]
theorem writeK_or {H : FH} (hH : H.OK) (b o m : Nat) (vs : List Value) (hm : vs.length = m) (k : FH → RC) : writeK H b o m vs k = RC.no ∨ ∃ H', H'.OK ∧ (absH H).write b o vs = some (absH H') ∧ writeK H b o m vs k = k H' := by
  unfold writeK
  rcases cellsK_or H b (fun fam own n t => bif own && Nat.ble (Nat.add o m) n then
    ndK H fam fun r => Nd.rec (fun _ mx ms => bif single ms b then finK vs fam n t b o k H
      else truncK fam o b ms H fun H1 l => famK H1 fam mx l (finK vs fam n t b o k)) r else RC.no) with h | ⟨fam, own, n, t, hb, hx, h⟩
  · exact .inl h
  rw [h]
  clear h
  cases hc : (own && Nat.ble (Nat.add o m) n) with
  | false => exact .inl rfl
  | true =>
    simp only [Bool.and_eq_true] at hc
    obtain ⟨rfl, hle⟩ := hc
    have ho : o + vs.length ≤ n := by rw [hm]; exact Nat.le_of_ble_eq_true hle
    simp only [cond_true]
    have hbo := hH.ok b hb
    rw [hx] at hbo
    obtain ⟨q1, q2, q3, q4⟩ := hbo
    rw [ndK_eq, if_pos q2]
    cases hf : H.nd fam with
    | mk xf mx ms =>
      show (bif single ms b then finK vs fam n t b o k H else truncK fam o b ms H fun H1 l => famK H1 fam mx l (finK vs fam n t b o k)) = RC.no ∨ _
      have hms : (H.nd fam).ms = ms := by rw [hf]
      have hmx : (H.nd fam).mx = mx := by rw [hf]
      cases hs : single ms b with
      | true =>
        have hs := single_eq hs
        right
        simp only [cond_true]
        rw [finK_eq hb]
        obtain ⟨r1, r2⟩ := abs_write hH hH rfl hb hx ho ⟨true, hx⟩ (fun i hi hib => by
          have := hH.ok i hi
          cases hxi : (H.nd i).x with
          | cells f own n t =>
            rw [hxi] at this
            obtain ⟨_, _, h3, _⟩ := this
            unfold absB truncFam
            by_cases hff : f = fam
            · subst hff
              have : n = 0 := by
                apply Nat.eq_zero_of_not_pos
                intro h
                have := h3 h
                rw [hms, hs] at this
                exact hib (by simpa using this)
              subst this
              simp [toL]
            · simp [hff]
          | _ => rfl)
        exact ⟨_, r1, r2, rfl⟩
      | false =>
        simp only [cond_false]
        obtain ⟨H1, l, e1, c, kp⟩ := truncK_or fam o b ms H (fun H1 l => famK H1 fam mx l (finK vs fam n t b o k)) hH
        rw [← hms] at c kp
        have hmx2 : ∀ i, i < H.n → ∀ own n t, (H1.nd i).x = .cells fam own n t → n ≤ mx := by
          intro i hi own n t h
          have := c.ok.ok i (by rw [c.hn]; exact hi)
          rw [h] at this
          obtain ⟨_, _, _, h4⟩ := this
          rw [c.hmx fam q2, hmx] at h4
          exact h4
        obtain ⟨r1, r2⟩ := c.fam q2 kp hmx2
        have hn2 := c.hn
        have hb1 : b < H1.n := by omega
        have hf1 : fam < H1.n := by omega
        have hnx : ∀ i, i < H1.n → ((H1.setNd fam ⟨(H1.nd fam).x, mx, l⟩).nd i).x = (H1.nd i).x := by
          intro i hi; rw [nd_setNd c.ok hf1 _ hi]; split
          · rename_i h; rw [h]
          · rfl
        obtain ⟨s1, s2⟩ := abs_write hH r1 hn2 hb hx ho ⟨true, by rw [hnx b hb1, c.hx b hb]; simp [hx]⟩ (fun i hi hib => by rw [hnx i (by omega)]; exact c.abs hH q2 i hi hib)
        right
        refine ⟨_, s1, s2, ?_⟩
        have key : truncK fam o b ms H (fun H1 l => famK H1 fam mx l (finK vs fam n t b o k)) = k ((H1.setNd fam ⟨(H1.nd fam).x, mx, l⟩).setX b (.cells fam true n (sets vs t o))) := by
          rw [e1, famK_eq, if_pos hf1, finK_eq (show b < (H1.setNd fam ⟨(H1.nd fam).x, mx, l⟩).n from hb1)]
        exact key
theorem growK_or {H : FH} (hH : H.OK) (b n0 n1 : Nat) (news : List Value) (hm : n0 + news.length = n1) (k : Nat → FH → RC) : growK H b n0 n1 news k = RC.no ∨ ∃ H' fam cs, n1 ≤ 262144 ∧ H'.OK ∧ (absH H)[b]? = some (.cells fam true cs) ∧ n0 ≤ cs.length ∧
    absH H' = (absH H).map (truncFam fam n0) ++ [.cells fam true (cs.take n0 ++ news)] ∧ growK H b n0 n1 news k = k H.n H' := by
  unfold growK
  rcases cellsK_or H b (fun fam own nn t => bif own && (Nat.ble n0 nn && Nat.ble n1 262144) then
    ndK H fam fun r => Nd.rec (fun _ mx ms => setsK news t n0 fun t =>
      bif Nat.ble mx n0 then pushK H (fun _ => ⟨.cells fam true n1 t, 0, []⟩) fun i H2 => famK H2 fam n1 (i :: ms) (k i)
      else truncK fam n0 262144 ms H fun H1 l => pushK H1 (fun _ => ⟨.cells fam true n1 t, 0, []⟩) fun i H2 => famK H2 fam n1 (i :: l) (k i)) r else RC.no) with h | ⟨fam, own, nn, t, hb, hx, h⟩
  · exact .inl h
  rw [h]
  clear h
  cases hc : (own && (Nat.ble n0 nn && Nat.ble n1 262144)) with
  | false => exact .inl rfl
  | true =>
    simp only [Bool.and_eq_true] at hc
    obtain ⟨rfl, hle, h256⟩ := hc
    have hle := Nat.le_of_ble_eq_true hle
    have h256 := Nat.le_of_ble_eq_true h256
    simp only [cond_true]
    have hbo := hH.ok b hb
    rw [hx] at hbo
    obtain ⟨q1, q2, q3, q4⟩ := hbo
    rw [ndK_eq, if_pos q2]
    cases hf : H.nd fam with
    | mk xf mx ms =>
      have hms : (H.nd fam).ms = ms := by rw [hf]
      have hmx : (H.nd fam).mx = mx := by rw [hf]
      simp only [setsK_eq]
      -- the cut, whether made or not
      have fin : ∀ (H1 : FH) (l : List Nat), Cut fam n0 262144 (H.nd fam).ms H H1 → kept fam 262144 (H.nd fam).ms H1 l → (pushK H1 (fun _ => (⟨.cells fam true n1 (sets news t n0), 0, []⟩ : Nd)) fun i H2 => famK H2 fam n1 (i :: l) (k i)) = RC.no ∨
          ∃ H' fam' cs, n1 ≤ 262144 ∧ H'.OK ∧ (absH H)[b]? = some (.cells fam' true cs) ∧ n0 ≤ cs.length ∧ absH H' = (absH H).map (truncFam fam' n0) ++ [.cells fam' true (cs.take n0 ++ news)] ∧
            (pushK H1 (fun _ => (⟨.cells fam true n1 (sets news t n0), 0, []⟩ : Nd)) fun i H2 => famK H2 fam n1 (i :: l) (k i)) = k H.n H' := by
        intro H1 l c kp
        have hn := c.hn
        rcases pushK_or H1 (fun _ => (⟨.cells fam true n1 (sets news t n0), 0, []⟩ : Nd)) (fun i H2 => famK H2 fam n1 (i :: l) (k i)) with e | ⟨hlt, e⟩
        · exact .inl e
        right
        rw [e]
        have hfn : fam < (H1.push ⟨.cells fam true n1 (sets news t n0), 0, []⟩).n := by show fam < H1.n + 1; omega
        rw [famK_eq, if_pos hfn, hn]
        have hnd := fun j (hj : j < H1.n + 1) => nd_push hlt ⟨.cells fam true n1 (sets news t n0), 0, []⟩ hj
        have hle4 := hH.le
        have hpfam : ((H1.push ⟨.cells fam true n1 (sets news t n0), 0, []⟩).nd fam) = H1.nd fam := by rw [hnd fam (by omega), if_neg (by omega)]
        have habs1 : absH H1 = (absH H).map (truncFam fam n0) := by
          apply absH_eq
          · rw [List.length_map, absH_length, hn]
          · intro i hi
            rw [List.getElem?_map, absH_get, if_pos (by omega), Option.map_some, c.abs hH q2 i (by omega) (by omega)]
        -- lengths of the members
        have hlen : ∀ i, i < H.n → ∀ own n t, (H1.nd i).x = .cells fam own n t → n ≤ n0 := by
          intro i hi own n t h
          have h1 := c.hx i hi
          by_cases him : i ∈ (H.nd fam).ms
          · rw [if_pos ⟨him, by omega⟩, h] at h1
            cases hxi : (H.nd i).x with
            | cells f own' n' t' =>
              rw [hxi] at h1
              unfold truncX at h1
              by_cases hff : f = fam
              · by_cases hn' : n' ≤ n0
                · simp only [hff, hn', if_true] at h1; cases h1; exact hn'
                · simp only [hff, hn', if_true, if_false] at h1; cases h1; exact Nat.le_refl _
              · simp only [hff, if_false] at h1; cases h1; exact absurd rfl hff
            | dead => rw [hxi] at h1; cases h1
            | map es => rw [hxi] at h1; cases h1
            | loop => rw [hxi] at h1; cases h1
          · rw [if_neg (fun h => him h.1), h] at h1
            have := hH.ok i hi
            rw [← h1] at this
            obtain ⟨_, _, h3, _⟩ := this
            by_cases h0 : 0 < n
            · exact absurd (h3 h0) him
            · omega
        let G : FH := H1.push ⟨.cells fam true n1 (sets news t n0), 0, []⟩
        have hGn : G.n = H1.n + 1 := rfl
        have hGle : G.n ≤ 262144 := by omega
        let G2 : FH := G.setNd fam ⟨(G.nd fam).x, n1, H.n :: l⟩
        have hG2 : ∀ j, j < H1.n + 1 → G2.nd j = if j = fam then ⟨(G.nd fam).x, n1, H.n :: l⟩ else G.nd j := fun j hj => T3.get_set _ _ (by omega) (by omega)
        have hG2x : ∀ j, j < H1.n + 1 → (G2.nd j).x = (G.nd j).x := by
          intro j hj; rw [hG2 j hj]; split
          · rename_i h; rw [h]
          · rfl
        refine ⟨G2, fam, toL nn t, h256, ⟨hGle, fun i hi => ?_⟩, by rw [absH_get, if_pos hb, hx]; rfl, by rw [toL_length]; exact hle, ?_, rfl⟩
        · have hi : i < H1.n + 1 := hi
          rw [hG2x i hi]
          show BOK G2 i ((H1.push ⟨.cells fam true n1 (sets news t n0), 0, []⟩).nd i).x
          rw [hnd i hi]
          by_cases hin : i = H1.n
          · rw [if_pos hin]
            refine ⟨h256, by show fam < H1.n + 1; omega, fun _ => ?_, ?_⟩
            · rw [hG2 fam (by omega), if_pos rfl, hin, hn]; simp
            · rw [hG2 fam (by omega), if_pos rfl]; exact Nat.le_refl _
          · rw [if_neg hin]
            have hi1 : i < H1.n := by omega
            have hb1 := c.ok.ok i hi1
            cases hxi : (H1.nd i).x with
            | cells f own n t =>
              rw [hxi] at hb1
              obtain ⟨h1, h2, h3, h4⟩ := hb1
              refine ⟨h1, by show f < H1.n + 1; omega, fun h0 => ?_, ?_⟩
              · rw [hG2 f (by omega)]
                by_cases hff : f = fam
                · rw [if_pos hff]
                  refine List.mem_cons_of_mem _ (kp i hi1 ?_ (.inr ⟨own, n, t, by rw [hxi, hff], h0⟩))
                  have := h3 h0
                  rw [hff, c.hms fam q2] at this
                  exact this
                · rw [if_neg hff]
                  show i ∈ ((H1.push ⟨.cells fam true n1 (sets news _ n0), 0, []⟩).nd f).ms
                  rw [hnd f (by omega), if_neg (by omega)]
                  exact h3 h0
              · rw [hG2 f (by omega)]
                by_cases hff : f = fam
                · rw [if_pos hff]
                  have := hlen i (by omega) own n t (by rw [hxi, hff])
                  show n ≤ n1
                  omega
                · rw [if_neg hff]
                  show n ≤ ((H1.push ⟨.cells fam true n1 (sets news _ n0), 0, []⟩).nd f).mx
                  rw [hnd f (by omega), if_neg (by omega)]
                  exact h4
            | map kk es mt => rw [hxi] at hb1; exact hb1
            | _ => trivial
        · have e2 : absH G2 = absH G := by
            apply absH_eq
            · rw [absH_length]; rfl
            · intro i hi
              have hi : i < H1.n + 1 := hi
              rw [absH_get, if_pos (show i < G.n from hi), hG2x i hi]
          rw [e2]
          show absH (H1.push _) = _
          rw [absH_push hlt, habs1]
          simp only [absB]
          rw [← hm, toL_sets_new (by omega), toL_take hle]
      cases hmxn : Nat.ble mx n0 with
      | true =>
        have hle0 := Nat.le_of_ble_eq_true hmxn
        have c : Cut fam n0 262144 (H.nd fam).ms H H := by
          refine ⟨hH, rfl, fun _ _ => rfl, fun _ _ => rfl, fun i hi => ?_⟩
          split
          · have := hH.ok i hi
            cases hxi : (H.nd i).x with
            | cells f own n t =>
              rw [hxi] at this
              obtain ⟨_, _, _, h4⟩ := this
              unfold truncX
              by_cases hff : f = fam
              · subst hff
                rw [hmx] at h4
                have h5 : n ≤ n0 := by omega
                simp [h5]
              · simp [hff]
            | _ => rfl
          · rfl
        have := fin H ms c (fun i _ hi _ => by rw [hms] at hi; exact hi)
        simpa only [hf, hmxn, cond_true] using this
      | false =>
        obtain ⟨H1, l, e1, c, kp⟩ := truncK_or fam n0 262144 ms H (fun H1 l => pushK H1 (fun _ => (⟨.cells fam true n1 (sets news t n0), 0, []⟩ : Nd)) fun i H2 => famK H2 fam n1 (i :: l) (k i)) hH
        rw [← hms] at c kp
        have := fin H1 l c kp
        rw [← e1] at this
        simpa only [hf, hmxn, cond_false] using this
theorem newK_or {H : FH} (hH : H.OK) (l : List Value) (n : Nat) (hn : l.length = n) (k : Nat → FH → RC) : newK H l n k = RC.no ∨ ∃ H', n ≤ 262144 ∧ H'.OK ∧ absH H' = absH H ++ [.cells (absH H).length true l] ∧ newK H l n k = k (absH H).length H' := by
  unfold newK
  cases hc : Nat.ble n 262144 with
  | false => exact .inl rfl
  | true =>
    have h256 := Nat.le_of_ble_eq_true hc
    simp only [cond_true, setsK_eq]
    rcases pushK_or H (fun i => (⟨.cells i true n (sets l blank 0), n, [i]⟩ : Nd)) k with e | ⟨hlt, e⟩
    · exact .inl e
    · refine .inr ⟨_, h256, OK_push hH hlt _ (BOK_new hlt h256), ?_, by rw [absH_length]; exact e⟩
      rw [absH_push hlt, absH_length]
      simp only [absB]
      have := ofL_toL (l := l) (by omega)
      rw [hn] at this
      rw [show sets l blank 0 = ofL l from rfl, this]
end
end Go.Abs
