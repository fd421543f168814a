/- The fast evaluator's heap: families are cut short, cells written, slices grown. -/
import Derived.Test.YtmmgdgmjkhcfaaaFastB
namespace Go.Abs
def truncX (fam o : Nat) : FB → FB
  | .cells f own n t => if f = fam then (if n ≤ o then .cells f own n t else .cells f own o t) else .cells f own n t
  | x => x
def FH.setX (H : FH) (i : Nat) (x : FB) : FH := H.setNd i ⟨x, (H.nd i).mx, (H.nd i).ms⟩
/-- H' is H with the members in 'ms' cut short, but for 'skip'. -/
structure Cut (fam o skip : Nat) (ms : List Nat) (H H' : FH) : Prop where
  ok : H'.OK
  hn : H'.n = H.n
  hmx : ∀ i, i < H.n → (H'.nd i).mx = (H.nd i).mx
  hms : ∀ i, i < H.n → (H'.nd i).ms = (H.nd i).ms
  hx : ∀ i, i < H.n → (H'.nd i).x = if i ∈ ms ∧ i ≠ skip then truncX fam o (H.nd i).x else (H.nd i).x
def kept (fam skip : Nat) (ms : List Nat) (H' : FH) (l : List Nat) : Prop := ∀ i, i < H'.n → i ∈ ms → (i = skip ∨ ∃ own n t, (H'.nd i).x = .cells fam own n t ∧ 0 < n) → i ∈ l
theorem truncX_idem (fam o : Nat) (x : FB) : truncX fam o (truncX fam o x) = truncX fam o x := by
  cases x with
  | cells f own n t =>
    unfold truncX
    by_cases h : f = fam
    · by_cases h2 : n ≤ o
      · simp [h, h2]
      · simp [h, h2]
    · simp [h]
  | _ => rfl
theorem setX_nd {H : FH} (hH : H.OK) {i : Nat} (hi : i < H.n) (x : FB) {j : Nat} (hj : j < H.n) : ((H.setX i x).nd j).x = (if j = i then x else (H.nd j).x) ∧ ((H.setX i x).nd j).mx = (H.nd j).mx ∧ ((H.setX i x).nd j).ms = (H.nd j).ms := by
  unfold FH.setX
  rw [nd_setNd hH hi _ hj]
  by_cases h : j = i
  · subst h; simp
  · simp [h]
theorem OK_cut {H : FH} (hH : H.OK) {i : Nat} (hi : i < H.n) (fam o : Nat) : (H.setX i (truncX fam o (H.nd i).x)).OK := by
  refine OK_setX hH hi _ ?_
  have := hH.ok i hi
  cases hx : (H.nd i).x with
  | cells f own n t =>
    rw [hx] at this
    obtain ⟨h1, h2, h3, h4⟩ := this
    unfold truncX
    by_cases hf : f = fam
    · by_cases hn : n ≤ o
      · simp only [hf, hn, if_true]; subst hf; exact ⟨h1, h2, h3, h4⟩
      · simp only [hf, hn, if_true, if_false]; subst hf; exact ⟨by omega, h2, fun h => h3 (by omega), by omega⟩
    · simp only [hf, if_false]; exact ⟨h1, h2, h3, h4⟩
  | map kk es mt => rw [hx] at this; exact this
  | _ => trivial
section
theorem truncK_or (fam o skip : Nat) : ∀ (ms : List Nat) (H : FH) (k : FH → List Nat → RC), H.OK → ∃ H' l, truncK fam o skip ms H k = k H' l ∧ Cut fam o skip ms H H' ∧ kept fam skip ms H' l := by
  intro ms
  induction ms with
  | nil => intro H k hH; exact ⟨H, [], rfl, ⟨hH, rfl, fun _ _ => rfl, fun _ _ => rfl, fun i _ => by simp⟩, fun i _ h => by cases h⟩
  | cons m ms ih =>
    intro H k hH
    have e : truncK fam o skip (m :: ms) H k = bif Nat.beq m skip then truncK fam o skip ms H fun H l => k H (m :: l) else ndE H m (truncK fam o skip ms H k) fun d => Nd.rec (fun x mx ms' => FB.rec (truncK fam o skip ms H k)
      (fun f own n t => bif Nat.beq f fam then (bif Nat.ble n o then truncK fam o skip ms H (bif Nat.beq n 0 then k else fun H l => k H (m :: l))
        else setNdK H m ⟨.cells f own o t, mx, ms'⟩ fun H => truncK fam o skip ms H (bif Nat.beq o 0 then k else fun H l => k H (m :: l))) else truncK fam o skip ms H k)
      (fun _ _ _ => truncK fam o skip ms H k) (fun _ _ _ _ _ _ _ => truncK fam o skip ms H k) x) d := rfl
    -- the step: H1 is H with m cut short
    have step : ∀ (H1 : FH) (k1 : FH → List Nat → RC) (add : Bool), H1.OK → H1.n = H.n → (∀ i, i < H.n → (H1.nd i).mx = (H.nd i).mx ∧ (H1.nd i).ms = (H.nd i).ms ∧ (H1.nd i).x = if i = m ∧ i ≠ skip then truncX fam o (H.nd i).x else (H.nd i).x) →
        (∀ H l, k1 H l = k H (if add then m :: l else l)) →
        (m < H.n → (m = skip ∨ ∃ own n t, (H1.nd m).x = .cells fam own n t ∧ 0 < n) → add = true) →
        ∃ H' l, truncK fam o skip ms H1 k1 = k H' l ∧ Cut fam o skip (m :: ms) H H' ∧ kept fam skip (m :: ms) H' l := by
      intro H1 k1 add h1 hn hall hk1 hadd
      obtain ⟨H', l, e1, c, kp⟩ := ih H1 k1 h1
      refine ⟨H', if add then m :: l else l, by rw [e1, hk1], ⟨c.ok, by rw [c.hn, hn], fun i hi => ?_, fun i hi => ?_, fun i hi => ?_⟩, ?_⟩
      · rw [c.hmx i (by omega), (hall i hi).1]
      · rw [c.hms i (by omega), (hall i hi).2.1]
      · rw [c.hx i (by omega), (hall i hi).2.2]
        by_cases hm : i = m
        · subst hm
          by_cases hs : i = skip
          · simp [hs]
          · by_cases hin : i ∈ ms
            · simp [hs, hin, truncX_idem]
            · simp [hs, hin]
        · by_cases hin : i ∈ ms
          · simp [hm, hin]
          · simp [hm, hin]
      · intro i hi him hc
        have hiH : i < H.n := by rw [c.hn, hn] at hi; exact hi
        have keep : i ∈ l → i ∈ (if add then m :: l else l) := by intro h; cases add <;> simp [h]
        by_cases hin : i ∈ ms
        · exact keep (kp i hi hin hc)
        · have hm : i = m := by rcases List.mem_cons.1 him with h | h; exact h; exact absurd h hin
          have hx : (H'.nd i).x = (H1.nd i).x := by rw [c.hx i (by omega)]; simp [hin]
          have : add = true := hadd (by rw [← hm]; exact hiH) (by rw [← hm, ← hx]; exact hc)
          rw [this, hm]; simp
    have same : ∀ {p : Prop} [Decidable p] (x : FB), (truncX fam o x = x ∨ ¬ p) → x = if p then truncX fam o x else x := by
      intro p _ x h
      by_cases hp : p
      · rw [if_pos hp]
        rcases h with h | h
        · exact h.symm
        · exact absurd hp h
      · rw [if_neg hp]
    rw [e]
    cases hb : Nat.beq m skip with
    | true =>
      have hms := Nat.eq_of_beq_eq_true hb
      simp only [cond_true]
      refine step H _ true hH rfl (fun i _ => ⟨rfl, rfl, same _ (.inr ?_)⟩) (fun _ _ => rfl) (fun _ _ => rfl)
      rintro ⟨h1, h2⟩
      exact h2 (h1.trans hms)
    | false =>
      have hms := Nat.ne_of_beq_eq_false hb
      simp only [cond_false]
      rw [ndE_eq]
      split
      case isFalse hlt =>
        refine step H k false hH rfl (fun i hi => ⟨rfl, rfl, same _ (.inr ?_)⟩) (fun _ _ => rfl) (fun h => absurd h hlt)
        rintro ⟨h1, _⟩; omega
      case isTrue hlt =>
        cases hd : H.nd m with
        | mk x mx ms' =>
          have hx : (H.nd m).x = x := by rw [hd]
          have other : noCells x → ∃ H' l, truncK fam o skip ms H k = k H' l ∧ Cut fam o skip (m :: ms) H H' ∧ kept fam skip (m :: ms) H' l := by
            intro hno
            refine step H k false hH rfl (fun i hi => ⟨rfl, rfl, same _ ?_⟩) (fun _ _ => rfl) (fun _ h => ?_)
            · by_cases him : i = m
              · left; rw [him, hx]; cases x <;> first | exact hno.elim | rfl
              · right; rintro ⟨h1, _⟩; exact him h1
            · rcases h with h | ⟨own, n, t, h, _⟩
              · exact absurd h hms
              · rw [hx] at h; subst h; exact hno.elim
          cases x with
          | dead => exact other trivial
          | map es => exact other trivial
          | loop => exact other trivial
          | cells f own n t =>
            show ∃ H' l, (bif Nat.beq f fam then (bif Nat.ble n o then truncK fam o skip ms H (bif Nat.beq n 0 then k else fun H l => k H (m :: l))
              else setNdK H m ⟨.cells f own o t, mx, ms'⟩ fun H => truncK fam o skip ms H (bif Nat.beq o 0 then k else fun H l => k H (m :: l))) else truncK fam o skip ms H k) = k H' l ∧ _
            cases hf : Nat.beq f fam with
            | false =>
              have hff := Nat.ne_of_beq_eq_false hf
              simp only [cond_false]
              refine step H k false hH rfl (fun i hi => ⟨rfl, rfl, same _ ?_⟩) (fun _ _ => rfl) (fun _ h => ?_)
              · by_cases him : i = m
                · left; rw [him, hx]; simp [truncX, hff]
                · right; rintro ⟨h1, _⟩; exact him h1
              · rcases h with h | ⟨own, n, t, h, _⟩
                · exact absurd h hms
                · rw [hx] at h; cases h; exact absurd rfl hff
            | true =>
              have hff := Nat.eq_of_beq_eq_true hf
              simp only [cond_true]
              cases hno : Nat.ble n o with
              | true =>
                have hle := Nat.le_of_ble_eq_true hno
                simp only [cond_true]
                refine step H _ (!Nat.beq n 0) hH rfl (fun i hi => ⟨rfl, rfl, same _ ?_⟩) (fun _ _ => ?_) (fun _ h => ?_)
                · by_cases him : i = m
                  · left; rw [him, hx]; simp [truncX, hle]
                  · right; rintro ⟨h1, _⟩; exact him h1
                · cases Nat.beq n 0 <;> rfl
                · rcases h with h | ⟨own2, n2, t2, h, h0⟩
                  · exact absurd h hms
                  · rw [hx] at h; cases h
                    cases hz : Nat.beq n 0 with
                    | true => have := Nat.eq_of_beq_eq_true hz; omega
                    | false => rfl
              | false =>
                have hgt : ¬ n ≤ o := by intro h; rw [Nat.ble_eq_true_of_le h] at hno; cases hno
                simp only [cond_false, setNdK_eq]
                have hset : H.setNd m ⟨.cells f own o t, mx, ms'⟩ = H.setX m (truncX fam o (H.nd m).x) := by
                  unfold FH.setX; rw [hd]; simp [truncX, hff, hgt]
                rw [hset]
                have hnd := fun j (hj : j < H.n) => setX_nd hH hlt (truncX fam o (H.nd m).x) hj
                refine step _ _ (!Nat.beq o 0) (OK_cut hH hlt fam o) rfl (fun i hi => ⟨(hnd i hi).2.1, (hnd i hi).2.2, ?_⟩) (fun _ _ => ?_) (fun _ h => ?_)
                · rw [(hnd i hi).1]
                  by_cases him : i = m
                  · subst him; simp [hms]
                  · simp [him]
                · cases Nat.beq o 0 <;> rfl
                · rcases h with h | ⟨own2, n2, t2, h, h0⟩
                  · exact absurd h hms
                  · rw [(hnd m hlt).1, hx] at h
                    simp [truncX, hff, hgt] at h
                    cases hz : Nat.beq o 0 with
                    | true => have := Nat.eq_of_beq_eq_true hz; omega
                    | false => rfl
end
theorem absB_truncX (fam o : Nat) (x : FB) : absB (truncX fam o x) = truncFam fam o (absB x) := by
  cases x with
  | cells f own n t =>
    unfold truncX absB truncFam
    by_cases h : f = fam
    · simp only [h, if_true]
      by_cases h2 : n ≤ o
      · simp only [h2, if_true]
        rw [List.take_of_length_le (by rw [toL_length]; exact h2)]
      · simp only [h2, if_false]
        rw [toL_take (by omega)]
    · simp [h]
  | _ => rfl
/-- Behind the cut the heap is the abstract one, but at 'skip'. -/
theorem Cut.abs {fam o skip : Nat} {H H' : FH} (hH : H.OK) (hfam : fam < H.n) (c : Cut fam o skip (H.nd fam).ms H H') : ∀ i, i < H.n → i ≠ skip → absB (H'.nd i).x = truncFam fam o (absB (H.nd i).x) := by
  intro i hi hs
  rw [c.hx i hi]
  by_cases him : i ∈ (H.nd fam).ms
  · rw [if_pos ⟨him, hs⟩, absB_truncX]
  · rw [if_neg (fun h => him h.1)]
    have := hH.ok i hi
    cases hx : (H.nd i).x with
    | cells f own n t =>
      rw [hx] at this
      obtain ⟨_, _, h3, _⟩ := this
      unfold absB truncFam
      by_cases hf : f = fam
      · subst hf
        have : n = 0 := by
          apply Nat.eq_zero_of_not_pos
          intro h; exact him (h3 h)
        subst this
        simp [toL]
      · simp [hf]
    | _ => rfl
/-- What is known of a family after a cut, laid anew. -/
theorem Cut.fam {fam o skip mx' : Nat} {l : List Nat} {H H' : FH} (hfam : fam < H.n) (c : Cut fam o skip (H.nd fam).ms H H') (kp : kept fam skip (H.nd fam).ms H' l)
    (hmx : ∀ i, i < H.n → ∀ own n t, (H'.nd i).x = .cells fam own n t → n ≤ mx') : (H'.setNd fam ⟨(H'.nd fam).x, mx', l⟩).OK ∧ absH (H'.setNd fam ⟨(H'.nd fam).x, mx', l⟩) = absH H' := by
  have hn := c.hn
  have hf' : fam < H'.n := by omega
  have hnd := fun j (hj : j < H'.n) => nd_setNd c.ok hf' ⟨(H'.nd fam).x, mx', l⟩ hj
  have hx : ∀ j, j < H'.n → ((H'.setNd fam ⟨(H'.nd fam).x, mx', l⟩).nd j).x = (H'.nd j).x := by
    intro j hj; rw [hnd j hj]; split
    · rename_i h; rw [h]
    · rfl
  constructor
  · refine ⟨c.ok.le, fun i hi => ?_⟩
    have hi : i < H'.n := hi
    rw [hx i hi]
    have hb := c.ok.ok i hi
    cases hc : (H'.nd i).x with
    | cells f own n t =>
      rw [hc] at hb
      obtain ⟨h1, h2, h3, h4⟩ := hb
      refine ⟨h1, h2, fun h0 => ?_, ?_⟩
      · rw [hnd f h2]
        by_cases hf : f = fam
        · rw [if_pos hf]
          refine kp i hi ?_ (.inr ⟨own, n, t, by rw [hc, hf], h0⟩)
          have := h3 h0
          rw [hf, c.hms fam hfam] at this
          exact this
        · rw [if_neg hf]; exact h3 h0
      · rw [hnd f h2]
        by_cases hf : f = fam
        · rw [if_pos hf]; exact hmx i (by omega) own n t (by rw [hc, hf])
        · rw [if_neg hf]; exact h4
    | map kk es mt => rw [hc] at hb; exact hb
    | _ => trivial
  · apply absH_eq
    · rw [absH_length]; rfl
    · intro i hi
      have hi : i < H'.n := hi
      rw [absH_get, if_pos hi, hx i hi]
theorem single_eq {ms : List Nat} {b : Nat} (h : single ms b = true) : ms = [b] := by
  unfold single at h
  split at h
  · rw [Nat.eq_of_beq_eq_true h]
  · cases h
end Go.Abs
