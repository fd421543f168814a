/- The fast evaluator's heap: reading, pushing, writing, appending; each is what the abstract heap does. -/
import Derived.Test.YtmmgdgmjkhcfaaaFastF
namespace Go.Abs
section
noncomputable def ndE (H : FH) (b : Nat) (nn : RC) (k : Nd → RC) : RC := FH.rec (fun n t => Bool.rec nn ((g3B b).run t k) (Nat.ble (Nat.add b 1) n)) H
noncomputable def ndK (H : FH) (b : Nat) (k : Nd → RC) : RC := FH.rec (fun n t => Bool.rec RC.no ((g3B b).run t k) (Nat.ble (Nat.add b 1) n)) H
noncomputable def fbK : Nd → (Nat → Bool → Nat → FT → RC) → RC := Nd.rec (fun x _ _ => FB.rec (motive := fun _ => (Nat → Bool → Nat → FT → RC) → RC) (fun _ => RC.no) (fun fam own n t k => k fam own n t) (fun _ _ _ _ => RC.no) (fun _ _ _ _ _ _ _ _ => RC.no) x)
noncomputable def cellsK (H : FH) (b : Nat) (k : Nat → Bool → Nat → FT → RC) : RC := ndK H b fun d => fbK d k
noncomputable def rowK (t : FT) (o n : Nat) (k : List Value → RC) : RC :=
  Nat.rec (motive := fun _ => Nat → (List Value → RC) → RC) (fun _ k => k []) (fun _ ih o k => (g2B o).run t fun v => fN (Nat.add o 1) fun o => ih o fun l => k (v :: l)) n o k
noncomputable def setsK (vs : List Value) (t : FT) (o : Nat) (k : FT → RC) : RC :=
  List.rec (motive := fun _ => Nat → FT → (FT → RC) → RC) (fun _ t k => k t) (fun v _ ih o t k => (s2B o).run t v fun t => fN (Nat.add o 1) fun o => ih o t k) vs o t k
noncomputable def setNdK (H : FH) (b : Nat) (d : Nd) (k : FH → RC) : RC := FH.rec (fun n t => (s3B b).run t d fun t => k ⟨n, t⟩) H
noncomputable def pushK (H : FH) (f : Nat → Nd) (k : Nat → FH → RC) : RC := FH.rec (fun n t => Bool.rec ((s3B n).run t (f n) fun t => fN (Nat.add n 1) fun m => k n ⟨m, t⟩) RC.no (Nat.ble 262144 n)) H
noncomputable def truncK (fam o skip : Nat) (ms : List Nat) (H : FH) (k : FH → List Nat → RC) : RC :=
  List.rec (motive := fun _ => FH → (FH → List Nat → RC) → RC) (fun H k => k H [])
    (fun m _ ih H k => bif Nat.beq m skip then ih H fun H l => k H (m :: l) else ndE H m (ih H k) fun d => Nd.rec (fun x mx ms => FB.rec (ih H k)
      (fun f own n t => bif Nat.beq f fam then (bif Nat.ble n o then ih H (bif Nat.beq n 0 then k else fun H l => k H (m :: l))
        else setNdK H m ⟨.cells f own o t, mx, ms⟩ fun H => ih H (bif Nat.beq o 0 then k else fun H l => k H (m :: l))) else ih H k)
      (fun _ _ _ => ih H k) (fun _ _ _ _ _ _ _ => ih H k) x) d) ms H k
noncomputable def famK (H : FH) (fam mx : Nat) (ms : List Nat) (k : FH → RC) : RC := ndK H fam fun d => Nd.rec (fun x _ _ => setNdK H fam ⟨x, mx, ms⟩ k) d
def single (ms : List Nat) (b : Nat) : Bool := match ms with
  | [x] => Nat.beq x b
  | _ => false
end
def sets : List Value → FT → Nat → FT
  | [], t, _ => t
  | v :: vs, t, o => sets vs (T2.set t o v) (o + 1)
def FH.setNd (H : FH) (i : Nat) (d : Nd) : FH := ⟨H.n, T3.set H.t i d⟩
def FH.push (H : FH) (d : Nd) : FH := ⟨H.n + 1, T3.set H.t H.n d⟩
section
theorem ndE_eq (H : FH) (b : Nat) (nn : RC) (k : Nd → RC) : ndE H b nn k = if b < H.n then k (H.nd b) else nn := by
  unfold ndE FH.nd
  cases H with
  | mk n t =>
    simp only [show Nat.ble (Nat.add b 1) n = decide (b < n) from ble_if, g3B_eq]
    by_cases h : b < n <;> simp [h]
theorem ndK_eq (H : FH) (b : Nat) (k : Nd → RC) : ndK H b k = if b < H.n then k (H.nd b) else RC.no := ndE_eq H b RC.no k
theorem cellsK_or (H : FH) (b : Nat) (k : Nat → Bool → Nat → FT → RC) : cellsK H b k = RC.no ∨ ∃ fam own n t, b < H.n ∧ (H.nd b).x = .cells fam own n t ∧ cellsK H b k = k fam own n t := by
  unfold cellsK
  rw [ndK_eq]
  split
  · rename_i hb
    cases hd : H.nd b with
    | mk x mx ms =>
      cases x with
      | cells fam own n t => exact .inr ⟨fam, own, n, t, hb, rfl, rfl⟩
      | dead => exact .inl rfl
      | map es => exact .inl rfl
      | loop => exact .inl rfl
  · exact .inl rfl
theorem rowK_eq {t : FT} {n o m : Nat} (h : o + n ≤ m) (k : List Value → RC) : rowK t o n k = k (((toL m t).drop o).take n) := by
  induction n generalizing o k with
  | zero => rw [List.take_zero]; rfl
  | succ n ih =>
    have e : rowK t o (n + 1) k = (g2B o).run t fun v => fN (Nat.add o 1) fun o => rowK t o n fun l => k (v :: l) := rfl
    rw [e, g2B_eq, fN_eq]
    refine (ih (o := o + 1) (by omega) _).trans ?_
    have : (toL m t).drop o = T2.get t o :: (toL m t).drop (o + 1) := by
      rw [← List.getElem_cons_drop (by rw [toL_length]; omega)]
      congr 1
      have h1 := toL_get (n := m) (t := t) (i := o)
      rw [if_pos (by omega), List.getElem?_eq_getElem (by rw [toL_length]; omega)] at h1
      exact Option.some.inj h1
    rw [this]; rfl
theorem setsK_eq (vs : List Value) (t : FT) (o : Nat) (k : FT → RC) : setsK vs t o k = k (sets vs t o) := by
  induction vs generalizing t o with
  | nil => rfl
  | cons v vs ih =>
    have e : setsK (v :: vs) t o k = (s2B o).run t v fun t => fN (Nat.add o 1) fun o => setsK vs t o k := rfl
    rw [e, s2B_eq, fN_eq]
    exact ih _ _
theorem setNdK_eq (H : FH) (b : Nat) (d : Nd) (k : FH → RC) : setNdK H b d k = k (H.setNd b d) := by
  unfold setNdK FH.setNd; cases H; simp only [s3B_eq]
theorem pushK_or (H : FH) (f : Nat → Nd) (k : Nat → FH → RC) : pushK H f k = RC.no ∨ (H.n < 262144 ∧ pushK H f k = k H.n (H.push (f H.n))) := by
  unfold pushK FH.push
  cases H with
  | mk n t =>
    simp only
    cases h : Nat.ble 262144 n with
    | true => exact .inl rfl
    | false =>
      have h3 : n < 262144 := by { apply Nat.lt_of_not_le; intro h2; rw [Nat.ble_eq_true_of_le h2] at h; exact Bool.noConfusion h }
      refine .inr ⟨h3, ?_⟩
      simp only [s3B_eq, fN_eq]
end
theorem sets_toL {m : Nat} (hm : m ≤ 262144) : ∀ {vs : List Value} {t : FT} {o : Nat}, o + vs.length ≤ m → toL m (sets vs t o) = setList (toL m t) o vs := by
  intro vs
  induction vs with
  | nil => intro t o _; rfl
  | cons v vs ih =>
    intro t o h
    simp only [List.length_cons] at h
    show toL m (sets vs (T2.set t o v) (o + 1)) = setList ((toL m t).set o v) (o + 1) vs
    rw [ih (by omega)]
    congr 1
    apply List.ext_getElem?
    intro i
    rw [toL_get, List.getElem?_set, toL_get, toL_length]
    by_cases hi : i < m
    · rw [if_pos hi, T2.get_set _ _ (by omega) (by omega), if_pos hi]
      by_cases ho : o = i
      · rw [if_pos ho.symm, if_pos ho, if_pos (by omega)]
      · rw [if_neg (Ne.symm ho), if_neg ho]
    · rw [if_neg hi, if_neg hi]
      split
      · rw [if_neg (by omega)]
      · rfl
theorem setList_get' (vs : List Value) (cs : List Value) (o i : Nat) (h : o + vs.length ≤ cs.length) : (setList cs o vs)[i]? = if o ≤ i ∧ i < o + vs.length then vs[i - o]? else cs[i]? := setList_get vs cs o i h
/-- A list as a row. -/
def ofL (l : List Value) : FT := sets l blank 0
theorem toL_sets_new {n : Nat} {t : FT} {news : List Value} (h : n + news.length ≤ 262144) : toL (n + news.length) (sets news t n) = toL n t ++ news := by
  rw [sets_toL (by omega) (by omega)]
  apply List.ext_getElem?
  intro i
  rw [setList_get _ _ _ _ (by rw [toL_length]; omega), toL_get, List.getElem?_append, toL_length, toL_get]
  by_cases hi : i < n
  · rw [if_neg (by omega), if_pos (by omega), if_pos hi, if_pos hi]
  · rw [if_neg hi]
    by_cases h2 : i < n + news.length
    · rw [if_pos ⟨by omega, h2⟩]
    · rw [if_neg (by omega), if_neg h2, List.getElem?_eq_none (by omega)]
theorem ofL_toL {l : List Value} (h : l.length ≤ 262144) : toL l.length (ofL l) = l := by
  have := toL_sets_new (n := 0) (t := blank) (news := l) (by omega)
  rw [Nat.zero_add] at this
  exact this
theorem nd_setNd {H : FH} (hH : H.OK) {i : Nat} (hi : i < H.n) (d : Nd) {j : Nat} (hj : j < H.n) : (H.setNd i d).nd j = if j = i then d else H.nd j := by
  have := hH.le
  exact T3.get_set _ _ (by omega) (by omega)
theorem nd_push {H : FH} (hn : H.n < 262144) (d : Nd) {j : Nat} (hj : j < H.n + 1) : (H.push d).nd j = if j = H.n then d else H.nd j :=
  T3.get_set _ _ (by omega) (by omega)
theorem absH_setNd {H : FH} (hH : H.OK) {i : Nat} (hi : i < H.n) (d : Nd) : absH (H.setNd i d) = (absH H).set i (absB d.x) := by
  apply absH_eq
  · rw [List.length_set, absH_length]; rfl
  · intro j hj
    have hj : j < H.n := hj
    rw [nd_setNd hH hi d hj, List.getElem?_set, absH_length, absH_get, if_pos hj]
    by_cases h : i = j
    · rw [if_pos h, if_pos h.symm, if_pos hi]
    · rw [if_neg h, if_neg (Ne.symm h)]
theorem absH_push {H : FH} (hn : H.n < 262144) (d : Nd) : absH (H.push d) = absH H ++ [absB d.x] := by
  apply absH_eq
  · rw [List.length_append, absH_length]; rfl
  · intro j hj
    have hj : j < H.n + 1 := hj
    rw [nd_push hn d hj, List.getElem?_append, absH_length, absH_get]
    by_cases h : j = H.n
    · subst h; simp
    · rw [if_neg h, if_pos (by omega), if_pos (by omega)]
/-- A change of a block's kind that says nothing of families. -/
def noCells : FB → Prop
  | .cells _ _ _ _ => False
  | _ => True
theorem BOK.mono {H G : FH} (hn : H.n ≤ G.n) {i : Nat} {x : FB} (h : BOK H i x) (hf : ∀ f, f < H.n → (i ∈ (H.nd f).ms → i ∈ (G.nd f).ms) ∧ (H.nd f).mx ≤ (G.nd f).mx) : BOK G i x := by
  cases x with
  | cells fam own n t =>
    obtain ⟨h1, h2, h3, h4⟩ := h
    exact ⟨h1, by omega, fun h0 => (hf fam h2).1 (h3 h0), Nat.le_trans h4 (hf fam h2).2⟩
  | map kk es mt => exact h
  | _ => trivial
theorem OK_push {H : FH} (hH : H.OK) (hn : H.n < 262144) (d : Nd) (hd : BOK (H.push d) H.n d.x) : (H.push d).OK := by
  refine ⟨by show H.n + 1 ≤ 262144; omega, fun i hi => ?_⟩
  have hi : i < H.n + 1 := hi
  rw [nd_push hn d hi]
  by_cases h : i = H.n
  · rw [if_pos h, h]; exact hd
  · rw [if_neg h]
    refine (hH.ok i (by omega)).mono (by show H.n ≤ H.n + 1; omega) fun f hf => ?_
    rw [nd_push hn d (by omega), if_neg (by omega)]
    exact ⟨id, Nat.le_refl _⟩
theorem BOK_new {H : FH} (hn : H.n < 262144) {own : Bool} {n : Nat} {t : FT} (h : n ≤ 262144) : BOK (H.push ⟨.cells H.n own n t, n, [H.n]⟩) H.n (.cells H.n own n t) := by
  have e : (H.push ⟨.cells H.n own n t, n, [H.n]⟩).nd H.n = ⟨.cells H.n own n t, n, [H.n]⟩ := by rw [nd_push hn _ (by omega), if_pos rfl]
  refine ⟨h, by show H.n < H.n + 1; omega, fun _ => ?_, ?_⟩
  · rw [e]; simp
  · rw [e]; exact Nat.le_refl _
theorem OK_setNd {H : FH} (hH : H.OK) {i : Nat} (hi : i < H.n) (d : Nd) (hd : BOK (H.setNd i d) i d.x) (hms : ∀ j, j < H.n → j ≠ i → BOK (H.setNd i d) j (H.nd j).x) : (H.setNd i d).OK := by
  refine ⟨hH.le, fun j hj => ?_⟩
  have hj : j < H.n := hj
  rw [nd_setNd hH hi d hj]
  by_cases h : j = i
  · rw [if_pos h, h]; exact hd
  · rw [if_neg h]; exact hms j hj h
/-- A block is changed, what is known of its family stays. -/
theorem OK_setX {H : FH} (hH : H.OK) {i : Nat} (hi : i < H.n) (x : FB) (hx : BOK H i x) : (H.setNd i ⟨x, (H.nd i).mx, (H.nd i).ms⟩).OK := by
  have hk : ∀ f, f < H.n → ((H.setNd i ⟨x, (H.nd i).mx, (H.nd i).ms⟩).nd f).ms = (H.nd f).ms ∧ ((H.setNd i ⟨x, (H.nd i).mx, (H.nd i).ms⟩).nd f).mx = (H.nd f).mx := by
    intro f hf
    rw [nd_setNd hH hi _ hf]
    split
    · rename_i h; subst h; exact ⟨rfl, rfl⟩
    · exact ⟨rfl, rfl⟩
  have hm : ∀ f, f < H.n → ∀ j, (j ∈ (H.nd f).ms → j ∈ ((H.setNd i ⟨x, (H.nd i).mx, (H.nd i).ms⟩).nd f).ms) ∧ (H.nd f).mx ≤ ((H.setNd i ⟨x, (H.nd i).mx, (H.nd i).ms⟩).nd f).mx :=
    fun f hf j => by rw [(hk f hf).1, (hk f hf).2]; exact ⟨id, Nat.le_refl _⟩
  exact OK_setNd hH hi _ (BOK.mono (H := H) (G := H.setNd i ⟨x, (H.nd i).mx, (H.nd i).ms⟩) (Nat.le_refl H.n) hx fun f hf => hm f hf i) fun j hj _ => BOK.mono (H := H) (G := H.setNd i ⟨x, (H.nd i).mx, (H.nd i).ms⟩) (Nat.le_refl H.n) (hH.ok j hj) fun f hf => hm f hf j
end Go.Abs
