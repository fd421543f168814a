/- The fast evaluator's contracts: tables of lines; a line is seen by a run over its arguments alone. -/
import Derived.Test.YtmmgdgmjkhcfaaaFastO
namespace Go.Abs
section
variable {H : FH}
theorem plainsK_or : ∀ (l : List Value) (k : RC), plainsK l k = RC.no ∨ (l.all plain = true ∧ plainsK l k = k) := by
  intro l
  induction l with
  | nil => intro k; exact .inr ⟨rfl, rfl⟩
  | cons v vs ih =>
    intro k
    rcases ih k with h | ⟨h1, h2⟩
    · left
      cases v <;> first | exact h | rfl
    · cases v <;> first | exact .inl rfl | exact .inr ⟨by simp [plain, h1], h2⟩
theorem readArgK_or (v : Value) (k : Arg → RC) : readArgK H v k = RC.no ∨ ∃ a, readArg (absH H) v = some a ∧ readArgK H v k = k a := by
  cases v with
  | bool b => exact .inr ⟨_, rfl, rfl⟩
  | int kd z => exact .inr ⟨_, rfl, rfl⟩
  | string s => exact .inr ⟨_, rfl, rfl⟩
  | slice a n c =>
    cases a with
    | none =>
      show (bif Nat.beq n 0 && Nat.beq c 0 then k (.imm (.slice none n c)) else RC.no) = _ ∨ ∃ a, _ ∧ (bif Nat.beq n 0 && Nat.beq c 0 then k (.imm (.slice none n c)) else RC.no) = _
      cases hc : (Nat.beq n 0 && Nat.beq c 0) with
      | false => exact .inl rfl
      | true =>
        simp only [Bool.and_eq_true] at hc
        have h1 := Nat.eq_of_beq_eq_true hc.1
        have h2 := Nat.eq_of_beq_eq_true hc.2
        subst h1; subst h2
        exact .inr ⟨_, rfl, rfl⟩
    | some ad =>
      obtain ⟨b, o, s⟩ := ad
      cases s with
      | some p =>
        show (bif Nat.beq b 0 && (Nat.beq o 0 && Nat.beq n 0) then k (.imm (.slice (some ⟨b, o, some p⟩) n c)) else RC.no) = _ ∨ ∃ a, _ ∧ (bif Nat.beq b 0 && (Nat.beq o 0 && Nat.beq n 0) then k (.imm (.slice (some ⟨b, o, some p⟩) n c)) else RC.no) = _
        cases hc : (Nat.beq b 0 && (Nat.beq o 0 && Nat.beq n 0)) with
        | false => exact .inl rfl
        | true =>
          simp only [Bool.and_eq_true] at hc
          have h1 := Nat.eq_of_beq_eq_true hc.1
          have h2 := Nat.eq_of_beq_eq_true hc.2.1
          have h3 := Nat.eq_of_beq_eq_true hc.2.2
          subst h1; subst h2; subst h3
          exact .inr ⟨_, rfl, rfl⟩
      | none =>
        let K : RC := bif Nat.beq c 1 then cellsK H b fun _ _ m t => bif Nat.ble (Nat.add o n) m then
          fN (Nat.sub m o) fun q => rowK t o q fun l => plainsK l (bif Nat.beq q n then k (.li l) else takeK n l fun l => k (.li l)) else RC.no else RC.no
        show K = _ ∨ ∃ a, _ ∧ K = _
        cases hc : Nat.beq c 1 with
        | false => left; show K = _; simp only [K, hc, cond_false]
        | true =>
          have hc1 := Nat.eq_of_beq_eq_true hc
          subst hc1
          have hK : K = cellsK H b fun _ _ m t => bif Nat.ble (Nat.add o n) m then
            fN (Nat.sub m o) fun q => rowK t o q fun l => plainsK l (bif Nat.beq q n then k (.li l) else takeK n l fun l => k (.li l)) else RC.no := by simp only [K, hc, cond_true]
          rw [hK]
          rcases cellsK_or H b (fun _ _ m t => bif Nat.ble (Nat.add o n) m then
            fN (Nat.sub m o) fun q => rowK t o q fun l => plainsK l (bif Nat.beq q n then k (.li l) else takeK n l fun l => k (.li l)) else RC.no) with h | ⟨fam, own, m, t, hb, hx, h⟩
          · exact .inl h
          rw [h]
          cases hle : Nat.ble (Nat.add o n) m with
          | false => exact .inl rfl
          | true =>
            have hle : o + n ≤ m := Nat.le_of_ble_eq_true hle
            simp only [cond_true, fN_eq]
            rw [rowK_eq (t := t) (o := o) (n := Nat.sub m o) (m := m) (by show o + (m - o) ≤ m; omega)]
            have hdr : ((toL m t).drop o).take (Nat.sub m o) = (toL m t).drop o := List.take_of_length_le (by rw [List.length_drop, toL_length]; exact Nat.le_refl _)
            rw [hdr]
            rcases plainsK_or ((toL m t).drop o) (bif Nat.beq (Nat.sub m o) n then k (.li ((toL m t).drop o)) else takeK n ((toL m t).drop o) fun l => k (.li l)) with h | ⟨h1, h2⟩
            · exact .inl h
            rw [h2]
            right
            refine ⟨.li (((toL m t).drop o).take n), ?_, ?_⟩
            · unfold readArg
              simp only [cells_abs hb hx, toL_length]
              rw [if_pos ⟨hle, h1⟩]
            · cases hq : Nat.beq (Nat.sub m o) n with
              | true =>
                have hq : m - o = n := Nat.eq_of_beq_eq_true hq
                simp only [cond_true]
                rw [List.take_of_length_le (by rw [List.length_drop, toL_length]; omega)]
              | false => simp only [cond_false]; rw [takeK_eq]
  | _ => exact .inl rfl
theorem readArgsK_or : ∀ (l : List Value) (k : List Arg → RC), readArgsK H l k = RC.no ∨ ∃ as, mapO (readArg (absH H)) l = some as ∧ readArgsK H l k = k as := by
  intro l
  induction l with
  | nil => intro k; exact .inr ⟨[], rfl, rfl⟩
  | cons v vs ih =>
    intro k
    have e : readArgsK H (v :: vs) k = readArgK H v fun a => readArgsK H vs fun as => k (a :: as) := rfl
    rw [e]
    rcases readArgK_or v (fun a => readArgsK H vs fun as => k (a :: as)) with h | ⟨a, h1, h⟩
    · exact .inl h
    rw [h]
    rcases ih (fun as => k (a :: as)) with h | ⟨as, h2, h⟩
    · exact .inl h
    · exact .inr ⟨a :: as, by unfold mapO; rw [h1, h2], h⟩
end
section
variable {H : FH} (d : Nat)
theorem renSK_or (v : Value) (k : Value → RC) : renSK d v k = RC.no ∨ ∃ u, renS (fun b => some (b + d)) v = some u ∧ renSK d v k = k u := by
  cases v with
  | bool b => exact .inr ⟨_, rfl, rfl⟩
  | int kd z => exact .inr ⟨_, rfl, rfl⟩
  | string s => exact .inr ⟨_, rfl, rfl⟩
  | slice a n c =>
    cases a with
    | none =>
      show (bif Nat.beq n 0 && Nat.beq c 0 then k (.slice none n c) else RC.no) = _ ∨ ∃ a, _ ∧ (bif Nat.beq n 0 && Nat.beq c 0 then k (.slice none n c) else RC.no) = _
      cases hc : (Nat.beq n 0 && Nat.beq c 0) with
      | false => exact .inl rfl
      | true =>
        simp only [Bool.and_eq_true] at hc
        have h1 := Nat.eq_of_beq_eq_true hc.1
        have h2 := Nat.eq_of_beq_eq_true hc.2
        subst h1; subst h2
        exact .inr ⟨_, rfl, rfl⟩
    | some ad =>
      obtain ⟨b, o, s⟩ := ad
      cases s with
      | some p =>
        show (bif Nat.beq b 0 && (Nat.beq o 0 && Nat.beq n 0) then k (.slice (some ⟨b, o, some p⟩) n c) else RC.no) = _ ∨ ∃ a, _ ∧ (bif Nat.beq b 0 && (Nat.beq o 0 && Nat.beq n 0) then k (.slice (some ⟨b, o, some p⟩) n c) else RC.no) = _
        cases hc : (Nat.beq b 0 && (Nat.beq o 0 && Nat.beq n 0)) with
        | false => exact .inl rfl
        | true =>
          simp only [Bool.and_eq_true] at hc
          have h1 := Nat.eq_of_beq_eq_true hc.1
          have h2 := Nat.eq_of_beq_eq_true hc.2.1
          have h3 := Nat.eq_of_beq_eq_true hc.2.2
          subst h1; subst h2; subst h3
          exact .inr ⟨_, rfl, rfl⟩
      | none => exact .inr ⟨.slice (some ⟨b + d, o, none⟩) n c, rfl, rfl⟩
  | _ => exact .inl rfl
theorem renSsK_or : ∀ (l : List Value) (k : List Value → RC), renSsK d l k = RC.no ∨ ∃ u, mapO (renS fun b => some (b + d)) l = some u ∧ renSsK d l k = k u := by
  intro l
  induction l with
  | nil => intro k; exact .inr ⟨[], rfl, rfl⟩
  | cons v vs ih =>
    intro k
    have e : renSsK d (v :: vs) k = renSK d v fun a => renSsK d vs fun as => k (a :: as) := rfl
    rw [e]
    rcases renSK_or d v (fun a => renSsK d vs fun as => k (a :: as)) with h | ⟨a, h1, h⟩
    · exact .inl h
    rw [h]
    rcases ih (fun as => k (a :: as)) with h | ⟨as, h2, h⟩
    · exact .inl h
    · exact .inr ⟨a :: as, by unfold mapO; rw [h1, h2], h⟩
theorem renAK_or (v : Value) (k : Value → RC) : renAK d v k = RC.no ∨ ∃ u, renA (fun b => some (b + d)) v = some u ∧ renAK d v k = k u := by
  have other : (∀ cs, v ≠ .agg cs) → renAK d v k = renSK d v k ∧ renA (fun b => some (b + d)) v = renS (fun b => some (b + d)) v := by
    intro h
    cases v <;> first | exact ⟨rfl, rfl⟩ | exact absurd rfl (h _)
  cases v with
  | agg cs =>
    have e : renAK d (.agg cs) k = renSsK d cs.toList fun l => k (.agg ⟨l⟩) := rfl
    rw [e]
    rcases renSsK_or d cs.toList (fun l => k (.agg ⟨l⟩)) with h | ⟨l, h1, h2⟩
    · exact .inl h
    · exact .inr ⟨_, by simp only [renA, h1, Option.map_some], h2⟩
  | _ => rw [(other (by intro cs h; cases h)).1, (other (by intro cs h; cases h)).2]; exact renSK_or d _ k
theorem renAsK_or : ∀ (l : List Value) (k : List Value → RC), renAsK d l k = RC.no ∨ ∃ u, mapO (renA fun b => some (b + d)) l = some u ∧ renAsK d l k = k u := by
  intro l
  induction l with
  | nil => intro k; exact .inr ⟨[], rfl, rfl⟩
  | cons v vs ih =>
    intro k
    have e : renAsK d (v :: vs) k = renAK d v fun a => renAsK d vs fun as => k (a :: as) := rfl
    rw [e]
    rcases renAK_or d v (fun a => renAsK d vs fun as => k (a :: as)) with h | ⟨a, h1, h⟩
    · exact .inl h
    rw [h]
    rcases ih (fun as => k (a :: as)) with h | ⟨as, h2, h⟩
    · exact .inl h
    · exact .inr ⟨a :: as, by unfold mapO; rw [h1, h2], h⟩
theorem renVK_or (v : Value) (k : Value → RC) : renVK d v k = RC.no ∨ ∃ u, renV (fun b => some (b + d)) v = some u ∧ renVK d v k = k u := by
  have other : (∀ cs, v ≠ .tuple cs) → renVK d v k = renAK d v k ∧ renV (fun b => some (b + d)) v = renA (fun b => some (b + d)) v := by
    intro h
    cases v <;> first | exact ⟨rfl, rfl⟩ | exact absurd rfl (h _)
  cases v with
  | tuple cs =>
    have e : renVK d (.tuple cs) k = renAsK d cs.toList fun l => k (.tuple ⟨l⟩) := rfl
    rw [e]
    rcases renAsK_or d cs.toList (fun l => k (.tuple ⟨l⟩)) with h | ⟨l, h1, h2⟩
    · exact .inl h
    · exact .inr ⟨_, by simp only [renV, h1, Option.map_some], h2⟩
  | _ => rw [(other (by intro cs h; cases h)).1, (other (by intro cs h; cases h)).2]; exact renAK_or d _ k
theorem lenK_eq (l : List Value) (k : Nat → RC) : lenK l k = k l.length := by
  have aux : ∀ (l : List Value) (n : Nat), (List.rec (motive := fun _ => Nat → RC) (fun n => k n) (fun _ _ ih n => fN (Nat.add n 1) ih) l n : RC) = k (n + l.length) := by
    intro l
    induction l with
    | nil => intro n; rfl
    | cons x xs ih =>
      intro n
      refine (ih (n + 1)).trans ?_
      rw [List.length_cons]
      congr 1
      omega
  refine (aux l 0).trans ?_
  rw [Nat.zero_add]
theorem blksK_or : ∀ (bs : List (List Value)) (H : FH) (k : FH → RC), H.OK → blksK d bs H k = RC.no ∨ ∃ H' l, H'.OK ∧ mkBlks d H.n bs = some l ∧ absH H' = absH H ++ l ∧ blksK d bs H k = k H' := by
  intro bs
  induction bs with
  | nil => intro H k hH; exact .inr ⟨H, [], hH, rfl, by simp, rfl⟩
  | cons cs bs ih =>
    intro H k hH
    have e : blksK d (cs :: bs) H k = renSsK d cs fun cs => lenK cs fun m => newK H cs m fun _ H => blksK d bs H k := rfl
    rw [e]
    rcases renSsK_or d cs (fun cs => lenK cs fun m => newK H cs m fun _ H => blksK d bs H k) with h | ⟨u, h1, h⟩
    · exact .inl h
    rw [h, lenK_eq]
    rcases newK_or hH u u.length rfl (fun _ H => blksK d bs H k) with h | ⟨H1, _, g1, g2, g3⟩
    · exact .inl h
    rw [g3]
    rcases ih H1 k g1 with h | ⟨H', l, f1, f2, f3, f4⟩
    · exact .inl h
    · have hn : H1.n = H.n + 1 := by
        have := congrArg List.length g2
        simpa [absH_length] using this
      rw [hn] at f2
      refine .inr ⟨H', .cells H.n true u :: l, f1, by unfold mkBlks; rw [h1, f2], ?_, f4⟩
      rw [f3, g2, absH_length]
      simp
end
/-- Of a table: where it speaks. -/
def Spec.Ok (sp : Spec) : Prop := ∀ f as, sp.has.testBit f = false → sp.get f as = none
theorem tabF_sound {sp : Spec} (hs : sp.Ok) : BaseSound (tabF sp) (tabC sp.get) := by
  have key : ∀ fv args H, H.OK → tabF sp fv args H = RC.no ∨ (tabF sp fv args H = .skip ∧ tabC sp.get fv args (absH H) = none) ∨ ∃ v H', H'.OK ∧ tabF sp fv args H = .val v H' ∧ tabC sp.get fv args (absH H) = some (v, absH H') := by
    intro fv args H hH
    have skip : (∀ f a c, fv ≠ .func (.func f) a c) → tabF sp fv args H = .skip ∧ tabC sp.get fv args (absH H) = none := by
      intro h
      unfold tabF tabC
      constructor
      · split
        · exact absurd rfl (h _ _ _)
        · rfl
      · split
        · exact absurd rfl (h _ _ _)
        · rfl
    by_cases hfv : ∃ f a c, fv = .func (.func f) a c
    · obtain ⟨f, first, captured, rfl⟩ := hfv
      unfold tabF
      simp only
      cases hb : Nat.testBit sp.has f with
      | false =>
        right; left
        refine ⟨rfl, ?_⟩
        unfold tabC
        simp only [hs f _ hb]
        split
        · split <;> rfl
        · rfl
      | true =>
        simp only [cond_true]
        cases hf : (first.isEmpty && captured.isEmpty) with
        | false => exact .inl rfl
        | true =>
          simp only [cond_true]
          rcases readArgsK_or (H := H) args (fun as => Option.rec RC.skip (fun r => Prod.rec (fun v bs => FH.rec (fun d _ => renVK d v fun v => blksK d bs H fun H' => .val v H') H) r) (sp.get f as)) with h | ⟨as, h1, h⟩
          · exact .inl h
          rw [h]
          cases hsp : sp.get f as with
          | none =>
            right; left
            refine ⟨rfl, ?_⟩
            unfold tabC
            simp only [hf, if_true, h1, hsp]
          | some r =>
            obtain ⟨v, bs⟩ := r
            have e : (Option.rec RC.skip (fun r => Prod.rec (fun v bs => FH.rec (fun d _ => renVK d v fun v => blksK d bs H fun H' => .val v H') H) r) (some (v, bs)) : RC) = renVK H.n v fun v => blksK H.n bs H fun H' => .val v H' := by cases H; rfl
            rw [e]
            rcases renVK_or H.n v (fun v => blksK H.n bs H fun H' => .val v H') with h | ⟨u, h2, h⟩
            · exact .inl h
            rw [h]
            rcases blksK_or H.n bs H (fun H' => .val u H') hH with h | ⟨H', l, f1, f2, f3, f4⟩
            · exact .inl h
            · right; right
              refine ⟨u, H', f1, f4, ?_⟩
              unfold tabC
              simp only [hf, if_true, h1, hsp, absH_length, h2, f2, f3]
    · exact .inr (.inl (skip fun f a c h => hfv ⟨f, a, c, h⟩))
  constructor
  · intro fv args H v H' hH h
    rcases key fv args H hH with e | ⟨e, _⟩ | ⟨v2, H2, o, e, e2⟩
    · rw [e] at h; cases h
    · rw [e] at h; cases h
    · rw [e] at h; cases h; exact ⟨o, e2⟩
  · intro fv args H hH h
    rcases key fv args H hH with e | ⟨e, e2⟩ | ⟨v2, H2, o, e, _⟩
    · rw [e] at h; cases h
    · exact e2
    · rw [e] at h; cases h
theorem startR_or : ∀ (as : List Arg) (H : FH) (k : List Value → FH → RC), H.OK → startR as H k = RC.no ∨ ∃ H', H'.OK ∧ absH H' = absH H ++ mkHeap H.n as ∧ startR as H k = k (mkVals H.n as) H' := by
  intro as
  induction as with
  | nil => intro H k hH; exact .inr ⟨H, hH, by simp [mkHeap], rfl⟩
  | cons a as ih =>
    intro H k hH
    cases a with
    | imm v => exact ih H (fun vs H => k (v :: vs) H) hH
    | li l =>
      have e : startR (.li l :: as) H k = lenK l fun m => setsK l blank 0 fun t => bif Nat.ble m 262144 then pushK H (fun i => ⟨.cells i false m t, m, [i]⟩) fun i H => startR as H fun vs H => k (.slice (some ⟨i, 0, none⟩) m 1 :: vs) H else RC.no := rfl
      rw [e, lenK_eq, setsK_eq]
      cases hc : Nat.ble l.length 262144 with
      | false => exact .inl rfl
      | true =>
        have h4 := Nat.le_of_ble_eq_true hc
        simp only [cond_true]
        rcases pushK_or H (fun i => (⟨.cells i false l.length (sets l blank 0), l.length, [i]⟩ : Nd)) (fun i H => startR as H fun vs H => k (.slice (some ⟨i, 0, none⟩) l.length 1 :: vs) H) with h | ⟨hlt, h⟩
        · exact .inl h
        have hok := OK_push hH hlt (⟨.cells H.n false l.length (sets l blank 0), l.length, [H.n]⟩ : Nd) (BOK_new hlt h4)
        have habs := absH_push hlt (⟨.cells H.n false l.length (sets l blank 0), l.length, [H.n]⟩ : Nd)
        rcases ih (H.push ⟨.cells H.n false l.length (sets l blank 0), l.length, [H.n]⟩) (fun vs H' => k (.slice (some ⟨H.n, 0, none⟩) l.length 1 :: vs) H') hok with h2 | ⟨H', e1, e2, e3⟩
        · exact .inl (h.trans h2)
        · refine .inr ⟨H', e1, ?_, h.trans e3⟩
          rw [e2, habs]
          simp only [absB]
          have := ofL_toL (l := l) (by omega)
          rw [show sets l blank 0 = ofL l from rfl, this]
          show _ = absH H ++ (.cells H.n false l :: mkHeap (H.n + 1) as)
          simp
          rfl
theorem dead_OK : (⟨0, deadT⟩ : FH).OK := ⟨by show 0 ≤ 262144; omega, fun i h => absurd h (Nat.not_lt_zero i)⟩
/- An answer matched against a line. -/
/-- Block b is to be number j. -/
noncomputable def numK (b j : Nat) (A : TR Nat) (m : Nat) (k : TR Nat → Nat → RC) : RC :=
  Bool.rec (Bool.rec RC.no ((tvS 0 m).run A b fun A => fN (Nat.add m 1) fun m => k A m) (Bool.rec false (Nat.ble (Nat.add m 1) 262144) (Nat.beq j m))) ((tvG 0 j).run A fun b2 => Bool.rec RC.no (k A m) (Nat.beq b b2)) (Nat.ble (Nat.add j 1) m)
noncomputable def addrM (a a2 : Option Addr) (n c : Nat) (A : TR Nat) (m : Nat) (k : TR Nat → Nat → RC) : RC :=
  Option.rec (Option.rec (Bool.rec RC.no (k A m) (Bool.rec false (Nat.beq c 0) (Nat.beq n 0))) (fun _ => RC.no) a2)
    (fun ad => Option.rec RC.no (fun ad2 => Addr.rec (fun b o s => Addr.rec (fun b2 o2 s2 => Option.rec (Option.rec (Bool.rec RC.no (fN b2 fun b2 => numK b b2 A m k) (Nat.beq o o2)) (fun _ => RC.no) s2)
      (fun p => Option.rec RC.no (fun p2 => Bool.rec RC.no (k A m) (Nat.beq p p2 && (Nat.beq b 0 && (Nat.beq o 0 && (Nat.beq b2 0 && (Nat.beq o2 0 && Nat.beq n 0)))))) s2) s) ad2) ad) a2) a
noncomputable def matchS : Value → Value → TR Nat → Nat → (TR Nat → Nat → RC) → RC := Value.rec (motive_1 := fun _ => Value → TR Nat → Nat → (TR Nat → Nat → RC) → RC) (motive_2 := fun _ => Value → TR Nat → Nat → (TR Nat → Nat → RC) → RC) (motive_3 := fun _ => Value → TR Nat → Nat → (TR Nat → Nat → RC) → RC) (fun b => Value.rec (motive_1 := fun _ => TR Nat → Nat → (TR Nat → Nat → RC) → RC) (motive_2 := fun _ => TR Nat → Nat → (TR Nat → Nat → RC) → RC) (motive_3 := fun _ => TR Nat → Nat → (TR Nat → Nat → RC) → RC) (fun b2 A m k => Bool.rec RC.no (k A m) (Bool.rec (Bool.not b2) b2 b)) (fun _ _ => (fun _ _ _ => RC.no)) (fun _ _ => (fun _ _ _ => RC.no)) (fun _ _ _ => (fun _ _ _ => RC.no)) (fun _ => (fun _ _ _ => RC.no)) (fun _ => (fun _ _ _ => RC.no)) (fun _ _ _ => (fun _ _ _ => RC.no)) (fun _ => (fun _ _ _ => RC.no)) (fun _ => (fun _ _ _ => RC.no)) (fun _ _ _ _ _ => (fun _ _ _ => RC.no)) (fun _ _ _ => RC.no) (fun _ _ _ => (fun _ _ _ => RC.no)) (fun _ _ _ => RC.no) (fun _ _ => (fun _ _ _ => RC.no)) (fun _ _ => (fun _ _ _ => RC.no)) (fun _ _ => (fun _ _ _ => RC.no)) (fun _ _ _ => RC.no) (fun _ _ _ _ => (fun _ _ _ => RC.no))) (fun kd z => Value.rec (motive_1 := fun _ => TR Nat → Nat → (TR Nat → Nat → RC) → RC) (motive_2 := fun _ => TR Nat → Nat → (TR Nat → Nat → RC) → RC) (motive_3 := fun _ => TR Nat → Nat → (TR Nat → Nat → RC) → RC) (fun _ => (fun _ _ _ => RC.no)) (fun kd2 z2 A m k => Bool.rec RC.no (k A m) (Bool.rec false (beqZ z z2) (Nat.beq (ikNo kd) (ikNo kd2)))) (fun _ _ => (fun _ _ _ => RC.no)) (fun _ _ _ => (fun _ _ _ => RC.no)) (fun _ => (fun _ _ _ => RC.no)) (fun _ => (fun _ _ _ => RC.no)) (fun _ _ _ => (fun _ _ _ => RC.no)) (fun _ => (fun _ _ _ => RC.no)) (fun _ => (fun _ _ _ => RC.no)) (fun _ _ _ _ _ => (fun _ _ _ => RC.no)) (fun _ _ _ => RC.no) (fun _ _ _ => (fun _ _ _ => RC.no)) (fun _ _ _ => RC.no) (fun _ _ => (fun _ _ _ => RC.no)) (fun _ _ => (fun _ _ _ => RC.no)) (fun _ _ => (fun _ _ _ => RC.no)) (fun _ _ _ => RC.no) (fun _ _ _ _ => (fun _ _ _ => RC.no))) (fun _ _ => (fun _ _ _ _ => RC.no)) (fun _ _ _ => (fun _ _ _ _ => RC.no)) (fun s => Value.rec (motive_1 := fun _ => TR Nat → Nat → (TR Nat → Nat → RC) → RC) (motive_2 := fun _ => TR Nat → Nat → (TR Nat → Nat → RC) → RC) (motive_3 := fun _ => TR Nat → Nat → (TR Nat → Nat → RC) → RC) (fun _ => (fun _ _ _ => RC.no)) (fun _ _ => (fun _ _ _ => RC.no)) (fun _ _ => (fun _ _ _ => RC.no)) (fun _ _ _ => (fun _ _ _ => RC.no)) (fun s2 A m k => Bool.rec RC.no (k A m) (sEq (.string s) (.string s2))) (fun _ => (fun _ _ _ => RC.no)) (fun _ _ _ => (fun _ _ _ => RC.no)) (fun _ => (fun _ _ _ => RC.no)) (fun _ => (fun _ _ _ => RC.no)) (fun _ _ _ _ _ => (fun _ _ _ => RC.no)) (fun _ _ _ => RC.no) (fun _ _ _ => (fun _ _ _ => RC.no)) (fun _ _ _ => RC.no) (fun _ _ => (fun _ _ _ => RC.no)) (fun _ _ => (fun _ _ _ => RC.no)) (fun _ _ => (fun _ _ _ => RC.no)) (fun _ _ _ => RC.no) (fun _ _ _ _ => (fun _ _ _ => RC.no))) (fun _ => (fun _ _ _ _ => RC.no)) (fun a n c => Value.rec (motive_1 := fun _ => TR Nat → Nat → (TR Nat → Nat → RC) → RC) (motive_2 := fun _ => TR Nat → Nat → (TR Nat → Nat → RC) → RC) (motive_3 := fun _ => TR Nat → Nat → (TR Nat → Nat → RC) → RC) (fun _ => (fun _ _ _ => RC.no)) (fun _ _ => (fun _ _ _ => RC.no)) (fun _ _ => (fun _ _ _ => RC.no)) (fun _ _ _ => (fun _ _ _ => RC.no)) (fun _ => (fun _ _ _ => RC.no)) (fun _ => (fun _ _ _ => RC.no)) (fun a2 n2 c2 A m k => Bool.rec RC.no (addrM a a2 n c A m k) (Bool.rec false (Nat.beq c c2) (Nat.beq n n2))) (fun _ => (fun _ _ _ => RC.no)) (fun _ => (fun _ _ _ => RC.no)) (fun _ _ _ _ _ => (fun _ _ _ => RC.no)) (fun _ _ _ => RC.no) (fun _ _ _ => (fun _ _ _ => RC.no)) (fun _ _ _ => RC.no) (fun _ _ => (fun _ _ _ => RC.no)) (fun _ _ => (fun _ _ _ => RC.no)) (fun _ _ => (fun _ _ _ => RC.no)) (fun _ _ _ => RC.no) (fun _ _ _ _ => (fun _ _ _ => RC.no))) (fun _ => (fun _ _ _ _ => RC.no)) (fun _ => (fun _ _ _ _ => RC.no)) (fun _ _ _ _ _ => (fun _ _ _ _ => RC.no)) (fun _ _ _ _ => RC.no) (fun _ _ _ => (fun _ _ _ _ => RC.no)) (fun _ _ _ _ => RC.no) (fun _ _ => (fun _ _ _ _ => RC.no)) (fun _ _ => (fun _ _ _ _ => RC.no)) (fun _ _ => (fun _ _ _ _ => RC.no)) (fun _ _ _ _ => RC.no) (fun _ _ _ _ => (fun _ _ _ _ => RC.no))
end Go.Abs
