/- The fast evaluator's operations are the abstract ones: keys, maps, texts, builtins; one operation. -/
import Derived.Test.YtmmgdgmjkhcfaaaFastJ
namespace Go.Abs
theorem codeBs_snoc (l : List UInt8) (b : UInt8) : ∀ a, codeBs (l ++ [b]) a = codeBs l a * 256 + b.toNat := by
  induction l with
  | nil => intro a; rfl
  | cons x xs ih => intro a; exact ih _
theorem codeBs_pos (l : List UInt8) : ∀ a, 1 ≤ a → 1 ≤ codeBs l a := by
  induction l with
  | nil => intro a h; exact h
  | cons x xs ih => intro a h; exact ih _ (by omega)
theorem snoc_cases (l : List UInt8) : l = [] ∨ ∃ m b, l = m ++ [b] := by
  rcases List.eq_nil_or_concat l with h | ⟨m, b, h⟩
  · exact .inl h
  · exact .inr ⟨m, b, by rw [h, List.concat_eq_append]⟩
theorem codeBs_inj : ∀ (n : Nat) (l m : List UInt8), l.length ≤ n → codeBs l 1 = codeBs m 1 → l = m := by
  intro n
  induction n with
  | zero =>
    intro l m h e
    have : l = [] := List.length_eq_zero_iff.1 (by omega)
    subst this
    rcases snoc_cases m with h | ⟨m', b, h⟩
    · exact h.symm
    · subst h
      rw [codeBs_snoc] at e
      have := codeBs_pos m' 1 (Nat.le_refl _)
      have e1 : codeBs [] 1 = 1 := rfl
      omega
  | succ n ih =>
    intro l m h e
    rcases snoc_cases l with hl | ⟨l', a, hl⟩
    · subst hl
      rcases snoc_cases m with h | ⟨m', b, h⟩
      · exact h.symm
      · subst h
        rw [codeBs_snoc] at e
        have := codeBs_pos m' 1 (Nat.le_refl _)
        have e1 : codeBs [] 1 = 1 := rfl
        omega
    · subst hl
      rw [codeBs_snoc] at e
      rcases snoc_cases m with hm | ⟨m', b, hm⟩
      · subst hm
        have := codeBs_pos l' 1 (Nat.le_refl _)
        have e1 : codeBs [] 1 = 1 := rfl
        omega
      · subst hm
        rw [codeBs_snoc] at e
        have ha := UInt8.toNat_lt a
        have hb := UInt8.toNat_lt b
        have h1 : codeBs l' 1 = codeBs m' 1 := by omega
        have h2 : a = b := by apply UInt8.toNat_inj.1; omega
        rw [ih l' m' (by simp at h; omega) h1, h2]
theorem ikNo_inj {a b : IntKind} (h : ikNo a = ikNo b) : a = b := by cases a <;> cases b <;> first | rfl | (simp [ikNo] at h)
theorem ikNo_ge (a : IntKind) : 3 ≤ ikNo a := by cases a <;> simp [ikNo]
theorem sameKey_code {a b : Value} (h : keyTag a = keyTag b) (h0 : keyTag a ≠ 0) : sameKey a b = decide (codeK' a = codeK' b) := by
  rw [Bool.eq_iff_iff, decide_eq_true_iff]
  cases a with
  | string s =>
    cases b with
    | string t =>
      show (s == t) = true ↔ _
      rw [ba_beq]
      constructor
      · rintro rfl; rfl
      · intro e
        have := codeBs_inj _ _ _ (Nat.le_refl _) e
        cases s with | mk s => cases t with | mk t => cases s with | mk s => cases t with | mk t => simp at this; rw [this]
    | bool t => simp [keyTag] at h
    | int k z => have := ikNo_ge k; simp only [keyTag] at h; omega
    | _ => simp [keyTag] at h
  | bool s =>
    cases b with
    | bool t => cases s <;> cases t <;> simp [sameKey, codeK']
    | string t => simp [keyTag] at h
    | int k z => have := ikNo_ge k; simp only [keyTag] at h; omega
    | _ => simp [keyTag] at h
  | int k z =>
    cases b with
    | int l y =>
      have := ikNo_inj h
      subst this
      show (k == k && z == y) = true ↔ _
      simp only [beq_self_eq_true, Bool.true_and, beq_iff_eq]
      cases z <;> cases y <;> simp [codeK'] <;> omega
    | bool t => have := ikNo_ge k; simp only [keyTag] at h; omega
    | string t => have := ikNo_ge k; simp only [keyTag] at h; omega
    | _ => have := ikNo_ge k; simp only [keyTag] at h; omega
  | _ => simp [keyTag] at h0
theorem keyKind_tag {kd : TypeDesc} {v : Value} (h : kdTag kd = keyTag v) (h0 : keyTag v ≠ 0) : keyKind kd v = true := by
  cases v with
  | string s => cases kd <;> first | rfl | (rename_i k; have := ikNo_ge k; simp only [keyTag, kdTag] at h; omega) | (simp [keyTag, kdTag] at h)
  | bool s => cases kd <;> first | rfl | (rename_i k; have := ikNo_ge k; simp only [keyTag, kdTag] at h; omega) | (simp [keyTag, kdTag] at h)
  | int k z =>
    have hk := ikNo_ge k
    cases kd with
    | int l => have := ikNo_inj h; subst this; simp [keyKind]
    | _ => simp only [keyTag, kdTag] at h; omega
  | _ => simp [keyTag] at h0
theorem findA_setA {kk : Nat} (h0 : kk ≠ 0) {k k' v : Value} (hk : keyTag k = kk) (hk' : keyTag k' = kk) : ∀ (es : List (Value × Value)), (∀ e ∈ es, keyTag e.1 = kk) → findA k' (setA k v es) = if codeK' k' = codeK' k then some v else findA k' es := by
  have hs : ∀ {a b : Value}, keyTag a = kk → keyTag b = kk → sameKey a b = decide (codeK' a = codeK' b) := fun ha hb => sameKey_code (by rw [ha, hb]) (by rw [ha]; exact h0)
  intro es
  induction es with
  | nil =>
    intro _
    simp only [setA, findA, hs hk' hk]
    by_cases h : codeK' k' = codeK' k <;> simp [h]
  | cons e es ih =>
    intro he
    obtain ⟨q, u⟩ := e
    have hq : keyTag q = kk := he _ (List.mem_cons_self ..)
    have ih := ih fun e h => he e (List.mem_cons_of_mem _ h)
    unfold setA
    rw [hs hk hq]
    by_cases h1 : codeK' k = codeK' q
    · simp only [h1, decide_true, if_true]
      simp only [findA, hs hk' hk, hs hk' hq, h1]
      by_cases h2 : codeK' k' = codeK' q <;> simp [h2]
    · simp only [h1, decide_false, Bool.false_eq_true, if_false]
      simp only [findA, hs hk' hq, ih]
      by_cases h2 : codeK' k' = codeK' q
      · have : ¬ codeK' k' = codeK' k := by rw [h2]; exact Ne.symm h1
        simp [h2, Ne.symm h1]
      · simp [h2]
theorem setA_tags {kk : Nat} {k v : Value} (hk : keyTag k = kk) : ∀ (es : List (Value × Value)), (∀ e ∈ es, keyTag e.1 = kk) → ∀ e ∈ setA k v es, keyTag e.1 = kk := by
  intro es
  induction es with
  | nil => intro _ e h; simp [setA] at h; subst h; exact hk
  | cons p es ih =>
    intro he e h
    obtain ⟨q, u⟩ := p
    unfold setA at h
    split at h
    · rcases List.mem_cons.1 h with h | h
      · subst h; exact hk
      · exact he e (List.mem_cons_of_mem _ h)
    · rcases List.mem_cons.1 h with h | h
      · subst h; exact he _ (List.mem_cons_self ..)
      · exact ih (fun e h => he e (List.mem_cons_of_mem _ h)) e h
theorem codeBsK_eq : ∀ (l : List UInt8) (a : Nat) (k : Nat → RC), codeBsK l a k = k (codeBs l a) := by
  intro l
  induction l with
  | nil => intro a k; rfl
  | cons b bs ih => intro a k; exact ih _ _
theorem codeK_or (kk : Nat) (v : Value) (k : Nat → RC) : codeK kk v k = RC.no ∨ (keyTag v = kk ∧ codeK kk v k = k (codeK' v)) := by
  cases v with
  | string s =>
    show (bif Nat.beq kk 1 then codeBsK s.data.toList 1 fun n => fN n k else RC.no) = _ ∨ _ ∧ (bif Nat.beq kk 1 then codeBsK s.data.toList 1 fun n => fN n k else RC.no) = _
    cases h : Nat.beq kk 1 with
    | false => exact .inl rfl
    | true => exact .inr ⟨(Nat.eq_of_beq_eq_true h).symm, by simp only [cond_true, codeBsK_eq, fN_eq]; rfl⟩
  | bool b =>
    show (bif Nat.beq kk 2 then Bool.rec (k 0) (k 1) b else RC.no) = _ ∨ _ ∧ (bif Nat.beq kk 2 then (Bool.rec (k 0) (k 1) b : RC) else RC.no) = _
    cases h : Nat.beq kk 2 with
    | false => exact .inl rfl
    | true => exact .inr ⟨(Nat.eq_of_beq_eq_true h).symm, by cases b <;> rfl⟩
  | int ik z =>
    show (bif Nat.beq kk (ikNo ik) then Int.rec (fun n => fN (Nat.mul 2 n) k) (fun n => fN (Nat.add (Nat.mul 2 n) 1) k) z else RC.no) = _ ∨ _ ∧ (bif Nat.beq kk (ikNo ik) then (Int.rec (fun n => fN (Nat.mul 2 n) k) (fun n => fN (Nat.add (Nat.mul 2 n) 1) k) z : RC) else RC.no) = _
    cases h : Nat.beq kk (ikNo ik) with
    | false => exact .inl rfl
    | true => exact .inr ⟨(Nat.eq_of_beq_eq_true h).symm, by cases z <;> rfl⟩
  | _ => exact .inl rfl
theorem mfindK_eq (c : Nat) (kn : RC) (ks : Value → RC) : ∀ (t : MT) (h : Nat), mfindK c t h kn ks = match mfind c t h with
    | some v => ks v
    | none => kn := by
  intro t
  induction t with
  | e => intro h; rfl
  | n c' v l r ihl ihr =>
    intro h
    have e : mfindK c (.n c' v l r) h kn ks = bif Nat.beq c c' then ks v else bif Nat.beq (Nat.mod h 2) 0 then mfindK c l (Nat.div h 2) kn ks else mfindK c r (Nat.div h 2) kn ks := rfl
    rw [e]
    unfold mfind
    cases hc : Nat.beq c c' with
    | true => simp only [cond_true]; rw [if_pos (Nat.eq_of_beq_eq_true hc)]
    | false =>
      rw [if_neg (Nat.ne_of_beq_eq_false hc)]
      simp only [cond_false]
      cases hb : Nat.beq (Nat.mod h 2) 0 with
      | true =>
        have hb : h % 2 = 0 := Nat.eq_of_beq_eq_true hb
        rw [if_pos hb]; exact ihl _
      | false =>
        have hb : ¬ h % 2 = 0 := Nat.ne_of_beq_eq_false hb
        rw [if_neg hb]; exact ihr _
theorem minsK_eq (c : Nat) (v : Value) : ∀ (t : MT) (h : Nat) (k : MT → RC), minsK c v t h k = k (mins c v t h) := by
  intro t
  induction t with
  | e => intro h k; rfl
  | n c' v' l r ihl ihr =>
    intro h k
    have e : minsK c v (.n c' v' l r) h k = bif Nat.beq c c' then k (.n c v l r) else bif Nat.beq (Nat.mod h 2) 0 then minsK c v l (Nat.div h 2) fun l => k (.n c' v' l r) else minsK c v r (Nat.div h 2) fun r => k (.n c' v' l r) := rfl
    rw [e]
    unfold mins
    cases hc : Nat.beq c c' with
    | true => simp only [cond_true]; rw [if_pos (Nat.eq_of_beq_eq_true hc)]
    | false =>
      rw [if_neg (Nat.ne_of_beq_eq_false hc)]
      simp only [cond_false]
      cases hb : Nat.beq (Nat.mod h 2) 0 with
      | true =>
        have hb : h % 2 = 0 := Nat.eq_of_beq_eq_true hb
        rw [if_pos hb]; exact ihl _ _
      | false =>
        have hb : ¬ h % 2 = 0 := Nat.ne_of_beq_eq_false hb
        rw [if_neg hb]; exact ihr _ _
section
variable {P : Program} {H : FH}
theorem mapsK_or (b : Nat) (k : Nat → List (Value × Value) → MT → Nat → List Nat → RC) : mapsK H b k = RC.no ∨ ∃ kk es mt, b < H.n ∧ (H.nd b).x = .map kk es mt ∧ mapsK H b k = k kk es mt (H.nd b).mx (H.nd b).ms := by
  unfold mapsK
  rw [ndK_eq]
  split
  · rename_i hb
    cases hd : H.nd b with
    | mk x mx ms =>
      cases x with
      | map kk es mt => exact .inr ⟨kk, es, mt, hb, rfl, rfl⟩
      | dead => exact .inl rfl
      | cells => exact .inl rfl
      | loop => exact .inl rfl
  · exact .inl rfl
theorem lookupB_or (hH : H.OK) (t : TypeId) (ok : Bool) (x key : Value) (k : Value → RC) : (lookupB P t ok).run x key H k = RC.no ∨ ∃ v, lookupA P t x key ok (absH H) = some v ∧ (lookupB P t ok).run x key H k = k v := by
  unfold lookupB
  split
  case h_2 => exact .inl rfl
  rename_i kt et hu
  split
  case h_2 => exact .inl rfl
  rename_i kd z hkt hz
  simp only [fN_eq, fV_eq]
  have main : ∀ (kn : RC) (ks : Value → RC), (mapK x fun r => mapsK H r fun kk' _ mt _ _ => bif Nat.beq (kdTag kd) kk' then codeK (kdTag kd) key fun c => mfindK c mt (mix c) kn ks else RC.no) = RC.no ∨
      ∃ r es, x = .map (some r) ∧ (absH H)[r]? = some (.map es) ∧ (keyKind kd key && es.all (fun e => keyKind kd e.1)) = true ∧
        (mapK x fun r => mapsK H r fun kk' _ mt _ _ => bif Nat.beq (kdTag kd) kk' then codeK (kdTag kd) key fun c => mfindK c mt (mix c) kn ks else RC.no) = match findA key es with
          | some v => ks v
          | none => kn := by
    intro kn ks
    rcases mapK_or x (fun r => mapsK H r fun kk' _ mt _ _ => bif Nat.beq (kdTag kd) kk' then codeK (kdTag kd) key fun c => mfindK c mt (mix c) kn ks else RC.no) with h | ⟨r, rfl, h⟩
    · exact .inl h
    rw [h]; clear h
    rcases mapsK_or (H := H) r (fun kk' _ mt _ _ => bif Nat.beq (kdTag kd) kk' then codeK (kdTag kd) key fun c => mfindK c mt (mix c) kn ks else RC.no) with h | ⟨kk, es, mt, hb, hx, h⟩
    · exact .inl h
    rw [h]; clear h
    cases he : Nat.beq (kdTag kd) kk with
    | false => exact .inl rfl
    | true =>
    have he := Nat.eq_of_beq_eq_true he
    simp only [cond_true]
    rcases codeK_or (kdTag kd) key (fun c => mfindK c mt (mix c) kn ks) with h | ⟨ht, h⟩
    · exact .inl h
    rw [h, mfindK_eq]; clear h
    have hok := hH.ok r hb
    rw [hx] at hok
    obtain ⟨q0, q1, q2⟩ := hok
    rw [q2 key (by rw [ht, he])]
    refine .inr ⟨r, es, rfl, by rw [absH_get, if_pos hb, hx]; rfl, ?_, rfl⟩
    rw [Bool.and_eq_true]
    refine ⟨keyKind_tag ht.symm (by rw [ht, he]; exact q0), List.all_eq_true.2 fun e hm => keyKind_tag (by rw [q1 e hm, he]) (by rw [q1 e hm]; exact q0)⟩
  cases ok with
  | true =>
    simp only [cond_true]
    rcases main (k (.tuple ⟨[z, .bool false]⟩)) (fun v => k (.tuple ⟨[v, .bool true]⟩)) with h | ⟨r, es, rfl, h1, h2, h3⟩
    · exact .inl h
    rw [h3]
    right
    simp only [Bool.and_eq_true] at h2
    simp only [lookupA, hu, hkt, hz, h1, h2, and_self, if_true]
    cases findA key es with
    | some v => exact ⟨_, rfl, rfl⟩
    | none => exact ⟨_, rfl, rfl⟩
  | false =>
    simp only [cond_false]
    rcases main (k z) k with h | ⟨r, es, rfl, h1, h2, h3⟩
    · exact .inl h
    rw [h3]
    right
    simp only [Bool.and_eq_true] at h2
    simp only [lookupA, hu, hkt, hz, h1, h2, and_self, if_true]
    cases findA key es with
    | some v => exact ⟨_, rfl, rfl⟩
    | none => exact ⟨_, rfl, rfl⟩
theorem updateB_or (hH : H.OK) (t : TypeId) (x key v : Value) (k : FH → RC) : (updateB P t).run x key v H k = RC.no ∨ ∃ H', H'.OK ∧ mapUpdateA P t x key v (absH H) = some (absH H') ∧ (updateB P t).run x key v H k = k H' := by
  unfold updateB
  split
  case h_2 => exact .inl rfl
  rename_i kt et hu
  split
  case h_2 => exact .inl rfl
  rename_i kd hkt
  simp only [fN_eq]
  rcases mapK_or x (fun r => scalK v fun _ => mapsK H r fun kk' es mt mx ms => bif Nat.beq (kdTag kd) kk' then codeK (kdTag kd) key fun c => minsK c v mt (mix c) fun mt => setNdK H r ⟨.map kk' (setA key v es) mt, mx, ms⟩ k else RC.no) with h | ⟨r, rfl, h⟩
  · exact .inl h
  rw [h]; clear h
  rcases scalK_or v (fun _ => mapsK H r fun kk' es mt mx ms => bif Nat.beq (kdTag kd) kk' then codeK (kdTag kd) key fun c => minsK c v mt (mix c) fun mt => setNdK H r ⟨.map kk' (setA key v es) mt, mx, ms⟩ k else RC.no) with h | ⟨l, hs, h⟩
  · exact .inl h
  rw [h]; clear h
  rcases mapsK_or (H := H) r (fun kk' es mt mx ms => bif Nat.beq (kdTag kd) kk' then codeK (kdTag kd) key fun c => minsK c v mt (mix c) fun mt => setNdK H r ⟨.map kk' (setA key v es) mt, mx, ms⟩ k else RC.no) with h | ⟨kk, es, mt, hb, hx, h⟩
  · exact .inl h
  rw [h]; clear h
  cases he : Nat.beq (kdTag kd) kk with
  | false => exact .inl rfl
  | true =>
  have he := Nat.eq_of_beq_eq_true he
  simp only [cond_true]
  rcases codeK_or (kdTag kd) key (fun c => minsK c v mt (mix c) fun mt => setNdK H r ⟨.map kk (setA key v es) mt, (H.nd r).mx, (H.nd r).ms⟩ k) with h | ⟨ht, h⟩
  · exact .inl h
  rw [h, minsK_eq, setNdK_eq]; clear h
  have hok := hH.ok r hb
  rw [hx] at hok
  obtain ⟨q0, q1, q2⟩ := hok
  have hkey : keyTag key = kk := by rw [ht, he]
  right
  refine ⟨_, OK_setX hH hb (.map kk (setA key v es) (mins (codeK' key) v mt (mix (codeK' key)))) ⟨q0, setA_tags hkey es q1, fun k' hk' => ?_⟩, ?_, rfl⟩
  · rw [findA_setA q0 hkey hk' es q1]
    by_cases hc : codeK' k' = codeK' key
    · rw [if_pos hc, hc, mfind_same]
    · rw [if_neg hc, mfind_other hc, q2 k' hk']
  · have hall : es.all (fun e => keyKind kd e.1) = true := List.all_eq_true.2 fun e hm => keyKind_tag (by rw [q1 e hm, he]) (by rw [q1 e hm]; exact q0)
    have hkk : keyKind kd key = true := keyKind_tag ht.symm (by rw [hkey]; exact q0)
    have hget : (absH H)[r]? = some (.map es) := by rw [absH_get, if_pos hb, hx]; rfl
    simp only [mapUpdateA, hu, hkt, hs, hget, hkk, hall, and_self, if_true]
    congr 1
    rw [absH_setNd hH hb]
    rfl
theorem makeMapB_or (hH : H.OK) (t : TypeId) (r : Option Operand) (k : Value → FH → RC) {a : Fr} {o : Oper} (ho : o.op = .makeMap t r) : (makeMapB P t r).run H k = RC.no ∨ ∃ v H', H'.OK ∧ aexec P a o (absH H) = some (v, absH H') ∧ (makeMapB P t r).run H k = k v H' := by
  unfold makeMapB
  split
  case h_2 => exact .inl rfl
  rename_i kt et hu
  split
  case h_2 => exact .inl rfl
  rename_i kd hkt
  cases hc : (r.all constInt && !Nat.beq (kdTag kd) 0) with
  | false => exact .inl rfl
  | true =>
  simp only [Bool.and_eq_true, Bool.not_eq_true'] at hc
  have h0 : kdTag kd ≠ 0 := Nat.ne_of_beq_eq_false hc.2
  simp only [cond_true, fN_eq]
  rcases pushK_or H (fun _ => (⟨.map (kdTag kd) [] .e, 0, []⟩ : Nd)) (fun i H' => k (.map (some i)) H') with h | ⟨hlt, h⟩
  · exact .inl h
  rw [h]
  refine .inr ⟨_, _, OK_push hH hlt (⟨.map (kdTag kd) [] .e, 0, []⟩ : Nd) (show BOK _ _ (.map (kdTag kd) [] .e) from ⟨h0, (fun e h => by cases h), fun _ _ => rfl⟩), ?_, rfl⟩
  unfold aexec
  rw [ho]
  simp only [hu, hc.1, if_true, absH_push hlt, absB, absH_length]
theorem bytesK_or : ∀ (l : List Value) (s : ByteArray) (k : Value → RC), bytesK l s k = RC.no ∨ ∃ r, bytesFrom s l = some r ∧ bytesK l s k = k (.string r) := by
  intro l
  induction l with
  | nil => intro s k; exact .inr ⟨s, rfl, fV_eq (.string s) k⟩
  | cons v vs ih =>
    intro s k
    have e : bytesK (v :: vs) s k = u8K v fun z => Int.rec (fun n => bytesK vs (s.push (UInt8.ofNat n)) k) (fun _ => RC.no) z := rfl
    rw [e]
    rcases u8K_or v (fun z => Int.rec (fun n => bytesK vs (s.push (UInt8.ofNat n)) k) (fun _ => RC.no) z) with h | ⟨z, rfl, h⟩
    · exact .inl h
    rw [h]
    cases z with
    | negSucc n => exact .inl rfl
    | ofNat n => exact ih _ _
theorem convB_or {s d : TypeId} {a : Fr} {o : Oper} {x : Operand} (ho : o.op = .convert s d x) (k : Value → RC) : (convB P s d).run (ev a x) H k = RC.no ∨ ∃ v, aexec P a o (absH H) = some (v, absH H) ∧ (convB P s d).run (ev a x) H k = k v := by
  unfold convB
  split
  · rename_i e hs hd
    split
    · rename_i he
      simp only
      rcases readK_or (H := H) 1 (ev a x) (fun l _ => bytesK l .empty k) with h | ⟨cs, ad, n, c, hx, hr, h, _⟩
      · exact .inl h
      rw [h]
      rcases bytesK_or cs .empty k with h | ⟨r, h1, h2⟩
      · exact .inl h
      · refine .inr ⟨_, ?_, h2⟩
        unfold aexec
        rw [ho]
        have ht : textA P s d (ev a x) (absH H) = some (.string r) := by
          rw [hx] at hr ⊢
          simp only [textA, hs, hd, he, hr, h1, Option.map_some]
        simp only [ht]
    · exact .inl rfl
  · exact slowK_or k (conv_same ho) (conv_heap ho)
theorem copyB_or (hH : H.OK) (t : TypeId) (x y : Value) (k : Value → FH → RC) : (copyB P t).run x y H k = RC.no ∨ ∃ v H', H'.OK ∧ copyA P t x y (absH H) = some (v, absH H') ∧ (copyB P t).run x y H k = k v H' := by
  unfold copyB
  cases he : sliceElem P t with
  | none => exact .inl rfl
  | some q =>
  obtain ⟨el, size⟩ := q
  simp only [fN_eq]
  rcases sliceK_or x (fun ad dn _ => sliceK y fun _ sn _ => bif Nat.beq (bif Nat.ble sn dn then sn else dn) 0 then k (.int .i64 (.ofNat 0)) H else
      addrK RC.no RC.no ad fun b o => readK H size y fun cs _ => takeK (Nat.mul (bif Nat.ble sn dn then sn else dn) size) cs fun cs => writeK H b o (Nat.mul (bif Nat.ble sn dn then sn else dn) size) cs fun H' => k (.int .i64 (.ofNat (bif Nat.ble sn dn then sn else dn))) H') with h | ⟨ad, dn, dc, rfl, h⟩
  · exact .inl h
  rw [h]; clear h
  rcases sliceK_or y (fun _ sn _ => bif Nat.beq (bif Nat.ble sn dn then sn else dn) 0 then k (.int .i64 (.ofNat 0)) H else
      addrK RC.no RC.no ad fun b o => readK H size y fun cs _ => takeK (Nat.mul (bif Nat.ble sn dn then sn else dn) size) cs fun cs => writeK H b o (Nat.mul (bif Nat.ble sn dn then sn else dn) size) cs fun H' => k (.int .i64 (.ofNat (bif Nat.ble sn dn then sn else dn))) H') with h | ⟨sa, sn, sc, rfl, h⟩
  · exact .inl h
  rw [h]; clear h
  have hmin : (bif Nat.ble sn dn then sn else dn) = min sn dn := by
    cases hb : Nat.ble sn dn with
    | true => have := Nat.le_of_ble_eq_true hb; simp only [cond_true]; omega
    | false => have : ¬ sn ≤ dn := by { intro h; rw [Nat.ble_eq_true_of_le h] at hb; cases hb }
               simp only [cond_false]; omega
  rw [hmin]
  cases h0 : Nat.beq (min sn dn) 0 with
  | true =>
    have h0 := Nat.eq_of_beq_eq_true h0
    refine .inr ⟨_, H, hH, ?_, rfl⟩
    simp only [copyA, he, h0, if_true]
    rfl
  | false =>
    have h0 := Nat.ne_of_beq_eq_false h0
    simp only [cond_false]
    rcases addrK_or ad RC.no RC.no (fun b o => readK H size (.slice sa sn sc) fun cs _ => takeK (Nat.mul (min sn dn) size) cs fun cs => writeK H b o (Nat.mul (min sn dn) size) cs fun H' => k (.int .i64 (.ofNat (min sn dn))) H') with ⟨rfl, h⟩ | ⟨b, o, p, rfl, h⟩ | ⟨b, o, rfl, h⟩
    · exact .inl h
    · exact .inl h
    rw [h]; clear h
    rcases readK_or (H := H) size (.slice sa sn sc) (fun cs _ => takeK (Nat.mul (min sn dn) size) cs fun cs => writeK H b o (Nat.mul (min sn dn) size) cs fun H' => k (.int .i64 (.ofNat (min sn dn))) H') with h | ⟨cs, ad', n', c', e, hr, h, _⟩
    · exact .inl h
    cases e
    rw [h, takeK_eq]; clear h
    have hlen := readA_length hr
    have hle : min sn dn * size ≤ cs.length := by rw [hlen]; exact Nat.mul_le_mul_right _ (Nat.min_le_left _ _)
    rcases writeK_or hH b o (Nat.mul (min sn dn) size) (cs.take (Nat.mul (min sn dn) size)) (by rw [List.length_take]; exact Nat.min_eq_left hle) (fun H' => k (.int .i64 (.ofNat (min sn dn))) H') with h | ⟨H', f1, f2, f3⟩
    · exact .inl h
    · refine .inr ⟨_, H', f1, ?_, f3⟩
      have f2 : (absH H).write b o (cs.take (min sn dn * size)) = some (absH H') := f2
      simp only [copyA, he, h0, if_false, hr, f2]
      rfl
theorem lenB_or (t : TypeId) (x : Value) (k : Value → RC) : (lenB P t).run x k = RC.no ∨ ∃ v, lenA P t x = some v ∧ (lenB P t).run x k = k v := by
  unfold lenB
  split
  · rename_i e hu
    rcases sliceK_or x (fun _ n _ => k (.int .i64 (.ofNat n))) with h | ⟨a, n, c, rfl, h⟩
    · exact .inl h
    · exact .inr ⟨_, by simp only [lenA, hu]; rfl, h⟩
  · simp only
    split
    · rename_i v hv; exact .inr ⟨v, hv, fV_eq _ _⟩
    · exact .inl rfl
theorem minmax_exec {a : Fr} {o : Oper} {args : Array Operand} {ts : Array TypeId} {p q : Int} (b : Builtin) (hb : b = .min ∨ b = .max) (ho : o.op = .call ⟨.builtin b, args, ts⟩) (hv : args.toList.map (ev a) = [.int .i64 p, .int .i64 q]) :
    plainA P a o = some (.int .i64 (if b = .min then (if q < p then q else p) else (if p < q then q else p))) := by
  obtain ⟨args⟩ := args
  simp only at hv
  obtain ⟨x, y, rfl⟩ : ∃ x y, args = [x, y] := by
    cases args with
    | nil => cases hv
    | cons x l => cases l with
      | nil => simp at hv
      | cons y l => cases l with
        | nil => exact ⟨x, y, rfl⟩
        | cons => simp at hv
  simp only [List.map_cons, List.map_nil, List.cons.injEq, and_true] at hv
  obtain ⟨hx, hy⟩ := hv
  have hops : o.op.operands.toList = [x, y] := by rw [ho]; rfl
  unfold plainA
  rw [hops]
  simp only [List.all_cons, List.all_nil, hx, hy, plain, Bool.and_self, if_true]
  have ex : execOp (ev a) o = (do let d ← resolve (ev a) ⟨.builtin b, ⟨[x, y]⟩, ts⟩ o.type; invoke d.target d.args) := by unfold execOp; rw [ho]
  rw [ex]
  rcases hb with rfl | rfl
  · have : (resolve (ev a) ⟨.builtin .min, ⟨[x, y]⟩, ts⟩ o.type >>= fun d => invoke d.target d.args) = (pure (.value (.int .i64 (if q < p then q else p))) : Sem Next) := by
      simp [resolve, invoke, builtin, Builtin.min_, Builtin.min2, hx, hy]
    rw [this]
    rfl
  · have : (resolve (ev a) ⟨.builtin .max, ⟨[x, y]⟩, ts⟩ o.type >>= fun d => invoke d.target d.args) = (pure (.value (.int .i64 (if p < q then q else p))) : Sem Next) := by
      simp [resolve, invoke, builtin, Builtin.max_, Builtin.max2, hx, hy]
    rw [this]
    rfl
end
end Go.Abs
