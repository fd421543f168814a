/- The fast evaluator's operations are the abstract ones: what makes memory, keys, builtins. -/
import Derived.Test.YtmmgdgmjkhcfaaaFastI
namespace Go.Abs
theorem readA_length {G : Heap} {size : Nat} {ad : Option Addr} {n c : Nat} {cs : List Value} (h : readA G size (.slice ad n c) = some cs) : cs.length = n * size := by
  unfold readA at h
  split at h
  · rename_i e; cases h; injection e with _ e _; subst e; simp
  · rename_i b o m c' e
    injection e with _ e _
    subst e
    unfold Heap.cellsAt at h
    split at h
    · split at h
      · cases h; simp; omega
      · cases h
    · cases h
  · rename_i e; cases h; injection e with _ e _; subst e; simp
  · cases h
theorem takeK_eq : ∀ (n : Nat) (l : List Value) (k : List Value → RC), takeK n l k = k (l.take n) := by
  intro n
  induction n with
  | zero => intro l k; rw [List.take_zero]; rfl
  | succ n ih =>
    intro l k
    cases l with
    | nil => rw [List.take_nil]; rfl
    | cons x xs => exact ih xs fun r => k (x :: r)
theorem dropK_eq : ∀ (n : Nat) (l : List Value) (k : List Value → RC), dropK n l k = k (l.drop n) := by
  intro n
  induction n with
  | zero => intro l k; rfl
  | succ n ih =>
    intro l k
    cases l with
    | nil => rw [List.drop_nil]; rfl
    | cons x xs => exact ih xs k
theorem setL1_eq : ∀ (o : Nat) (l : List Value) (v : Value) (k : List Value → RC), setL1 l o v k = k (l.set o v) := by
  intro o
  induction o with
  | zero => intro l v k; cases l <;> rfl
  | succ o ih =>
    intro l v k
    cases l with
    | nil => rfl
    | cons x xs => exact ih xs v fun r => k (x :: r)
theorem setLK_eq : ∀ (vs l : List Value) (o : Nat) (k : List Value → RC), setLK l o vs k = k (setList l o vs) := by
  intro vs
  induction vs with
  | nil => intro l o k; rfl
  | cons v vs ih =>
    intro l o k
    have e : setLK l o (v :: vs) k = setL1 l o v fun l => fN (Nat.add o 1) fun o => setLK l o vs k := rfl
    rw [e, setL1_eq, fN_eq]
    exact ih _ _ _
theorem replK_eq (z : List Value) : ∀ (n : Nat) (k : List Value → RC), replK z n k = k (repl n z) := by
  intro n
  induction n with
  | zero => intro k; rfl
  | succ n ih =>
    intro k
    have e : replK z (n + 1) k = replK z n fun r => List.rec (motive := fun _ => (List Value → RC) → RC) (fun k => k r) (fun x _ ih k => ih fun l => k (x :: l)) z k := rfl
    rw [e, ih]
    have aux : ∀ (z : List Value) (r : List Value) (k : List Value → RC), List.rec (motive := fun _ => (List Value → RC) → RC) (fun k => k r) (fun x _ ih k => ih fun l => k (x :: l)) z k = k (z ++ r) := by
      intro z
      induction z with
      | nil => intro r k; rfl
      | cons x xs ih => intro r k; exact ih r fun l => k (x :: l)
    exact aux _ _ _
theorem fillB_or (place : Nat → Option (Nat × Nat)) (total : Nat) : ∀ (is : List Nat) (cs vs : List Value) (k : List Value → RC), cs.length = total → vs.length = is.length →
    (fillB place total is).run cs vs k = RC.no ∨ ∃ r, fillL place cs (is.zip vs) = some r ∧ r.length = total ∧ (fillB place total is).run cs vs k = k r := by
  intro is
  induction is with
  | nil => intro cs vs k h _; exact .inr ⟨cs, rfl, h, rfl⟩
  | cons i is ih =>
    intro cs vs k hl hv
    cases vs with
    | nil => cases hv
    | cons v vs =>
    have e : (fillB place total (i :: is)).run cs (v :: vs) k = (match place i with
      | some (off, size) => fN off fun off => fN size fun size => bif Nat.ble (Nat.add off size) total then
          (⟨fun cs vs k => List.rec RC.no (fun v vs _ => scalK v fun vc => bif Nat.beq vc.length size then setLK cs off vc fun cs => (fillB place total is).run cs vs k else RC.no) vs⟩ : Box (List Value → List Value → (List Value → RC) → RC))
        else ⟨fun _ _ _ => RC.no⟩
      | none => ⟨fun _ _ _ => RC.no⟩).run cs (v :: vs) k := rfl
    rw [e]
    cases hp : place i with
    | none => exact .inl rfl
    | some q =>
      obtain ⟨off, size⟩ := q
      simp only [fN_eq]
      cases hb : Nat.ble (Nat.add off size) total with
      | false => exact .inl rfl
      | true =>
        have hle : off + size ≤ total := Nat.le_of_ble_eq_true hb
        simp only [cond_true]
        rcases scalK_or v (fun vc => bif Nat.beq vc.length size then setLK cs off vc fun cs => (fillB place total is).run cs vs k else RC.no) with h | ⟨vc, hs, h⟩
        · exact .inl h
        rw [h]
        cases hq : Nat.beq vc.length size with
        | false => exact .inl rfl
        | true =>
          have hq := Nat.eq_of_beq_eq_true hq
          simp only [cond_true, setLK_eq]
          rcases ih (setList cs off vc) vs k (by rw [setList_length]; exact hl) (by simpa using hv) with h | ⟨r, h1, h2, h3⟩
          · exact .inl h
          · refine .inr ⟨r, ?_, h2, h3⟩
            show fillL place cs ((i, v) :: is.zip vs) = some r
            unfold fillL
            rw [hp, hs]
            simp only
            rw [if_pos ⟨hq, by omega⟩]
            exact h1
section
variable {P : Program} {H : FH}
theorem appB_or (hH : H.OK) (t : TypeId) (s x : Value) (k : Value → FH → RC) : (appB P t).run s x H k = RC.no ∨ ∃ v H', H'.OK ∧ appendA P t s x (absH H) = some (v, absH H') ∧ (appB P t).run s x H k = k v H' := by
  unfold appB appendA
  cases he : sliceElem P t with
  | none => exact .inl rfl
  | some q =>
  obtain ⟨el, size⟩ := q
  simp only
  cases hc : (decide ((bytesT P el).isSome ∧ (bytesT P el).getD 0 ≤ maxA ∧ (zeros P el size 1).isSome) && Nat.ble 1 size) with
  | false => exact .inl rfl
  | true =>
  rw [Bool.and_eq_true, decide_eq_true_iff] at hc
  have hpos : 0 < size := Nat.le_of_ble_eq_true hc.2
  rw [if_pos hc.1]
  simp only [cond_true, fN_eq]
  rcases readK_or (H := H) size x (fun news m => sliceK s fun a n sz => bif Nat.beq m 0 then k s H else
        addrK (bif Nat.beq n 0 && Nat.beq sz 0 then newK H news (Nat.mul m size) fun i H' => k (.slice (some ⟨i, 0, none⟩) m size) H' else RC.no) RC.no a fun b o =>
          bif Nat.beq o 0 && Nat.beq sz size then growK H b (Nat.mul n size) (Nat.mul (Nat.add n m) size) news fun i H' => k (.slice (some ⟨i, 0, none⟩) (Nat.add n m) size) H' else RC.no) with h | ⟨cs, ad, m, c, rfl, hr, h, _⟩
  · exact .inl h
  rw [h]; clear h
  have hlen := readA_length hr
  simp only [hr]
  rcases sliceK_or s (fun a n sz => bif Nat.beq m 0 then k s H else
        addrK (bif Nat.beq n 0 && Nat.beq sz 0 then newK H cs (Nat.mul m size) fun i H' => k (.slice (some ⟨i, 0, none⟩) m size) H' else RC.no) RC.no a fun b o =>
          bif Nat.beq o 0 && Nat.beq sz size then growK H b (Nat.mul n size) (Nat.mul (Nat.add n m) size) cs fun i H' => k (.slice (some ⟨i, 0, none⟩) (Nat.add n m) size) H' else RC.no) with h | ⟨sa, n, sz, rfl, h⟩
  · exact .inl h
  rw [h]; clear h
  cases hm : Nat.beq m 0 with
  | true =>
    rw [if_pos (Nat.eq_of_beq_eq_true hm)]
    exact .inr ⟨_, H, hH, rfl, rfl⟩
  | false =>
  rw [if_neg (Nat.ne_of_beq_eq_false hm)]
  simp only [cond_false]
  rcases addrK_or sa (bif Nat.beq n 0 && Nat.beq sz 0 then newK H cs (Nat.mul m size) fun i H' => k (.slice (some ⟨i, 0, none⟩) m size) H' else RC.no) RC.no (fun b o =>
          bif Nat.beq o 0 && Nat.beq sz size then growK H b (Nat.mul n size) (Nat.mul (Nat.add n m) size) cs fun i H' => k (.slice (some ⟨i, 0, none⟩) (Nat.add n m) size) H' else RC.no) with ⟨rfl, h⟩ | ⟨b, o, p, rfl, h⟩ | ⟨b, o, rfl, h⟩
  · rw [h]; clear h
    cases h0 : (Nat.beq n 0 && Nat.beq sz 0) with
    | false => exact .inl rfl
    | true =>
      simp only [Bool.and_eq_true] at h0
      have h1 := Nat.eq_of_beq_eq_true h0.1
      have h2 := Nat.eq_of_beq_eq_true h0.2
      subst h1; subst h2
      simp only [cond_true]
      rcases newK_or hH cs (Nat.mul m size) hlen (fun i H' => k (.slice (some ⟨i, 0, none⟩) m size) H') with h | ⟨H', hle, h1, h2, h3⟩
      · exact .inl h
      · refine .inr ⟨_, H', h1, ?_, h3⟩
        have hle : m * size ≤ 262144 := hle
        rw [if_pos ⟨hpos, by unfold maxA; omega⟩, h2]
        rfl
  · exact .inl h
  · rw [h]; clear h
    cases h0 : (Nat.beq o 0 && Nat.beq sz size) with
    | false => exact .inl rfl
    | true =>
      simp only [Bool.and_eq_true] at h0
      have h1 := Nat.eq_of_beq_eq_true h0.1
      have h2 := Nat.eq_of_beq_eq_true h0.2
      subst h1; subst h2
      simp only [cond_true]
      rcases growK_or hH b (Nat.mul n sz) (Nat.mul (Nat.add n m) sz) cs (by show n * sz + cs.length = (n + m) * sz; rw [hlen, Nat.add_mul]) (fun i H' => k (.slice (some ⟨i, 0, none⟩) (Nat.add n m) sz) H') with h | ⟨H', fam, ds, hle, h1, h2, h3, h4, h5⟩
      · exact .inl h
      · refine .inr ⟨_, H', h1, ?_, by rw [h5]⟩
        have hle : (n + m) * sz ≤ 262144 := hle
        simp only [h2]
        rw [if_pos ⟨by first | trivial | rfl, hpos, h3, by unfold maxA; omega⟩, h4, absH_length]
        rfl
theorem appIntB_or (hH : H.OK) (t t' : TypeId) (s x : Value) (k : Value → FH → RC) : (appIntB P t t').run s x H k = RC.no ∨ ∃ v H', H'.OK ∧ appendIntA P t t' s x (absH H) = some (v, absH H') ∧ (appIntB P t t').run s x H k = k v H' := by
  unfold appIntB
  split
  case h_2 => exact .inl rfl
  rename_i e size ik he ht'
  cases hz : zeroT P e with
  | none => exact .inl rfl
  | some z =>
  simp only
  cases hc : (Nat.ble 1 size && ((bytesT P e).isSome && (Nat.ble ((bytesT P e).getD 0) maxA && Nat.beq z.cells.toList.length size))) with
  | false => exact .inl rfl
  | true =>
  simp only [Bool.and_eq_true] at hc
  obtain ⟨c1, c2, c3, c4⟩ := hc
  have hpos : 0 < size := Nat.le_of_ble_eq_true c1
  have c3 := Nat.le_of_ble_eq_true c3
  have c4 := Nat.eq_of_beq_eq_true c4
  simp only [cond_true, fSs_eq, fN_eq]
  rcases sliceK_or s (fun a n c => addrK (bif Nat.beq n 0 && Nat.beq c 0 then intK x fun m => Int.rec (fun m => bif Nat.ble 1 m && Nat.ble (Nat.mul m size) 262144 then
          replK z.cells.toList m fun cs => newK H cs (Nat.mul m size) fun i H' => k (.slice (some ⟨i, 0, none⟩) m size) H' else RC.no) (fun _ => RC.no) m else RC.no) RC.no a fun _ _ => RC.no) with h | ⟨sa, n, c, rfl, h⟩
  · exact .inl h
  rw [h]; clear h
  rcases addrK_or sa (bif Nat.beq n 0 && Nat.beq c 0 then intK x fun m => Int.rec (fun m => bif Nat.ble 1 m && Nat.ble (Nat.mul m size) 262144 then
          replK z.cells.toList m fun cs => newK H cs (Nat.mul m size) fun i H' => k (.slice (some ⟨i, 0, none⟩) m size) H' else RC.no) (fun _ => RC.no) m else RC.no) RC.no (fun _ _ => RC.no) with ⟨rfl, h⟩ | ⟨b, o, p, rfl, h⟩ | ⟨b, o, rfl, h⟩
  · rw [h]; clear h
    cases h0 : (Nat.beq n 0 && Nat.beq c 0) with
    | false => exact .inl rfl
    | true =>
      simp only [Bool.and_eq_true] at h0
      have h1 := Nat.eq_of_beq_eq_true h0.1
      have h2 := Nat.eq_of_beq_eq_true h0.2
      subst h1; subst h2
      simp only [cond_true]
      rcases intK_or x (fun m => Int.rec (fun m => bif Nat.ble 1 m && Nat.ble (Nat.mul m size) 262144 then
          replK z.cells.toList m fun cs => newK H cs (Nat.mul m size) fun i H' => k (.slice (some ⟨i, 0, none⟩) m size) H' else RC.no) (fun _ => RC.no) m) with h | ⟨zi, rfl, h⟩
      · exact .inl h
      rw [h]; clear h
      cases zi with
      | negSucc m => exact .inl rfl
      | ofNat m =>
        simp only
        cases h0 : (Nat.ble 1 m && Nat.ble (Nat.mul m size) 262144) with
        | false => exact .inl rfl
        | true =>
          simp only [Bool.and_eq_true] at h0
          have h1 : 1 ≤ m := Nat.le_of_ble_eq_true h0.1
          have h2 : m * size ≤ 262144 := Nat.le_of_ble_eq_true h0.2
          simp only [cond_true, replK_eq]
          have hlen : (repl m z.cells.toList).length = m * size := by rw [repl_length, c4]
          rcases newK_or hH (repl m z.cells.toList) (Nat.mul m size) hlen (fun i H' => k (.slice (some ⟨i, 0, none⟩) m size) H') with h | ⟨H', hle, e1, e2, e3⟩
          · exact .inl h
          · refine .inr ⟨_, H', e1, ?_, e3⟩
            unfold appendIntA
            rw [he, ht']
            have hzs : zeros P e size (Int.ofNat m).toNat = some (repl m z.cells.toList) := by
              unfold zeros; rw [hz]; simp only [c4, if_true]; rfl
            simp only [hzs]
            rw [if_pos ⟨by show (0:Int) < (m : Int); omega, hpos, by show m * size ≤ maxA; unfold maxA; omega, c2, c3⟩, e2]
            rfl
  · exact .inl h
  · exact .inl h
theorem indexB_or (t : TypeId) (x i : Value) (k : Value → RC) : (indexB P t).run x i k = RC.no ∨ ∃ v, indexAddrA P t x i = some v ∧ (indexB P t).run x i k = k v := by
  unfold indexB
  cases he : sliceElem P t with
  | none => exact .inl rfl
  | some q =>
  obtain ⟨el, size⟩ := q
  simp only [fN_eq]
  rcases sliceK_or x (fun a n _ => addrK RC.no RC.no a fun b o => intK i fun z => Int.rec (fun j => bif Nat.ble (Nat.add j 1) n then k (.pointer (some ⟨b, Nat.add o (Nat.mul j size), none⟩)) else RC.no) (fun _ => RC.no) z) with h | ⟨a, n, c, rfl, h⟩
  · exact .inl h
  rw [h]; clear h
  rcases addrK_or a RC.no RC.no (fun b o => intK i fun z => Int.rec (fun j => bif Nat.ble (Nat.add j 1) n then k (.pointer (some ⟨b, Nat.add o (Nat.mul j size), none⟩)) else RC.no) (fun _ => RC.no) z) with ⟨rfl, h⟩ | ⟨b, o, p, rfl, h⟩ | ⟨b, o, rfl, h⟩
  · exact .inl h
  · exact .inl h
  rw [h]; clear h
  rcases intK_or i (fun z => Int.rec (fun j => bif Nat.ble (Nat.add j 1) n then k (.pointer (some ⟨b, Nat.add o (Nat.mul j size), none⟩)) else RC.no) (fun _ => RC.no) z) with h | ⟨z, rfl, h⟩
  · exact .inl h
  rw [h]; clear h
  cases z with
  | negSucc j => exact .inl rfl
  | ofNat j =>
    simp only
    cases hb : Nat.ble (Nat.add j 1) n with
    | false => exact .inl rfl
    | true =>
      have hlt : j < n := Nat.le_of_ble_eq_true hb
      refine .inr ⟨_, ?_, rfl⟩
      simp only [indexAddrA, he]
      rw [if_pos ⟨by show (0:Int) ≤ (j : Int); omega, by show (j : Int) < (n : Int); omega⟩]
      rfl
theorem fieldAddrB_or (t : TypeId) (i : Nat) (p : Value) (k : Value → RC) : (fieldAddrB P t i).run p k = RC.no ∨ ∃ v, fieldAddrA P t p i = some v ∧ (fieldAddrB P t i).run p k = k v := by
  unfold fieldAddrB
  split
  case h_2 => exact .inl rfl
  rename_i fields hu
  split
  case h_2 => exact .inl rfl
  rename_i f hf
  split
  case h_2 => exact .inl rfl
  rename_i s hs
  simp only [fN_eq]
  rcases ptrK_or p (fun b o => k (.pointer (some ⟨b, Nat.add o f.offset, none⟩))) with h | ⟨b, o, rfl, h⟩
  · exact .inl h
  · exact .inr ⟨_, by simp only [fieldAddrA, hu, hf, hs]; rfl, h⟩
theorem fieldB_or (t : TypeId) (i : Nat) (v : Value) (k : Value → RC) : (fieldB P t i).run v k = RC.no ∨ ∃ u, fieldA P t v i = some u ∧ (fieldB P t i).run v k = k u := by
  unfold fieldB
  split
  case h_2 => exact .inl rfl
  rename_i fields hu
  split
  case h_2 => exact .inl rfl
  rename_i f hf
  split
  · rename_i hag
    simp only [fN_eq]
    rcases aggK_or v (fun l => (egB f.offset).run l k) with h | ⟨cs, rfl, h⟩
    · exact .inl h
    rw [h]; clear h
    rcases egB_or f.offset cs.toList k with h | ⟨u, h1, h2⟩
    · exact .inl h
    · exact .inr ⟨u, by simp only [fieldA, hu, hf, partA, hag, h1], h2⟩
  · rename_i hag
    split
    case h_2 => exact .inl rfl
    rename_i n hs
    simp only [fN_eq]
    rcases aggK_or v (fun l => dropK f.offset l fun l => takeK n l fun l => k (.agg ⟨l⟩)) with h | ⟨cs, rfl, h⟩
    · exact .inl h
    rw [h, dropK_eq, takeK_eq]
    exact .inr ⟨_, by simp only [fieldA, hu, hf, partA, hag, hs], rfl⟩
  · exact .inl rfl
theorem zip_parts (a : Fr) (parts : List (Nat × Operand)) : (parts.map (·.1)).zip ((parts.map (·.2)).map (ev a)) = parts.map fun p => (p.1, ev a p.2) := by
  induction parts with
  | nil => rfl
  | cons p ps ih => simp only [List.map_cons, List.zip_cons_cons, ih]
theorem buildB_or (t : TypeId) (is : List Nat) (vs : List Value) (hl : vs.length = is.length) (k : Value → RC) : (buildB P t is).run vs k = RC.no ∨ ∃ v, buildA P t (is.zip vs) = some v ∧ (buildB P t is).run vs k = k v := by
  unfold buildB
  cases hz : zeroT P t with
  | none => exact .inl rfl
  | some z =>
  cases hu : P.underlying t with
  | none => exact .inl rfl
  | some u =>
  cases u with
  | struct fields =>
    simp only
    cases hp : sizesOf P fields.toList with
    | none => exact .inl rfl
    | some places =>
      simp only [fSs_eq, fN_eq]
      rcases fillB_or (places[·]?) z.cells.toList.length is z.cells.toList vs (fun cs => k (.agg ⟨cs⟩)) rfl hl with h | ⟨r, h1, _, h3⟩
      · exact .inl h
      · exact .inr ⟨_, by unfold buildA; simp only [hz, hu, hp, h1], h3⟩
  | array n el =>
    simp only
    cases hs : sizeT P el with
    | none => exact .inl rfl
    | some size =>
      simp only [fSs_eq, fN_eq]
      rcases fillB_or (fun i => some (i * size, size)) z.cells.toList.length is z.cells.toList vs (fun cs => k (.agg ⟨cs⟩)) rfl hl with h | ⟨r, h1, _, h3⟩
      · exact .inl h
      · exact .inr ⟨_, by unfold buildA; simp only [hz, hu, hs, h1], h3⟩
  | _ => exact .inl rfl
theorem buildSliceB_or (hH : H.OK) (t : TypeId) (len : Nat) (is : List Nat) (vs : List Value) (hl : vs.length = is.length) (k : Value → FH → RC) :
    (buildSliceB P t len is).run vs H k = RC.no ∨ ∃ v H', H'.OK ∧ buildSliceA P t len (is.zip vs) (absH H) = some (v, absH H') ∧ (buildSliceB P t len is).run vs H k = k v H' := by
  unfold buildSliceB buildSliceA
  cases he : sliceElem P t with
  | none => exact .inl rfl
  | some q =>
  obtain ⟨e, size⟩ := q
  simp only
  cases hc : (Nat.ble 1 size && Nat.ble (len * size) 262144) with
  | false => exact .inl rfl
  | true =>
  simp only [Bool.and_eq_true] at hc
  have h1 : 0 < size := Nat.le_of_ble_eq_true hc.1
  have h2 : len * size ≤ 262144 := Nat.le_of_ble_eq_true hc.2
  rw [if_pos ⟨h1, by unfold maxA; omega⟩]
  simp only [cond_true]
  cases hz : zeros P e size len with
  | none => exact .inl rfl
  | some z =>
  simp only [fSs_eq, fN_eq]
  rcases fillB_or (fun i => some (i * size, size)) z.length is z vs (fun cs => newK H cs z.length fun i H' => k (.slice (some ⟨i, 0, none⟩) len size) H') rfl hl with h | ⟨r, e1, e2, e3⟩
  · exact .inl h
  rw [e3]
  rcases newK_or hH r z.length e2 (fun i H' => k (.slice (some ⟨i, 0, none⟩) len size) H') with h | ⟨H', _, f1, f2, f3⟩
  · exact .inl h
  · exact .inr ⟨_, H', f1, by rw [e1, f2]; rfl, f3⟩
theorem makeSliceB_or (hH : H.OK) (t : TypeId) (l c : Value) (k : Value → FH → RC) {a : Fr} {o : Oper} {x y : Operand} (ho : o.op = .makeSlice t x y) (hx : ev a x = l) (hy : ev a y = c) :
    (makeSliceB P t).run l c H k = RC.no ∨ ∃ v H', H'.OK ∧ aexec P a o (absH H) = some (v, absH H') ∧ (makeSliceB P t).run l c H k = k v H' := by
  unfold makeSliceB
  cases he : sliceElem P t with
  | none => exact .inl rfl
  | some q =>
  obtain ⟨e, size⟩ := q
  simp only
  split
  case h_2 => exact .inl rfl
  rename_i bytes z hb hz
  cases hc : (Nat.ble 1 size && (Nat.ble bytes 1048576 && Nat.beq z.cells.toList.length size)) with
  | false => exact .inl rfl
  | true =>
  simp only [Bool.and_eq_true] at hc
  obtain ⟨c1, c2, c3⟩ := hc
  have c1 : 0 < size := Nat.le_of_ble_eq_true c1
  have c2 := Nat.le_of_ble_eq_true c2
  have c3 := Nat.eq_of_beq_eq_true c3
  simp only [cond_true, fSs_eq, fN_eq]
  rcases intK_or l (fun n => intK c fun m => bif !bltZ n 0 && (!bltZ m n && !bltZ 1048576 m) then
          Int.rec (fun n => replK z.cells.toList n fun cs => newK H cs (Nat.mul n size) fun i H' => k (.slice (some ⟨i, 0, none⟩) n size) H') (fun _ => RC.no) n else RC.no) with h | ⟨n, rfl, h⟩
  · exact .inl h
  rw [h]; clear h
  rcases intK_or c (fun m => bif !bltZ n 0 && (!bltZ m n && !bltZ 1048576 m) then
          Int.rec (fun n => replK z.cells.toList n fun cs => newK H cs (Nat.mul n size) fun i H' => k (.slice (some ⟨i, 0, none⟩) n size) H') (fun _ => RC.no) n else RC.no) with h | ⟨m, rfl, h⟩
  · exact .inl h
  rw [h]; clear h
  cases hd : (!bltZ n 0 && (!bltZ m n && !bltZ 1048576 m)) with
  | false => exact .inl rfl
  | true =>
  simp only [Bool.and_eq_true, Bool.not_eq_true', bltZ_eq, decide_eq_false_iff_not] at hd
  obtain ⟨d1, d2, d3⟩ := hd
  cases n with
  | negSucc n => exact .inl rfl
  | ofNat n =>
  simp only [cond_true, replK_eq]
  have hlen : (repl n z.cells.toList).length = n * size := by rw [repl_length, c3]
  rcases newK_or hH (repl n z.cells.toList) (Nat.mul n size) hlen (fun i H' => k (.slice (some ⟨i, 0, none⟩) n size) H') with h | ⟨H', _, f1, f2, f3⟩
  · exact .inl h
  · refine .inr ⟨_, H', f1, ?_, f3⟩
    have hzs : zeros P e size n = some (repl n z.cells.toList) := by unfold zeros; rw [hz]; simp only [c3, if_true]
    unfold aexec
    rw [ho]
    simp only [he, Option.getD_some, hb, hx, hy]
    rw [if_pos ⟨by omega, by omega, by omega, c1, c2⟩]
    have : (Int.ofNat n).toNat = n := rfl
    rw [this, hzs, f2]
    rfl
end
end Go.Abs
