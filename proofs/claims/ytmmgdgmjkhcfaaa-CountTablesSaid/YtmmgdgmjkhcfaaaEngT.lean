/- Contracts: a table of what calls answer, each line of it seen over a small heap, is sound. -/
import Derived.Test.YtmmgdgmjkhcfaaaEngS
namespace Go.Abs
abbrev Res := Value × List (List Value)
/-- The same value, but that the second one's places are numbers in a list of blocks. -/
def MS (acc : List Nat) (v u : Value) : Prop := (immOk v = true ∧ u = v) ∨ ∃ b j o n e, v = .slice (some ⟨b, o, none⟩) n e ∧ u = .slice (some ⟨j, o, none⟩) n e ∧ acc[j]? = some b
def MA (acc : List Nat) (v u : Value) : Prop := (∃ cs ds : Array Value, v = .agg cs ∧ u = .agg ds ∧ All2 (MS acc) cs.toList ds.toList) ∨ MS acc v u
def MV (acc : List Nat) (v u : Value) : Prop := (∃ cs ds : Array Value, v = .tuple cs ∧ u = .tuple ds ∧ All2 (MA acc) cs.toList ds.toList) ∨ MA acc v u
/-- A call's answer, and what it made, as the line of a table. -/
structure GoodRes (acc : List Nat) (H : Heap) (v : Value) (r : Res) : Prop where
  val : MV acc v r.1
  len : r.2.length = acc.length
  blk : ∀ (j b : Nat), acc[j]? = some b → ∃ fam cs c, H[b]? = some (.cells fam true cs) ∧ r.2[j]? = some c ∧ All2 (MS acc) cs c
  fam : ∀ (i j b c f : Nat) cs ds, i ≠ j → acc[i]? = some b → acc[j]? = some c → H[b]? = some (.cells f true cs) → H[c]? = some (.cells f true ds) → False
def LineOK (P : Program) (f : Nat) (as : List Arg) (r : Res) : Prop := ∃ call v H acc, CallOK P call ∧ call (.func (.func f) #[] #[]) (mkVals 0 as) (mkHeap 0 as) = some (v, H) ∧ GoodRes acc H v r
def mkBlks (d j : Nat) : List (List Value) → Option Heap
  | [] => some []
  | cs :: r => match mapO (renS fun b => some (b + d)) cs, mkBlks d (j + 1) r with
    | some c, some l => some (.cells j true c :: l)
    | _, _ => none
/-- Calls by a table. -/
def tabC (spec : Nat → List Arg → Option Res) : CallF := fun fv args H =>
  match fv with
  | .func (.func f) first captured =>
    if first.isEmpty && captured.isEmpty then
      match mapO (readArg H) args with
      | some as => match spec f as with
        | some (v, bs) => match renV (fun b => some (b + H.length)) v, mkBlks H.length H.length bs with
          | some v, some l => some (v, H ++ l)
          | _, _ => none
        | none => none
      | none => none
    else none
  | _ => none
section
variable {acc : List Nat} {ma mb : Mp} (hr : ∀ b j l, acc[j]? = some b → ma b = some l → mb j = some l)
include hr
theorem MS.sound {v u w : Value} (h : MS acc v u) (hv : SR ma v w) : SR mb u w := by
  rcases h with ⟨hi, rfl⟩ | ⟨b, j, o, n, e, rfl, rfl, hb⟩
  · unfold immOk at hi
    split at hi
    · cases hv; exact .bool _
    · cases hv; exact .int _ _
    · cases hv; exact .string _
    · cases hv; exact .sliceNil
    · cases hv; exact .lost _ _ _ _
    · cases hi
  · cases hv with
    | slice b o n e c l hl h1 h2 => exact .slice j o n e c l (hr _ _ _ hb hl) h1 h2
omit hr in
theorem All2.comp {R S : Value → Value → Prop} {M : Value → Value → Prop} (hf : ∀ v u w, M v u → R v w → S u w) : ∀ {l l2 l' : List Value}, All2 M l l2 → All2 R l l' → All2 S l2 l' := by
  intro l l2 l' h
  induction h generalizing l' with
  | nil => intro hl; cases hl; exact .nil
  | cons h t ih => intro hl; cases hl with | cons hx ht => exact .cons (hf _ _ _ h hx) (ih ht)
theorem MA.sound {v u w : Value} (h : MA acc v u) (hv : AR ma v w) : AR mb u w := by
  rcases h with ⟨cs, ds, rfl, rfl, h⟩ | h
  · cases hv with
    | s h => cases h
    | agg h2 => exact .agg (h.comp (R := SR ma) (S := SR mb) (fun v u w h1 h2 => MS.sound hr h1 h2) h2)
  · cases hv with
    | s hv => exact .s (MS.sound hr h hv)
    | agg hv =>
      rcases h with ⟨hi, _⟩ | ⟨b, j, o, n, e, h, _, _⟩
      · simp [immOk] at hi
      · cases h
theorem MV.sound {v u w : Value} (h : MV acc v u) (hv : VR ma v w) : VR mb u w := by
  rcases h with ⟨cs, ds, rfl, rfl, h⟩ | h
  · cases hv with
    | a h => cases h with | s h => cases h
    | tuple h2 => exact .tuple (h.comp (R := AR ma) (S := AR mb) (fun v u w h1 h2 => MA.sound hr h1 h2) h2)
  · cases hv with
    | a hv => exact .a (MA.sound hr h hv)
    | tuple hv =>
      rcases h with ⟨cs, ds, h, _, _⟩ | ⟨hi, _⟩ | ⟨b, j, o, n, e, h, _, _⟩
      · cases h
      · simp [immOk] at hi
      · cases h
end
theorem mkBlks_get {d : Nat} : ∀ {bs : List (List Value)} {j : Nat} {l : Heap}, mkBlks d j bs = some l → l.length = bs.length ∧ ∀ (i : Nat) (x : Blk), l[i]? = some x → ∃ cs c, bs[i]? = some cs ∧ mapO (renS fun b => some (b + d)) cs = some c ∧ x = .cells (j + i) true c := by
  intro bs
  induction bs with
  | nil => intro j l h; cases h; exact ⟨rfl, fun i x h => by simp at h⟩
  | cons cs bs ih =>
    intro j l h
    unfold mkBlks at h
    split at h
    case h_2 => cases h
    rename_i c l2 h1 h2
    cases h
    obtain ⟨e1, e2⟩ := ih h2
    refine ⟨by simp [e1], fun i x hx => ?_⟩
    cases i with
    | zero => simp at hx; subst hx; exact ⟨cs, c, rfl, h1, rfl⟩
    | succ i =>
      obtain ⟨cs2, c2, z1, z2, z3⟩ := e2 i x (by simpa using hx)
      exact ⟨cs2, c2, by simpa using z1, z2, by rw [z3]; congr 1; omega⟩
theorem mapO_get {f : Value → Option Value} : ∀ {l l2 : List Value}, mapO f l = some l2 → l2.length = l.length ∧ ∀ (i : Nat) (y : Value), l2[i]? = some y → ∃ x, l[i]? = some x ∧ f x = some y := by
  intro l
  induction l with
  | nil => intro l2 h; cases h; exact ⟨rfl, fun i y h => by simp at h⟩
  | cons x xs ih =>
    intro l2 h
    unfold mapO at h
    split at h
    case h_2 => cases h
    rename_i y ys h1 h2
    cases h
    obtain ⟨e1, e2⟩ := ih h2
    refine ⟨by simp [e1], fun i z hz => ?_⟩
    cases i with
    | zero => simp at hz; subst hz; exact ⟨x, rfl, h1⟩
    | succ i => simpa using e2 i z (by simpa using hz)
section
variable {P : Program}
theorem tabC_grow (spec : Nat → List Arg → Option Res) : CallGrow (tabC spec) := by
  intro fv args H v H' h
  unfold tabC at h
  split at h
  case h_2 => cases h
  split at h
  case isFalse => cases h
  split at h
  case h_2 => cases h
  split at h
  case h_2 => cases h
  split at h
  case h_2 => cases h
  cases h
  simp
theorem tabC_ok {spec : Nat → List Arg → Option Res} (hs : ∀ f as r, spec f as = some r → LineOK P f as r) : CallOK P (tabC spec) := by
  intro fv args H v H' h m w fv' args' hR hfv hargs
  unfold tabC at h
  split at h
  case h_2 => cases h
  rename_i f first captured
  split at h
  case isFalse => cases h
  rename_i hemp
  simp only [Bool.and_eq_true, Array.isEmpty_iff] at hemp
  obtain ⟨rfl, rfl⟩ := hemp
  split at h
  case h_2 => cases h
  rename_i as has
  split at h
  case h_2 => cases h
  rename_i v0 bs hspec
  split at h
  case h_2 => cases h
  rename_i v1 l hv1 hl
  injection h with h; injection h with e1 e2; subst e1; subst e2
  have hfv2 : fv' = .func (.func f) #[] #[] := by
    cases hfv with
    | a h => cases h with
      | s h => cases h with
        | func f cap cap' hc =>
          cases cap' with | mk cap' =>
          cases hc with | nil => rfl
  subst hfv2
  obtain ⟨locs, la, lb, lc⟩ := args_rel hR 0 has hargs
  obtain ⟨call, v2, Hs', acc, hcall, hr2, good⟩ := hs _ _ _ hspec
  -- the small heap in the world
  let ms : Mp := fun b => locs[b]?
  have hms : All2 (VR ms) (mkVals 0 as) args'.toList := lc ms fun i hi => by simp [ms]
  have hnone : ∀ g, ¬ Owned ms (mkHeap 0 as) g := by
    rintro g ⟨b, x, l, h1, h2, h3, _⟩
    have := (lb b x l h1 h2).1
    rw [this] at h3; cases h3
  have hRs : Rel ms (mkHeap 0 as) w := {
    len := fun b l hb => by have := lt_of_get hb; omega
    has := fun b x hx _ => by
      have := lt_of_get hx
      exact ⟨locs[b]'(by omega), List.getElem?_eq_getElem _⟩
    bnd := fun b l hb => by
      have := lt_of_get hb
      exact (lb b _ l (List.getElem?_eq_getElem (by omega)) hb).2.1
    blk := fun b x l hx hb => (lb b x l hx hb).2.2 ms
    sep := fun b c x y l k _ hx hy hb hc ho => by have := (lb b x l hx hb).1; rw [this] at ho; cases ho }
  obtain ⟨nx, sf, m', w', v', r1, r2, r3, r4, r5⟩ := hcall _ _ _ _ _ hr2 ms w (.func (.func f) #[] #[]) args' hRs (.a (.s (.func f _ _ .nil))) hms
  -- the new blocks' places
  let m1 : Mp := fun j => (acc[j]?).bind m'
  let m2 : Mp := fun b => if b < H.length then m b else m1 (b - H.length)
  have c1 : ∀ b b' l, acc[b']? = some b → m' b = some l → m1 b' = some l := fun b b' l h1 h2 => by simp [m1, h1, h2]
  have c2 : ∀ b b' l, (fun b => some (b + H.length)) b = some b' → m1 b = some l → m2 b' = some l := fun b b' l h1 h2 => by
    have h1 : b + H.length = b' := Option.some.inj h1
    subst h1
    show (if b + H.length < H.length then m (b + H.length) else m1 (b + H.length - H.length)) = some l
    rw [if_neg (by omega), Nat.add_sub_cancel]
    exact h2
  have hval : VR m2 v1 v' := renV_sound c2 hv1 (good.val.sound c1 r4)
  obtain ⟨ll, lg⟩ := mkBlks_get hl
  have hmold : ∀ b, b < H.length → m2 b = m b := fun b hb => by simp [m2, hb]
  have hext : Ext m m2 := fun b l hb => by rw [hmold b (hR.len b l hb)]; exact hb
  -- a new block
  have new : ∀ (b : Nat) x k, H.length ≤ b → (H ++ l)[b]? = some x → m2 b = some k → ∃ b0 fam cs c c2 j, b = H.length + j ∧ acc[j]? = some b0 ∧ Hs'[b0]? = some (.cells fam true cs) ∧ m' b0 = some k ∧ All2 (MS acc) cs c ∧ mapO (renS fun b => some (b + H.length)) c = some c2 ∧ x = .cells (H.length + j) true c2 := by
    intro b x k hb hx hk
    obtain ⟨j, rfl⟩ : ∃ j, b = H.length + j := ⟨b - H.length, by omega⟩
    rw [List.getElem?_append_right (by omega)] at hx
    have hx : l[j]? = some x := by simpa using hx
    obtain ⟨cs2, c2', z1, z2, z3⟩ := lg j x hx
    have hk2 : m1 j = some k := by
      have e : m2 (H.length + j) = m1 j := by
        show (if H.length + j < H.length then m (H.length + j) else m1 (H.length + j - H.length)) = _
        rw [if_neg (by omega), Nat.add_sub_cancel_left]
      rw [← e]; exact hk
    cases ha : acc[j]? with
    | none => simp [m1, ha] at hk2
    | some b0 =>
      obtain ⟨fam, cs, c, y1, y3, y2⟩ := good.blk j b0 ha
      have hk3 : m' b0 = some k := by simpa [m1, ha] using hk2
      have z1 : bs[j]? = some cs2 := z1
      rw [show (v0, bs).2 = bs from rfl] at y3
      rw [y3] at z1
      cases z1
      exact ⟨b0, fam, cs, _, c2', j, rfl, ha, y1, hk3, y2, z2, z3⟩
  have old : ∀ (b : Nat) x, b < H.length → (H ++ l)[b]? = some x → H[b]? = some x := fun b x hb hx => by rwa [List.getElem?_append_left hb] at hx
  have fresh : ∀ b0 x k, Hs'[b0]? = some x → m' b0 = some k → x.owned = true → w.heap.size ≤ k.g := fun b0 x k h1 h2 h3 => by
    rcases r3.fresh k.g ⟨b0, x, k, h1, h2, h3, rfl⟩ with h | h
    · exact absurd h (hnone _)
    · exact h
  have same : ∀ g, g < w.heap.size → w'.heap[g]? = w.heap[g]? := fun g hg => r3.keep.block g hg (hnone g)
  refine ⟨nx, sf, m2, w', v', r1, r2, ⟨hext, ?_, ?_, ?_, by simp, ?_⟩, hval, r5⟩
  · constructor
    · intro b k hb
      by_cases hlt : b < H.length
      · simp; omega
      · simp only [m2, if_neg hlt] at hb
        cases ha : acc[b - H.length]? with
        | none => simp [m1, ha] at hb
        | some b0 =>
          have := lt_of_get ha
          have hgl := good.len
          simp [ll]
          simp at hgl
          omega
    · intro b x hx hlive
      by_cases hlt : b < H.length
      · obtain ⟨k, hk⟩ := hR.has b x (old b x hlt hx) hlive
        exact ⟨k, by rw [hmold b hlt]; exact hk⟩
      · have hb := lt_of_get hx
        simp [ll] at hb
        have hgl := good.len
        simp at hgl
        have hj : b - H.length < acc.length := by omega
        obtain ⟨fam, cs, c, y1, y2, y3⟩ := good.blk (b - H.length) _ (List.getElem?_eq_getElem hj)
        obtain ⟨k, hk⟩ := r3.rel.has _ _ y1 rfl
        exact ⟨k, by simp [m2, hlt, m1, List.getElem?_eq_getElem hj, hk]⟩
    · intro b k hb
      by_cases hlt : b < H.length
      · rw [hmold b hlt] at hb
        exact Nat.lt_of_lt_of_le (hR.bnd b k hb) r3.keep.size
      · simp only [m2, if_neg hlt, m1] at hb
        cases ha : acc[b - H.length]? with
        | none => simp [ha] at hb
        | some b0 => rw [ha] at hb; exact r3.rel.bnd b0 k hb
    · intro b x k hx hk
      by_cases hlt : b < H.length
      · rw [hmold b hlt] at hk
        exact (hR.blk b x k (old b x hlt hx) hk).keep hext fun _ => same _ (hR.bnd b k hk)
      · obtain ⟨b0, fam, cs, c, c2', j, rfl, z1, z2, z3, z4, z5, rfl⟩ := new b x k (by omega) hx hk
        obtain ⟨C, el, fr, q1, q2, q3, q4⟩ := r3.rel.blk b0 _ k z2 z3
        refine ⟨C, el, fr, q1, q2, q3, fun i y hy => ?_⟩
        obtain ⟨y1, e1, e2⟩ := (mapO_get z5).2 i y hy
        obtain ⟨y2, e3, e4⟩ := z4.getR i y1 e1
        obtain ⟨y3, e5, e6⟩ := q4 i y2 e3
        exact ⟨y3, e5, renS_sound c2 e2 (e4.sound c1 e6)⟩
    · intro b c x y kb kc hne hx hy hb hc hox hly hg
      by_cases h1 : b < H.length
      · by_cases h2 : c < H.length
        · rw [hmold b h1] at hb; rw [hmold c h2] at hc
          exact hR.sep b c x y kb kc hne (old b x h1 hx) (old c y h2 hy) hb hc hox hly hg
        · obtain ⟨c0, fam, cs, c1', c2', j, rfl, z1, z2, z3, _⟩ := new c y kc (by omega) hy hc
          rw [hmold b h1] at hb
          have e1 := hR.bnd b kb hb
          have e2 := fresh _ _ _ z2 z3 rfl
          omega
      · obtain ⟨b0, fam, cs, c1', c2', j, rfl, z1, z2, z3, z4, z5, z6⟩ := new b x kb (by omega) hx hb
        by_cases h2 : c < H.length
        · rw [hmold c h2] at hc
          have e1 := hR.bnd c kc hc
          have e2 := fresh _ _ _ z2 z3 rfl
          omega
        · obtain ⟨c0, fam', cs', d1, d2, j', rfl, y1, y2, y3, y4, y5, y6⟩ := new c y kc (by omega) hy hc
          have hfam : fam ≠ fam' := fun e => by subst e; exact good.fam j j' _ _ _ _ _ (by omega) z1 y1 z2 y2
          have hbc : b0 ≠ c0 := fun e => by
            subst e
            rw [z2] at y2
            injection y2 with y2
            injection y2 with y2
            exact hfam y2
          have := r3.rel.sep b0 c0 _ _ kb kc hbc z2 y2 z3 y3 rfl rfl hg
          exact absurd this.1 hfam
  · exact ⟨r3.keep.os, r3.keep.tape, r3.keep.output, r3.keep.size, fun g hg _ => same g hg⟩
  · rintro g ⟨b, x, k, h1, h2, h3, h4⟩
    by_cases hlt : b < H.length
    · rw [hmold b hlt] at h2
      exact .inl ⟨b, x, k, old b x hlt h1, h2, h3, h4⟩
    · obtain ⟨b0, fam, cs, c, c2', j, rfl, z1, z2, z3, _⟩ := new b x k (by omega) h1 h2
      have := fresh _ _ _ z2 z3 rfl
      exact .inr (by omega)
  · intro b k hb
    by_cases hlt : b < H.length
    · rw [hmold b hlt] at hb
      exact .inl ⟨b, k, hb, rfl⟩
    · simp only [m2, if_neg hlt, m1] at hb
      cases ha : acc[b - H.length]? with
      | none => simp [ha] at hb
      | some b0 =>
        rw [ha] at hb
        obtain ⟨fam, cs, c, y1, _⟩ := good.blk _ b0 ha
        exact .inr (fresh _ _ _ y1 hb rfl)
end
end Go.Abs
