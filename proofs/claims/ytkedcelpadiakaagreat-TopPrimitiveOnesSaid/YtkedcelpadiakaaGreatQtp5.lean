/- Of the law: texts of its proof, joined (part 5). -/
import Derived.Sort.Grow
import Derived.Test.YtkedcelpadiakaaGreatQtp4
set_option linter.all false
namespace Go.Abs
abbrev Key2 := List Int × List Int
def canS : Nat → List Key2 → List Value
  | _, [] => []
  | j, (r, u) :: l => .slice (some ⟨j, 0, none⟩) r.length 1 :: .slice (some ⟨j + 1, 0, none⟩) u.length 1 :: canS (j + 2) l
def canB : List Key2 → List (List Value)
  | [] => []
  | (r, u) :: l => r.map (.int .i64) :: u.map (.int .i64) :: canB l
def flatE : List (Value × Value) → Option (List Value)
  | [] => some []
  | (.string _, .agg cs) :: r => match cs.toList with
    | [a, b] => (flatE r).map fun l => a :: b :: l
    | _ => none
  | _ => none
noncomputable def ndMapK (d : Nd) (k : List (Value × Value) → RC) : RC := Nd.rec (fun x _ _ => FB.rec RC.no (fun _ _ _ _ => RC.no) (fun _ es _ => k es) (fun _ _ _ _ _ _ _ => RC.no) x) d
noncomputable def preK (P : Program) (call : CallFF) (nt n : Nat) (pre : Code) (slot : Nat) (ays : List Arg) (E : List Key2) : RC :=
  startK ays fun vs H => RC.rec (fun T' H' => (opB 0 [] 0 (.tmp slot)).run [] T' fun p => match p with
    | .pointer (some ⟨pb, 0, none⟩) => cellsK H' pb fun _ _ n t => rowK t 0 n fun cs => match cs with
      | [.map (some mb)] => ndK H' mb fun d => ndMapK d fun es => match flatE es with
        | some fl => matchLs matchS fl (canS 0 E) zeroA 0 fun A m => matchB H' (canB E) 0 A m zeroA
        | none => RC.no
      | _ => RC.no
    | _ => RC.no) (fun _ _ _ => RC.no) (fun _ _ => RC.no) (fun _ _ => RC.no) RC.no RC.no ((cc P 0 nt pre).run ⟨call, n, none⟩ (ofL vs) H)
def PreOK (P : Program) (nt : Nat) (pre : Code) (slot : Nat) (ays : List Arg) (E : List Key2) : Prop :=
  ∃ (call : CallF) (n : Nat) (a' : Fr) (H' : Heap) (pb mb fam : Nat) (own : Bool) (es : List (Value × Value)) (fl : List Value) (acc : List Nat), CallOK P call ∧ CallGrow call ∧ evCode P call n nt none pre (frOf (mkVals 0 ays)) (mkHeap 0 ays) = some (.normal, a', H') ∧ a' slot = .pointer (some ⟨pb, 0, none⟩) ∧
    H'[pb]? = some (.cells fam own [.map (some mb)]) ∧ H'[mb]? = some (.map es) ∧ flatE es = some fl ∧ All2 (MS acc) fl (canS 0 E) ∧ (canB E).length = acc.length ∧
    (∀ (j b : Nat), acc[j]? = some b → ∃ f cs c, H'[b]? = some (.cells f true cs) ∧ (canB E)[j]? = some c ∧ All2 (MS acc) cs c) ∧
    (∀ (i j b c f : Nat) cs ds, i ≠ j → acc[i]? = some b → acc[j]? = some c → H'[b]? = some (.cells f true cs) → H'[c]? = some (.cells f true ds) → False) ∧
    ∀ (b f : Nat) (o : Bool) (cs : List Value), H'[b]? = some (.cells f o cs) → f < H'.length
theorem absH_fam {H : FH} (hH : H.OK) (b f : Nat) (o : Bool) (cs : List Value) (h : (absH H)[b]? = some (.cells f o cs)) : f < (absH H).length := by
  rw [absH_get] at h
  split at h
  · rename_i hb
    have hok := hH.ok b hb
    cases hx : (H.nd b).x with
    | cells fam own n t =>
      rw [hx] at h hok
      injection h with h
      injection h with h1 _ _
      subst h1
      have : (absH H).length = H.n := by simp [absH]
      rw [this]; exact hok.2.1
    | _ => rw [hx] at h; injection h with h; simp [absB] at h
  · cases h
theorem preK_sound {P : Program} {cf : CallFF} {call : CallF} (hc : CallSound cf call) (hok : CallOK P call) (hg : CallGrow call) {nt n slot : Nat} {pre : Code} {ays : List Arg} {E : List Key2} (hlen : ays.length ≤ 100) (h : preK P cf nt n pre slot ays E = RC.skip) : PreOK P nt pre slot ays E := by
  unfold preK startK at h
  generalize hf : (fun (vs : List Value) (H : FH) => _) = f at h
  rcases startR_or ays ⟨0, deadT⟩ f dead_OK with e | ⟨H, hH, habs, e⟩
  · rw [e] at h; cases h
  rw [e] at h
  have habs : absH H = mkHeap 0 ays := by rw [habs]; rfl
  have e0 : mkVals (⟨0, deadT⟩ : FH).n ays = mkVals 0 ays := rfl
  rw [e0] at h
  subst hf
  simp only at h
  have hvl : (mkVals 0 ays).length ≤ 262144 := by
    have : ∀ (ays : List Arg) (k : Nat), (mkVals k ays).length = ays.length := by
      intro ays
      induction ays with
      | nil => intro k; rfl
      | cons a ays ih => intro k; cases a <;> simp [mkVals, ih]
    rw [this]; omega
  have hfra : Fra 0 (frOf (mkVals 0 ays)) (ofL (mkVals 0 ays)) := fun t _ => by rw [den_ofL hvl]
  rcases cc_or (P := P) (L := 0) (nt := nt) (c := ⟨cf, n, none⟩) hc pre _ H _ hfra hH with e2 | ⟨x, T', H', a', h1, h2, h3, h4⟩
  · rw [e2] at h; cases h
  rw [h4] at h
  cases x with
  | exit id => cases h
  | ret => cases h
  | normal =>
    simp only [mkRC] at h
    generalize hg2 : (fun (p : Value) => (_ : RC)) = g at h
    rcases opB_or (FInv.start h3) (.tmp slot) g with e3 | e3
    · rw [e3] at h; cases h
    rw [e3] at h
    subst hg2
    simp only at h
    split at h
    case h_2 => cases h
    rename_i pb hp
    have hp : a' slot = .pointer (some ⟨pb, 0, none⟩) := hp
    rcases cellsK_or H' pb _ with e4 | ⟨fam, own, m, t, hb, hx, e4⟩
    · rw [e4] at h; cases h
    rw [e4] at h
    rw [rowK_eq (t := t) (o := 0) (n := m) (m := m) (by omega)] at h
    have hdr : ((toL m t).drop 0).take m = toL m t := by rw [List.drop_zero, List.take_of_length_le (by rw [toL_length]; exact Nat.le_refl _)]
    rw [hdr] at h
    split at h
    case h_2 => cases h
    rename_i mb hcs
    rw [ndK_eq] at h
    split at h
    case isFalse => cases h
    rename_i hmb
    have hmap : ∃ kk es mt, (H'.nd mb).x = .map kk es mt ∧ (match flatE es with | some fl => matchLs matchS fl (canS 0 E) zeroA 0 fun A m => matchB H' (canB E) 0 A m zeroA | none => RC.no) = RC.skip := by
      unfold ndMapK at h
      cases hd : H'.nd mb with
      | mk x mx ms =>
        rw [hd] at h
        cases x with
        | map kk es mt => exact ⟨kk, es, mt, rfl, h⟩
        | _ => cases h
    obtain ⟨kk, es, mt, hes, h⟩ := hmap
    split at h
    case h_2 => cases h
    rename_i fl hfl
    rcases matchLs_or matchS (M := MS) (fun g _ _ h => h.mono g) (fun v u A m hm k => matchS_or hm k) fl (canS 0 E) zeroA 0 (by omega) (fun A m => matchB H' (canB E) 0 A m zeroA) with e5 | ⟨A, mm, g1, k1, e5⟩
    · rw [e5] at h; cases h
    rw [e5] at h
    obtain ⟨A', m', g2, hlenB, hall, hdis⟩ := matchB_or h1 (canB E) 0 A mm zeroA g1.top h
    have hl : (accL A' m').length = m' := by simp [accL]
    refine ⟨call, n, a', absH H', pb, mb, fam, own, es, fl, accL A' m', hok, hg, by rw [← habs]; exact h2, hp, by rw [cells_abs hb hx, hcs], ?_, hfl, k1.mono fun _ _ h => h.mono g2, by rw [hl]; omega, ?_, ?_, absH_fam h1⟩
    · rw [absH_get, if_pos hmb, hes]; rfl
    · intro j b hj
      have hjm : j < (canB E).length := by have := lt_of_get hj; rw [hl] at this; omega
      obtain ⟨b', fam, n, t, c, z1, z2, z3, z4, z5, _⟩ := hall j hjm
      rw [Nat.zero_add, hj] at z1
      cases z1
      exact ⟨fam, toL n t, c, cells_abs z2 z3, z4, z5⟩
    · intro i j b c f cs ds hij h1 h2 h3 h4
      have him : i < (canB E).length := by have := lt_of_get h1; rw [hl] at this; omega
      have hjm : j < (canB E).length := by have := lt_of_get h2; rw [hl] at this; omega
      obtain ⟨b', fam, n, t, c', z1, z2, z3, _⟩ := hall i him
      obtain ⟨b2, fam2, n2, t2, c2, y1, y2, y3, _⟩ := hall j hjm
      rw [Nat.zero_add, h1] at z1
      cases z1
      rw [Nat.zero_add, h2] at y1
      cases y1
      rw [cells_abs z2 z3] at h3
      rw [cells_abs y2 y3] at h4
      cases h3
      cases h4
      rcases Nat.lt_or_gt_of_ne hij with hlt | hlt
      · exact hdis i j b c _ n n2 t t2 hlt hjm (by rw [Nat.zero_add]; exact h1) (by rw [Nat.zero_add]; exact h2) z3 y3
      · exact hdis j i c b _ n2 n t2 t hlt him (by rw [Nat.zero_add]; exact h2) (by rw [Nat.zero_add]; exact h1) y3 z3
end Go.Abs
namespace Go.Abs
section
variable {P : Program} {nt lo : Nat} {call : CallF} {m : Mp} {H H' : Heap} {w : World} {a a' : Fr} {tmps : Array Value} {ds : List Deferred}
theorem St.head (hcall : CallOK P call) (hdraw : DrawOK P call nt) {b : Frame} (hb : b.roundOf = none) {kk : Nat} {c d : Code} (hok : codeOk nt c = true) (h : evCode P call kk nt none c a H = some (.normal, a', H')) (s : St nt lo m H w a tmps ds) (k : List Item) (cs : List Frame) :
    ∃ m' w' tmps' ds', Sim m H w m' H' w' ∧ St nt lo m' H' w' a' tmps' ds' ∧ Steps P (lone (onF b tmps ds (.code (.seq c d) :: k)) cs w) (lone (onF b tmps' ds' (.code d :: k)) cs w') := by
  obtain ⟨m1, w1, t1, d1, s1, s2, s3⟩ := s.code hcall hdraw hb hok h (.code d :: k) cs
  exact ⟨m1, w1, t1, d1, s1, s2, .head st_seq s3⟩
theorem line_rel {f : Nat} {fn : Func} {c : Code} (hfn : P.funcs[f]? = some fn) (hbody : fn.body = some c) (hok : fn.results.toList.all (resOk fn.ntmps) = true) (hent : ∀ args w, (callFunc f args).run P w = .ok (.enter f args) w) {ays : List Arg} (hle : (mkVals 0 ays).length ≤ fn.ntmps) {r : Res} {Q : Fr → Heap → Prop}
    (run : ∀ (m : Mp) (w : World), Rel m (mkHeap 0 ays) w → ∀ (b : Frame), b.roundOf = none → ∀ tmps, St fn.ntmps w.heap.size m (mkHeap 0 ays) w (frOf (mkVals 0 ays)) tmps [] → ∀ cs, ∃ m' H' w' a' tmps' ds' k', St fn.ntmps w.heap.size m' H' w' a' tmps' ds' ∧ Sim m (mkHeap 0 ays) w m' H' w' ∧ Q a' H' ∧ Steps P (lone (onF b tmps [] [.code c]) cs w) (lone (onF b tmps' ds' (.code .ret :: k')) cs w'))
    (hres : ∀ a' H', Q a' H' → ∃ rs, resList P a' H' fn.results.toList = some rs ∧ ∃ acc, GoodRes acc H' (pack rs) r) : LineOK P f ays r := by
  intro ms w args' hR hargs
  have hc := func_rel (P := P) trivial hfn hbody hok hle hR hargs (Q := Q) (R := fun v H' => ∃ acc, GoodRes acc H' v r) (run ms w hR) hres
  refine ⟨.enter f args', Frame.enter P f args' .normal, ?_, .enter _ _, fun fr cs' => ?_⟩
  · have := hent args' w
    simpa [Deferred.ofValue, invoke] using this
  · obtain ⟨e, w2, fr2, ⟨m', H', v, v', rfl, h1, h2, acc, h3⟩, q1, _, q2⟩ := hc (fr :: cs')
    exact ⟨acc, v, H', m', w2, v', h3, h1, h2, Steps.trans q1 (.one (step_leave_returned q2))⟩
end
end Go.Abs
namespace Go.Abs
open Go.Sort
section
variable {P : Program}
def sortN (F : Nat) : CallF := fun fv args H => match fv, args with
  | .func (.func f) fs cap, [.slice none 0 0, .func (.func _) fs' _] =>
    if f = F ∧ (fs.isEmpty && cap.isEmpty && fs'.isEmpty) = true then some (.tuple #[], H) else none
  | _, _ => none
theorem sortN_ok {F : Nat} (hent : ∀ args w, (callFunc F args).run P w = .ok (.enter F args) w) (hS : ∀ (fv : Value) (w : World), Calls P F #[.slice none 0 0, fv] w fun e w' => e = .returned (.tuple #[]) ∧ w' = w) : CallOK P (sortN F) := by
  intro fv args H v H' h m w fv' args' hR hfv hargs
  unfold sortN at h
  split at h
  case h_2 => cases h
  rename_i f fs0 cap0 g fs1 cap1
  split at h
  case isFalse => cases h
  rename_i hc
  obtain ⟨rfl, hem⟩ := hc
  simp only [Bool.and_eq_true, Array.isEmpty_iff] at hem
  obtain ⟨⟨rfl, rfl⟩, rfl⟩ := hem
  injection h with h
  injection h with h1 h2
  subst h1; subst h2
  obtain rfl : fv' = .func (.func f) #[] #[] := by
    cases hfv with
    | a h => cases h with
      | s h => cases h with
        | func _ _ cap' hc =>
          have : cap' = #[] := by cases cap' with | mk l => cases hc; rfl
          rw [this]
  have hargs2 : ∃ fv2, args' = #[.slice none 0 0, fv2] := by
    cases args' with
    | mk ays =>
      cases hargs with
      | cons ha hb =>
        cases hb with
        | cons hb hc =>
          cases hc
          cases ha with
          | a ha => cases ha with
            | s ha => cases ha with
              | sliceNil => exact ⟨_, rfl⟩
  obtain ⟨fv2, rfl⟩ := hargs2
  refine ⟨.enter f #[.slice none 0 0, fv2], Frame.enter P f #[.slice none 0 0, fv2] .normal, ?_, .enter _ _, fun fr cs' => ?_⟩
  · have := hent #[.slice none 0 0, fv2] w
    simpa [Deferred.ofValue, invoke] using this
  · obtain ⟨e, w2, fr2, ⟨rfl, rfl⟩, k1, _, k2⟩ := hS fv2 w (fr :: cs')
    exact ⟨m, w2, .tuple #[], .refl hR, .tuple .nil, Steps.trans k1 (.one (step_leave_returned k2))⟩
theorem sortN_grow {F : Nat} : CallGrow (sortN F) := by
  intro fv args H v H' h
  unfold sortN at h
  split at h
  case h_2 => cases h
  split at h
  case isFalse => cases h
  injection h with h
  injection h with h1 h2
  subst h2
  exact Nat.le_refl _
end
end Go.Abs
