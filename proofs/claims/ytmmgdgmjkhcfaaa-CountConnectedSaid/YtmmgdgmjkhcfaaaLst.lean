/- A law over one list of numbers: its cases. -/
import Derived.Test.YtmmgdgmjkhcfaaaRow
import Derived.Test.YtmmgdgmjkhcfaaaFa3
set_option linter.all false
namespace Go.Proofs.Ytmmgdgmjkhcfaaa
open Go Go.Abs Go.RowKit
abbrev S (b n : Nat) : Value := .slice (some ⟨b, 0, none⟩) n 1
noncomputable def runO (os : List Ora) (sp : Abs.Spec) : CallFF := evF Try.prog okN (oraF os (tabF sp)) 200
theorem toL_ints {l : List Int} (h : l.length ≤ 40) : toL l.length (ofL (ints l)) = ints l := by
  have := ofL_toL (l := ints l) (by rw [ints_len]; omega)
  rwa [ints_len] at this
theorem read_ints (G : Heap) (b fam : Nat) (l : List Int) (h : G[b]? = some (.cells fam false (ints l))) : readArg G (S b l.length) = some (.li (ints l)) := by
  have hall : ((ints l).drop 0).all plain = true := by
    rw [List.drop_zero, List.all_eq_true]
    intro v hv
    obtain ⟨z, _, rfl⟩ := List.mem_map.1 hv
    rfl
  unfold readArg
  simp only [h]
  rw [if_pos ⟨by rw [ints_len]; omega, hall⟩, List.drop_zero, List.take_of_length_le (by rw [ints_len]; exact Nat.le_refl _)]
theorem ora_ok {G : Heap} {b fam g : Nat} {l : List Int} {v : Value} (h : G[b]? = some (.cells fam false (ints l))) (hv : immV v = true) (hl : LineOK Try.prog g [.li (ints l)] (v, [])) : OraOK Try.prog G ⟨g, [S b l.length], v⟩ :=
  ⟨hv, [.li (ints l)], by unfold mapO; rw [read_ints G b fam l h]; rfl, hl⟩
/-- What is known of a list that is refused, of one that is valid. -/
def osBad (b n : Nat) (e : Int) : List Ora := [⟨14, [S b n], .bool false⟩, ⟨16, [S b n], vi e⟩, ⟨44, [S b n], vi e⟩]
def osGood (b n : Nat) (s : Int) : List Ora := [⟨14, [S b n], .bool false⟩, ⟨16, [S b n], vi 0⟩, ⟨44, [S b n], vi 0⟩, ⟨17, [S b n], vi s⟩, ⟨60, [S b n], vi s⟩]
theorem long_no {l : List Int} (h : l.length ≤ 40) : LineOK Try.prog 14 [.li (ints l)] (.bool false, []) := by
  have := long_line l
  rwa [show decide (40 < l.length) = false from decide_eq_false (by omega)] at this
theorem osBad_ok {G : Heap} {b fam : Nat} {l : List Int} (h : G[b]? = some (.cells fam false (ints l))) (hl : l.length ≤ 40) : ∀ o ∈ osBad b l.length (chk l), OraOK Try.prog G o := by
  intro o ho
  simp only [osBad, List.mem_cons, List.not_mem_nil, or_false] at ho
  rcases ho with rfl | rfl | rfl
  · exact ora_ok h rfl (long_no hl)
  · exact ora_ok h rfl (rck_line l hl)
  · exact ora_ok h rfl (cck_line l hl)
theorem osGood_ok {G : Heap} {b fam : Nat} {l : List Int} (h : G[b]? = some (.cells fam false (ints l))) (hc : chk l = 0) : ∀ o ∈ osGood b l.length l.sum, OraOK Try.prog G o := by
  obtain ⟨h1, h2, _⟩ := chk_zero hc
  have hr := chkGo_none h2
  have hl : l.length ≤ 40 := by omega
  intro o ho
  simp only [osGood, List.mem_cons, List.not_mem_nil, or_false] at ho
  rcases ho with rfl | rfl | rfl | rfl | rfl
  · exact ora_ok h rfl (long_no hl)
  · exact ora_ok h rfl (by have := rck_line l hl; rwa [hc] at this)
  · exact ora_ok h rfl (by have := cck_line l hl; rwa [hc] at this)
  · exact ora_ok h rfl (rsz_line l hl hr)
  · exact ora_ok h rfl (csz_line l hl hr)
def Law (f : Nat) (w : World) (args : Array Value) : Prop := Calls Try.prog f args w fun e w' => e = .returned (.bool true) ∧ Below w.heap.size w w'
theorem one_row {sp' : Abs.Spec} (h : Ok sp') {f : Nat} (hbig : ∀ m, Abs.topB Try.prog okN (run sp') 200 f [.big (m + 41)] = RC.skip)
    (hnil : Abs.topC Try.prog okN (run sp') 200 f [.imm nilV] = RC.skip) (hlost : Abs.topC Try.prog okN (run sp') 200 f [.imm lostSlice] = RC.skip)
    (hbad : ∀ t e, e = 2 ∨ e = 8 ∨ e = 9 → allK (List.range 41) (fun n => Abs.topO Try.prog okN (runO (osBad 0 n e) sp') 200 f [.op n t]) = RC.skip)
    (hgood : ∀ (l : List Int), 0 < l.length → chk l = 0 → ∀ (w : World) (args : Array Value), All2 (ArgAt w) [.li (ints l)] args.toList → Law f w args)
    {w : World} {a : Option Addr} {len cap : Nat} {zs : List Int} (hr : Row .i64 w a len cap zs) : Law f w #[.slice a len cap] := by
  rcases row_at hr with ha | ha | ⟨l, hl, ha⟩
  · exact h.topC hF hmix hnil (.cons ha .nil)
  · exact h.topC hF hmix hlost (.cons ha .nil)
  · by_cases h40 : 40 < l.length
    · have hb := BAt.of ha
      rw [ints_len, show l.length = (l.length - 41) + 41 from by omega] at hb
      exact h.topB hF hmix (hbig (l.length - 41)) (.cons hb .nil)
    · have h40 : l.length ≤ 40 := by omega
      have bad : chk l = 2 ∨ chk l = 8 ∨ chk l = 9 → Law f w #[.slice a len cap] := fun hc => by
        have hk := allK_get (hbad (ofL (ints l)) (chk l) hc) l.length (List.mem_range.2 (by omega))
        have ho : ∀ o ∈ osBad 0 l.length (chk l), OraOK Try.prog (mkHeap 0 ([OArg.op l.length (ofL (ints l))].map OArg.arg)) o := osBad_ok (fam := 0) (by simp [OArg.arg, mkHeap, toL_ints h40]) h40
        refine h.topO hF hmix ho hk (.cons ?_ .nil)
        show ArgAt w (.li (toL l.length (ofL (ints l)))) _
        rw [toL_ints h40]; exact ha
      rcases chk_cases l with hc | hc
      · exact hgood l hl hc w _ (.cons ha .nil)
      · exact bad hc
/-- A valid list whose size alone is asked. -/
theorem good_row {sp : Abs.Spec} (h : Ok sp) {f : Nat} {l : List Int} (hc : chk l = 0) (hs : ∀ t, Abs.topO Try.prog okN (runO (osGood 0 l.length l.sum) sp) 200 f [.op l.length t] = RC.skip)
    {w : World} {args : Array Value} (ha : All2 (ArgAt w) [.li (ints l)] args.toList) : Law f w args := by
  have h40 : l.length ≤ 40 := by have := (chk_zero hc).1; omega
  have ho : ∀ o ∈ osGood 0 l.length l.sum, OraOK Try.prog (mkHeap 0 ([OArg.op l.length (ofL (ints l))].map OArg.arg)) o := osGood_ok (fam := 0) (by simp [OArg.arg, mkHeap, toL_ints h40]) hc
  refine h.topO hF hmix ho (hs (ofL (ints l))) ?_
  show All2 (ArgAt w) [.li (toL l.length (ofL (ints l)))] args.toList
  rw [toL_ints h40]; exact ha
theorem all_of {α : Type} {f : α → RC} : ∀ {l : List α}, (∀ x ∈ l, f x = RC.skip) → allK l f = RC.skip := by
  intro l
  induction l with
  | nil => intro _; rfl
  | cons x l ih =>
    intro h
    show (RC.rec (fun _ _ => RC.no) (fun _ _ _ => RC.no) (fun _ _ => RC.no) (fun _ _ => RC.no) (allK l f) RC.no (f x) : RC) = RC.skip
    rw [h x (List.mem_cons_self ..)]
    exact ih fun y hy => h y (List.mem_cons_of_mem _ hy)
theorem all_split {α : Type} {f : α → RC} {l : List α} (k : Nat) (h1 : allK (l.take k) f = RC.skip) (h2 : allK (l.drop k) f = RC.skip) : allK l f = RC.skip := by
  refine all_of fun x hx => ?_
  rw [← List.take_append_drop k l] at hx
  rcases List.mem_append.1 hx with h | h
  · exact allK_get h1 x h
  · exact allK_get h2 x h
theorem ints_nat (p : List Nat) : ints (p.map Int.ofNat) = p.map posV := by unfold ints; rw [List.map_map]; rfl
/-- A law over one list: the valid ones up to a size by a run of each, the others by what is known of them. -/
theorem one_list {sp' sp : Abs.Spec} (h' : Ok sp') (h : Ok sp) {f : Nat} (most : Nat) (hm : most ≤ 20) (hbig : ∀ m, Abs.topB Try.prog okN (run sp') 200 f [.big (m + 41)] = RC.skip)
    (hnil : Abs.topC Try.prog okN (run sp') 200 f [.imm nilV] = RC.skip) (hlost : Abs.topC Try.prog okN (run sp') 200 f [.imm lostSlice] = RC.skip)
    (hbad : ∀ t e, e = 2 ∨ e = 8 ∨ e = 9 → allK (List.range 41) (fun n => Abs.topO Try.prog okN (runO (osBad 0 n e) sp') 200 f [.op n t]) = RC.skip)
    (hlarge : ∀ t, allK (List.range 21) (fun n => allK (List.range (20 - most)) fun s => Abs.topO Try.prog okN (runO (osGood 0 n (Int.ofNat (s + (most + 1)))) sp') 200 f [.op n t]) = RC.skip)
    (hsmall : ∀ n, 0 < n → n ≤ most → allK (prt n) (fun p => Abs.topC Try.prog okN (run sp) 200 f [L p]) = RC.skip)
    {w : World} {a : Option Addr} {len cap : Nat} {zs : List Int} (hr : Row .i64 w a len cap zs) : Law f w #[.slice a len cap] := by
  refine one_row h' hbig hnil hlost hbad (fun l hl hc w args ha => ?_) hr
  obtain ⟨h0, h20, p, hp, rfl⟩ := prt_mem hc
  by_cases hs : (p.map Int.ofNat).sum ≤ most
  · have hpos : 0 < (p.map Int.ofNat).sum := by
      cases p with
      | nil => simp at hl
      | cons x r =>
        have hr := chkGo_none (chk_zero hc).2.1
        have h1 := hr (Int.ofNat x) (by simp)
        have h2 := sum_le (l := r.map Int.ofNat) fun y hy => hr y (by rw [List.map_cons]; exact List.mem_cons_of_mem _ hy)
        rw [List.map_cons, List.sum_cons]
        omega
    have hk := allK_get (hsmall _ (by omega) (by omega)) p hp
    rw [ints_nat] at ha
    exact h.topC hF hmix hk ha
  · refine good_row h' hc (fun t => ?_) ha
    have h1 := (chk_zero hc).1
    have hk := allK_get (allK_get (hlarge t) (p.map Int.ofNat).length (List.mem_range.2 (by omega))) ((p.map Int.ofNat).sum.toNat - (most + 1)) (List.mem_range.2 (by omega))
    have e : Int.ofNat ((p.map Int.ofNat).sum.toNat - (most + 1) + (most + 1)) = (p.map Int.ofNat).sum := by
      rw [Nat.sub_add_cancel (by omega)]
      exact Int.toNat_of_nonneg h0
    rw [e] at hk
    exact hk
end Go.Proofs.Ytmmgdgmjkhcfaaa
