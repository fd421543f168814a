/- Of the law: texts of its proof, joined (part 7). -/
import Derived.OpenShut
import Derived.WideShapes
import Derived.Test.YtmdnofcphdjieaaGreatDoorQoa3
import Derived.Test.YtmdnofcphdjieaaGreatDoorQoa4
import Derived.Test.YtmdnofcphdjieaaGreatDoorQoa5
import Derived.Test.YtmdnofcphdjieaaGreatDoorQoa6
set_option linter.all false
namespace Go.Abs
def scE : Value → Value → Bool
  | .int k n, .int k' n' => decide (k = k') && decide (n = n')
  | .bool a, .bool b => a == b
  | _, _ => false
theorem scE_eq {w v : Value} (h : scE w v = true) : v = w ∧ scOk w = true ∧ ∀ d, renD d v = w := by
  unfold scE at h
  split at h
  · simp only [Bool.and_eq_true, decide_eq_true_eq] at h
    obtain ⟨rfl, rfl⟩ := h
    exact ⟨rfl, rfl, fun _ => rfl⟩
  · simp only [beq_iff_eq] at h
    subst h
    exact ⟨rfl, rfl, fun _ => rfl⟩
  · cases h
def nilE : Value → Bool
  | .slice none 0 0 => true
  | _ => false
theorem nilE_eq {v : Value} (h : nilE v = true) : v = .slice none 0 0 := by
  unfold nilE at h
  split at h
  · rfl
  · cases h
mutual
def fitS (bs : List (List Value)) : VV → Value → Bool
  | .sc w, v => scE w v
  | .nl, v => nilE v
  | .fz n sz cs, v => match v with
    | .slice (some ⟨p, 0, none⟩) n' sz' => decide (n = n') && (decide (sz = sz') && (decide (0 < sz) && (match bs[p]? with
      | some vs => decide (vs.length = n * sz) && fitSL bs cs vs
      | none => false)))
    | _ => false
  | .st _, _ => false
  | .tup _, _ => false
  | .own _ _, _ => false
  | .ptr _ _ _, _ => false
  | .rp _, _ => false
  | .mp _, _ => false
  | .bad, _ => false
def fitSL (bs : List (List Value)) : List VV → List Value → Bool
  | [], vs => vs.isEmpty
  | c :: cs, vs => match vs with
    | [] => false
    | v :: vs => fitS bs c v && fitSL bs cs vs
end
mutual
theorem fitS_rep {bs : List (List Value)} {Z : Nat → Prop} {H : Heap} : ∀ (r : VV) (v : Value), fitS bs r v = true → RepC (fun f => Z f ∨ H.length ≤ f) (H ++ mkL H.length H.length bs) r (renD H.length v) ∧ goodV v = true
  | .sc w, v, h => by
    simp only [fitS] at h
    obtain ⟨rfl, h2, h3⟩ := scE_eq h
    refine ⟨by rw [h3]; simp only [RepC]; exact ⟨trivial, h2⟩, ?_⟩
    unfold scE at h
    split at h <;> first | rfl | cases h
  | .nl, v, h => by
    simp only [fitS] at h
    obtain rfl := nilE_eq h
    exact ⟨by simp only [RepC]; rfl, rfl⟩
  | .fz n sz cs, v, h => by
    simp only [fitS] at h
    split at h
    case h_2 => cases h
    rename_i p n' sz'
    simp only [Bool.and_eq_true, decide_eq_true_eq] at h
    obtain ⟨rfl, rfl, h3, h4⟩ := h
    split at h4
    case h_2 => cases h4
    rename_i vs hb
    simp only [Bool.and_eq_true, decide_eq_true_eq] at h4
    obtain ⟨h4, h5⟩ := h4
    refine ⟨?_, rfl⟩
    simp only [RepC]
    refine ⟨vs.map (renD H.length), ⟨by rw [List.length_map]; exact h4, h3, .inr ⟨p + H.length, 0, H.length + p, true, vs.map (renD H.length), rfl, ?_, .inr (by omega), by rw [List.length_map]; omega, ?_⟩⟩, fitSL_rep cs vs h5⟩
    · rw [List.getElem?_append_right (by omega), show p + H.length - H.length = p from by omega, mkL_get, hb]; rfl
    · rw [List.drop_zero, ← h4, ← List.length_map (f := renD H.length), List.take_length]
  | .st _, _, h => by simp only [fitS] at h; cases h
  | .tup _, _, h => by simp only [fitS] at h; cases h
  | .own _ _, _, h => by simp only [fitS] at h; cases h
  | .ptr _ _ _, _, h => by simp only [fitS] at h; cases h
  | .rp _, _, h => by simp only [fitS] at h; cases h
  | .mp _, _, h => by simp only [fitS] at h; cases h
  | .bad, _, h => by simp only [fitS] at h; cases h
theorem fitSL_rep {bs : List (List Value)} {Z : Nat → Prop} {H : Heap} : ∀ (cs : List VV) (vs : List Value), fitSL bs cs vs = true → RepCL (fun f => Z f ∨ H.length ≤ f) (H ++ mkL H.length H.length bs) cs (vs.map (renD H.length))
  | [], vs, h => by
    simp only [fitSL, List.isEmpty_iff] at h
    subst h
    simp only [RepCL, List.map_nil]
  | c :: cs, vs, h => by
    simp only [fitSL] at h
    split at h
    case h_1 => cases h
    rename_i v vs'
    simp only [Bool.and_eq_true] at h
    simp only [RepCL, List.map_cons]
    exact ⟨_, _, rfl, (fitS_rep c v h.1).1, fitSL_rep cs vs' h.2⟩
end
def fitA (bs : List (List Value)) (r : VV) (v : Value) : Bool := match r, v with
  | .st cs, .agg vs => vs.toList.all goodV && fitSL bs cs vs.toList
  | r, v => fitS bs r v
def fitAL (bs : List (List Value)) : List VV → List Value → Bool
  | [], vs => vs.isEmpty
  | c :: cs, vs => match vs with
    | [] => false
    | v :: vs => fitA bs c v && fitAL bs cs vs
def fitV (bs : List (List Value)) (r : VV) (v : Value) : Bool := match r, v with
  | .tup cs, .tuple vs => fitAL bs cs vs.toList
  | r, v => fitA bs r v
theorem goodV_agg {cs : Array Value} (h : goodV (.agg cs) = true) : False := by simp [goodV, immOk] at h
theorem goodV_tuple {cs : Array Value} (h : goodV (.tuple cs) = true) : False := by simp [goodV, immOk] at h
theorem fitA_rep {bs : List (List Value)} {Z : Nat → Prop} {H : Heap} {r : VV} {v : Value} (h : fitA bs r v = true) : ∃ u, renA (fun b => some (b + H.length)) v = some u ∧ RepC (fun f => Z f ∨ H.length ≤ f) (H ++ mkL H.length H.length bs) r u := by
  unfold fitA at h
  split at h
  · rename_i cs vs
    simp only [Bool.and_eq_true] at h
    refine ⟨.agg ⟨vs.toList.map (renD H.length)⟩, by simp only [renA, ren_goods h.1]; rfl, ?_⟩
    simp only [RepC]
    exact ⟨_, rfl, fitSL_rep _ _ h.2⟩
  · obtain ⟨h1, h2⟩ := fitS_rep (Z := Z) (H := H) _ _ h
    refine ⟨_, ?_, h1⟩
    unfold renA
    split
    · exact (goodV_agg h2).elim
    · exact ren_good h2
theorem fitAL_rep {bs : List (List Value)} {Z : Nat → Prop} {H : Heap} : ∀ {cs : List VV} {vs : List Value}, fitAL bs cs vs = true → ∃ us, mapO (renA fun b => some (b + H.length)) vs = some us ∧ RepCL (fun f => Z f ∨ H.length ≤ f) (H ++ mkL H.length H.length bs) cs us := by
  intro cs
  induction cs with
  | nil =>
    intro vs h
    simp only [fitAL, List.isEmpty_iff] at h
    subst h
    exact ⟨[], rfl, by simp only [RepCL]⟩
  | cons c cs ih =>
    intro vs h
    unfold fitAL at h
    split at h
    case h_1 => cases h
    rename_i v vs'
    simp only [Bool.and_eq_true] at h
    obtain ⟨u, h1, h2⟩ := fitA_rep (Z := Z) (H := H) h.1
    obtain ⟨us, h3, h4⟩ := ih h.2
    refine ⟨u :: us, by rw [mapO, h1, h3], ?_⟩
    simp only [RepCL]
    exact ⟨_, _, rfl, h2, h4⟩
theorem fitV_rep {bs : List (List Value)} {Z : Nat → Prop} {H : Heap} {r : VV} {v : Value} (h : fitV bs r v = true) : ∃ u, renV (fun b => some (b + H.length)) v = some u ∧ RepC (fun f => Z f ∨ H.length ≤ f) (H ++ mkL H.length H.length bs) r u := by
  unfold fitV at h
  split at h
  · rename_i cs vs
    obtain ⟨us, h1, h2⟩ := fitAL_rep (Z := Z) (H := H) h
    refine ⟨.tuple ⟨us⟩, by simp only [renV, h1]; rfl, ?_⟩
    simp only [RepC]
    exact ⟨_, rfl, h2⟩
  · obtain ⟨u, h1, h2⟩ := fitA_rep (Z := Z) (H := H) h
    refine ⟨u, ?_, h2⟩
    unfold renV
    split
    · rename_i cs _
      unfold fitA at h
      split at h
      · contradiction
      · have := (fitS_rep (Z := Z) (H := H) _ _ h).2
        exact (goodV_tuple this).elim
    · exact h1
theorem tab_fit {sp : Nat → List Arg → Option Res} {g : Nat} {ays : List Arg} {args : List VV} {r : VV} {v : Value} {bs : List (List Value)} (hs : sp g ays = some (v, bs)) (hf : fitV bs r v = true) (hb : (bs.all fun b => b.all goodV) = true)
    (ha : ∀ Z H vs, WF H → RepCL Z H args vs → mapO (readArg H) vs = some ays) : AnsAt (tabC sp) g args r false := by
  intro Z H vs hw hA
  obtain ⟨u, h1, h2⟩ := fitV_rep (Z := Z) (H := H) hf
  refine ⟨u, H ++ mkL H.length H.length bs, ?_, h2, mkL_old H bs, mkL_wf hw bs, fun e => by cases e⟩
  unfold tabC
  simp only [ha Z H vs hw hA, hs, h1, mk_good hb]
  rfl
end Go.Abs
namespace Go.Abs
theorem ba_get (s : ByteArray) (k : Nat) : s[k]? = s.data.toList[k]? := by
  by_cases h : k < s.size
  · rw [getElem?_pos s k h]
    have h' : k < s.data.toList.length := by rw [Array.length_toList]; exact h
    rw [List.getElem?_eq_getElem h']
    rfl
  · rw [getElem?_neg s k h]
    have h' : s.data.toList.length ≤ k := by rw [Array.length_toList]; exact Nat.le_of_not_lt h
    rw [List.getElem?_eq_none h']
theorem pure_prog1 {α : Type} {P : Program} (k : Program → Sem α) : pureVal P (Go.program >>= k) = pureVal P (k P) := rfl
theorem pure_sidx {P : Program} {t : TypeId} (hu : P.underlying t = some .string) {s : ByteArray} {kk : IntKind} {k : Int} (h0 : 0 ≤ k) {b : UInt8} (hb : s.data.toList[k.toNat]? = some b) : pureVal P (Instr.index t (.string s) (.int kk k)) = some (.int .u8 b.toNat) := by
  have hb' : s[k.toNat]? = some b := by rw [ba_get]; exact hb
  unfold Instr.index
  simp [asIntOf, underlying]
  rw [pure_prog1]
  simp [hu, h0, hb']
  rfl
def sidxV (A I : VV) (σ : VSt) (c : Nat) (r : Option St3) : Option St3 := match A, I with
  | .sc (.string s), .sc (.int .i64 k) => if 0 ≤ k then (match s.data.toList[k.toNat]? with
    | some b => some (.sc (.int .u8 b.toNat), σ, c)
    | none => r) else r
  | _, _ => r
section
variable {P : Program} {call : VCall} {pol : Nat → Bool} {a : VF} {σ : VSt} {c : Nat} {d : Option Nat} {ty : TypeId} {pos : String} {aft : Array Edge} {g : Option (Nat × Bool)}
def restT (P : Program) (call : VCall) (pol : Nat → Bool) (a : VF) (o : Oper) (σ : VSt) (c : Nat) : Option St3 := stepV P call pol a o σ c
theorem idxV_sc {t : TypeId} {w : Value} {I : VV} {r : Option St3} : idxV P t (.sc w) I σ c r = r := (rfl)
theorem rest_sidx {t : TypeId} {x i : Operand} (hu : P.underlying t = some .string) : restS P call pol a ⟨d, .index t x i, ty, pos, aft, g⟩ σ c = sidxV (evV a x) (evV a i) σ c (restT P call pol a ⟨d, .index t x i, ty, pos, aft, g⟩ σ c) := by
  unfold sidxV restS restT
  split
  · rename_i s k ex ei
    split
    · rename_i h0
      split
      · rename_i b hb
        show (match evV a x with
          | .sc _ => rtV (plainV P a _) σ c
          | A => rtV (indexV P t A (evV a i)) σ c) = _
        rw [ex]
        have hpl : plainA P (fun t => toVal (a t)) ⟨d, .index t x i, ty, pos, aft, g⟩ = some (.int .u8 b.toNat) := by
          have h1 : ev (fun t => toVal (a t)) x = .string s := toVal_ev ex rfl
          have h2 : ev (fun t => toVal (a t)) i = .int .i64 k := toVal_ev ei rfl
          unfold plainA
          have hall : ((⟨d, .index t x i, ty, pos, aft, g⟩ : Oper).op.operands.toList.all fun z => plain (ev (fun t => toVal (a t)) z)) = true := by simp [Op.operands, h1, h2, plain]
          rw [if_pos hall]
          have e2 : execOp (ev (fun t => toVal (a t))) (⟨d, .index t x i, ty, pos, aft, g⟩ : Oper) = (do let v ← Instr.index t (ev (fun t => toVal (a t)) x) (ev (fun t => toVal (a t)) i); pure (.value v)) := rfl
          rw [e2, h1, h2, pure_val _ _ (pure_sidx hu h0 hb)]
          simp [plain]
        simp only [plainV, hpl]
        rfl
      · rfl
    · rfl
  · rfl
theorem sidx_ok {s : ByteArray} {k : Nat} {b : UInt8} (hb : s.data.toList[k]? = some b) {r : Option St3} : sidxV (.sc (.string s)) (.sc (vi (k : Int))) σ c r = some (.sc (.int .u8 b.toNat), σ, c) := by
  show (if (0 : Int) ≤ k then (match s.data.toList[(k : Int).toNat]? with
    | some b => some (VV.sc (.int .u8 b.toNat), σ, c)
    | none => r) else r) = _
  rw [if_pos (by omega), Int.toNat_natCast, hb]
def lkV (P : Program) (t : TypeId) (A I : VV) (σ : VSt) (c : Nat) : Option St3 := match A, I with
  | .mp es, .sc k => rtV (lookV P t es k) σ c
  | _, _ => none
theorem lkV_congr {t : TypeId} {A A' I : VV} (h : A = A') : lkV P t A I σ c = lkV P t A' I σ c := by rw [h]
theorem extV_tup {vs : List VV} {i : Nat} : extV (.tup vs) i = vs[i]? := (rfl)
end
end Go.Abs
namespace Go.Abs
def minV (A B : VV) (σ : VSt) (c : Nat) (r : Option St3) : Option St3 := match A, B with
  | .sc (.int .i64 p), .sc (.int .i64 q) => some (.sc (vi (if q < p then q else p)), σ, c)
  | _, _ => r
section
variable {P : Program} {call : VCall} {pol : Nat → Bool} {a : VF} {σ : VSt} {c : Nat} {d : Option Nat} {ty : TypeId} {pos : String} {aft : Array Edge} {g : Option (Nat × Bool)}
theorem minV_i {p q : Int} {r : Option St3} : minV (.sc (vi p)) (.sc (vi q)) σ c r = some (.sc (vi (if q < p then q else p)), σ, c) := (rfl)
theorem vs_min {x y : Operand} {t t' : TypeId} : stepV P call pol a ⟨d, .call { callee := .builtin .min, args := #[x, y], argTypes := #[t, t'] }, ty, pos, aft, g⟩ σ c = minV (evV a x) (evV a y) σ c (restS P call pol a ⟨d, .call { callee := .builtin .min, args := #[x, y], argTypes := #[t, t'] }, ty, pos, aft, g⟩ σ c) := by
  unfold minV restS
  split
  · rename_i p q ex ey
    have hx : ev (fun t => toVal (a t)) x = vi p := toVal_ev ex rfl
    have hy : ev (fun t => toVal (a t)) y = vi q := toVal_ev ey rfl
    have e : plainA P (fun t => toVal (a t)) (⟨d, .call { callee := .builtin .min, args := #[x, y], argTypes := #[t, t'] }, ty, pos, aft, g⟩ : Oper) = some (vi (if q < p then q else p)) := by
      unfold plainA
      have hops : (⟨d, .call { callee := .builtin .min, args := #[x, y], argTypes := #[t, t'] }, ty, pos, aft, g⟩ : Oper).op.operands.toList = [x, y] := rfl
      rw [hops]
      simp only [List.all_cons, List.all_nil, hx, hy, plain, Bool.and_self, if_true]
      have ex : execOp (ev fun t => toVal (a t)) (⟨d, .call { callee := .builtin .min, args := #[x, y], argTypes := #[t, t'] }, ty, pos, aft, g⟩ : Oper) = (pure (.value (.int .i64 (if q < p then q else p))) : Sem Next) := by
        show (resolve (ev fun t => toVal (a t)) ⟨.builtin .min, ⟨[x, y]⟩, #[t, t']⟩ ty >>= fun d => invoke d.target d.args) = _
        simp [resolve, invoke, builtin, Builtin.min_, Builtin.min2, hx, hy]
      rw [ex]
      rfl
    show rtV (plainV P a _) σ c = _
    unfold plainV
    rw [e]; rfl
  · rfl
end
end Go.Abs
namespace Go.Abs
section
variable {P : Program}
end
end Go.Abs
namespace Go.Abs
inductive Sh where
  | int (k : IntKind)
  | str
  | bool
  | sl (s : Sh)
  | un
  | pr (a b : Sh)
def Sh.size : Sh → Nat
  | .int _ => 1
  | .str => 1
  | .bool => 1
  | .sl _ => 1
  | .un => 0
  | .pr a b => a.size + b.size
def fieldsOf (P : Program) (t : TypeId) : Option (List (Nat × TypeId)) := match P.underlying t with
  | some (.struct fs) => some (fs.toList.map fun f => (f.offset, f.type))
  | some (.array n e) => some ((List.range n).map fun i => (i * P.cellsOf e, e))
  | _ => none
mutual
/-- The type has the shape. -/
def shT (P : Program) : Sh → TypeId → Bool
  | .int k, t => match P.underlying t with
    | some (.int k') => k == k'
    | _ => false
  | .str, t => match P.underlying t with
    | some .string => true
    | _ => false
  | .bool, t => match P.underlying t with
    | some .bool => true
    | _ => false
  | .sl s, t => match P.underlying t with
    | some (.slice e) => shT P s e && (P.cellsOf e == s.size && Nat.blt 0 s.size)
    | _ => false
  | .un, _ => false
  | .pr a b, t => match fieldsOf P t with
    | some ((o, u) :: r) => (o == 0 && (P.cellsOf u == a.size && (shT P a u && shF P b a.size r))) && P.cellsOf t == a.size + b.size
    | _ => false
def shF (P : Program) : Sh → Nat → List (Nat × TypeId) → Bool
  | .un, _, l => l.isEmpty
  | .pr a b, o, l => match l with
    | (o', u) :: r => o' == o && (P.cellsOf u == a.size && (shT P a u && shF P b (o + a.size) r))
    | [] => false
  | _, _, _ => false
end
def ShAt (w : World) : Sh → List Value → Prop
  | .int k, cs => ∃ z, cs = [.int k z]
  | .str, cs => ∃ s, cs = [.string s]
  | .bool, cs => ∃ b, cs = [.bool b]
  | .sl s, cs => cs = [.slice none 0 0] ∨ ∃ a len cap, cs = [.slice (some a) len cap] ∧ 0 < s.size ∧ len ≤ cap ∧ ∀ i, i < cap → ∃ es, w.cells? 0 (a.add (i * s.size)) s.size = some es ∧ ShAt w s es
  | .un, cs => cs = []
  | .pr a b, cs => ∃ c1 c2, cs = c1 ++ c2 ∧ ShAt w a c1 ∧ ShAt w b c2
section
variable {H : Type} {enc : TypeId × Value → H} {P : Program} {w : World} {held : Bool}
theorem trod_fields {fuel : Nat} {t : TypeId} {cs : List Value} {x : DataW H × List MemPlace} {l : List (Nat × TypeId)} (hl : fieldsOf P t = some l) (h : DataW.trod enc P w 0 (fun _ => true) held fuel t cs = some x) :
    cs.length = P.cellsOf t ∧ ∃ n, ∀ o u, (o, u) ∈ l → ∃ y, DataW.trod enc P w 0 (fun _ => true) held n u ((cs.drop o).take (P.cellsOf u)) = some y := by
  unfold fieldsOf at hl
  split at hl
  · rename_i fs hu
    injection hl with hl; subst hl
    obtain ⟨xs, n, _, _, hlen, hxs, hf⟩ := DataW.trod_struct hu h
    refine ⟨hlen, n, fun o u hm => ?_⟩
    obtain ⟨f, hfm, he⟩ := List.mem_map.1 hm
    injection he with e1 e2; subst e1; subst e2
    obtain ⟨i, hi, rfl⟩ := List.getElem_of_mem hfm
    have hi' : i < fs.size := by simpa using hi
    have := hf i fs[i] (by simp [hi'])
    rw [List.getElem?_eq_getElem (by omega : i < xs.length)] at this
    exact ⟨_, by simpa using this⟩
  · rename_i n e hu
    injection hl with hl; subst hl
    obtain ⟨xs, m, _, _, hlen, hxs, hf⟩ := DataW.trod_array hu h
    refine ⟨hlen, m, fun o u hm => ?_⟩
    obtain ⟨i, hi, he⟩ := List.mem_map.1 hm
    injection he with e1 e2; subst e1; subst e2
    have hi := List.mem_range.1 hi
    have := hf i hi
    rw [List.getElem?_eq_getElem (by omega : i < xs.length)] at this
    exact ⟨_, this⟩
  · cases hl
theorem drop_split {α : Type} (cs : List α) (o m : Nat) : cs.drop o = (cs.drop o).take m ++ cs.drop (o + m) := by
  rw [← List.drop_drop, List.take_append_drop]
mutual
theorem sh_read : ∀ (s : Sh) {fuel : Nat} {t : TypeId} {cs : List Value} {x : DataW H × List MemPlace}, shT P s t = true → DataW.trod enc P w 0 (fun _ => true) held fuel t cs = some x → ShAt w s cs
  | .int k, fuel, t, cs, x, hs, h => by
    unfold shT at hs
    split at hs
    · rename_i k' hu
      obtain rfl := by simpa using hs
      obtain ⟨z, hz, _⟩ := DataW.trod_int hu h
      simp only [ShAt]; exact ⟨z, hz⟩
    · cases hs
  | .str, fuel, t, cs, x, hs, h => by
    unfold shT at hs
    split at hs
    · rename_i hu
      obtain ⟨z, hz, _⟩ := DataW.trod_string hu h
      simp only [ShAt]; exact ⟨z, hz⟩
    · cases hs
  | .bool, fuel, t, cs, x, hs, h => by
    unfold shT at hs
    split at hs
    · rename_i hu
      obtain ⟨z, hz, _⟩ := DataW.trod_bool hu h
      simp only [ShAt]; exact ⟨z, hz⟩
    · cases hs
  | .sl s, fuel, t, cs, x, hs, h => by
    unfold shT at hs
    split at hs
    · rename_i e hu
      simp only [Bool.and_eq_true, beq_iff_eq] at hs
      obtain ⟨h1, h2, h3⟩ := hs
      simp only [ShAt]
      rcases DataW.trod_slice hu h with ⟨h0, _⟩ | ⟨a, len, cap, elems, rest, n, _, hcs, _, _, hl, _, hlen, hel, hsp, _⟩
      · exact .inl h0
      · refine .inr ⟨a, len, cap, hcs, Nat.le_of_ble_eq_true h3, hl, fun i hi => ?_⟩
        obtain ⟨hr1, hr2⟩ := hsp rfl
        have main : ∀ y, (w.cells? 0 (a.add (i * P.cellsOf e)) (P.cellsOf e)).bind (DataW.trod enc P w 0 (fun _ => true) held n e) = some y → ∃ es, w.cells? 0 (a.add (i * s.size)) s.size = some es ∧ ShAt w s es := by
          intro y hy
          rw [h2] at hy
          cases hc : w.cells? 0 (a.add (i * s.size)) s.size with
          | none => rw [hc] at hy; cases hy
          | some es =>
            rw [hc] at hy
            exact ⟨es, rfl, sh_read s h1 hy⟩
        by_cases hil : i < len
        · have := hel i hil
          rw [List.getElem?_eq_getElem (by omega : i < elems.length)] at this
          exact main _ this
        · have := hr2 (i - len) (by omega)
          rw [List.getElem?_eq_getElem (by omega : i - len < rest.length), show len + (i - len) = i from by omega] at this
          exact main _ this
    · cases hs
  | .un, fuel, t, cs, x, hs, h => by unfold shT at hs; cases hs
  | .pr a b, fuel, t, cs, x, hs, h => by
    unfold shT at hs
    split at hs
    · rename_i o u r hl
      simp only [Bool.and_eq_true, beq_iff_eq] at hs
      obtain ⟨⟨rfl, h2, h3, h4⟩, h5⟩ := hs
      obtain ⟨hlen, n, hf⟩ := trod_fields hl h
      obtain ⟨y, hy⟩ := hf 0 u (List.mem_cons_self ..)
      simp only [ShAt]
      refine ⟨cs.take a.size, cs.drop a.size, (List.take_append_drop _ _).symm, ?_, ?_⟩
      · rw [List.drop_zero, h2] at hy
        exact sh_read a h3 hy
      · exact sh_readF b h4 (by rw [hlen, h5]) fun o u hm => hf o u (List.mem_cons_of_mem _ hm)
    · cases hs
theorem sh_readF : ∀ (s : Sh) {o : Nat} {l : List (Nat × TypeId)} {cs : List Value} {n : Nat}, shF P s o l = true → cs.length = o + s.size →
    (∀ o u, (o, u) ∈ l → ∃ y, DataW.trod enc P w 0 (fun _ => true) held n u ((cs.drop o).take (P.cellsOf u)) = some y) → ShAt w s (cs.drop o)
  | .un, o, l, cs, n, hs, hlen, hf => by
    simp only [ShAt]
    rw [List.drop_eq_nil_iff]
    simp only [Sh.size] at hlen
    omega
  | .pr a b, o, l, cs, n, hs, hlen, hf => by
    unfold shF at hs
    split at hs
    · rename_i o' u r
      simp only [Bool.and_eq_true, beq_iff_eq] at hs
      obtain ⟨rfl, h2, h3, h4⟩ := hs
      obtain ⟨y, hy⟩ := hf o' u (List.mem_cons_self ..)
      simp only [ShAt]
      refine ⟨(cs.drop o').take a.size, cs.drop (o' + a.size), drop_split cs o' a.size, ?_, ?_⟩
      · rw [h2] at hy
        exact sh_read a h3 hy
      · exact sh_readF b h4 (by rw [hlen, Sh.size]; omega) fun o u hm => hf o u (List.mem_cons_of_mem _ hm)
    · cases hs
  | .int _, _, _, _, _, hs, _, _ => by unfold shF at hs; cases hs
  | .str, _, _, _, _, hs, _, _ => by unfold shF at hs; cases hs
  | .bool, _, _, _, _, hs, _, _ => by unfold shF at hs; cases hs
  | .sl _, _, _, _, _, hs, _, _ => by unfold shF at hs; cases hs
end
end
def ShOk : Sh → List VV → Prop
  | .int k, A => ∃ z, A = [.sc (.int k z)]
  | .str, A => ∃ s, A = [.sc (.string s)]
  | .bool, A => ∃ b, A = [.sc (.bool b)]
  | .sl s, A => A = [.nl] ∨ ∃ es : List (List VV), A = [.fz es.length s.size es.flatten] ∧ ∀ e ∈ es, ShOk s e
  | .un, A => A = []
  | .pr a b, A => ∃ A1 A2, A = A1 ++ A2 ∧ ShOk a A1 ∧ ShOk b A2
theorem ShOk.len : ∀ {s : Sh} {A : List VV}, ShOk s A → A.length = s.size
  | .int _, _, h => by obtain ⟨z, rfl⟩ := h; rfl
  | .str, _, h => by obtain ⟨z, rfl⟩ := h; rfl
  | .bool, _, h => by obtain ⟨z, rfl⟩ := h; rfl
  | .sl _, _, h => by
    simp only [ShOk] at h
    rcases h with rfl | ⟨es, rfl, _⟩ <;> rfl
  | .un, _, h => by simp only [ShOk] at h; subst h; rfl
  | .pr a b, _, h => by
    simp only [ShOk] at h
    obtain ⟨A1, A2, rfl, h1, h2⟩ := h
    rw [List.length_append, h1.len, h2.len, Sh.size]
structure Bears (w : World) (m : Mp) (H : Heap) : Prop where
  rel : Rel m H w
  own : ∀ (b : Nat) (x : Blk), H[b]? = some x → x.owned = false
  wf : WF H
abbrev TT : Nat → Prop := fun _ => True
theorem keepZ_app (H J : Heap) : KeepZ TT TT H (H ++ J) :=
  ⟨fun b f w bs z e => ⟨trivial, by rw [List.getElem?_append_left (lt_of_get e)]; exact e⟩, fun b es e => by rw [List.getElem?_append_left (lt_of_get e)]; exact e⟩
theorem Bears.push {w : World} {m : Mp} {H : Heap} (h : Bears w m H) {cs : List Value} {l : Loc} {C : Array Value} {el : TypeId} {fr : Nat × Nat} (hg : w.heap[l.g]? = some (.cells C el fr)) (hN : C.size = l.N)
    (hc : ∀ i v, cs[i]? = some v → ∃ v', C[l.o + i]? = some v' ∧ SR m v v') : Bears w (psh m H.length l) (H ++ [.cells H.length false cs]) := by
  have hlt : l.g < w.heap.size := by
    apply Nat.lt_of_not_le
    intro hge
    rw [Array.getElem?_eq_none hge] at hg
    cases hg
  have hext := Ext.push l h.rel.free
  have hown : ∀ (b : Nat) (x : Blk), (H ++ [Blk.cells H.length false cs])[b]? = some x → x.owned = false := by
    intro b x hb
    by_cases hlt : b < H.length
    · rw [List.getElem?_append_left hlt] at hb; exact h.own b x hb
    · rw [List.getElem?_append_right (by omega)] at hb
      have h0 := lt_of_get hb
      simp at h0
      rw [show b - H.length = 0 from by omega] at hb
      simp at hb
      subst hb; rfl
  refine ⟨?_, hown, h.wf.app (Nat.le_refl _)⟩
  exact {
    len := fun b k hb => by
      by_cases hbb : b = H.length
      · subst hbb; simp
      · rw [psh_old _ hbb] at hb
        have := h.rel.len b k hb
        simp; omega
    has := fun b x hb hl => by
      by_cases hbb : b = H.length
      · subst hbb; exact ⟨l, psh_new ..⟩
      · have hlt : b < H.length := by have := lt_of_get hb; simp at this; omega
        rw [List.getElem?_append_left hlt] at hb
        rw [psh_old _ hbb]
        exact h.rel.has b x hb hl
    bnd := fun b k hb => by
      by_cases hbb : b = H.length
      · subst hbb; rw [psh_new] at hb; injection hb with hb; subst hb; exact hlt
      · rw [psh_old _ hbb] at hb; exact h.rel.bnd b k hb
    blk := fun b x k hx hb => by
      by_cases hbb : b = H.length
      · subst hbb
        rw [psh_new] at hb; injection hb with hb; subst hb
        rw [List.getElem?_append_right (Nat.le_refl _), Nat.sub_self] at hx
        simp at hx; subst hx
        exact ⟨C, el, fr, hg, hN, (fun e => by cases e), fun i v hv => by
          obtain ⟨v', a1, a2⟩ := hc i v hv
          exact ⟨v', a1, a2.mono hext⟩⟩
      · have hlt : b < H.length := by have := lt_of_get hx; simp at this; omega
        rw [List.getElem?_append_left hlt] at hx
        rw [psh_old _ hbb] at hb
        exact BR.keep hext (h.rel.blk b x k hx hb) fun _ => rfl
    sep := fun b c x y k j _ hx _ _ _ ho => by rw [hown b x hx] at ho; cases ho }
structure Grows (m : Mp) (H : Heap) (m' : Mp) (H' : Heap) : Prop where
  ext : Ext m m'
  app : ∃ J, H' = H ++ J
theorem Grows.refl (m : Mp) (H : Heap) : Grows m H m H := ⟨.refl m, [], by simp⟩
theorem Grows.trans {m1 m2 m3 : Mp} {H1 H2 H3 : Heap} (h : Grows m1 H1 m2 H2) (k : Grows m2 H2 m3 H3) : Grows m1 H1 m3 H3 := by
  obtain ⟨J, hJ⟩ := h.app
  obtain ⟨K, hK⟩ := k.app
  exact ⟨h.ext.trans k.ext, J ++ K, by rw [hK, hJ, List.append_assoc]⟩
theorem Grows.keep {m m' : Mp} {H H' : Heap} (h : Grows m H m' H') {A : List VV} {vs : List Value} (hr : RepCL TT H A vs) : RepCL TT H' A vs := by
  obtain ⟨J, rfl⟩ := h.app
  exact RepCL.keep (keepZ_app H J) _ _ hr
theorem all2_srmono {m m' : Mp} (h : Ext m m') {vs cs : List Value} (k : All2 (SR m) vs cs) : All2 (SR m') vs cs := k.mono fun _ _ e => e.mono h
theorem repCL_app {Z : Nat → Prop} {H : Heap} {A B : List VV} {us vs : List Value} (h : RepCL Z H A us) (k : RepCL Z H B vs) : RepCL Z H (A ++ B) (us ++ vs) := by
  rw [repCL_iff] at *
  exact h.append k
theorem repCL_one {Z : Nat → Prop} {H : Heap} {A : VV} {v : Value} (h : RepC Z H A v) : RepCL Z H [A] [v] := by
  simp only [RepCL]
  exact ⟨v, [], rfl, h, rfl⟩
theorem mapM_get {α β : Type} {f : α → Option β} : ∀ {l : List α} {r : List β}, l.mapM f = some r → r.length = l.length ∧ ∀ (i : Nat) (x : α), l[i]? = some x → f x = r[i]? := by
  intro l
  induction l with
  | nil => intro r h; simp at h; subst h; exact ⟨rfl, fun i x h => by simp at h⟩
  | cons a l ih =>
    intro r h
    rw [List.mapM_cons] at h
    cases ha : f a with
    | none => rw [ha] at h; simp at h
    | some b =>
      cases hl : l.mapM f with
      | none => rw [ha, hl] at h; simp at h
      | some bs =>
        rw [ha, hl] at h
        simp at h
        subst h
        obtain ⟨h1, h2⟩ := ih hl
        refine ⟨by simp [h1], fun i x hx => ?_⟩
        cases i with
        | zero => simp at hx; subst hx; simp [ha]
        | succ i => simpa using h2 i x (by simpa using hx)
theorem cells_row {w : World} {a : Addr} {n : Nat} {es : List Value} (h : w.cells? 0 a n = some es) (hn : 0 < n) : ∃ C el fr, a.spot = none ∧ w.heap[a.block]? = some (.cells C el fr) ∧ es.length = n ∧ ∀ i v, es[i]? = some v → C[a.off + i]? = some v := by
  unfold World.cells? at h
  rw [if_pos (Nat.zero_le _)] at h
  have hlen : es.length = n ∧ ∀ i, i < n → w.cell? (a.add i) = es[i]? := by
    obtain ⟨h1, h2⟩ := mapM_get h
    rw [List.length_range] at h1
    exact ⟨h1, fun i hi => h2 i i (by rw [List.getElem?_range hi])⟩
  obtain ⟨hl, hc⟩ := hlen
  have h0 := hc 0 hn
  rw [List.getElem?_eq_getElem (by omega)] at h0
  unfold World.cell? Addr.add at h0
  rw [if_pos rfl] at h0
  split at h0
  · rename_i C el fr hh
    have hs : a.spot = none := by
      cases hsp : a.spot with
      | none => rfl
      | some p => rw [hsp] at h0; simp at h0
    refine ⟨C, el, fr, hs, hh, hl, fun i v hv => ?_⟩
    have hi := lt_of_get hv
    have := hc i (by omega)
    rw [hv] at this
    unfold World.cell? Addr.add at this
    by_cases hi0 : i = 0
    · subst hi0
      rw [if_pos rfl, hh] at this
      simp only [hs, Option.isSome_none, Bool.false_eq_true, if_false] at this
      simpa using this
    · rw [if_neg hi0] at this
      simp only [hh, Option.isSome_none, Bool.false_eq_true, if_false] at this
      exact this
  · cases h0
theorem elems_rep {w : World} {s : Sh} (ih : ∀ {cs : List Value} {m : Mp} {H : Heap}, ShAt w s cs → Bears w m H → ∃ m' H' A vs, Grows m H m' H' ∧ Bears w m' H' ∧ ShOk s A ∧ RepCL TT H' A vs ∧ All2 (SR m') vs cs) :
    ∀ {ess : List (List Value)} {m : Mp} {H : Heap}, (∀ es ∈ ess, ShAt w s es) → Bears w m H → ∃ (m' : Mp) (H' : Heap) (As : List (List VV)) (vs : List Value), Grows m H m' H' ∧ Bears w m' H' ∧ As.length = ess.length ∧ (∀ A ∈ As, ShOk s A) ∧ RepCL TT H' As.flatten vs ∧ All2 (SR m') vs ess.flatten := by
  intro ess
  induction ess with
  | nil => intro m H _ hb; exact ⟨m, H, [], [], .refl _ _, hb, rfl, (fun A h => by cases h), by simp only [List.flatten_nil, RepCL], .nil⟩
  | cons es ess ih2 =>
    intro m H h hb
    obtain ⟨m1, H1, A, vs, g1, b1, o1, r1, s1⟩ := ih (h es (List.mem_cons_self ..)) hb
    obtain ⟨m2, H2, As, us, g2, b2, l2, o2, r2, s2⟩ := ih2 (fun e he => h e (List.mem_cons_of_mem _ he)) b1
    refine ⟨m2, H2, A :: As, vs ++ us, g1.trans g2, b2, by simp [l2], fun B hB => ?_, ?_, ?_⟩
    · rcases List.mem_cons.1 hB with rfl | hB
      · exact o1
      · exact o2 B hB
    · rw [List.flatten_cons]; exact repCL_app (g2.keep r1) r2
    · rw [List.flatten_cons]; exact (all2_srmono g2.ext s1).append s2
theorem flat_len {α : Type} {n : Nat} : ∀ {l : List (List α)}, (∀ x ∈ l, x.length = n) → l.flatten.length = l.length * n
  | [], _ => by simp
  | x :: l, h => by
    rw [List.flatten_cons, List.length_append, h x (List.mem_cons_self ..), flat_len fun y hy => h y (List.mem_cons_of_mem _ hy), List.length_cons, Nat.add_mul, Nat.one_mul, Nat.add_comm]
theorem flat_get {α : Type} {n : Nat} : ∀ {l : List (List α)}, (∀ x ∈ l, x.length = n) → ∀ {k : Nat} {v : α}, l.flatten[k]? = some v → ∃ i j x, l[i]? = some x ∧ x[j]? = some v ∧ j < n ∧ k = i * n + j
  | [], _, k, v, h => by simp at h
  | x :: l, hl, k, v, h => by
    have hx := hl x (List.mem_cons_self ..)
    rw [List.flatten_cons] at h
    by_cases hk : k < x.length
    · rw [List.getElem?_append_left hk] at h
      exact ⟨0, k, x, rfl, h, by omega, by omega⟩
    · rw [List.getElem?_append_right (by omega)] at h
      obtain ⟨i, j, y, h1, h2, h3, h4⟩ := flat_get (fun y hy => hl y (List.mem_cons_of_mem _ hy)) h
      exact ⟨i + 1, j, y, by simpa using h1, h2, h3, by rw [Nat.add_mul]; omega⟩
theorem sh_rep {w : World} : ∀ (s : Sh) {cs : List Value} {m : Mp} {H : Heap}, ShAt w s cs → Bears w m H → ∃ m' H' A vs, Grows m H m' H' ∧ Bears w m' H' ∧ ShOk s A ∧ RepCL TT H' A vs ∧ All2 (SR m') vs cs
  | .int k, cs, m, H, h, hb => by
    simp only [ShAt] at h
    obtain ⟨z, rfl⟩ := h
    exact ⟨m, H, [.sc (.int k z)], [.int k z], .refl _ _, hb, ⟨z, rfl⟩, repCL_one (repC_sc.2 ⟨rfl, rfl⟩), .cons (.int _ _) .nil⟩
  | .str, cs, m, H, h, hb => by
    simp only [ShAt] at h
    obtain ⟨z, rfl⟩ := h
    exact ⟨m, H, [.sc (.string z)], [.string z], .refl _ _, hb, ⟨z, rfl⟩, repCL_one (repC_sc.2 ⟨rfl, rfl⟩), .cons (.string _) .nil⟩
  | .bool, cs, m, H, h, hb => by
    simp only [ShAt] at h
    obtain ⟨z, rfl⟩ := h
    exact ⟨m, H, [.sc (.bool z)], [.bool z], .refl _ _, hb, ⟨z, rfl⟩, repCL_one (repC_sc.2 ⟨rfl, rfl⟩), .cons (.bool _) .nil⟩
  | .un, cs, m, H, h, hb => by
    simp only [ShAt] at h
    subst h
    exact ⟨m, H, [], [], .refl _ _, hb, rfl, by simp only [RepCL], .nil⟩
  | .pr a b, cs, m, H, h, hb => by
    simp only [ShAt] at h
    obtain ⟨c1, c2, rfl, h1, h2⟩ := h
    obtain ⟨m1, H1, A, vs, g1, b1, o1, r1, s1⟩ := sh_rep a h1 hb
    obtain ⟨m2, H2, B, us, g2, b2, o2, r2, s2⟩ := sh_rep b h2 b1
    exact ⟨m2, H2, A ++ B, vs ++ us, g1.trans g2, b2, ⟨A, B, rfl, o1, o2⟩, repCL_app (g2.keep r1) r2, (all2_srmono g2.ext s1).append s2⟩
  | .sl s, cs, m, H, h, hb => by
    simp only [ShAt] at h
    rcases h with rfl | ⟨a, len, cap, rfl, hs0, hl, hel⟩
    · exact ⟨m, H, [.nl], [.slice none 0 0], .refl _ _, hb, .inl rfl, repCL_one (by simp only [RepC]), .cons .sliceNil .nil⟩
    · by_cases h0 : len = 0
      · subst h0
        refine ⟨m, H, [.fz 0 s.size []], [lostSlice], .refl _ _, hb, .inr ⟨[], rfl, fun e h => by cases h⟩, repCL_one ?_, .cons (.lost _ _ _ _) .nil⟩
        simp only [RepC]
        exact ⟨[], ⟨by simp, hs0, .inl ⟨rfl, .inr rfl⟩⟩, by simp only [RepCL]⟩
      · have hl0 : 0 < len := by omega
        -- the elements' cells
        have hch : ∀ i, ∃ es, i < cap → (w.cells? 0 (a.add (i * s.size)) s.size = some es ∧ ShAt w s es) := fun i => by
          by_cases hi : i < cap
          · obtain ⟨es, he⟩ := hel i hi
            exact ⟨es, fun _ => he⟩
          · exact ⟨[], fun hh => absurd hh hi⟩
        obtain ⟨f, hf⟩ := Classical.axiomOfChoice hch
        obtain ⟨C, el, fr, hspot, hg, _, _⟩ := cells_row (hf 0 (by omega)).1 hs0
        have hsp : a.spot = none := by simpa [Addr.add] using hspot
        have hblk : w.heap[a.block]? = some (.cells C el fr) := by simpa [Addr.add] using hg
        have cell : ∀ i, i < cap → (f i).length = s.size ∧ ∀ j v, (f i)[j]? = some v → C[a.off + (i * s.size + j)]? = some v := by
          intro i hi
          obtain ⟨C', el', fr', _, hg', hl', hc'⟩ := cells_row (hf i hi).1 hs0
          have hb' : (a.add (i * s.size)).block = a.block := by unfold Addr.add; split <;> rfl
          have ho' : (a.add (i * s.size)).off = a.off + i * s.size := by unfold Addr.add; split <;> simp_all
          rw [hb', hblk] at hg'
          injection hg' with hg'
          injection hg' with e1 _ _
          subst e1
          exact ⟨hl', fun j v hv => by have := hc' j v hv; rw [ho'] at this; rw [← Nat.add_assoc]; exact this⟩
        obtain ⟨m1, H1, As, vs, g1, b1, l1, o1, r1, s1⟩ := elems_rep (w := w) (s := s) (fun h hb => sh_rep s h hb) (ess := (List.range len).map f) (m := m) (H := H) (fun es he => by
          obtain ⟨i, hi, rfl⟩ := List.mem_map.1 he
          exact (hf i (by have := List.mem_range.1 hi; omega)).2) hb
        rw [List.length_map, List.length_range] at l1
        have hfl : ∀ x ∈ (List.range len).map f, x.length = s.size := fun x hx => by
          obtain ⟨i, hi, rfl⟩ := List.mem_map.1 hx
          exact (cell i (by have := List.mem_range.1 hi; omega)).1
        have hcl : ((List.range len).map f).flatten.length = len * s.size := by rw [flat_len hfl, List.length_map, List.length_range]
        have hvl : vs.length = len * s.size := by rw [s1.length, hcl]
        let l : Loc := ⟨a.block, a.off, C.size⟩
        have hfit : a.off + cap * s.size ≤ C.size := by
          obtain ⟨e1, e2⟩ := cell (cap - 1) (by omega)
          have := e2 (s.size - 1) _ (List.getElem?_eq_getElem (by omega))
          have := (Array.getElem?_eq_some_iff.1 this).1
          have e3 : (cap - 1) * s.size + s.size = cap * s.size := by rw [← Nat.succ_mul]; congr 1; omega
          omega
        have b2 := b1.push (cs := vs) (l := l) hblk rfl (fun i v hv => by
          obtain ⟨v', a1, a2⟩ := s1.get i v hv
          obtain ⟨p, q, x, hp, hq, hqs, hpq⟩ := flat_get hfl a1
          rw [List.getElem?_map] at hp
          cases hr : (List.range len)[p]? with
          | none => rw [hr] at hp; cases hp
          | some p' =>
            rw [hr] at hp
            injection hp with hp
            have hpl : p < len := by have := lt_of_get hr; simpa using this
            rw [List.getElem?_range hpl] at hr
            injection hr with hr
            subst hr; subst hp
            exact ⟨v', by rw [hpq]; exact (cell p (by omega)).2 q v' hq, a2⟩)
        have hnew : (psh m1 H1.length l) H1.length = some l := psh_new ..
        refine ⟨psh m1 H1.length l, H1 ++ [.cells H1.length false vs], [.fz As.length s.size As.flatten], [sliceA H1.length 0 len s.size], g1.trans ⟨.push l b1.rel.free, _, rfl⟩, b2, .inr ⟨As, rfl, o1⟩, repCL_one ?_, .cons ?_ .nil⟩
        · simp only [RepC]
          rw [l1]
          refine ⟨vs, ⟨hvl, hs0, .inr ⟨H1.length, 0, H1.length, false, vs, rfl, by simp, trivial, by omega, by rw [List.drop_zero, ← hvl, List.take_length]⟩⟩, RepCL.keep (keepZ_app H1 _) _ _ r1⟩
        · have := SR.slice (m := psh m1 H1.length l) H1.length 0 len s.size cap l hnew hl (by show a.off + 0 + cap * s.size ≤ C.size; omega)
          obtain ⟨ab, ao, asp⟩ := a
          simp only at hsp
          subst hsp
          exact this
def ArgSh (w : World) : Sh → Value → Prop
  | .pr a b, v => ∃ cs, v = .agg cs ∧ ShAt w (.pr a b) cs.toList
  | s, v => ShAt w s [v]
def ShArg : Sh → VV → Prop
  | .pr a b, A => ∃ As, A = .st As ∧ ShOk (.pr a b) As
  | s, A => ShOk s [A]
theorem arg_read {H : Type} {enc : TypeId × Value → H} {P : Program} {w w0 : World} {held : Bool} {r : Reach} {base : Nat} {s : Sh} {t : TypeId} {v : Value} {d : DataW H} {p : List MemPlace} (hs : shT P s t = true) (hval : Value.okWide P w0 r base t v)
    (hd : DataW.Trod enc P w 0 (fun _ => true) held t v d p) : ArgSh w s v := by
  obtain ⟨fuel, hf⟩ := hd
  have h := sh_read s hs hf
  cases s with
  | int k =>
    unfold shT at hs
    split at hs
    · rename_i k' hu
      obtain ⟨n, rfl⟩ := WideShapes.okWide_int hu hval
      exact h
    · cases hs
  | str =>
    unfold shT at hs
    split at hs
    · rename_i hu
      obtain ⟨n, rfl⟩ := WideShapes.okWide_string hu hval
      exact h
    · cases hs
  | bool =>
    unfold shT at hs
    split at hs
    · rename_i hu
      obtain ⟨n, rfl⟩ := WideShapes.okWide_bool hu hval
      exact h
    · cases hs
  | sl s =>
    unfold shT at hs
    split at hs
    · rename_i e hu
      obtain ⟨a, len, cap, rfl⟩ := WideShapes.okWide_slice hu hval
      exact h
    · cases hs
  | un => unfold shT at hs; cases hs
  | pr a b =>
    have hagg : ∃ cs, v = .agg cs := by
      unfold shT at hs
      split at hs
      · rename_i o u r hl
        unfold fieldsOf at hl
        split at hl
        · rename_i fs hu
          simp only [Value.okWide, hu] at hval
          obtain ⟨cs, e, _⟩ := hval
          exact ⟨cs, e⟩
        · rename_i n e hu
          simp only [Value.okWide, hu] at hval
          obtain ⟨cs, e, _⟩ := hval
          exact ⟨cs, e⟩
        · cases hl
      · cases hs
    obtain ⟨cs, rfl⟩ := hagg
    exact ⟨cs, rfl, h⟩
theorem arg_rep {w : World} {s : Sh} {v : Value} {m : Mp} {H : Heap} (h : ArgSh w s v) (hb : Bears w m H) : ∃ m' H' A u, Grows m H m' H' ∧ Bears w m' H' ∧ ShArg s A ∧ RepC TT H' A u ∧ VR m' u v := by
  have one : ShAt w s [v] → (∀ A, ShOk s [A] → ShArg s A) → s.size = 1 → ∃ m' H' A u, Grows m H m' H' ∧ Bears w m' H' ∧ ShArg s A ∧ RepC TT H' A u ∧ VR m' u v := by
    intro h hsh h1
    obtain ⟨m', H', As, vs, g, b, o, r, k⟩ := sh_rep s h hb
    have hl := o.len
    rw [h1] at hl
    match As, hl with
    | [A], _ =>
      simp only [RepCL] at r
      obtain ⟨u, ws, rfl, r1, rfl⟩ := r
      cases k with
      | cons k1 k2 =>
        exact ⟨m', H', A, u, g, b, hsh A o, r1, .a (.s k1)⟩
  cases s with
  | pr a c =>
    obtain ⟨cs, rfl, h⟩ := h
    obtain ⟨m', H', As, vs, g, b, o, r, k⟩ := sh_rep _ h hb
    refine ⟨m', H', .st As, .agg vs.toArray, g, b, ⟨As, rfl, o⟩, by simp only [RepC]; exact ⟨vs, rfl, r⟩, .a (.agg (by simpa using k))⟩
  | un =>
    have : ShAt w .un [v] := h
    simp only [ShAt] at this
    cases this
  | int k => exact one h (fun _ o => o) rfl
  | str => exact one h (fun _ o => o) rfl
  | bool => exact one h (fun _ o => o) rfl
  | sl s => exact one h (fun _ o => o) rfl
theorem args_rep {w : World} : ∀ {shs : List Sh} {vs : List Value} {m : Mp} {H : Heap}, All2 (ArgSh w) shs vs → Bears w m H → ∃ (m' : Mp) (H' : Heap) (As : List VV) (us : List Value), Grows m H m' H' ∧ Bears w m' H' ∧ All2 ShArg shs As ∧ RepCL TT H' As us ∧ All2 (VR m') us vs := by
  intro shs
  induction shs with
  | nil => intro vs m H h hb; cases h; exact ⟨m, H, [], [], .refl _ _, hb, .nil, by simp only [RepCL], .nil⟩
  | cons s shs ih =>
    intro vs m H h hb
    cases h with
    | cons h1 h2 =>
      obtain ⟨m1, H1, A, u, g1, b1, o1, r1, k1⟩ := arg_rep h1 hb
      obtain ⟨m2, H2, As, us, g2, b2, o2, r2, k2⟩ := ih h2 b1
      exact ⟨m2, H2, A :: As, u :: us, g1.trans g2, b2, .cons o1 o2, repCL_app (g2.keep (repCL_one r1)) r2, .cons (k1.mono g2.ext) k2⟩
theorem bears_nil (w : World) : Bears w (fun _ => none) [] := ⟨rel_nil w, fun b x h => by simp at h, fun b f o cs h => by simp at h⟩
abbrev shL : Sh := .sl (.int .i64)
theorem sh_L {A : VV} (h : ShOk shL [A]) : ∃ l, asL A = some l := by
  simp only [ShOk] at h
  rcases h with h | ⟨es, h, he⟩
  · injection h with h; subst h; exact ⟨[], rfl⟩
  · injection h with h; subst h
    have : ∃ l, es.flatten = li l := by
      induction es with
      | nil => exact ⟨[], rfl⟩
      | cons e es ih =>
        obtain ⟨l, hl⟩ := ih fun x hx => he x (List.mem_cons_of_mem _ hx)
        obtain ⟨z, hz⟩ := he e (List.mem_cons_self ..)
        exact ⟨z :: l, by rw [List.flatten_cons, hz, hl]; rfl⟩
    obtain ⟨l, hl⟩ := this
    rw [hl]
    exact ⟨l, asL_fz⟩
abbrev shO : Sh := .pr shL (.pr shL .un)
theorem shOk_split2 {a b : Sh} {As : List VV} (h : ShOk (.pr a (.pr b .un)) As) (ha : a.size = 1) (hb : b.size = 1) : ∃ A B, As = [A, B] ∧ ShOk a [A] ∧ ShOk b [B] := by
  simp only [ShOk] at h
  obtain ⟨A1, A2, rfl, h1, B1, B2, rfl, h2, rfl⟩ := h
  have l1 := h1.len
  have l2 := h2.len
  rw [ha] at l1
  rw [hb] at l2
  match A1, B1, l1, l2 with
  | [A], [B], _, _ => exact ⟨A, B, rfl, h1, h2⟩
theorem sh_O {A : VV} (h : ShArg shO A) : ∃ o, cO.dec A = some o := by
  obtain ⟨As, rfl, h⟩ := h
  obtain ⟨A, B, rfl, h1, h2⟩ := shOk_split2 h rfl rfl
  obtain ⟨l, hl⟩ := sh_L h1
  obtain ⟨m, hm⟩ := sh_L h2
  refine ⟨(l, m), ?_⟩
  show asO (.st [A, B]) = _
  simp only [asO, hl, hm]
theorem sh_S {A : VV} (h : ShArg .str A) : ∃ s, cS.dec A = some s := by
  have h : ShOk .str [A] := h
  obtain ⟨s, hs⟩ := h
  injection hs with hs
  subst hs
  exact ⟨s, rfl⟩
end Go.Abs
