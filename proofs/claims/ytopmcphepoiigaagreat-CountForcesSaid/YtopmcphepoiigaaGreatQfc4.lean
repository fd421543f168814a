/- Of the law: texts of its proof, joined (part 4). -/
import Derived.Test.YtopmcphepoiigaaGreatQfc3
set_option linter.all false
namespace Go.Num
theorem insD_len (x : Int) (l : List Int) : (insD x l).length = l.length + 1 := by
  induction l with
  | nil => rfl
  | cons y l ih => unfold insD; split <;> simp [ih]
theorem sortD_len (l : List Int) : (sortD l).length = l.length := by
  induction l with
  | nil => rfl
  | cons x l ih => unfold sortD; rw [insD_len, ih, List.length_cons]
theorem cycG_len (f : List Int) : ∀ (is : List Nat) (s : List Bool) (o : List Int), (cycG f is s o).length ≤ o.length + is.length := by
  intro is
  induction is with
  | nil => intro s o; exact Nat.le_refl _
  | cons i is ih =>
    intro s o
    unfold cycG
    split
    rename_i s' c _
    refine Nat.le_trans (ih _ _) ?_
    split <;> simp <;> omega
theorem kindP_len (r u : List Int) : (kindP r u).length ≤ r.length := by
  unfold kindP cycP
  rw [sortD_len]
  refine Nat.le_trans (cycG_len _ _ _ _) ?_
  simp [commP]
set_option maxRecDepth 100000 in
theorem commOk_51 : commOk5 1 = true := by decide +kernel
set_option maxRecDepth 100000 in
theorem commOk_52 : commOk5 2 = true := by decide +kernel
set_option maxRecDepth 100000 in
theorem commOk_53 : commOk5 3 = true := by decide +kernel
set_option maxRecDepth 100000 in
theorem commOk_54 : commOk5 4 = true := by decide +kernel
theorem perms5 : permsP 5 = ((permsP 5).drop (24 * 0)).take 24 ++ (((permsP 5).drop (24 * 1)).take 24 ++ (((permsP 5).drop (24 * 2)).take 24 ++ (((permsP 5).drop (24 * 3)).take 24 ++ ((permsP 5).drop (24 * 4)).take 24))) := by decide +kernel
theorem perm_ok {N : Nat} (hN : N ≤ 5) : ∀ r ∈ permsP N, ∀ u ∈ permsP N, commP r u ∈ permsP N ∧ (kindP r u).length ≤ 1000 := by
  intro r hr u hu
  refine ⟨?_, Nat.le_trans (kindP_len r u) (by rw [(perms_rng r hr).len]; omega)⟩
  by_cases h : N < 5
  · exact okB_mem (List.all_eq_true.1 (List.all_eq_true.1 (show commOk N = true from commOk_lo ⟨N, h⟩) r hr) u hu)
  · obtain rfl : N = 5 := by omega
    have mk : ∀ {k : Nat}, commOk5 k = true → r ∈ ((permsP 5).drop (24 * k)).take 24 → commP r u ∈ permsP 5 := fun hk hm => okB_mem (List.all_eq_true.1 (List.all_eq_true.1 hk r hm) u hu)
    rw [perms5] at hr
    simp only [List.mem_append] at hr
    rcases hr with h | h | h | h | h
    · exact mk commOk_50 h
    · exact mk commOk_51 h
    · exact mk commOk_52 h
    · exact mk commOk_53 h
    · exact mk commOk_54 h
def histS (cs : List (List Int)) (k : List Int) (a : List Nat) : List Nat := List.zipWith (fun c m => if k = c then m + 1 else m) cs a
def histR (ps : List (List Int)) (cs : List (List Int)) (r : List Int) (a : List Nat) : List Nat := ps.foldl (fun a u => histS cs (kindP r u) a) a
def hist (rs ps cs : List (List Int)) (a : List Nat) : List Nat := rs.foldl (fun a r => histR ps cs r a) a
def cntR (ps : List (List Int)) (c r : List Int) : Nat := (ps.filter fun u => decide (kindP r u = c)).length
theorem histS_get {cs : List (List Int)} {k : List Int} {a : List Nat} (h : a.length = cs.length) : (histS cs k a).length = cs.length ∧ ∀ j, j < cs.length → (histS cs k a).getD j 0 = a.getD j 0 + (if k = cs.getD j [] then 1 else 0) := by
  refine ⟨by unfold histS; simp [h], fun j hj => ?_⟩
  unfold histS
  rw [List.getD_eq_getElem?_getD, List.getElem?_zipWith, List.getD_eq_getElem?_getD, List.getD_eq_getElem?_getD, List.getElem?_eq_getElem hj, List.getElem?_eq_getElem (by omega : j < a.length)]
  simp only [Option.getD_some]
  split <;> simp
theorem histR_get {cs : List (List Int)} {r : List Int} : ∀ {ps : List (List Int)} {a : List Nat}, a.length = cs.length → (histR ps cs r a).length = cs.length ∧ ∀ j, j < cs.length → (histR ps cs r a).getD j 0 = a.getD j 0 + cntR ps (cs.getD j []) r := by
  intro ps
  induction ps with
  | nil => intro a h; exact ⟨h, fun j _ => rfl⟩
  | cons u ps ih =>
    intro a h
    obtain ⟨h1, h2⟩ := histS_get (k := kindP r u) h
    obtain ⟨h3, h4⟩ := ih h1
    refine ⟨h3, fun j hj => ?_⟩
    show (histR ps cs r (histS cs (kindP r u) a)).getD j 0 = _
    rw [h4 j hj, h2 j hj]
    unfold cntR
    rw [List.filter_cons]
    by_cases hk : kindP r u = cs.getD j []
    · rw [if_pos hk, decide_eq_true hk, if_pos rfl, List.length_cons]; omega
    · rw [if_neg hk, decide_eq_false hk, if_neg (by simp)]; omega
theorem hist_get {ps cs : List (List Int)} : ∀ {rs : List (List Int)} {a : List Nat}, a.length = cs.length → (hist rs ps cs a).length = cs.length ∧ ∀ j, j < cs.length → (hist rs ps cs a).getD j 0 = a.getD j 0 + (rs.map (cntR ps (cs.getD j []))).sum := by
  intro rs
  induction rs with
  | nil => intro a h; exact ⟨h, fun j _ => by simp [hist]⟩
  | cons r rs ih =>
    intro a h
    obtain ⟨h1, h2⟩ := histR_get (ps := ps) (r := r) h
    obtain ⟨h3, h4⟩ := ih h1
    refine ⟨h3, fun j hj => ?_⟩
    show (hist rs ps cs (histR ps cs r a)).getD j 0 = _
    rw [h4 j hj, h2 j hj, List.map_cons, List.sum_cons]; omega
theorem pairs_len (N : Nat) (c : List Int) : ∀ rs : List (List Int), (rs.flatMap (rowP N c)).length = (rs.map (cntR (permsP N) c)).sum := by
  intro rs
  induction rs with
  | nil => rfl
  | cons r rs ih =>
    rw [List.flatMap_cons, List.length_append, ih, List.map_cons, List.sum_cons]
    unfold rowP cntR
    rw [List.length_map]
def hist5 (k : Nat) (a : List Nat) : List Nat := hist (((permsP 5).drop (24 * k)).take 24) (permsP 5) (ptn 20 20 5) a
set_option maxRecDepth 100000 in
theorem hist_0 : hist5 0 [0, 0, 0, 0, 0, 0, 0] = [288, 0, 768, 1056, 0, 0, 768] := by decide +kernel
set_option maxRecDepth 100000 in
theorem hist_1 : hist5 1 [288, 0, 768, 1056, 0, 0, 768] = [426, 0, 1506, 2052, 0, 0, 1776] := by decide +kernel
set_option maxRecDepth 100000 in
theorem hist_2 : hist5 2 [426, 0, 1506, 2052, 0, 0, 1776] = [564, 0, 2244, 3048, 0, 0, 2784] := by decide +kernel
set_option maxRecDepth 100000 in
theorem hist_3 : hist5 3 [564, 0, 2244, 3048, 0, 0, 2784] = [702, 0, 2982, 4044, 0, 0, 3792] := by decide +kernel
set_option maxRecDepth 100000 in
theorem hist_4 : hist5 4 [702, 0, 2982, 4044, 0, 0, 3792] = [840, 0, 3720, 5040, 0, 0, 4800] := by decide +kernel
theorem hist_app (r1 r2 ps cs : List (List Int)) (a : List Nat) : hist (r1 ++ r2) ps cs a = hist r2 ps cs (hist r1 ps cs a) := List.foldl_append ..
theorem hist_all : hist (permsP 5) (permsP 5) (ptn 20 20 5) [0, 0, 0, 0, 0, 0, 0] = [840, 0, 3720, 5040, 0, 0, 4800] := by
  have e : ∀ rs, rs = permsP 5 → hist rs (permsP 5) (ptn 20 20 5) [0, 0, 0, 0, 0, 0, 0] = [840, 0, 3720, 5040, 0, 0, 4800] := by
    intro rs h
    rw [h.trans perms5, hist_app, hist_app, hist_app, hist_app]
    exact (congrArg _ (congrArg _ (congrArg _ (congrArg _ hist_0)))).trans ((congrArg _ (congrArg _ (congrArg _ hist_1))).trans ((congrArg _ (congrArg _ hist_2)).trans ((congrArg _ hist_3).trans hist_4)))
  exact e _ rfl
def frcOk (N : Nat) : Bool := (ptn 20 20 N).all fun c => frcT.any fun x => decide (x.1 = c) && decide (x.2 = ((pairsP N c).length : Int))
set_option maxRecDepth 100000 in
theorem frcOk_lo : ∀ k : Fin 5, frcOk k.1 = true := by decide +kernel
end Go.Num
