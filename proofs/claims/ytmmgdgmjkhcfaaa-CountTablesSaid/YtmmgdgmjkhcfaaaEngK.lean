/- Regions that draw their order. -/
import Derived.Test.YtmmgdgmjkhcfaaaEngKf
namespace Go.Abs
/-- A region that draws its order comes to what it comes to in the order of the text. -/
def DrawOK (P : Program) (call : CallF) (nt : Nat) : Prop := ∀ ops : Array Oper, (∀ o ∈ ops.toList, operOk nt o = true) → drawOk ops (Region.before ops) (effs ops) = true → ∀ a H a' H', evDraw P call ops (Region.before ops) (List.range ops.size) a H [(none, H)] [] = some (a', H') →
  ∀ m w tmps (t : Nat), Rel m H w → FR m nt a tmps → ∃ m' w' tmps', Sim m H w m' H' w' ∧ FR m' nt a' tmps' ∧ ∀ b ds k cs, Steps P (lone (onF b tmps ds (.inRegion ops (Region.schedule (P.follows .mixedOrders) ops t) :: k)) cs w) (lone (onF b tmps' ds k) cs w')
section
variable {P : Program} {call : CallF} {ops : Array Oper} {a : Fr} {H : Heap} {nt : Nat} {m0 : Mp} {w0 w : World} {L : Nat → Bool} {M : Mp} {tmps : Array Value} {c : Nat}
theorem stepA_not {o : Oper} (h : cls o.op ≠ .eff) : stepA P call a o H = aexec P a o H := by
  unfold stepA
  split
  · rename_i hop
    rw [hop] at h
    simp [cls] at h
  · rfl
/-- The frame when x is done. -/
theorem frame_put {L : Nat → Bool} {M M' : Mp} {tmps : Array Value} {c c' : Nat} {x : Nat} {v' : Value} (hx : x < ops.size) (hD : DrawF ops)
    (hf : ∀ t, t < nt → ∃ v', tmps[t]? = some v' ∧ ((∃ y, y < ops.size ∧ L y = true ∧ (opAt ops y).dst = some t ∧ VR (rst M (hl P call ops a H (max (y + 1) c))) (trV P call ops a H y) v') ∨
      ((∀ y, y < ops.size → L y = true → (opAt ops y).dst ≠ some t) ∧ VR (rst M (hl P call ops a H c)) (a t) v')))
    (hs : tmps.size = nt) (h1 : ∀ y, y < ops.size → Ext (rst M (hl P call ops a H (max (y + 1) c))) (rst M' (hl P call ops a H (max (y + 1) c')))) (h2 : Ext (rst M (hl P call ops a H c)) (rst M' (hl P call ops a H c')))
    (hv : VR (rst M' (hl P call ops a H (max (x + 1) c'))) (trV P call ops a H x) v') :
    ∀ t, t < nt → ∃ u', (putC tmps (opAt ops x).dst v')[t]? = some u' ∧ ((∃ y, y < ops.size ∧ (decide (y = x) || L y) = true ∧ (opAt ops y).dst = some t ∧ VR (rst M' (hl P call ops a H (max (y + 1) c'))) (trV P call ops a H y) u') ∨
      ((∀ y, y < ops.size → (decide (y = x) || L y) = true → (opAt ops y).dst ≠ some t) ∧ VR (rst M' (hl P call ops a H c')) (a t) u')) := by
  intro t ht
  by_cases hd : (opAt ops x).dst = some t
  · refine ⟨v', ?_, .inl ⟨x, hx, by simp, hd, hv⟩⟩
    rw [hd]
    simp only [putC]
    rw [Array.getElem?_setIfInBounds, if_pos rfl, if_pos (by omega)]
  · obtain ⟨u', h3, h4⟩ := hf t ht
    refine ⟨u', ?_, ?_⟩
    · cases hdx : (opAt ops x).dst with
      | none => exact h3
      | some d =>
        simp only [putC]
        rw [Array.getElem?_setIfInBounds, if_neg (fun e => hd (by rw [hdx, e]))]
        exact h3
    · rcases h4 with ⟨y, hy, hLy, hyd, hyv⟩ | ⟨hno, hv0⟩
      · exact .inl ⟨y, hy, by simp [hLy], hyd, hyv.mono (h1 y hy)⟩
      · refine .inr ⟨fun y hy hLy => ?_, hv0.mono h2⟩
        simp only [Bool.or_eq_true, decide_eq_true_eq] at hLy
        rcases hLy with rfl | hLy
        · exact hd
        · exact hno y hy hLy
theorem putC_size (tmps : Array Value) (d : Option Nat) (v : Value) : (putC tmps d v).size = tmps.size := by cases d <;> simp [putC]
/-- Nothing happens to memory. -/
theorem Inv.quiet {bef : Array Nat} (hg : CallGrow call) (hok : ∀ j, j < ops.size → StepOk P call ops a H bef j) (hD : DrawF ops) (hI : Inv P call ops a H nt m0 w0 L M w tmps c) {x : Nat} (hx : x < ops.size) (hp : ∀ p ∈ preds (opAt ops x), L p = true) (hE : ¬ isE P call ops a H x) (hm : ¬ mkAt P call ops a H x)
    {v' : Value} (hv : VR (rst M (hl P call ops a H (max (x + 1) c))) (trV P call ops a H x) v') : Inv P call ops a H nt m0 w0 (fun j => decide (j = x) || L j) M w (putC tmps (opAt ops x).dst v') c where
  le := hI.le
  at_ := hI.at_
  eff := fun e he hEe => by
    have : e ≠ x := fun h => hE (h ▸ hEe)
    simpa [this] using hI.eff e he hEe
  down := hI.down.add hD hx hp
  base := hI.base
  early := fun y hy hc hL hmy => by
    have : y ≠ x := fun h => hm (h ▸ hmy)
    exact hI.early y hy hc (by simpa [this] using hL) hmy
  dom := fun b l hb => (hI.dom b l hb).imp id fun ⟨y, hy, hc, hL, h⟩ => ⟨y, hy, hc, by simp [hL], h⟩
  size := by rw [putC_size]; exact hI.size
  frame := frame_put hx hD hI.frame hI.size (fun _ _ => .refl _) (.refl _) hv
variable (hcall : CallOK P call) (hg : CallGrow call) (hD : DrawF ops) (hok : ∀ j, j < ops.size → StepOk P call ops a H (Region.before ops) j) (hops : ∀ o ∈ ops.toList, operOk nt o = true)
include hcall hg hD hok hops
theorem inv_step (hI : Inv P call ops a H nt m0 w0 L M w tmps c) {x : Nat} (hx : x < ops.size) (hLx : L x = false) (hp : ∀ p ∈ preds (opAt ops x), L p = true) :
    ∃ M' w' tmps' c', Inv P call ops a H nt m0 w0 (fun j => decide (j = x) || L j) M' w' tmps' c' ∧ ∀ b ds rest k cs, Steps P (lone (onF b tmps ds (.inRegion ops (x :: rest) :: k)) cs w) (lone (onF b tmps' ds (.inRegion ops rest :: k)) cs w') := by
  have hbits := hI.down.bits hD hx hp
  have hwant := hI.wanted hg hD hok hops hx hbits
  have hget := opAt_get hx
  have hopok := hops _ (List.mem_of_getElem? (by simpa using hget : ops.toList[x]? = some (opAt ops x)))
  have hopnd : ∀ z ∈ (opAt ops x).op.operands.toList, VR (rst M (hl P call ops a H (max x c))) (ev (trA P call ops a H x) z) (evC tmps z) := fun z hz => hI.opnd hg hD hok hx hLx hbits hz (mem_operands hopok z hz)
  have hcn := hI.le
  have hle1 : hl P call ops a H (max x c) ≤ hl P call ops a H (max (x + 1) c) := hl_mono hg hok (by omega) (by omega)
  cases hw : trW P call ops a H x with
  | false =>
    have hE : ¬ isE P call ops a H x := fun h => by have h1 := h.1; rw [hw] at h1; cases h1
    have hm : ¬ mkAt P call ops a H x := fun h => by have h1 := h.1; rw [hw] at h1; cases h1
    refine ⟨M, w, _, c, hI.quiet hg hok hD hx hp hE hm (v' := undef) (by rw [(hok x hx).not hw]; exact .undef _), fun b ds rest k cs => .one (st_notWanted hget (by rw [hwant, hw]))⟩
  | true =>
    rw [hw] at hwant
    have quietly : cls (opAt ops x).op = .pure_ ∨ cls (opAt ops x).op = .read → (∀ G, Sub (trH P call ops a H c) G → ∃ G', aexec P (trA P call ops a H x) (opAt ops x) G = some (trV P call ops a H x, G')) →
        ∃ M' w' tmps' c', Inv P call ops a H nt m0 w0 (fun j => decide (j = x) || L j) M' w' tmps' c' ∧ ∀ b ds rest k cs, Steps P (lone (onF b tmps ds (.inRegion ops (x :: rest) :: k)) cs w) (lone (onF b tmps' ds (.inRegion ops rest :: k)) cs w') := by
      intro hcl hrun
      have hE : ¬ isE P call ops a H x := fun h => by have h2 := h.2; rw [h2] at hcl; rcases hcl with e | e <;> cases e
      have hm : ¬ mkAt P call ops a H x := fun h => by have h2 := h.2; rw [h2] at hcl; rcases hcl with e | e <;> cases e
      obtain ⟨G, g1, g2, g3, _⟩ := layers hg hok hI (max x c - c) (by omega)
      rw [show c + (max x c - c) = max x c from by omega] at g1 g2
      obtain ⟨G', hG'⟩ := hrun G g3
      have hstep : stepA P call (trA P call ops a H x) (opAt ops x) G = some (trV P call ops a H x, G') := by
        rw [stepA_not (fun e => by rw [e] at hcl; rcases hcl with e | e <;> cases e)]; exact hG'
      obtain ⟨m', w', v', _, s2, s3, s4⟩ := op_run hcall g1.rel hget hopnd hwant hstep
      obtain ⟨rfl, rfl⟩ := s4 hcl
      exact ⟨M, w', _, c, hI.quiet hg hok hD hx hp hE hm (s2.mono (rst_ext (.refl M) hle1)), s3⟩
    cases hcl : cls (opAt ops x).op with
    | pure_ =>
      obtain ⟨G, hG⟩ := (hok x hx).quiet hw (.inl hcl)
      exact quietly (.inl hcl) fun G' _ => ⟨G', (aexec_pure hcl hG).2 G'⟩
    | read =>
      obtain ⟨G, hG⟩ := stable hok hx hw hcl hcn hI.at_ (fun e he hEe hce => by
        cases hb : ((Region.before ops).getD x 0).testBit e with
        | false => rfl
        | true =>
          have := (hI.eff e he hEe).1 (hbits e hb)
          omega) (fun e hec hEe => by
        cases hb : ((Region.before ops).getD e 0).testBit x with
        | false => rfl
        | true =>
          have := hI.down e (by omega) ((hI.eff e (by omega) hEe).2 hec) x hb
          rw [hLx] at this; cases this)
      exact quietly (.inr hcl) fun G' hS => ⟨G', aexec_read hcl hG hS⟩
    | all_ =>
      have hm : mkAt P call ops a H x := ⟨hw, hcl⟩
      have hE : ¬ isE P call ops a H x := fun h => by have h2 := h.2; rw [hcl] at h2; cases h2
      have hcx : c ≤ x := by
        rcases hI.at_ with e | ⟨e, rfl, hEe⟩
        · omega
        · rcases Nat.lt_trichotomy x e with h | h | h
          · have := hI.down e (by omega) ((hI.eff e (by omega) hEe).2 (by omega)) x (hD.alloc x e h (by omega) hcl hEe.2)
            rw [hLx] at this; cases this
          · subst h; exact absurd hEe hE
          · omega
      have hmax : max x c = x := by omega
      rw [hmax] at hopnd
      have hal := (hok x hx).alloc hw hcl
      obtain ⟨B, obj, N, v', q1, q2, q3, q4, q5⟩ := alloc_core (w := w) hopnd hcl hal
      have hhl : hl P call ops a H (x + 1) = hl P call ops a H x + 1 := by unfold hl; rw [q1]; simp
      have hfree : M (hl P call ops a H x) = none := no_place hg hok hI hx hcx (by rw [hLx]; simp) (Nat.le_refl _) (by omega)
      have hE' : Ext M (psh M (hl P call ops a H x) ⟨w.heap.size, 0, N⟩) := .push _ hfree
      have hEr : Ext (rst M (hl P call ops a H x)) (rst (psh M (hl P call ops a H x) ⟨w.heap.size, 0, N⟩) (hl P call ops a H (x + 1))) := rst_ext hE' (by omega)
      have hnew : rst (psh M (hl P call ops a H x) ⟨w.heap.size, 0, N⟩) (hl P call ops a H (x + 1)) (hl P call ops a H x) = some ⟨w.heap.size, 0, N⟩ := rst_some.2 ⟨by omega, psh_new ..⟩
      have hbaseM : rst (psh M (hl P call ops a H x) ⟨w.heap.size, 0, N⟩) (hl P call ops a H c) = rst M (hl P call ops a H c) := by
        have h1 := hl_mono hg hok hcx (by omega)
        funext b
        unfold rst
        split
        · rw [psh_old _ (by omega)]
        · rfl
      have hMlt : ∀ b k, M b = some k → k.g < w.heap.size := fun b k hb => by
        rcases hI.dom b k hb with h | ⟨y, hy, hcy, hLy, hmy, rfl⟩
        · exact hI.base.rel.bnd b k (rst_some.2 ⟨h, hb⟩)
        · obtain ⟨l, B', e1, _, _, _, e5, _⟩ := hI.early y hy hcy hLy hmy
          rw [e1] at hb; injection hb with hb; rw [← hb]; exact e5
      refine ⟨psh M (hl P call ops a H x) ⟨w.heap.size, 0, N⟩, { w with heap := w.heap.push obj }, _, c, ⟨hcn, hI.at_, fun e he hEe => ?_, hI.down.add hD hx hp, ?_, fun y hy hcy hLy hmy => ?_, fun b l hb => ?_, by rw [putC_size]; exact hI.size, ?_⟩, fun b ds rest k cs => .one (st_value hget hwant (stepA_notDefer (call := call) (by rw [stepA_not (by rw [hcl]; simp)]; exact hal)) q3 rfl)⟩
      · have : e ≠ x := fun h => hE (h ▸ hEe)
        simpa [this] using hI.eff e he hEe
      · rw [hbaseM]
        exact hI.base.trans (Sim.junk hI.base.rel obj)
      · by_cases hyx : y = x
        · subst hyx
          refine ⟨⟨w.heap.size, 0, N⟩, B, psh_new .., q1, q2, q5 _ _ hEr (heap_push_eq w obj), by simp, hI.base.keep.size, fun b k hb hk => ?_⟩
          rw [psh_old _ hb] at hk
          have := hMlt b k hk
          simp; omega
        · obtain ⟨l, B', e1, e2, e3, e4, e5, e6, e7⟩ := hI.early y hy hcy (by simpa [hyx] using hLy) hmy
          refine ⟨l, B', hE' _ _ e1, e2, e3, e4.keep (rst_ext hE' (Nat.le_refl _)) fun _ => heap_push_lt w obj e5, by simp; omega, e6, fun b k hb hk => ?_⟩
          by_cases hbx : b = hl P call ops a H x
          · subst hbx
            rw [psh_new] at hk
            injection hk with hk
            subst hk
            simp; omega
          · rw [psh_old _ hbx] at hk
            exact e7 b k hb hk
      · by_cases hbx : b = hl P call ops a H x
        · exact .inr ⟨x, hx, hcx, by simp, hm, hbx⟩
        · rw [psh_old _ hbx] at hb
          exact (hI.dom b l hb).imp id fun ⟨y, hy, hc, hL, h⟩ => ⟨y, hy, hc, by simp [hL], h⟩
      · refine frame_put hx hD hI.frame hI.size (fun _ _ => rst_ext hE' (Nat.le_refl _)) (rst_ext hE' (Nat.le_refl _)) ?_
        rw [show max (x + 1) c = x + 1 from by omega]
        exact q4 _ hEr hnew
    | eff =>
      have hE : isE P call ops a H x := ⟨hw, hcl⟩
      have hm : ¬ mkAt P call ops a H x := fun h => by have h2 := h.2; rw [hcl] at h2; cases h2
      have hcx : c ≤ x := by
        rcases Nat.lt_or_ge x c with h | h
        · have := (hI.eff x hx hE).2 h
          rw [hLx] at this; cases this
        · exact h
      have hmax : max x c = x := by omega
      rw [hmax] at hopnd
      have hnoE : ∀ e, c ≤ e → e < x → ¬ isE P call ops a H e := fun e h1 h2 hEe => by
        have := (hI.eff e (by omega) hEe).1 (hbits e (hD.effs e x h2 hx hEe.2 hcl))
        omega
      obtain ⟨G, g1, g2, _, g4⟩ := layers hg hok hI (x - c) (by omega)
      rw [show c + (x - c) = x from by omega] at g1 g2 g4
      have hG := g4 fun j h1 h2 => ⟨hnoE j h1 h2, fun hmj => hbits j (hD.alloc j x h2 hx hmj.2 hcl)⟩
      subst hG
      have hstep := ((hok x hx).eff hE).1
      obtain ⟨m', w', v', s1, s2, s3, _⟩ := op_run hcall g1.rel hget hopnd hwant hstep
      have hstp := hl_step hg hok hx
      let M' : Mp := fun b => if b < hl P call ops a H (x + 1) then m' b else M b
      have hMlo : ∀ {b}, b < hl P call ops a H (x + 1) → M' b = m' b := fun h => if_pos h
      have hMhi : ∀ {b}, hl P call ops a H (x + 1) ≤ b → M' b = M b := fun h => if_neg (by omega)
      have hExt : Ext M M' := fun b l hb => by
        rcases Nat.lt_or_ge b (hl P call ops a H (x + 1)) with h | h
        · rw [hMlo h]
          rcases Nat.lt_or_ge b (hl P call ops a H x) with h1 | h1
          · exact s1.ext _ _ (rst_some.2 ⟨h1, hb⟩)
          · rw [no_place hg hok hI hx hcx (by rw [hLx]; simp) h1 h] at hb; cases hb
        · rw [hMhi h]; exact hb
      have hM' : rst M' (hl P call ops a H (x + 1)) = m' := by
        funext b
        unfold rst
        split
        · exact hMlo (by assumption)
        · cases hb : m' b with
          | none => rfl
          | some l => exact absurd (s1.rel.len b l hb) (by assumption)
      have hyx : ∀ y, y < ops.size → x + 1 ≤ y → hl P call ops a H (x + 1) ≤ hl P call ops a H y := fun y hy h => hl_mono hg hok h (by omega)
      refine ⟨M', w', _, x + 1, ⟨by omega, .inr ⟨x, rfl, hE⟩, fun e he hEe => ?_, hI.down.add hD hx hp, ?_, fun y hy hcy hLy hmy => ?_, fun b l hb => ?_, by rw [putC_size]; exact hI.size, ?_⟩, s3⟩
      · simp only [Bool.or_eq_true, decide_eq_true_eq]
        rw [hI.eff e he hEe]
        constructor
        · intro h; omega
        · intro h
          rcases Nat.lt_or_ge e x with h1 | h1
          · rcases Nat.lt_or_ge e c with h2 | h2
            · exact .inr h2
            · exact absurd hEe (hnoE e h2 h1)
          · exact .inl (by omega)
      · rw [hM']; exact g1.trans s1
      · have hne : y ≠ x := by omega
        obtain ⟨l, B', e1, e2, e3, e4, e5, e6, e7⟩ := hI.early y hy (by omega) (by simpa [hne] using hLy) hmy
        have hhy := hyx y hy hcy
        have hnot : ¬ Owned (rst M (hl P call ops a H x)) (trH P call ops a H x) l.g := fun ⟨b, _, k, _, k2, _, k4⟩ => by
          rw [rst_some] at k2
          exact e7 b k (fun e => by omega) k2.2 k4
        refine ⟨l, B', by rw [hMhi hhy]; exact e1, e2, e3, e4.keep (rst_ext hExt (Nat.le_refl _)) fun _ => s1.keep.block _ e5 hnot, Nat.lt_of_lt_of_le e5 s1.keep.size, e6, fun b k hb hk => ?_⟩
        rcases Nat.lt_or_ge b (hl P call ops a H (x + 1)) with h | h
        · rw [hMlo h] at hk
          rcases s1.img b k hk with ⟨c0, k0, h1, h2⟩ | h1
          · rw [rst_some] at h1
            rw [← h2]
            exact e7 c0 k0 (fun e => by omega) h1.2
          · omega
        · rw [hMhi h] at hk
          exact e7 b k hb hk
      · rcases Nat.lt_or_ge b (hl P call ops a H (x + 1)) with h | h
        · exact .inl h
        · rw [hMhi h] at hb
          rcases hI.dom b l hb with h1 | ⟨y, hy, hcy, hLy, hmy, rfl⟩
          · have := hl_mono hg hok (show c ≤ x + 1 by omega) (by omega)
            omega
          · refine .inr ⟨y, hy, ?_, by simp [hLy], hmy, rfl⟩
            rcases Nat.lt_or_ge y (x + 1) with h2 | h2
            · have e1 := mk_hl hok hI hy hcy hLy hmy
              have := hl_mono hg hok (show y + 1 ≤ x + 1 by omega) (by omega)
              omega
            · exact h2
      · refine frame_put hx hD hI.frame hI.size (fun y hy => rst_ext hExt (hl_mono hg hok (by omega) (by omega))) (rst_ext hExt (hl_mono hg hok (by omega) (by omega))) ?_
        rw [show max (x + 1) (x + 1) = x + 1 from by omega, hM']
        exact s2
theorem inv_run : ∀ {l : List Nat} {L : Nat → Bool}, Topo ops L l → ∀ {M : Mp} {w : World} {tmps : Array Value} {c : Nat}, Inv P call ops a H nt m0 w0 L M w tmps c →
    ∃ m' w' tmps', Sim m0 H w0 m' (trH P call ops a H ops.size) w' ∧ FR m' nt (trA P call ops a H ops.size) tmps' ∧ ∀ b ds k cs, Steps P (lone (onF b tmps ds (.inRegion ops l :: k)) cs w) (lone (onF b tmps' ds k) cs w') := by
  intro l L hT
  induction hT with
  | nil L hall =>
    intro M w tmps c hI
    have hcn := hI.le
    obtain ⟨G, g1, g2, _, g4⟩ := layers hg hok hI (ops.size - c) (by omega)
    rw [show c + (ops.size - c) = ops.size from by omega] at g1 g2 g4
    have hG := g4 fun j h1 h2 => ⟨fun hE => by
      have := (hI.eff j h2 hE).1 (hall j h2)
      omega, fun _ => hall j h2⟩
    subst hG
    refine ⟨_, w, tmps, g1, ⟨hI.size, fun t ht => ?_⟩, fun b ds k cs => .one st_regionEnd⟩
    obtain ⟨v', h1, h2⟩ := hI.frame t ht
    refine ⟨v', h1, ?_⟩
    rcases h2 with ⟨y, hy, hLy, hd, hv⟩ | ⟨hno, hv⟩
    · rw [trA_wr hD hok hd _ (Nat.le_refl _) hy]
      exact hv.mono (rst_ext (.refl M) (hl_mono hg hok (by omega) (Nat.le_refl _)))
    · rw [trA_no hok _ (Nat.le_refl _) fun y hy => hno y hy (hall y hy)]
      exact hv.mono (rst_ext (.refl M) (hl_mono hg hok hcn (Nat.le_refl _)))
  | cons L x l hx hLx hp _ ih =>
    intro M w tmps c hI
    obtain ⟨M', w', t', c', hI', hs⟩ := inv_step hcall hg hD hok hops hI hx hLx hp
    obtain ⟨m2, w2, t2, r1, r2, r3⟩ := ih hI'
    exact ⟨m2, w2, t2, r1, r2, fun b ds k cs => (hs b ds l k cs).trans (r3 b ds k cs)⟩
end
theorem drawOK {P : Program} (hmix : P.follows .mixedOrders = true) {call : CallF} (hcall : CallOK P call) (hg : CallGrow call) (nt : Nat) : DrawOK P call nt := by
  intro ops hops hdr a H a' H' h m w tmps t hR hf
  have hD := DrawF.of hdr
  rw [List.range_eq_range'] at h
  obtain ⟨⟨rfl, rfl⟩, hok⟩ := trace (P := P) (call := call) (ops := ops) (a := a) (H := H) (bef := Region.before ops) ops.size 0 (by omega) h
  have hI : Inv P call ops a H nt m w (fun _ => false) m w tmps 0 := by
    have hself : rst m (hl P call ops a H 0) = m := rst_self hR.len
    refine ⟨Nat.zero_le _, .inl rfl, fun e _ _ => by simp, fun j _ hj => by simp at hj, ?_, fun x _ _ hL => by simp at hL, fun b l hb => .inl (hR.len b l hb), hf.1, fun t ht => ?_⟩
    · rw [hself]; exact .refl hR
    · obtain ⟨v', h1, h2⟩ := hf.2 t ht
      exact ⟨v', h1, .inr ⟨fun _ _ hL => by simp at hL, by rw [hself]; exact h2⟩⟩
  rw [hmix]
  have : Region.schedule true ops t = Region.linearise .any ops t := by simp [Region.schedule]
  rw [this]
  exact inv_run hcall hg hD (fun j hj => hok j (Nat.zero_le _) hj) hops (linearise_topo hD.pre t) hI
end Go.Abs
