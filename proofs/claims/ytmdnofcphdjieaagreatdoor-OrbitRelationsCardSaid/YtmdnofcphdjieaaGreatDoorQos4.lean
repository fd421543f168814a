/- Of the law: texts of its proof, joined (part 4). -/
import Derived.Test.YtmdnofcphdjieaaGreatDoorQos3
set_option linter.all false
namespace Go.Abs
structure Box (α:Type) where
 run:α
structure D8 (α:Type) where
 (a0 a1 a2 a3 a4 a5 a6 a7:α)
@[reducible] def Dn (α:Type):Nat→Type
  | 0=>α
  | d+1=>D8 (Dn α d)
inductive TR (α:Type) where
 | s (t:Dn α 2)
 | m (t:Dn α 3)
 | l (t:Dn α 6)
abbrev FT:=TR Value
inductive MT where
 | e
 | n (c:Nat) (v:Value) (l r:MT)
def mfind (c:Nat):MT→Nat→Option Value
 | .e,_=>none
 | .n c' v l r,h=>if c=c' then some v else if h % 2=0 then mfind c l (h / 2) else mfind c r (h / 2)
def mins (c:Nat) (v:Value):MT→Nat→MT
 | .e,_=>.n c v .e .e
 | .n c' v' l r,h=>if c=c' then .n c v l r else if h % 2=0 then .n c' v' (mins c v l (h / 2)) r else .n c' v' l (mins c v r (h / 2))
def mix (c:Nat):Nat:=Nat.mod (Nat.mul c 11400714819323198485) 2305843009213693951
theorem mfind_same (c:Nat) (v:Value):∀ (t:MT) (h:Nat),mfind c (mins c v t h) h=some v:=by
 intro t
 induction t with
 | e=>intro h;simp [mins,mfind]
 | n c' v' l r ihl ihr =>
   intro h
   unfold mins
   by_cases hc:c=c'
   ·simp [hc,mfind]
   ·by_cases hh:h % 2=0
    ·simp [hc,hh,mfind,ihl]
    ·simp [hc,hh,mfind,ihr]
theorem qqj {c d:Nat} (hd:d≠c) (v:Value):∀ (t:MT) (h h':Nat),mfind d (mins c v t h) h'=mfind d t h':=by
 intro t
 induction t with
 | e=>intro h h';simp [mins,mfind,hd]
 | n c' v' l r ihl ihr =>
   intro h h'
   unfold mins
   by_cases hc:c=c'
   ·subst hc;simp [mfind,hd]
   ·by_cases hh:h % 2=0
    ·simp [hc,hh,mfind,ihl]
    ·simp [hc,hh,mfind,ihr]
def ikNo:IntKind→Nat
 | .i8=>3 | .i16=>4 | .i32=>5 | .i64=>6 | .u8=>7 | .u16=>8 | .u32=>9 | .u64=>10
def keyTag:Value→Nat
 | .string _=>1
 | .bool _=>2
 | .int k _=>ikNo k
 | _=>0
def kdTag:TypeDesc→Nat
 | .string=>1
 | .bool=>2
 | .int k=>ikNo k
 | _=>0
def codeBs:List UInt8→Nat→Nat
 | [],a=>a
 | b::bs,a=>codeBs bs (a*256+b.toNat)
def codeK':Value→Nat
 | .string s=>codeBs s.data.toList 1
 | .bool b=>if b then 1 else 0
 | .int _ (.ofNat n)=>2*n
 | .int _ (.negSucc n)=>2*n+1
 | _=>0
inductive FB where
 | dead
 | cells (fam:Nat) (own:Bool) (n:Nat) (t:FT)
 | map (kk:Nat) (es:List (Value×Value)) (mt:MT)
 | loop (st:LoopState) (pend:Option Code) (nt:Nat) (T:FT) (params:List Nat) (assign body:Code)
structure Nd where
 x:FB
 mx:Nat
 ms:List Nat
structure FH where
 n:Nat
 t:TR Nd
inductive RC where
 | nx (T:FT) (H:FH)
 | ex (id:Nat) (T:FT) (H:FH)
 | rt (T:FT) (H:FH)
 | val (v:Value) (H:FH)
 | skip
 | no
namespace D8
variable {α γ:Type}
def rep (x:α):D8 α:=⟨x,x,x,x,x,x,x,x⟩
def get (c:D8 α) (i:Nat):α:=match i with | 0=>c.a0 | 1=>c.a1 | 2=>c.a2 | 3=>c.a3 | 4=>c.a4 | 5=>c.a5 | 6=>c.a6 | _=>c.a7
def set (c:D8 α) (i:Nat) (v:α):D8 α:=match i with | 0=>⟨v,c.a1,c.a2,c.a3,c.a4,c.a5,c.a6,c.a7⟩ | 1=>⟨c.a0,v,c.a2,c.a3,c.a4,c.a5,c.a6,c.a7⟩ | 2=>⟨c.a0,c.a1,v,c.a3,c.a4,c.a5,c.a6,c.a7⟩ | 3=>⟨c.a0,c.a1,c.a2,v,c.a4,c.a5,c.a6,c.a7⟩ | 4=>⟨c.a0,c.a1,c.a2,c.a3,v,c.a5,c.a6,c.a7⟩ | 5=>⟨c.a0,c.a1,c.a2,c.a3,c.a4,v,c.a6,c.a7⟩ | 6=>⟨c.a0,c.a1,c.a2,c.a3,c.a4,c.a5,v,c.a7⟩ | _=>⟨c.a0,c.a1,c.a2,c.a3,c.a4,c.a5,c.a6,v⟩
noncomputable def g0 (i:Nat):Box (D8 α→(α→RC)→RC):=match i with | 0=>⟨fun c k=>D8.rec (fun x _ _ _ _ _ _ _=>k x) c⟩ | 1=>⟨fun c k=>D8.rec (fun _ x _ _ _ _ _ _=>k x) c⟩ | 2=>⟨fun c k=>D8.rec (fun _ _ x _ _ _ _ _=>k x) c⟩ | 3=>⟨fun c k=>D8.rec (fun _ _ _ x _ _ _ _=>k x) c⟩ | 4=>⟨fun c k=>D8.rec (fun _ _ _ _ x _ _ _=>k x) c⟩ | 5=>⟨fun c k=>D8.rec (fun _ _ _ _ _ x _ _=>k x) c⟩ | 6=>⟨fun c k=>D8.rec (fun _ _ _ _ _ _ x _=>k x) c⟩ | _=>⟨fun c k=>D8.rec (fun _ _ _ _ _ _ _ x=>k x) c⟩
noncomputable def gC (inner:Box (γ→(α→RC)→RC)) (i:Nat):Box (D8 γ→(α→RC)→RC):=match i with | 0=>⟨fun c k=>D8.rec (fun x _ _ _ _ _ _ _=>inner.run x k) c⟩ | 1=>⟨fun c k=>D8.rec (fun _ x _ _ _ _ _ _=>inner.run x k) c⟩ | 2=>⟨fun c k=>D8.rec (fun _ _ x _ _ _ _ _=>inner.run x k) c⟩ | 3=>⟨fun c k=>D8.rec (fun _ _ _ x _ _ _ _=>inner.run x k) c⟩ | 4=>⟨fun c k=>D8.rec (fun _ _ _ _ x _ _ _=>inner.run x k) c⟩ | 5=>⟨fun c k=>D8.rec (fun _ _ _ _ _ x _ _=>inner.run x k) c⟩ | 6=>⟨fun c k=>D8.rec (fun _ _ _ _ _ _ x _=>inner.run x k) c⟩ | _=>⟨fun c k=>D8.rec (fun _ _ _ _ _ _ _ x=>inner.run x k) c⟩
noncomputable def s0 (i:Nat):Box (D8 α→α→(D8 α→RC)→RC):=match i with | 0=>⟨fun c v k=>D8.rec (fun _ x1 x2 x3 x4 x5 x6 x7=>k ⟨v,x1,x2,x3,x4,x5,x6,x7⟩) c⟩ | 1=>⟨fun c v k=>D8.rec (fun x0 _ x2 x3 x4 x5 x6 x7=>k ⟨x0,v,x2,x3,x4,x5,x6,x7⟩) c⟩ | 2=>⟨fun c v k=>D8.rec (fun x0 x1 _ x3 x4 x5 x6 x7=>k ⟨x0,x1,v,x3,x4,x5,x6,x7⟩) c⟩ | 3=>⟨fun c v k=>D8.rec (fun x0 x1 x2 _ x4 x5 x6 x7=>k ⟨x0,x1,x2,v,x4,x5,x6,x7⟩) c⟩ | 4=>⟨fun c v k=>D8.rec (fun x0 x1 x2 x3 _ x5 x6 x7=>k ⟨x0,x1,x2,x3,v,x5,x6,x7⟩) c⟩ | 5=>⟨fun c v k=>D8.rec (fun x0 x1 x2 x3 x4 _ x6 x7=>k ⟨x0,x1,x2,x3,x4,v,x6,x7⟩) c⟩ | 6=>⟨fun c v k=>D8.rec (fun x0 x1 x2 x3 x4 x5 _ x7=>k ⟨x0,x1,x2,x3,x4,x5,v,x7⟩) c⟩ | _=>⟨fun c v k=>D8.rec (fun x0 x1 x2 x3 x4 x5 x6 _=>k ⟨x0,x1,x2,x3,x4,x5,x6,v⟩) c⟩
noncomputable def sC (inner:Box (γ→α→(γ→RC)→RC)) (i:Nat):Box (D8 γ→α→(D8 γ→RC)→RC):=match i with | 0=>⟨fun c v k=>D8.rec (fun x0 x1 x2 x3 x4 x5 x6 x7=>inner.run x0 v fun y=>k ⟨y,x1,x2,x3,x4,x5,x6,x7⟩) c⟩ | 1=>⟨fun c v k=>D8.rec (fun x0 x1 x2 x3 x4 x5 x6 x7=>inner.run x1 v fun y=>k ⟨x0,y,x2,x3,x4,x5,x6,x7⟩) c⟩ | 2=>⟨fun c v k=>D8.rec (fun x0 x1 x2 x3 x4 x5 x6 x7=>inner.run x2 v fun y=>k ⟨x0,x1,y,x3,x4,x5,x6,x7⟩) c⟩ | 3=>⟨fun c v k=>D8.rec (fun x0 x1 x2 x3 x4 x5 x6 x7=>inner.run x3 v fun y=>k ⟨x0,x1,x2,y,x4,x5,x6,x7⟩) c⟩ | 4=>⟨fun c v k=>D8.rec (fun x0 x1 x2 x3 x4 x5 x6 x7=>inner.run x4 v fun y=>k ⟨x0,x1,x2,x3,y,x5,x6,x7⟩) c⟩ | 5=>⟨fun c v k=>D8.rec (fun x0 x1 x2 x3 x4 x5 x6 x7=>inner.run x5 v fun y=>k ⟨x0,x1,x2,x3,x4,y,x6,x7⟩) c⟩ | 6=>⟨fun c v k=>D8.rec (fun x0 x1 x2 x3 x4 x5 x6 x7=>inner.run x6 v fun y=>k ⟨x0,x1,x2,x3,x4,x5,y,x7⟩) c⟩ | _=>⟨fun c v k=>D8.rec (fun x0 x1 x2 x3 x4 x5 x6 x7=>inner.run x7 v fun y=>k ⟨x0,x1,x2,x3,x4,x5,x6,y⟩) c⟩
theorem g0_eq (i:Nat) (c:D8 α) (k:α→RC):(g0 i).run c k=k (c.get i):=by unfold g0 get;split<;>rfl
theorem s0_eq (i:Nat) (c:D8 α) (v:α) (k:D8 α→RC):(s0 i).run c v k=k (c.set i v):=by unfold s0 set;split<;>rfl
theorem gC_eq (inner:Box (γ→(α→RC)→RC)) (i:Nat) (c:D8 γ) (k:α→RC):(gC inner i).run c k=inner.run (c.get i) k:=by unfold gC get;split<;>rfl
theorem sC_eq (inner:Box (γ→α→(γ→RC)→RC)) (i:Nat) (c:D8 γ) (v:α) (k:D8 γ→RC):(sC inner i).run c v k=inner.run (c.get i) v fun y=>k (c.set i y):=by unfold sC get set;split<;>rfl
theorem gs0 (c:D8 α) (v:α):∀ j,j < 8→(c.set 0 v).get j=if j=0 then v else c.get j | 0,_=>rfl | 1,_=>rfl | 2,_=>rfl | 3,_=>rfl | 4,_=>rfl | 5,_=>rfl | 6,_=>rfl | 7,_=>rfl | n+8,h=>absurd h (by omega)
theorem gs1 (c:D8 α) (v:α):∀ j,j < 8→(c.set 1 v).get j=if j=1 then v else c.get j | 0,_=>rfl | 1,_=>rfl | 2,_=>rfl | 3,_=>rfl | 4,_=>rfl | 5,_=>rfl | 6,_=>rfl | 7,_=>rfl | n+8,h=>absurd h (by omega)
theorem gs2 (c:D8 α) (v:α):∀ j,j < 8→(c.set 2 v).get j=if j=2 then v else c.get j | 0,_=>rfl | 1,_=>rfl | 2,_=>rfl | 3,_=>rfl | 4,_=>rfl | 5,_=>rfl | 6,_=>rfl | 7,_=>rfl | n+8,h=>absurd h (by omega)
theorem gs3 (c:D8 α) (v:α):∀ j,j < 8→(c.set 3 v).get j=if j=3 then v else c.get j | 0,_=>rfl | 1,_=>rfl | 2,_=>rfl | 3,_=>rfl | 4,_=>rfl | 5,_=>rfl | 6,_=>rfl | 7,_=>rfl | n+8,h=>absurd h (by omega)
theorem gs4 (c:D8 α) (v:α):∀ j,j < 8→(c.set 4 v).get j=if j=4 then v else c.get j | 0,_=>rfl | 1,_=>rfl | 2,_=>rfl | 3,_=>rfl | 4,_=>rfl | 5,_=>rfl | 6,_=>rfl | 7,_=>rfl | n+8,h=>absurd h (by omega)
theorem gs5 (c:D8 α) (v:α):∀ j,j < 8→(c.set 5 v).get j=if j=5 then v else c.get j | 0,_=>rfl | 1,_=>rfl | 2,_=>rfl | 3,_=>rfl | 4,_=>rfl | 5,_=>rfl | 6,_=>rfl | 7,_=>rfl | n+8,h=>absurd h (by omega)
theorem gs6 (c:D8 α) (v:α):∀ j,j < 8→(c.set 6 v).get j=if j=6 then v else c.get j | 0,_=>rfl | 1,_=>rfl | 2,_=>rfl | 3,_=>rfl | 4,_=>rfl | 5,_=>rfl | 6,_=>rfl | 7,_=>rfl | n+8,h=>absurd h (by omega)
theorem gs7 (c:D8 α) (v:α):∀ j,j < 8→(c.set 7 v).get j=if j=7 then v else c.get j | 0,_=>rfl | 1,_=>rfl | 2,_=>rfl | 3,_=>rfl | 4,_=>rfl | 5,_=>rfl | 6,_=>rfl | 7,_=>rfl | n+8,h=>absurd h (by omega)
theorem get_set (c:D8 α) (v:α):∀ i,i < 8→∀ j,j < 8→(c.set i v).get j=if j=i then v else c.get j | 0,_=>gs0 c v | 1,_=>gs1 c v | 2,_=>gs2 c v | 3,_=>gs3 c v | 4,_=>gs4 c v | 5,_=>gs5 c v | 6,_=>gs6 c v | 7,_=>gs7 c v | n+8,h=>absurd h (by omega)
theorem get_rep (x:α) (i:Nat):(rep x).get i=x:=by unfold get rep;split<;>rfl
end D8
section
variable {α:Type}
def Dn.rep (x:α):(d:Nat)→Dn α d
 | 0=>x
 | d+1=>D8.rep (Dn.rep x d)
def Dn.get:(d:Nat)→Dn α d→Nat→α
 | 0,x,_=>x
 | d+1,t,i=>Dn.get d (D8.get t (i / 8 ^ d % 8)) i
def Dn.set:(d:Nat)→Dn α d→Nat→α→Dn α d
 | 0,_,_,v=>v
 | d+1,t,i,v=>D8.set t (i / 8 ^ d % 8) (Dn.set d (D8.get t (i / 8 ^ d % 8)) i v)
theorem Dn.get_rep (x:α) (i:Nat):∀ d,Dn.get d (Dn.rep x d) i=x:=by
 intro d
 induction d with
 | zero=>rfl
 | succ d ih=>unfold Dn.get Dn.rep;rw [D8.get_rep];exact ih
theorem Dn.get_set (v:α) (i j:Nat):∀ d (t:Dn α d),Dn.get d (Dn.set d t i v) j=if j % 8 ^ d=i % 8 ^ d then v else Dn.get d t j:=by
 intro d
 induction d with
 | zero=>intro t;simp [Dn.get,Dn.set,Nat.mod_one]
 | succ d ih =>
   intro (t:D8 (Dn α d))
   show Dn.get d (D8.get (D8.set t (i / 8 ^ d % 8) (Dn.set d (D8.get t (i / 8 ^ d % 8)) i v)) (j / 8 ^ d % 8)) j=if j % 8 ^ (d+1)=i % 8 ^ (d+1) then v else Dn.get d (D8.get t (j / 8 ^ d % 8)) j
   rw [D8.get_set _ _ _ (Nat.mod_lt _ (by omega)) _ (Nat.mod_lt _ (by omega))]
   rw [Nat.mod_pow_succ,Nat.mod_pow_succ]
   have hp:0 < 8 ^ d:=Nat.pow_pos (by omega)
   have hi:=Nat.mod_lt i hp
   have hj:=Nat.mod_lt j hp
   by_cases h:j / 8 ^ d % 8=i / 8 ^ d % 8
   ·rw [if_pos h,ih,h]
    by_cases h2:j % 8 ^ d=i % 8 ^ d
    ·rw [if_pos h2,if_pos (by rw [h2])]
    ·rw [if_neg h2,if_neg (by omega)]
   ·rw [if_neg h,if_neg]
    intro e
    apply h
    have h1:j % 8 ^ d+8 ^ d*(j / 8 ^ d % 8)=i % 8 ^ d+8 ^ d*(i / 8 ^ d % 8):=e
    have h3:=congrArg (· / 8 ^ d) h1
    simp only [Nat.add_mul_div_left _ _ hp,Nat.div_eq_of_lt hi,Nat.div_eq_of_lt hj,Nat.zero_add] at h3
    exact h3
noncomputable def g2 (i:Nat):Box (Dn α 2→(α→RC)→RC):=D8.gC (α:=α) (γ:=D8 α) (D8.g0 (i % 8)) (i / 8 % 8)
noncomputable def s2 (i:Nat):Box (Dn α 2→α→(Dn α 2→RC)→RC):=D8.sC (α:=α) (γ:=D8 α) (D8.s0 (i % 8)) (i / 8 % 8)
theorem g2_eq (i:Nat) (t:Dn α 2) (k:α→RC):(g2 i).run t k=k (Dn.get 2 t i):=by
 unfold g2;rw [D8.gC_eq,D8.g0_eq]
 simp only [Dn.get,Nat.pow_one,Nat.pow_zero,Nat.div_one]
theorem s2_eq (i:Nat) (t:Dn α 2) (v:α) (k:Dn α 2→RC):(s2 i).run t v k=k (Dn.set 2 t i v):=by
 unfold s2;rw [D8.sC_eq,D8.s0_eq]
 simp only [Dn.set,Nat.pow_one,Nat.pow_zero,Nat.div_one]
noncomputable def g3 (i:Nat):Box (Dn α 3→(α→RC)→RC):=D8.gC (α:=α) (γ:=Dn α 2) (g2 i) (i / 64 % 8)
noncomputable def s3 (i:Nat):Box (Dn α 3→α→(Dn α 3→RC)→RC):=D8.sC (α:=α) (γ:=Dn α 2) (s2 i) (i / 64 % 8)
theorem g3_eq (i:Nat) (t:Dn α 3) (k:α→RC):(g3 i).run t k=k (Dn.get 3 t i):=by
 unfold g3;rw [D8.gC_eq];exact g2_eq _ _ _
theorem s3_eq (i:Nat) (t:Dn α 3) (v:α) (k:Dn α 3→RC):(s3 i).run t v k=k (Dn.set 3 t i v):=by
 unfold s3;rw [D8.sC_eq];exact s2_eq _ _ _ _
noncomputable def g4 (i:Nat):Box (Dn α 4→(α→RC)→RC):=D8.gC (α:=α) (γ:=Dn α 3) (g3 i) (i / 512 % 8)
noncomputable def s4 (i:Nat):Box (Dn α 4→α→(Dn α 4→RC)→RC):=D8.sC (α:=α) (γ:=Dn α 3) (s3 i) (i / 512 % 8)
theorem g4_eq (i:Nat) (t:Dn α 4) (k:α→RC):(g4 i).run t k=k (Dn.get 4 t i):=by
 unfold g4;rw [D8.gC_eq];exact g3_eq _ _ _
theorem s4_eq (i:Nat) (t:Dn α 4) (v:α) (k:Dn α 4→RC):(s4 i).run t v k=k (Dn.set 4 t i v):=by
 unfold s4;rw [D8.sC_eq];exact s3_eq _ _ _ _
noncomputable def g5 (i:Nat):Box (Dn α 5→(α→RC)→RC):=D8.gC (α:=α) (γ:=Dn α 4) (g4 i) (i / 4096 % 8)
noncomputable def s5 (i:Nat):Box (Dn α 5→α→(Dn α 5→RC)→RC):=D8.sC (α:=α) (γ:=Dn α 4) (s4 i) (i / 4096 % 8)
theorem g5_eq (i:Nat) (t:Dn α 5) (k:α→RC):(g5 i).run t k=k (Dn.get 5 t i):=by
 unfold g5;rw [D8.gC_eq];exact g4_eq _ _ _
theorem s5_eq (i:Nat) (t:Dn α 5) (v:α) (k:Dn α 5→RC):(s5 i).run t v k=k (Dn.set 5 t i v):=by
 unfold s5;rw [D8.sC_eq];exact s4_eq _ _ _ _
noncomputable def g6 (i:Nat):Box (Dn α 6→(α→RC)→RC):=D8.gC (α:=α) (γ:=Dn α 5) (g5 i) (i / 32768 % 8)
noncomputable def s6 (i:Nat):Box (Dn α 6→α→(Dn α 6→RC)→RC):=D8.sC (α:=α) (γ:=Dn α 5) (s5 i) (i / 32768 % 8)
theorem g6_eq (i:Nat) (t:Dn α 6) (k:α→RC):(g6 i).run t k=k (Dn.get 6 t i):=by
 unfold g6;rw [D8.gC_eq];exact g5_eq _ _ _
theorem s6_eq (i:Nat) (t:Dn α 6) (v:α) (k:Dn α 6→RC):(s6 i).run t v k=k (Dn.set 6 t i v):=by
 unfold s6;rw [D8.sC_eq];exact s5_eq _ _ _ _
def up (dv:α) {d:Nat} (t:Dn α d):Dn α (d+1):=let e:=Dn.rep dv d;(⟨t,e,e,e,e,e,e,e⟩:D8 (Dn α d))
theorem qoy (dv:α) {d:Nat} (t:Dn α d) (i:Nat) (hi:i < 8 ^ (d+1)):Dn.get (d+1) (up dv t) i=if i < 8 ^ d then Dn.get d t i else dv:=by
 show Dn.get d (D8.get (⟨t,Dn.rep dv d,Dn.rep dv d,Dn.rep dv d,Dn.rep dv d,Dn.rep dv d,Dn.rep dv d,Dn.rep dv d⟩:D8 (Dn α d)) (i / 8 ^ d % 8)) i=_
 have hp:0 < 8 ^ d:=Nat.pow_pos (by omega)
 by_cases h:i < 8 ^ d
 ·rw [if_pos h,Nat.div_eq_of_lt h];rfl
 ·rw [if_neg h]
  have h2:i / 8 ^ d < 8:=by
   rw [Nat.div_lt_iff_lt_mul hp,Nat.mul_comm,← Nat.pow_succ];exact hi
  have h1:1≤i / 8 ^ d:=by
   rw [Nat.le_div_iff_mul_le hp];omega
  rw [Nat.mod_eq_of_lt h2]
  have:∀ n,1≤n→n < 8→Dn.get d (D8.get (⟨t,Dn.rep dv d,Dn.rep dv d,Dn.rep dv d,Dn.rep dv d,Dn.rep dv d,Dn.rep dv d,Dn.rep dv d⟩:D8 (Dn α d)) n) i=dv
   | 1,_,_=>Dn.get_rep _ _ _ | 2,_,_=>Dn.get_rep _ _ _ | 3,_,_=>Dn.get_rep _ _ _ | 4,_,_=>Dn.get_rep _ _ _ | 5,_,_=>Dn.get_rep _ _ _ | 6,_,_=>Dn.get_rep _ _ _ | 7,_,_=>Dn.get_rep _ _ _
   | 0,h,_=>absurd h (by omega)
   | n+8,_,h=>absurd h (by omega)
  exact this _ h1 h2
def TR.get (dv:α) (t:TR α) (i:Nat):α:=match t with
 | .s t=>if i < 64 then Dn.get 2 t i else dv
 | .m t=>if i < 512 then Dn.get 3 t i else dv
 | .l t=>if i < 262144 then Dn.get 6 t i else dv
def TR.set (dv:α) (t:TR α) (i:Nat) (v:α):TR α:=match t with
 | .s t=>if i < 64 then .s (Dn.set 2 t i v) else if i < 512 then .m (Dn.set 3 (up dv t) i v) else .l (Dn.set 6 (up dv (up dv (up dv (up dv t)))) i v)
 | .m t=>if i < 512 then .m (Dn.set 3 t i v) else .l (Dn.set 6 (up dv (up dv (up dv t))) i v)
 | .l t=>.l (Dn.set 6 t i v)
theorem up3_get (dv:α) (t:Dn α 3) (i:Nat) (hi:i < 262144):Dn.get 6 (up dv (up dv (up dv t))) i=if i < 512 then Dn.get 3 t i else dv:=by
 have e3:(8:Nat) ^ 3=512:=rfl
 have e4:(8:Nat) ^ 4=4096:=rfl
 have e5:(8:Nat) ^ 5=32768:=rfl
 rw [qoy _ _ _ hi,e5]
 by_cases h5:i < 32768
 ·rw [if_pos h5,qoy _ _ _ h5,e4]
  by_cases h4:i < 4096
  ·rw [if_pos h4,qoy _ _ _ h4,e3]
  ·rw [if_neg h4,if_neg (by omega)]
 ·rw [if_neg h5,if_neg (by omega)]
theorem TR.get_set (dv:α) (t:TR α) (v:α) {i j:Nat} (hi:i < 262144) (hj:j < 262144):TR.get dv (TR.set dv t i v) j=if j=i then v else TR.get dv t j:=by
 have e2:(8:Nat) ^ 2=64:=rfl
 have e3:(8:Nat) ^ 3=512:=rfl
 have e4:(8:Nat) ^ 6=262144:=rfl
 cases t with
 | s t =>
   simp only [TR.set]
   by_cases h1:i < 64
   ·rw [if_pos h1]
    simp only [TR.get]
    by_cases h2:j < 64
    ·simp only [h2,if_true];rw [Dn.get_set,e2,Nat.mod_eq_of_lt h1,Nat.mod_eq_of_lt h2]
    ·simp only [h2,if_false];rw [if_neg (by omega)]
   ·rw [if_neg h1]
    by_cases h3:i < 512
    ·rw [if_pos h3]
     simp only [TR.get]
     by_cases h2:j < 512
     ·simp only [h2,if_true]
      rw [Dn.get_set,e3,Nat.mod_eq_of_lt h3,Nat.mod_eq_of_lt h2,qoy _ _ _ (by omega),e2]
     ·simp only [h2,if_false];rw [if_neg (by omega),if_neg (by omega)]
    ·rw [if_neg h3]
     simp only [TR.get]
     simp only [hj,if_true]
     rw [Dn.get_set,e4,Nat.mod_eq_of_lt hi,Nat.mod_eq_of_lt hj,up3_get _ _ _ hj]
     by_cases h4:j < 512
     ·rw [if_pos h4,qoy _ _ _ (by omega),e2]
     ·rw [if_neg h4,if_neg (show ¬ j < 64 by omega)]
 | m t =>
   simp only [TR.set]
   by_cases h3:i < 512
   ·rw [if_pos h3]
    simp only [TR.get]
    by_cases h2:j < 512
    ·simp only [h2,if_true];rw [Dn.get_set,e3,Nat.mod_eq_of_lt h3,Nat.mod_eq_of_lt h2]
    ·simp only [h2,if_false];rw [if_neg (by omega)]
   ·rw [if_neg h3]
    simp only [TR.get]
    simp only [hj,if_true]
    rw [Dn.get_set,e4,Nat.mod_eq_of_lt hi,Nat.mod_eq_of_lt hj,up3_get _ _ _ hj]
 | l t =>
   simp only [TR.set,TR.get,hj,if_true]
   rw [Dn.get_set,e4,Nat.mod_eq_of_lt hi,Nat.mod_eq_of_lt hj]
noncomputable def tG2 (i:Nat) (fm:Dn α 3→(α→RC)→RC) (fl:Dn α 6→(α→RC)→RC):Box (TR α→(α→RC)→RC):=match i / 8 % 8 with | 0=>⟨TR.rec (motive:=fun _=>(α→RC)→RC) (fun t k=>D8.rec (fun x _ _ _ _ _ _ _=>(D8.g0 (i % 8)).run x k) t) fm fl⟩ | 1=>⟨TR.rec (motive:=fun _=>(α→RC)→RC) (fun t k=>D8.rec (fun _ x _ _ _ _ _ _=>(D8.g0 (i % 8)).run x k) t) fm fl⟩ | 2=>⟨TR.rec (motive:=fun _=>(α→RC)→RC) (fun t k=>D8.rec (fun _ _ x _ _ _ _ _=>(D8.g0 (i % 8)).run x k) t) fm fl⟩ | 3=>⟨TR.rec (motive:=fun _=>(α→RC)→RC) (fun t k=>D8.rec (fun _ _ _ x _ _ _ _=>(D8.g0 (i % 8)).run x k) t) fm fl⟩ | 4=>⟨TR.rec (motive:=fun _=>(α→RC)→RC) (fun t k=>D8.rec (fun _ _ _ _ x _ _ _=>(D8.g0 (i % 8)).run x k) t) fm fl⟩ | 5=>⟨TR.rec (motive:=fun _=>(α→RC)→RC) (fun t k=>D8.rec (fun _ _ _ _ _ x _ _=>(D8.g0 (i % 8)).run x k) t) fm fl⟩ | 6=>⟨TR.rec (motive:=fun _=>(α→RC)→RC) (fun t k=>D8.rec (fun _ _ _ _ _ _ x _=>(D8.g0 (i % 8)).run x k) t) fm fl⟩ | _=>⟨TR.rec (motive:=fun _=>(α→RC)→RC) (fun t k=>D8.rec (fun _ _ _ _ _ _ _ x=>(D8.g0 (i % 8)).run x k) t) fm fl⟩
noncomputable def tS2 (i:Nat) (fm:Dn α 3→α→(TR α→RC)→RC) (fl:Dn α 6→α→(TR α→RC)→RC):Box (TR α→α→(TR α→RC)→RC):=match i / 8 % 8 with | 0=>⟨TR.rec (motive:=fun _=>α→(TR α→RC)→RC) (fun t v k=>D8.rec (fun x0 x1 x2 x3 x4 x5 x6 x7=>(D8.s0 (i % 8)).run x0 v fun y=>k (.s (⟨y,x1,x2,x3,x4,x5,x6,x7⟩:D8 (D8 α)))) t) fm fl⟩ | 1=>⟨TR.rec (motive:=fun _=>α→(TR α→RC)→RC) (fun t v k=>D8.rec (fun x0 x1 x2 x3 x4 x5 x6 x7=>(D8.s0 (i % 8)).run x1 v fun y=>k (.s (⟨x0,y,x2,x3,x4,x5,x6,x7⟩:D8 (D8 α)))) t) fm fl⟩ | 2=>⟨TR.rec (motive:=fun _=>α→(TR α→RC)→RC) (fun t v k=>D8.rec (fun x0 x1 x2 x3 x4 x5 x6 x7=>(D8.s0 (i % 8)).run x2 v fun y=>k (.s (⟨x0,x1,y,x3,x4,x5,x6,x7⟩:D8 (D8 α)))) t) fm fl⟩ | 3=>⟨TR.rec (motive:=fun _=>α→(TR α→RC)→RC) (fun t v k=>D8.rec (fun x0 x1 x2 x3 x4 x5 x6 x7=>(D8.s0 (i % 8)).run x3 v fun y=>k (.s (⟨x0,x1,x2,y,x4,x5,x6,x7⟩:D8 (D8 α)))) t) fm fl⟩ | 4=>⟨TR.rec (motive:=fun _=>α→(TR α→RC)→RC) (fun t v k=>D8.rec (fun x0 x1 x2 x3 x4 x5 x6 x7=>(D8.s0 (i % 8)).run x4 v fun y=>k (.s (⟨x0,x1,x2,x3,y,x5,x6,x7⟩:D8 (D8 α)))) t) fm fl⟩ | 5=>⟨TR.rec (motive:=fun _=>α→(TR α→RC)→RC) (fun t v k=>D8.rec (fun x0 x1 x2 x3 x4 x5 x6 x7=>(D8.s0 (i % 8)).run x5 v fun y=>k (.s (⟨x0,x1,x2,x3,x4,y,x6,x7⟩:D8 (D8 α)))) t) fm fl⟩ | 6=>⟨TR.rec (motive:=fun _=>α→(TR α→RC)→RC) (fun t v k=>D8.rec (fun x0 x1 x2 x3 x4 x5 x6 x7=>(D8.s0 (i % 8)).run x6 v fun y=>k (.s (⟨x0,x1,x2,x3,x4,x5,y,x7⟩:D8 (D8 α)))) t) fm fl⟩ | _=>⟨TR.rec (motive:=fun _=>α→(TR α→RC)→RC) (fun t v k=>D8.rec (fun x0 x1 x2 x3 x4 x5 x6 x7=>(D8.s0 (i % 8)).run x7 v fun y=>k (.s (⟨x0,x1,x2,x3,x4,x5,x6,y⟩:D8 (D8 α)))) t) fm fl⟩
noncomputable def tvG (dv:α) (i:Nat):Box (TR α→(α→RC)→RC) :=
 bif Nat.ble (i+1) 64 then tG2 i (fun t k=>(g3 i).run t k) (fun t k=>(g6 i).run t k) else bif Nat.ble (i+1) 512 then ⟨TR.rec (motive:=fun _=>(α→RC)→RC) (fun _ k=>k dv) (fun t k=>(g3 i).run t k) (fun t k=>(g6 i).run t k)⟩
 else bif Nat.ble (i+1) 262144 then ⟨TR.rec (motive:=fun _=>(α→RC)→RC) (fun _ k=>k dv) (fun _ k=>k dv) (fun t k=>(g6 i).run t k)⟩ else ⟨fun _ k=>k dv⟩
noncomputable def tvS (dv:α) (i:Nat):Box (TR α→α→(TR α→RC)→RC) :=
 bif Nat.ble (i+1) 64 then tS2 i (fun t v k=>(s3 i).run t v fun t=>k (.m t)) (fun t v k=>(s6 i).run t v fun t=>k (.l t))
 else bif Nat.ble (i+1) 512 then ⟨TR.rec (motive:=fun _=>α→(TR α→RC)→RC) (fun t v k=>(s3 i).run (up dv t) v fun t=>k (.m t)) (fun t v k=>(s3 i).run t v fun t=>k (.m t)) (fun t v k=>(s6 i).run t v fun t=>k (.l t))⟩
 else ⟨TR.rec (motive:=fun _=>α→(TR α→RC)→RC) (fun t v k=>(s6 i).run (up dv (up dv (up dv (up dv t)))) v fun t=>k (.l t)) (fun t v k=>(s6 i).run (up dv (up dv (up dv t))) v fun t=>k (.l t)) (fun t v k=>(s6 i).run t v fun t=>k (.l t))⟩
theorem tG2_eq (i:Nat) (fm:Dn α 3→(α→RC)→RC) (fl:Dn α 6→(α→RC)→RC) (t:TR α) (k:α→RC):(tG2 i fm fl).run t k=match t with
  | .s t=>k (Dn.get 2 t i)
  | .m t=>fm t k
  | .l t=>fl t k:=by
 cases t with
 | s t =>
   show _=k (Dn.get 2 t i)
   rw [← g2_eq i t k]
   unfold tG2 g2 D8.gC
   split<;>rfl
 | m t=>unfold tG2;split<;>rfl
 | l t=>unfold tG2;split<;>rfl
theorem tS2_eq (i:Nat) (fm:Dn α 3→α→(TR α→RC)→RC) (fl:Dn α 6→α→(TR α→RC)→RC) (t:TR α) (v:α) (k:TR α→RC):(tS2 i fm fl).run t v k=match t with
  | .s t=>k (.s (Dn.set 2 t i v))
  | .m t=>fm t v k
  | .l t=>fl t v k:=by
 cases t with
 | s t =>
   show _=k (.s (Dn.set 2 t i v))
   rw [← s2_eq i t v (fun y=>k (.s y))]
   unfold tS2 s2 D8.sC
   split<;>rfl
 | m t=>unfold tS2;split<;>rfl
 | l t=>unfold tS2;split<;>rfl
theorem qr9 {i n:Nat}:Nat.ble (i+1) n=decide (i < n):=by
 rw [Bool.eq_iff_iff,decide_eq_true_iff];exact ⟨fun h=>Nat.le_of_ble_eq_true h,fun h=>Nat.ble_eq_true_of_le h⟩
theorem qsa (dv:α) (i:Nat) (t:TR α) (k:α→RC):(tvG dv i).run t k=k (TR.get dv t i):=by
 unfold tvG TR.get
 simp only [qr9]
 by_cases h:i < 64
 ·simp only [h,decide_true,cond_true,tG2_eq]
  cases t with
  | s t=>simp
  | m t=>simp only [g3_eq];rw [if_pos (by omega)]
  | l t=>simp only [g6_eq];rw [if_pos (by omega)]
 ·by_cases h2:i < 512
  ·cases t<;>simp [h,h2,g3_eq,g6_eq,show i < 262144 by omega]
  ·by_cases h3:i < 262144<;>cases t<;>simp [h,h2,h3,g6_eq]
theorem qsb (dv:α) (i:Nat) (t:TR α) (v:α) (k:TR α→RC):(tvS dv i).run t v k=k (TR.set dv t i v):=by
 unfold tvS TR.set
 simp only [qr9]
 by_cases h:i < 64
 ·simp only [h,decide_true,cond_true,tS2_eq]
  cases t with
  | s t=>simp
  | m t=>simp only [s3_eq];rw [if_pos (by omega)]
  | l t=>simp only [s6_eq]
 ·by_cases h2:i < 512<;>cases t<;>simp [h,h2,s3_eq,s6_eq]
end
def T2.get (t:FT) (i:Nat):Value:=TR.get undef t i
def T2.set (t:FT) (i:Nat) (v:Value):FT:=TR.set undef t i v
theorem T2.get_set (t:FT) (v:Value) {i j:Nat} (hi:i < 262144) (hj:j < 262144):T2.get (T2.set t i v) j=if j=i then v else T2.get t j:=TR.get_set undef t v hi hj
noncomputable def g2B (i:Nat):Box (FT→(Value→RC)→RC):=tvG undef i
noncomputable def s2B (i:Nat):Box (FT→Value→(FT→RC)→RC):=tvS undef i
theorem qsc (i:Nat) (t:FT) (k:Value→RC):(g2B i).run t k=k (T2.get t i):=qsa _ _ _ _
theorem s2B_eq (i:Nat) (t:FT) (v:Value) (k:FT→RC):(s2B i).run t v k=k (T2.set t i v):=qsb _ _ _ _ _
def deadNd:Nd:=⟨.dead,0,[]⟩
def T3.get (t:TR Nd) (i:Nat):Nd:=TR.get deadNd t i
def T3.set (t:TR Nd) (i:Nat) (v:Nd):TR Nd:=TR.set deadNd t i v
theorem T3.get_set (t:TR Nd) (v:Nd) {i j:Nat} (hi:i < 262144) (hj:j < 262144):T3.get (T3.set t i v) j=if j=i then v else T3.get t j:=TR.get_set deadNd t v hi hj
noncomputable def g3B (i:Nat):Box (TR Nd→(Nd→RC)→RC):=tvG deadNd i
noncomputable def s3B (i:Nat):Box (TR Nd→Nd→(TR Nd→RC)→RC):=tvS deadNd i
theorem g3B_eq (i:Nat) (t:TR Nd) (k:Nd→RC):(g3B i).run t k=k (T3.get t i):=qsa _ _ _ _
theorem s3B_eq (i:Nat) (t:TR Nd) (v:Nd) (k:TR Nd→RC):(s3B i).run t v k=k (T3.set t i v):=qsb _ _ _ _ _
def blank:FT:=.s (Dn.rep undef 2)
def deadT:TR Nd:=.s (Dn.rep deadNd 2)
def toL (n:Nat) (t:FT):List Value:=(List.range n).map (T2.get t)
def den (T:FT):Fr:=fun i=>if i < 262144 then T2.get T i else undef
def absB:FB→Blk
 | .dead=>.dead
 | .cells fam own n t=>.cells fam own (toL n t)
 | .map _ es _=>.map es
 | .loop st pend nt T params assign body=>.loop st pend nt (den T) params assign body
def FH.nd (H:FH) (i:Nat):Nd:=T3.get H.t i
def absH (H:FH):Heap:=(List.range H.n).map fun i=>absB (H.nd i).x
def BOK (H:FH) (i:Nat):FB→Prop
 | .cells fam _ n _=>n≤262144∧fam < H.n∧(0 < n→i∈(H.nd fam).ms)∧n≤(H.nd fam).mx
 | .map kk es mt=>kk≠0∧(∀ e∈es,keyTag e.1=kk)∧∀ k,keyTag k=kk→mfind (codeK' k) mt (mix (codeK' k))=findA k es
 | _=>True
structure FH.OK (H:FH):Prop where
 le:H.n≤262144
 ok:∀ i,i < H.n→BOK H i (H.nd i).x
theorem qc7 (n:Nat) (t:FT):(toL n t).length=n:=by simp [toL]
theorem qgt {n:Nat} {t:FT} {i:Nat}:(toL n t)[i]?=if i < n then some (T2.get t i) else none:=by
 unfold toL
 rw [List.getElem?_map]
 split
 ·rename_i h;rw [List.getElem?_range h];rfl
 ·rename_i h;rw [List.getElem?_eq_none (by simp;omega)];rfl
theorem qsd {n k:Nat} {t:FT} (h:k≤n):(toL n t).take k=toL k t:=by
 apply List.ext_getElem?
 intro i
 rw [List.getElem?_take,qgt,qgt]
 split
 ·rw [if_pos (by omega)]
 ·rfl
theorem qcj (H:FH):(absH H).length=H.n:=by simp [absH]
theorem qd5 {H:FH} {i:Nat}:(absH H)[i]?=if i < H.n then some (absB (H.nd i).x) else none:=by
 unfold absH
 rw [List.getElem?_map]
 split
 ·rename_i h;rw [List.getElem?_range h];rfl
 ·rename_i h;rw [List.getElem?_eq_none (by simp;omega)];rfl
theorem qi9 {H:FH} {G:Heap} (hl:G.length=H.n) (h:∀ i,i < H.n→G[i]?=some (absB (H.nd i).x)):absH H=G:=by
 apply List.ext_getElem?
 intro i
 rw [qd5]
 split
 ·rename_i hi;rw [h i hi]
 ·rename_i hi;rw [List.getElem?_eq_none (by omega)]
end Go.Abs
namespace Go.Abs
section
variable {α:Type}
noncomputable def fN (n:Nat) (f:Nat→α):α:=Nat.rec (motive:=fun _=>α) (f 0) (fun k _=>f k) (Nat.add n 1)
noncomputable def fI (z:Int) (f:Int→α):α:=Int.rec (motive:=fun _=>α) (fun n=>fN n fun k=>f (.ofNat k)) (fun n=>fN n fun k=>f (.negSucc k)) z
noncomputable def fB (b:Bool) (f:Bool→α):α:=Bool.rec (motive:=fun _=>α) (f false) (f true) b
noncomputable def fP (a:Option Addr) (f:Option Addr→α):α:=match a with
 | none=>f none
 | some ⟨b,o,none⟩=>fN b fun b=>fN o fun o=>f (some ⟨b,o,none⟩)
 | some ⟨b,o,some p⟩=>fN b fun b=>fN o fun o=>fN p fun p=>f (some ⟨b,o,some p⟩)
noncomputable def fU (u:UInt8) (f:UInt8→α):α:=fN u.toNat fun n=>f (UInt8.ofNat n)
noncomputable def fUs (l:List UInt8):(List UInt8→α)→α:=List.rec (motive:=fun _=>(List UInt8→α)→α) (fun f=>f []) (fun x _ ih f=>fU x fun x=>ih fun xs=>f (x::xs)) l
noncomputable def fS (v:Value) (f:Value→α):α:=match v with
 | .int k z=>fI z fun z=>f (.int k z)
 | .bool b=>fB b fun b=>f (.bool b)
 | .slice a n c=>fP a fun a=>fN n fun n=>fN c fun c=>f (.slice a n c)
 | .pointer a=>fP a fun a=>f (.pointer a)
 | .map (some b)=>fN b fun b=>f (.map (some b))
 | .string s=>fUs s.data.toList fun l=>f (.string ⟨⟨l⟩⟩)
 | v=>f v
noncomputable def fSs (l:List Value):(List Value→α)→α:=List.rec (motive:=fun _=>(List Value→α)→α) (fun f=>f []) (fun x _ ih f=>fS x fun x=>ih fun xs=>f (x::xs)) l
noncomputable def fA (v:Value) (f:Value→α):α:=match v with
 | .agg cs=>fSs cs.toList fun l=>f (.agg ⟨l⟩)
 | .func fn a cap=>fSs cap.toList fun l=>f (.func fn a ⟨l⟩)
 | v=>fS v f
noncomputable def fAs (l:List Value):(List Value→α)→α:=List.rec (motive:=fun _=>(List Value→α)→α) (fun f=>f []) (fun x _ ih f=>fA x fun x=>ih fun xs=>f (x::xs)) l
noncomputable def fV (v:Value) (f:Value→α):α:=match v with
 | .tuple cs=>fAs cs.toList fun l=>f (.tuple ⟨l⟩)
 | v=>fA v f
end
section
variable {α β:Type}
end
def eqZ:Int→Int→Bool
 | .ofNat m,.ofNat n=>Nat.beq m n
 | .negSucc m,.negSucc n=>Nat.beq m n
 | _,_=>false
def ltZ:Int→Int→Bool
 | .ofNat m,.ofNat n=>Nat.ble (m+1) n
 | .negSucc _,.ofNat _=>true
 | .ofNat _,.negSucc _=>false
 | .negSucc m,.negSucc n=>Nat.ble (n+1) m
section
variable {α:Type}
theorem fN_eq (n:Nat) (f:Nat→α):fN n f=f n:=rfl
theorem fI_eq (z:Int) (f:Int→α):fI z f=f z:=by cases z<;>rfl
theorem fB_eq (b:Bool) (f:Bool→α):fB b f=f b:=by cases b<;>rfl
theorem fP_eq (a:Option Addr) (f:Option Addr→α):fP a f=f a:=by
 cases a with
 | none=>rfl
 | some a=>obtain ⟨b,o,s⟩:=a;cases s<;>rfl
theorem fU_eq (u:UInt8) (f:UInt8→α):fU u f=f u:=by simp [fU,fN_eq]
theorem fUs_eq (l:List UInt8) (f:List UInt8→α):fUs l f=f l:=by
 unfold fUs
 induction l generalizing f with
 | nil=>rfl
 | cons x xs ih=>exact (fU_eq _ _).trans (ih _)
theorem fS_eq (v:Value) (f:Value→α):fS v f=f v:=by
 unfold fS
 split<;>simp [fI_eq,fB_eq,fP_eq,fN_eq,fUs_eq]
theorem qk9 (l:List Value) (f:List Value→α):fSs l f=f l:=by
 unfold fSs
 induction l generalizing f with
 | nil=>rfl
 | cons x xs ih=>exact (fS_eq _ _).trans (ih _)
theorem fA_eq (v:Value) (f:Value→α):fA v f=f v:=by
 unfold fA
 split<;>simp [qk9,fS_eq]
theorem fAs_eq (l:List Value) (f:List Value→α):fAs l f=f l:=by
 unfold fAs
 induction l generalizing f with
 | nil=>rfl
 | cons x xs ih=>exact (fA_eq _ _).trans (ih _)
theorem fV_eq (v:Value) (f:Value→α):fV v f=f v:=by
 unfold fV
 split<;>simp [fAs_eq,fA_eq]
end
section
variable {α β:Type}
end
theorem eqZ_eq (a b:Int):eqZ a b=(a == b):=by
 rw [Bool.eq_iff_iff,beq_iff_eq]
 cases a<;>cases b<;>simp [eqZ,Nat.beq_eq]<;>omega
theorem ltZ_eq (a b:Int):ltZ a b=decide (a < b):=by
 rw [Bool.eq_iff_iff,decide_eq_true_eq]
 cases a<;>cases b<;>simp [ltZ,Nat.ble_eq]<;>omega
theorem qme {z:Int} (h1 : -9223372036854775808≤z) (h2:z≤9223372036854775807):IntKind.i64.wrap z=z:=by
 simp only [IntKind.wrap,IntKind.bits,IntKind.signed]
 simp only [show ((2:Int)^64)=18446744073709551616 from rfl,show ((2:Int)^(64-1))=9223372036854775808 from rfl,Bool.true_and,decide_eq_true_eq,ge_iff_le]
 split<;>omega
section
variable {P:Program}
theorem plainA_bin {a:Fr} {o:Oper} {op:BinOp} {t t':TypeId} {x y:Operand} {v:Value} (ho:o.op = .binOp op t x y t') (hx:plain (ev a x)=true) (hy:plain (ev a y)=true) (hb:((pureVal P (execOp (ev a) o)).bind valOf)=some v) (hv:plain v=true):plainA P a o=some v:=by
 unfold plainA
 have:(o.op.operands.toList.all fun x=>plain (ev a x))=true:=by rw [ho];simp [Op.operands,hx,hy]
 rw [if_pos this,hb]
 simp [hv]
theorem pv (x:Next):pureVal P (pure x:Sem Next)=some x:=rfl
theorem nilCmp_int {t:TypeId} {k l:IntKind} {m n:Int}:nilCmp P t (.int k m) (.int l n)=none:=by
 have h0:nilCmp0 P t (.int k m) (.int l n)=none:=by
  unfold nilCmp0
  split<;>first | rfl | (rename_i h1 h2;cases h1) | (rename_i h1 _;cases h1) | simp_all
 have h1:structEqA P t (.int k m) (.int l n)=none:=by
  unfold structEqA
  split<;>first | rfl | (rename_i h1 h2;cases h1) | (rename_i h1 _;cases h1) | simp_all
 unfold nilCmp
 rw [h0,h1]
theorem qoz {a:Fr} {o:Oper} {op:BinOp} {t t':TypeId} {x y:Operand} {v:Value} {m n:Int} {H:Heap} (ho:o.op = .binOp op t x y t') (hx:ev a x = .int .i64 m) (hy:ev a y = .int .i64 n) (hb:((pureVal P (execOp (ev a) o)).bind valOf)=some v) (hv:plain v=true):aexec P a o H=some (v,H):=by
 have hp:=plainA_bin (P:=P) ho (by rw [hx];rfl) (by rw [hy];rfl) hb hv
 unfold aexec
 rw [ho]
 cases op<;>simp only [hx,hy,nilCmp_int,hp,Option.map_some]
end
end Go.Abs
namespace Go.Abs
section
noncomputable def ndE (H:FH) (b:Nat) (nn:RC) (k:Nd→RC):RC:=FH.rec (fun n t=>Bool.rec nn ((g3B b).run t k) (Nat.ble (Nat.add b 1) n)) H
noncomputable def ndK (H:FH) (b:Nat) (k:Nd→RC):RC:=FH.rec (fun n t=>Bool.rec RC.no ((g3B b).run t k) (Nat.ble (Nat.add b 1) n)) H
noncomputable def fbK:Nd→(Nat→Bool→Nat→FT→RC)→RC:=Nd.rec (fun x _ _=>FB.rec (motive:=fun _=>(Nat→Bool→Nat→FT→RC)→RC) (fun _=>RC.no) (fun fam own n t k=>k fam own n t) (fun _ _ _ _=>RC.no) (fun _ _ _ _ _ _ _ _=>RC.no) x)
noncomputable def cellsK (H:FH) (b:Nat) (k:Nat→Bool→Nat→FT→RC):RC:=ndK H b fun d=>fbK d k
noncomputable def rowK (t:FT) (o n:Nat) (k:List Value→RC):RC :=
 Nat.rec (motive:=fun _=>Nat→(List Value→RC)→RC) (fun _ k=>k []) (fun _ ih o k=>(g2B o).run t fun v=>fN (Nat.add o 1) fun o=>ih o fun l=>k (v::l)) n o k
noncomputable def setsK (vs:List Value) (t:FT) (o:Nat) (k:FT→RC):RC :=
 List.rec (motive:=fun _=>Nat→FT→(FT→RC)→RC) (fun _ t k=>k t) (fun v _ ih o t k=>(s2B o).run t v fun t=>fN (Nat.add o 1) fun o=>ih o t k) vs o t k
noncomputable def setNdK (H:FH) (b:Nat) (d:Nd) (k:FH→RC):RC:=FH.rec (fun n t=>(s3B b).run t d fun t=>k ⟨n,t⟩) H
noncomputable def pushK (H:FH) (f:Nat→Nd) (k:Nat→FH→RC):RC:=FH.rec (fun n t=>Bool.rec ((s3B n).run t (f n) fun t=>fN (Nat.add n 1) fun m=>k n ⟨m,t⟩) RC.no (Nat.ble 262144 n)) H
noncomputable def truncK (fam o skip:Nat) (ms:List Nat) (H:FH) (k:FH→List Nat→RC):RC :=
 List.rec (motive:=fun _=>FH→(FH→List Nat→RC)→RC) (fun H k=>k H [])
  (fun m _ ih H k=>bif Nat.beq m skip then ih H fun H l=>k H (m::l) else ndE H m (ih H k) fun d=>Nd.rec (fun x mx ms=>FB.rec (ih H k)
   (fun f own n t=>bif Nat.beq f fam then (bif Nat.ble n o then ih H (bif Nat.beq n 0 then k else fun H l=>k H (m::l))
    else setNdK H m ⟨.cells f own o t,mx,ms⟩ fun H=>ih H (bif Nat.beq o 0 then k else fun H l=>k H (m::l))) else ih H k)
   (fun _ _ _=>ih H k) (fun _ _ _ _ _ _ _=>ih H k) x) d) ms H k
noncomputable def famK (H:FH) (fam mx:Nat) (ms:List Nat) (k:FH→RC):RC:=ndK H fam fun d=>Nd.rec (fun x _ _=>setNdK H fam ⟨x,mx,ms⟩ k) d
def single (ms:List Nat) (b:Nat):Bool:=match ms with
 | [x]=>Nat.beq x b
 | _=>false
end
def sets:List Value→FT→Nat→FT
 | [],t,_=>t
 | v::vs,t,o=>sets vs (T2.set t o v) (o+1)
def FH.setNd (H:FH) (i:Nat) (d:Nd):FH:=⟨H.n,T3.set H.t i d⟩
def FH.push (H:FH) (d:Nd):FH:=⟨H.n+1,T3.set H.t H.n d⟩
section
theorem ndE_eq (H:FH) (b:Nat) (nn:RC) (k:Nd→RC):ndE H b nn k=if b < H.n then k (H.nd b) else nn:=by
 unfold ndE FH.nd
 cases H with
 | mk n t =>
   simp only [show Nat.ble (Nat.add b 1) n=decide (b < n) from qr9,g3B_eq]
   by_cases h:b < n<;>simp [h]
theorem qjr (H:FH) (b:Nat) (k:Nd→RC):ndK H b k=if b < H.n then k (H.nd b) else RC.no:=ndE_eq H b RC.no k
theorem qe3 (H:FH) (b:Nat) (k:Nat→Bool→Nat→FT→RC):cellsK H b k=RC.no∨∃ fam own n t,b < H.n∧(H.nd b).x = .cells fam own n t∧cellsK H b k=k fam own n t:=by
 unfold cellsK
 rw [qjr]
 split
 ·rename_i hb
  cases hd:H.nd b with
  | mk x mx ms =>
    cases x with
    | cells fam own n t=>exact .inr ⟨fam,own,n,t,hb,rfl,rfl⟩
    | dead=>exact .inl rfl
    | map es=>exact .inl rfl
    | loop=>exact .inl rfl
 ·exact .inl rfl
theorem qnf {t:FT} {n o m:Nat} (h:o+n≤m) (k:List Value→RC):rowK t o n k=k (((toL m t).drop o).take n):=by
 induction n generalizing o k with
 | zero=>rw [List.take_zero];rfl
 | succ n ih =>
   have e:rowK t o (n+1) k=(g2B o).run t fun v=>fN (Nat.add o 1) fun o=>rowK t o n fun l=>k (v::l):=rfl
   rw [e,qsc,fN_eq]
   refine (ih (o:=o+1) (by omega) _).trans ?_
   have:(toL m t).drop o=T2.get t o::(toL m t).drop (o+1):=by
    rw [← List.getElem_cons_drop (by rw [qc7];omega)]
    congr 1
    have h1:=qgt (n:=m) (t:=t) (i:=o)
    rw [if_pos (by omega),List.getElem?_eq_getElem (by rw [qc7];omega)] at h1
    exact Option.some.inj h1
   rw [this];rfl
theorem qkg (vs:List Value) (t:FT) (o:Nat) (k:FT→RC):setsK vs t o k=k (sets vs t o):=by
 induction vs generalizing t o with
 | nil=>rfl
 | cons v vs ih =>
   have e:setsK (v::vs) t o k=(s2B o).run t v fun t=>fN (Nat.add o 1) fun o=>setsK vs t o k:=rfl
   rw [e,s2B_eq,fN_eq]
   exact ih _ _
theorem qgu (H:FH) (b:Nat) (d:Nd) (k:FH→RC):setNdK H b d k=k (H.setNd b d):=by
 unfold setNdK FH.setNd;cases H;simp only [s3B_eq]
theorem qii (H:FH) (f:Nat→Nd) (k:Nat→FH→RC):pushK H f k=RC.no∨(H.n < 262144∧pushK H f k=k H.n (H.push (f H.n))):=by
 unfold pushK FH.push
 cases H with
 | mk n t =>
   simp only
   cases h:Nat.ble 262144 n with
   | true=>exact .inl rfl
   | false =>
     have h3:n < 262144:=by { apply Nat.lt_of_not_le;intro h2;rw [Nat.ble_eq_true_of_le h2] at h;exact Bool.noConfusion h }
     refine .inr ⟨h3,?_⟩
     simp only [s3B_eq,fN_eq]
end
theorem qse {m:Nat} (hm:m≤262144):∀ {vs:List Value} {t:FT} {o:Nat},o+vs.length≤m→toL m (sets vs t o)=setList (toL m t) o vs:=by
 intro vs
 induction vs with
 | nil=>intro t o _;rfl
 | cons v vs ih =>
   intro t o h
   simp only [List.length_cons] at h
   show toL m (sets vs (T2.set t o v) (o+1))=setList ((toL m t).set o v) (o+1) vs
   rw [ih (by omega)]
   congr 1
   apply List.ext_getElem?
   intro i
   rw [qgt,List.getElem?_set,qgt,qc7]
   by_cases hi:i < m
   ·rw [if_pos hi,T2.get_set _ _ (by omega) (by omega),if_pos hi]
    by_cases ho:o=i
    ·rw [if_pos ho.symm,if_pos ho,if_pos (by omega)]
    ·rw [if_neg (Ne.symm ho),if_neg ho]
   ·rw [if_neg hi,if_neg hi]
    split
    ·rw [if_neg (by omega)]
    ·rfl
def ofL (l:List Value):FT:=sets l blank 0
theorem qjs {n:Nat} {t:FT} {news:List Value} (h:n+news.length≤262144):toL (n+news.length) (sets news t n)=toL n t++news:=by
 rw [qse (by omega) (by omega)]
 apply List.ext_getElem?
 intro i
 rw [qkx _ _ _ _ (by rw [qc7];omega),qgt,List.getElem?_append,qc7,qgt]
 by_cases hi:i < n
 ·rw [if_neg (by omega),if_pos (by omega),if_pos hi,if_pos hi]
 ·rw [if_neg hi]
  by_cases h2:i < n+news.length
  ·rw [if_pos ⟨by omega,h2⟩]
  ·rw [if_neg (by omega),if_neg h2,List.getElem?_eq_none (by omega)]
theorem ofL_toL {l:List Value} (h:l.length≤262144):toL l.length (ofL l)=l:=by
 have:=qjs (n:=0) (t:=blank) (news:=l) (by omega)
 rw [Nat.zero_add] at this
 exact this
theorem qg8 {H:FH} (hH:H.OK) {i:Nat} (hi:i < H.n) (d:Nd) {j:Nat} (hj:j < H.n):(H.setNd i d).nd j=if j=i then d else H.nd j:=by
 have:=hH.le
 exact T3.get_set _ _ (by omega) (by omega)
theorem qla {H:FH} (hn:H.n < 262144) (d:Nd) {j:Nat} (hj:j < H.n+1):(H.push d).nd j=if j=H.n then d else H.nd j :=
 T3.get_set _ _ (by omega) (by omega)
theorem qmf {H:FH} (hH:H.OK) {i:Nat} (hi:i < H.n) (d:Nd):absH (H.setNd i d)=(absH H).set i (absB d.x):=by
 apply qi9
 ·rw [List.length_set,qcj];rfl
 ·intro j hj
  have hj:j < H.n:=hj
  rw [qg8 hH hi d hj,List.getElem?_set,qcj,qd5,if_pos hj]
  by_cases h:i=j
  ·rw [if_pos h,if_pos h.symm,if_pos hi]
  ·rw [if_neg h,if_neg (Ne.symm h)]
theorem qgv {H:FH} (hn:H.n < 262144) (d:Nd):absH (H.push d)=absH H++[absB d.x]:=by
 apply qi9
 ·rw [List.length_append,qcj];rfl
 ·intro j hj
  have hj:j < H.n+1:=hj
  rw [qla hn d hj,List.getElem?_append,qcj,qd5]
  by_cases h:j=H.n
  ·subst h;simp
  ·rw [if_neg h,if_pos (by omega),if_pos (by omega)]
def noCells:FB→Prop
 | .cells _ _ _ _=>False
 | _=>True
theorem BOK.mono {H G:FH} (hn:H.n≤G.n) {i:Nat} {x:FB} (h:BOK H i x) (hf:∀ f,f < H.n→(i∈(H.nd f).ms→i∈(G.nd f).ms)∧(H.nd f).mx≤(G.nd f).mx):BOK G i x:=by
 cases x with
 | cells fam own n t =>
   obtain ⟨h1,h2,h3,h4⟩:=h
   exact ⟨h1,by omega,fun h0=>(hf fam h2).1 (h3 h0),Nat.le_trans h4 (hf fam h2).2⟩
 | map kk es mt=>exact h
 | _=>trivial
theorem qng {H:FH} (hH:H.OK) (hn:H.n < 262144) (d:Nd) (hd:BOK (H.push d) H.n d.x):(H.push d).OK:=by
 refine ⟨by show H.n+1≤262144;omega,fun i hi=>?_⟩
 have hi:i < H.n+1:=hi
 rw [qla hn d hi]
 by_cases h:i=H.n
 ·rw [if_pos h,h];exact hd
 ·rw [if_neg h]
  refine (hH.ok i (by omega)).mono (by show H.n≤H.n+1;omega) fun f hf=>?_
  rw [qla hn d (by omega),if_neg (by omega)]
  exact ⟨id,Nat.le_refl _⟩
theorem BOK_new {H:FH} (hn:H.n < 262144) {own:Bool} {n:Nat} {t:FT} (h:n≤262144):BOK (H.push ⟨.cells H.n own n t,n,[H.n]⟩) H.n (.cells H.n own n t):=by
 have e:(H.push ⟨.cells H.n own n t,n,[H.n]⟩).nd H.n=⟨.cells H.n own n t,n,[H.n]⟩:=by rw [qla hn _ (by omega),if_pos rfl]
 refine ⟨h,by show H.n < H.n+1;omega,fun _=>?_,?_⟩
 ·rw [e];simp
 ·rw [e];exact Nat.le_refl _
theorem OK_setNd {H:FH} (hH:H.OK) {i:Nat} (hi:i < H.n) (d:Nd) (hd:BOK (H.setNd i d) i d.x) (hms:∀ j,j < H.n→j≠i→BOK (H.setNd i d) j (H.nd j).x):(H.setNd i d).OK:=by
 refine ⟨hH.le,fun j hj=>?_⟩
 have hj:j < H.n:=hj
 rw [qg8 hH hi d hj]
 by_cases h:j=i
 ·rw [if_pos h,h];exact hd
 ·rw [if_neg h];exact hms j hj h
theorem qnh {H:FH} (hH:H.OK) {i:Nat} (hi:i < H.n) (x:FB) (hx:BOK H i x):(H.setNd i ⟨x,(H.nd i).mx,(H.nd i).ms⟩).OK:=by
 have hk:∀ f,f < H.n→((H.setNd i ⟨x,(H.nd i).mx,(H.nd i).ms⟩).nd f).ms=(H.nd f).ms∧((H.setNd i ⟨x,(H.nd i).mx,(H.nd i).ms⟩).nd f).mx=(H.nd f).mx:=by
  intro f hf
  rw [qg8 hH hi _ hf]
  split
  ·rename_i h;subst h;exact ⟨rfl,rfl⟩
  ·exact ⟨rfl,rfl⟩
 have hm:∀ f,f < H.n→∀ j,(j∈(H.nd f).ms→j∈((H.setNd i ⟨x,(H.nd i).mx,(H.nd i).ms⟩).nd f).ms)∧(H.nd f).mx≤((H.setNd i ⟨x,(H.nd i).mx,(H.nd i).ms⟩).nd f).mx :=
  fun f hf j=>by rw [(hk f hf).1,(hk f hf).2];exact ⟨id,Nat.le_refl _⟩
 exact OK_setNd hH hi _ (BOK.mono (H:=H) (G:=H.setNd i ⟨x,(H.nd i).mx,(H.nd i).ms⟩) (Nat.le_refl H.n) hx fun f hf=>hm f hf i) fun j hj _=>BOK.mono (H:=H) (G:=H.setNd i ⟨x,(H.nd i).mx,(H.nd i).ms⟩) (Nat.le_refl H.n) (hH.ok j hj) fun f hf=>hm f hf j
end Go.Abs
namespace Go.Abs
def truncX (fam o:Nat):FB→FB
 | .cells f own n t=>if f=fam then (if n≤o then .cells f own n t else .cells f own o t) else .cells f own n t
 | x=>x
def FH.setX (H:FH) (i:Nat) (x:FB):FH:=H.setNd i ⟨x,(H.nd i).mx,(H.nd i).ms⟩
structure Cut (fam o skip:Nat) (ms:List Nat) (H H':FH):Prop where
 ok:H'.OK
 hn:H'.n=H.n
 hmx:∀ i,i < H.n→(H'.nd i).mx=(H.nd i).mx
 hms:∀ i,i < H.n→(H'.nd i).ms=(H.nd i).ms
 hx:∀ i,i < H.n→(H'.nd i).x=if i∈ms∧i≠skip then truncX fam o (H.nd i).x else (H.nd i).x
def kept (fam skip:Nat) (ms:List Nat) (H':FH) (l:List Nat):Prop:=∀ i,i < H'.n→i∈ms→(i=skip∨∃ own n t,(H'.nd i).x = .cells fam own n t∧0 < n)→i∈l
theorem qqk (fam o:Nat) (x:FB):truncX fam o (truncX fam o x)=truncX fam o x:=by
 cases x with
 | cells f own n t =>
   unfold truncX
   by_cases h:f=fam
   ·by_cases h2:n≤o
    ·simp [h,h2]
    ·simp [h,h2]
   ·simp [h]
 | _=>rfl
theorem setX_nd {H:FH} (hH:H.OK) {i:Nat} (hi:i < H.n) (x:FB) {j:Nat} (hj:j < H.n):((H.setX i x).nd j).x=(if j=i then x else (H.nd j).x)∧((H.setX i x).nd j).mx=(H.nd j).mx∧((H.setX i x).nd j).ms=(H.nd j).ms:=by
 unfold FH.setX
 rw [qg8 hH hi _ hj]
 by_cases h:j=i
 ·subst h;simp
 ·simp [h]
theorem OK_cut {H:FH} (hH:H.OK) {i:Nat} (hi:i < H.n) (fam o:Nat):(H.setX i (truncX fam o (H.nd i).x)).OK:=by
 refine qnh hH hi _ ?_
 have:=hH.ok i hi
 cases hx:(H.nd i).x with
 | cells f own n t =>
   rw [hx] at this
   obtain ⟨h1,h2,h3,h4⟩:=this
   unfold truncX
   by_cases hf:f=fam
   ·by_cases hn:n≤o
    ·simp only [hf,hn,if_true];subst hf;exact ⟨h1,h2,h3,h4⟩
    ·simp only [hf,hn,if_true,if_false];subst hf;exact ⟨by omega,h2,fun h=>h3 (by omega),by omega⟩
   ·simp only [hf,if_false];exact ⟨h1,h2,h3,h4⟩
 | map kk es mt=>rw [hx] at this;exact this
 | _=>trivial
section
theorem qo0 (fam o skip:Nat):∀ (ms:List Nat) (H:FH) (k:FH→List Nat→RC),H.OK→∃ H' l,truncK fam o skip ms H k=k H' l∧Cut fam o skip ms H H'∧kept fam skip ms H' l:=by
 intro ms
 induction ms with
 | nil=>intro H k hH;exact ⟨H,[],rfl,⟨hH,rfl,fun _ _=>rfl,fun _ _=>rfl,fun i _=>by simp⟩,fun i _ h=>by cases h⟩
 | cons m ms ih =>
   intro H k hH
   have e:truncK fam o skip (m::ms) H k=bif Nat.beq m skip then truncK fam o skip ms H fun H l=>k H (m::l) else ndE H m (truncK fam o skip ms H k) fun d=>Nd.rec (fun x mx ms'=>FB.rec (truncK fam o skip ms H k)
    (fun f own n t=>bif Nat.beq f fam then (bif Nat.ble n o then truncK fam o skip ms H (bif Nat.beq n 0 then k else fun H l=>k H (m::l))
     else setNdK H m ⟨.cells f own o t,mx,ms'⟩ fun H=>truncK fam o skip ms H (bif Nat.beq o 0 then k else fun H l=>k H (m::l))) else truncK fam o skip ms H k)
    (fun _ _ _=>truncK fam o skip ms H k) (fun _ _ _ _ _ _ _=>truncK fam o skip ms H k) x) d:=rfl
   -- the step: H1 is H with m cut short
   have step:∀ (H1:FH) (k1:FH→List Nat→RC) (add:Bool),H1.OK→H1.n=H.n→(∀ i,i < H.n→(H1.nd i).mx=(H.nd i).mx∧(H1.nd i).ms=(H.nd i).ms∧(H1.nd i).x=if i=m∧i≠skip then truncX fam o (H.nd i).x else (H.nd i).x) →
     (∀ H l,k1 H l=k H (if add then m::l else l)) →
     (m < H.n→(m=skip∨∃ own n t,(H1.nd m).x = .cells fam own n t∧0 < n)→add=true) →
     ∃ H' l,truncK fam o skip ms H1 k1=k H' l∧Cut fam o skip (m::ms) H H'∧kept fam skip (m::ms) H' l:=by
    intro H1 k1 add h1 hn hall hk1 hadd
    obtain ⟨H',l,e1,c,kp⟩:=ih H1 k1 h1
    refine ⟨H',if add then m::l else l,by rw [e1,hk1],⟨c.ok,by rw [c.hn,hn],fun i hi=>?_,fun i hi=>?_,fun i hi=>?_⟩,?_⟩
    ·rw [c.hmx i (by omega),(hall i hi).1]
    ·rw [c.hms i (by omega),(hall i hi).2.1]
    ·rw [c.hx i (by omega),(hall i hi).2.2]
     by_cases hm:i=m
     ·subst hm
      by_cases hs:i=skip
      ·simp [hs]
      ·by_cases hin:i∈ms
       ·simp [hs,hin,qqk]
       ·simp [hs,hin]
     ·by_cases hin:i∈ms
      ·simp [hm,hin]
      ·simp [hm,hin]
    ·intro i hi him hc
     have hiH:i < H.n:=by rw [c.hn,hn] at hi;exact hi
     have keep:i∈l→i∈(if add then m::l else l):=by intro h;cases add<;>simp [h]
     by_cases hin:i∈ms
     ·exact keep (kp i hi hin hc)
     ·have hm:i=m:=by rcases List.mem_cons.1 him with h | h;exact h;exact absurd h hin
      have hx:(H'.nd i).x=(H1.nd i).x:=by rw [c.hx i (by omega)];simp [hin]
      have:add=true:=hadd (by rw [← hm];exact hiH) (by rw [← hm,← hx];exact hc)
      rw [this,hm];simp
   have same:∀ {p:Prop} [Decidable p] (x:FB),(truncX fam o x=x∨¬ p)→x=if p then truncX fam o x else x:=by
    intro p _ x h
    by_cases hp:p
    ·rw [if_pos hp]
     rcases h with h | h
     ·exact h.symm
     ·exact absurd hp h
    ·rw [if_neg hp]
   rw [e]
   cases hb:Nat.beq m skip with
   | true =>
     have hms:=Nat.eq_of_beq_eq_true hb
     simp only [cond_true]
     refine step H _ true hH rfl (fun i _=>⟨rfl,rfl,same _ (.inr ?_)⟩) (fun _ _=>rfl) (fun _ _=>rfl)
     rintro ⟨h1,h2⟩
     exact h2 (h1.trans hms)
   | false =>
     have hms:=Nat.ne_of_beq_eq_false hb
     simp only [cond_false]
     rw [ndE_eq]
     split
     case isFalse hlt =>
      refine step H k false hH rfl (fun i hi=>⟨rfl,rfl,same _ (.inr ?_)⟩) (fun _ _=>rfl) (fun h=>absurd h hlt)
      rintro ⟨h1,_⟩;omega
     case isTrue hlt =>
      cases hd:H.nd m with
      | mk x mx ms' =>
        have hx:(H.nd m).x=x:=by rw [hd]
        have other:noCells x→∃ H' l,truncK fam o skip ms H k=k H' l∧Cut fam o skip (m::ms) H H'∧kept fam skip (m::ms) H' l:=by
         intro hno
         refine step H k false hH rfl (fun i hi=>⟨rfl,rfl,same _ ?_⟩) (fun _ _=>rfl) (fun _ h=>?_)
         ·by_cases him:i=m
          ·left;rw [him,hx];cases x<;>first | exact hno.elim | rfl
          ·right;rintro ⟨h1,_⟩;exact him h1
         ·rcases h with h | ⟨own,n,t,h,_⟩
          ·exact absurd h hms
          ·rw [hx] at h;subst h;exact hno.elim
        cases x with
        | dead=>exact other trivial
        | map es=>exact other trivial
        | loop=>exact other trivial
        | cells f own n t =>
          show ∃ H' l,(bif Nat.beq f fam then (bif Nat.ble n o then truncK fam o skip ms H (bif Nat.beq n 0 then k else fun H l=>k H (m::l))
           else setNdK H m ⟨.cells f own o t,mx,ms'⟩ fun H=>truncK fam o skip ms H (bif Nat.beq o 0 then k else fun H l=>k H (m::l))) else truncK fam o skip ms H k)=k H' l∧_
          cases hf:Nat.beq f fam with
          | false =>
            have hff:=Nat.ne_of_beq_eq_false hf
            simp only [cond_false]
            refine step H k false hH rfl (fun i hi=>⟨rfl,rfl,same _ ?_⟩) (fun _ _=>rfl) (fun _ h=>?_)
            ·by_cases him:i=m
             ·left;rw [him,hx];simp [truncX,hff]
             ·right;rintro ⟨h1,_⟩;exact him h1
            ·rcases h with h | ⟨own,n,t,h,_⟩
             ·exact absurd h hms
             ·rw [hx] at h;cases h;exact absurd rfl hff
          | true =>
            have hff:=Nat.eq_of_beq_eq_true hf
            simp only [cond_true]
            cases hno:Nat.ble n o with
            | true =>
              have hle:=Nat.le_of_ble_eq_true hno
              simp only [cond_true]
              refine step H _ (!Nat.beq n 0) hH rfl (fun i hi=>⟨rfl,rfl,same _ ?_⟩) (fun _ _=>?_) (fun _ h=>?_)
              ·by_cases him:i=m
               ·left;rw [him,hx];simp [truncX,hle]
               ·right;rintro ⟨h1,_⟩;exact him h1
              ·cases Nat.beq n 0<;>rfl
              ·rcases h with h | ⟨own2,n2,t2,h,h0⟩
               ·exact absurd h hms
               ·rw [hx] at h;cases h
                cases hz:Nat.beq n 0 with
                | true=>have:=Nat.eq_of_beq_eq_true hz;omega
                | false=>rfl
            | false =>
              have hgt:¬ n≤o:=by intro h;rw [Nat.ble_eq_true_of_le h] at hno;cases hno
              simp only [cond_false,qgu]
              have hset:H.setNd m ⟨.cells f own o t,mx,ms'⟩=H.setX m (truncX fam o (H.nd m).x):=by
               unfold FH.setX;rw [hd];simp [truncX,hff,hgt]
              rw [hset]
              have hnd:=fun j (hj:j < H.n)=>setX_nd hH hlt (truncX fam o (H.nd m).x) hj
              refine step _ _ (!Nat.beq o 0) (OK_cut hH hlt fam o) rfl (fun i hi=>⟨(hnd i hi).2.1,(hnd i hi).2.2,?_⟩) (fun _ _=>?_) (fun _ h=>?_)
              ·rw [(hnd i hi).1]
               by_cases him:i=m
               ·subst him;simp [hms]
               ·simp [him]
              ·cases Nat.beq o 0<;>rfl
              ·rcases h with h | ⟨own2,n2,t2,h,h0⟩
               ·exact absurd h hms
               ·rw [(hnd m hlt).1,hx] at h
                simp [truncX,hff,hgt] at h
                cases hz:Nat.beq o 0 with
                | true=>have:=Nat.eq_of_beq_eq_true hz;omega
                | false=>rfl
end
theorem qql (fam o:Nat) (x:FB):absB (truncX fam o x)=truncFam fam o (absB x):=by
 cases x with
 | cells f own n t =>
   unfold truncX absB truncFam
   by_cases h:f=fam
   ·simp only [h,if_true]
    by_cases h2:n≤o
    ·simp only [h2,if_true]
     rw [List.take_of_length_le (by rw [qc7];exact h2)]
    ·simp only [h2,if_false]
     rw [qsd (by omega)]
   ·simp [h]
 | _=>rfl
theorem Cut.abs {fam o skip:Nat} {H H':FH} (hH:H.OK) (hfam:fam < H.n) (c:Cut fam o skip (H.nd fam).ms H H'):∀ i,i < H.n→i≠skip→absB (H'.nd i).x=truncFam fam o (absB (H.nd i).x):=by
 intro i hi hs
 rw [c.hx i hi]
 by_cases him:i∈(H.nd fam).ms
 ·rw [if_pos ⟨him,hs⟩,qql]
 ·rw [if_neg (fun h=>him h.1)]
  have:=hH.ok i hi
  cases hx:(H.nd i).x with
  | cells f own n t =>
    rw [hx] at this
    obtain ⟨_,_,h3,_⟩:=this
    unfold absB truncFam
    by_cases hf:f=fam
    ·subst hf
     have:n=0:=by
      apply Nat.eq_zero_of_not_pos
      intro h;exact him (h3 h)
     subst this
     simp [toL]
    ·simp [hf]
  | _=>rfl
theorem Cut.fam {fam o skip mx':Nat} {l:List Nat} {H H':FH} (hfam:fam < H.n) (c:Cut fam o skip (H.nd fam).ms H H') (kp:kept fam skip (H.nd fam).ms H' l)
  (hmx:∀ i,i < H.n→∀ own n t,(H'.nd i).x = .cells fam own n t→n≤mx'):(H'.setNd fam ⟨(H'.nd fam).x,mx',l⟩).OK∧absH (H'.setNd fam ⟨(H'.nd fam).x,mx',l⟩)=absH H':=by
 have hn:=c.hn
 have hf':fam < H'.n:=by omega
 have hnd:=fun j (hj:j < H'.n)=>qg8 c.ok hf' ⟨(H'.nd fam).x,mx',l⟩ hj
 have hx:∀ j,j < H'.n→((H'.setNd fam ⟨(H'.nd fam).x,mx',l⟩).nd j).x=(H'.nd j).x:=by
  intro j hj;rw [hnd j hj];split
  ·rename_i h;rw [h]
  ·rfl
 constructor
 ·refine ⟨c.ok.le,fun i hi=>?_⟩
  have hi:i < H'.n:=hi
  rw [hx i hi]
  have hb:=c.ok.ok i hi
  cases hc:(H'.nd i).x with
  | cells f own n t =>
    rw [hc] at hb
    obtain ⟨h1,h2,h3,h4⟩:=hb
    refine ⟨h1,h2,fun h0=>?_,?_⟩
    ·rw [hnd f h2]
     by_cases hf:f=fam
     ·rw [if_pos hf]
      refine kp i hi ?_ (.inr ⟨own,n,t,by rw [hc,hf],h0⟩)
      have:=h3 h0
      rw [hf,c.hms fam hfam] at this
      exact this
     ·rw [if_neg hf];exact h3 h0
    ·rw [hnd f h2]
     by_cases hf:f=fam
     ·rw [if_pos hf];exact hmx i (by omega) own n t (by rw [hc,hf])
     ·rw [if_neg hf];exact h4
  | map kk es mt=>rw [hc] at hb;exact hb
  | _=>trivial
 ·apply qi9
  ·rw [qcj];rfl
  ·intro i hi
   have hi:i < H'.n:=hi
   rw [qd5,if_pos hi,hx i hi]
theorem single_eq {ms:List Nat} {b:Nat} (h:single ms b=true):ms=[b]:=by
 unfold single at h
 split at h
 ·rw [Nat.eq_of_beq_eq_true h]
 ·cases h
end Go.Abs
namespace Go.Abs
section
noncomputable def finK (vs:List Value) (fam n:Nat) (t:FT) (b o:Nat) (k:FH→RC) (H:FH):RC :=
 ndK H b fun d=>Nd.rec (fun _ mx ms=>setsK vs t o fun t=>setNdK H b ⟨.cells fam true n t,mx,ms⟩ k) d
noncomputable def writeK (H:FH) (b o m:Nat) (vs:List Value) (k:FH→RC):RC :=
 cellsK H b fun fam own n t=>bif own && Nat.ble (Nat.add o m) n then
  ndK H fam fun r=>Nd.rec (fun _ mx ms=>bif single ms b then finK vs fam n t b o k H
   else truncK fam o b ms H fun H1 l=>famK H1 fam mx l (finK vs fam n t b o k)) r else RC.no
noncomputable def growK (H:FH) (b n0 n1:Nat) (news:List Value) (k:Nat→FH→RC):RC :=
 cellsK H b fun fam own nn t=>bif own && (Nat.ble n0 nn && Nat.ble n1 262144) then
  ndK H fam fun r=>Nd.rec (fun _ mx ms=>setsK news t n0 fun t =>
   bif Nat.ble mx n0 then pushK H (fun _=>⟨.cells fam true n1 t,0,[]⟩) fun i H2=>famK H2 fam n1 (i::ms) (k i)
   else truncK fam n0 262144 ms H fun H1 l=>pushK H1 (fun _=>⟨.cells fam true n1 t,0,[]⟩) fun i H2=>famK H2 fam n1 (i::l) (k i)) r else RC.no
noncomputable def newK (H:FH) (l:List Value) (n:Nat) (k:Nat→FH→RC):RC :=
 bif Nat.ble n 262144 then setsK l blank 0 fun t=>pushK H (fun i=>⟨.cells i true n t,n,[i]⟩) k else RC.no
end
theorem famK_eq (H:FH) (fam mx:Nat) (ms:List Nat) (k:FH→RC):famK H fam mx ms k=if fam < H.n then k (H.setNd fam ⟨(H.nd fam).x,mx,ms⟩) else RC.no:=by
 unfold famK
 rw [qjr]
 split
 ·cases H.nd fam;simp only [qgu]
 ·rfl
theorem qo1 {H H2:FH} (hH:H.OK) (h2:H2.OK) (hn:H2.n=H.n) {b o fam n:Nat} {t:FT} {vs:List Value} (hb:b < H.n) (hx:(H.nd b).x = .cells fam true n t) (ho:o+vs.length≤n) (hx2:∃ own,(H2.nd b).x = .cells fam own n t)
  (habs:∀ i,i < H.n→i≠b→absB (H2.nd i).x=truncFam fam o (absB (H.nd i).x)) :
  (H2.setX b (.cells fam true n (sets vs t o))).OK∧(absH H).write b o vs=some (absH (H2.setX b (.cells fam true n (sets vs t o)))):=by
 have hb2:b < H2.n:=by omega
 have hbo:=hH.ok b hb
 rw [hx] at hbo
 obtain ⟨own,hx2⟩:=hx2
 have hbo2:=h2.ok b hb2
 rw [hx2] at hbo2
 refine ⟨qnh h2 hb2 _ hbo2,?_⟩
 unfold Heap.write
 rw [qd5,if_pos hb,hx]
 simp only [absB,qc7,if_pos ho]
 congr 1
 symm
 apply qi9
 ·rw [List.length_set,List.length_map,qcj];exact hn.symm
 ·intro i hi
  have hi:i < H2.n:=hi
  rw [(setX_nd h2 hb2 _ hi).1,List.getElem?_set,List.length_map,qcj]
  by_cases h:b=i
  ·subst h
   rw [if_pos rfl,if_pos rfl,if_pos hb]
   simp only [absB]
   rw [qse hbo.1 ho]
  ·rw [if_neg h,if_neg (Ne.symm h),List.getElem?_map,qd5,if_pos (by omega),Option.map_some,habs i (by omega) (Ne.symm h)]
section
theorem finK_eq {vs:List Value} {fam n b o:Nat} {t:FT} {k:FH→RC} {H:FH} (hb:b < H.n):finK vs fam n t b o k H=k (H.setX b (.cells fam true n (sets vs t o))):=by
 unfold finK FH.setX
 rw [qjr,if_pos hb]
 cases H.nd b
 simp only [qkg,qgu]
theorem qo2 {H:FH} (hH:H.OK) (b o m:Nat) (vs:List Value) (hm:vs.length=m) (k:FH→RC):writeK H b o m vs k=RC.no∨∃ H',H'.OK∧(absH H).write b o vs=some (absH H')∧writeK H b o m vs k=k H':=by
 unfold writeK
 rcases qe3 H b (fun fam own n t=>bif own && Nat.ble (Nat.add o m) n then
  ndK H fam fun r=>Nd.rec (fun _ mx ms=>bif single ms b then finK vs fam n t b o k H
   else truncK fam o b ms H fun H1 l=>famK H1 fam mx l (finK vs fam n t b o k)) r else RC.no) with h | ⟨fam,own,n,t,hb,hx,h⟩
 ·exact .inl h
 rw [h]
 clear h
 cases hc:(own && Nat.ble (Nat.add o m) n) with
 | false=>exact .inl rfl
 | true =>
   simp only [Bool.and_eq_true] at hc
   obtain ⟨rfl,hle⟩:=hc
   have ho:o+vs.length≤n:=by rw [hm];exact Nat.le_of_ble_eq_true hle
   simp only [cond_true]
   have hbo:=hH.ok b hb
   rw [hx] at hbo
   obtain ⟨q1,q2,q3,q4⟩:=hbo
   rw [qjr,if_pos q2]
   cases hf:H.nd fam with
   | mk xf mx ms =>
     show (bif single ms b then finK vs fam n t b o k H else truncK fam o b ms H fun H1 l=>famK H1 fam mx l (finK vs fam n t b o k))=RC.no∨_
     have hms:(H.nd fam).ms=ms:=by rw [hf]
     have hmx:(H.nd fam).mx=mx:=by rw [hf]
     cases hs:single ms b with
     | true =>
       have hs:=single_eq hs
       right
       simp only [cond_true]
       rw [finK_eq hb]
       obtain ⟨r1,r2⟩:=qo1 hH hH rfl hb hx ho ⟨true,hx⟩ (fun i hi hib=>by
        have:=hH.ok i hi
        cases hxi:(H.nd i).x with
        | cells f own n t =>
          rw [hxi] at this
          obtain ⟨_,_,h3,_⟩:=this
          unfold absB truncFam
          by_cases hff:f=fam
          ·subst hff
           have:n=0:=by
            apply Nat.eq_zero_of_not_pos
            intro h
            have:=h3 h
            rw [hms,hs] at this
            exact hib (by simpa using this)
           subst this
           simp [toL]
          ·simp [hff]
        | _=>rfl)
       exact ⟨_,r1,r2,rfl⟩
     | false =>
       simp only [cond_false]
       obtain ⟨H1,l,e1,c,kp⟩:=qo0 fam o b ms H (fun H1 l=>famK H1 fam mx l (finK vs fam n t b o k)) hH
       rw [← hms] at c kp
       have hmx2:∀ i,i < H.n→∀ own n t,(H1.nd i).x = .cells fam own n t→n≤mx:=by
        intro i hi own n t h
        have:=c.ok.ok i (by rw [c.hn];exact hi)
        rw [h] at this
        obtain ⟨_,_,_,h4⟩:=this
        rw [c.hmx fam q2,hmx] at h4
        exact h4
       obtain ⟨r1,r2⟩:=c.fam q2 kp hmx2
       have hn2:=c.hn
       have hb1:b < H1.n:=by omega
       have hf1:fam < H1.n:=by omega
       have hnx:∀ i,i < H1.n→((H1.setNd fam ⟨(H1.nd fam).x,mx,l⟩).nd i).x=(H1.nd i).x:=by
        intro i hi;rw [qg8 c.ok hf1 _ hi];split
        ·rename_i h;rw [h]
        ·rfl
       obtain ⟨s1,s2⟩:=qo1 hH r1 hn2 hb hx ho ⟨true,by rw [hnx b hb1,c.hx b hb];simp [hx]⟩ (fun i hi hib=>by rw [hnx i (by omega)];exact c.abs hH q2 i hi hib)
       right
       refine ⟨_,s1,s2,?_⟩
       have key:truncK fam o b ms H (fun H1 l=>famK H1 fam mx l (finK vs fam n t b o k))=k ((H1.setNd fam ⟨(H1.nd fam).x,mx,l⟩).setX b (.cells fam true n (sets vs t o))):=by
        rw [e1,famK_eq,if_pos hf1,finK_eq (show b < (H1.setNd fam ⟨(H1.nd fam).x,mx,l⟩).n from hb1)]
       exact key
theorem growK_or {H:FH} (hH:H.OK) (b n0 n1:Nat) (news:List Value) (hm:n0+news.length=n1) (k:Nat→FH→RC):growK H b n0 n1 news k=RC.no∨∃ H' fam cs,n1≤262144∧H'.OK∧(absH H)[b]?=some (.cells fam true cs)∧n0≤cs.length ∧
  absH H'=(absH H).map (truncFam fam n0)++[.cells fam true (cs.take n0++news)]∧growK H b n0 n1 news k=k H.n H':=by
 unfold growK
 rcases qe3 H b (fun fam own nn t=>bif own && (Nat.ble n0 nn && Nat.ble n1 262144) then
  ndK H fam fun r=>Nd.rec (fun _ mx ms=>setsK news t n0 fun t =>
   bif Nat.ble mx n0 then pushK H (fun _=>⟨.cells fam true n1 t,0,[]⟩) fun i H2=>famK H2 fam n1 (i::ms) (k i)
   else truncK fam n0 262144 ms H fun H1 l=>pushK H1 (fun _=>⟨.cells fam true n1 t,0,[]⟩) fun i H2=>famK H2 fam n1 (i::l) (k i)) r else RC.no) with h | ⟨fam,own,nn,t,hb,hx,h⟩
 ·exact .inl h
 rw [h]
 clear h
 cases hc:(own && (Nat.ble n0 nn && Nat.ble n1 262144)) with
 | false=>exact .inl rfl
 | true =>
   simp only [Bool.and_eq_true] at hc
   obtain ⟨rfl,hle,h256⟩:=hc
   have hle:=Nat.le_of_ble_eq_true hle
   have h256:=Nat.le_of_ble_eq_true h256
   simp only [cond_true]
   have hbo:=hH.ok b hb
   rw [hx] at hbo
   obtain ⟨q1,q2,q3,q4⟩:=hbo
   rw [qjr,if_pos q2]
   cases hf:H.nd fam with
   | mk xf mx ms =>
     have hms:(H.nd fam).ms=ms:=by rw [hf]
     have hmx:(H.nd fam).mx=mx:=by rw [hf]
     simp only [qkg]
     -- the cut, whether made or not
     have fin:∀ (H1:FH) (l:List Nat),Cut fam n0 262144 (H.nd fam).ms H H1→kept fam 262144 (H.nd fam).ms H1 l→(pushK H1 (fun _=>(⟨.cells fam true n1 (sets news t n0),0,[]⟩:Nd)) fun i H2=>famK H2 fam n1 (i::l) (k i))=RC.no ∨
       ∃ H' fam' cs,n1≤262144∧H'.OK∧(absH H)[b]?=some (.cells fam' true cs)∧n0≤cs.length∧absH H'=(absH H).map (truncFam fam' n0)++[.cells fam' true (cs.take n0++news)] ∧
         (pushK H1 (fun _=>(⟨.cells fam true n1 (sets news t n0),0,[]⟩:Nd)) fun i H2=>famK H2 fam n1 (i::l) (k i))=k H.n H':=by
      intro H1 l c kp
      have hn:=c.hn
      rcases qii H1 (fun _=>(⟨.cells fam true n1 (sets news t n0),0,[]⟩:Nd)) (fun i H2=>famK H2 fam n1 (i::l) (k i)) with e | ⟨hlt,e⟩
      ·exact .inl e
      right
      rw [e]
      have hfn:fam < (H1.push ⟨.cells fam true n1 (sets news t n0),0,[]⟩).n:=by show fam < H1.n+1;omega
      rw [famK_eq,if_pos hfn,hn]
      have hnd:=fun j (hj:j < H1.n+1)=>qla hlt ⟨.cells fam true n1 (sets news t n0),0,[]⟩ hj
      have hle4:=hH.le
      have hpfam:((H1.push ⟨.cells fam true n1 (sets news t n0),0,[]⟩).nd fam)=H1.nd fam:=by rw [hnd fam (by omega),if_neg (by omega)]
      have habs1:absH H1=(absH H).map (truncFam fam n0):=by
       apply qi9
       ·rw [List.length_map,qcj,hn]
       ·intro i hi
        rw [List.getElem?_map,qd5,if_pos (by omega),Option.map_some,c.abs hH q2 i (by omega) (by omega)]
      -- lengths of the members
      have hlen:∀ i,i < H.n→∀ own n t,(H1.nd i).x = .cells fam own n t→n≤n0:=by
       intro i hi own n t h
       have h1:=c.hx i hi
       by_cases him:i∈(H.nd fam).ms
       ·rw [if_pos ⟨him,by omega⟩,h] at h1
        cases hxi:(H.nd i).x with
        | cells f own' n' t' =>
          rw [hxi] at h1
          unfold truncX at h1
          by_cases hff:f=fam
          ·by_cases hn':n'≤n0
           ·simp only [hff,hn',if_true] at h1;cases h1;exact hn'
           ·simp only [hff,hn',if_true,if_false] at h1;cases h1;exact Nat.le_refl _
          ·simp only [hff,if_false] at h1;cases h1;exact absurd rfl hff
        | dead=>rw [hxi] at h1;cases h1
        | map es=>rw [hxi] at h1;cases h1
        | loop=>rw [hxi] at h1;cases h1
       ·rw [if_neg (fun h=>him h.1),h] at h1
        have:=hH.ok i hi
        rw [← h1] at this
        obtain ⟨_,_,h3,_⟩:=this
        by_cases h0:0 < n
        ·exact absurd (h3 h0) him
        ·omega
      let G:FH:=H1.push ⟨.cells fam true n1 (sets news t n0),0,[]⟩
      have hGn:G.n=H1.n+1:=rfl
      have hGle:G.n≤262144:=by omega
      let G2:FH:=G.setNd fam ⟨(G.nd fam).x,n1,H.n::l⟩
      have hG2:∀ j,j < H1.n+1→G2.nd j=if j=fam then ⟨(G.nd fam).x,n1,H.n::l⟩ else G.nd j:=fun j hj=>T3.get_set _ _ (by omega) (by omega)
      have hG2x:∀ j,j < H1.n+1→(G2.nd j).x=(G.nd j).x:=by
       intro j hj;rw [hG2 j hj];split
       ·rename_i h;rw [h]
       ·rfl
      refine ⟨G2,fam,toL nn t,h256,⟨hGle,fun i hi=>?_⟩,by rw [qd5,if_pos hb,hx];rfl,by rw [qc7];exact hle,?_,rfl⟩
      ·have hi:i < H1.n+1:=hi
       rw [hG2x i hi]
       show BOK G2 i ((H1.push ⟨.cells fam true n1 (sets news t n0),0,[]⟩).nd i).x
       rw [hnd i hi]
       by_cases hin:i=H1.n
       ·rw [if_pos hin]
        refine ⟨h256,by show fam < H1.n+1;omega,fun _=>?_,?_⟩
        ·rw [hG2 fam (by omega),if_pos rfl,hin,hn];simp
        ·rw [hG2 fam (by omega),if_pos rfl];exact Nat.le_refl _
       ·rw [if_neg hin]
        have hi1:i < H1.n:=by omega
        have hb1:=c.ok.ok i hi1
        cases hxi:(H1.nd i).x with
        | cells f own n t =>
          rw [hxi] at hb1
          obtain ⟨h1,h2,h3,h4⟩:=hb1
          refine ⟨h1,by show f < H1.n+1;omega,fun h0=>?_,?_⟩
          ·rw [hG2 f (by omega)]
           by_cases hff:f=fam
           ·rw [if_pos hff]
            refine List.mem_cons_of_mem _ (kp i hi1 ?_ (.inr ⟨own,n,t,by rw [hxi,hff],h0⟩))
            have:=h3 h0
            rw [hff,c.hms fam q2] at this
            exact this
           ·rw [if_neg hff]
            show i∈((H1.push ⟨.cells fam true n1 (sets news _ n0),0,[]⟩).nd f).ms
            rw [hnd f (by omega),if_neg (by omega)]
            exact h3 h0
          ·rw [hG2 f (by omega)]
           by_cases hff:f=fam
           ·rw [if_pos hff]
            have:=hlen i (by omega) own n t (by rw [hxi,hff])
            show n≤n1
            omega
           ·rw [if_neg hff]
            show n≤((H1.push ⟨.cells fam true n1 (sets news _ n0),0,[]⟩).nd f).mx
            rw [hnd f (by omega),if_neg (by omega)]
            exact h4
        | map kk es mt=>rw [hxi] at hb1;exact hb1
        | _=>trivial
      ·have e2:absH G2=absH G:=by
        apply qi9
        ·rw [qcj];rfl
        ·intro i hi
         have hi:i < H1.n+1:=hi
         rw [qd5,if_pos (show i < G.n from hi),hG2x i hi]
       rw [e2]
       show absH (H1.push _)=_
       rw [qgv hlt,habs1]
       simp only [absB]
       rw [← hm,qjs (by omega),qsd hle]
     cases hmxn:Nat.ble mx n0 with
     | true =>
       have hle0:=Nat.le_of_ble_eq_true hmxn
       have c:Cut fam n0 262144 (H.nd fam).ms H H:=by
        refine ⟨hH,rfl,fun _ _=>rfl,fun _ _=>rfl,fun i hi=>?_⟩
        split
        ·have:=hH.ok i hi
         cases hxi:(H.nd i).x with
         | cells f own n t =>
           rw [hxi] at this
           obtain ⟨_,_,_,h4⟩:=this
           unfold truncX
           by_cases hff:f=fam
           ·subst hff
            rw [hmx] at h4
            have h5:n≤n0:=by omega
            simp [h5]
           ·simp [hff]
         | _=>rfl
        ·rfl
       have:=fin H ms c (fun i _ hi _=>by rw [hms] at hi;exact hi)
       simpa only [hf,hmxn,cond_true] using this
     | false =>
       obtain ⟨H1,l,e1,c,kp⟩:=qo0 fam n0 262144 ms H (fun H1 l=>pushK H1 (fun _=>(⟨.cells fam true n1 (sets news t n0),0,[]⟩:Nd)) fun i H2=>famK H2 fam n1 (i::l) (k i)) hH
       rw [← hms] at c kp
       have:=fin H1 l c kp
       rw [← e1] at this
       simpa only [hf,hmxn,cond_false] using this
theorem qhm {H:FH} (hH:H.OK) (l:List Value) (n:Nat) (hn:l.length=n) (k:Nat→FH→RC):newK H l n k=RC.no∨∃ H',n≤262144∧H'.OK∧absH H'=absH H++[.cells (absH H).length true l]∧newK H l n k=k (absH H).length H':=by
 unfold newK
 cases hc:Nat.ble n 262144 with
 | false=>exact .inl rfl
 | true =>
   have h256:=Nat.le_of_ble_eq_true hc
   simp only [cond_true,qkg]
   rcases qii H (fun i=>(⟨.cells i true n (sets l blank 0),n,[i]⟩:Nd)) k with e | ⟨hlt,e⟩
   ·exact .inl e
   ·refine .inr ⟨_,h256,qng hH hlt _ (BOK_new hlt h256),?_,by rw [qcj];exact e⟩
    rw [qgv hlt,qcj]
    simp only [absB]
    have:=ofL_toL (l:=l) (by omega)
    rw [hn] at this
    rw [show sets l blank 0=ofL l from rfl,this]
end
end Go.Abs
namespace Go.Abs
noncomputable def intK:Value→(Int→RC)→RC:=Value.rec (motive_1:=fun _=>(Int→RC)→RC) (motive_2:=fun _=>(Int→RC)→RC) (motive_3:=fun _=>(Int→RC)→RC) (fun _ _=>RC.no) (fun kd z k=>IntKind.rec RC.no RC.no RC.no (k z) RC.no RC.no RC.no RC.no kd) (fun _ _ _=>RC.no) (fun _ _ _ _=>RC.no) (fun _ _=>RC.no) (fun _ _=>RC.no) (fun _ _ _ _=>RC.no) (fun _ _=>RC.no) (fun _ _=>RC.no) (fun _ _ _ _ _ _=>RC.no) (fun _=>RC.no) (fun _ _ _ _=>RC.no) (fun _=>RC.no) (fun _ _ _=>RC.no) (fun _ _ _=>RC.no) (fun _ _ _=>RC.no) (fun _=>RC.no) (fun _ _ _ _ _=>RC.no)
noncomputable def u8K:Value→(Int→RC)→RC:=Value.rec (motive_1:=fun _=>(Int→RC)→RC) (motive_2:=fun _=>(Int→RC)→RC) (motive_3:=fun _=>(Int→RC)→RC) (fun _ _=>RC.no) (fun kd z k=>IntKind.rec RC.no RC.no RC.no RC.no (k z) RC.no RC.no RC.no kd) (fun _ _ _=>RC.no) (fun _ _ _ _=>RC.no) (fun _ _=>RC.no) (fun _ _=>RC.no) (fun _ _ _ _=>RC.no) (fun _ _=>RC.no) (fun _ _=>RC.no) (fun _ _ _ _ _ _=>RC.no) (fun _=>RC.no) (fun _ _ _ _=>RC.no) (fun _=>RC.no) (fun _ _ _=>RC.no) (fun _ _ _=>RC.no) (fun _ _ _=>RC.no) (fun _=>RC.no) (fun _ _ _ _ _=>RC.no)
noncomputable def boolK:Value→(Bool→RC)→RC:=Value.rec (motive_1:=fun _=>(Bool→RC)→RC) (motive_2:=fun _=>(Bool→RC)→RC) (motive_3:=fun _=>(Bool→RC)→RC) (fun b k=>k b) (fun _ _ _=>RC.no) (fun _ _ _=>RC.no) (fun _ _ _ _=>RC.no) (fun _ _=>RC.no) (fun _ _=>RC.no) (fun _ _ _ _=>RC.no) (fun _ _=>RC.no) (fun _ _=>RC.no) (fun _ _ _ _ _ _=>RC.no) (fun _=>RC.no) (fun _ _ _ _=>RC.no) (fun _=>RC.no) (fun _ _ _=>RC.no) (fun _ _ _=>RC.no) (fun _ _ _=>RC.no) (fun _=>RC.no) (fun _ _ _ _ _=>RC.no)
noncomputable def sliceK:Value→(Option Addr→Nat→Nat→RC)→RC:=Value.rec (motive_1:=fun _=>(Option Addr→Nat→Nat→RC)→RC) (motive_2:=fun _=>(Option Addr→Nat→Nat→RC)→RC) (motive_3:=fun _=>(Option Addr→Nat→Nat→RC)→RC) (fun _ _=>RC.no) (fun _ _ _=>RC.no) (fun _ _ _=>RC.no) (fun _ _ _ _=>RC.no) (fun _ _=>RC.no) (fun _ _=>RC.no) (fun a n c k=>k a n c) (fun _ _=>RC.no) (fun _ _=>RC.no) (fun _ _ _ _ _ _=>RC.no) (fun _=>RC.no) (fun _ _ _ _=>RC.no) (fun _=>RC.no) (fun _ _ _=>RC.no) (fun _ _ _=>RC.no) (fun _ _ _=>RC.no) (fun _=>RC.no) (fun _ _ _ _ _=>RC.no)
noncomputable def addrK (nn nl:RC):Option Addr→(Nat→Nat→RC)→RC:=Option.rec (fun _=>nn) (fun ad=>Addr.rec (motive:=fun _=>(Nat→Nat→RC)→RC) (fun b o s=>Option.rec (motive:=fun _=>(Nat→Nat→RC)→RC) (fun k=>k b o) (fun _ _=>nl) s) ad)
noncomputable def ptrK:Value→(Nat→Nat→RC)→RC:=Value.rec (motive_1:=fun _=>(Nat→Nat→RC)→RC) (motive_2:=fun _=>(Nat→Nat→RC)→RC) (motive_3:=fun _=>(Nat→Nat→RC)→RC) (fun _ _=>RC.no) (fun _ _ _=>RC.no) (fun _ _ _=>RC.no) (fun _ _ _ _=>RC.no) (fun _ _=>RC.no) (addrK RC.no RC.no) (fun _ _ _ _=>RC.no) (fun _ _=>RC.no) (fun _ _=>RC.no) (fun _ _ _ _ _ _=>RC.no) (fun _=>RC.no) (fun _ _ _ _=>RC.no) (fun _=>RC.no) (fun _ _ _=>RC.no) (fun _ _ _=>RC.no) (fun _ _ _=>RC.no) (fun _=>RC.no) (fun _ _ _ _ _=>RC.no)
noncomputable def aggK:Value→(List Value→RC)→RC:=Value.rec (motive_1:=fun _=>(List Value→RC)→RC) (motive_2:=fun _=>(List Value→RC)→RC) (motive_3:=fun _=>(List Value→RC)→RC) (fun _ _=>RC.no) (fun _ _ _=>RC.no) (fun _ _ _=>RC.no) (fun _ _ _ _=>RC.no) (fun _ _=>RC.no) (fun _ _=>RC.no) (fun _ _ _ _=>RC.no) (fun _ _=>RC.no) (fun _ _=>RC.no) (fun _ _ _ _ _ _=>RC.no) (fun _=>RC.no) (fun _ _ _ _=>RC.no) (fun _=>RC.no) (fun cs _ k=>Array.rec k cs) (fun _ _ _=>RC.no) (fun _ _ _=>RC.no) (fun _=>RC.no) (fun _ _ _ _ _=>RC.no)
noncomputable def tupK:Value→(List Value→RC)→RC:=Value.rec (motive_1:=fun _=>(List Value→RC)→RC) (motive_2:=fun _=>(List Value→RC)→RC) (motive_3:=fun _=>(List Value→RC)→RC) (fun _ _=>RC.no) (fun _ _ _=>RC.no) (fun _ _ _=>RC.no) (fun _ _ _ _=>RC.no) (fun _ _=>RC.no) (fun _ _=>RC.no) (fun _ _ _ _=>RC.no) (fun _ _=>RC.no) (fun _ _=>RC.no) (fun _ _ _ _ _ _=>RC.no) (fun _=>RC.no) (fun _ _ _ _=>RC.no) (fun _=>RC.no) (fun _ _ _=>RC.no) (fun cs _ k=>Array.rec k cs) (fun _ _ _=>RC.no) (fun _=>RC.no) (fun _ _ _ _ _=>RC.no)
noncomputable def mapK:Value→(Nat→RC)→RC:=Value.rec (motive_1:=fun _=>(Nat→RC)→RC) (motive_2:=fun _=>(Nat→RC)→RC) (motive_3:=fun _=>(Nat→RC)→RC) (fun _ _=>RC.no) (fun _ _ _=>RC.no) (fun _ _ _=>RC.no) (fun _ _ _ _=>RC.no) (fun _ _=>RC.no) (fun _ _=>RC.no) (fun _ _ _ _=>RC.no) (fun r k=>Option.rec RC.no k r) (fun _ _=>RC.no) (fun _ _ _ _ _ _=>RC.no) (fun _=>RC.no) (fun _ _ _ _=>RC.no) (fun _=>RC.no) (fun _ _ _=>RC.no) (fun _ _ _=>RC.no) (fun _ _ _=>RC.no) (fun _=>RC.no) (fun _ _ _ _ _=>RC.no)
noncomputable def isScal:Value→Bool:=Value.rec (motive_1:=fun _=>Bool) (motive_2:=fun _=>Bool) (motive_3:=fun _=>Bool) (fun _=>true) (fun _ _=>true) (fun _ _=>true) (fun _ _ _=>true) (fun _=>true) (fun _=>true) (fun _ _ _=>true) (fun _=>true) (fun _=>true) (fun _ _ _ _ _=>true) true (fun _ _ _=>true) true (fun _ _=>false) (fun _ _=>false) (fun _ _=>true) true (fun _ _ _ _=>true)
noncomputable def scalK (v:Value) (k:List Value→RC):RC:=Bool.rec (aggK v k) (k [v]) (isScal v)
theorem qe4 (v:Value) (k:Int→RC):intK v k=RC.no∨∃ z,v = .int .i64 z∧intK v k=k z:=by
 cases v with
 | int kd z=>cases kd<;>first | exact .inl rfl | exact .inr ⟨_,rfl,rfl⟩
 | _=>exact .inl rfl
theorem u8K_or (v:Value) (k:Int→RC):u8K v k=RC.no∨∃ z,v = .int .u8 z∧u8K v k=k z:=by
 cases v with
 | int kd z=>cases kd<;>first | exact .inl rfl | exact .inr ⟨_,rfl,rfl⟩
 | _=>exact .inl rfl
theorem qsf (v:Value) (k:Bool→RC):boolK v k=RC.no∨∃ b,v = .bool b∧boolK v k=k b:=by
 cases v<;>first | exact .inl rfl | exact .inr ⟨_,rfl,rfl⟩
theorem qe5 (v:Value) (k:Option Addr→Nat→Nat→RC):sliceK v k=RC.no∨∃ a n c,v = .slice a n c∧sliceK v k=k a n c:=by
 cases v<;>first | exact .inl rfl | exact .inr ⟨_,_,_,rfl,rfl⟩
theorem qij (a:Option Addr) (nn nl:RC) (k:Nat→Nat→RC):(a=none∧addrK nn nl a k=nn)∨(∃ b o p,a=some ⟨b,o,some p⟩∧addrK nn nl a k=nl)∨∃ b o,a=some ⟨b,o,none⟩∧addrK nn nl a k=k b o:=by
 cases a with
 | none=>exact .inl ⟨rfl,rfl⟩
 | some a=>obtain ⟨b,o,s⟩:=a;cases s with
   | none=>exact .inr (.inr ⟨_,_,rfl,rfl⟩)
   | some _=>exact .inr (.inl ⟨_,_,_,rfl,rfl⟩)
theorem qhn (v:Value) (k:Nat→Nat→RC):ptrK v k=RC.no∨∃ b o,v = .pointer (some ⟨b,o,none⟩)∧ptrK v k=k b o:=by
 cases v with
 | pointer a =>
   cases a with
   | none=>exact .inl rfl
   | some a=>obtain ⟨b,o,s⟩:=a;cases s with
     | none=>exact .inr ⟨_,_,rfl,rfl⟩
     | some _=>exact .inl rfl
 | _=>exact .inl rfl
theorem aggK_or (v:Value) (k:List Value→RC):aggK v k=RC.no∨∃ cs:Array Value,v = .agg cs∧aggK v k=k cs.toList:=by
 cases v<;>first | exact .inl rfl | (rename_i cs;cases cs;exact .inr ⟨_,rfl,rfl⟩)
theorem tupK_or (v:Value) (k:List Value→RC):tupK v k=RC.no∨∃ cs:Array Value,v = .tuple cs∧tupK v k=k cs.toList:=by
 cases v<;>first | exact .inl rfl | (rename_i cs;cases cs;exact .inr ⟨_,rfl,rfl⟩)
theorem mapK_or (v:Value) (k:Nat→RC):mapK v k=RC.no∨∃ r,v = .map (some r)∧mapK v k=k r:=by
 cases v with
 | map r=>cases r with
   | none=>exact .inl rfl
   | some r=>exact .inr ⟨_,rfl,rfl⟩
 | _=>exact .inl rfl
theorem qik (v:Value) (k:List Value→RC):scalK v k=RC.no∨∃ l,scal v=some l∧scalK v k=k l:=by
 cases v with
 | agg cs=>cases cs;exact .inr ⟨_,rfl,rfl⟩
 | tuple cs=>exact .inl rfl
 | _=>exact .inr ⟨_,rfl,rfl⟩
noncomputable def posK (n:Nat) (k:Int→RC):RC:=fN n fun n=>Bool.rec RC.no (k (.ofNat n)) (Nat.ble n 9223372036854775807)
noncomputable def negK (n:Nat) (k:Int→RC):RC:=fN n fun n=>Bool.rec RC.no (k (.negSucc n)) (Nat.ble n 9223372036854775807)
noncomputable def subK (a b:Nat) (k:Int→RC):RC:=Bool.rec (negK (Nat.sub (Nat.sub b a) 1) k) (posK (Nat.sub a b) k) (Nat.ble b a)
noncomputable def addZ:Int→Int→(Int→RC)→RC:=Int.rec (fun m=>Int.rec (fun n k=>posK (Nat.add m n) k) (fun n k=>subK m (Nat.add n 1) k)) (fun m=>Int.rec (fun n k=>subK n (Nat.add m 1) k) (fun n k=>negK (Nat.add (Nat.add m n) 1) k))
noncomputable def subZ:Int→Int→(Int→RC)→RC:=Int.rec (fun m=>Int.rec (fun n k=>subK m n k) (fun n k=>posK (Nat.add (Nat.add m n) 1) k)) (fun m=>Int.rec (fun n k=>negK (Nat.add m n) k) (fun n k=>subK n m k))
noncomputable def anyK:Int→(Int→RC)→RC:=Int.rec (fun n k=>posK n k) (fun n k=>negK n k)
noncomputable def mulZ:Int→Int→(Int→RC)→RC:=Int.rec (fun m=>Int.rec (fun n k=>posK (Nat.mul m n) k) (fun n k=>anyK (.ofNat m * .negSucc n) k)) (fun m y k=>anyK (.negSucc m*y) k)
noncomputable def quoZ:Int→Int→(Int→RC)→RC:=Int.rec (fun m=>Int.rec (fun n k=>Bool.rec (posK (Nat.div m n) k) RC.no (Nat.beq n 0)) (fun n k=>anyK ((Int.ofNat m).tdiv (.negSucc n)) k)) (fun m y k=>Bool.rec (anyK ((Int.negSucc m).tdiv y) k) RC.no (eqZ y 0))
noncomputable def remZ:Int→Int→(Int→RC)→RC:=Int.rec (fun m=>Int.rec (fun n k=>Bool.rec (posK (Nat.mod m n) k) RC.no (Nat.beq n 0)) (fun n k=>anyK ((Int.ofNat m).tmod (.negSucc n)) k)) (fun m y k=>Bool.rec (anyK ((Int.negSucc m).tmod y) k) RC.no (eqZ y 0))
noncomputable def beqZ:Int→Int→Bool:=Int.rec (fun m=>Int.rec (fun n=>Nat.beq m n) (fun _=>false)) (fun m=>Int.rec (fun _=>false) (fun n=>Nat.beq m n))
noncomputable def bltZ:Int→Int→Bool:=Int.rec (fun m=>Int.rec (fun n=>Nat.ble (Nat.add m 1) n) (fun _=>false)) (fun m=>Int.rec (fun _=>true) (fun n=>Nat.ble (Nat.add n 1) m))
def Fits (z:Int):Prop:=-9223372036854775808≤z∧z≤9223372036854775807
theorem qho (n:Nat) (k:Int→RC):posK n k=RC.no∨(posK n k=k (n:Int)∧Fits n):=by
 unfold posK
 rw [fN_eq]
 cases h:Nat.ble n 9223372036854775807 with
 | false=>exact .inl rfl
 | true=>have:=Nat.le_of_ble_eq_true h;exact .inr ⟨rfl,by unfold Fits;omega⟩
theorem qni (n:Nat) (k:Int→RC):negK n k=RC.no∨(negK n k=k (.negSucc n)∧Fits (.negSucc n)):=by
 unfold negK
 rw [fN_eq]
 cases h:Nat.ble n 9223372036854775807 with
 | false=>exact .inl rfl
 | true=>have:=Nat.le_of_ble_eq_true h;exact .inr ⟨rfl,by unfold Fits;omega⟩
theorem qnj (a b:Nat) (k:Int→RC):subK a b k=RC.no∨(subK a b k=k ((a:Int) - b)∧Fits ((a:Int) - b)):=by
 unfold subK
 cases h:Nat.ble b a with
 | true =>
   have:=Nat.le_of_ble_eq_true h
   have e:((Nat.sub a b:Nat):Int)=(a:Int) - b:=by show ((a - b:Nat):Int)=_;omega
   show posK _ _=_∨(posK _ _=_∧_)
   rw [← e]
   exact qho _ _
 | false =>
   have:¬ b≤a:=by intro h2;rw [Nat.ble_eq_true_of_le h2] at h;cases h
   have e:Int.negSucc (Nat.sub (Nat.sub b a) 1)=(a:Int) - b:=by show Int.negSucc (b - a - 1)=_;omega
   show negK _ _=_∨(negK _ _=_∧_)
   rw [← e]
   exact qni _ _
theorem addZ_or (x y:Int) (k:Int→RC):addZ x y k=RC.no∨(addZ x y k=k (x+y)∧Fits (x+y)):=by
 cases x with
 | ofNat m=>cases y with
   | ofNat n=>exact qho _ _
   | negSucc n =>
     have e:Int.ofNat m+Int.negSucc n=(m:Int) - ((Nat.add n 1:Nat):Int):=by show _=(m:Int) - ((n+1:Nat):Int);show (m:Int)+_=_;omega
     rw [e];exact qnj _ _ _
 | negSucc m=>cases y with
   | ofNat n =>
     have e:Int.negSucc m+Int.ofNat n=(n:Int) - ((Nat.add m 1:Nat):Int):=by show _=(n:Int) - ((m+1:Nat):Int);show _+(n:Int)=_;omega
     rw [e];exact qnj _ _ _
   | negSucc n=>exact qni _ _
theorem subZ_or (x y:Int) (k:Int→RC):subZ x y k=RC.no∨(subZ x y k=k (x - y)∧Fits (x - y)):=by
 cases x with
 | ofNat m=>cases y with
   | ofNat n=>exact qnj _ _ _
   | negSucc n =>
     have e:Int.ofNat m - Int.negSucc n=((Nat.add (Nat.add m n) 1:Nat):Int):=by show (m:Int) - _=((m+n+1:Nat):Int);omega
     rw [e];exact qho _ _
 | negSucc m=>cases y with
   | ofNat n =>
     have e:Int.negSucc m - Int.ofNat n=Int.negSucc (Nat.add m n):=by show _ - (n:Int)=Int.negSucc (m+n);omega
     rw [e];exact qni _ _
   | negSucc n =>
     have e:Int.negSucc m - Int.negSucc n=(n:Int) - (m:Int):=by omega
     rw [e];exact qnj _ _ _
theorem qja (z:Int) (k:Int→RC):anyK z k=RC.no∨(anyK z k=k z∧Fits z):=by
 cases z with
 | ofNat n=>exact qho _ _
 | negSucc n=>exact qni _ _
theorem mulZ_or (x y:Int) (k:Int→RC):mulZ x y k=RC.no∨(mulZ x y k=k (x*y)∧Fits (x*y)):=by
 cases x with
 | ofNat m=>cases y with
   | ofNat n=>exact qho _ _
   | negSucc n=>exact qja _ _
 | negSucc m=>exact qja _ _
theorem quoZ_or (x y:Int) (k:Int→RC):quoZ x y k=RC.no∨(quoZ x y k=k (x.tdiv y)∧Fits (x.tdiv y)∧y≠0):=by
 cases x with
 | ofNat m=>cases y with
   | ofNat n =>
     show (Bool.rec (posK (Nat.div m n) k) RC.no (Nat.beq n 0):RC)=RC.no∨((Bool.rec (posK (Nat.div m n) k) RC.no (Nat.beq n 0):RC)=_∧_)
     cases h:Nat.beq n 0 with
     | true=>exact .inl rfl
     | false =>
       have:=Nat.ne_of_beq_eq_false h
       rcases qho (Nat.div m n) k with e | ⟨e,f⟩
       ·exact .inl e
       ·exact .inr ⟨e,f,by intro h;exact this (Int.ofNat.inj h)⟩
   | negSucc n =>
     rcases qja ((Int.ofNat m).tdiv (Int.negSucc n)) k with e | ⟨e,f⟩
     ·exact .inl e
     ·exact .inr ⟨e,f,by intro h;cases h⟩
 | negSucc m =>
   show (Bool.rec (anyK ((Int.negSucc m).tdiv y) k) RC.no (eqZ y 0):RC)=RC.no∨((Bool.rec (anyK ((Int.negSucc m).tdiv y) k) RC.no (eqZ y 0):RC)=_∧_)
   cases h:eqZ y 0 with
   | true=>exact .inl rfl
   | false =>
     rw [eqZ_eq] at h
     rcases qja ((Int.negSucc m).tdiv y) k with e | ⟨e,f⟩
     ·exact .inl e
     ·exact .inr ⟨e,f,by simpa using h⟩
theorem remZ_or (x y:Int) (k:Int→RC):remZ x y k=RC.no∨(remZ x y k=k (x.tmod y)∧y≠0):=by
 cases x with
 | ofNat m=>cases y with
   | ofNat n =>
     show (Bool.rec (posK (Nat.mod m n) k) RC.no (Nat.beq n 0):RC)=RC.no∨((Bool.rec (posK (Nat.mod m n) k) RC.no (Nat.beq n 0):RC)=_∧_)
     cases h:Nat.beq n 0 with
     | true=>exact .inl rfl
     | false =>
       have:=Nat.ne_of_beq_eq_false h
       rcases qho (Nat.mod m n) k with e | ⟨e,_⟩
       ·exact .inl e
       ·exact .inr ⟨e,by intro h;exact this (Int.ofNat.inj h)⟩
   | negSucc n =>
     rcases qja ((Int.ofNat m).tmod (Int.negSucc n)) k with e | ⟨e,_⟩
     ·exact .inl e
     ·exact .inr ⟨e,by intro h;cases h⟩
 | negSucc m =>
   show (Bool.rec (anyK ((Int.negSucc m).tmod y) k) RC.no (eqZ y 0):RC)=RC.no∨((Bool.rec (anyK ((Int.negSucc m).tmod y) k) RC.no (eqZ y 0):RC)=_∧_)
   cases h:eqZ y 0 with
   | true=>exact .inl rfl
   | false =>
     rw [eqZ_eq] at h
     rcases qja ((Int.negSucc m).tmod y) k with e | ⟨e,_⟩
     ·exact .inl e
     ·exact .inr ⟨e,by simpa using h⟩
theorem qqm (a b:Int):beqZ a b=(a == b):=by
 rw [← eqZ_eq];cases a<;>cases b<;>rfl
theorem qhp (a b:Int):bltZ a b=decide (a < b):=by
 rw [← ltZ_eq];cases a<;>cases b<;>rfl
end Go.Abs
namespace Go.Abs
abbrev CallFF:=Value→List Value→FH→RC
structure Ctx where
 call:CallFF
 n:Nat
 rd:Option Nat
abbrev Env:=List Value
abbrev OpK:=Ctx→Env→FT→FH→(Value→FH→RC)→RC
inductive Lc where
 | env (i:Nat)
 | slot (s:Nat)
 | cst (v:Value)
 | bad
abbrev Mpl:=List (Nat×Lc)
def lk:Mpl→Nat→Option Lc
 | [],_=>none
 | (t,l)::m,i=>if t=i then some l else lk m i
noncomputable def egB (i:Nat):Box (Env→(Value→RC)→RC) :=
 Nat.rec (motive:=fun _=>Box (Env→(Value→RC)→RC)) ⟨fun E k=>List.rec RC.no (fun x _ _=>k x) E⟩ (fun _ ih=>⟨fun E k=>List.rec RC.no (fun _ xs _=>ih.run xs k) E⟩) i
noncomputable def lcB (n:Nat) (l:Lc):Box (Env→FT→(Value→RC)→RC):=match l with
 | .env i=>⟨fun E _ k=>(egB (n - 1 - i)).run E k⟩
 | .slot s=>⟨fun _ T k=>(g2B s).run T k⟩
 | .cst v=>⟨fun _ _ k=>k v⟩
 | .bad=>⟨fun _ _ _=>RC.no⟩
noncomputable def opB (L:Nat) (mp:Mpl) (n:Nat) (x:Operand):Box (Env→FT→(Value→RC)→RC):=match x with
 | .tmp t=>match lk mp t with
   | some l=>lcB n l
   | none=>bif L.testBit t || !Nat.ble (t+1) 262144 then ⟨fun _ _ _=>RC.no⟩ else ⟨fun _ T k=>(g2B t).run T k⟩
 | .const v=>fV v fun v=>⟨fun _ _ k=>k v⟩
 | .func f=>⟨fun _ _ k=>k (.func (.func f) #[] #[])⟩
 | .global _=>⟨fun _ _ _=>RC.no⟩
noncomputable def opsB (L:Nat) (mp:Mpl) (n:Nat) (l:List Operand):Box (Env→FT→(List Value→RC)→RC) :=
 List.rec (motive:=fun _=>Box (Env→FT→(List Value→RC)→RC)) ⟨fun _ _ k=>k []⟩ (fun x _ ih=>⟨fun E T k=>(opB L mp n x).run E T fun v=>ih.run E T fun vs=>k (v::vs)⟩) l
noncomputable def cmpK (b:Bool) (k:Value→RC):RC:=Bool.rec (k (.bool false)) (k (.bool true)) b
def nofr:Fr:=fun _=>undef
def opr (op:Op):Oper:=⟨none,op,0, "",#[],none⟩
noncomputable def slowK (P:Program) (op:Op) (H:FH) (k:Value→RC):RC:=match aexec P nofr (opr op) (absH H) with
 | some (v,_)=>fV v k
 | none=>RC.no
noncomputable def arB (op:BinOp):Option (Box (Int→Int→(Value→RC)→RC)):=match op with
 | .add=>some ⟨fun x y k=>addZ x y fun z=>k (.int .i64 z)⟩
 | .sub=>some ⟨fun x y k=>subZ x y fun z=>k (.int .i64 z)⟩
 | .mul=>some ⟨fun x y k=>mulZ x y fun z=>k (.int .i64 z)⟩
 | .quo=>some ⟨fun x y k=>quoZ x y fun z=>k (.int .i64 z)⟩
 | .rem=>some ⟨fun x y k=>remZ x y fun z=>k (.int .i64 z)⟩
 | .eql=>some ⟨fun x y k=>cmpK (beqZ x y) k⟩
 | .neq=>some ⟨fun x y k=>cmpK (Bool.not (beqZ x y)) k⟩
 | .lss=>some ⟨fun x y k=>cmpK (bltZ x y) k⟩
 | .gtr=>some ⟨fun x y k=>cmpK (bltZ y x) k⟩
 | .leq=>some ⟨fun x y k=>cmpK (Bool.not (bltZ y x)) k⟩
 | .geq=>some ⟨fun x y k=>cmpK (Bool.not (bltZ x y)) k⟩
 | _=>none
def isI64 (P:Program) (t:TypeId):Bool:=match P.underlying t with
 | some (.int .i64)=>true
 | _=>false
noncomputable def binB (P:Program) (op:BinOp) (t t':TypeId):Box (Value→Value→FH→(Value→RC)→RC):=match arB op with
 | some f=>bif isI64 P t then ⟨fun a b _ k=>intK a fun x=>intK b fun y=>f.run x y k⟩ else ⟨fun a b H k=>slowK P (.binOp op t (.const a) (.const b) t') H k⟩
 | none=>⟨fun a b H k=>slowK P (.binOp op t (.const a) (.const b) t') H k⟩
noncomputable def loadB (P:Program) (t:TypeId):Box (Value→FH→(Value→RC)→RC):=match isAggT P t with
 | some false=>⟨fun p H k=>ptrK p fun b o=>cellsK H b fun _ _ n t=>bif Nat.ble (Nat.add o 1) n then (g2B o).run t k else RC.no⟩
 | some true=>match sizeT P t with
   | some m=>fN m fun m=>⟨fun p H k=>ptrK p fun b o=>cellsK H b fun _ _ n t=>bif Nat.ble (Nat.add o m) n then rowK t o m fun l=>k (.agg ⟨l⟩) else RC.no⟩
   | none=>⟨fun _ _ _=>RC.no⟩
 | none=>⟨fun _ _ _=>RC.no⟩
noncomputable def storeB (P:Program) (t:TypeId):Box (Value→Value→FH→(FH→RC)→RC):=match sizeT P t with
 | some m=>fN m fun m=>⟨fun p v H k=>ptrK p fun b o=>scalK v fun cs=>bif Nat.beq cs.length m then writeK H b o m cs k else RC.no⟩
 | none=>⟨fun _ _ _ _=>RC.no⟩
noncomputable def readK (H:FH) (size:Nat) (v:Value) (k:List Value→Nat→RC):RC :=
 sliceK v fun a n c=>addrK (bif Nat.beq n 0 && Nat.beq c 0 then k [] 0 else RC.no) (bif Nat.beq n 0 then k [] 0 else RC.no) a fun b o=>cellsK H b fun _ _ m t=>fN (Nat.mul n size) fun q=>bif Nat.ble (Nat.add o q) m then rowK t o q fun l=>k l n else RC.no
noncomputable def appB (P:Program) (t:TypeId):Box (Value→Value→FH→(Value→FH→RC)→RC):=match sliceElem P t with
 | some (el,size)=>bif decide ((bytesT P el).isSome∧(bytesT P el).getD 0≤maxA∧(zeros P el size 1).isSome) && Nat.ble 1 size then
    fN size fun size=>⟨fun s x H k=>readK H size x fun news m=>sliceK s fun a n sz=>bif Nat.beq m 0 then k s H else
     addrK (bif Nat.beq n 0 && Nat.beq sz 0 then fN (Nat.mul m size) fun q=>newK H news q fun i H'=>k (.slice (some ⟨i,0,none⟩) m size) H' else RC.no) RC.no a fun b o =>
      bif Nat.beq o 0 && Nat.beq sz size then fN (Nat.mul n size) fun n0=>fN (Nat.add n m) fun nm=>fN (Nat.mul nm size) fun n1=>growK H b n0 n1 news fun i H'=>k (.slice (some ⟨i,0,none⟩) nm size) H' else RC.no⟩
   else ⟨fun _ _ _ _=>RC.no⟩
 | none=>⟨fun _ _ _ _=>RC.no⟩
noncomputable def indexB (P:Program) (t:TypeId):Box (Value→Value→(Value→RC)→RC):=match sliceElem P t with
 | some (_,size)=>fN size fun size=>⟨fun x i k=>sliceK x fun a n _=>addrK RC.no RC.no a fun b o=>intK i fun z=>Int.rec (fun j=>bif Nat.ble (Nat.add j 1) n then fN (Nat.add o (Nat.mul j size)) fun o=>k (.pointer (some ⟨b,o,none⟩)) else RC.no) (fun _=>RC.no) z⟩
 | none=>match P.underlying t with
   | some (.array len elem)=>match sizeT P elem with
     | some s=>fN len fun len=>fN s fun s=>⟨fun x i k=>ptrK x fun b o=>intK i fun z=>Int.rec (fun j=>bif Nat.ble (Nat.add j 1) len then fN (Nat.add o (Nat.mul j s)) fun o=>k (.pointer (some ⟨b,o,none⟩)) else RC.no) (fun _=>RC.no) z⟩
     | none=>⟨fun _ _ _=>RC.no⟩
   | _=>⟨fun _ _ _=>RC.no⟩
noncomputable def fieldAddrB (P:Program) (t:TypeId) (i:Nat):Box (Value→(Value→RC)→RC):=match P.underlying t with
 | some (.struct fields)=>match fields[i]? with
   | some f=>match sizeT P f.type with
     | some (_+1)=>fN f.offset fun off=>⟨fun p k=>ptrK p fun b o=>fN (Nat.add o off) fun o=>k (.pointer (some ⟨b,o,none⟩))⟩
     | _=>⟨fun _ _=>RC.no⟩
   | none=>⟨fun _ _=>RC.no⟩
 | _=>⟨fun _ _=>RC.no⟩
noncomputable def takeK (n:Nat) (l:List Value) (k:List Value→RC):RC :=
 Nat.rec (motive:=fun _=>List Value→(List Value→RC)→RC) (fun _ k=>k []) (fun _ ih l k=>List.rec (k []) (fun x xs _=>ih xs fun r=>k (x::r)) l) n l k
noncomputable def dropK (n:Nat) (l:List Value) (k:List Value→RC):RC :=
 Nat.rec (motive:=fun _=>List Value→(List Value→RC)→RC) (fun l k=>k l) (fun _ ih l k=>List.rec (k []) (fun _ xs _=>ih xs k) l) n l k
noncomputable def fieldB (P:Program) (t:TypeId) (i:Nat):Box (Value→(Value→RC)→RC):=match P.underlying t with
 | some (.struct fields)=>match fields[i]? with
   | some f=>match isAggT P f.type with
     | some false=>fN f.offset fun off=>⟨fun v k=>aggK v fun l=>(egB off).run l k⟩
     | some true=>match sizeT P f.type with
       | some n=>fN f.offset fun off=>fN n fun n=>⟨fun v k=>aggK v fun l=>dropK off l fun l=>takeK n l fun l=>k (.agg ⟨l⟩)⟩
       | none=>⟨fun _ _=>RC.no⟩
     | none=>⟨fun _ _=>RC.no⟩
   | none=>⟨fun _ _=>RC.no⟩
 | _=>⟨fun _ _=>RC.no⟩
noncomputable def setL1 (l:List Value) (o:Nat) (v:Value) (k:List Value→RC):RC :=
 Nat.rec (motive:=fun _=>List Value→(List Value→RC)→RC) (fun l k=>List.rec (k []) (fun _ xs _=>k (v::xs)) l) (fun _ ih l k=>List.rec (k []) (fun x xs _=>ih xs fun r=>k (x::r)) l) o l k
noncomputable def setLK (l:List Value) (o:Nat) (vs:List Value) (k:List Value→RC):RC :=
 List.rec (motive:=fun _=>List Value→Nat→RC) (fun l _=>k l) (fun v _ ih l o=>setL1 l o v fun l=>fN (Nat.add o 1) fun o=>ih l o) vs l o
noncomputable def fillB (place:Nat→Option (Nat×Nat)) (total:Nat) (is:List Nat):Box (List Value→List Value→(List Value→RC)→RC) :=
 List.rec (motive:=fun _=>Box (List Value→List Value→(List Value→RC)→RC)) ⟨fun cs _ k=>k cs⟩
  (fun i _ ih=>match place i with
   | some (off,size)=>fN off fun off=>fN size fun size=>bif Nat.ble (Nat.add off size) total then
      ⟨fun cs vs k=>List.rec RC.no (fun v vs _=>scalK v fun vc=>bif Nat.beq vc.length size then setLK cs off vc fun cs=>ih.run cs vs k else RC.no) vs⟩
     else ⟨fun _ _ _=>RC.no⟩
   | none=>⟨fun _ _ _=>RC.no⟩) is
noncomputable def buildB (P:Program) (t:TypeId) (is:List Nat):Box (List Value→(Value→RC)→RC):=match zeroT P t,P.underlying t with
 | some z,some (.struct fields)=>match sizesOf P fields.toList with
   | some places=>fSs z.cells.toList fun zs=>fN zs.length fun m=>⟨fun vs k=>(fillB (places[·]?) m is).run zs vs fun cs=>k (.agg ⟨cs⟩)⟩
   | none=>⟨fun _ _=>RC.no⟩
 | some z,some (.array _ elem)=>match sizeT P elem with
   | some size=>fSs z.cells.toList fun zs=>fN zs.length fun m=>⟨fun vs k=>(fillB (fun i=>some (i*size,size)) m is).run zs vs fun cs=>k (.agg ⟨cs⟩)⟩
   | none=>⟨fun _ _=>RC.no⟩
 | _,_=>⟨fun _ _=>RC.no⟩
noncomputable def buildSliceB (P:Program) (t:TypeId) (len:Nat) (is:List Nat):Box (List Value→FH→(Value→FH→RC)→RC):=match sliceElem P t with
 | some (e,size)=>bif Nat.ble 1 size && Nat.ble (len*size) 262144 then
    match zeros P e size len with
    | some z=>fSs z fun zs=>fN zs.length fun m=>fN len fun len=>fN size fun size=>⟨fun vs H k=>(fillB (fun i=>some (i*size,size)) m is).run zs vs fun cs=>newK H cs m fun i H'=>k (.slice (some ⟨i,0,none⟩) len size) H'⟩
    | none=>⟨fun _ _ _=>RC.no⟩
   else ⟨fun _ _ _=>RC.no⟩
 | none=>⟨fun _ _ _=>RC.no⟩
noncomputable def replK (z:List Value) (n:Nat) (k:List Value→RC):RC :=
 Nat.rec (motive:=fun _=>(List Value→RC)→RC) (fun k=>k []) (fun _ ih k=>ih fun r=>List.rec (motive:=fun _=>(List Value→RC)→RC) (fun k=>k r) (fun x _ ih k=>ih fun l=>k (x::l)) z k) n k
noncomputable def makeSliceB (P:Program) (t:TypeId):Box (Value→Value→FH→(Value→FH→RC)→RC):=match sliceElem P t with
 | some (e,size)=>match bytesT P e,zeroT P e with
   | some bytes,some z=>bif Nat.ble 1 size && (Nat.ble bytes 1048576 && Nat.beq z.cells.toList.length size) then
      fSs z.cells.toList fun zs=>fN size fun size=>⟨fun l c H k=>intK l fun n=>intK c fun m=>bif !bltZ n 0 && (!bltZ m n && !bltZ 1048576 m) then
       Int.rec (fun n=>replK zs n fun cs=>fN (Nat.mul n size) fun q=>newK H cs q fun i H'=>k (.slice (some ⟨i,0,none⟩) n size) H') (fun _=>RC.no) n else RC.no⟩
     else ⟨fun _ _ _ _=>RC.no⟩
   | _,_=>⟨fun _ _ _ _=>RC.no⟩
 | none=>⟨fun _ _ _ _=>RC.no⟩
noncomputable def appIntB (P:Program) (t t':TypeId):Box (Value→Value→FH→(Value→FH→RC)→RC):=match sliceElem P t,P.underlying t' with
 | some (e,size),some (.int _)=>match zeroT P e with
   | some z=>bif Nat.ble 1 size && ((bytesT P e).isSome && (Nat.ble ((bytesT P e).getD 0) maxA && Nat.beq z.cells.toList.length size)) then
      fSs z.cells.toList fun zs=>fN size fun size=>⟨fun s x H k=>sliceK s fun a n c=>addrK (bif Nat.beq n 0 && Nat.beq c 0 then intK x fun m=>Int.rec (fun m=>fN (Nat.mul m size) fun q=>bif Nat.ble 1 m && Nat.ble q 262144 then
       replK zs m fun cs=>newK H cs q fun i H'=>k (.slice (some ⟨i,0,none⟩) m size) H' else RC.no) (fun _=>RC.no) m else RC.no) RC.no a fun _ _=>RC.no⟩
     else ⟨fun _ _ _ _=>RC.no⟩
   | none=>⟨fun _ _ _ _=>RC.no⟩
 | _,_=>⟨fun _ _ _ _=>RC.no⟩
noncomputable def codeBsK (l:List UInt8) (a:Nat) (k:Nat→RC):RC :=
 List.rec (motive:=fun _=>Nat→RC) (fun a=>k a) (fun b _ ih a=>fN (Nat.add (Nat.mul a 256) b.toNat) ih) l a
noncomputable def codeK (kk:Nat) (v:Value) (k:Nat→RC):RC:=match v with
 | .string s=>bif Nat.beq kk 1 then codeBsK s.data.toList 1 fun n=>fN n k else RC.no
 | .bool b=>bif Nat.beq kk 2 then Bool.rec (k 0) (k 1) b else RC.no
 | .int ik z=>bif Nat.beq kk (ikNo ik) then Int.rec (fun n=>fN (Nat.mul 2 n) k) (fun n=>fN (Nat.add (Nat.mul 2 n) 1) k) z else RC.no
 | _=>RC.no
noncomputable def mfindK (c:Nat) (t:MT) (h:Nat) (kn:RC) (ks:Value→RC):RC :=
 MT.rec (motive:=fun _=>Nat→RC) (fun _=>kn) (fun c' v _ _ ihl ihr h=>bif Nat.beq c c' then ks v else bif Nat.beq (Nat.mod h 2) 0 then ihl (Nat.div h 2) else ihr (Nat.div h 2)) t h
noncomputable def minsK (c:Nat) (v:Value) (t:MT) (h:Nat) (k:MT→RC):RC :=
 MT.rec (motive:=fun _=>Nat→(MT→RC)→RC) (fun _ k=>k (.n c v .e .e))
  (fun c' v' l r ihl ihr h k=>bif Nat.beq c c' then k (.n c v l r) else bif Nat.beq (Nat.mod h 2) 0 then ihl (Nat.div h 2) fun l=>k (.n c' v' l r) else ihr (Nat.div h 2) fun r=>k (.n c' v' l r)) t h k
noncomputable def mapsK (H:FH) (b:Nat) (k:Nat→List (Value×Value)→MT→Nat→List Nat→RC):RC:=ndK H b fun d=>Nd.rec (fun x mx ms=>FB.rec RC.no (fun _ _ _ _=>RC.no) (fun kk es mt=>k kk es mt mx ms) (fun _ _ _ _ _ _ _=>RC.no) x) d
noncomputable def lookupB (P:Program) (t:TypeId) (ok:Bool):Box (Value→Value→FH→(Value→RC)→RC):=match P.underlying t with
 | some (.map kt et)=>match P.underlying kt,zeroT P et with
   | some kd,some z=>fN (kdTag kd) fun kk=>fV z fun z=>bif ok then
      ⟨fun x key H k=>mapK x fun r=>mapsK H r fun kk' _ mt _ _=>bif Nat.beq kk kk' then codeK kk key fun c=>mfindK c mt (mix c) (k (.tuple ⟨[z,.bool false]⟩)) (fun v=>k (.tuple ⟨[v,.bool true]⟩)) else RC.no⟩
     else ⟨fun x key H k=>mapK x fun r=>mapsK H r fun kk' _ mt _ _=>bif Nat.beq kk kk' then codeK kk key fun c=>mfindK c mt (mix c) (k z) k else RC.no⟩
   | _,_=>⟨fun _ _ _ _=>RC.no⟩
 | _=>⟨fun _ _ _ _=>RC.no⟩
noncomputable def updateB (P:Program) (t:TypeId):Box (Value→Value→Value→FH→(FH→RC)→RC):=match P.underlying t with
 | some (.map kt _)=>match P.underlying kt with
   | some kd=>fN (kdTag kd) fun kk=>⟨fun x key v H k=>mapK x fun r=>scalK v fun _=>mapsK H r fun kk' es mt mx ms=>bif Nat.beq kk kk' then codeK kk key fun c=>minsK c v mt (mix c) fun mt=>setNdK H r ⟨.map kk' (setA key v es) mt,mx,ms⟩ k else RC.no⟩
   | none=>⟨fun _ _ _ _ _=>RC.no⟩
 | _=>⟨fun _ _ _ _ _=>RC.no⟩
noncomputable def makeMapB (P:Program) (t:TypeId) (r:Option Operand):Box (FH→(Value→FH→RC)→RC):=match P.underlying t with
 | some (.map kt _)=>match P.underlying kt with
   | some kd=>bif r.all constInt && !Nat.beq (kdTag kd) 0 then fN (kdTag kd) fun kk=>⟨fun H k=>pushK H (fun _=>⟨.map kk [] .e,0,[]⟩) fun i H'=>k (.map (some i)) H'⟩ else ⟨fun _ _=>RC.no⟩
   | none=>⟨fun _ _=>RC.no⟩
 | _=>⟨fun _ _=>RC.no⟩
noncomputable def bytesK (l:List Value) (s:ByteArray) (k:Value→RC):RC :=
 List.rec (motive:=fun _=>ByteArray→RC) (fun s=>fV (.string s) k) (fun v _ ih s=>u8K v fun z=>Int.rec (fun n=>ih (s.push (UInt8.ofNat n))) (fun _=>RC.no) z) l s
noncomputable def convB (P:Program) (s d:TypeId):Box (Value→FH→(Value→RC)→RC):=match P.underlying s,P.underlying d with
 | some (.slice e),some .string=>match P.underlying e with
   | some (.int .u8)=>⟨fun x H k=>readK H 1 x fun l _=>bytesK l .empty k⟩
   | _=>⟨fun _ _ _=>RC.no⟩
 | _,_=>⟨fun x H k=>slowK P (.convert s d (.const x)) H k⟩
noncomputable def sliceB (P:Program) (t:TypeId) (lo hi:Bool):Box (Value→Value→Value→(Value→RC)→RC) :=
 ⟨fun x l h k=>match sliceExprA P t x (bif lo then some l else none) (bif hi then some h else none) with
  | some v=>fV v k
  | none=>RC.no⟩
noncomputable def copyB (P:Program) (t:TypeId):Box (Value→Value→FH→(Value→FH→RC)→RC):=match sliceElem P t with
 | some (_,size)=>fN size fun size=>⟨fun x y H k=>sliceK x fun ad dn _=>sliceK y fun _ sn _=>fN (bif Nat.ble sn dn then sn else dn) fun m=>bif Nat.beq m 0 then k (.int .i64 (.ofNat 0)) H else
  addrK RC.no RC.no ad fun b o=>readK H size y fun cs _=>fN (Nat.mul m size) fun q=>takeK q cs fun cs=>writeK H b o q cs fun H'=>k (.int .i64 (.ofNat m)) H'⟩
 | none=>⟨fun _ _ _ _=>RC.no⟩
noncomputable def lenB (P:Program) (t:TypeId):Box (Value→(Value→RC)→RC):=match P.underlying t with
 | some (.slice _)=>⟨fun x k=>sliceK x fun _ n _=>k (.int .i64 (.ofNat n))⟩
 | _=>⟨fun x k=>match lenA P t x with
   | some v=>fV v k
   | none=>RC.no⟩
noncomputable def builtB (P:Program) (b:Builtin) (ts:List TypeId):Box (List Value→FH→(Value→FH→RC)→RC):=match b,ts with
 | .len,[t]=>⟨fun vs H k=>List.rec RC.no (fun x r _=>List.rec ((lenB P t).run x fun v=>k v H) (fun _ _ _=>RC.no) r) vs⟩
 | .append,[t,t']=>bif Nat.beq t t' then ⟨fun vs H k=>List.rec RC.no (fun x r _=>List.rec RC.no (fun y r _=>List.rec ((appB P t).run x y H k) (fun _ _ _=>RC.no) r) r) vs⟩
   else ⟨fun vs H k=>List.rec RC.no (fun x r _=>List.rec RC.no (fun y r _=>List.rec ((appIntB P t t').run x y H k) (fun _ _ _=>RC.no) r) r) vs⟩
 | .copy,[t,_]=>⟨fun vs H k=>List.rec RC.no (fun x r _=>List.rec RC.no (fun y r _=>List.rec ((copyB P t).run x y H k) (fun _ _ _=>RC.no) r) r) vs⟩
 | .cap,[t]=>⟨fun vs H k=>match vs with
   | [.slice none 0 0]=>match sliceElem P t with
     | some _=>k (.int .i64 (.ofNat 0)) H
     | none=>RC.no
   | _=>RC.no⟩
 | .min,[_,_]=>⟨fun vs H k=>List.rec RC.no (fun x r _=>List.rec RC.no (fun y r _=>List.rec (intK x fun a=>intK y fun b=>bif bltZ b a then k y H else k x H) (fun _ _ _=>RC.no) r) r) vs⟩
 | .max,[_,_]=>⟨fun vs H k=>List.rec RC.no (fun x r _=>List.rec RC.no (fun y r _=>List.rec (intK x fun a=>intK y fun b=>bif bltZ a b then k y H else k x H) (fun _ _ _=>RC.no) r) r) vs⟩
 | _,_=>⟨fun _ _ _=>RC.no⟩
noncomputable def ptrsK (l:List Value) (k:RC):RC:=List.rec k (fun v _ ih=>ptrK v fun _ _=>ih) l
noncomputable def cOp (P:Program) (L:Nat) (mp:Mpl) (n:Nat) (op:Op):Box OpK:=match op with
 | .call { callee:=.value f,args,.. }=>⟨fun c E T H k=>(opB L mp n f).run E T fun fv=>(opsB L mp n args.toList).run E T fun vs=>RC.rec (fun _ _=>RC.no) (fun _ _ _=>RC.no) (fun _ _=>RC.no) (fun v H'=>k v H') RC.no RC.no (c.call fv vs H)⟩
 | .move x=>⟨fun _ E T H k=>(opB L mp n x).run E T fun v=>k v H⟩
 | .assign x=>⟨fun _ E T H k=>(opB L mp n x).run E T fun v=>k v H⟩
 | .pick c x y=>⟨fun _ E T H k=>(opB L mp n c).run E T fun v=>boolK v fun b=>Bool.rec ((opB L mp n y).run E T fun v=>k v H) ((opB L mp n x).run E T fun v=>k v H) b⟩
 | .binOp op t x y t'=>⟨fun _ E T H k=>(opB L mp n x).run E T fun a=>(opB L mp n y).run E T fun b=>(binB P op t t').run a b H fun v=>k v H⟩
 | .unOp op t x=>⟨fun _ E T H k=>(opB L mp n x).run E T fun a=>slowK P (.unOp op t (.const a)) H fun v=>k v H⟩
 | .index t x i=>⟨fun _ E T H k=>(opB L mp n x).run E T fun a=>(opB L mp n i).run E T fun b=>slowK P (.index t (.const a) (.const b)) H fun v=>k v H⟩
 | .convert s d x=>⟨fun _ E T H k=>(opB L mp n x).run E T fun a=>(convB P s d).run a H fun v=>k v H⟩
 | .load t x=>⟨fun _ E T H k=>(opB L mp n x).run E T fun p=>(loadB P t).run p H fun v=>k v H⟩
 | .store t x y=>⟨fun _ E T H k=>(opB L mp n x).run E T fun p=>(opB L mp n y).run E T fun v=>(storeB P t).run p v H fun H'=>k undef H'⟩
 | .indexAddr t x i=>⟨fun _ E T H k=>(opB L mp n x).run E T fun x=>(opB L mp n i).run E T fun i=>(indexB P t).run x i fun v=>k v H⟩
 | .fieldAddr t x i=>⟨fun _ E T H k=>(opB L mp n x).run E T fun p=>(fieldAddrB P t i).run p fun v=>k v H⟩
 | .field t x i=>⟨fun _ E T H k=>(opB L mp n x).run E T fun p=>(fieldB P t i).run p fun v=>k v H⟩
 | .extract x i=>fN i fun i=>⟨fun _ E T H k=>(opB L mp n x).run E T fun v=>tupK v fun l=>(egB i).run l fun v=>k v H⟩
 | .nilCheck x=>⟨fun _ E T H k=>(opB L mp n x).run E T fun v=>ptrK v fun _ _=>k v H⟩
 | .alloc t=>match zeroT P t with
   | some z=>match scal z with
     | some cs=>bif bldZ cs then ⟨fun _ _ _ _ _=>RC.no⟩ else fSs cs fun cs=>fN cs.length fun m=>⟨fun _ _ _ H k=>newK H cs m fun i H'=>k (.pointer (some ⟨i,0,none⟩)) H'⟩
     | none=>⟨fun _ _ _ _ _=>RC.no⟩
   | none=>⟨fun _ _ _ _ _=>RC.no⟩
 | .box _ x=>⟨fun _ E T H k=>(opB L mp n x).run E T fun v=>scalK v fun cs=>fN cs.length fun m=>newK H cs m fun i H'=>k (.pointer (some ⟨i,0,none⟩)) H'⟩
 | .build t parts=>⟨fun _ E T H k=>(opsB L mp n (parts.toList.map (·.2))).run E T fun vs=>(buildB P t (parts.toList.map (·.1))).run vs fun v=>k v H⟩
 | .buildSlice t len parts=>⟨fun _ E T H k=>(opsB L mp n (parts.toList.map (·.2))).run E T fun vs=>(buildSliceB P t len (parts.toList.map (·.1))).run vs H k⟩
 | .makeFunc (.func f) first captured=>bif first.isEmpty then ⟨fun _ E T H k=>(opsB L mp n captured.toList).run E T fun vs=>ptrsK vs (k (.func (.func f) #[] ⟨vs⟩) H)⟩ else ⟨fun _ _ _ _ _=>RC.no⟩
 | .makeMap t r=>⟨fun _ _ _ H k=>(makeMapB P t r).run H k⟩
 | .makeSlice t l c=>⟨fun _ E T H k=>(opB L mp n l).run E T fun l=>(opB L mp n c).run E T fun c=>(makeSliceB P t).run l c H k⟩
 | .slice t x lo hi mx=>bif mx.isSome then ⟨fun _ _ _ _ _=>RC.no⟩ else ⟨fun _ E T H k=>(opB L mp n x).run E T fun x=>(opB L mp n (lo.getD (.const undef))).run E T fun l=>(opB L mp n (hi.getD (.const undef))).run E T fun h=>(sliceB P t lo.isSome hi.isSome).run x l h fun v=>k v H⟩
 | .lookup t x i ok=>⟨fun _ E T H k=>(opB L mp n x).run E T fun x=>(opB L mp n i).run E T fun i=>(lookupB P t ok).run x i H fun v=>k v H⟩
 | .mapUpdate t x i y=>⟨fun _ E T H k=>(opB L mp n x).run E T fun x=>(opB L mp n i).run E T fun i=>(opB L mp n y).run E T fun v=>(updateB P t).run x i v H fun H'=>k undef H'⟩
 | .call { callee:=.builtin b,args,argTypes }=>⟨fun _ E T H k=>(opsB L mp n args.toList).run E T fun vs=>(builtB P b argTypes.toList).run vs H k⟩
 | _=>⟨fun _ _ _ _ _=>RC.no⟩
def unslot (d:Nat) (mp:Mpl):Mpl:=mp.map fun p=>match p.2 with
 | .slot s=>bif Nat.beq s d then (p.1,.bad) else p
 | _=>p
noncomputable def putB (d:Nat):Box (FT→Value→(FT→RC)→RC):=bif Nat.ble (d+1) 262144 then s2B d else ⟨fun _ _ _=>RC.no⟩
def srcOf (L:Nat) (mp:Mpl) (x:Operand):Option Lc:=match x with
 | .tmp t=>match lk mp t with
   | some l=>some l
   | none=>bif L.testBit t || !Nat.ble (t+1) 262144 then none else some (.slot t)
 | .const v=>some (.cst v)
 | .func f=>some (.cst (.func (.func f) #[] #[]))
 | .global _=>none
noncomputable def nextB (L:Nat) (mp:Mpl) (n:Nat) (dst:Option Nat) (rest:Mpl→Nat→Box (Ctx→Env→FT→FH→RC)):Box (Ctx→Env→FT→FH→Value→RC):=match dst with
 | none=>⟨fun c E T H _=>(rest mp n).run c E T H⟩
 | some d=>bif L.testBit d then ⟨fun c E T H v=>(rest ((d,.env n)::mp) (n+1)).run c (v::E) T H⟩
   else ⟨fun c E T H v=>(putB d).run T v fun T'=>(rest ((d,.env n)::unslot d mp) (n+1)).run c (v::E) T' H⟩
noncomputable def truthK:Value→RC→RC→RC→RC:=Value.rec (motive_1:=fun _=>RC→RC→RC→RC) (motive_2:=fun _=>RC→RC→RC→RC) (motive_3:=fun _=>RC→RC→RC→RC) (fun b y z _=>Bool.rec z y b) (fun _ _ _ _ o=>o) (fun _ _ _ _ o=>o) (fun _ _ _ _ _ o=>o) (fun _ _ _ o=>o) (fun _ _ _ o=>o) (fun _ _ _ _ _ o=>o) (fun _ _ _ o=>o) (fun _ _ _ o=>o) (fun _ _ _ _ _ _ _ o=>o) (fun  _ _ o=>o) (fun _ _ _ _ _ o=>o) (fun  _ _ o=>o) (fun _ _ _ _ o=>o) (fun _ _ _ _ o=>o) (fun _ _ _ _ o=>o) (fun _ _ o=>o) (fun _ _ _ _ _ _ o=>o)
noncomputable def guardB (L:Nat) (mp:Mpl) (n:Nat) (ops:Array Oper) (j:Nat) (want:Bool):Box (Env→FT→RC→RC→RC):=match (ops[j]?).bind (·.dst) with
 | some t=>bif want then ⟨fun E T y z=>(opB L mp n (.tmp t)).run E T fun v=>truthK v y z z⟩ else ⟨fun E T y z=>(opB L mp n (.tmp t)).run E T fun v=>truthK v z y z⟩
 | none=>⟨fun _ _ _ z=>z⟩
def moveOf (o:Oper):Option (Nat×Operand):=match o.op,o.guard,o.dst with
 | .move x,none,some d=>some (d,x)
 | _,_,_=>none
def mayAlias (L:Nat) (d:Nat) (l:Lc) (rest:List Oper):Bool:=L.testBit d && match l with
 | .slot s=>rest.all fun o=>match o.dst with
   | some e=>!Nat.beq e s
   | none=>true
 | _=>true
noncomputable def stepB (P:Program) (L:Nat) (ops:Array Oper) (mp:Mpl) (n:Nat) (o:Oper) (rest:Mpl→Nat→Box (Ctx→Env→FT→FH→RC)):Box (Ctx→Env→FT→FH→RC):=match o.guard with
 | none=>⟨fun c E T H=>(cOp P L mp n o.op).run c E T H fun v H'=>(nextB L mp n o.dst rest).run c E T H' v⟩
 | some (j,want)=>⟨fun c E T H=>(guardB L mp n ops j want).run E T ((cOp P L mp n o.op).run c E T H fun v H'=>(nextB L mp n o.dst rest).run c E T H' v) ((nextB L mp n o.dst rest).run c E T H undef)⟩
noncomputable def regB (P:Program) (L:Nat) (ops:Array Oper) (l:List Oper):Mpl→Nat→Box (Ctx→Env→FT→FH→RC) :=
 List.rec (motive:=fun _=>Mpl→Nat→Box (Ctx→Env→FT→FH→RC)) (fun _ _=>⟨fun _ _ T H=>.nx T H⟩)
  (fun o os ih mp n=>match moveOf o with
   | some (d,x)=>match srcOf L mp x with
     | some l=>bif mayAlias L d l os then ih ((d,l)::mp) n else stepB P L ops mp n o ih
     | none=>⟨fun _ _ _ _=>RC.no⟩
   | none=>stepB P L ops mp n o ih) l
end Go.Abs
namespace Go.Abs
def lval (l:Lc) (E:Env) (T:FT):Value:=match l with
 | .env i=>(E[E.length - 1 - i]?).getD undef
 | .slot s=>den T s
 | .cst v=>v
 | .bad=>undef
def lok (l:Lc) (n:Nat):Prop:=match l with
 | .env i=>i < n
 | .slot s=>s < 262144
 | .cst _=>True
 | .bad=>True
structure FInv (L:Nat) (mp:Mpl) (n:Nat) (E:Env) (T:FT) (a:Fr):Prop where
 len:E.length=n
 mp:∀ t l,lk mp t=some l→l = .bad∨(lok l n∧a t=lval l E T)
 fr:∀ t,L.testBit t=false→a t=den T t
theorem egB_or:∀ (i:Nat) (E:Env) (k:Value→RC),(egB i).run E k=RC.no∨∃ v,E[i]?=some v∧(egB i).run E k=k v:=by
 intro i
 induction i with
 | zero=>intro E k;cases E with | nil=>exact .inl rfl | cons x xs=>exact .inr ⟨x,rfl,rfl⟩
 | succ i ih =>
   intro E k
   cases E with
   | nil=>exact .inl rfl
   | cons x xs =>
     have e:(egB (i+1)).run (x::xs) k=(egB i).run xs k:=rfl
     rw [e]
     simpa using ih xs k
theorem den_lt {T:FT} {s:Nat} (h:s < 262144):T2.get T s=den T s:=by unfold den;rw [if_pos h]
theorem ble_lt {i n:Nat}:Nat.ble (i+1) n=decide (i < n):=qr9
section
variable {L:Nat} {mp:Mpl} {n:Nat} {E:Env} {T:FT} {a:Fr}
theorem qcy (hi:FInv L mp n E T a) (x:Operand) (k:Value→RC):(opB L mp n x).run E T k=RC.no∨(opB L mp n x).run E T k=k (ev a x):=by
 unfold opB
 cases x with
 | tmp t =>
   simp only
   split
   ·rename_i l hl
    rcases hi.mp t l hl with rfl | ⟨h1,h2⟩
    ·exact .inl rfl
    unfold lcB
    cases l with
    | env i =>
      simp only
      rcases egB_or (n - 1 - i) E k with h | ⟨v,hv,h⟩
      ·exact .inl h
      ·right;rw [h];show k v=k (a t);rw [h2];simp only [lval,hi.len,hv,Option.getD_some]
    | slot s=>right;simp only;rw [qsc];show k _=k (a t);rw [h2];simp only [lval];rw [den_lt h1]
    | cst v=>right;show k v=k (a t);rw [h2];rfl
    | bad=>exact .inl rfl
   ·rename_i hl
    cases hb:(L.testBit t || !Nat.ble (t+1) 262144) with
    | true=>exact .inl rfl
    | false =>
      rw [Bool.or_eq_false_iff,Bool.not_eq_false',ble_lt,decide_eq_true_iff] at hb
      right
      simp only [cond_false]
      rw [qsc,den_lt hb.2]
      show k _=k (a t)
      rw [hi.fr t hb.1]
 | const v=>right;simp only [fV_eq];rfl
 | func f=>exact .inr rfl
 | global g=>exact .inl rfl
theorem qlb (hi:FInv L mp n E T a):∀ (l:List Operand) (k:List Value→RC),(opsB L mp n l).run E T k=RC.no∨(opsB L mp n l).run E T k=k (l.map (ev a)):=by
 intro l
 induction l with
 | nil=>intro k;exact .inr rfl
 | cons x xs ih =>
   intro k
   have e:(opsB L mp n (x::xs)).run E T k=(opB L mp n x).run E T fun v=>(opsB L mp n xs).run E T fun vs=>k (v::vs):=rfl
   rw [e]
   rcases qcy hi x (fun v=>(opsB L mp n xs).run E T fun vs=>k (v::vs)) with h | h
   ·exact .inl h
   ·rw [h]
    exact ih _
end
section
variable {P:Program} {a:Fr}
theorem qjb (b:Bool) (k:Value→RC):cmpK b k=k (.bool b):=by cases b<;>rfl
theorem qkh {op:Op} {o:Oper} {H:FH} (k:Value→RC) (hsame:∀ G,aexec P nofr (opr op) G=aexec P a o G) (hheap:∀ G v G',aexec P a o G=some (v,G')→G'=G) :
  slowK P op H k=RC.no∨∃ v,aexec P a o (absH H)=some (v,absH H)∧slowK P op H k=k v:=by
 unfold slowK
 rw [hsame]
 split
 ·rename_i v G' h
  have:=hheap _ _ _ h
  subst this
  exact .inr ⟨v,h,fV_eq _ _⟩
 ·exact .inl rfl
theorem qil {α:Type} {x:Option α} {G G':Heap} {v:α} (h:x.map (·,G)=some (v,G')):G'=G:=by
 cases x with
 | none=>cases h
 | some y=>simp only [Option.map_some] at h;injection h with h;injection h with _ h;exact h.symm
theorem qnk {op:BinOp} {t:TypeId} {x y x' y':Operand} {u v:Value} (hu:plain u=true):eqGuard op t x y u v=eqGuard op t x' y' u v:=by
 unfold eqGuard
 cases u<;>first | rfl | simp [plain] at hu
theorem bin_same {o:Oper} {op:BinOp} {t t':TypeId} {x y:Operand} (ho:o.op = .binOp op t x y t') (G:Heap):aexec P nofr (opr (.binOp op t (.const (ev a x)) (.const (ev a y)) t')) G=aexec P a o G:=by
 have hp:plainA P nofr (opr (.binOp op t (.const (ev a x)) (.const (ev a y)) t'))=plainA P a o:=by
  unfold plainA
  have e1:(opr (.binOp op t (.const (ev a x)) (.const (ev a y)) t')).op.operands.toList.all (fun z=>plain (ev nofr z))=o.op.operands.toList.all (fun z=>plain (ev a z)):=by rw [ho];simp [opr,Op.operands,ev]
  rw [e1]
  split
  ·rename_i hall
   have hx:plain (ev a x)=true:=by rw [ho] at hall;simp [Op.operands] at hall;exact hall.1
   have e2:execOp (ev nofr) (opr (.binOp op t (.const (ev a x)) (.const (ev a y)) t'))=execOp (ev a) o:=by
    have h1:execOp (ev nofr) (opr (.binOp op t (.const (ev a x)) (.const (ev a y)) t'))=(do let v ← (do eqGuard op t (.const (ev a x)) (.const (ev a y)) (ev a x) (ev a y);binOp op t (ev a x) (ev a y));pure (.value v)):=rfl
    have h2:execOp (ev a) o=(do let v ← (do eqGuard op t x y (ev a x) (ev a y);binOp op t (ev a x) (ev a y));pure (.value v)):=by unfold execOp;rw [ho]
    rw [h1,h2,qnk (x:=.const (ev a x)) (y:=.const (ev a y)) (x':=x) (y':=y) hx]
   rw [e2]
  ·rfl
 unfold aexec
 rw [ho]
 cases op<;>simp only [opr] at hp ⊢<;>simp only [hp]<;>rfl
theorem bin_heap {o:Oper} {op:BinOp} {t t':TypeId} {x y:Operand} (ho:o.op = .binOp op t x y t') (G:Heap) (v:Value) (G':Heap) (h:aexec P a o G=some (v,G')):G'=G:=by
 unfold aexec at h
 rw [ho] at h
 cases op<;>simp only at h<;>first | exact qil h | (split at h<;>first | (injection h with h;injection h with _ h;exact h.symm) | exact qil h)
theorem un_same {o:Oper} {op:UnOp} {t:TypeId} {x:Operand} (ho:o.op = .unOp op t x) (G:Heap):aexec P nofr (opr (.unOp op t (.const (ev a x)))) G=aexec P a o G:=by
 have hp:plainA P nofr (opr (.unOp op t (.const (ev a x))))=plainA P a o:=by
  unfold plainA
  have e1:(opr (.unOp op t (.const (ev a x)))).op.operands.toList.all (fun z=>plain (ev nofr z))=o.op.operands.toList.all (fun z=>plain (ev a z)):=by rw [ho];simp [opr,Op.operands,ev]
  have e2:execOp (ev nofr) (opr (.unOp op t (.const (ev a x))))=execOp (ev a) o:=by simp only [execOp,ho,opr,ev]
  rw [e1,e2]
 unfold aexec
 rw [ho]
 simp only [opr] at hp ⊢
 simp only [hp]
theorem un_heap {o:Oper} {op:UnOp} {t:TypeId} {x:Operand} (ho:o.op = .unOp op t x) (G:Heap) (v:Value) (G':Heap) (h:aexec P a o G=some (v,G')):G'=G:=by
 unfold aexec at h
 rw [ho] at h
 exact qil h
theorem idx_same {o:Oper} {t:TypeId} {x i:Operand} (ho:o.op = .index t x i) (G:Heap):aexec P nofr (opr (.index t (.const (ev a x)) (.const (ev a i)))) G=aexec P a o G:=by
 have hp:plainA P nofr (opr (.index t (.const (ev a x)) (.const (ev a i))))=plainA P a o:=by
  unfold plainA
  have e1:(opr (.index t (.const (ev a x)) (.const (ev a i)))).op.operands.toList.all (fun z=>plain (ev nofr z))=o.op.operands.toList.all (fun z=>plain (ev a z)):=by rw [ho];simp [opr,Op.operands,ev]
  have e2:execOp (ev nofr) (opr (.index t (.const (ev a x)) (.const (ev a i))))=execOp (ev a) o:=by simp only [execOp,ho,opr,ev]
  rw [e1,e2]
 unfold aexec
 rw [ho]
 have c:∀ v,ev nofr (.const v)=v:=fun v=>rfl
 simp only [opr] at hp ⊢
 simp only [hp,c]
theorem idx_heap {o:Oper} {t:TypeId} {x i:Operand} (ho:o.op = .index t x i) (G:Heap) (v:Value) (G':Heap) (h:aexec P a o G=some (v,G')):G'=G:=by
 unfold aexec at h
 rw [ho] at h
 simp only at h
 split at h
 ·injection h with h;injection h with _ h;exact h.symm
 ·exact qil h
theorem conv_same {o:Oper} {s d:TypeId} {x:Operand} (ho:o.op = .convert s d x) (G:Heap):aexec P nofr (opr (.convert s d (.const (ev a x)))) G=aexec P a o G:=by
 have hp:plainA P nofr (opr (.convert s d (.const (ev a x))))=plainA P a o:=by
  unfold plainA
  have e1:(opr (.convert s d (.const (ev a x)))).op.operands.toList.all (fun z=>plain (ev nofr z))=o.op.operands.toList.all (fun z=>plain (ev a z)):=by rw [ho];simp [opr,Op.operands,ev]
  have e2:execOp (ev nofr) (opr (.convert s d (.const (ev a x))))=execOp (ev a) o:=by simp only [execOp,ho,opr,ev]
  rw [e1,e2]
 unfold aexec
 rw [ho]
 simp only [opr,ev] at hp ⊢
 simp only [hp]
theorem conv_heap {o:Oper} {s d:TypeId} {x:Operand} (ho:o.op = .convert s d x) (G:Heap) (v:Value) (G':Heap) (h:aexec P a o G=some (v,G')):G'=G:=by
 unfold aexec at h
 rw [ho] at h
 simp only at h
 split at h
 ·injection h with h;injection h with _ h;exact h.symm
 ·exact qil h
theorem qim {z:Int} (h:Fits z):IntKind.i64.wrap z=z:=qme h.1 h.2
theorem binB_or {o:Oper} {op:BinOp} {t t':TypeId} {x y:Operand} (ho:o.op = .binOp op t x y t') (H:FH) (k:Value→RC) :
  (binB P op t t').run (ev a x) (ev a y) H k=RC.no∨∃ v,aexec P a o (absH H)=some (v,absH H)∧(binB P op t t').run (ev a x) (ev a y) H k=k v:=by
 have slow:=qkh (H:=H) k (bin_same (P:=P) (a:=a) ho) (bin_heap ho)
 unfold binB
 cases hf:arB op with
 | none=>exact slow
 | some f =>
   simp only
   cases isI64 P t with
   | false=>exact slow
   | true =>
     simp only [cond_true]
     rcases qe4 (ev a x) (fun x=>intK (ev a y) fun y=>f.run x y k) with h | ⟨m,hx,h⟩
     ·exact .inl h
     rw [h]
     clear h slow
     rcases qe4 (ev a y) (fun y=>f.run m y k) with h | ⟨q,hy,h⟩
     ·exact .inl h
     rw [h]
     clear h
     have key:∀ v,plain v=true→((pureVal P (execOp (ev a) o)).bind valOf)=some v→aexec P a o (absH H)=some (v,absH H):=fun v hv hb=>qoz ho hx hy hb hv
     have ex:execOp (ev a) o=(do let v ← (do eqGuard op t x y (ev a x) (ev a y);binOp op t (ev a x) (ev a y));pure (.value v)):=by unfold execOp;rw [ho]
     rw [hx,hy] at ex
     cases op with
     | and=>cases hf
     | or=>cases hf
     | xor=>cases hf
     | shl=>cases hf
     | shr=>cases hf
     | andNot=>cases hf
     | add =>
       cases hf
       rcases addZ_or m q (fun z=>k (.int .i64 z)) with e | ⟨e,hw⟩
       ·exact .inl e
       ·exact .inr ⟨_,key _ rfl (by rw [ex];simp [eqGuard,binOp,Op.intArith,pv,valOf,qim hw]),e⟩
     | sub =>
       cases hf
       rcases subZ_or m q (fun z=>k (.int .i64 z)) with e | ⟨e,hw⟩
       ·exact .inl e
       ·exact .inr ⟨_,key _ rfl (by rw [ex];simp [eqGuard,binOp,Op.intArith,pv,valOf,qim hw]),e⟩
     | mul =>
       cases hf
       rcases mulZ_or m q (fun z=>k (.int .i64 z)) with e | ⟨e,hw⟩
       ·exact .inl e
       ·exact .inr ⟨_,key _ rfl (by rw [ex];simp [eqGuard,binOp,Op.intArith,pv,valOf,qim hw]),e⟩
     | quo =>
       cases hf
       rcases quoZ_or m q (fun z=>k (.int .i64 z)) with e | ⟨e,hw,h0⟩
       ·exact .inl e
       ·exact .inr ⟨_,key _ rfl (by rw [ex];simp [eqGuard,binOp,Op.intDiv,h0,pv,valOf,qim hw]),e⟩
     | rem =>
       cases hf
       rcases remZ_or m q (fun z=>k (.int .i64 z)) with e | ⟨e,h0⟩
       ·exact .inl e
       ·exact .inr ⟨_,key _ rfl (by rw [ex];simp [eqGuard,binOp,Op.intDiv,h0,pv,valOf]),e⟩
     | eql =>
       cases hf
       exact .inr ⟨_,key (.bool (beqZ m q)) rfl (by rw [ex,qqm];simp [eqGuard,binOp,Op.intCmp,pv,valOf]),qjb _ _⟩
     | neq =>
       cases hf
       exact .inr ⟨_,key (.bool (!beqZ m q)) rfl (by rw [ex,qqm];simp [eqGuard,binOp,Op.intCmp,pv,valOf];rfl),qjb _ _⟩
     | lss =>
       cases hf
       exact .inr ⟨_,key (.bool (bltZ m q)) rfl (by rw [ex,qhp];simp [eqGuard,binOp,Op.intCmp,pv,valOf]),qjb _ _⟩
     | gtr =>
       cases hf
       exact .inr ⟨_,key (.bool (bltZ q m)) rfl (by rw [ex,qhp];simp [eqGuard,binOp,Op.intCmp,pv,valOf]),qjb _ _⟩
     | leq =>
       cases hf
       exact .inr ⟨_,key (.bool (!bltZ q m)) rfl (by rw [ex,qhp];simp [eqGuard,binOp,Op.intCmp,pv,valOf,← decide_not]),qjb _ _⟩
     | geq =>
       cases hf
       exact .inr ⟨_,key (.bool (!bltZ m q)) rfl (by rw [ex,qhp];simp [eqGuard,binOp,Op.intCmp,pv,valOf,← decide_not]),qjb _ _⟩
end
section
variable {P:Program} {H:FH}
theorem qe6 {b fam n:Nat} {own:Bool} {t:FT} (hb:b < H.n) (hx:(H.nd b).x = .cells fam own n t):(absH H)[b]?=some (.cells fam own (toL n t)):=by
 rw [qd5,if_pos hb,hx];rfl
theorem qsg (t:TypeId) (p:Value) (k:Value→RC):(loadB P t).run p H k=RC.no∨∃ v,loadA P t p (absH H)=some v∧(loadB P t).run p H k=k v:=by
 unfold loadB
 cases hag:isAggT P t with
 | none=>exact .inl rfl
 | some ag =>
   cases ag with
   | false =>
     simp only
     rcases qhn p (fun b o=>cellsK H b fun _ _ n t=>bif Nat.ble (Nat.add o 1) n then (g2B o).run t k else RC.no) with h | ⟨b,o,rfl,h⟩
     ·exact .inl h
     rw [h];clear h
     rcases qe3 H b (fun _ _ n t=>bif Nat.ble (Nat.add o 1) n then (g2B o).run t k else RC.no) with h | ⟨fam,own,n,t',hb,hx,h⟩
     ·exact .inl h
     rw [h];clear h
     cases hc:Nat.ble (Nat.add o 1) n with
     | false=>exact .inl rfl
     | true =>
       have hlt:o < n:=Nat.le_of_ble_eq_true hc
       right
       refine ⟨T2.get t' o,?_,by simp only [cond_true];rw [qsc]⟩
       simp only [loadA,hag,Heap.cell,qe6 hb hx,qgt,if_pos hlt]
   | true =>
     simp only
     cases hs:sizeT P t with
     | none=>exact .inl rfl
     | some m =>
       simp only [fN_eq]
       rcases qhn p (fun b o=>cellsK H b fun _ _ n t=>bif Nat.ble (Nat.add o m) n then rowK t o m fun l=>k (.agg ⟨l⟩) else RC.no) with h | ⟨b,o,rfl,h⟩
       ·exact .inl h
       rw [h];clear h
       rcases qe3 H b (fun _ _ n t=>bif Nat.ble (Nat.add o m) n then rowK t o m fun l=>k (.agg ⟨l⟩) else RC.no) with h | ⟨fam,own,n,t',hb,hx,h⟩
       ·exact .inl h
       rw [h];clear h
       cases hc:Nat.ble (Nat.add o m) n with
       | false=>exact .inl rfl
       | true =>
         have hle:o+m≤n:=Nat.le_of_ble_eq_true hc
         right
         refine ⟨.agg ⟨((toL n t').drop o).take m⟩,?_,by simp only [cond_true];rw [qnf hle]⟩
         simp only [loadA,hag,hs,Heap.cellsAt,qe6 hb hx,qc7,if_pos hle]
theorem storeB_or (hH:H.OK) (t:TypeId) (p v:Value) (k:FH→RC):(storeB P t).run p v H k=RC.no∨∃ H',H'.OK∧storeA P t p v (absH H)=some (absH H')∧(storeB P t).run p v H k=k H':=by
 unfold storeB
 cases hs:sizeT P t with
 | none=>exact .inl rfl
 | some m =>
   simp only [fN_eq]
   rcases qhn p (fun b o=>scalK v fun cs=>bif Nat.beq cs.length m then writeK H b o m cs k else RC.no) with h | ⟨b,o,rfl,h⟩
   ·exact .inl h
   rw [h];clear h
   rcases qik v (fun cs=>bif Nat.beq cs.length m then writeK H b o m cs k else RC.no) with h | ⟨cs,hcs,h⟩
   ·exact .inl h
   rw [h];clear h
   cases hl:Nat.beq cs.length m with
   | false=>exact .inl rfl
   | true =>
     have hl:=Nat.eq_of_beq_eq_true hl
     simp only [cond_true]
     rcases qo2 hH b o m cs hl k with h | ⟨H',h1,h2,h3⟩
     ·exact .inl h
     ·exact .inr ⟨H',h1,by simp only [storeA,hcs,hs,if_pos hl,h2],h3⟩
theorem qki (size:Nat) (v:Value) (k:List Value→Nat→RC):readK H size v k=RC.no∨∃ cs ad n c,v = .slice ad n c∧readA (absH H) size v=some cs∧readK H size v k=k cs n∧(ad=none→c=0):=by
 unfold readK
 rcases qe5 v (fun a n c=>addrK (bif Nat.beq n 0 && Nat.beq c 0 then k [] 0 else RC.no) (bif Nat.beq n 0 then k [] 0 else RC.no) a fun b o=>cellsK H b fun _ _ m t=>fN (Nat.mul n size) fun q=>bif Nat.ble (Nat.add o q) m then rowK t o q fun l=>k l n else RC.no) with h | ⟨ad,n,c,rfl,h⟩
 ·exact .inl h
 rw [h];clear h
 rcases qij ad (bif Nat.beq n 0 && Nat.beq c 0 then k [] 0 else RC.no) (bif Nat.beq n 0 then k [] 0 else RC.no) (fun b o=>cellsK H b fun _ _ m t=>fN (Nat.mul n size) fun q=>bif Nat.ble (Nat.add o q) m then rowK t o q fun l=>k l n else RC.no) with ⟨rfl,h⟩ | ⟨b,o,p,rfl,h⟩ | ⟨b,o,rfl,h⟩
 ·rw [h]
  cases hc:(Nat.beq n 0 && Nat.beq c 0) with
  | false=>exact .inl rfl
  | true =>
    simp only [Bool.and_eq_true] at hc
    have h1:=Nat.eq_of_beq_eq_true hc.1
    have h2:=Nat.eq_of_beq_eq_true hc.2
    subst h1;subst h2
    exact .inr ⟨[],none,0,0,rfl,rfl,rfl,fun _=>rfl⟩
 ·rw [h]
  cases hc:Nat.beq n 0 with
  | false=>exact .inl rfl
  | true =>
    have h1:=Nat.eq_of_beq_eq_true hc
    subst h1
    exact .inr ⟨[],_,0,c,rfl,rfl,rfl,fun h=>by cases h⟩
 ·rw [h];clear h
  rcases qe3 H b (fun _ _ m t=>fN (Nat.mul n size) fun q=>bif Nat.ble (Nat.add o q) m then rowK t o q fun l=>k l n else RC.no) with h | ⟨fam,own,m,t',hb,hx,h⟩
  ·exact .inl h
  rw [h];clear h
  rw [fN_eq]
  cases hc:Nat.ble (Nat.add o (Nat.mul n size)) m with
  | false=>exact .inl rfl
  | true =>
    have hle:o+n*size≤m:=Nat.le_of_ble_eq_true hc
    right
    refine ⟨((toL m t').drop o).take (n*size),_,n,c,rfl,?_,by simp only [cond_true];rw [qnf (show o+Nat.mul n size≤m from hle)];rfl,fun h=>by cases h⟩
    simp only [readA,Heap.cellsAt,qe6 hb hx,qc7,if_pos hle]
end
end Go.Abs
namespace Go.Abs
abbrev vi (z:Int):Value:=.int .i64 z
def rest (x:Option (Value×Heap)):Option (Value×Heap):=x
def bindO {α:Type} (x:Option (Value×Heap)) (k:Value→Heap→Option α):Option α:=match x with
 | some (v,H)=>k v H
 | none=>none
def bindF {α:Type} (x:Option (Fr×Heap)) (k:Fr→Heap→Option α):Option α:=match x with
 | some (a,H)=>k a H
 | none=>none
def bindX (x:Option (X×Fr×Heap)) (k:Fr→Heap→Option (X×Fr×Heap)):Option (X×Fr×Heap):=match x with
 | some (.normal,a,H)=>k a H
 | r=>r
def blkX (id:Nat) (x:Option (X×Fr×Heap)):Option (X×Fr×Heap):=match x with
 | some (.exit i,a,H)=>if i=id then some (.normal,a,H) else some (.exit i,a,H)
 | r=>r
def condX {α:Type} (v:Value) (x y:Option α):Option α:=match v with
 | .bool true=>x
 | .bool false=>y
 | _=>none
def iteB {α:Type} (b:Bool) (x y:α):α:=match b with
 | true=>x
 | false=>y
theorem qqn {α:Type} {x x':Option (Value×Heap)} {k:Value→Heap→Option α} (h:x=x'):bindO x k=bindO x' k:=by rw [h]
theorem qqo {α:Type} {x x':Option (Fr×Heap)} {k:Fr→Heap→Option α} (h:x=x'):bindF x k=bindF x' k:=by rw [h]
theorem qqp {x x':Option (X×Fr×Heap)} {k:Fr→Heap→Option (X×Fr×Heap)} (h:x=x'):bindX x k=bindX x' k:=by rw [h]
theorem qqq {α:Type} {v v':Value} {x y:Option α} (h:v=v'):condX v x y=condX v' x y:=by rw [h]
theorem qbl {α:Type} {b b':Bool} {x y:α} (h:b=b'):iteB b x y=iteB b' x y:=by rw [h]
theorem qo3 {a:Fr} {H:Heap} {k:Fr→Heap→Option (X×Fr×Heap)}:bindX (some (.normal,a,H)) k=k a H:=(rfl)
theorem blkX_exit {i j:Nat} {a:Fr} {H:Heap}:blkX i (some (.exit j,a,H))=if j=i then some (.normal,a,H) else some (.exit j,a,H):=(rfl)
theorem condX_true {α:Type} {x y:Option α}:condX (.bool true) x y=x:=(rfl)
theorem qqr {α:Type} {x y:Option α}:condX (.bool false) x y=y:=(rfl)
theorem qaf {α:Type} {x y:α}:iteB true x y=x:=(rfl)
theorem qar {α:Type} {x y:α}:iteB false x y=y:=(rfl)
section
variable {P:Program} {call:CallF} {k nt:Nat} {rd:Option Nat} {a:Fr} {H:Heap} {ops:Array Oper}
theorem code_seq {x y:Code}:evCode P call k nt rd (.seq x y) a H=bindX (evCode P call k nt rd x a H) fun a' H'=>evCode P call k nt rd y a' H':=(rfl)
theorem code_cond {c:Operand} {x y:Code}:evCode P call k nt rd (.cond c x y) a H=condX (ev a c) (evCode P call k nt rd x a H) (evCode P call k nt rd y a H):=(rfl)
theorem code_block {id:Nat} {c:Code}:evCode P call k nt rd (.block id c) a H=blkX id (evCode P call k nt rd c a H):=(rfl)
theorem code_loop {c:Code}:evCode P call k nt rd (.loop c) a H=loopN (evCode P call k nt rd c) k a H:=(rfl)
variable {d:Option Nat} {ty:TypeId} {pos:String} {aft:Array Edge} {g:Option (Nat×Bool)}
theorem st_pick {c x y:Operand}:stepA P call a ⟨d,.pick c x y,ty,pos,aft,g⟩ H=(match ev a c with | .bool t=>some (if t then ev a x else ev a y,H) | _=>none):=(rfl)
theorem st_not {t:TypeId} {x:Operand}:stepA P call a ⟨d,.unOp .not t x,ty,pos,aft,g⟩ H=(match ev a x with | .bool b=>some (.bool !b,H) | _=>rest (aexec P a ⟨d,.unOp .not t x,ty,pos,aft,g⟩ H)):=by
 show aexec P a ⟨d,.unOp .not t x,ty,pos,aft,g⟩ H=_
 split
 ·rename_i b hx
  have e:plainA P a (⟨d,.unOp .not t x,ty,pos,aft,g⟩:Oper)=some (.bool !b):=by
   unfold plainA
   have hall:((⟨d,.unOp .not t x,ty,pos,aft,g⟩:Oper).op.operands.toList.all fun z=>plain (ev a z))=true:=by simp [Op.operands,hx,plain]
   rw [if_pos hall]
   simp [execOp,hx,Op.unary,pv,valOf,plain]
  simp only [aexec,e,Option.map_some]
 ·rfl
end
section
variable {P:Program} {call:CallF} {a:Fr} {H:Heap} {ops:Array Oper} {bef:Array Nat} {st:List (Option Nat×Heap)} {pd:Pend}
end
section
variable {P:Program} {call:CallF} {a:Fr} {H:Heap} {ops:Array Oper} {bef:Array Nat} {st:List (Option Nat×Heap)} {pd:Pend} {j:Nat} {l:List Nat} {d:Nat} {op:Op} {ty:TypeId} {pos:String} {aft:Array Edge} {v:Value}
end
section
variable {P:Program}
def finB (P:Program) (rs:List ResultVar) (x:Option (X×Fr×Heap)):Option (Value×Heap):=match x with
 | some (.normal,a,H')=>(resList P a H' rs).map fun vs=>(pack vs,H')
 | some (.ret,a,H')=>(resList P a H' rs).map fun vs=>(pack vs,H')
 | _=>none
theorem body_run {call:CallF} {n f:Nat} {fn:Func} {c:Code} {args:List Value} {H:Heap} (hf:P.funcs[f]?=some fn) (hb:fn.body=some c) (hok:funcOk fn c=true) (hl:args.length≤fn.ntmps) :
  evBody P call n (.func (.func f) #[] #[]) args H=finB P fn.results.toList (evCode P call n fn.ntmps none c (frOf args) H):=by
 unfold evBody finB
 simp only [hf,hb,List.append_nil]
 rw [if_pos ⟨hok,rfl,hl⟩]
 cases evCode P call n fn.ntmps none c (frOf args) H with
 | none=>rfl
 | some r=>obtain ⟨x,a,H1⟩:=r;cases x<;>rfl
end
end Go.Abs
namespace Go.Abs
def addrS (size:Nat):Value→Value→Option Value
 | .slice (some ⟨b,o,none⟩) n _,.int _ k=>if 0≤k∧k < n then some (ptrA b (o+k.toNat*size)) else none
 | _,_=>none
def intOp (op:BinOp) (p q:Int):Option Value:=match op with
 | .lss=>some (.bool (decide (p < q)))
 | .gtr=>some (.bool (decide (q < p)))
 | .leq=>some (.bool (decide (p≤q)))
 | .geq=>some (.bool (decide (q≤p)))
 | .eql=>some (.bool (decide (p=q)))
 | .neq=>some (.bool (decide (p≠q)))
 | .add=>some (vi (IntKind.i64.wrap (p+q)))
 | .sub=>some (vi (IntKind.i64.wrap (p - q)))
 | .mul=>some (vi (IntKind.i64.wrap (p*q)))
 | .quo=>if q=0 then none else some (vi (IntKind.i64.wrap (p.tdiv q)))
 | .rem=>if q=0 then none else some (vi (p.tmod q))
 | _=>none
def binS (op:BinOp) (u v:Value) (H:Heap) (r:Option (Value×Heap)):Option (Value×Heap):=match u,v with
 | .int .i64 p,.int .i64 q=>match intOp op p q with
   | some z=>some (z,H)
   | none=>r
 | _,_=>r
section
variable {P:Program} {call:CallF} {k nt:Nat} {rd:Option Nat} {a:Fr} {H:Heap} {ops:Array Oper}
variable {d:Option Nat} {ty:TypeId} {pos:String} {aft:Array Edge} {g:Option (Nat×Bool)}
theorem sy_bin {op:BinOp} {t t':TypeId} {x y:Operand}:stepA P call a ⟨d,.binOp op t x y t',ty,pos,aft,g⟩ H=binS op (ev a x) (ev a y) H (rest (aexec P a ⟨d,.binOp op t x y t',ty,pos,aft,g⟩ H)):=by
 show aexec P a ⟨d,.binOp op t x y t',ty,pos,aft,g⟩ H=_
 unfold binS rest
 have ho:(⟨d,.binOp op t x y t',ty,pos,aft,g⟩:Oper).op = .binOp op t x y t':=rfl
 have ex:execOp (ev a) (⟨d,.binOp op t x y t',ty,pos,aft,g⟩:Oper)=(do let v ← (do eqGuard op t x y (ev a x) (ev a y);binOp op t (ev a x) (ev a y));pure (.value v)):=rfl
 split
 ·rename_i p q hx hy
  rw [hx,hy] at ex
  split
  ·rename_i z hz
   refine qoz ho hx hy ?_ ?_
   ·rw [ex]
    cases op<;>simp only [intOp,Option.some.injEq,reduceCtorEq] at hz<;>first
     | (subst hz;simp [eqGuard,binOp,Op.intCmp,pv,valOf];done)
     | (subst hz;simp [eqGuard,binOp,Op.intArith,pv,valOf];done)
     | (split at hz
        ·cases hz
        ·rename_i hq;cases hz;simp [eqGuard,binOp,Op.intDiv,hq,pv,valOf];done)
     | (subst hz;simp [eqGuard,binOp,Op.intCmp,pv,valOf,bne];rfl)
   ·cases op<;>simp only [intOp,Option.some.injEq,reduceCtorEq] at hz<;>first
    | (subst hz;rfl)
    | (split at hz
       ·cases hz
       ·cases hz;rfl)
  ·rfl
 ·rfl
theorem sy_neg {t:TypeId} {x:Operand}:stepA P call a ⟨d,.unOp .neg t x,ty,pos,aft,g⟩ H=(match ev a x with | .int .i64 z=>some (vi (IntKind.i64.wrap (0 - z)),H) | _=>rest (aexec P a ⟨d,.unOp .neg t x,ty,pos,aft,g⟩ H)):=by
 show aexec P a ⟨d,.unOp .neg t x,ty,pos,aft,g⟩ H=_
 split
 ·rename_i b hx
  have e:plainA P a (⟨d,.unOp .neg t x,ty,pos,aft,g⟩:Oper)=some (vi (IntKind.i64.wrap (0 - b))):=by
   unfold plainA
   have hall:((⟨d,.unOp .neg t x,ty,pos,aft,g⟩:Oper).op.operands.toList.all fun z=>plain (ev a z))=true:=by simp [Op.operands,hx,plain]
   rw [if_pos hall]
   simp [execOp,hx,Op.unary,Op.intArith,pv,valOf,plain]
  simp only [aexec,e,Option.map_some]
 ·rfl
end
def reflV (op:Op) (v:Value):Bool:=match cls op with
 | .read=>vEq v v
 | _=>true
def evOpsV (P:Program) (call:CallF) (ops:Array Oper):List Oper→Fr→Heap→Option (Fr×Heap)
 | [],a,H=>some (a,H)
 | o::os,a,H =>
   if Region.wanted o (yieldedA ops a) then
    match stepA P call a o H with
    | some (v,H')=>if reflV o.op v then evOpsV P call ops os (putA a o.dst v) H' else none
    | none=>none
   else evOpsV P call ops os (putA a o.dst undef) H
def isEff (o:Oper):Bool:=match cls o.op with | .eff=>true | _=>false
def isRead (o:Oper):Bool:=match cls o.op with | .read=>true | _=>false
def isAll (o:Oper):Bool:=match cls o.op with | .all_=>true | _=>false
def drawSeq (ops:Array Oper) (bef:Array Nat):Bool :=
 (List.range ops.size).all fun j=>!isRead (ops.getD j default) || (List.range ops.size).all fun e =>
  (!isEff (ops.getD e default) || (if e < j then (bef.getD j 0).testBit e else (bef.getD e 0).testBit j)) && (!isAll (ops.getD e default) || decide (j < e))
section
variable {P:Program} {call:CallF} {ops:Array Oper} {bef:Array Nat}
theorem seq_at (h:drawSeq ops bef=true) {j e:Nat} (hj:j < ops.size) (he:e < ops.size) (hr:isRead (ops.getD j default)=true) :
  (isEff (ops.getD e default)=true→(if e < j then (bef.getD j 0).testBit e else (bef.getD e 0).testBit j)=true)∧(isAll (ops.getD e default)=true→j < e):=by
 have h1:=List.all_eq_true.1 h j (List.mem_range.2 hj)
 rw [hr,Bool.not_true,Bool.false_or] at h1
 have h2:=List.all_eq_true.1 h1 e (List.mem_range.2 he)
 rw [Bool.and_eq_true,Bool.or_eq_true,Bool.or_eq_true] at h2
 refine ⟨fun hh=>?_,fun hh=>?_⟩
 ·rw [hh] at h2;simpa using h2.1
 ·rw [hh] at h2;simpa using h2.2
theorem qfv {a:Fr} {o:Oper} {H:Heap} (h:cls o.op = .read):stepA P call a o H=aexec P a o H:=by
 unfold stepA
 split
 ·rename_i h2;rw [h2] at h;cases h
 ·rfl
theorem qnl {a:Fr} {o:Oper} {H:Heap} (h:cls o.op = .all_):stepA P call a o H=aexec P a o H:=by
 unfold stepA
 split
 ·rename_i h2;rw [h2] at h;cases h
 ·rfl
theorem qlc {a:Fr} {o:Oper} {H:Heap} (h:cls o.op = .pure_):stepA P call a o H=aexec P a o H:=by
 unfold stepA
 split
 ·rename_i h2;rw [h2] at h;cases h
 ·rfl
theorem opsV_tail {o:Oper} {os:List Oper} {a:Fr} {H:Heap}:evOpsV P call ops (o::os) a H=if Region.wanted o (yieldedA ops a) then (match stepA P call a o H with
 | some (v,H')=>if reflV o.op v then evOpsV P call ops os (putA a o.dst v) H' else none
 | none=>none) else evOpsV P call ops os (putA a o.dst undef) H:=rfl
def SeqSt (ops:Array Oper) (j:Nat) (H:Heap) (st:List (Option Nat×Heap)) (pd:Pend):Prop :=
 (∃ x G r,st=(x,G)::r∧(∀ e,x=some e→e < j∧isEff (ops.getD e default)=true)∧(x=none→r=[])∧(G=H∨∃ i,i < j∧isAll (ops.getD i default)=true)) ∧
 ∀ p∈pd,p.1 < j∧isRead (ops.getD p.1 default)=true
theorem drop_at {l:List Oper} {j:Nat} {o:Oper} {os:List Oper} (h:l.drop j=o::os):l[j]?=some o∧l.drop (j+1)=os∧j < l.length:=by
 have h1:j < l.length:=by
  apply Nat.lt_of_not_le
  intro hge
  rw [List.drop_eq_nil_of_le hge] at h
  cases h
 rw [List.drop_eq_getElem_cons h1] at h
 injection h with e1 e2
 exact ⟨by rw [List.getElem?_eq_getElem h1,e1],e2,h1⟩
theorem qmg {n j:Nat} (h:j < n):(List.range n).drop j=j::(List.range n).drop (j+1):=by
 rw [List.drop_eq_getElem_cons (by simpa using h)]
 simp
theorem draw_go (hs:drawSeq ops bef=true):∀ (l:List Oper) (j:Nat) (a:Fr) (H:Heap) (st:List (Option Nat×Heap)) (pd:Pend),ops.toList.drop j=l→SeqSt ops j H st pd →
  evDraw P call ops bef ((List.range ops.size).drop j) a H st pd=evOpsV P call ops l a H:=by
 intro l
 induction l with
 | nil =>
   intro j a H st pd hd _
   have:ops.size≤j:=by
    apply Nat.le_of_not_lt
    intro h
    rw [List.drop_eq_getElem_cons (by simpa using h)] at hd
    cases hd
   rw [List.drop_eq_nil_of_le (by simpa using this)]
   rfl
 | cons o l ih =>
   intro j a H st pd hd hst
   obtain ⟨h1,h2,h3⟩:=drop_at hd
   have hj:j < ops.size:=by simpa using h3
   have ho:ops[j]?=some o:=by rw [← Array.getElem?_toList];exact h1
   have hD:ops.getD j default=o:=by rw [Array.getD_eq_getD_getElem?,ho];rfl
   obtain ⟨⟨x,G,r,hst1,hst2,hst3,hst4⟩,hpd⟩:=hst
   rw [qmg hj,evDraw,ho,opsV_tail]
   simp only
   have hpd':∀ p∈pd,p.1 < j+1∧isRead (ops.getD p.1 default)=true:=fun p hp=>⟨by have:=(hpd p hp).1;omega,(hpd p hp).2⟩
   have keep:∀ H',H'=H→SeqSt ops (j+1) H' st pd:=fun H' e=>by
    subst e
    exact ⟨⟨x,G,r,hst1,fun e he=>⟨by have:=(hst2 e he).1;omega,(hst2 e he).2⟩,hst3,hst4.imp id fun ⟨i,hi,h⟩=>⟨i,by omega,h⟩⟩,hpd'⟩
   by_cases hw:Region.wanted o (yieldedA ops a)=true
   ·rw [if_pos hw,if_pos hw]
    cases hc:cls o.op with
    | eff =>
      have hrf:∀ v,reflV o.op v=true:=fun v=>by unfold reflV;rw [hc]
      simp only
      cases hstep:stepA P call a o H with
      | none=>rfl
      | some q =>
        obtain ⟨v,H'⟩:=q
        simp only [hrf,if_true]
        have hE:isEff (ops.getD j default)=true:=by rw [hD];unfold isEff;rw [hc]
        have hnil:pd.filter (fun p=>!(bef.getD j 0).testBit p.1)=[]:=by
         rw [List.filter_eq_nil_iff]
         intro p hp
         obtain ⟨p1,p2⟩:=hpd p hp
         have h5:=(seq_at hs (j:=p.1) (e:=j) (by omega) hj p2).1 hE
         rw [if_neg (by omega)] at h5
         rw [h5];simp
        rw [hnil]
        simp only [List.all_nil,if_true]
        exact ih (j+1) _ H' _ _ h2 ⟨⟨some j,H',st,rfl,fun e he=>by cases he;exact ⟨by omega,hE⟩,fun h=>(by cases h),.inl rfl⟩,fun p hp=>by cases hp⟩
    | all_ =>
      have hrf:∀ v,reflV o.op v=true:=fun v=>by unfold reflV;rw [hc]
      simp only
      rw [qnl hc]
      cases hstep:aexec P a o H with
      | none=>rfl
      | some q =>
        obtain ⟨v,H'⟩:=q
        simp only [hrf,if_true]
        have hA:isAll (ops.getD j default)=true:=by rw [hD];unfold isAll;rw [hc]
        exact ih (j+1) _ H' _ _ h2 ⟨⟨x,G,r,hst1,fun e he=>⟨by have:=(hst2 e he).1;omega,(hst2 e he).2⟩,hst3,.inr ⟨j,by omega,hA⟩⟩,hpd'⟩
    | read =>
      have hrf:∀ v,reflV o.op v=vEq v v:=fun v=>by unfold reflV;rw [hc]
      have hR:isRead (ops.getD j default)=true:=by rw [hD];unfold isRead;rw [hc]
      have hGH:G=H:=by
       rcases hst4 with h | ⟨i,hi,h⟩
       ·exact h
       ·have:=(seq_at hs (j:=j) (e:=i) hj (by omega) hR).2 h
        omega
      subst hGH
      have hwin:window (bef.getD j 0) st=[G]:=by
       rw [hst1]
       cases x with
       | none=>rw [hst3 rfl];rfl
       | some e =>
         obtain ⟨e1,e2⟩:=hst2 e rfl
         have h5:=(seq_at hs (j:=j) (e:=e) hj (by omega) hR).1 e2
         rw [if_pos e1] at h5
         unfold window
         rw [if_pos h5]
      simp only
      rw [qfv hc]
      cases hstep:aexec P a o G with
      | none=>rfl
      | some q =>
        obtain ⟨v,H'⟩:=q
        have e:=qou hc hstep
        subst e
        simp only [hwin,hrf,List.all_cons,List.all_nil,Bool.and_true]
        have hsr:stillReads P H' a o v=vEq v v:=by unfold stillReads;rw [hstep]
        rw [hsr]
        cases hv:vEq v v with
        | false=>simp
        | true =>
          simp only [if_true]
          refine ih (j+1) _ H' _ _ h2 ⟨(keep H' rfl).1,fun p hp=>?_⟩
          rcases List.mem_cons.1 hp with rfl | hp
          ·exact ⟨by simp,hR⟩
          ·exact hpd' p hp
    | pure_ =>
      have hrf:∀ v,reflV o.op v=true:=fun v=>by unfold reflV;rw [hc]
      simp only
      rw [qlc hc]
      cases hstep:aexec P a o H with
      | none=>rfl
      | some q =>
        obtain ⟨v,H'⟩:=q
        have e:=(qfu hc hstep).1
        subst e
        simp only [hrf,if_true]
        exact ih (j+1) _ H' _ _ h2 (keep H' rfl)
   ·rw [if_neg hw,if_neg hw]
    exact ih (j+1) _ H _ _ h2 (keep H rfl)
theorem draw_eq (hs:drawSeq ops (Region.before ops)=true) {a:Fr} {H:Heap}:evDraw P call ops (Region.before ops) (List.range ops.size) a H [(none,H)] []=evOpsV P call ops ops.toList a H:=by
 have:=draw_go (P:=P) (call:=call) hs ops.toList 0 a H [(none,H)] [] rfl ⟨⟨none,H,[],rfl,fun e he=>(by cases he),fun _=>rfl,.inl rfl⟩,fun p hp=>by cases hp⟩
 simpa using this
theorem sy_draw {k nt id:Nat} {rd:Option Nat} {a:Fr} {H:Heap} (hs:drawSeq ops (Region.before ops)=true):evCode P call k nt rd (.region id ops true) a H=bindF (evOpsV P call ops ops.toList a H) fun a' H'=>some (.normal,a',H'):=by
 rw [← draw_eq hs];rfl
end
section
variable {P:Program} {call:CallF} {ops:Array Oper} {a:Fr} {H:Heap} {d:Option Nat} {op:Op} {ty:TypeId} {pos:String} {aft:Array Edge} {os:List Oper}
end
end Go.Abs
namespace Go.Abs
def drawsOk (D:Nat→Bool):Code→Bool
 | .region id ops true=>D id || drawSeq ops (Region.before ops)
 | .seq x y=>drawsOk D x && drawsOk D y
 | .cond _ x y=>drawsOk D x && drawsOk D y
 | .block _ c=>drawsOk D c
 | .loop c=>drawsOk D c
 | _=>true
def rangeS (call:CallF) (nt:Nat) (rd:Option Nat) (f:Value) (params:Array Nat) (assign body:Code) (a:Fr) (H:Heap):Option (X×Fr×Heap) :=
 if rdOk H rd then
  match call f [.func (.yield H.length) #[] #[]] (H++[.loop .ready none nt a params.toList assign body]) with
  | some (_,H')=>match H'[H.length]? with
    | some (.loop st pend _ _ _ _ _)=>if st = .busy then none else match jumpX pend with
      | some x=>some (x,a,H'.set H.length .dead)
      | none=>none
    | _=>none
  | none=>none
 else none
def evT (P:Program) (call:CallF) (k nt:Nat) (rd:Option Nat) (D:Nat→Bool):Code→Fr→Heap→Option (X×Fr×Heap)
 | .skip,a,H=>some (.normal,a,H)
 | .label _,a,H=>some (.normal,a,H)
 | .region _ ops false,a,H=>bindF (evOps P call ops ops.toList a H) fun a' H'=>some (.normal,a',H')
 | .region id ops true,a,H=>iteB (D id) (bindF (evDraw P call ops (Region.before ops) (List.range ops.size) a H [(none,H)] []) fun a' H'=>some (.normal,a',H')) (bindF (evOpsV P call ops ops.toList a H) fun a' H'=>some (.normal,a',H'))
 | .seq x y,a,H=>bindX (evT P call k nt rd D x a H) fun a' H'=>evT P call k nt rd D y a' H'
 | .cond c x y,a,H=>condX (ev a c) (evT P call k nt rd D x a H) (evT P call k nt rd D y a H)
 | .block id c,a,H=>blkX id (evT P call k nt rd D c a H)
 | .loop c,a,H=>loopN (evT P call k nt rd D c) k a H
 | .exit id,a,H=>some (.exit id,a,H)
 | .ret,a,H=>some (.ret,a,H)
 | .rangeFunc f params assign body,a,H=>rangeS call nt rd (ev a f) params assign body a H
 | .scope _,_,_=>none
 | .goto _,_,_=>none
 | .refuse _,_,_=>none
def D0:Nat→Bool:=fun _=>false
section
variable {P:Program} {call:CallF} {k nt:Nat} {rd:Option Nat} {D:Nat→Bool}
theorem evS_eq:∀ (c:Code),drawsOk D c=true→∀ a H,evCode P call k nt rd c a H=evT P call k nt rd D c a H:=by
 intro c
 induction c with
 | region id ops draw =>
   intro h a H
   cases draw with
   | false=>rfl
   | true =>
     simp only [drawsOk,Bool.or_eq_true] at h
     show evCode P call k nt rd (.region id ops true) a H=iteB (D id) _ _
     cases hd:D id with
     | true=>rfl
     | false =>
       rw [hd] at h
       exact sy_draw (h.resolve_left (by simp))
 | seq x y ihx ihy =>
   intro h a H
   simp only [drawsOk,Bool.and_eq_true] at h
   have e:evCode P call k nt rd y=evT P call k nt rd D y:=funext fun a=>funext fun H=>ihy h.2 a H
   rw [code_seq,evT,ihx h.1,e]
 | cond c x y ihx ihy =>
   intro h a H
   simp only [drawsOk,Bool.and_eq_true] at h
   rw [code_cond,evT,ihx h.1,ihy h.2]
 | block id c ih =>
   intro h a H
   rw [code_block,evT,ih h]
 | loop c ih =>
   intro h a H
   have e:evCode P call k nt rd c=evT P call k nt rd D c:=funext fun a=>funext fun H=>ih h a H
   rw [code_loop,evT,e]
 | _=>intro h a H;rfl
theorem es_region {id:Nat} {ops:Array Oper} {a:Fr} {H:Heap}:evT P call k nt rd D (.region id ops false) a H=bindF (evOps P call ops ops.toList a H) fun a' H'=>some (.normal,a',H'):=(rfl)
theorem qqs {id:Nat} {ops:Array Oper} {a:Fr} {H:Heap}:evT P call k nt rd D (.region id ops true) a H=iteB (D id) (bindF (evDraw P call ops (Region.before ops) (List.range ops.size) a H [(none,H)] []) fun a' H'=>some (.normal,a',H')) (bindF (evOpsV P call ops ops.toList a H) fun a' H'=>some (.normal,a',H')):=(rfl)
theorem d0 {i:Nat}:D0 i=false:=(rfl)
theorem es_seq {x y:Code} {a:Fr} {H:Heap}:evT P call k nt rd D (.seq x y) a H=bindX (evT P call k nt rd D x a H) fun a' H'=>evT P call k nt rd D y a' H':=(rfl)
theorem es_cond {c:Operand} {x y:Code} {a:Fr} {H:Heap}:evT P call k nt rd D (.cond c x y) a H=condX (ev a c) (evT P call k nt rd D x a H) (evT P call k nt rd D y a H):=(rfl)
theorem es_block {id:Nat} {c:Code} {a:Fr} {H:Heap}:evT P call k nt rd D (.block id c) a H=blkX id (evT P call k nt rd D c a H):=(rfl)
theorem es_loop {c:Code} {a:Fr} {H:Heap}:evT P call k nt rd D (.loop c) a H=loopN (evT P call k nt rd D c) k a H:=(rfl)
theorem body_runS {n f:Nat} {fn:Func} {c:Code} {args:List Value} {H:Heap} (hf:P.funcs[f]?=some fn) (hb:fn.body=some c) (hok:funcOk fn c=true) (hl:args.length≤fn.ntmps) (hd:drawsOk D c=true) :
  evBody P call n (.func (.func f) #[] #[]) args H=finB P fn.results.toList (evT P call n fn.ntmps none D c (frOf args) H):=by
 rw [body_run hf hb hok hl,evS_eq c hd]
end
def ints (l:List Int):List Value:=l.map vi
def WF (H:Heap):Prop:=∀ (b f:Nat) (o:Bool) (cs:List Value),H[b]?=some (.cells f o cs)→f≤b
def Old (B:Nat) (H H':Heap):Prop:=H.length≤H'.length∧∀ b,b < B→H'[b]?=H[b]?
def R (H:Heap) (v:Value) (l:List Value):Prop :=
 (v = .slice none 0 0∧l=[])∨(v=lostSlice∧l=[])∨∃ b o f w cs,v=sliceA b o l.length 1∧H[b]?=some (.cells f w cs)∧o+l.length≤cs.length∧(cs.drop o).take l.length=l
theorem qcz {H:Heap} {b:Nat} {x:Blk} (h:H[b]?=some x):b < H.length:=by
 obtain ⟨h1,_⟩:=List.getElem?_eq_some_iff.1 h
 exact h1
theorem Old.refl (B:Nat) (H:Heap):Old B H H:=⟨Nat.le_refl _,fun _ _=>rfl⟩
theorem Old.trans {B:Nat} {H1 H2 H3:Heap} (h:Old B H1 H2) (h':Old B H2 H3):Old B H1 H3:=⟨Nat.le_trans h.1 h'.1,fun b hb=>by rw [h'.2 b hb,h.2 b hb]⟩
theorem Old.mono {B B':Nat} {H1 H2:Heap} (h:Old B H1 H2) (hb:B'≤B):Old B' H1 H2:=⟨h.1,fun b hb'=>h.2 b (by omega)⟩
theorem Old.app (H J:Heap):Old H.length H (H++J):=⟨by simp,fun b hb=>List.getElem?_append_left hb⟩
theorem WF.app {H:Heap} (h:WF H) {f:Nat} {o:Bool} {cs:List Value} (hf:f≤H.length):WF (H++[.cells f o cs]):=by
 intro b f' o' cs' hb
 by_cases hlt:b < H.length
 ·rw [List.getElem?_append_left hlt] at hb;exact h b f' o' cs' hb
 ·rw [List.getElem?_append_right (by omega)] at hb
  have:b - H.length=0:=by
   have:=qcz hb;simp at this;omega
  rw [this] at hb
  simp at hb
  omega
section
variable {P:Program} {call:CallF} {a:Fr} {H:Heap} {d:Option Nat} {ty:TypeId} {pos:String} {aft:Array Edge} {g:Option (Nat×Bool)}
end
theorem qfl {fam k:Nat} {x:Blk} (h:∀ f o cs,x = .cells f o cs→f≠fam):truncFam fam k x=x:=by
 unfold truncFam
 split
 ·rename_i f o cs
  rw [if_neg (h f o cs rfl)]
 ·rfl
theorem qo4 {B fam k:Nat} {H:Heap} (hw:WF H) (hf:B≤fam):Old B H (H.map (truncFam fam k)):=by
 refine ⟨by simp,fun b hb=>?_⟩
 rw [List.getElem?_map]
 cases h:H[b]? with
 | none=>rfl
 | some x =>
   rw [Option.map_some,qfl]
   intro f o cs e
   subst e
   have:=hw b f o cs h
   omega
theorem qsh {fam k:Nat} {H:Heap} (hw:WF H):WF (H.map (truncFam fam k)):=by
 intro b f o cs h
 rw [List.getElem?_map] at h
 cases hx:H[b]? with
 | none=>rw [hx] at h;cases h
 | some x =>
   rw [hx,Option.map_some] at h
   cases x with
   | cells f' o' cs' =>
     unfold truncFam at h
     simp only at h
     split at h<;>(injection h with h;injection h with h1 h2 h3;subst h1;exact hw b _ _ _ hx)
   | _=>injection h with h;simp [truncFam] at h
end Go.Abs
namespace Go.Abs
section
variable {P:Program}
theorem fin_n {a:Fr} {H:Heap} {rs:List ResultVar}:finB P rs (some (.normal,a,H))=(resList P a H rs).map fun vs=>(pack vs,H):=(rfl)
theorem fin_r {a:Fr} {H:Heap} {rs:List ResultVar}:finB P rs (some (.ret,a,H))=(resList P a H rs).map fun vs=>(pack vs,H):=(rfl)
end
theorem qmh {c:Call} {v:Value}:reflV (.call c) v=true:=by
 unfold reflV
 have h:cls (.call c)≠.read:=by
  unfold cls
  split<;>first | (intro h;cases h;done) | (rename_i h2;cases h2) | (rename_i h2 _;cases h2) | skip
  all_goals (rename_i h2;intro _;cases h2)
 revert h
 cases cls (.call c)<;>intro h<;>first | rfl | exact absurd rfl h
theorem wr64 {z:Int} (h1 : -9223372036854775808≤z) (h2:z≤9223372036854775807):IntKind.i64.wrap z=z:=qme h1 h2
theorem b_ft:(false == true)=false:=(rfl)
theorem b_tf:(true == false)=false:=(rfl)
def Kept (C:Nat) (H H':Heap):Prop:=∀ (b f:Nat) (o:Bool) (cs:List Value),C≤b→C≤f→H[b]?=some (.cells f o cs)→H'[b]?=some (.cells f o cs)
def atC:List Nat→Code→Code
 | [],c=>c
 | 0::p,.seq x _=>atC p x
 | _::p,.seq _ y=>atC p y
 | 0::p,.cond _ x _=>atC p x
 | _::p,.cond _ _ y=>atC p y
 | _::p,.block _ c=>atC p c
 | _::p,.loop c=>atC p c
 | _,c=>c
end Go.Abs
namespace Go.Abs
def faddrS (off:Nat):Value→Option Value
 | .pointer (some ⟨b,o,none⟩)=>some (ptrA b (o+off))
 | _=>none
def fieldOff (P:Program) (t:TypeId) (i:Nat):Option Nat:=match P.underlying t with
 | some (.struct fields)=>match fields[i]? with
   | some f=>match sizeT P f.type with
     | some (_+1)=>some f.offset
     | _=>none
   | none=>none
 | _=>none
section
variable {P:Program} {call:CallF} {a:Fr} {H:Heap} {d:Option Nat} {ty:TypeId} {pos:String} {aft:Array Edge} {g:Option (Nat×Bool)}
theorem qnm (s:Sem Value) (v:Value) (h:pureVal P s=some v):(pureVal P (do let v ← s;pure (Next.value v):Sem Next)).bind valOf=some v:=by
 induction s with
 | pure a=>injection h with h;subst h;rfl
 | program k ih=>exact ih _ h
 | _=>cases h
end
def bx (p:Value) (i:Nat):Value:=ptrA (match p with | .pointer (some ⟨b,_,_⟩)=>b | _=>0) i
theorem write_own {B C:Nat} {H:Heap} {b f:Nat} {cs:List Value} (hw:WF H) (h2:B≤b) (h3:B≤f) (h4:b < C) (h5:f < C) (hb:H[b]?=some (.cells f true cs)) {i:Nat} {vs:List Value} (hi:i+vs.length≤cs.length) :
  ∃ H',H.write b i vs=some H'∧H'[b]?=some (.cells f true (setList cs i vs))∧Old B H H'∧WF H'∧Kept C H H'∧H'.length=H.length:=by
 refine ⟨(H.map (truncFam f i)).set b (.cells f true (setList cs i vs)),?_,?_,?_,?_,?_,by simp⟩
 ·simp only [Heap.write,hb]
  rw [if_pos hi]
 ·rw [List.getElem?_set];simp [qcz hb]
 ·have h3:=qo4 hw h3 (k:=i)
  refine ⟨by simp,fun x hx=>?_⟩
  rw [List.getElem?_set,if_neg (by omega),h3.2 x hx]
 ·intro b' f' o' cs' hb'
  rw [List.getElem?_set] at hb'
  split at hb'
  ·rename_i e
   subst e
   split at hb'
   ·injection hb' with hb';injection hb' with e1 _ _;subst e1;exact hw b f true cs hb
   ·cases hb'
  ·exact qsh hw b' f' o' cs' hb'
 ·intro b2 f2 o2 cs2 e1 e2 hb2
  rw [List.getElem?_set,if_neg (by omega),List.getElem?_map,hb2,Option.map_some]
  simp only [truncFam]
  rw [if_neg (by omega)]
section
variable {P:Program}
end
end Go.Abs
namespace Go.Abs
abbrev Rd:=Fr×Oper×Value
section
variable {P:Program} {call:CallF} {ops:Array Oper} {bef:Array Nat}
end
section
variable {P:Program} {call:CallF} {ops:Array Oper} {a:Fr} {H:Heap} {Gs:List Heap} {rs:List Rd} {d:Option Nat} {op:Op} {ty:TypeId} {pos:String} {aft:Array Edge} {os:List Oper}
end
end Go.Abs
namespace Go.Abs
abbrev RdI:=Nat×Fr×Oper×Value
abbrev HpI:=Option Nat×Heap
def evOpsI (P:Program) (call:CallF) (ops:Array Oper):Nat→List Oper→Fr→Heap→List HpI→List RdI→Option (Fr×Heap×List HpI×List RdI)
 | _,[],a,H,Gs,rs=>some (a,H,Gs,rs)
 | j,o::os,a,H,Gs,rs =>
   iteB (Region.wanted o (yieldedA ops a))
    (bindO (stepA P call a o H) fun v H'=>match cls o.op with
     | .eff=>evOpsI P call ops (j+1) os (putA a o.dst v) H' ((some j,H')::Gs) rs
     | .all_=>evOpsI P call ops (j+1) os (putA a o.dst v) H' Gs rs
     | .read=>evOpsI P call ops (j+1) os (putA a o.dst v) H Gs ((j,a,o,v)::rs)
     | .pure_=>evOpsI P call ops (j+1) os (putA a o.dst v) H Gs rs)
    (evOpsI P call ops (j+1) os (putA a o.dst undef) H Gs rs)
def ordB (bef:Array Nat) (e:Option Nat) (j:Nat):Bool:=match e with
 | none=>false
 | some e=>decide (j < e) && (bef.getD e 0).testBit j
section
variable {P:Program} {call:CallF} {ops:Array Oper} {bef:Array Nat}
theorem qin:∀ (l:List Oper) (j:Nat) (a:Fr) (H:Heap) (Gs:List HpI) (rs:List RdI) (a':Fr) (H':Heap) (Gs':List HpI) (rs':List RdI),evOpsI P call ops j l a H Gs rs=some (a',H',Gs',rs')→(∀ G∈Gs,G∈Gs')∧∀ r∈rs,r∈rs':=by
 intro l
 induction l with
 | nil=>intro j a H Gs rs a' H' Gs' rs' h;cases h;exact ⟨fun _ h=>h,fun _ h=>h⟩
 | cons o l ih =>
   intro j a H Gs rs a' H' Gs' rs' h
   unfold evOpsI at h
   cases hw:Region.wanted o (yieldedA ops a) with
   | false=>rw [hw] at h;exact ih _ _ _ _ _ _ _ _ _ h
   | true =>
     rw [hw] at h
     simp only [iteB] at h
     cases hs:stepA P call a o H with
     | none=>rw [hs] at h;cases h
     | some q =>
       obtain ⟨v,H1⟩:=q
       rw [hs] at h
       simp only [bindO] at h
       cases hc:cls o.op with
       | eff =>
         rw [hc] at h
         have:=ih _ _ _ _ _ _ _ _ _ h
         exact ⟨fun G hG=>this.1 G (List.mem_cons_of_mem _ hG),this.2⟩
       | all_=>rw [hc] at h;exact ih _ _ _ _ _ _ _ _ _ h
       | read =>
         rw [hc] at h
         have:=ih _ _ _ _ _ _ _ _ _ h
         exact ⟨this.1,fun r hr=>this.2 r (List.mem_cons_of_mem _ hr)⟩
       | pure_=>rw [hc] at h;exact ih _ _ _ _ _ _ _ _ _ h
theorem window_mem:∀ (m:Nat) (st:List HpI),∀ G∈window m st,∃ x∈st,x.2=G:=by
 intro m st
 induction st with
 | nil=>intro G hG;cases hG
 | cons x st ihs =>
   intro G hG
   obtain ⟨x1,x2⟩:=x
   cases x1 with
   | none =>
     rcases List.mem_cons.1 hG with rfl | hG
     ·exact ⟨_,List.mem_cons_self ..,rfl⟩
     ·obtain ⟨y,hy,e⟩:=ihs G hG
      exact ⟨y,List.mem_cons_of_mem _ hy,e⟩
   | some e =>
     unfold window at hG
     split at hG
     ·simp at hG;subst hG;exact ⟨_,List.mem_cons_self ..,rfl⟩
     ·rcases List.mem_cons.1 hG with rfl | hG
      ·exact ⟨_,List.mem_cons_self ..,rfl⟩
      ·obtain ⟨y,hy,e⟩:=ihs G hG
       exact ⟨y,List.mem_cons_of_mem _ hy,e⟩
theorem qsi {Gs:List HpI} {rs:List RdI} (hst:∀ G∈Gs,∀ r∈rs,ordB bef G.1 r.1=false→stillReads P G.2 r.2.1 r.2.2.1 r.2.2.2=true):∀ (l:List Oper) (j:Nat) (a:Fr) (H:Heap) (st:List HpI) (pd:Pend) (Gs0:List HpI) (rs0:List RdI) (a':Fr) (H':Heap),ops.toList.drop j=l →
  (∀ x∈st,x∈Gs∧∀ e,x.1=some e→e < j)→(∀ p∈pd,p∈rs∧p.1 < j)→evOpsI P call ops j l a H Gs0 rs0=some (a',H',Gs,rs)→evDraw P call ops bef ((List.range ops.size).drop j) a H st pd=some (a',H'):=by
 intro l
 induction l with
 | nil =>
   intro j a H st pd Gs0 rs0 a' H' hd _ _ h
   have:ops.size≤j:=by
    apply Nat.le_of_not_lt
    intro h
    rw [List.drop_eq_getElem_cons (by simpa using h)] at hd
    cases hd
   rw [List.drop_eq_nil_of_le (by simpa using this)]
   cases h;rfl
 | cons o l ih =>
   intro j a H st pd Gs0 rs0 a' H' hd hs1 hp1 h
   obtain ⟨h1,h2,h3⟩:=drop_at hd
   have hj:j < ops.size:=by simpa using h3
   have ho:ops[j]?=some o:=by rw [← Array.getElem?_toList];exact h1
   have hs2:∀ x∈st,x∈Gs∧∀ e,x.1=some e→e < j+1:=fun x hx=>⟨(hs1 x hx).1,fun e he=>Nat.lt_succ_of_lt ((hs1 x hx).2 e he)⟩
   have hp2:∀ p∈pd,p∈rs∧p.1 < j+1:=fun p hp=>⟨(hp1 p hp).1,Nat.lt_succ_of_lt (hp1 p hp).2⟩
   rw [qmg hj,evDraw,ho]
   simp only
   unfold evOpsI at h
   cases hw:Region.wanted o (yieldedA ops a) with
   | false =>
     rw [hw] at h
     simp only [Bool.false_eq_true,if_false]
     exact ih (j+1) _ _ _ _ _ _ _ _ h2 hs2 hp2 h
   | true =>
     rw [hw] at h
     simp only [iteB] at h
     simp only [if_true]
     cases hs:stepA P call a o H with
     | none=>rw [hs] at h;cases h
     | some q =>
       obtain ⟨v,H1⟩:=q
       rw [hs] at h
       simp only [bindO] at h
       cases hc:cls o.op with
       | eff =>
         rw [hc] at h
         simp only
         have hm:=qin _ _ _ _ _ _ _ _ _ _ h
         have hG:=hm.1 (some j,H1) (List.mem_cons_self ..)
         have hall:((pd.filter fun p=>!(bef.getD j 0).testBit p.1).all fun p=>stillReads P H1 p.2.1 p.2.2.1 p.2.2.2)=true:=by
          rw [List.all_eq_true]
          intro p hp
          have hp':=List.mem_filter.1 hp
          refine hst _ hG p (hp1 p hp'.1).1 ?_
          have hb:(bef.getD j 0).testBit p.1=false:=by simpa using hp'.2
          simp only [ordB,hb,Bool.and_false]
         rw [hall]
         simp only [if_true]
         refine ih (j+1) _ _ _ _ _ _ _ _ h2 (fun x hx=>?_) (fun p hp=>hp2 p (List.mem_filter.1 hp).1) h
         rcases List.mem_cons.1 hx with rfl | hx
         ·exact ⟨hG,fun e he=>by injection he with he;omega⟩
         ·exact hs2 x hx
       | all_ =>
         rw [hc] at h
         rw [qnl hc] at hs
         simp only [hs]
         exact ih (j+1) _ _ _ _ _ _ _ _ h2 hs2 hp2 h
       | read =>
         rw [hc] at h
         rw [qfv hc] at hs
         have hm:=qin _ _ _ _ _ _ _ _ _ _ h
         have hr:=hm.2 (j,a,o,v) (List.mem_cons_self ..)
         simp only [hs]
         have hall:((window (bef.getD j 0) st).all fun G=>stillReads P G a o v)=true:=by
          rw [List.all_eq_true]
          intro G hG
          obtain ⟨x,hx,rfl⟩:=window_mem _ _ G hG
          refine hst x (hs1 x hx).1 _ hr ?_
          unfold ordB
          split
          ·rfl
          ·rename_i e he
           have:=(hs1 x hx).2 e he
           rw [show decide (j < e)=false from by simp;omega,Bool.false_and]
         rw [hall]
         simp only [if_true]
         refine ih (j+1) _ _ _ _ _ _ _ _ h2 hs2 (fun p hp=>?_) h
         rcases List.mem_cons.1 hp with rfl | hp
         ·exact ⟨hr,Nat.lt_succ_self _⟩
         ·exact hp2 p hp
       | pure_ =>
         rw [hc] at h
         rw [qlc hc] at hs
         simp only [hs]
         exact ih (j+1) _ _ _ _ _ _ _ _ h2 hs2 hp2 h
end
section
variable {P:Program} {call:CallF} {ops:Array Oper} {a:Fr} {H:Heap} {Gs:List HpI} {rs:List RdI} {d:Option Nat} {op:Op} {ty:TypeId} {pos:String} {aft:Array Edge} {os:List Oper} {j:Nat}
end
end Go.Abs
namespace Go.Abs
section
variable {P:Program} {call:CallF} {a:Fr} {H:Heap} {d:Option Nat} {ty:TypeId} {pos:String} {aft:Array Edge} {g:Option (Nat×Bool)}
end
end Go.Abs
namespace Go.Abs
inductive VV where
 | sc (v:Value)
 | nl
 | fz (n sz:Nat) (cs:List VV)
 | st (cs:List VV)
 | tup (vs:List VV)
 | own (id ver:Nat)
 | ptr (id ver i:Nat)
 | rp (cs:List VV)
 | mp (es:List (Value×Value))
 | bad
structure Ob where
 ver:Nat
 n:Nat
 sz:Nat
 cs:List VV
abbrev VSt:=Nat→Option Ob
abbrev VF:=Nat→VV
def updV {α:Type} (a:Nat→α) (t:Nat) (v:α):Nat→α:=fun i=>if i=t then v else a i
def scOk:Value→Bool
 | .bool _ | .int _ _ | .string _ | .nilFunc | .nilIface | .pointer none | .map none=>true
 | .func (.func _) fs cs=>fs.isEmpty && cs.isEmpty
 | _=>false
def View (Z:Nat→Prop) (H:Heap) (v:Value) (n sz:Nat) (vs:List Value):Prop :=
 vs.length=n*sz∧0 < sz∧((n=0∧(v = .slice none 0 0∨v=lostSlice))∨∃ b o f w bs,v=sliceA b o n sz∧H[b]?=some (.cells f w bs)∧Z f∧o+n*sz≤bs.length∧(bs.drop o).take (n*sz)=vs)
mutual
/-- A value that holds no address of the call's own. -/
def RepC (Z:Nat→Prop) (H:Heap):VV→Value→Prop
 | .sc w,v=>v=w∧scOk w=true
 | .nl,v=>v = .slice none 0 0
 | .fz n sz cs,v=>∃ vs,View Z H v n sz vs∧RepCL Z H cs vs
 | .st cs,v=>∃ vs:List Value,v = .agg vs.toArray∧RepCL Z H cs vs
 | .tup cs,v=>∃ vs:List Value,v = .tuple vs.toArray∧RepCL Z H cs vs
 | .own _ _,_=>False
 | .ptr _ _ _,_=>False
 | .rp _,_=>False
 | .mp es,v=>∃ b,v = .map (some b)∧H[b]?=some (.map es)
 | .bad,_=>False
def RepCL (Z:Nat→Prop) (H:Heap):List VV→List Value→Prop
 | [],vs=>vs=[]
 | c::cs,vs=>∃ w ws,vs=w::ws∧RepC Z H c w∧RepCL Z H cs ws
end
def ownVal:Option (Nat×Nat)→Nat→Nat→Value
 | none,_,_=>.slice none 0 0
 | some (b,_),n,sz=>sliceA b 0 n sz
abbrev Rho:=Nat→Option (Nat×Nat)
def RepX (Z:Nat→Prop) (ρ:Rho) (σ:VSt) (c:Nat) (H:Heap):VV→Value→Prop
 | .own id ver,v=>ver < c∧∀ o,σ id=some o→o.ver=ver→0 < o.sz∧v=ownVal (ρ id) o.n o.sz
 | .ptr id ver i,v=>ver < c∧∀ o,σ id=some o→o.ver=ver→∃ b f,ρ id=some (b,f)∧v=ptrA b i
 | .rp cs,v=>∃ b o f w bs,v=ptrA b o∧H[b]?=some (.cells f w bs)∧Z f∧o+cs.length≤bs.length∧RepCL Z H cs ((bs.drop o).take cs.length)
 | .bad,_=>True
 | .mp es,v=>RepC Z H (.mp es) v
 | .sc w,v=>RepC Z H (.sc w) v
 | .nl,v=>RepC Z H .nl v
 | .fz n sz cs,v=>RepC Z H (.fz n sz cs) v
 | .st cs,v=>RepC Z H (.st cs) v
 | .tup cs,v=>RepC Z H (.tup cs) v
def RepF (Z:Nat→Prop) (ρ:Rho) (σ:VSt) (c:Nat) (H:Heap):VV→Value→Prop
 | .st cs,v=>∃ vs:List Value,v = .agg vs.toArray∧All2 (RepX Z ρ σ c H) cs vs
 | .tup cs,v=>∃ vs:List Value,v = .tuple vs.toArray∧All2 (RepX Z ρ σ c H) cs vs
 | A,v=>RepX Z ρ σ c H A v
def ObR (Z:Nat→Prop) (B:Nat) (ρ:Rho) (σ:VSt) (c:Nat) (H:Heap) (o:Ob):Option (Nat×Nat)→Prop
 | none=>0 < o.sz∧o.n=0∧o.cs=[]
 | some (b,f)=>B≤b∧B≤f∧∃ bs,H[b]?=some (.cells f true bs)∧o.cs.length≤bs.length ∧
  (if o.sz=0 then All2 (RepX Z ρ σ c H) o.cs (bs.take o.cs.length) else o.cs.length=o.n*o.sz∧RepCL Z H o.cs (bs.take o.cs.length))
def ZZ (Z:Nat→Prop) (B:Nat) (ρ:Rho) (σ:VSt) (f:Nat):Prop:=(Z f∨B≤f)∧∀ id o b g,σ id=some o→ρ id=some (b,g)→f≠g
structure VRl (Z:Nat→Prop) (H0:Heap) (ρ:Rho) (σ:VSt) (c:Nat) (H:Heap):Prop where
 wf:WF H
 old:Old H0.length H0 H
 ver:∀ id o,σ id=some o→o.ver < c
 obj:∀ id o,σ id=some o→ObR (ZZ Z H0.length ρ σ) H0.length ρ σ c H o (ρ id)
 dist:∀ i j o o' b b' f,σ i=some o→σ j=some o'→ρ i=some (b,f)→ρ j=some (b',f)→i=j
theorem qb3 {Z:Nat→Prop} {H:Heap}:∀ {cs:List VV} {vs:List Value},RepCL Z H cs vs↔All2 (RepC Z H) cs vs:=by
 intro cs
 induction cs with
 | nil =>
   intro vs
   simp only [RepCL]
   constructor
   ·rintro rfl;exact .nil
   ·intro h;cases h;rfl
 | cons c cs ih =>
   intro vs
   simp only [RepCL]
   constructor
   ·rintro ⟨w,ws,rfl,h1,h2⟩
    exact .cons h1 (ih.1 h2)
   ·intro h
    cases h with
    | cons h1 h2=>exact ⟨_,_,rfl,h1,ih.2 h2⟩
def KeepZ (Z:Nat→Prop) (Z':Nat→Prop) (H H':Heap):Prop:=(∀ (b f:Nat) (w:Bool) (bs:List Value),Z f→H[b]?=some (.cells f w bs)→Z' f∧H'[b]?=some (.cells f w bs))∧∀ (b:Nat) (es:List (Value×Value)),H[b]?=some (.map es)→H'[b]?=some (.map es)
theorem KeepZ.trans {Z1 Z2 Z3:Nat→Prop} {H1 H2 H3:Heap} (h:KeepZ Z1 Z2 H1 H2) (k:KeepZ Z2 Z3 H2 H3):KeepZ Z1 Z3 H1 H3:=⟨fun b f w bs z e=>by
 obtain ⟨z2,e2⟩:=h.1 b f w bs z e
 exact k.1 b f w bs z2 e2,fun b es e=>k.2 b es (h.2 b es e)⟩
theorem View.keep {Z Z':Nat→Prop} {H H':Heap} {v:Value} {n sz:Nat} {vs:List Value} (h:View Z H v n sz vs) (k:KeepZ Z Z' H H'):View Z' H' v n sz vs:=by
 obtain ⟨h1,h2,h3⟩:=h
 refine ⟨h1,h2,?_⟩
 rcases h3 with h3 | ⟨b,o,f,w,bs,e1,e2,e3,e4,e5⟩
 ·exact .inl h3
 ·obtain ⟨z,e⟩:=k.1 b f w bs e3 e2
  exact .inr ⟨b,o,f,w,bs,e1,e,z,e4,e5⟩
mutual
theorem RepC.keep {Z Z':Nat→Prop} {H H':Heap} (k:KeepZ Z Z' H H'):∀ (A:VV) (v:Value),RepC Z H A v→RepC Z' H' A v
 | .sc w,v,h=>by simp only [RepC] at h ⊢;exact h
 | .nl,v,h=>by simp only [RepC] at h ⊢;exact h
 | .fz n sz cs,v,h=>by
   simp only [RepC] at h ⊢
   obtain ⟨vs,h1,h2⟩:=h
   exact ⟨vs,h1.keep k,RepCL.keep k cs vs h2⟩
 | .st cs,v,h=>by
   simp only [RepC] at h ⊢
   obtain ⟨vs,h1,h2⟩:=h
   exact ⟨vs,h1,RepCL.keep k cs vs h2⟩
 | .tup cs,v,h=>by
   simp only [RepC] at h ⊢
   obtain ⟨vs,h1,h2⟩:=h
   exact ⟨vs,h1,RepCL.keep k cs vs h2⟩
 | .own _ _,v,h=>by simp only [RepC] at h
 | .ptr _ _ _,v,h=>by simp only [RepC] at h
 | .rp _,v,h=>by simp only [RepC] at h
 | .mp es,v,h=>by
   simp only [RepC] at h ⊢
   obtain ⟨b,h1,h2⟩:=h
   exact ⟨b,h1,k.2 b es h2⟩
 | .bad,v,h=>by simp only [RepC] at h
theorem RepCL.keep {Z Z':Nat→Prop} {H H':Heap} (k:KeepZ Z Z' H H'):∀ (cs:List VV) (vs:List Value),RepCL Z H cs vs→RepCL Z' H' cs vs
 | [],vs,h=>by simp only [RepCL] at h ⊢;exact h
 | c::cs,vs,h=>by
   simp only [RepCL] at h ⊢
   obtain ⟨w,ws,e,h1,h2⟩:=h
   exact ⟨w,ws,e,RepC.keep k c w h1,RepCL.keep k cs ws h2⟩
end
structure Tr (Z:Nat→Prop) (B:Nat) (ρ:Rho) (σ:VSt) (c:Nat) (H:Heap) (ρ':Rho) (σ':VSt) (c':Nat) (H':Heap):Prop where
 keep:KeepZ (ZZ Z B ρ σ) (ZZ Z B ρ' σ') H H'
 le:c≤c'
 refs:∀ id o',σ' id=some o'→o'.ver < c→∃ o,σ id=some o∧o.ver=o'.ver∧o.n=o'.n∧o.sz=o'.sz∧ρ' id=ρ id
 len:H.length≤H'.length
 fam:∀ id o' b f,σ' id=some o'→ρ' id=some (b,f)→(∃ o b0,σ id=some o∧ρ id=some (b0,f)∧o.sz=o'.sz)∨H.length≤f
section
variable {Z:Nat→Prop} {B:Nat} {ρ ρ':Rho} {σ σ':VSt} {c c':Nat} {H H':Heap}
theorem RepC.toX {A:VV} {v:Value} (h:RepC Z H A v):RepX Z ρ σ c H A v:=by
 cases A<;>simp only [RepX]<;>first | exact h | (simp only [RepC] at h)
theorem RepCL.toX {cs:List VV} {vs:List Value} (h:RepCL Z H cs vs):All2 (RepX Z ρ σ c H) cs vs:=(qb3.1 h).mono fun _ _ h=>h.toX
theorem RepC.toF {A:VV} {v:Value} (h:RepC Z H A v):RepF Z ρ σ c H A v:=by
 cases A with
 | st cs=>simp only [RepC] at h;simp only [RepF];obtain ⟨vs,e,h⟩:=h;exact ⟨vs,e,h.toX⟩
 | tup cs=>simp only [RepC] at h;simp only [RepF];obtain ⟨vs,e,h⟩:=h;exact ⟨vs,e,h.toX⟩
 | _=>simp only [RepF];exact h.toX
theorem RepX.tr {A:VV} {v:Value} (h:RepX (ZZ Z B ρ σ) ρ σ c H A v) (t:Tr Z B ρ σ c H ρ' σ' c' H'):RepX (ZZ Z B ρ' σ') ρ' σ' c' H' A v:=by
 cases A with
 | own id ver =>
   simp only [RepX] at h ⊢
   refine ⟨Nat.lt_of_lt_of_le h.1 t.le,fun o' h1 h2=>?_⟩
   obtain ⟨o,e1,e2,e3,e4,e5⟩:=t.refs id o' h1 (by rw [h2];exact h.1)
   have:=h.2 o e1 (by rw [e2,h2])
   rw [← e3,← e4,e5];exact this
 | ptr id ver i =>
   simp only [RepX] at h ⊢
   refine ⟨Nat.lt_of_lt_of_le h.1 t.le,fun o' h1 h2=>?_⟩
   obtain ⟨o,e1,e2,e3,e4,e5⟩:=t.refs id o' h1 (by rw [h2];exact h.1)
   have:=h.2 o e1 (by rw [e2,h2])
   rw [e5];exact this
 | rp cs =>
   simp only [RepX] at h ⊢
   obtain ⟨b,o,f,w,bs,e1,e2,e3,e4,e5⟩:=h
   obtain ⟨z,e⟩:=t.keep.1 b f w bs e3 e2
   exact ⟨b,o,f,w,bs,e1,e,z,e4,RepCL.keep t.keep _ _ e5⟩
 | bad=>simp only [RepX]
 | _=>simp only [RepX] at h ⊢;exact RepC.keep t.keep _ _ h
theorem RepF.tr {A:VV} {v:Value} (h:RepF (ZZ Z B ρ σ) ρ σ c H A v) (t:Tr Z B ρ σ c H ρ' σ' c' H'):RepF (ZZ Z B ρ' σ') ρ' σ' c' H' A v:=by
 cases A with
 | st cs=>simp only [RepF] at h ⊢;obtain ⟨vs,e,h⟩:=h;exact ⟨vs,e,h.mono fun _ _ h=>h.tr t⟩
 | tup cs=>simp only [RepF] at h ⊢;obtain ⟨vs,e,h⟩:=h;exact ⟨vs,e,h.mono fun _ _ h=>h.tr t⟩
 | _=>simp only [RepF] at h ⊢;exact h.tr t
end
theorem Tr.refl (Z:Nat→Prop) (B:Nat) (ρ:Rho) (σ:VSt) (c:Nat) (H:Heap):Tr Z B ρ σ c H ρ σ c H:=⟨⟨fun _ _ _ _ z e=>⟨z,e⟩,fun _ _ e=>e⟩,Nat.le_refl _,fun id o' h _=>⟨o',h,rfl,rfl,rfl,rfl⟩,Nat.le_refl _,fun id o' b f h h2=>.inl ⟨o',b,h,h2,rfl⟩⟩
theorem ObR.tr {Z:Nat→Prop} {B:Nat} {ρ ρ':Rho} {σ σ':VSt} {c c':Nat} {H H':Heap} {o:Ob} {p:Option (Nat×Nat)} (h:ObR (ZZ Z B ρ σ) B ρ σ c H o p) (t:Tr Z B ρ σ c H ρ' σ' c' H')
  (hb:∀ b f bs,p=some (b,f)→H[b]?=some (.cells f true bs)→H'[b]?=some (.cells f true bs)):ObR (ZZ Z B ρ' σ') B ρ' σ' c' H' o p:=by
 cases p with
 | none=>exact h
 | some p =>
   obtain ⟨b,f⟩:=p
   simp only [ObR] at h ⊢
   obtain ⟨h1,h2,bs,h3,h4,h5⟩:=h
   refine ⟨h1,h2,bs,hb b f bs rfl h3,h4,?_⟩
   split at h5
   ·rename_i hz;rw [if_pos hz];exact h5.mono fun _ _ h=>h.tr t
   ·rename_i hz;rw [if_neg hz];exact ⟨h5.1,RepCL.keep t.keep _ _ h5.2⟩
end Go.Abs
namespace Go.Abs
def getO (σ:VSt) (id ver:Nat):Option Ob:=match σ id with
 | some o=>if o.ver=ver then some o else none
 | none=>none
theorem qck {σ:VSt} {id ver:Nat} {o:Ob} (h:getO σ id ver=some o):σ id=some o∧o.ver=ver:=by
 unfold getO at h
 split at h
 ·rename_i o' e
  split at h
  ·rename_i e2;injection h with h;subst h;exact ⟨e,e2⟩
  ·cases h
 ·cases h
def peek1 (σ:VSt):VV→Option VV
 | .own id ver=>match getO σ id ver with
   | some o=>if o.sz=0 then none else some (.fz o.n o.sz o.cs)
   | none=>none
 | .sc w=>some (.sc w)
 | .nl=>some .nl
 | .fz n sz cs=>some (.fz n sz cs)
 | _=>none
def peekL1 (σ:VSt):List VV→Option (List VV)
 | []=>some []
 | A::l=>match peek1 σ A,peekL1 σ l with
   | some x,some r=>some (x::r)
   | _,_=>none
def peek (σ:VSt):VV→Option VV
 | .st cs=>match peekL1 σ cs with
   | some r=>some (.st r)
   | none=>none
 | .tup cs=>match peekL1 σ cs with
   | some r=>some (.tup r)
   | none=>none
 | A=>peek1 σ A
def peekL (σ:VSt):List VV→Option (List VV)
 | []=>some []
 | A::l=>match peek σ A,peekL σ l with
   | some x,some r=>some (x::r)
   | _,_=>none
def ownIds1:VV→List Nat
 | .own id _=>[id]
 | _=>[]
def ownIds:VV→List Nat
 | .st cs=>cs.flatMap ownIds1
 | .tup cs=>cs.flatMap ownIds1
 | A=>ownIds1 A
def killL (σ:VSt) (ids:List Nat):VSt:=fun id=>if ids.contains id then none else σ id
def setLs {α:Type}:List α→Nat→List α→List α
 | cs,_,[]=>cs
 | cs,o,v::vs=>setLs (cs.set o v) (o+1) vs
theorem qd3 {α:Type} (vs:List α):∀ (cs:List α) (o:Nat),(setLs cs o vs).length=cs.length:=by
 induction vs with
 | nil=>intro cs o;rfl
 | cons v vs ih=>intro cs o;rw [setLs,ih,List.length_set]
theorem All2.setLs {α β:Type} {R:α→β→Prop} {xs:List α} {ys:List β} (h:All2 R xs ys):∀ {cs:List α} {ds:List β} (o:Nat),All2 R cs ds→All2 R (Abs.setLs cs o xs) (Abs.setLs ds o ys):=by
 induction h with
 | nil=>intro cs ds o h;exact h
 | cons h1 _ ih=>intro cs ds o h;exact ih _ (h.set h1 o)
theorem qsj (vs:List Value):∀ (cs:List Value) (o:Nat),setLs cs o vs=setList cs o vs:=by
 induction vs with
 | nil=>intro cs o;rfl
 | cons v vs ih=>intro cs o;exact ih _ _
theorem qo5 {α:Type} (vs:List α):∀ (cs ds:List α) (o:Nat),o+vs.length≤cs.length→setLs (cs++ds) o vs=setLs cs o vs++ds:=by
 induction vs with
 | nil=>intro cs ds o _;rfl
 | cons v vs ih =>
   intro cs ds o h
   simp only [List.length_cons] at h
   rw [setLs,setLs,List.set_append_left _ _ (by omega)]
   exact ih _ _ _ (by rw [List.length_set];omega)
section
variable {Z:Nat→Prop} {H0:Heap} {ρ:Rho} {σ:VSt} {c:Nat} {H:Heap}
theorem VRl.le (h:VRl Z H0 ρ σ c H):H0.length≤H.length:=h.old.1
theorem VRl.blk (h:VRl Z H0 ρ σ c H) {id:Nat} {o:Ob} (ho:σ id=some o) {b f:Nat} (hr:ρ id=some (b,f)):H0.length≤b∧H0.length≤f∧b < H.length∧f≤b:=by
 have:=h.obj id o ho
 rw [hr] at this
 obtain ⟨h1,h2,bs,h3,_⟩:=this
 exact ⟨h1,h2,qcz h3,h.wf b f true bs h3⟩
theorem qdb {ids:List Nat} {id:Nat} {o:Ob} (h:killL σ ids id=some o):σ id=some o∧id ∉ ids:=by
 unfold killL at h
 split at h
 ·cases h
 ·rename_i hn;exact ⟨h,by simpa using hn⟩
theorem qnn (h:VRl Z H0 ρ σ c H) (ids:List Nat):Tr Z H0.length ρ σ c H ρ (killL σ ids) c H:=by
 refine ⟨⟨fun b f w bs z e=>⟨⟨z.1,fun id o b' g h1 h2=>z.2 id o b' g (qdb h1).1 h2⟩,e⟩,fun _ _ e=>e⟩,Nat.le_refl _,fun id o' h1 _=>⟨o',(qdb h1).1,rfl,rfl,rfl,rfl⟩,Nat.le_refl _,fun id o' b f h1 h2=>.inl ⟨o',b,(qdb h1).1,h2,rfl⟩⟩
theorem qsk (h:VRl Z H0 ρ σ c H) (ids:List Nat):VRl Z H0 ρ (killL σ ids) c H :=
 ⟨h.wf,h.old,fun id o e=>h.ver id o (qdb e).1,fun id o e=>(h.obj id o (qdb e).1).tr (qnn h ids) (fun _ _ _ _ e=>e),fun i j o o' b b' f e1 e2=>h.dist i j o o' b b' f (qdb e1).1 (qdb e2).1⟩
theorem qo6 (h:VRl Z H0 ρ σ c H) {ids:List Nat} {id:Nat} {o:Ob} (ho:σ id=some o) {b f:Nat} (hr:ρ id=some (b,f)) (hi:id∈ids):ZZ Z H0.length ρ (killL σ ids) f:=by
 refine ⟨.inr (h.blk ho hr).2.1,fun id' o' b' g e1 e2 e3=>?_⟩
 subst e3
 obtain ⟨e1,hn⟩:=qdb e1
 exact hn (h.dist id' id o' o b' b f e1 ho e2 hr▸hi)
theorem qld (h:VRl Z H0 ρ σ c H) {Y:Nat→Prop} (hk:KeepZ (ZZ Z H0.length ρ σ) Y H H) {A A':VV} {v:Value} (hA:RepX (ZZ Z H0.length ρ σ) ρ σ c H A v) (hp:peek1 σ A=some A')
  (hY:∀ id∈ownIds1 A,∀ o b f,σ id=some o→ρ id=some (b,f)→Y f):RepC Y H A' v:=by
 cases A with
 | own id ver =>
   simp only [peek1] at hp
   split at hp
   ·rename_i o hg
    obtain ⟨ho,hv⟩:=qck hg
    split at hp
    ·cases hp
    ·rename_i hz
     injection hp with hp
     subst hp
     simp only [RepX] at hA
     obtain ⟨_,hA⟩:=hA
     obtain ⟨hz2,e⟩:=hA o ho hv
     have ob:=h.obj id o ho
     cases hr:ρ id with
     | none =>
       rw [hr] at ob e
       obtain ⟨_,h2,h3⟩:=ob
       simp only [RepC]
       refine ⟨[],⟨by rw [h2,Nat.zero_mul];rfl,hz2,.inl ⟨h2,.inl ?_⟩⟩,by rw [h3];simp only [RepCL]⟩
       rw [e];rfl
     | some p =>
       obtain ⟨b,f⟩:=p
       rw [hr] at ob e
       obtain ⟨h1,h2,bs,h3,h4,h5⟩:=ob
       rw [if_neg hz] at h5
       simp only [RepC]
       refine ⟨bs.take o.cs.length,⟨by rw [List.length_take];omega,hz2,.inr ⟨b,0,f,true,bs,by rw [e];rfl,h3,hY id (by simp [ownIds1]) o b f ho hr,by omega,by rw [List.drop_zero,h5.1]⟩⟩,RepCL.keep hk _ _ h5.2⟩
   ·cases hp
 | sc w=>simp only [peek1] at hp;injection hp with hp;subst hp;exact RepC.keep hk _ _ hA
 | nl=>simp only [peek1] at hp;injection hp with hp;subst hp;exact RepC.keep hk _ _ hA
 | fz n sz cs=>simp only [peek1] at hp;injection hp with hp;subst hp;exact RepC.keep hk _ _ hA
 | _=>simp only [peek1] at hp;cases hp
theorem qgw (h:VRl Z H0 ρ σ c H) {Y:Nat→Prop} (hk:KeepZ (ZZ Z H0.length ρ σ) Y H H):∀ {l l':List VV} {vs:List Value},All2 (RepX (ZZ Z H0.length ρ σ) ρ σ c H) l vs→peekL1 σ l=some l' →
  (∀ id∈l.flatMap ownIds1,∀ o b f,σ id=some o→ρ id=some (b,f)→Y f)→RepCL Y H l' vs:=by
 intro l
 induction l with
 | nil =>
   intro l' vs hA hp _
   cases hA
   simp only [peekL1] at hp
   injection hp with hp;subst hp
   simp only [RepCL]
 | cons A l ih =>
   intro l' vs hA hp hY
   cases hA with
   | cons h1 h2 =>
     simp only [peekL1] at hp
     split at hp
     ·rename_i x r e1 e2
      injection hp with hp;subst hp
      simp only [RepCL]
      exact ⟨_,_,rfl,qld h hk h1 e1 (fun id hi=>hY id (by simp [hi])),ih h2 e2 (fun id hi=>hY id (by rw [List.flatMap_cons];exact List.mem_append.2 (.inr hi)))⟩
     ·cases hp
theorem RepF.toX {A:VV} {v:Value} (hA:RepF Z ρ σ c H A v) (h1:∀ cs,A≠.st cs) (h2:∀ cs,A≠.tup cs):RepX Z ρ σ c H A v:=by
 cases A with
 | st cs=>exact absurd rfl (h1 cs)
 | tup cs=>exact absurd rfl (h2 cs)
 | _=>simpa only [RepF] using hA
theorem qjc (h:VRl Z H0 ρ σ c H) {Y:Nat→Prop} (hk:KeepZ (ZZ Z H0.length ρ σ) Y H H) {A A':VV} {v:Value} (hA:RepF (ZZ Z H0.length ρ σ) ρ σ c H A v) (hp:peek σ A=some A')
  (hY:∀ id∈ownIds A,∀ o b f,σ id=some o→ρ id=some (b,f)→Y f):RepC Y H A' v:=by
 cases A with
 | st cs =>
   simp only [peek] at hp
   split at hp
   ·rename_i r e
    injection hp with hp;subst hp
    simp only [RepF] at hA
    obtain ⟨vs,e2,h2⟩:=hA
    simp only [RepC]
    exact ⟨vs,e2,qgw h hk h2 e hY⟩
   ·cases hp
 | tup cs =>
   simp only [peek] at hp
   split at hp
   ·rename_i r e
    injection hp with hp;subst hp
    simp only [RepF] at hA
    obtain ⟨vs,e2,h2⟩:=hA
    simp only [RepC]
    exact ⟨vs,e2,qgw h hk h2 e hY⟩
   ·cases hp
 | _=>exact qld h hk (hA.toX (by simp) (by simp)) hp hY
theorem qeo (h:VRl Z H0 ρ σ c H) {Y:Nat→Prop} (hk:KeepZ (ZZ Z H0.length ρ σ) Y H H):∀ {l l':List VV} {vs:List Value},All2 (RepF (ZZ Z H0.length ρ σ) ρ σ c H) l vs→peekL σ l=some l' →
  (∀ id∈l.flatMap ownIds,∀ o b f,σ id=some o→ρ id=some (b,f)→Y f)→RepCL Y H l' vs:=by
 intro l
 induction l with
 | nil =>
   intro l' vs hA hp _
   cases hA
   simp only [peekL] at hp
   injection hp with hp;subst hp
   simp only [RepCL]
 | cons A l ih =>
   intro l' vs hA hp hY
   cases hA with
   | cons h1 h2 =>
     simp only [peekL] at hp
     split at hp
     ·rename_i x r e1 e2
      injection hp with hp;subst hp
      simp only [RepCL]
      exact ⟨_,_,rfl,qjc h hk h1 e1 (fun id hi=>hY id (by simp [hi])),ih h2 e2 (fun id hi=>hY id (by rw [List.flatMap_cons];exact List.mem_append.2 (.inr hi)))⟩
     ·cases hp
theorem keepT (hZ:Nat→Prop):KeepZ hZ (fun _=>True) H H:=⟨fun _ _ _ _ _ e=>⟨trivial,e⟩,fun _ _ e=>e⟩
theorem qb2 {α:Type} {σ:Nat→Option α} {d id:Nat} {x o:α} (h:updV σ d (some x) id=some o):(id=d∧o=x)∨(id≠d∧σ id=some o):=by
 unfold updV at h
 split at h
 ·rename_i e;injection h with h;exact .inl ⟨e,h.symm⟩
 ·rename_i e;exact .inr ⟨e,h⟩
theorem qd8 {α:Type} {σ:Nat→α} {d:Nat} {x:α}:updV σ d x d=x:=by simp [updV]
theorem qd9 {α:Type} {σ:Nat→α} {d i:Nat} {x:α} (h:i≠d):updV σ d x i=σ i:=by simp [updV,h]
theorem make_tr (h:VRl Z H0 ρ σ c H) {H':Heap} (d b f:Nat) (o:Ob) (hv:o.ver=c) (hf:∀ (b f':Nat) (w:Bool) (bs:List Value),H[b]?=some (.cells f' w bs)→ZZ Z H0.length ρ σ f'→f'≠f∧H'[b]?=some (.cells f' w bs)) (hm:∀ (b:Nat) (es:List (Value×Value)),H[b]?=some (.map es)→H'[b]?=some (.map es)) (hlen:H.length≤H'.length) (hfam:(∃ o0 b0,σ d=some o0∧ρ d=some (b0,f)∧o0.sz=o.sz)∨H.length≤f):Tr Z H0.length ρ σ c H (updV ρ d (some (b,f))) (updV σ d (some o)) (c+1) H':=by
 refine ⟨⟨fun b' f' w bs z e=>?_,hm⟩,Nat.le_succ _,fun id o' h1 h2=>?_,hlen,fun id o' b' f' h1 h2=>?_⟩
 ·obtain ⟨h1,h2⟩:=hf b' f' w bs e z
  refine ⟨⟨z.1,fun id o' b2 g e1 e2=>?_⟩,h2⟩
  rcases qb2 e1 with ⟨rfl,rfl⟩ | ⟨hn,e1⟩
  ·rw [qd8] at e2;injection e2 with e2;injection e2 with _ e2;subst e2;exact h1
  ·rw [qd9 hn] at e2;exact z.2 id o' b2 g e1 e2
 ·rcases qb2 h1 with ⟨rfl,rfl⟩ | ⟨hn,e1⟩
  ·omega
  ·exact ⟨o',e1,rfl,rfl,rfl,qd9 hn⟩
 ·rcases qb2 h1 with ⟨rfl,rfl⟩ | ⟨hn,e1⟩
  ·rw [qd8] at h2;injection h2 with h2;injection h2 with _ h2;subst h2;exact hfam
  ·rw [qd9 hn] at h2;exact .inl ⟨o',b',e1,h2,rfl⟩
theorem qno (h:VRl Z H0 ρ σ c H) (d n sz:Nat) (cs:List VV) (vs:List Value)
  (hc:if sz=0 then All2 (RepX (ZZ Z H0.length ρ σ) ρ σ c H) cs vs else cs.length=n*sz∧RepCL (ZZ Z H0.length ρ σ) H cs vs) :
  VRl Z H0 (updV ρ d (some (H.length,H.length))) (updV σ d (some ⟨c,n,sz,cs⟩)) (c+1) (H++[.cells H.length true vs]) ∧
  Tr Z H0.length ρ σ c H (updV ρ d (some (H.length,H.length))) (updV σ d (some ⟨c,n,sz,cs⟩)) (c+1) (H++[.cells H.length true vs]):=by
 have ht:Tr Z H0.length ρ σ c H (updV ρ d (some (H.length,H.length))) (updV σ d (some ⟨c,n,sz,cs⟩)) (c+1) (H++[.cells H.length true vs]) :=
  make_tr h d H.length H.length ⟨c,n,sz,cs⟩ rfl (fun b f' w bs e _=>by
   have h1:=qcz e
   have h2:=h.wf b f' w bs e
   exact ⟨by omega,by rw [List.getElem?_append_left h1];exact e⟩) (fun b es e=>by rw [List.getElem?_append_left (qa9 e)];exact e) (by simp) (.inr (Nat.le_refl _))
 refine ⟨⟨h.wf.app (Nat.le_refl _),h.old.trans ((Old.app H _).mono h.le),fun id o e=>?_,fun id o e=>?_,fun i j o o' b b' f e1 e2 e3 e4=>?_⟩,ht⟩
 ·rcases qb2 e with ⟨_,rfl⟩ | ⟨_,e⟩
  ·exact Nat.lt_succ_self _
  ·exact Nat.lt_succ_of_lt (h.ver id o e)
 ·rcases qb2 e with ⟨rfl,rfl⟩ | ⟨hn,e⟩
  ·rw [qd8]
   simp only [ObR]
   have hl:cs.length=vs.length:=by
    split at hc
    ·exact hc.length
    ·exact (qb3.1 hc.2).length
   refine ⟨h.le,h.le,vs,by simp,by omega,?_⟩
   rw [hl,List.take_length]
   split at hc
   ·rename_i hz;rw [if_pos hz];exact hc.mono fun _ _ h=>h.tr ht
   ·rename_i hz;rw [if_neg hz];exact ⟨by omega,RepCL.keep ht.keep _ _ hc.2⟩
  ·rw [qd9 hn]
   refine (h.obj id o e).tr ht fun b f bs _ e=>?_
   rw [List.getElem?_append_left (qcz e)];exact e
 ·rcases qb2 e1 with ⟨rfl,rfl⟩ | ⟨hn,e1n⟩
  ·rcases qb2 e2 with ⟨rfl,rfl⟩ | ⟨hn2,e2n⟩
   ·rfl
   ·rw [qd8] at e3
    rw [qd9 hn2] at e4
    injection e3 with e3;injection e3 with _ e3;subst e3
    have:=h.blk e2n e4
    omega
  ·rcases qb2 e2 with ⟨rfl,rfl⟩ | ⟨hn2,e2n⟩
   ·rw [qd8] at e4
    rw [qd9 hn] at e3
    injection e4 with e4;injection e4 with _ e4;subst e4
    have:=h.blk e1n e3
    omega
   ·rw [qd9 hn] at e3
    rw [qd9 hn2] at e4
    exact h.dist i j o o' b b' f e1n e2n e3 e4
theorem qle (h:VRl Z H0 ρ σ c H) {id:Nat} {o:Ob} (ho:σ id=some o) {b f:Nat} (hr:ρ id=some (b,f)) {i:Nat} {xs:List VV} {vs:List Value} (hi:i+xs.length≤o.cs.length)
  (hc:if o.sz=0 then All2 (RepX (ZZ Z H0.length ρ σ) ρ σ c H) xs vs else RepCL (ZZ Z H0.length ρ σ) H xs vs) :
  ∃ H',H.write b i vs=some H'∧VRl Z H0 ρ (updV σ id (some ⟨o.ver,o.n,o.sz,setLs o.cs i xs⟩)) c H'∧Tr Z H0.length ρ σ c H ρ (updV σ id (some ⟨o.ver,o.n,o.sz,setLs o.cs i xs⟩)) c H':=by
 have ob:=h.obj id o ho
 rw [hr] at ob
 obtain ⟨h1,h2,bs,h3,h4,h5⟩:=ob
 have hl:xs.length=vs.length:=by
  split at hc
  ·exact hc.length
  ·exact (qb3.1 hc).length
 have hb:=h.blk ho hr
 obtain ⟨H',e,e1,e2,e3,e4,e5⟩:=write_own (C:=H.length) h.wf h1 h2 hb.2.2.1 (by omega) h3 (i:=i) (vs:=vs) (by omega)
 have hkeep:∀ (b' f':Nat) (w:Bool) (cs:List Value),H[b']?=some (.cells f' w cs)→f'≠f→H'[b']?=some (.cells f' w cs):=by
  intro b' f' w cs hb' hf'
  have hH':H'=(H.map (truncFam f i)).set b (.cells f true (setList bs i vs)):=by
   have:H.write b i vs=some ((H.map (truncFam f i)).set b (.cells f true (setList bs i vs))):=by
    simp only [Heap.write,h3];rw [if_pos (by omega)]
   rw [this] at e;injection e with e;exact e.symm
  have hne:b'≠b:=by
   intro hbb;subst hbb;rw [h3] at hb';injection hb' with hb';injection hb' with q;exact hf' q.symm
  rw [hH',List.getElem?_set,if_neg (by omega),List.getElem?_map,hb',Option.map_some,qfl]
  intro f2 o2 cs2 e;injection e with e;omega
 have hmap:∀ (b':Nat) (es:List (Value×Value)),H[b']?=some (.map es)→H'[b']?=some (.map es):=by
  intro b' es hb'
  have hH':H'=(H.map (truncFam f i)).set b (.cells f true (setList bs i vs)):=by
   have:H.write b i vs=some ((H.map (truncFam f i)).set b (.cells f true (setList bs i vs))):=by
    simp only [Heap.write,h3];rw [if_pos (by omega)]
   rw [this] at e;injection e with e;exact e.symm
  have hne:b'≠b:=by
   intro hbb;subst hbb;rw [h3] at hb';cases hb'
  rw [hH',List.getElem?_set,if_neg (by omega),List.getElem?_map,hb']
  rfl
 have ht:Tr Z H0.length ρ σ c H ρ (updV σ id (some ⟨o.ver,o.n,o.sz,setLs o.cs i xs⟩)) c H':=by
  refine ⟨⟨fun b' f' w cs z e=>⟨⟨z.1,fun id' o' b2 g q1 q2=>?_⟩,hkeep b' f' w cs e (z.2 id o b f ho hr)⟩,hmap⟩,Nat.le_refl _,fun id' o' q _=>?_,?_,fun id' o' b1 f1 q q2=>?_⟩
  ·rcases qb2 q1 with ⟨rfl,rfl⟩ | ⟨hn,q1⟩
   ·exact z.2 id' o b2 g ho q2
   ·exact z.2 id' o' b2 g q1 q2
  ·rcases qb2 q with ⟨rfl,rfl⟩ | ⟨hn,q⟩
   ·exact ⟨o,ho,rfl,rfl,rfl,rfl⟩
   ·exact ⟨o',q,rfl,rfl,rfl,rfl⟩
  ·have hH':H.write b i vs=some ((H.map (truncFam f i)).set b (.cells f true (setList bs i vs))):=by
    simp only [Heap.write,h3];rw [if_pos (by omega)]
   rw [hH'] at e;injection e with e;rw [← e];simp
  ·rcases qb2 q with ⟨rfl,rfl⟩ | ⟨hn,q⟩
   ·exact .inl ⟨o,b1,ho,q2,rfl⟩
   ·exact .inl ⟨o',b1,q,q2,rfl⟩
 refine ⟨H',e,⟨e3,h.old.trans e2,fun id' o' q=>?_,fun id' o' q=>?_,fun i' j o1 o2 b1 b2 g q1 q2 q3 q4=>?_⟩,ht⟩
 ·rcases qb2 q with ⟨_,rfl⟩ | ⟨_,q⟩
  ·exact h.ver id o ho
  ·exact h.ver id' o' q
 ·rcases qb2 q with ⟨rfl,rfl⟩ | ⟨hn,q⟩
  ·rw [hr]
   simp only [ObR]
   refine ⟨h1,h2,_,e1,by rw [qd3,qeq];exact h4,?_⟩
   have hset:(setList bs i vs).take (setLs o.cs i xs).length=setLs (bs.take o.cs.length) i vs:=by
    rw [qd3]
    rw [← qsj]
    conv=>lhs;rw [← List.take_append_drop o.cs.length bs]
    rw [qo5 _ _ _ _ (by rw [List.length_take];omega),List.take_append_of_le_length (by rw [qd3,List.length_take];omega),List.take_of_length_le (by rw [qd3,List.length_take];omega)]
   rw [hset]
   split at hc
   ·rename_i hz
    rw [if_pos hz] at h5 ⊢
    exact (All2.setLs hc i h5).mono fun _ _ h=>h.tr ht
   ·rename_i hz
    rw [if_neg hz] at h5 ⊢
    refine ⟨by rw [qd3];exact h5.1,?_⟩
    exact RepCL.keep ht.keep _ _ (qb3.2 (All2.setLs (qb3.1 hc) i (qb3.1 h5.2)))
  ·refine (h.obj id' o' q).tr ht fun b' f' bs' q2 q3=>?_
   refine hkeep b' f' true bs' q3 fun hff=>?_
   subst hff
   exact hn (h.dist id' id o' o b' b f' q ho q2 hr)
 ·rcases qb2 q1 with ⟨rfl,rfl⟩ | ⟨hn,q1n⟩
  ·rcases qb2 q2 with ⟨rfl,rfl⟩ | ⟨hn2,q2n⟩
   ·rfl
   ·exact h.dist i' j o o2 b1 b2 g ho q2n q3 q4
  ·rcases qb2 q2 with ⟨rfl,rfl⟩ | ⟨hn2,q2n⟩
   ·exact h.dist i' j o1 o b1 b2 g q1n ho q3 q4
   ·exact h.dist i' j o1 o2 b1 b2 g q1n q2n q3 q4
theorem grow_rel (h:VRl Z H0 ρ σ c H) {id:Nat} {o:Ob} (ho:σ id=some o) {b f:Nat} (hr:ρ id=some (b,f)) (hz:o.sz≠0) {q k:Nat} {xs:List VV} {vs:List Value} (hk:xs.length=k*o.sz) (hq:q≤o.n)
  (hc:RepCL (ZZ Z H0.length ρ σ) H xs vs):∃ bs,H[b]?=some (.cells f true bs)∧o.n*o.sz≤bs.length ∧
  VRl Z H0 (updV ρ id (some (H.length,f))) (updV σ id (some ⟨c,q+k,o.sz,o.cs.take (q*o.sz)++xs⟩)) (c+1) (H.map (truncFam f (q*o.sz))++[.cells f true (bs.take (q*o.sz)++vs)]) ∧
  Tr Z H0.length ρ σ c H (updV ρ id (some (H.length,f))) (updV σ id (some ⟨c,q+k,o.sz,o.cs.take (q*o.sz)++xs⟩)) (c+1) (H.map (truncFam f (q*o.sz))++[.cells f true (bs.take (q*o.sz)++vs)]):=by
 have ob:=h.obj id o ho
 rw [hr] at ob
 obtain ⟨h1,h2,bs,h3,h4,h5⟩:=ob
 rw [if_neg hz] at h5
 have hqz:q*o.sz≤o.n*o.sz:=Nat.mul_le_mul_right _ hq
 have hb:=h.blk ho hr
 have hkeep:∀ (b' f':Nat) (w:Bool) (cs:List Value),H[b']?=some (.cells f' w cs)→f'≠f→(H.map (truncFam f (q*o.sz))++[.cells f true (bs.take (q*o.sz)++vs)])[b']?=some (.cells f' w cs):=by
  intro b' f' w cs hb' hf'
  rw [List.getElem?_append_left (by rw [List.length_map];exact qcz hb'),List.getElem?_map,hb',Option.map_some,qfl]
  intro f2 o2 cs2 e;injection e with e;omega
 have ht:Tr Z H0.length ρ σ c H (updV ρ id (some (H.length,f))) (updV σ id (some ⟨c,q+k,o.sz,o.cs.take (q*o.sz)++xs⟩)) (c+1) (H.map (truncFam f (q*o.sz))++[.cells f true (bs.take (q*o.sz)++vs)]) :=
  make_tr h id H.length f ⟨c,q+k,o.sz,o.cs.take (q*o.sz)++xs⟩ rfl (fun b' f' w cs e z=>⟨z.2 id o b f ho hr,hkeep b' f' w cs e (z.2 id o b f ho hr)⟩) (fun b' es e=>by
   rw [List.getElem?_append_left (by rw [List.length_map];exact qa9 e),List.getElem?_map,e];rfl) (by simp) (.inl ⟨o,b,ho,hr,rfl⟩)
 refine ⟨bs,h3,by omega,⟨(qsh h.wf).app (by rw [List.length_map];omega),?_,fun id' o' e=>?_,fun id' o' e=>?_,fun i' j o1 o2 b1 b2 g q1 q2 q3 q4=>?_⟩,ht⟩
 ·have o1:=qo4 h.wf h2 (k:=q*o.sz)
  have o2:=Old.app (H.map (truncFam f (q*o.sz))) [Blk.cells f true (bs.take (q*o.sz)++vs)]
  rw [List.length_map] at o2
  exact h.old.trans (o1.trans (o2.mono h.le))
 ·rcases qb2 e with ⟨_,rfl⟩ | ⟨_,e⟩
  ·exact Nat.lt_succ_self _
  ·exact Nat.lt_succ_of_lt (h.ver id' o' e)
 ·rcases qb2 e with ⟨rfl,rfl⟩ | ⟨hn,e⟩
  ·rw [qd8]
   simp only [ObR]
   refine ⟨h.le,h2,bs.take (q*o.sz)++vs,by rw [List.getElem?_append_right (by simp)];simp,?_,?_⟩
   ·have:=(qb3.1 hc).length
    simp only [List.length_append,List.length_take];omega
   ·rw [if_neg hz]
    have hl:=(qb3.1 hc).length
    refine ⟨by rw [List.length_append,List.length_take,hk,Nat.add_mul];omega,?_⟩
    rw [show (bs.take (q*o.sz)++vs).take (o.cs.take (q*o.sz)++xs).length=bs.take (q*o.sz)++vs from List.take_of_length_le (by simp only [List.length_append,List.length_take];omega)]
    refine RepCL.keep ht.keep _ _ (qb3.2 (.append ?_ (qb3.1 hc)))
    have h6:=(qb3.1 h5.2).take (q*o.sz)
    rw [List.take_take,Nat.min_eq_left (by omega)] at h6
    exact h6
  ·rw [qd9 hn]
   refine (h.obj id' o' e).tr ht fun b' f' bs' q2 q3=>?_
   refine hkeep b' f' true bs' q3 fun hff=>?_
   subst hff
   exact hn (h.dist id' id o' o b' b f' e ho q2 hr)
 ·rcases qb2 q1 with ⟨rfl,rfl⟩ | ⟨hn,q1n⟩
  ·rcases qb2 q2 with ⟨rfl,rfl⟩ | ⟨hn2,q2n⟩
   ·rfl
   ·rw [qd8] at q3
    injection q3 with q3;injection q3 with _ q3;subst q3
    rw [qd9 hn2] at q4
    exact h.dist i' j o o2 b b2 f ho q2n hr q4
  ·rcases qb2 q2 with ⟨rfl,rfl⟩ | ⟨hn2,q2n⟩
   ·rw [qd8] at q4
    injection q4 with q4;injection q4 with _ q4;subst q4
    rw [qd9 hn] at q3
    exact h.dist i' j o1 o b1 b f q1n ho q3 hr
   ·rw [qd9 hn] at q3
    rw [qd9 hn2] at q4
    exact h.dist i' j o1 o2 b1 b2 g q1n q2n q3 q4
theorem cut_rel (h:VRl Z H0 ρ σ c H) {id:Nat} {o:Ob} (ho:σ id=some o) (hz:o.sz≠0) {q:Nat} (hq:q≤o.n) :
  VRl Z H0 ρ (updV σ id (some ⟨c,q,o.sz,o.cs.take (q*o.sz)⟩)) (c+1) H∧Tr Z H0.length ρ σ c H ρ (updV σ id (some ⟨c,q,o.sz,o.cs.take (q*o.sz)⟩)) (c+1) H:=by
 have ht:Tr Z H0.length ρ σ c H ρ (updV σ id (some ⟨c,q,o.sz,o.cs.take (q*o.sz)⟩)) (c+1) H:=by
  refine ⟨⟨fun b' f' w cs z e=>⟨⟨z.1,fun id' o' b2 g q1 q2=>?_⟩,e⟩,fun _ _ e=>e⟩,Nat.le_succ _,fun id' o' e e2=>?_,Nat.le_refl _,fun id' o' b1 f1 q q2=>?_⟩
  ·rcases qb2 q1 with ⟨rfl,rfl⟩ | ⟨hn,q1⟩
   ·exact z.2 id' o b2 g ho q2
   ·exact z.2 id' o' b2 g q1 q2
  ·rcases qb2 e with ⟨rfl,rfl⟩ | ⟨hn,e⟩
   ·exact absurd e2 (Nat.lt_irrefl _)
   ·exact ⟨o',e,rfl,rfl,rfl,rfl⟩
  ·rcases qb2 q with ⟨rfl,rfl⟩ | ⟨hn,q⟩
   ·exact .inl ⟨o,b1,ho,q2,rfl⟩
   ·exact .inl ⟨o',b1,q,q2,rfl⟩
 have hqz:q*o.sz≤o.n*o.sz:=Nat.mul_le_mul_right _ hq
 refine ⟨⟨h.wf,h.old,fun id' o' e=>?_,fun id' o' e=>?_,fun i' j o1 o2 b1 b2 g q1 q2 q3 q4=>?_⟩,ht⟩
 ·rcases qb2 e with ⟨_,rfl⟩ | ⟨_,e⟩
  ·exact Nat.lt_succ_self _
  ·exact Nat.lt_succ_of_lt (h.ver id' o' e)
 ·rcases qb2 e with ⟨rfl,rfl⟩ | ⟨hn,e⟩
  ·have ob:=h.obj id' o ho
   cases hr:ρ id' with
   | none =>
     rw [hr] at ob
     obtain ⟨h1,h2,h3⟩:=ob
     exact ⟨h1,by show q=0;omega,by show o.cs.take _=[];rw [h3];simp⟩
   | some p =>
     obtain ⟨b,f⟩:=p
     rw [hr] at ob
     obtain ⟨h1,h2,bs,h3,h4,h5⟩:=ob
     rw [if_neg hz] at h5
     simp only [ObR]
     refine ⟨h1,h2,bs,h3,by rw [List.length_take];omega,?_⟩
     rw [if_neg hz]
     refine ⟨by rw [List.length_take];omega,RepCL.keep ht.keep _ _ (qb3.2 ?_)⟩
     have h6:=(qb3.1 h5.2).take (q*o.sz)
     rw [List.take_take] at h6
     rw [List.length_take,h5.1] at *
     exact h6
  ·exact (h.obj id' o' e).tr ht fun b' f' bs' q2 q3=>q3
 ·rcases qb2 q1 with ⟨rfl,rfl⟩ | ⟨hn,q1n⟩
  ·rcases qb2 q2 with ⟨rfl,rfl⟩ | ⟨hn2,q2n⟩
   ·rfl
   ·exact h.dist i' j o o2 b1 b2 g ho q2n q3 q4
  ·rcases qb2 q2 with ⟨rfl,rfl⟩ | ⟨hn2,q2n⟩
   ·exact h.dist i' j o1 o b1 b2 g q1n ho q3 q4
   ·exact h.dist i' j o1 o2 b1 b2 g q1n q2n q3 q4
theorem qo7 (h:VRl Z H0 ρ σ c H) {H':Heap} (hw:WF H') (ho:Old H.length H H') (d n sz:Nat) (hz:sz≠0) (cs:List VV) (p:Option (Nat×Nat))
  (hp:match p with
   | none=>n=0∧cs=[]
   | some (b,f)=>H.length≤b∧H.length≤f∧∃ bs,H'[b]?=some (.cells f true bs)∧cs.length=n*sz∧cs.length≤bs.length∧RepCL (fun f'=>(ZZ Z H0.length ρ σ f'∨H.length≤f')∧f'≠f) H' cs (bs.take cs.length)) :
  VRl Z H0 (updV ρ d p) (updV σ d (some ⟨c,n,sz,cs⟩)) (c+1) H'∧Tr Z H0.length ρ σ c H (updV ρ d p) (updV σ d (some ⟨c,n,sz,cs⟩)) (c+1) H':=by
 have ht:Tr Z H0.length ρ σ c H (updV ρ d p) (updV σ d (some ⟨c,n,sz,cs⟩)) (c+1) H':=by
  refine ⟨⟨fun b' f' w bs z e=>?_,fun b' es e=>by rw [ho.2 b' (qa9 e)];exact e⟩,Nat.le_succ _,fun id o' h1 h2=>?_,ho.1,fun id o' b1 f1 h1 h2=>?_⟩
  ·have hb':=qcz e
   refine ⟨⟨z.1,fun id o' b2 g e1 e2=>?_⟩,by rw [ho.2 b' hb'];exact e⟩
   rcases qb2 e1 with ⟨rfl,rfl⟩ | ⟨hn,e1⟩
   ·rw [qd8] at e2
    subst e2
    have:=h.wf b' f' w bs e
    simp only at hp
    omega
   ·rw [qd9 hn] at e2;exact z.2 id o' b2 g e1 e2
  ·rcases qb2 h1 with ⟨rfl,rfl⟩ | ⟨hn,e1⟩
   ·exact absurd h2 (Nat.lt_irrefl _)
   ·exact ⟨o',e1,rfl,rfl,rfl,qd9 hn⟩
  ·rcases qb2 h1 with ⟨rfl,rfl⟩ | ⟨hn,e1⟩
   ·rw [qd8] at h2
    subst h2
    exact .inr hp.2.1
   ·rw [qd9 hn] at h2
    exact .inl ⟨o',b1,e1,h2,rfl⟩
 refine ⟨⟨hw,h.old.trans (ho.mono h.le),fun id o e=>?_,fun id o e=>?_,fun i j o o' b b' f e1 e2 e3 e4=>?_⟩,ht⟩
 ·rcases qb2 e with ⟨_,rfl⟩ | ⟨_,e⟩
  ·exact Nat.lt_succ_self _
  ·exact Nat.lt_succ_of_lt (h.ver id o e)
 ·rcases qb2 e with ⟨rfl,rfl⟩ | ⟨hn,e⟩
  ·rw [qd8]
   cases p with
   | none=>exact ⟨by show 0 < sz;omega,hp.1,hp.2⟩
   | some p =>
     obtain ⟨b,f⟩:=p
     obtain ⟨h1,h2,bs,h3,h4,h5,h6⟩:=hp
     simp only [ObR]
     have:=h.le
     refine ⟨by omega,by omega,bs,h3,h5,?_⟩
     rw [if_neg hz]
     refine ⟨h4,RepCL.keep ⟨fun b' f' w bs' z e=>⟨⟨?_,fun id' o' b2 g q1 q2=>?_⟩,e⟩,fun _ _ e=>e⟩ _ _ h6⟩
     ·rcases z.1 with z1 | z1
      ·exact z1.1
      ·exact .inr (by omega)
     ·rcases qb2 q1 with ⟨rfl,rfl⟩ | ⟨hn,q1⟩
      ·rw [qd8] at q2;injection q2 with q2;injection q2 with _ q2;subst q2;exact z.2
      ·rw [qd9 hn] at q2
       rcases z.1 with z1 | z1
       ·exact z1.2 id' o' b2 g q1 q2
       ·have:=h.blk q1 q2;omega
  ·rw [qd9 hn]
   refine (h.obj id o e).tr ht fun b f bs _ e=>?_
   rw [ho.2 b (qcz e)];exact e
 ·rcases qb2 e1 with ⟨rfl,rfl⟩ | ⟨hn,e1n⟩
  ·rcases qb2 e2 with ⟨rfl,rfl⟩ | ⟨hn2,e2n⟩
   ·rfl
   ·rw [qd8] at e3
    rw [qd9 hn2] at e4
    subst e3
    have:=h.blk e2n e4
    simp only at hp
    omega
  ·rcases qb2 e2 with ⟨rfl,rfl⟩ | ⟨hn2,e2n⟩
   ·rw [qd8] at e4
    rw [qd9 hn] at e3
    subst e4
    have:=h.blk e1n e3
    simp only at hp
    omega
   ·rw [qd9 hn] at e3
    rw [qd9 hn2] at e4
    exact h.dist i j o o' b b' f e1n e2n e3 e4
theorem qg9 (h:VRl Z H0 ρ σ c H) {H':Heap} (hw:WF H') (ho:Old H.length H H'):VRl Z H0 ρ σ c H'∧Tr Z H0.length ρ σ c H ρ σ c H':=by
 have ht:Tr Z H0.length ρ σ c H ρ σ c H':=⟨⟨fun b f w bs z e=>⟨z,by rw [ho.2 b (qcz e)];exact e⟩,fun b es e=>by rw [ho.2 b (qa9 e)];exact e⟩,Nat.le_refl _,fun id o' h _=>⟨o',h,rfl,rfl,rfl,rfl⟩,ho.1,fun id o' b f h h2=>.inl ⟨o',b,h,h2,rfl⟩⟩
 exact ⟨⟨hw,h.old.trans (ho.mono h.le),h.ver,fun id o e=>(h.obj id o e).tr ht fun b f bs _ e=>by rw [ho.2 b (qcz e)];exact e,h.dist⟩,ht⟩
end
end Go.Abs
namespace Go.Abs
def vcst1:Value→VV
 | .slice none 0 0=>.nl
 | v=>.sc v
def vcst:Value→VV
 | .agg cs=>.st (cs.toList.map vcst1)
 | v=>vcst1 v
def evV (a:VF):Operand→VV
 | .tmp t=>a t
 | .const v=>vcst v
 | .func f=>.sc (.func (.func f) #[] #[])
 | .global _=>.bad
def toVal:VV→Value
 | .sc w=>w
 | _=>undef
def allSc:List VV→Option (List Value)
 | []=>some []
 | .sc w::l=>(allSc l).map (w::·)
 | .nl::l=>(allSc l).map (.slice none 0 0::·)
 | _::_=>none
def scalV (σ:VSt):VV→Option (List VV)
 | .st cs=>some cs
 | .tup _=>none
 | .bad=>none
 | .mp es=>some [.mp es]
 | .rp cs=>some [.rp cs]
 | .own id ver=>match getO σ id ver with
   | some o=>if o.sz=0 then none else some [.own id ver]
   | none=>none
 | .ptr id ver i=>match getO σ id ver with
   | some _=>some [.ptr id ver i]
   | none=>none
 | .sc w=>some [.sc w]
 | .nl=>some [.nl]
 | .fz n sz cs=>some [.fz n sz cs]
def solid1 (σ:VSt):VV→Bool
 | .sc _=>true
 | .nl=>true
 | .fz _ _ _=>true
 | .own id ver=>match getO σ id ver with
   | some o=>o.sz != 0
   | none=>false
 | _=>false
def cvV (v:Value):Option VV:=match v with
 | .agg cs=>if (cs.toList.all fun v=>scOk v && sEq v v) then some (.st (cs.toList.map .sc)) else none
 | v=>if (scOk v && sEq v v) then some (.sc v) else none
def lookV (P:Program) (t:TypeId) (es:List (Value×Value)) (k:Value):Option VV:=match P.underlying t with
 | some (.map kt et)=>match P.underlying kt,zeroT P et with
   | some kd,some z=>if keyKind kd k=true∧(es.all fun e=>keyKind kd e.1)=true then (match findA k es with
     | some v=>cvV v
     | none=>cvV z) else none
   | _,_=>none
 | _=>none
def plainV (P:Program) (a:VF) (o:Oper):Option VV:=(plainA P (fun t=>toVal (a t)) o).map .sc
def isNilV (σ:VSt):VV→Option Bool
 | .nl=>some true
 | .fz n _ _=>if n=0 then none else some false
 | .own id ver=>match getO σ id ver with
   | some o=>if o.n=0 then none else some false
   | none=>none
 | _=>none
def cmpV (P:Program) (t:TypeId) (σ:VSt):VV→VV→Option Bool
 | .nl,y=>match P.underlying t with
   | some (.slice _)=>isNilV σ y
   | _=>none
 | .st xs,.st ys=>match allSc xs,allSc ys with
   | some us,some vs=>structEqA P t (.agg us.toArray) (.agg vs.toArray)
   | _,_=>none
 | x,.nl=>match P.underlying t with
   | some (.slice _)=>isNilV σ x
   | _=>none
 | _,_=>none
def bothSc:VV→VV→Bool
 | .sc (.slice _ _ _),_=>false
 | .sc (.agg _),_=>false
 | .sc _,.sc _=>true
 | _,_=>false
def lenV (σ:VSt):VV→Option Nat
 | .nl=>some 0
 | .fz n _ _=>some n
 | .own id ver=>(getO σ id ver).bind fun o=>if o.sz=0 then none else some o.n
 | _=>none
def partV (P:Program) (t:TypeId) (cs:List VV) (off:Nat):Option VV :=
 match isAggT P t with
 | some true=>match sizeT P t with
   | some n=>some (.st ((cs.drop off).take n))
   | none=>none
 | some false=>cs[off]?
 | none=>none
def fillV (σ:VSt) (place:Nat→Option (Nat×Nat)):List VV→List (Nat×VV)→Option (List VV)
 | cs,[]=>some cs
 | cs,(i,v)::rest =>
   match place i,scalV σ v with
   | some (off,size),some vc=>if vc.length=size∧off+vc.length≤cs.length then fillV σ place (setLs cs off vc) rest else none
   | _,_=>none
def zeroV (P:Program) (t:TypeId):Option (List VV):=(zeroT P t).bind fun z=>if bldZ z.cells.toList then none else some (z.cells.toList.map vcst1)
def buildV (P:Program) (σ:VSt) (t:TypeId) (parts:List (Nat×VV)):Option VV :=
 match zeroV P t,P.underlying t with
 | some z,some (.struct fields) =>
   match sizesOf P fields.toList with
   | some places=>(fillV σ (places[·]?) z parts).map .st
   | none=>none
 | some z,some (.array _ elem) =>
   match sizeT P elem with
   | some size=>(fillV σ (fun i=>some (i*size,size)) z parts).map .st
   | none=>none
 | _,_=>none
def mkOwn (d:Option Nat) (n sz:Nat) (cs:List VV) (σ:VSt) (c:Nat):Option (VV×VSt×Nat):=d.map fun i=>(.own i c,updV σ i (some ⟨c,n,sz,cs⟩),c+1)
def mkBox (d:Option Nat) (cs:List VV) (σ:VSt) (c:Nat):Option (VV×VSt×Nat):=d.map fun i=>(.ptr i c 0,updV σ i (some ⟨c,0,0,cs⟩),c+1)
def buildSliceV (P:Program) (pol:Nat→Bool) (d:Option Nat) (t:TypeId) (len:Nat) (parts:List (Nat×VV)) (σ:VSt) (c:Nat):Option (VV×VSt×Nat) :=
 match sliceElem P t with
 | some (e,size) =>
   if 0 < size∧len*size≤maxA then
    match (zeros P e size len).map (·.map vcst1),peekL σ (parts.map (·.2)) with
    | some z,some vs=>match fillV σ (fun i=>some (i*size,size)) z ((parts.map (·.1)).zip vs) with
      | some cells=>iteB (pol (d.getD 0)) (mkOwn d len size cells (killL σ ((parts.map (·.2)).flatMap ownIds)) c) (some (.fz len size cells,killL σ ((parts.map (·.2)).flatMap ownIds),c))
      | none=>none
    | _,_=>none
   else none
 | none=>none
def cellsV (σ:VSt):VV→Option (Nat×List VV)
 | .ptr id ver i=>(getO σ id ver).map fun o=>(i,o.cs)
 | .rp cs=>some (0,cs)
 | _=>none
def loadV (P:Program) (t:TypeId) (σ:VSt) (p:VV):Option VV :=
 match cellsV σ p,isAggT P t with
 | some (i,cs),some true=>match sizeT P t with
   | some n=>if i+n≤cs.length∧((cs.drop i).take n).all (solid1 σ) then some (.st ((cs.drop i).take n)) else none
   | none=>none
 | some (i,cs),some false=>match cs[i]? with
   | some A=>if solid1 σ A then some A else none
   | none=>none
 | _,_=>none
def storeV (P:Program) (t:TypeId) (σ:VSt) (p v:VV):Option VSt :=
 match p,scalV σ v,sizeT P t with
 | .ptr id ver i,some cs,some n=>match getO σ id ver with
   | some o=>if cs.length=n∧i+n≤o.cs.length then
      if o.sz=0 then some (updV σ id (some ⟨o.ver,o.n,o.sz,setLs o.cs i cs⟩))
      else match peekL1 σ cs with
       | some cs'=>if cs.flatMap ownIds1=[] then some (updV σ id (some ⟨o.ver,o.n,o.sz,setLs o.cs i cs'⟩)) else none
       | none=>none
     else none
   | none=>none
 | _,_,_=>none
def fieldAddrV (P:Program) (t:TypeId) (σ:VSt) (v:VV) (i:Nat):Option VV :=
 match P.underlying t with
 | some (.struct fields)=>match fields[i]? with
   | some f=>match sizeT P f.type with
     | some (_+1)=>match v with
       | .ptr id ver k=>match getO σ id ver with
         | some _=>some (.ptr id ver (k+f.offset))
         | none=>none
       | .rp cs=>if f.offset≤cs.length then some (.rp (cs.drop f.offset)) else none
       | _=>none
     | _=>none
   | none=>none
 | _=>none
def fieldV (P:Program) (t:TypeId) (v:VV) (i:Nat):Option VV :=
 match P.underlying t,v with
 | some (.struct fields),.st cs =>
   match fields[i]? with
   | some f=>partV P f.type cs f.offset
   | none=>none
 | _,_=>none
def indexV (P:Program) (t:TypeId) (x i:VV):Option VV :=
 match P.underlying t,x,i with
 | some (.array len elem),.st cs,.sc (.int _ k)=>if 0≤k∧k < len then (match sizeT P elem with
   | some s=>partV P elem cs (k.toNat*s)
   | none=>none) else none
 | _,_,_=>none
def addrV (P:Program) (t:TypeId) (σ:VSt) (x i:VV):Option VV :=
 match i with
 | .sc (.int _ k)=>match sliceElem P t with
   | some (_,size)=>match x with
     | .own id ver=>match getO σ id ver with
       | some o=>if 0≤k∧k < o.n then some (.ptr id ver (k.toNat*size)) else none
       | none=>none
     | .fz n sz cs=>if sz=size∧0≤k∧k < n then some (.rp (cs.drop (k.toNat*size))) else none
     | _=>none
   | none=>match P.underlying t with
     | some (.array len elem)=>match sizeT P elem with
       | some s=>if 0≤k∧k < len then (match x with
         | .ptr id ver j=>(match getO σ id ver with
           | some _=>some (.ptr id ver (j+k.toNat*s))
           | none=>none)
         | .rp cs=>if k.toNat*s≤cs.length then some (.rp (cs.drop (k.toNat*s))) else none
         | _=>none) else none
       | none=>none
     | _=>none
 | _=>none
def bndV (v:Option VV) (dflt most:Nat):Option Nat :=
 match v with
 | none=>some dflt
 | some (.sc (.int _ k))=>if 0≤k∧k≤most then some k.toNat else none
 | some _=>none
def sliceV (P:Program) (pol:Nat→Bool) (d:Option Nat) (t:TypeId) (x:VV) (lo hi:Option VV) (σ:VSt) (c:Nat):Option (VV×VSt×Nat) :=
 match sliceElem P t with
 | some (_,size)=>match x with
   | .nl=>match bndV hi 0 0 with
     | some h=>match bndV lo 0 h with
       | some _=>some (.nl,σ,c)
       | none=>none
     | none=>none
   | .fz n sz cs=>if sz=size then match bndV hi n n with
     | some h=>match bndV lo 0 h with
       | some l=>some (.fz (h - l) sz ((cs.drop (l*sz)).take ((h - l)*sz)),σ,c)
       | none=>none
     | none=>none else none
   | .own id ver=>match getO σ id ver with
     | some o=>if o.sz=size then match bndV hi o.n o.n with
       | some h=>match bndV lo 0 h with
         | some l=>iteB (pol (d.getD 0) && l == 0) (some (.own id c,updV σ id (some ⟨c,h,o.sz,o.cs.take (h*o.sz)⟩),c+1)) (some (.fz (h - l) o.sz ((o.cs.drop (l*o.sz)).take ((h - l)*o.sz)),killL σ [id],c))
         | none=>none
       | none=>none else none
     | none=>none
   | _=>none
 | none=>match x,P.underlying t with
   | .sc (.string s),some .string=>match bndV hi s.size s.size with
     | some h=>match bndV lo 0 h with
       | some l=>some (.sc (.string (s.extract l h)),σ,c)
       | none=>none
     | none=>none
   | _,_=>none
def readV (σ:VSt) (size:Nat):VV→Option (Nat×List VV)
 | .nl=>some (0,[])
 | .fz n sz cs=>if sz=size then some (n,cs) else none
 | .own id ver=>match getO σ id ver with
   | some o=>if o.sz=size then some (o.n,o.cs) else none
   | none=>none
 | _=>none
def appV (P:Program) (d:Option Nat) (t:TypeId) (s x:VV) (σ:VSt) (c:Nat):Option (VV×VSt×Nat) :=
 match sliceElem P t with
 | some (el,size) =>
   if 0 < size∧(bytesT P el).isSome∧(bytesT P el).getD 0≤maxA∧(zeros P el size 1).isSome then
    match readV σ size x with
    | some (0,_)=>match s with
      | .nl=>some (s,σ,c)
      | .fz _ _ _=>some (s,σ,c)
      | .own id ver=>(getO σ id ver).bind fun o=>if o.sz=0 then none else some (s,σ,c)
      | _=>none
    | some (k+1,news)=>match s with
      | .nl=>if (k+1)*size≤maxA then mkOwn d (k+1) size news σ c else none
      | .own id ver=>match getO σ id ver with
        | some o=>if o.sz=size∧(o.n+(k+1))*size≤maxA then some (.own id c,updV σ id (some ⟨c,o.n+(k+1),o.sz,o.cs.take (o.n*o.sz)++news⟩),c+1) else none
        | none=>none
      | _=>none
    | none=>none
   else none
 | none=>none
def makeV (P:Program) (d:Option Nat) (t:TypeId) (l m:VV) (σ:VSt) (c:Nat):Option (VV×VSt×Nat) :=
 match sliceElem P t,bytesT P ((sliceElem P t).getD (0,0)).1,l,m with
 | some (e,size),some bytes,.sc (.int _ n),.sc (.int _ m) =>
   if 0≤n∧n≤m∧m≤1048576∧0 < size∧bytes≤1048576 then
    match zeros P e size n.toNat with
    | some z=>mkOwn d n.toNat size (z.map vcst1) σ c
    | none=>none
   else none
 | _,_,_,_=>none
def textV (P:Program) (s d:TypeId) (σ:VSt) (x:VV):Option Value :=
 match P.underlying s,P.underlying d with
 | some (.slice e),some .string=>match P.underlying e,readV σ 1 x with
   | some (.int .u8),some (_,cs)=>match allSc cs with
     | some vs=>(bytesFrom .empty vs).map .string
     | none=>none
   | _,_=>none
 | _,_=>none
abbrev VCall:=Nat→List VV→Option (VV×Bool)
def flatV:VV→Bool
 | .sc _=>true
 | .st cs=>(allSc cs).isSome
 | .tup cs=>(allSc cs).isSome
 | _=>false
def allPl:List VV→Option (List Value)
 | []=>some []
 | .sc w::l=>match plain w,allPl l with
   | true,some r=>some (w::r)
   | _,_=>none
 | _::_=>none
def inV (args:List VV) (cs:List VV) (σ:VSt) (c:Nat):Option (VV×VSt×Nat):=match args with
 | .own id ver::rest=>match getO σ id ver with
   | some o=>if o.sz≠0∧cs.length=o.cs.length∧(allPl cs).isSome=true∧rest.flatMap ownIds=[] then some (.tup [],updV σ id (some ⟨o.ver,o.n,o.sz,cs⟩),c) else none
   | none=>none
 | _=>none
def ipF (x:Option (VV×Bool)):Option (VV×Bool):=match x with
 | some (.rp _,_)=>none
 | r=>r
def noIP (call:VCall):VCall:=fun g ays=>ipF (call g ays)
def callV (call:VCall) (pol:Nat→Bool) (d:Option Nat) (f:VV) (args:List VV) (σ:VSt) (c:Nat):Option (VV×VSt×Nat) :=
 match f,peekL σ args with
 | .sc (.func (.func g) _ _),some ays=>match call g ays with
   | some (r,fresh) =>
     if flatV r then some (r,σ,c)
     else match r with
      | .rp cs=>inV args cs σ c
      | .fz n sz cs=>if args.flatMap ownIds=[]∨(fresh && (allSc cs).isSome)=true then iteB (fresh && pol (d.getD 0) && sz != 0) (mkOwn d n sz cs σ c) (some (.fz n sz cs,σ,c)) else none
      | r=>if args.flatMap ownIds=[] then some (r,σ,c) else none
   | none=>none
 | _,_=>none
def rtV (o:Option VV) (σ:VSt) (c:Nat):Option (VV×VSt×Nat):=o.map fun A=>(A,σ,c)
def stepV (P:Program) (call:VCall) (pol:Nat→Bool) (a:VF) (o:Oper) (σ:VSt) (c:Nat):Option (VV×VSt×Nat) :=
 match o.op with
 | .move x=>some (evV a x,σ,c)
 | .assign x=>some (evV a x,σ,c)
 | .pick b x y=>match evV a b with
   | .sc (.bool t)=>some (if t then evV a x else evV a y,σ,c)
   | _=>none
 | .binOp op t x y _=>match op with
   | .eql=>iteB (bothSc (evV a x) (evV a y)) (rtV (plainV P a o) σ c) (rtV ((cmpV P t σ (evV a x) (evV a y)).map fun b=>.sc (.bool b)) σ c)
   | .neq=>iteB (bothSc (evV a x) (evV a y)) (rtV (plainV P a o) σ c) (rtV ((cmpV P t σ (evV a x) (evV a y)).map fun b=>.sc (.bool !b)) σ c)
   | _=>rtV (plainV P a o) σ c
 | .unOp _ _ _=>rtV (plainV P a o) σ c
 | .convert s d x=>match evV a x with
   | .sc _=>rtV (plainV P a o) σ c
   | A=>rtV ((textV P s d σ A).map .sc) σ c
 | .alloc t=>match zeroV P t with
   | some z=>mkBox o.dst z σ c
   | none=>none
 | .box _ x=>match scalV σ (evV a x) with
   | some cs=>mkBox o.dst cs σ c
   | none=>none
 | .build t parts=>rtV (buildV P σ t (parts.toList.map fun p=>(p.1,evV a p.2))) σ c
 | .buildSlice t len parts=>buildSliceV P pol o.dst t len (parts.toList.map fun p=>(p.1,evV a p.2)) σ c
 | .load t x=>rtV (loadV P t σ (evV a x)) σ c
 | .store t x y=>(storeV P t σ (evV a x) (evV a y)).map fun σ'=>(.bad,σ',c)
 | .nilCheck x=>match evV a x with
   | .ptr id ver i=>(getO σ id ver).map fun _=>(.ptr id ver i,σ,c)
   | _=>none
 | .makeFunc (.func f) first captured=>if first.isEmpty && captured.isEmpty then some (.sc (.func (.func f) #[] #[]),σ,c) else none
 | .makeSlice t l m=>makeV P o.dst t (evV a l) (evV a m) σ c
 | .slice t x lo hi mx=>if mx.isSome then none else sliceV P pol o.dst t (evV a x) (lo.map (evV a)) (hi.map (evV a)) σ c
 | .fieldAddr t x i=>rtV (fieldAddrV P t σ (evV a x) i) σ c
 | .field t x i=>rtV (fieldV P t (evV a x) i) σ c
 | .indexAddr t x i=>rtV (addrV P t σ (evV a x) (evV a i)) σ c
 | .index t x i=>match evV a x with
   | .sc _=>rtV (plainV P a o) σ c
   | A=>rtV (indexV P t A (evV a i)) σ c
 | .lookup t x i ok=>if ok then none else match evV a x,evV a i with
   | .mp es,.sc k=>rtV (lookV P t es k) σ c
   | _,_=>none
 | .extract x i=>match evV a x with
   | .tup vs=>rtV vs[i]? σ c
   | _=>none
 | .call { callee:=.builtin .len,args,argTypes }=>match args.toList,argTypes.toList with
   | [x],[t]=>match evV a x with
     | .sc (.string s)=>match P.underlying t with
       | some .string=>some (.sc (goInt s.size),σ,c)
       | _=>none
     | A=>match P.underlying t with
       | some (.slice _)=>rtV ((lenV σ A).map fun (n:Nat)=>.sc (goInt n)) σ c
       | _=>none
   | _,_=>none
 | .call { callee:=.builtin .append,args,argTypes }=>match args.toList,argTypes.toList with
   | [s,x],[t,t']=>if t=t' then appV P o.dst t (evV a s) (evV a x) σ c else none
   | _,_=>none
 | .call { callee:=.builtin .min,.. }=>rtV (plainV P a o) σ c
 | .call { callee:=.builtin .max,.. }=>rtV (plainV P a o) σ c
 | .call { callee:=.value f,args,.. }=>callV call pol o.dst (evV a f) (args.toList.map (evV a)) σ c
 | _=>none
end Go.Abs
namespace Go.Abs
def StOk (Z:Nat→Prop) (H0:Heap) (ρ:Rho) (σ:VSt) (c:Nat) (H:Heap) (op:Op) (x:Option (Value×Heap)) (y:VV×VSt×Nat):Prop :=
 ∃ v H' ρ',x=some (v,H')∧VRl Z H0 ρ' y.2.1 y.2.2 H'∧Tr Z H0.length ρ σ c H ρ' y.2.1 y.2.2 H'∧RepF (ZZ Z H0.length ρ' y.2.1) ρ' y.2.1 y.2.2 H' y.1 v∧reflV op v=true
section
variable {P:Program} {Z:Nat→Prop} {H0:Heap} {ρ:Rho} {σ:VSt} {c:Nat} {H:Heap}
theorem StOk.same {op:Op} {x:Option (Value×Heap)} {v:Value} {r:VV} (h:VRl Z H0 ρ σ c H) (hx:x=some (v,H)) (hr:RepF (ZZ Z H0.length ρ σ) ρ σ c H r v) (hv:reflV op v=true):StOk Z H0 ρ σ c H op x (r,σ,c) :=
 ⟨v,H,ρ,hx,h,.refl ..,hr,hv⟩
theorem RepX.toF {Y:Nat→Prop} {A:VV} {v:Value} (h:RepX Y ρ σ c H A v):RepF Y ρ σ c H A v:=by
 cases A with
 | st cs=>simp only [RepX] at h;exact h.toF
 | tup cs=>simp only [RepX] at h;exact h.toF
 | _=>simpa only [RepF] using h
theorem qdv {Y:Nat→Prop} {w v:Value}:RepC Y H (.sc w) v↔v=w∧scOk w=true:=by simp only [RepC]
theorem qfm {Y:Nat→Prop} {w:Value} (h:scOk w=true):RepF Y ρ σ c H (.sc w) w:=by simp only [RepF,RepX];exact qdv.2 ⟨rfl,h⟩
theorem qdw {Y:Nat→Prop} {w v:Value} (h:RepF Y ρ σ c H (.sc w) v):v=w∧scOk w=true:=by simpa only [RepF,RepX,RepC] using h
theorem qeu {Y:Nat→Prop} {v:Value} (h:RepF Y ρ σ c H .nl v):v = .slice none 0 0:=by simpa only [RepF,RepX,RepC] using h
theorem qjd {w:Value} (h:plain w=true):scOk w=true:=by cases w<;>first | rfl | cases h
theorem qo8 {w:Value} (h:plain w=true):vEq w w=true:=by
 cases w with
 | string s=>simp only [vEq,sEq];exact ql7.2 rfl
 | _=>first | (simp [vEq,sEq];done) | cases h
theorem qo9 {Y:Nat→Prop} {v:Value} (h:constOk v=true):RepC Y H (vcst1 v) v:=by
 unfold vcst1
 split
 ·simp only [RepC]
 ·refine qdv.2 ⟨rfl,?_⟩
  cases v with
  | pointer p=>cases p<;>first | rfl | cases h
  | map p=>cases p<;>first | rfl | cases h
  | slice p n m =>
    exfalso
    cases p with
    | none=>cases n<;>cases m<;>first | (rename_i hn;exact hn rfl) | cases h
    | some _=>cases h
  | _=>first | rfl | cases h
theorem qio {Y:Nat→Prop}:∀ {l:List Value},l.all constOk=true→RepCL Y H (l.map vcst1) l:=by
 intro l
 induction l with
 | nil=>intro _;simp only [List.map_nil,RepCL]
 | cons v l ih =>
   intro h
   simp only [List.all_cons,Bool.and_eq_true] at h
   simp only [List.map_cons,RepCL]
   exact ⟨v,l,rfl,qo9 h.1,ih h.2⟩
theorem qca {nt:Nat} {Y:Nat→Prop} {a:Fr} {A:VF} (hf:∀ t,RepF Y ρ σ c H (A t) (a t)) {x:Operand} (hx:opndOk nt x=true):RepF Y ρ σ c H (evV A x) (ev a x):=by
 cases x with
 | tmp t=>exact hf t
 | const v =>
   simp only [opndOk] at hx
   show RepF Y ρ σ c H (vcst v) v
   unfold vcst
   split
   ·rename_i cs
    have h2:cs.toList.all constOk=true:=hx
    simp only [RepF]
    exact ⟨cs.toList,by simp,(qio h2).toX⟩
   ·rename_i hn
    refine (qo9 ?_).toF
    unfold constAgg at hx
    split at hx
    ·exact absurd rfl (hn _)
    ·exact hx
 | func f=>exact qfm rfl
 | global _=>cases hx
theorem toVal_eq {nt:Nat} {Y:Nat→Prop} {a:Fr} {A:VF} (hf:∀ t,RepF Y ρ σ c H (A t) (a t)) {x:Operand} (_hx:opndOk nt x=true) (hp:plain (ev (fun t=>toVal (A t)) x)=true):ev a x=ev (fun t=>toVal (A t)) x:=by
 cases x with
 | tmp t =>
   simp only [ev] at hp ⊢
   have:=hf t
   cases hA:A t with
   | sc w=>rw [hA] at this;exact (qdw this).1
   | _=>rw [hA] at hp;cases hp
 | const v=>rfl
 | func f=>rfl
 | global _=>rfl
theorem plain_eq {nt:Nat} {Y:Nat→Prop} {a:Fr} {A:VF} (hf:∀ t,RepF Y ρ σ c H (A t) (a t)) {o:Oper} (ho:∀ x∈o.op.operands.toList,opndOk nt x=true)
  (hcong:(∀ x∈o.op.operands.toList,ev a x=ev (fun t=>toVal (A t)) x)→execOp (ev a) o=execOp (ev (fun t=>toVal (A t))) o) {r:VV} (h:plainV P A o=some r) :
  ∃ w,r = .sc w∧plain w=true∧plainA P a o=some w∧∀ x∈o.op.operands.toList,plain (ev a x)=true:=by
 unfold plainV at h
 cases hp:plainA P (fun t=>toVal (A t)) o with
 | none=>rw [hp] at h;cases h
 | some w =>
   rw [hp] at h
   injection h with h
   subst h
   unfold plainA at hp ⊢
   split at hp
   ·rename_i hall
    have heq:∀ x∈o.op.operands.toList,ev a x=ev (fun t=>toVal (A t)) x:=fun x hx=>toVal_eq hf (ho x hx) (List.all_eq_true.1 hall x hx)
    have hall2:(o.op.operands.toList.all fun x=>plain (ev a x))=true:=List.all_eq_true.2 fun x hx=>by rw [heq x hx];exact List.all_eq_true.1 hall x hx
    rw [if_pos hall2,hcong heq]
    split at hp
    ·rename_i v hv
     split at hp
     ·rename_i hpl
      injection hp with hp
      subst hp
      exact ⟨v,rfl,hpl,by simp only [hpl,if_true],fun x hx=>List.all_eq_true.1 hall2 x hx⟩
     ·cases hp
    ·cases hp
   ·cases hp
theorem qgx {t:TypeId} {x y:Value} (hx:plain x=true):nilCmp P t x y=none:=by
 unfold nilCmp nilCmp0 structEqA
 cases x<;>first | (cases hx;done) | skip
 all_goals (cases P.underlying t with
  | none=>rfl
  | some d=>cases d<;>rfl)
theorem qlf (h:VRl Z H0 ρ σ c H) {A:VV} {v:Value} (hA:RepF (ZZ Z H0.length ρ σ) ρ σ c H A v) {b:Bool} (hb:isNilV σ A=some b):∃ p n m,v = .slice p n m∧p.isNone=b∧(b=true→v = .slice none 0 0):=by
 cases A with
 | nl=>injection hb with hb;subst hb;exact ⟨_,_,_,qeu hA,rfl,fun _=>qeu hA⟩
 | fz n sz cs =>
   simp only [isNilV] at hb
   split at hb
   ·cases hb
   ·rename_i hn
    injection hb with hb;subst hb
    simp only [RepF,RepX,RepC] at hA
    obtain ⟨vs,⟨_,_,h3⟩,_⟩:=hA
    rcases h3 with ⟨h3,_⟩ | ⟨b,o,f,w,bs,e,_⟩
    ·exact absurd h3 hn
    ·exact ⟨_,_,_,e,rfl,fun h=>by cases h⟩
 | own id ver =>
   simp only [isNilV] at hb
   split at hb
   ·rename_i o hg
    split at hb
    ·cases hb
    ·rename_i hn
     injection hb with hb;subst hb
     obtain ⟨ho,hv⟩:=qck hg
     simp only [RepF,RepX] at hA
     obtain ⟨hz,e⟩:=hA.2 o ho hv
     have ob:=h.obj id o ho
     cases hr:ρ id with
     | none=>rw [hr] at ob;exact absurd ob.2.1 hn
     | some p=>rw [hr] at e;obtain ⟨b,f⟩:=p;exact ⟨_,_,_,e,rfl,fun h=>by cases h⟩
   ·cases hb
 | _=>cases hb
theorem qhq {Y:Nat→Prop}:∀ {l:List VV} {us vs:List Value},allSc l=some us→All2 (RepX Y ρ σ c H) l vs→vs=us:=by
 intro l
 induction l with
 | nil=>intro us vs h1 h2;injection h1 with h1;subst h1;cases h2;rfl
 | cons A l ih =>
   intro us vs h1 h2
   cases h2 with
   | cons h3 h4 =>
     cases A with
     | sc w =>
       simp only [allSc] at h1
       cases hl:allSc l with
       | none=>rw [hl] at h1;cases h1
       | some r =>
         rw [hl] at h1
         injection h1 with h1
         subst h1
         simp only [RepX,RepC] at h3
         rw [ih hl h4,h3.1]
     | nl =>
       simp only [allSc] at h1
       cases hl:allSc l with
       | none=>rw [hl] at h1;cases h1
       | some r =>
         rw [hl] at h1
         injection h1 with h1
         subst h1
         simp only [RepX,RepC] at h3
         rw [ih hl h4,h3]
     | _=>simp only [allSc] at h1;cases h1
theorem qpa (h:VRl Z H0 ρ σ c H) {A B:VV} {u v:Value} (hA:RepF (ZZ Z H0.length ρ σ) ρ σ c H A u) (hB:RepF (ZZ Z H0.length ρ σ) ρ σ c H B v) {t:TypeId} {b:Bool} (hb:cmpV P t σ A B=some b):nilCmp P t u v=some b:=by
 unfold cmpV at hb
 split at hb
 ·split at hb
  ·rename_i e hu
   obtain ⟨p,n,m,rfl,h2,_⟩:=qlf h hB hb
   rw [qeu hA]
   unfold nilCmp nilCmp0
   rw [hu]
   simp only [h2]
  ·cases hb
 ·split at hb
  ·rename_i us vs h1 h2
   simp only [RepF] at hA hB
   obtain ⟨xs,rfl,ha⟩:=hA
   obtain ⟨ys,rfl,hb2⟩:=hB
   rw [qhq h1 ha,qhq h2 hb2]
   unfold nilCmp
   have:nilCmp0 P t (.agg us.toArray) (.agg vs.toArray)=none:=by
    unfold nilCmp0
    cases P.underlying t with
    | none=>rfl
    | some d=>cases d<;>rfl
   rw [this];exact hb
  ·cases hb
 ·split at hb
  ·rename_i e hu
   obtain ⟨p,n,m,rfl,h2,h3⟩:=qlf h hA hb
   rw [qeu hB]
   unfold nilCmp nilCmp0
   rw [hu]
   cases p with
   | none =>
     subst h2
     have:=h3 rfl
     injection this with _ hn hm
     subst hn;subst hm
     rfl
   | some q=>simp only [h2]
  ·cases hb
 ·cases hb
end
end Go.Abs
namespace Go.Abs
theorem qsl {v:Value} (h:constAgg v=true):scal v=some v.cells.toList∧v.cells.toList.all constOk=true:=by
 cases v with
 | agg cs=>exact ⟨rfl,h⟩
 | tuple _=>cases h
 | _=>exact ⟨rfl,by simp only [Value.cells,List.all_cons,List.all_nil,Bool.and_true];exact h⟩
theorem qlg {P:Program} {t:TypeId} {z:Value} (h:zeroT P t=some z):constAgg z=true:=by
 unfold zeroT at h
 split at h
 ·split at h
  ·split at h
   ·rename_i hc;injection h with h;subst h;exact hc
   ·cases h
  ·cases h
 ·cases h
theorem repl_const {z:List Value} (h:z.all constOk=true):∀ n,(repl n z).all constOk=true:=by
 intro n
 induction n with
 | zero=>rfl
 | succ n ih=>simp only [repl,List.all_append,h,ih,Bool.and_self]
theorem qlh {P:Program} {e:TypeId} {s n:Nat} {zs:List Value} (h:zeros P e s n=some zs):zs.all constOk=true∧zs.length=n*s:=by
 unfold zeros at h
 split at h
 ·rename_i z hz
  split at h
  ·rename_i hl
   injection h with h;subst h
   exact ⟨repl_const (qsl (qlg hz)).2 n,by rw [qe2,hl]⟩
  ·cases h
 ·cases h
section
variable {P:Program} {Z:Nat→Prop} {H0:Heap} {ρ:Rho} {σ:VSt} {c:Nat} {H:Heap}
theorem View.slice {Y:Nat→Prop} {v:Value} {n sz:Nat} {vs:List Value} (h:View Y H v n sz vs):∃ p m,v = .slice p n m:=by
 obtain ⟨_,_,h⟩:=h
 rcases h with ⟨rfl,h⟩ | ⟨b,o,f,w,bs,h,_⟩
 ·rcases h with rfl | rfl
  ·exact ⟨_,_,rfl⟩
  ·exact ⟨_,_,rfl⟩
 ·exact ⟨_,_,h⟩
theorem qdl (h:VRl Z H0 ρ σ c H) {id ver:Nat} {o:Ob} {v:Value} (hA:RepF (ZZ Z H0.length ρ σ) ρ σ c H (.own id ver) v) (hg:getO σ id ver=some o) :
  0 < o.sz∧o.cs.length=o.n*o.sz∧((ρ id=none∧o.n=0∧o.cs=[]∧v = .slice none 0 0)∨∃ b f bs,ρ id=some (b,f)∧v=sliceA b 0 o.n o.sz∧H[b]?=some (.cells f true bs)∧o.cs.length≤bs.length∧RepCL (ZZ Z H0.length ρ σ) H o.cs (bs.take o.cs.length)):=by
 obtain ⟨ho,hv⟩:=qck hg
 simp only [RepF,RepX] at hA
 obtain ⟨hz,e⟩:=hA.2 o ho hv
 have ob:=h.obj id o ho
 cases hr:ρ id with
 | none =>
   rw [hr] at ob e
   obtain ⟨_,h2,h3⟩:=ob
   exact ⟨hz,by rw [h3,h2,Nat.zero_mul];rfl,.inl ⟨rfl,h2,h3,e⟩⟩
 | some p =>
   obtain ⟨b,f⟩:=p
   rw [hr] at ob e
   obtain ⟨h1,h2,bs,h3,h4,h5⟩:=ob
   rw [if_neg (by omega)] at h5
   exact ⟨hz,h5.1,.inr ⟨b,f,bs,rfl,e,h3,h4,h5.2⟩⟩
theorem qha (h:VRl Z H0 ρ σ c H) {A:VV} {cs:List VV} {v:Value} (hA:RepF (ZZ Z H0.length ρ σ) ρ σ c H A v) (hs:scalV σ A=some cs):∃ vs,scal v=some vs∧All2 (RepX (ZZ Z H0.length ρ σ) ρ σ c H) cs vs:=by
 cases A with
 | st l =>
   injection hs with hs;subst hs
   simp only [RepF] at hA
   obtain ⟨vs,rfl,h2⟩:=hA
   exact ⟨vs,by simp [scal],h2⟩
 | sc w =>
   injection hs with hs;subst hs
   obtain ⟨rfl,hw⟩:=qdw hA
   refine ⟨[v],?_,.cons (by simp only [RepX];exact qdv.2 ⟨rfl,hw⟩) .nil⟩
   cases v<;>first | rfl | cases hw
 | nl =>
   injection hs with hs;subst hs
   obtain rfl:=qeu hA
   exact ⟨[_],rfl,.cons (by simp only [RepX,RepC]) .nil⟩
 | fz n sz l =>
   injection hs with hs;subst hs
   simp only [RepF] at hA
   refine ⟨[v],?_,.cons hA .nil⟩
   simp only [RepX,RepC] at hA
   obtain ⟨vs,h1,_⟩:=hA
   obtain ⟨p,m,rfl⟩:=h1.slice
   rfl
 | rp l =>
   injection hs with hs;subst hs
   simp only [RepF] at hA
   refine ⟨[v],?_,.cons hA .nil⟩
   simp only [RepX] at hA
   obtain ⟨b,o,f,w,bs,rfl,_⟩:=hA
   rfl
 | own id ver =>
   simp only [scalV] at hs
   split at hs
   ·rename_i o hg
    split at hs
    ·cases hs
    ·injection hs with hs;subst hs
     have h1:=qdl h hA hg
     simp only [RepF] at hA
     refine ⟨[v],?_,.cons hA .nil⟩
     rcases h1.2.2 with ⟨_,_,_,rfl⟩ | ⟨b,f,bs,_,rfl,_⟩<;>rfl
   ·cases hs
 | ptr id ver i =>
   simp only [scalV] at hs
   split at hs
   ·rename_i o hg
    injection hs with hs;subst hs
    obtain ⟨ho,hv⟩:=qck hg
    simp only [RepF] at hA
    refine ⟨[v],?_,.cons hA .nil⟩
    simp only [RepX] at hA
    obtain ⟨b,f,_,rfl⟩:=hA.2 o ho hv
    rfl
   ·cases hs
 | mp es =>
   injection hs with hs;subst hs
   refine ⟨[v],?_,.cons (by simpa only [RepF] using hA) .nil⟩
   simp only [RepF,RepX,RepC] at hA
   obtain ⟨b,rfl,_⟩:=hA
   rfl
 | _=>cases hs
theorem qqt {Y:Nat→Prop} {τ:VSt} {A:VV} {cs:List VV} {v:Value} (hA:RepC Y H A v) (hs:scalV τ A=some cs):∃ vs,scal v=some vs∧RepCL Y H cs vs:=by
 cases A with
 | st l =>
   injection hs with hs;subst hs
   simp only [RepC] at hA
   obtain ⟨vs,rfl,h2⟩:=hA
   exact ⟨vs,by simp [scal],h2⟩
 | sc w =>
   injection hs with hs;subst hs
   obtain ⟨rfl,hw⟩:=qdv.1 hA
   refine ⟨[v],?_,qb3.2 (.cons hA .nil)⟩
   cases v<;>first | rfl | cases hw
 | nl =>
   injection hs with hs;subst hs
   refine ⟨[v],?_,qb3.2 (.cons hA .nil)⟩
   simp only [RepC] at hA
   subst hA;rfl
 | fz n sz l =>
   injection hs with hs;subst hs
   refine ⟨[v],?_,qb3.2 (.cons hA .nil)⟩
   simp only [RepC] at hA
   obtain ⟨vs,h1,_⟩:=hA
   obtain ⟨p,m,rfl⟩:=h1.slice
   rfl
 | tup l=>cases hs
 | mp es =>
   injection hs with hs;subst hs
   refine ⟨[v],?_,qb3.2 (.cons hA .nil)⟩
   simp only [RepC] at hA
   obtain ⟨b,rfl,_⟩:=hA
   rfl
 | _=>simp only [RepC] at hA
theorem qhr {R:VV→Value→Prop} {place:Nat→Option (Nat×Nat)} {ps:List (Nat×VV)} {qs:List (Nat×Value)} (hp:All2 (fun (p:Nat×VV) (q:Nat×Value)=>p.1=q.1∧∀ cs,scalV σ p.2=some cs→∃ vs,scal q.2=some vs∧All2 R cs vs) ps qs) :
  ∀ {cs r:List VV} {ds:List Value},All2 R cs ds→fillV σ place cs ps=some r→∃ r',fillL place ds qs=some r'∧All2 R r r':=by
 induction hp with
 | nil=>intro cs r ds h hf;injection hf with hf;subst hf;exact ⟨ds,rfl,h⟩
 | @cons x y l l' h1 _ ih =>
   intro cs r ds h hf
   obtain ⟨i,A⟩:=x
   obtain ⟨j,v⟩:=y
   obtain ⟨e1,h2⟩:=h1
   simp only at e1 h2
   subst e1
   simp only [fillV] at hf
   split at hf
   ·rename_i off size vc e2 e3
    split at hf
    ·rename_i hc
     obtain ⟨vs,e4,h4⟩:=h2 vc e3
     obtain ⟨r',e5,h5⟩:=ih (All2.setLs h4 off h) hf
     refine ⟨r',?_,h5⟩
     simp only [fillL,e2,e4]
     rw [if_pos ⟨by rw [← h4.length];exact hc.1,by rw [← h4.length,← h.length];exact hc.2⟩,← qsj]
     exact e5
    ·cases hf
   ·cases hf
theorem qhs {Y:Nat→Prop} {t:TypeId} {z:List VV} (h:zeroV P t=some z):∃ w,zeroT P t=some w∧scal w=some w.cells.toList∧z=w.cells.toList.map vcst1∧RepCL Y H z w.cells.toList:=by
 unfold zeroV at h
 cases hz:zeroT P t with
 | none=>rw [hz] at h;cases h
 | some w =>
   rw [hz] at h
   simp only [Option.bind_some] at h
   split at h
   ·cases h
   injection h with h
   subst h
   have:=qsl (qlg hz)
   exact ⟨w,rfl,this.1,rfl,qio this.2⟩
theorem zeroV_nb {t:TypeId} {z:List VV} {w:Value} (h:zeroV P t=some z) (hz:zeroT P t=some w):bldZ w.cells.toList=false:=by
 unfold zeroV at h
 rw [hz] at h
 simp only [Option.bind_some] at h
 split at h
 ·cases h
 ·rename_i hn
  simpa using hn
theorem qpb {R:VV→Value→Prop} {Y0:Nat→Prop} (hR:∀ A v,RepC Y0 H A v→R A v) {t:TypeId} {ps:List (Nat×VV)} {qs:List (Nat×Value)} (hp:All2 (fun (p:Nat×VV) (q:Nat×Value)=>p.1=q.1∧∀ cs,scalV σ p.2=some cs→∃ vs,scal q.2=some vs∧All2 R cs vs) ps qs) {r:VV} (h:buildV P σ t ps=some r) :
  ∃ cs vs,r = .st cs∧buildA P t qs=some (.agg vs.toArray)∧All2 R cs vs:=by
 unfold buildV at h
 split at h
 ·rename_i z fields hz hu
  split at h
  ·rename_i places hpl
   obtain ⟨w,hw,_,_,hrep⟩:=qhs (H:=H) (Y:=Y0) hz
   cases hf:fillV σ (places[·]?) z ps with
   | none=>rw [hf] at h;cases h
   | some cs =>
     rw [hf] at h
     injection h with h;subst h
     obtain ⟨vs,e,h2⟩:=qhr hp ((qb3.1 hrep).mono fun _ _ h=>hR _ _ h) hf
     refine ⟨cs,vs,rfl,?_,h2⟩
     unfold buildA
     simp only [hw,hu,hpl,e]
  ·cases h
 ·rename_i z len elem hz hu
  split at h
  ·rename_i size hs
   obtain ⟨w,hw,_,_,hrep⟩:=qhs (H:=H) (Y:=Y0) hz
   cases hf:fillV σ (fun i=>some (i*size,size)) z ps with
   | none=>rw [hf] at h;cases h
   | some cs =>
     rw [hf] at h
     injection h with h;subst h
     obtain ⟨vs,e,h2⟩:=qhr hp ((qb3.1 hrep).mono fun _ _ h=>hR _ _ h) hf
     refine ⟨cs,vs,rfl,?_,h2⟩
     unfold buildA
     simp only [hw,hu,hs,e]
  ·cases h
 ·cases h
theorem qli (h:VRl Z H0 ρ σ c H) {A:VV} {v:Value} (hA:RepF (ZZ Z H0.length ρ σ) ρ σ c H A v) {i:Nat} {cs:List VV} (hc:cellsV σ A=some (i,cs)) :
  ∃ b o f w bs,v=ptrA b (o+i)∧H[b]?=some (.cells f w bs)∧o+cs.length≤bs.length∧All2 (RepX (ZZ Z H0.length ρ σ) ρ σ c H) cs ((bs.drop o).take cs.length):=by
 cases A with
 | ptr id ver j =>
   simp only [cellsV] at hc
   cases hg:getO σ id ver with
   | none=>rw [hg] at hc;cases hc
   | some o =>
     rw [hg] at hc
     injection hc with hc
     injection hc with e1 e2
     subst e1;subst e2
     obtain ⟨ho,hv⟩:=qck hg
     simp only [RepF,RepX] at hA
     obtain ⟨b,f,hr,e⟩:=hA.2 o ho hv
     have ob:=h.obj id o ho
     rw [hr] at ob
     obtain ⟨h1,h2,bs,h3,h4,h5⟩:=ob
     refine ⟨b,0,f,true,bs,by rw [Nat.zero_add];exact e,h3,by omega,?_⟩
     rw [List.drop_zero]
     split at h5
     ·exact h5
     ·exact h5.2.toX
 | rp l =>
   simp only [cellsV] at hc
   injection hc with hc
   injection hc with e1 e2
   subst e1;subst e2
   simp only [RepF,RepX] at hA
   obtain ⟨b,o,f,w,bs,e,h1,h2,h3,h4⟩:=hA
   exact ⟨b,o,f,w,bs,e,h1,h3,h4.toX⟩
 | _=>cases hc
theorem qsm {Y:Nat→Prop} {v:Value} {r:VV} (h:cvV v=some r):RepF Y ρ σ c H r v∧vEq v v=true:=by
 unfold cvV at h
 split at h
 ·rename_i cs
  split at h
  case isFalse=>cases h
  rename_i ha
  injection h with h;subst h
  have hall:∀ l:List Value,(l.all fun v=>scOk v && sEq v v)=true→All2 (RepX Y ρ σ c H) (l.map .sc) l∧listEq l l=true:=by
   intro l
   induction l with
   | nil=>intro _;exact ⟨.nil,rfl⟩
   | cons x l ih =>
     intro h
     rw [List.all_cons,Bool.and_eq_true,Bool.and_eq_true] at h
     obtain ⟨i1,i2⟩:=ih h.2
     refine ⟨.cons (by simp only [RepX];exact qdv.2 ⟨rfl,h.1.1⟩) i1,?_⟩
     simp only [listEq,h.1.2,i2,Bool.and_self]
  obtain ⟨h1,h2⟩:=hall _ ha
  refine ⟨?_,by simp only [vEq];exact h2⟩
  simp only [RepF]
  exact ⟨cs.toList,by simp,h1⟩
 ·rename_i hn
  split at h
  case isFalse=>cases h
  rename_i ha
  injection h with h;subst h
  rw [Bool.and_eq_true] at ha
  refine ⟨qfm ha.1,?_⟩
  have:vEq v v=sEq v v:=by
   cases v<;>first | rfl | exact absurd rfl (hn _) | (exfalso;simp [scOk] at ha)
  rw [this];exact ha.2
theorem look_sound {Y:Nat→Prop} {t:TypeId} {b:Nat} {es:List (Value×Value)} {k:Value} {r:VV} (hb:H[b]?=some (.map es)) (h:lookV P t es k=some r):∃ u,lookupA P t (.map (some b)) k false H=some u∧RepF Y ρ σ c H r u∧vEq u u=true:=by
 unfold lookV at h
 split at h
 case h_2=>cases h
 rename_i kt et hu
 split at h
 case h_2=>cases h
 rename_i kd z hkd hz
 split at h
 case isFalse=>cases h
 rename_i hc
 unfold lookupA
 simp only [hu,hkd,hz,hb]
 rw [if_pos hc]
 split at h
 ·rename_i v hv
  rw [hv]
  exact ⟨v,by simp,qsm h⟩
 ·rename_i hv
  rw [hv]
  exact ⟨z,by simp,qsm h⟩
theorem qpc (h:VRl Z H0 ρ σ c H) {A:VV} {v:Value} (hA:RepX (ZZ Z H0.length ρ σ) ρ σ c H A v) (hs:solid1 σ A=true):sEq v v=true∧vEq v v=sEq v v:=by
 have hsl:∀ p n m,v = .slice p n m→sEq v v=true∧vEq v v=sEq v v:=fun p n m e=>by subst e;exact ⟨by simp [sEq],rfl⟩
 cases A with
 | sc w =>
   simp only [RepX] at hA
   obtain ⟨rfl,hw⟩:=qdv.1 hA
   cases v with
   | string s=>exact ⟨ql7.2 rfl,rfl⟩
   | func f fs cs =>
     cases f with
     | func g =>
       simp only [scOk,Bool.and_eq_true] at hw
       obtain ⟨h1,h2⟩:=hw
       have e1:fs = #[]:=by simpa using h1
       have e2:cs = #[]:=by simpa using h2
       subst e1;subst e2
       exact ⟨by simp [sEq,fnEq,ptrsOf],rfl⟩
     | _=>cases hw
   | pointer p=>exact ⟨by simp [sEq],rfl⟩
   | map p=>exact ⟨by simp [sEq],rfl⟩
   | _=>first | (cases hw;done) | exact ⟨by simp [sEq],rfl⟩
 | nl=>simp only [RepX,RepC] at hA;exact hsl _ _ _ hA
 | fz n sz cs =>
   simp only [RepX,RepC] at hA
   obtain ⟨vs,h1,_⟩:=hA
   obtain ⟨p,m,e⟩:=h1.slice
   exact hsl _ _ _ e
 | own id ver =>
   simp only [solid1] at hs
   split at hs
   ·rename_i o hg
    have h1:=qdl h hA.toF hg
    rcases h1.2.2 with ⟨_,_,_,e⟩ | ⟨b,f,bs,_,e,_⟩
    ·exact hsl _ _ _ e
    ·exact hsl _ _ _ e
   ·cases hs
 | _=>cases hs
theorem qpd (h:VRl Z H0 ρ σ c H):∀ {cs:List VV} {vs:List Value},All2 (RepX (ZZ Z H0.length ρ σ) ρ σ c H) cs vs→cs.all (solid1 σ)=true→listEq vs vs=true:=by
 intro cs
 induction cs with
 | nil=>intro vs h1 _;cases h1;rfl
 | cons A cs ih =>
   intro vs h1 h2
   cases h1 with
   | cons h3 h4 =>
     simp only [List.all_cons,Bool.and_eq_true] at h2
     simp only [listEq,Bool.and_eq_true]
     exact ⟨(qpc h h3 h2.1).1,ih h4 h2.2⟩
theorem qmi (h:VRl Z H0 ρ σ c H) {A r:VV} {v:Value} (hA:RepF (ZZ Z H0.length ρ σ) ρ σ c H A v) {t:TypeId} (hl:loadV P t σ A=some r):∃ u,loadA P t v H=some u∧RepF (ZZ Z H0.length ρ σ) ρ σ c H r u∧vEq u u=true:=by
 unfold loadV at hl
 split at hl
 ·rename_i i cs hc ht
  split at hl
  ·rename_i n hn
   split at hl
   ·rename_i hin
    injection hl with hl;subst hl
    obtain ⟨b,o,f,w,bs,rfl,h1,h2,h3⟩:=qli h hA hc
    have hlen:=h3.length
    have h4:=(h3.drop i).take n
    have e:(((bs.drop o).take cs.length).drop i).take n=(bs.drop (o+i)).take n:=by
     rw [List.drop_take,List.take_take,List.drop_drop,Nat.min_eq_left (by omega)]
    rw [e] at h4
    refine ⟨.agg ((bs.drop (o+i)).take n).toArray,?_,?_,?_⟩
    ·simp only [loadA,ptrA,ht,hn,Heap.cellsAt,h1]
     rw [if_pos (by omega)]
    ·simp only [RepF];exact ⟨_,rfl,h4⟩
    ·simp only [vEq]
     exact qpd h (by simpa using h4) hin.2
   ·cases hl
  ·cases hl
 ·rename_i i cs hc ht
  split at hl
  ·rename_i B hB
   split at hl
   ·rename_i hs
    injection hl with hl;subst hl
    obtain ⟨b,o,f,w,bs,rfl,h1,h2,h3⟩:=qli h hA hc
    obtain ⟨u,hu,h4⟩:=h3.get i B hB
    have hi:=qa9 hB
    rw [List.getElem?_take,if_pos hi,List.getElem?_drop] at hu
    have h5:=qpc h h4 hs
    refine ⟨u,?_,h4.toF,by rw [h5.2];exact h5.1⟩
    simp only [loadA,ptrA,ht,Heap.cell,h1]
    exact hu
   ·cases hl
  ·cases hl
 ·cases hl
theorem qqu (h:VRl Z H0 ρ σ c H) {A B:VV} {p v:Value} (hA:RepF (ZZ Z H0.length ρ σ) ρ σ c H A p) (hB:RepF (ZZ Z H0.length ρ σ) ρ σ c H B v) {t:TypeId} {σ':VSt} (hs:storeV P t σ A B=some σ') :
  ∃ H',storeA P t p v H=some H'∧VRl Z H0 ρ σ' c H'∧Tr Z H0.length ρ σ c H ρ σ' c H':=by
 unfold storeV at hs
 split at hs
 ·rename_i id ver i cs n e1 e2
  split at hs
  ·rename_i o hg
   obtain ⟨ho,hv⟩:=qck hg
   simp only [RepF,RepX] at hA
   obtain ⟨b,f,hr,rfl⟩:=hA.2 o ho hv
   obtain ⟨vs,e3,h3⟩:=qha h hB e1
   have hlen:=h3.length
   split at hs
   ·rename_i hc
    split at hs
    ·rename_i hz
     injection hs with hs;subst hs
     obtain ⟨H',e,h4,h5⟩:=qle h ho hr (i:=i) (xs:=cs) (vs:=vs) (by omega) (by rw [if_pos hz];exact h3)
     refine ⟨H',?_,h4,h5⟩
     simp only [storeA,ptrA,e3,e2]
     rw [if_pos (by omega)];exact e
    ·rename_i hz
     split at hs
     ·rename_i cs' hp
      split at hs
      ·rename_i hn
       injection hs with hs;subst hs
       have h6:=qgw h (Y:=ZZ Z H0.length ρ σ) ⟨fun _ _ _ _ z e=>⟨z,e⟩,fun _ _ e=>e⟩ h3 hp (fun id hi=>by rw [hn] at hi;cases hi)
       have hl2:=(qb3.1 h6).length
       obtain ⟨H',e,h4,h5⟩:=qle h ho hr (i:=i) (xs:=cs') (vs:=vs) (by omega) (by rw [if_neg hz];exact h6)
       refine ⟨H',?_,h4,h5⟩
       simp only [storeA,ptrA,e3,e2]
       rw [if_pos (by omega)];exact e
      ·cases hs
     ·cases hs
   ·cases hs
  ·cases hs
 ·cases hs
theorem qmj {Y:Nat→Prop} {t:TypeId} {cs:List VV} {vs:List Value} {off:Nat} {r:VV} (h:All2 (RepX Y ρ σ c H) cs vs) (hp:partV P t cs off=some r):∃ u,partA P t vs off=some u∧RepF Y ρ σ c H r u:=by
 unfold partV at hp
 split at hp
 ·rename_i ht
  split at hp
  ·rename_i n hn
   injection hp with hp;subst hp
   refine ⟨_,by unfold partA;rw [ht];simp only [hn];rfl,?_⟩
   simp only [RepF]
   exact ⟨_,rfl,(h.drop off).take n⟩
  ·cases hp
 ·rename_i ht
  obtain ⟨u,hu,h2⟩:=h.get off r hp
  exact ⟨u,by unfold partA;rw [ht];exact hu,h2.toF⟩
 ·cases hp
end
end Go.Abs
