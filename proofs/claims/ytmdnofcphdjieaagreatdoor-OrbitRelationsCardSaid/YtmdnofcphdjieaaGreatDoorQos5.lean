/- Of the law: texts of its proof, joined (part 5). -/
import Derived.Test.YtmdnofcphdjieaaGreatDoorQos4
set_option linter.all false
namespace Go.Abs
def OwnR (B:Nat) (Z:Nat→Prop) (H':Heap) (v:Value) (n sz:Nat) (cs:List VV):Prop :=
 (n=0∧cs=[]∧v = .slice none 0 0)∨∃ b f bs,v=sliceA b 0 n sz∧B≤b∧B≤f∧H'[b]?=some (.cells f true bs)∧cs.length=n*sz∧cs.length≤bs.length∧RepCL (fun f'=>(Z f'∨B≤f')∧f'≠f) H' cs (bs.take cs.length)
def AnsAt (ca:CallF) (g:Nat) (args:List VV) (r:VV) (fresh:Bool):Prop:=∀ (Z:Nat→Prop) (H:Heap) (vs:List Value),WF H→RepCL Z H args vs →
 ∃ v H',ca (.func (.func g) #[] #[]) vs H=some (v,H')∧RepC (fun f=>Z f∨H.length≤f) H' r v∧Old H.length H H'∧WF H'∧(fresh=true→∀ n sz cs,r = .fz n sz cs→OwnR H.length Z H' v n sz cs)
def InAt (ca:CallF) (g:Nat) (args cs':List VV):Prop:=∀ (n sz:Nat) (cs rest:List VV),args = .fz n sz cs::rest→∀ (H:Heap) (vs:List Value) (us:List Value),WF H→RepCL (fun _=>True) H rest vs→allPl cs'=some us→cs'.length=cs.length →
 (n=0→cs=[]→∃ H',ca (.func (.func g) #[] #[]) (.slice none 0 0::vs) H=some (.tuple #[],H')∧Old H.length H H'∧WF H') ∧
 ∀ (Z:Nat→Prop) (b f:Nat) (bs:List Value),H[b]?=some (.cells f true bs)→cs.length=n*sz→0 < sz→cs.length≤bs.length→RepCL Z H cs (bs.take cs.length) →
   ∃ H1 H',H.write b 0 us=some H1∧ca (.func (.func g) #[] #[]) (sliceA b 0 n sz::vs) H=some (.tuple #[],H')∧Old H1.length H1 H'∧WF H'
def AnsX (ca:CallF) (g:Nat) (args:List VV) (r:VV) (fresh:Bool):Prop:=match r with
 | .rp cs=>InAt ca g args cs
 | r=>AnsAt ca g args r fresh
theorem AnsX.ans {ca:CallF} {g:Nat} {args:List VV} {r:VV} {fresh:Bool} (h:AnsX ca g args r fresh) (hr:∀ cs,r≠.rp cs):AnsAt ca g args r fresh:=by
 cases r<;>first | exact h | exact absurd rfl (hr _)
theorem AnsAt.x {ca:CallF} {g:Nat} {args:List VV} {r:VV} {fresh:Bool} (h:AnsAt ca g args r fresh) (hr:∀ cs,r≠.rp cs):AnsX ca g args r fresh:=by
 cases r<;>first | exact h | exact absurd rfl (hr _)
def CallsV (ca:CallF) (call:VCall):Prop:=∀ g args r fresh,call g args=some (r,fresh)→AnsX ca g args r fresh
def CallsP (ca:CallF) (call:VCall):Prop:=∀ g args r fresh,call g args=some (r,fresh)→AnsAt ca g args r fresh
theorem qsn {x:Option (VV×Bool)} {r:VV} {fr:Bool} (h:ipF x=some (r,fr)):x=some (r,fr)∧∀ cs,r≠.rp cs:=by
 unfold ipF at h
 split at h
 ·cases h
 ·rename_i hn
  subst h
  exact ⟨rfl,fun cs e=>hn cs fr (by rw [e])⟩
theorem CallsV.noIP {ca:CallF} {call:VCall} (h:CallsV ca call):CallsP ca (Abs.noIP call):=fun g args r fresh e=>by
 obtain ⟨e1,e2⟩:=qsn e
 exact (h g args r fresh e1).ans e2
theorem CallsP.v {ca:CallF} {call:VCall} (h:CallsP ca (Abs.noIP call)):CallsV ca (Abs.noIP call):=fun g args r fresh e=>(h g args r fresh e).x (qsn e).2
theorem RepCL.length {Z:Nat→Prop} {H:Heap} {cs:List VV} {vs:List Value} (h:RepCL Z H cs vs):cs.length=vs.length:=(qb3.1 h).length
theorem RepCL.drop {Z:Nat→Prop} {H:Heap} {cs:List VV} {vs:List Value} (h:RepCL Z H cs vs) (n:Nat):RepCL Z H (cs.drop n) (vs.drop n):=qb3.2 ((qb3.1 h).drop n)
theorem RepCL.take {Z:Nat→Prop} {H:Heap} {cs:List VV} {vs:List Value} (h:RepCL Z H cs vs) (n:Nat):RepCL Z H (cs.take n) (vs.take n):=qb3.2 ((qb3.1 h).take n)
section
variable {P:Program} {Z:Nat→Prop} {H0:Heap} {ρ:Rho} {σ:VSt} {c:Nat} {H:Heap}
theorem addr_sound (h:VRl Z H0 ρ σ c H) {A I r:VV} {x i:Value} (hA:RepF (ZZ Z H0.length ρ σ) ρ σ c H A x) (hI:RepF (ZZ Z H0.length ρ σ) ρ σ c H I i) {t:TypeId} (hr:addrV P t σ A I=some r):∃ u,indexAddrA P t x i=some u∧RepF (ZZ Z H0.length ρ σ) ρ σ c H r u:=by
 unfold addrV at hr
 split at hr
 ·rename_i kk k
  obtain ⟨rfl,_⟩:=qdw hI
  split at hr
  ·rename_i e size hs
   split at hr
   ·rename_i id ver
    split at hr
    ·rename_i o hg
     split at hr
     ·rename_i hk
      injection hr with hr;subst hr
      obtain ⟨_,_,h3⟩:=qdl h hA hg
      rcases h3 with ⟨_,hn,_⟩ | ⟨b,f,bs,hρ,rfl,_⟩
      ·omega
      ·refine ⟨ptrA b (k.toNat*size),?_,?_⟩
       ·unfold indexAddrA
        rw [hs]
        simp only [sliceA]
        rw [if_pos hk,Nat.zero_add]
       ·simp only [RepF,RepX] at hA ⊢
        exact ⟨hA.1,fun _ _ _=>⟨b,f,hρ,rfl⟩⟩
     ·cases hr
    ·cases hr
   ·rename_i n sz cs
    split at hr
    ·rename_i hk
     injection hr with hr;subst hr
     obtain ⟨rfl,h1,h2⟩:=hk
     simp only [RepF,RepX,RepC] at hA
     obtain ⟨vs,⟨hl,hz,h3⟩,h4⟩:=hA
     rcases h3 with ⟨hn,_⟩ | ⟨b,o,f,w,bs,rfl,e1,e2,e3,e4⟩
     ·omega
     ·refine ⟨ptrA b (o+k.toNat*sz),?_,?_⟩
      ·unfold indexAddrA
       rw [hs]
       simp only [sliceA]
       rw [if_pos ⟨h1,h2⟩]
      ·have hl2:=h4.length
       have hkn:k.toNat*sz≤n*sz:=Nat.mul_le_mul_right _ (by omega)
       simp only [RepF,RepX]
       refine ⟨b,o+k.toNat*sz,f,w,bs,rfl,e1,e2,by rw [List.length_drop];omega,?_⟩
       have:=h4.drop (k.toNat*sz)
       rw [← e4,List.drop_take,List.drop_drop] at this
       rw [List.length_drop,hl2,hl];exact this
    ·cases hr
   ·cases hr
  ·rename_i hs
   split at hr
   ·rename_i len elem hu
    split at hr
    ·rename_i s he
     split at hr
     ·rename_i hk
      split at hr
      ·rename_i id ver j
       split at hr
       ·rename_i o hg
        injection hr with hr;subst hr
        obtain ⟨ho,hv⟩:=qck hg
        simp only [RepF,RepX] at hA ⊢
        obtain ⟨b,f,hρ,rfl⟩:=hA.2 o ho hv
        refine ⟨ptrA b (j+k.toNat*s),?_,hA.1,fun _ _ _=>⟨b,f,hρ,rfl⟩⟩
        unfold indexAddrA
        rw [hs]
        simp only [ptrA,hu,he]
        rw [if_pos hk]
       ·cases hr
      ·rename_i cs
       split at hr
       ·rename_i hc
        injection hr with hr;subst hr
        simp only [RepF,RepX] at hA ⊢
        obtain ⟨b,o,f,w,bs,rfl,e1,e2,e3,e4⟩:=hA
        refine ⟨ptrA b (o+k.toNat*s),?_,b,o+k.toNat*s,f,w,bs,rfl,e1,e2,by rw [List.length_drop];omega,?_⟩
        ·unfold indexAddrA
         rw [hs]
         simp only [ptrA,hu,he]
         rw [if_pos hk]
        ·have:=e4.drop (k.toNat*s)
         rw [List.drop_take,List.drop_drop] at this
         rw [List.length_drop];exact this
       ·cases hr
      ·cases hr
     ·cases hr
    ·cases hr
   ·cases hr
 ·cases hr
theorem qqv (h:VRl Z H0 ρ σ c H) {A r:VV} {x:Value} (hA:RepF (ZZ Z H0.length ρ σ) ρ σ c H A x) {t:TypeId} {i:Nat} (hr:fieldAddrV P t σ A i=some r):∃ u,fieldAddrA P t x i=some u∧RepF (ZZ Z H0.length ρ σ) ρ σ c H r u:=by
 unfold fieldAddrV at hr
 split at hr
 ·rename_i fields hu
  split at hr
  ·rename_i f hf
   split at hr
   ·rename_i n hn
    split at hr
    ·rename_i id ver k
     split at hr
     ·rename_i o hg
      injection hr with hr;subst hr
      obtain ⟨ho,hv⟩:=qck hg
      simp only [RepF,RepX] at hA ⊢
      obtain ⟨b,g,hρ,rfl⟩:=hA.2 o ho hv
      refine ⟨ptrA b (k+f.offset),?_,hA.1,fun _ _ _=>⟨b,g,hρ,rfl⟩⟩
      unfold fieldAddrA
      simp only [hu,ptrA,hf,hn]
     ·cases hr
    ·rename_i cs
     split at hr
     ·rename_i hc
      injection hr with hr;subst hr
      simp only [RepF,RepX] at hA ⊢
      obtain ⟨b,o,g,w,bs,rfl,e1,e2,e3,e4⟩:=hA
      refine ⟨ptrA b (o+f.offset),?_,b,o+f.offset,g,w,bs,rfl,e1,e2,by rw [List.length_drop];omega,?_⟩
      ·unfold fieldAddrA
       simp only [hu,ptrA,hf,hn]
      ·have:=e4.drop f.offset
       rw [List.drop_take,List.drop_drop] at this
       rw [List.length_drop];exact this
     ·cases hr
    ·cases hr
   ·cases hr
  ·cases hr
 ·cases hr
theorem qpe {Y:Nat→Prop} {nt:Nat} {a:Fr} {A:VF} (hf:∀ t,RepF Y ρ σ c H (A t) (a t)) {x:Option Operand} (hx:∀ y,x=some y→opndOk nt y=true) {d m r:Nat} (h:bndV (x.map (evV A)) d m=some r):boundA (x.map (ev a)) d m=some r∧(x≠none→r≤m):=by
 cases x with
 | none=>exact ⟨h,fun h=>absurd rfl h⟩
 | some y =>
   have h1:=qca hf (hx y rfl)
   simp only [Option.map_some] at h ⊢
   unfold bndV at h
   split at h
   ·rename_i hn;cases hn
   ·rename_i k z he
    injection he with he
    rw [he] at h1
    obtain ⟨e,_⟩:=qdw h1
    rw [e]
    split at h
    ·rename_i hk
     injection h with h;subst h
     refine ⟨by unfold boundA;simp only;rw [if_pos hk],fun _=>by omega⟩
    ·cases h
   ·cases h
theorem qso {Y:Nat→Prop} {t e:TypeId} {sz n h l:Nat} (hs:sliceElem P t=some (e,sz)) {v:Value} {vs:List Value} (hv:View Y H v n sz vs) {lo hi:Option Value} (hh:boundA hi n n=some h) (hl:boundA lo 0 h=some l) (h1:h≤n) (h2:l≤h) :
  ∃ u,sliceExprA P t v lo hi=some u∧View Y H u (h - l) sz ((vs.drop (l*sz)).take ((h - l)*sz)):=by
 obtain ⟨hlen,hz,h3⟩:=hv
 have hls:l*sz+(h - l)*sz=h*sz:=by rw [← Nat.add_mul];congr 1;omega
 have hhs:h*sz≤n*sz:=Nat.mul_le_mul_right _ h1
 have hlen2:((vs.drop (l*sz)).take ((h - l)*sz)).length=(h - l)*sz:=by rw [List.length_take,List.length_drop];omega
 rcases h3 with ⟨rfl,h3⟩ | ⟨b,o,f,w,bs,rfl,e1,e2,e3,e4⟩
 ·have hh0:h=0:=by omega
  have hl0:l=0:=by omega
  subst hh0;subst hl0
  rcases h3 with rfl | rfl
  ·refine ⟨.slice none 0 0,?_,hlen2,hz,.inl ⟨rfl,.inl rfl⟩⟩
   unfold sliceExprA
   simp only [hs,hh,hl]
  ·refine ⟨lostSlice,?_,hlen2,hz,.inl ⟨rfl,.inr rfl⟩⟩
   unfold sliceExprA lostSlice
   simp only [hs,hh,hl,if_true]
 ·by_cases c0:l=0
  ·subst c0
   refine ⟨sliceA b o h sz,?_,hlen2,hz,.inr ⟨b,o,f,w,bs,rfl,e1,e2,by simp only [Nat.sub_zero];omega,?_⟩⟩
   ·unfold sliceExprA
    simp only [sliceA,hs,hh,hl,if_true]
   ·rw [Nat.zero_mul,List.drop_zero,Nat.sub_zero,← e4,List.take_take,Nat.min_eq_left hhs]
  ·by_cases c1:l=h
   ·subst c1
    refine ⟨lostSlice,?_,hlen2,hz,.inl ⟨by omega,.inr rfl⟩⟩
    unfold sliceExprA
    simp only [sliceA,hs,hh,hl]
    rw [if_neg c0,if_pos trivial]
   ·refine ⟨sliceA b (o+l*sz) (h - l) sz,?_,hlen2,hz,.inr ⟨b,o+l*sz,f,w,bs,rfl,e1,e2,by omega,?_⟩⟩
    ·unfold sliceExprA
     simp only [sliceA,hs,hh,hl]
     rw [if_neg c0,if_neg c1,if_pos ⟨rfl,trivial⟩]
    ·rw [← e4,List.drop_take,List.take_take,List.drop_drop]
     congr 1
     rw [Nat.min_eq_left];omega
theorem qqw (h:VRl Z H0 ρ σ c H) {nt:Nat} {a:Fr} {A:VF} (hf:∀ t,RepF (ZZ Z H0.length ρ σ) ρ σ c H (A t) (a t)) {X:VV} {x:Value} (hX:RepF (ZZ Z H0.length ρ σ) ρ σ c H X x) {lo hi:Option Operand} (hlo:∀ y,lo=some y→opndOk nt y=true) (hhi:∀ y,hi=some y→opndOk nt y=true)
  {pol:Nat→Bool} {d:Option Nat} {t:TypeId} {op:Op} (hop:∀ v,reflV op v=true) {y:VV×VSt×Nat} (hr:sliceV P pol d t X (lo.map (evV A)) (hi.map (evV A)) σ c=some y) :
  StOk Z H0 ρ σ c H op ((sliceExprA P t x (lo.map (ev a)) (hi.map (ev a))).map (·,H)) y:=by
 unfold sliceV at hr
 have hhn:∀ {n h},bndV (hi.map (evV A)) n n=some h→boundA (hi.map (ev a)) n n=some h∧h≤n:=fun {n h} e=>by
  have:=qpe hf hhi e
  refine ⟨this.1,?_⟩
  cases hi with
  | none=>injection e with e;omega
  | some _=>exact this.2 (by simp)
 have hln:∀ {h l},bndV (lo.map (evV A)) 0 h=some l→boundA (lo.map (ev a)) 0 h=some l∧l≤h:=fun {h l} e=>by
  have:=qpe hf hlo e
  refine ⟨this.1,?_⟩
  cases lo with
  | none=>injection e with e;omega
  | some _=>exact this.2 (by simp)
 split at hr
 ·rename_i e size hs
  split at hr
  ·split at hr
   ·rename_i q hq
    split at hr
    ·rename_i l hl
     injection hr with hr;subst hr
     obtain ⟨h1,h2⟩:=hhn hq
     obtain ⟨h3,h4⟩:=hln hl
     obtain rfl:=qeu hX
     refine .same h ?_ (r:=.nl) hX (hop _)
     unfold sliceExprA
     simp only [hs,h1,h3,Option.map_some]
    ·cases hr
   ·cases hr
  ·rename_i n sz cs
   split at hr
   ·rename_i hz
    subst hz
    split at hr
    ·rename_i q hq
     split at hr
     ·rename_i l hl
      injection hr with hr;subst hr
      obtain ⟨h1,h2⟩:=hhn hq
      obtain ⟨h3,h4⟩:=hln hl
      simp only [RepF,RepX,RepC] at hX
      obtain ⟨vs,hv,hc⟩:=hX
      obtain ⟨u,hu,hv2⟩:=qso hs hv h1 h3 h2 h4
      refine .same h (v:=u) (by rw [hu];rfl) ?_ (hop _)
      simp only [RepF,RepX,RepC]
      exact ⟨_,hv2,(hc.drop _).take _⟩
     ·cases hr
    ·cases hr
   ·cases hr
  ·rename_i id ver
   split at hr
   ·rename_i o hg
    split at hr
    ·rename_i hz
     subst hz
     split at hr
     ·rename_i q hq
      split at hr
      ·rename_i l hl
       obtain ⟨h1,h2⟩:=hhn hq
       obtain ⟨h3,h4⟩:=hln hl
       obtain ⟨ho,hv⟩:=qck hg
       obtain ⟨hz,hlen,hown⟩:=qdl h hX hg
       cases hp:(pol (d.getD 0) && l == 0) with
       | true =>
         rw [hp,qaf] at hr
         injection hr with hr;subst hr
         simp only [Bool.and_eq_true,beq_iff_eq] at hp
         obtain ⟨_,rfl⟩:=hp
         obtain ⟨hrel,htr⟩:=cut_rel h ho (by omega) h2
         rcases hown with ⟨hρ,hn,hcs,rfl⟩ | ⟨b,f,bs,hρ,rfl,hb,hbl,hrep⟩
         ·refine ⟨.slice none 0 0,H,ρ,?_,hrel,htr,?_,hop _⟩
          ·have hq0:q=0:=by omega
           subst hq0
           rw [hn] at h1
           unfold sliceExprA
           simp only [hs,h1,h3,Option.map_some]
          ·simp only [RepF,RepX]
           refine ⟨Nat.lt_succ_self _,fun o' e1 e2=>?_⟩
           rw [qd8] at e1
           injection e1 with e1;subst e1
           exact ⟨hz,by rw [hρ];rfl⟩
         ·refine ⟨sliceA b 0 q o.sz,H,ρ,?_,hrel,htr,?_,hop _⟩
          ·unfold sliceExprA
           simp only [sliceA,hs,h1,h3,if_true,Option.map_some]
          ·simp only [RepF,RepX]
           refine ⟨Nat.lt_succ_self _,fun o' e1 e2=>?_⟩
           rw [qd8] at e1
           injection e1 with e1;subst e1
           exact ⟨hz,by rw [hρ];rfl⟩
       | false =>
         rw [hp,qar] at hr
         injection hr with hr;subst hr
         have hv2:∃ vs,View (ZZ Z H0.length ρ (killL σ [id])) H x o.n o.sz vs∧RepCL (ZZ Z H0.length ρ (killL σ [id])) H o.cs vs:=by
          rcases hown with ⟨hρ,hn,hcs,rfl⟩ | ⟨b,f,bs,hρ,rfl,hb,hbl,hrep⟩
          ·refine ⟨[],⟨by rw [hn,Nat.zero_mul];rfl,hz,.inl ⟨hn,.inl rfl⟩⟩,by rw [hcs];simp only [RepCL]⟩
          ·refine ⟨bs.take o.cs.length,⟨by rw [List.length_take];omega,hz,.inr ⟨b,0,f,true,bs,rfl,hb,qo6 h ho hρ (by simp),by omega,by rw [List.drop_zero,hlen]⟩⟩,RepCL.keep (qnn h [id]).keep _ _ hrep⟩
         obtain ⟨vs,hv2,hc2⟩:=hv2
         obtain ⟨u,hu,hv3⟩:=qso hs hv2 h1 h3 h2 h4
         refine ⟨u,H,ρ,by rw [hu];rfl,qsk h [id],qnn h [id],?_,hop _⟩
         simp only [RepF,RepX,RepC]
         exact ⟨_,hv3,(hc2.drop _).take _⟩
      ·cases hr
     ·cases hr
    ·cases hr
   ·cases hr
  ·cases hr
 ·split at hr
  ·rename_i s hu
   split at hr
   ·rename_i q hq
    split at hr
    ·rename_i l hl
     injection hr with hr;subst hr
     obtain ⟨h1,h2⟩:=hhn hq
     obtain ⟨h3,h4⟩:=hln hl
     obtain ⟨rfl,_⟩:=qdw hX
     refine .same h (v:=.string (s.extract l q)) ?_ (qfm rfl) (hop _)
     unfold sliceExprA
     simp only [hu,h1,h3,Option.map_some]
    ·cases hr
   ·cases hr
  ·cases hr
theorem qfw (h:VRl Z H0 ρ σ c H) {X:VV} {x:Value} (hX:RepF (ZZ Z H0.length ρ σ) ρ σ c H X x) {size k:Nat} {cs:List VV} (hr:readV σ size X=some (k,cs)) (hz:0 < size) :
  ∃ vs p m,x = .slice p k m∧readA H size x=some vs∧RepCL (ZZ Z H0.length ρ σ) H cs vs∧cs.length=k*size:=by
 unfold readV at hr
 split at hr
 ·injection hr with hr;injection hr with e1 e2;subst e1;subst e2
  obtain rfl:=qeu hX
  exact ⟨[],_,_,rfl,rfl,by simp only [RepCL],by simp⟩
 ·rename_i n sz l
  split at hr
  ·rename_i e
   subst e
   injection hr with hr;injection hr with e1 e2;subst e1;subst e2
   simp only [RepF,RepX,RepC] at hX
   obtain ⟨vs,⟨hl,_,h3⟩,hc⟩:=hX
   have hlen:=hc.length
   rcases h3 with ⟨rfl,h3⟩ | ⟨b,o,f,w,bs,rfl,e1,e2,e3,e4⟩
   ·have:vs=[]:=List.length_eq_zero_iff.1 (by rw [hl,Nat.zero_mul])
    subst this
    rcases h3 with rfl | rfl
    ·exact ⟨[],_,_,rfl,rfl,hc,by omega⟩
    ·exact ⟨[],_,_,rfl,rfl,hc,by omega⟩
   ·refine ⟨vs,_,_,rfl,?_,hc,by omega⟩
    simp only [readA,sliceA,Heap.cellsAt,e1]
    rw [if_pos e3,e4]
  ·cases hr
 ·rename_i id ver
  split at hr
  ·rename_i o hg
   split at hr
   ·rename_i e
    subst e
    injection hr with hr;injection hr with e1 e2;subst e1;subst e2
    obtain ⟨_,hlen,hown⟩:=qdl h hX hg
    rcases hown with ⟨_,hn,hcs,rfl⟩ | ⟨b,f,bs,_,rfl,hb,hbl,hrep⟩
    ·exact ⟨[],none,0,by rw [hn],rfl,by rw [hcs];simp only [RepCL],hlen⟩
    ·refine ⟨bs.take o.cs.length,_,_,rfl,?_,hrep,hlen⟩
     simp only [readA,sliceA,Heap.cellsAt,hb]
     rw [if_pos (by omega),List.drop_zero,hlen]
   ·cases hr
  ·cases hr
 ·cases hr
theorem qip {b f n sz ver:Nat} {i:Nat} {cs:List VV} {H':Heap} {Y:Nat→Prop} (hz:0 < sz):RepF Y (updV ρ i (some (b,f))) (updV σ i (some ⟨ver,n,sz,cs⟩)) (ver+1) H' (.own i ver) (sliceA b 0 n sz):=by
 simp only [RepF,RepX]
 refine ⟨Nat.lt_succ_self _,fun o' e1 e2=>?_⟩
 rw [qd8] at e1
 injection e1 with e1;subst e1
 exact ⟨hz,by rw [qd8];rfl⟩
theorem qht (h:VRl Z H0 ρ σ c H) {d:Option Nat} {n sz:Nat} {cs:List VV} {vs:List Value} (hz:0 < sz) (hl:cs.length=n*sz) (hc:RepCL (ZZ Z H0.length ρ σ) H cs vs) {y:VV×VSt×Nat} (hy:mkOwn d n sz cs σ c=some y) {op:Op} (hop:∀ v,reflV op v=true) :
  StOk Z H0 ρ σ c H op (some (sliceA H.length 0 n sz,H++[.cells H.length true vs])) y:=by
 unfold mkOwn at hy
 cases d with
 | none=>cases hy
 | some i =>
   injection hy with hy;subst hy
   obtain ⟨h1,h2⟩:=qno h i n sz cs vs (by rw [if_neg (by omega)];exact ⟨hl,hc⟩)
   exact ⟨_,_,_,rfl,h1,h2,qip hz,hop _⟩
theorem qje {t el:TypeId} {size:Nat} (hs:sliceElem P t=some (el,size)) (hb:(bytesT P el).isSome∧(bytesT P el).getD 0≤maxA∧(zeros P el size 1).isSome) {s x:Value}:appendA P t s x H=match readA H size x,x with
  | some news,.slice _ k _ =>
    if k=0 then (match s with | .slice _ _ _=>some (s,H) | _=>none) else
    match s with
    | .slice none 0 0=>if 0 < size∧k*size≤maxA then some (sliceA H.length 0 k size,H++[.cells H.length true news]) else none
    | .slice (some ⟨b,0,none⟩) n sz =>
      match H[b]? with
      | some (.cells fam true cs) =>
        if sz=size∧0 < size∧n*size≤cs.length∧(n+k)*size≤maxA then
         some (sliceA H.length 0 (n+k) size,H.map (truncFam fam (n*size))++[.cells fam true (cs.take (n*size)++news)])
        else none
      | _=>none
    | _=>none
  | _,_=>none:=by
 unfold appendA
 simp only [hs]
 rw [if_pos hb]
 rfl
theorem rebaseA_0 {s:Value} {p:Option Addr} {m:Nat}:rebaseA s (.slice p 0 m) H=none:=by
 unfold rebaseA
 split
 ·split
  ·rename_i e
   injection e with _ e _
   omega
  ·rfl
 ·rfl
theorem app_reb (h:VRl Z H0 ρ σ c H) {S X:VV} {s x:Value} (hS:RepF (ZZ Z H0.length ρ σ) ρ σ c H S s) (hX:RepF (ZZ Z H0.length ρ σ) ρ σ c H X x) {d:Option Nat} {t:TypeId} {y:VV×VSt×Nat} (hr:appV P d t S X σ c=some y) :
  rebaseA s x H=none:=by
 have own0:∀ {id ver:Nat} {o:Ob},S = .own id ver→getO σ id ver=some o→rebaseA s x H=none:=by
  intro id ver o e hg
  subst e
  obtain ⟨_,_,hown⟩:=qdl h hS hg
  rcases hown with ⟨_,_,_,rfl⟩ | ⟨b,f,bs,_,rfl,_⟩<;>rfl
 unfold appV at hr
 split at hr
 ·rename_i el size hs
  split at hr
  ·rename_i hb
   obtain ⟨hz,hb⟩:=hb
   split at hr
   ·rename_i cs hrd
    obtain ⟨vs,p,m,rfl,e2,_,_⟩:=qfw h hX hrd hz
    exact rebaseA_0
   ·split at hr
    ·obtain rfl:=qeu hS
     rfl
    ·split at hr
     ·rename_i hg
      exact own0 rfl hg
     ·cases hr
    ·cases hr
   ·cases hr
  ·cases hr
 ·cases hr
theorem app_sound (h:VRl Z H0 ρ σ c H) {S X:VV} {s x:Value} (hS:RepF (ZZ Z H0.length ρ σ) ρ σ c H S s) (hX:RepF (ZZ Z H0.length ρ σ) ρ σ c H X x) {d:Option Nat} {t:TypeId} {op:Op} (hop:∀ v,reflV op v=true) {y:VV×VSt×Nat} (hr:appV P d t S X σ c=some y) :
  StOk Z H0 ρ σ c H op (appendX P t s x H) y:=by
 rw [qi1 (app_reb h hS hX hr)]
 unfold appV at hr
 split at hr
 ·rename_i el size hs
  split at hr
  ·rename_i hb
   obtain ⟨hz,hb⟩:=hb
   rw [qje hs hb]
   split at hr
   ·rename_i cs hrd
    obtain ⟨vs,p,m,rfl,e2,_,_⟩:=qfw h hX hrd hz
    simp only [e2,if_true]
    split at hr
    ·injection hr with hr;subst hr
     obtain rfl:=qeu hS
     exact .same h rfl hS (hop _)
    ·injection hr with hr;subst hr
     have hS':=hS
     simp only [RepF,RepX,RepC] at hS'
     obtain ⟨ws,hv,_⟩:=hS'
     obtain ⟨q,r,rfl⟩:=hv.slice
     exact .same h rfl hS (hop _)
    ·rename_i id ver
     cases hg:getO σ id ver with
     | none=>rw [hg] at hr;cases hr
     | some o =>
       rw [hg] at hr
       simp only [Option.bind_some] at hr
       split at hr
       ·cases hr
       ·injection hr with hr;subst hr
        obtain ⟨_,_,hown⟩:=qdl h hS hg
        rcases hown with ⟨_,_,_,rfl⟩ | ⟨b,f,bs,_,rfl,_⟩
        ·exact .same h rfl hS (hop _)
        ·exact .same h rfl hS (hop _)
    ·cases hr
   ·rename_i k news hrd
    obtain ⟨vs,p,m,rfl,e2,e3,e4⟩:=qfw h hX hrd hz
    simp only [e2]
    rw [if_neg (by omega)]
    split at hr
    ·split at hr
     ·rename_i hk
      obtain rfl:=qeu hS
      simp only
      rw [if_pos ⟨hz,hk⟩]
      exact qht h hz e4 e3 hr hop
     ·cases hr
    ·rename_i id ver
     split at hr
     ·rename_i o hg
      split at hr
      ·rename_i hk
       obtain ⟨hsz,hk⟩:=hk
       subst hsz
       injection hr with hr;subst hr
       obtain ⟨ho,hv⟩:=qck hg
       obtain ⟨_,hlen,hown⟩:=qdl h hS hg
       rcases hown with ⟨hρ,hn,hcs,rfl⟩ | ⟨b,f,bs,hρ,rfl,hb2,hbl,hrep⟩
       ·simp only
        rw [hn,Nat.zero_add] at hk
        rw [if_pos ⟨hz,hk⟩]
        obtain ⟨h1,h2⟩:=qno h id (k+1) o.sz news vs (by rw [if_neg (by omega)];exact ⟨e4,e3⟩)
        have e5:o.cs.take (o.n*o.sz)++news=news:=by rw [hcs,List.take_nil,List.nil_append]
        have e6:o.n+(k+1)=k+1:=by omega
        rw [e5,e6]
        exact ⟨_,_,_,rfl,h1,h2,qip hz,hop _⟩
       ·obtain ⟨bs',q1,q2,q3,q4⟩:=grow_rel h ho hρ (by omega) (q:=o.n) (k:=k+1) e4 (Nat.le_refl _) e3
        rw [hb2] at q1
        injection q1 with q1;injection q1 with _ _ q1;subst q1
        simp only [sliceA,hb2]
        rw [if_pos ⟨trivial,hz,q2,hk⟩]
        exact ⟨_,_,_,rfl,q3,q4,qip hz,hop _⟩
      ·cases hr
     ·cases hr
    ·cases hr
   ·cases hr
  ·cases hr
 ·cases hr
def mkA (P:Program) (t:TypeId) (l m:Value) (H:Heap):Option (Value×Heap):=match sliceElem P t,bytesT P ((sliceElem P t).getD (0,0)).1,l,m with
 | some (e,size),some bytes,.int _ n,.int _ m =>
   if 0≤n∧n≤m∧m≤1048576∧0 < size∧bytes≤1048576 then
    match zeros P e size n.toNat with
    | some z=>some (sliceA H.length 0 n.toNat size,H++[.cells H.length true z])
    | none=>none
   else none
 | _,_,_,_=>none
theorem make_sound (h:VRl Z H0 ρ σ c H) {L M:VV} {l m:Value} (hL:RepF (ZZ Z H0.length ρ σ) ρ σ c H L l) (hM:RepF (ZZ Z H0.length ρ σ) ρ σ c H M m) {d:Option Nat} {t:TypeId} {op:Op} (hop:∀ v,reflV op v=true) {y:VV×VSt×Nat} (hr:makeV P d t L M σ c=some y) :
  StOk Z H0 ρ σ c H op (mkA P t l m H) y:=by
 unfold mkA
 unfold makeV at hr
 split at hr
 ·rename_i e size bytes k1 n k2 m' h1 h2
  obtain ⟨rfl,_⟩:=qdw hL
  obtain ⟨rfl,_⟩:=qdw hM
  rw [h1] at h2
  simp only [h1]
  simp only [Option.getD_some] at h2
  simp only [Option.getD_some,h2]
  split at hr
  ·rename_i hc
   rw [if_pos hc]
   split at hr
   ·rename_i z hz
    simp only [hz]
    have:=qlh hz
    exact qht h hc.2.2.2.1 (by rw [List.length_map];exact this.2) (qio this.1) hr hop
   ·cases hr
  ·cases hr
 ·cases hr
theorem qj3 (h:VRl Z H0 ρ σ c H) {parts:List (Nat×VV)} {qs:List (Nat×Value)} (hp:All2 (fun (p:Nat×VV) (q:Nat×Value)=>p.1=q.1∧RepF (ZZ Z H0.length ρ σ) ρ σ c H p.2 q.2) parts qs) {pol:Nat→Bool} {d:Option Nat} {t:TypeId} {len:Nat} {op:Op} (hop:∀ v,reflV op v=true) {y:VV×VSt×Nat} (hr:buildSliceV P pol d t len parts σ c=some y) :
  StOk Z H0 ρ σ c H op (buildSliceA P t len qs H) y:=by
 unfold buildSliceV at hr
 split at hr
 ·rename_i e size hs
  split at hr
  ·rename_i hc
   split at hr
   ·rename_i z vs hz hv
    cases hz0:zeros P e size len with
    | none=>rw [hz0] at hz;cases hz
    | some z0 =>
      rw [hz0] at hz
      injection hz with hz;subst hz
      have hzc:=qlh hz0
      split at hr
      ·rename_i cells hf
       have hk:=qsk h ((parts.map (·.2)).flatMap ownIds)
       have ht:=qnn h ((parts.map (·.2)).flatMap ownIds)
       have hsnd:All2 (RepF (ZZ Z H0.length ρ σ) ρ σ c H) (parts.map (·.2)) (qs.map (·.2)):=by
        clear hr hf hv hk ht
        induction hp with
        | nil=>exact .nil
        | cons h1 _ ih=>exact .cons h1.2 ih
       have hfst:parts.map (·.1)=qs.map (·.1):=by
        clear hr hf hv hk ht hsnd
        induction hp with
        | nil=>rfl
        | cons h1 _ ih=>simp only [List.map_cons,h1.1,ih]
       have hcl:=qeo h (Y:=ZZ Z H0.length ρ (killL σ ((parts.map (·.2)).flatMap ownIds))) ht.keep hsnd hv (fun id hi o b f h1 h2=>qo6 h h1 h2 hi)
       have hzip:All2 (fun (p:Nat×VV) (q:Nat×Value)=>p.1=q.1∧∀ cs,scalV σ p.2=some cs→∃ ws,scal q.2=some ws∧All2 (RepC (ZZ Z H0.length ρ (killL σ ((parts.map (·.2)).flatMap ownIds))) H) cs ws) ((parts.map (·.1)).zip vs) qs:=by
        rw [hfst]
        have hq:=qb3.1 hcl
        clear hr hf hv hk ht hsnd hfst hcl
        revert hq
        generalize ZZ Z H0.length ρ (killL σ ((parts.map (·.2)).flatMap ownIds))=Y
        intro hq
        clear hp
        induction qs generalizing vs with
        | nil=>cases hq;exact .nil
        | cons q qs ih =>
          cases hq with
          | cons h1 h2 =>
            refine .cons ⟨rfl,fun cs hcs=>?_⟩ (ih _ h2)
            obtain ⟨ws,e1,e2⟩:=qqt h1 hcs
            exact ⟨ws,e1,qb3.1 e2⟩
       obtain ⟨ws,e1,e2⟩:=qhr hzip (qb3.1 (qio hzc.1)) hf
       have e3:buildSliceA P t len qs H=some (sliceA H.length 0 len size,H++[.cells H.length true ws]):=by
        unfold buildSliceA
        simp only [hs]
        rw [if_pos hc]
        simp only [hz0,e1]
       rw [e3]
       have hlen:cells.length=len*size:=by
        rw [e2.length]
        have hfl:∀ {pl:Nat→Option (Nat×Nat)} {ps:List (Nat×Value)} {cs r:List Value},fillL pl cs ps=some r→r.length=cs.length:=fun {pl ps cs r}=>qjm
        rw [hfl e1,hzc.2]
       cases hpol:pol (d.getD 0) with
       | true =>
         rw [hpol,qaf] at hr
         obtain ⟨v,H',ρ',q1,q2,q3,q4,q5⟩:=qht hk hc.1 hlen (qb3.2 e2) hr hop
         refine ⟨v,H',ρ',q1,q2,⟨ht.keep.trans q3.keep,q3.le,fun id o' w1 w2=>?_,q3.len,fun id o' b f w1 w2=>?_⟩,q4,q5⟩
         ·obtain ⟨o,w3,w4⟩:=q3.refs id o' w1 w2
          exact ⟨o,(qdb w3).1,w4⟩
         ·rcases q3.fam id o' b f w1 w2 with ⟨o,b0,w3,w4⟩ | w3
          ·exact .inl ⟨o,b0,(qdb w3).1,w4⟩
          ·exact .inr w3
       | false =>
         rw [hpol,qar] at hr
         injection hr with hr;subst hr
         have hold:Old H.length H (H++[.cells H.length true ws]):=Old.app H _
         obtain ⟨q2,q3⟩:=qg9 hk (hk.wf.app (Nat.le_refl _)) hold
         refine ⟨_,_,ρ,rfl,q2,⟨ht.keep.trans q3.keep,q3.le,fun id o' w1 w2=>?_,q3.len,fun id o' b f w1 w2=>?_⟩,?_,hop _⟩
         ·obtain ⟨o,w3,w4⟩:=q3.refs id o' w1 w2
          exact ⟨o,(qdb w3).1,w4⟩
         ·rcases q3.fam id o' b f w1 w2 with ⟨o,b0,w3,w4⟩ | w3
          ·exact .inl ⟨o,b0,(qdb w3).1,w4⟩
          ·exact .inr w3
         ·simp only [RepF,RepX,RepC]
          refine ⟨ws,⟨by rw [← e2.length,hlen],hc.1,.inr ⟨H.length,0,H.length,true,ws,rfl,by simp,⟨.inr h.le,fun id o b g w1 w2=>?_⟩,by rw [← e2.length,hlen];omega,by rw [List.drop_zero,List.take_of_length_le (by rw [← e2.length,hlen];omega)]⟩⟩,RepCL.keep q3.keep _ _ (qb3.2 e2)⟩
          have:=h.blk (qdb w1).1 w2
          omega
      ·cases hr
   ·cases hr
  ·cases hr
 ·cases hr
end
end Go.Abs
namespace Go.Abs
def guardV (ops:Array Oper) (a:VF) (o:Oper):Option Bool:=match o.guard with
 | none=>some true
 | some (j,w)=>match (ops[j]?).bind (·.dst) with
   | some t=>match a t with
     | .sc (.bool b)=>some (b == w)
     | .tup []=>some false
     | _=>none
   | none=>none
def putV (a:VF) (dst:Option Nat) (v:VV):VF:=match dst with | some d=>updV a d v | none=>a
def evOpsVV (P:Program) (call:VCall) (pol:Nat→Bool) (ops:Array Oper):List Oper→VF→VSt→Nat→Option (VF×VSt×Nat)
 | [],a,σ,c=>some (a,σ,c)
 | o::os,a,σ,c=>match guardV ops a o with
   | some true=>match stepV P call pol a o σ c with
     | some (r,σ',c')=>evOpsVV P call pol ops os (putV a o.dst r) σ' c'
     | none=>none
   | some false=>evOpsVV P call pol ops os (putV a o.dst (.tup [])) σ c
   | none=>none
def isVCall:Op→Bool
 | .call { callee:=.value _,.. }=>true
 | _=>false
def drawI (ops:Array Oper) (bef:Array Nat):Bool:=(List.range ops.size).all fun e=>!isEff (ops.getD e default) || (isVCall (ops.getD e default).op && (List.range e).all fun i=>!isEff (ops.getD i default) || isVCall (ops.getD i default).op) || (List.range ops.size).all fun j=>!isRead (ops.getD j default) || (decide (j < e) && (bef.getD e 0).testBit j)
def readOk (σ0:VSt) (cl:Bool) (a:VF) (o:Oper):Bool:=match cls o.op with
 | .read=>(match o.op with
   | .load _ x=>cl || (match evV a x with
     | .ptr id ver _=>(getO σ0 id ver).isSome
     | _=>false)
   | .convert _ _ x=>(match evV a x with
     | .sc _=>true
     | _=>false)
   | _=>false)
 | _=>true
def cleanOp (op:Op):Bool:=match cls op with
 | .eff=>false
 | .all_=>false
 | _=>true
def evOpsVI (P:Program) (call:VCall) (pol:Nat→Bool) (ops:Array Oper) (σ0:VSt):Bool→List Oper→VF→VSt→Nat→Option (VF×VSt×Nat)
 | _,[],a,σ,c=>some (a,σ,c)
 | cl,o::os,a,σ,c=>match guardV ops a o with
   | some true=>match stepV P (noIP call) pol a o σ c with
     | some (r,σ',c')=>if readOk σ0 cl a o then evOpsVI P call pol ops σ0 (cl && cleanOp o.op) os (putV a o.dst r) σ' c' else none
     | none=>none
   | some false=>evOpsVI P call pol ops σ0 cl os (putV a o.dst (.tup [])) σ c
   | none=>none
def ordAll (ops:Array Oper) (bef:Array Nat) (j:Nat):Bool:=(List.range ops.size).all fun e=>!isEff (ops.getD e default) || (decide (j < e) && (bef.getD e 0).testBit j)
def boxOf (σ0:VSt):VV→Bool
 | .ptr id ver _=>match getO σ0 id ver with
   | some o=>o.sz == 0
   | none=>false
 | _=>false
def lstOf (σ0:VSt):VV→Bool
 | .ptr id ver _=>match getO σ0 id ver with
   | some o=>o.sz != 0
   | none=>false
 | _=>false
def okJ (ops:Array Oper) (bef:Array Nat) (σ0:VSt) (cl:Bool) (a:VF) (j:Nat) (o:Oper):Bool:=match cls o.op with
 | .read=>(ordAll ops bef j && readOk σ0 cl a o) || (match o.op with
   | .load _ x=>boxOf σ0 (evV a x)
   | _=>false)
 | .eff=>(match o.op with
   | .store _ x _=>lstOf σ0 (evV a x)
   | .call { callee:=.value _,.. }=>true
   | .call { callee:=.builtin .append,.. }=>true
   | _=>false)
 | _=>true
def evOpsVJ (P:Program) (call:VCall) (pol:Nat→Bool) (ops:Array Oper) (bef:Array Nat) (σ0:VSt):Nat→Bool→List Oper→VF→VSt→Nat→Option (VF×VSt×Nat)
 | _,_,[],a,σ,c=>some (a,σ,c)
 | j,cl,o::os,a,σ,c=>match guardV ops a o with
   | some true=>match stepV P (noIP call) pol a o σ c with
     | some (r,σ',c')=>if okJ ops bef σ0 cl a j o then evOpsVJ P call pol ops bef σ0 (j+1) (cl && cleanOp o.op) os (putV a o.dst r) σ' c' else none
     | none=>none
   | some false=>evOpsVJ P call pol ops bef σ0 (j+1) cl os (putV a o.dst (.tup [])) σ c
   | none=>none
def loopV (f:VF→VSt→Nat→Option (X×VF×VSt×Nat)):Nat→VF→VSt→Nat→Option (X×VF×VSt×Nat)
 | 0,_,_,_=>none
 | n+1,a,σ,c=>match f a σ c with
   | some (.normal,a',σ',c')=>loopV f n a' σ' c'
   | r=>r
def evVC (P:Program) (call:VCall) (pol:Nat→Bool) (k:Nat):Code→VF→VSt→Nat→Option (X×VF×VSt×Nat)
 | .skip,a,σ,c=>some (.normal,a,σ,c)
 | .label _,a,σ,c=>some (.normal,a,σ,c)
 | .region id ops draw,a,σ,c=>match iteB (draw && pol (1000000+id)) (iteB (drawI ops (Region.before ops)) (evOpsVI P call pol ops σ true ops.toList a σ c) (evOpsVJ P call pol ops (Region.before ops) σ 0 true ops.toList a σ c)) (evOpsVV P call pol ops ops.toList a σ c) with
   | some (a',σ',c')=>some (.normal,a',σ',c')
   | none=>none
 | .seq x y,a,σ,c=>match evVC P call pol k x a σ c with
   | some (.normal,a',σ',c')=>evVC P call pol k y a' σ' c'
   | r=>r
 | .cond b x y,a,σ,c=>match evV a b with
   | .sc (.bool true)=>evVC P call pol k x a σ c
   | .sc (.bool false)=>evVC P call pol k y a σ c
   | _=>none
 | .block id x,a,σ,c=>match evVC P call pol k x a σ c with
   | some (.exit i,a',σ',c')=>if i=id then some (.normal,a',σ',c') else some (.exit i,a',σ',c')
   | r=>r
 | .loop x,a,σ,c=>loopV (evVC P call pol k x) k a σ c
 | .exit id,a,σ,c=>some (.exit id,a,σ,c)
 | .ret,a,σ,c=>some (.ret,a,σ,c)
 | .rangeFunc _ _ _ _,_,_,_=>none
 | .scope _,_,_,_=>none
 | .goto _,_,_,_=>none
 | .refuse _,_,_,_=>none
def frV:List VV→VF
 | []=>fun _=>.tup []
 | v::vs=>fun i=>match i with | 0=>v | i+1=>frV vs i
def resV (P:Program) (σ:VSt) (a:VF):List ResultVar→Option (List VV)
 | []=>some []
 | .tmp t::rs=>match scalV σ (a t),peek σ (a t),resV P σ a rs with
   | some _,some A,some r=>some (A::r)
   | _,_,_=>none
 | .cell t ty::rs=>match (loadV P ty σ (a t)).bind (peek σ),resV P σ a rs with
   | some A,some r=>some (A::r)
   | _,_=>none
def packV:List VV→VV
 | [v]=>v
 | vs=>.tup vs
def freshV (a:VF):List ResultVar→Bool
 | [.tmp t]=>match a t with
   | .own _ _=>true
   | _=>false
 | _=>false
def finV (P:Program) (rs:List ResultVar) (x:Option (X×VF×VSt×Nat)):Option (VV×Bool):=match x with
 | some (.normal,a,σ,_)=>(resV P σ a rs).map fun vs=>(packV vs,freshV a rs)
 | some (.ret,a,σ,_)=>(resV P σ a rs).map fun vs=>(packV vs,freshV a rs)
 | _=>none
section
variable {P:Program} {Z:Nat→Prop} {H0:Heap} {ρ:Rho} {σ:VSt} {c:Nat} {H:Heap} {ca:CallF} {call:VCall} {pol:Nat→Bool}
theorem qnp {Y Y':Nat→Prop} {H':Heap}:∀ {l:List VV} {vs:List Value},(allSc l).isSome=true→RepCL Y H l vs→RepCL Y' H' l vs:=by
 intro l
 induction l with
 | nil=>intro vs _ h;simp only [RepCL] at h ⊢;exact h
 | cons A l ih =>
   intro vs h1 h2
   simp only [RepCL] at h2 ⊢
   obtain ⟨w,ws,e,h3,h4⟩:=h2
   cases A with
   | sc u =>
     simp only [allSc,Option.isSome_map] at h1
     exact ⟨w,ws,e,qdv.2 (qdv.1 h3),ih h1 h4⟩
   | nl =>
     simp only [allSc,Option.isSome_map] at h1
     exact ⟨w,ws,e,by simpa only [RepC] using h3,ih h1 h4⟩
   | _=>simp only [allSc] at h1;cases h1
theorem flat_keep {Y Y':Nat→Prop} {H':Heap} {r:VV} {v:Value} (hf:flatV r=true) (h:RepC Y H r v):RepC Y' H' r v:=by
 cases r with
 | sc w=>exact qdv.2 (qdv.1 h)
 | st cs=>simp only [RepC] at h ⊢;obtain ⟨vs,e,h⟩:=h;exact ⟨vs,e,qnp hf h⟩
 | tup cs=>simp only [RepC] at h ⊢;obtain ⟨vs,e,h⟩:=h;exact ⟨vs,e,qnp hf h⟩
 | _=>cases hf
theorem Tr.trans {B:Nat} {ρ1 ρ2 ρ3:Rho} {σ1 σ2 σ3:VSt} {c1 c2 c3:Nat} {H1 H2 H3:Heap} (h:Tr Z B ρ1 σ1 c1 H1 ρ2 σ2 c2 H2) (k:Tr Z B ρ2 σ2 c2 H2 ρ3 σ3 c3 H3):Tr Z B ρ1 σ1 c1 H1 ρ3 σ3 c3 H3:=by
 refine ⟨h.keep.trans k.keep,Nat.le_trans h.le k.le,fun id o e1 e2=>?_,Nat.le_trans h.len k.len,fun id o b f e1 e2=>?_⟩
 ·obtain ⟨o2,q1,q2,q3,q4,q5⟩:=k.refs id o e1 (Nat.lt_of_lt_of_le e2 h.le)
  obtain ⟨o1,w1,w2,w3,w4,w5⟩:=h.refs id o2 q1 (by rw [q2];exact e2)
  exact ⟨o1,w1,w2.trans q2,w3.trans q3,w4.trans q4,q5.trans w5⟩
 ·rcases k.fam id o b f e1 e2 with ⟨o2,b2,q1,q2,q3⟩ | q
  ·rcases h.fam id o2 b2 f q1 q2 with ⟨o1,b1,w1,w2,w3⟩ | w
   ·exact .inl ⟨o1,b1,w1,w2,w3.trans q3⟩
   ·exact .inr w
  ·exact .inr (Nat.le_trans h.len q)
theorem qqx {α:Type} (c:α):∀ (xs cs:List α) (o:Nat),setLs (c::cs) (o+1) xs=c::setLs cs o xs:=by
 intro xs
 induction xs with
 | nil=>intro cs o;rfl
 | cons x xs ih=>intro cs o;rw [setLs,setLs,List.set_cons_succ,ih]
theorem setLs_full {α:Type}:∀ {xs cs:List α},xs.length=cs.length→setLs cs 0 xs=xs:=by
 intro xs
 induction xs with
 | nil=>intro cs h;cases cs with
   | nil=>rfl
   | cons _ _=>cases h
 | cons x xs ih =>
   intro cs h
   cases cs with
   | nil=>cases h
   | cons c cs =>
     rw [setLs,List.set_cons_zero,qqx,ih (by simpa using h)]
theorem plL_rep {Y:Nat→Prop}:∀ {l:List VV} {us:List Value},allPl l=some us→RepCL Y H l us:=by
 intro l
 induction l with
 | nil=>intro us h;injection h with h;subst h;simp only [RepCL]
 | cons A l ih =>
   intro us h
   cases A with
   | sc w =>
     simp only [allPl] at h
     split at h
     ·rename_i r h1 h2
      injection h with h;subst h
      simp only [RepCL]
      exact ⟨w,r,rfl,qdv.2 ⟨rfl,qjd h1⟩,ih h2⟩
     ·cases h
   | _=>cases h
theorem in_sound {g:Nat} {ays cs':List VV} {fresh:Bool} (hc:AnsX ca g ays (.rp cs') fresh) (h:VRl Z H0 ρ σ c H) {args:List VV} {vs:List Value} (hA:All2 (RepF (ZZ Z H0.length ρ σ) ρ σ c H) args vs) (hp:peekL σ args=some ays) {op:Op} (hop:∀ v,reflV op v=true) {y:VV×VSt×Nat} (hr:inV args cs' σ c=some y) :
  StOk Z H0 ρ σ c H op (ca (.func (.func g) #[] #[]) vs H) y:=by
 unfold inV at hr
 split at hr
 case h_2=>cases hr
 rename_i id ver rest
 split at hr
 case h_2=>cases hr
 rename_i o hg
 split at hr
 case isFalse=>cases hr
 rename_i hcnd
 obtain ⟨hz,hlen,hall,hrest⟩:=hcnd
 injection hr with hr;subst hr
 cases hA with
 | cons hA hAr =>
 rename_i v vs'
 obtain ⟨ho,hv⟩:=qck hg
 simp only [peekL,peek,peek1,hg,if_neg hz] at hp
 cases hpr:peekL σ rest with
 | none=>rw [hpr] at hp;cases hp
 | some ays' =>
 rw [hpr] at hp
 simp only at hp
 injection hp with hp;subst hp
 have hcl:=qeo h (Y:=fun _=>True) (keepT _) hAr hpr (fun _ _ _ _ _ _ _=>trivial)
 obtain ⟨us,hus⟩:=Option.isSome_iff_exists.1 hall
 obtain ⟨k1,k2⟩:=hc _ _ _ _ rfl H vs' us h.wf hcl hus hlen
 obtain ⟨hz0,hln,hown⟩:=qdl h hA hg
 rcases hown with ⟨hρ,hn,hcs,rfl⟩ | ⟨b,f,bs,hρ,rfl,hb,hbl,hrep⟩
 ·obtain ⟨H',q1,q3,q4⟩:=k1 hn hcs
  obtain ⟨q5,q6⟩:=qg9 h q4 q3
  have e0:cs'=o.cs:=by rw [hcs] at hlen ⊢;exact List.eq_nil_of_length_eq_zero hlen
  have e1:updV σ id (some ⟨o.ver,o.n,o.sz,cs'⟩)=σ:=by
   funext i
   unfold updV
   split
   ·rename_i e;subst e;rw [ho,e0]
   ·rfl
  rw [e1]
  exact ⟨_,H',ρ,q1,q5,q6,by simp only [RepF];exact ⟨[],rfl,.nil⟩,hop _⟩
 ·obtain ⟨H1,H',q0,q1,q3,q4⟩:=k2 _ b f bs hb hln (by omega) hbl hrep
  obtain ⟨H2,w0,w1,w2⟩:=qle h ho hρ (i:=0) (xs:=cs') (vs:=us) (by omega) (by rw [if_neg hz];exact plL_rep hus)
  rw [q0] at w0;injection w0 with w0;subst w0
  rw [setLs_full hlen] at w1 w2
  obtain ⟨q5,q6⟩:=qg9 w1 q4 q3
  exact ⟨_,H',ρ,q1,q5,w2.trans q6,by simp only [RepF];exact ⟨[],rfl,.nil⟩,hop _⟩
theorem call_sound (hc:CallsV ca call) (h:VRl Z H0 ρ σ c H) {F:VV} {fv:Value} (hF:RepF (ZZ Z H0.length ρ σ) ρ σ c H F fv) {args:List VV} {vs:List Value} (hA:All2 (RepF (ZZ Z H0.length ρ σ) ρ σ c H) args vs) {d:Option Nat} {op:Op} (hop:∀ v,reflV op v=true) {y:VV×VSt×Nat} (hr:callV call pol d F args σ c=some y) :
  StOk Z H0 ρ σ c H op (ca fv vs H) y:=by
 unfold callV at hr
 split at hr
 ·rename_i g fs cs ays hp
  obtain ⟨rfl,hsc⟩:=qdw hF
  have e1:fs = #[]:=by simp only [scOk,Bool.and_eq_true] at hsc;simpa using hsc.1
  have e2:cs = #[]:=by simp only [scOk,Bool.and_eq_true] at hsc;simpa using hsc.2
  subst e1;subst e2
  split at hr
  ·rename_i r fresh hcall
   split at hr
   ·rename_i hfl
    injection hr with hr;subst hr
    have hcl:=qeo h (Y:=fun _=>True) (keepT _) hA hp (fun _ _ _ _ _ _ _=>trivial)
    obtain ⟨v,H',q1,q2,q3,q4,_⟩:=(hc g ays r fresh hcall).ans (fun cs e=>by subst e;cases hfl) _ H vs h.wf hcl
    obtain ⟨q5,q6⟩:=qg9 h q4 q3
    exact ⟨v,H',ρ,q1,q5,q6,(flat_keep hfl q2).toF,hop _⟩
   ·by_cases hrp:∃ cs',r = .rp cs'
    ·obtain ⟨cs',rfl⟩:=hrp
     simp only at hr
     exact in_sound (hc g ays _ fresh hcall) h hA hp hop hr
    have hrn:∀ cs',r≠.rp cs':=fun cs' e=>hrp ⟨cs',e⟩
    have hc:=(hc g ays r fresh hcall).ans hrn
    have hzz:∀ f,H.length≤f→ZZ Z H0.length ρ σ f:=fun f z=>⟨.inr (Nat.le_trans h.le z),fun id o b g w1 w2=>by have:=h.blk w1 w2;omega⟩
    have main:args.flatMap ownIds=[]∨(fresh=true∧∃ n sz cs,r = .fz n sz cs∧(allSc cs).isSome=true)→∃ v H',ca (.func (.func g) #[] #[]) vs H=some (v,H')∧RepC (ZZ Z H0.length ρ σ) H' r v∧Old H.length H H'∧WF H' ∧
      (fresh=true→∀ n sz cs,r = .fz n sz cs→OwnR H.length (ZZ Z H0.length ρ σ) H' v n sz cs):=by
     intro hcase
     rcases hcase with hn | ⟨hfr,n,sz,l,rfl,hall⟩
     ·have hcl:=qeo h (Y:=ZZ Z H0.length ρ σ) ⟨fun _ _ _ _ z e=>⟨z,e⟩,fun _ _ e=>e⟩ hA hp (fun id hi=>by rw [hn] at hi;cases hi)
      obtain ⟨v,H',q1,q2,q3,q4,q7⟩:=hc _ H vs h.wf hcl
      exact ⟨v,H',q1,RepC.keep ⟨fun b f w bs z e=>⟨z.elim id (hzz f),e⟩,fun _ _ e=>e⟩ _ _ q2,q3,q4,q7⟩
     ·have hcl:=qeo h (Y:=fun _=>True) (keepT _) hA hp (fun _ _ _ _ _ _ _=>trivial)
      obtain ⟨v,H',q1,q2,q3,q4,q7⟩:=hc _ H vs h.wf hcl
      have ho:=q7 hfr n sz l rfl
      simp only [RepC] at q2
      obtain ⟨us,hv,hc2⟩:=q2
      have ho2:OwnR H.length (ZZ Z H0.length ρ σ) H' v n sz l:=by
       rcases ho with ho | ⟨b,f,bs,w1,w2,w3,w4,w5,w6,w7⟩
       ·exact .inl ho
       ·exact .inr ⟨b,f,bs,w1,w2,w3,w4,w5,w6,qnp hall w7⟩
      refine ⟨v,H',q1,?_,q3,q4,fun _ n' sz' cs' he=>by injection he with a1 a2 a3;subst a1;subst a2;subst a3;exact ho2⟩
      simp only [RepC]
      rcases ho with ⟨rfl,rfl,rfl⟩ | ⟨b,f,bs,rfl,w2,w3,w4,w5,w6,w7⟩
      ·exact ⟨[],⟨by rw [Nat.zero_mul];rfl,hv.2.1,.inl ⟨rfl,.inl rfl⟩⟩,by simp only [RepCL]⟩
      ·exact ⟨bs.take l.length,⟨by rw [List.length_take];omega,hv.2.1,.inr ⟨b,0,f,true,bs,rfl,w4,hzz f w3,by omega,by rw [List.drop_zero,w5]⟩⟩,qnp hall w7⟩
    split at hr
    ·exact absurd rfl (hrn _)
    ·rename_i n sz l _
     split at hr
     ·rename_i hcnd
      obtain ⟨v,H',q1,q2,q3,q4,q7⟩:=main (by
       rcases hcnd with hcnd | hcnd
       ·exact .inl hcnd
       ·rw [Bool.and_eq_true] at hcnd;exact .inr ⟨hcnd.1,n,sz,l,rfl,hcnd.2⟩)
      obtain ⟨q5,q6⟩:=qg9 h q4 q3
      cases hb:(fresh && pol (d.getD 0) && sz != 0) with
      | false =>
        rw [hb,qar] at hr
        injection hr with hr;subst hr
        exact ⟨v,H',ρ,q1,q5,q6,q2.toF,hop _⟩
      | true =>
        rw [hb,qaf] at hr
        simp only [Bool.and_eq_true,bne_iff_ne,ne_eq] at hb
        unfold mkOwn at hr
        cases d with
        | none=>cases hr
        | some i =>
          injection hr with hr;subst hr
          have hz0:0 < sz:=by omega
          rcases q7 hb.1.1 n sz l rfl with ⟨rfl,rfl,rfl⟩ | ⟨b,f,bs,rfl,w1,w2,w3,w4,w5,w6⟩
          ·obtain ⟨a1,a2⟩:=qo7 h q4 q3 i 0 sz (by omega) [] none ⟨rfl,rfl⟩
           refine ⟨_,H',_,q1,a1,a2,?_,hop _⟩
           simp only [RepF,RepX]
           refine ⟨Nat.lt_succ_self _,fun o' e1 e2=>?_⟩
           rw [qd8] at e1
           injection e1 with e1;subst e1
           exact ⟨hz0,by rw [qd8];rfl⟩
          ·obtain ⟨a1,a2⟩:=qo7 h q4 q3 i n sz (by omega) l (some (b,f)) ⟨w1,w2,bs,w3,w4,w5,w6⟩
           exact ⟨_,H',_,q1,a1,a2,qip hz0,hop _⟩
     ·cases hr
    ·split at hr
     ·rename_i hn
      injection hr with hr;subst hr
      obtain ⟨v,H',q1,q2,q3,q4,_⟩:=main (.inl hn)
      obtain ⟨q5,q6⟩:=qg9 h q4 q3
      exact ⟨v,H',ρ,q1,q5,q6,q2.toF,hop _⟩
     ·cases hr
  ·cases hr
 ·cases hr
theorem qnq {nt:Nat} {Y:Nat→Prop} {a:Fr} {A:VF} (hf:∀ t,RepF Y ρ σ c H (A t) (a t)):∀ {l:List Operand},(∀ x∈l,opndOk nt x=true)→All2 (RepF Y ρ σ c H) (l.map (evV A)) (l.map (ev a)):=by
 intro l
 induction l with
 | nil=>intro _;exact .nil
 | cons x l ih=>intro hx;exact .cons (qca hf (hx x (by simp))) (ih fun y hy=>hx y (by simp [hy]))
theorem qmk {nt:Nat} {Y:Nat→Prop} {a:Fr} {A:VF} (hf:∀ t,RepF Y ρ σ c H (A t) (a t)):∀ {l:List (Nat×Operand)},(∀ x∈l,opndOk nt x.2=true)→All2 (fun (p:Nat×VV) (q:Nat×Value)=>p.1=q.1∧RepF Y ρ σ c H p.2 q.2) (l.map fun p=>(p.1,evV A p.2)) (l.map fun p=>(p.1,ev a p.2)):=by
 intro l
 induction l with
 | nil=>intro _;exact .nil
 | cons x l ih=>intro hx;exact .cons ⟨rfl,qca hf (hx x (by simp))⟩ (ih fun y hy=>hx y (by simp [hy]))
theorem text_sound (h:VRl Z H0 ρ σ c H) {A:VV} {x:Value} (hA:RepF (ZZ Z H0.length ρ σ) ρ σ c H A x) {s d:TypeId} {w:Value} (hr:textV P s d σ A=some w):textA P s d x H=some w∧plain w=true:=by
 unfold textV at hr
 split at hr
 ·rename_i e h1 h2
  split at hr
  ·rename_i k cs h3 h4
   split at hr
   ·rename_i vs h5
    obtain ⟨ws,p,m,rfl,e2,e3,_⟩:=qfw h hA h4 (by omega)
    have e4:=qhq (ρ:=ρ) (σ:=σ) (c:=c) h5 e3.toX
    subst e4
    cases hb:bytesFrom .empty ws with
    | none=>rw [hb] at hr;cases hr
    | some b =>
      rw [hb] at hr
      injection hr with hr;subst hr
      refine ⟨?_,rfl⟩
      unfold textA
      simp only [h1,h2,h3,e2,hb,Option.map_some]
   ·cases hr
  ·cases hr
 ·cases hr
theorem len_sound (h:VRl Z H0 ρ σ c H) {A:VV} {x:Value} (hA:RepF (ZZ Z H0.length ρ σ) ρ σ c H A x) {n:Nat} (hr:lenV σ A=some n):∃ p m,x = .slice p n m:=by
 unfold lenV at hr
 split at hr
 ·injection hr with hr;subst hr;exact ⟨_,_,qeu hA⟩
 ·injection hr with hr;subst hr
  simp only [RepF,RepX,RepC] at hA
  obtain ⟨vs,hv,_⟩:=hA
  exact hv.slice
 ·rename_i id ver
  cases hg:getO σ id ver with
  | none=>rw [hg] at hr;cases hr
  | some o =>
    rw [hg] at hr
    simp only [Option.bind_some] at hr
    split at hr
    ·cases hr
    ·injection hr with hr;subst hr
     obtain ⟨_,_,hown⟩:=qdl h hA hg
     rcases hown with ⟨_,hn,_,rfl⟩ | ⟨b,f,bs,_,rfl,_⟩
     ·exact ⟨none,0,by rw [hn]⟩
     ·exact ⟨_,_,rfl⟩
 ·cases hr
theorem qea {o:Option VV} {y:VV×VSt×Nat} (h:rtV o σ c=some y):∃ r,o=some r∧y=(r,σ,c):=by
 unfold rtV at h
 cases o with
 | none=>cases h
 | some r=>injection h with h;exact ⟨r,rfl,h.symm⟩
theorem qqy {Y:Nat→Prop} {A I r:VV} {x i:Value} (hA:RepF Y ρ σ c H A x) (hI:RepF Y ρ σ c H I i) {t:TypeId} (hr:indexV P t A I=some r):∃ u,indexA P t x i=some u∧RepF Y ρ σ c H r u:=by
 unfold indexV at hr
 split at hr
 ·rename_i len elem cs kk k hu
  obtain ⟨rfl,_⟩:=qdw hI
  simp only [RepF] at hA
  obtain ⟨vs,rfl,hA⟩:=hA
  split at hr
  ·rename_i hk
   split at hr
   ·rename_i s hs
    obtain ⟨u,e,h2⟩:=qmj hA hr
    refine ⟨u,?_,h2⟩
    unfold indexA
    simp only [hu,hs]
    rw [if_pos hk]
    simpa using e
   ·cases hr
  ·cases hr
 ·cases hr
theorem qqz {Y:Nat→Prop} {A r:VV} {x:Value} (hA:RepF Y ρ σ c H A x) {t:TypeId} {i:Nat} (hr:fieldV P t A i=some r):∃ u,fieldA P t x i=some u∧RepF Y ρ σ c H r u:=by
 unfold fieldV at hr
 split at hr
 ·rename_i fields cs hu
  simp only [RepF] at hA
  obtain ⟨vs,rfl,hA⟩:=hA
  split at hr
  ·rename_i f hf
   obtain ⟨u,e,h2⟩:=qmj hA hr
   refine ⟨u,?_,h2⟩
   unfold fieldA
   simp only [hu,hf]
   simpa using e
  ·cases hr
 ·cases hr
theorem qeh (h:VRl Z H0 ρ σ c H) {nt:Nat} {a:Fr} {A:VF} (hf:∀ t,RepF (ZZ Z H0.length ρ σ) ρ σ c H (A t) (a t)) {o:Oper} (ho:∀ x∈o.op.operands.toList,opndOk nt x=true)
  (hcong:(∀ x∈o.op.operands.toList,ev a x=ev (fun t=>toVal (A t)) x)→execOp (ev a) o=execOp (ev (fun t=>toVal (A t))) o) {y:VV×VSt×Nat} (hs:rtV (plainV P A o) σ c=some y)
  {z:Option (Value×Heap)} (hz:∀ w,plainA P a o=some w→(∀ x∈o.op.operands.toList,plain (ev a x)=true)→z=some (w,H)):StOk Z H0 ρ σ c H o.op z y:=by
 obtain ⟨r,hr,rfl⟩:=qea hs
 obtain ⟨w,rfl,hw,hp,hall⟩:=plain_eq hf ho hcong hr
 refine .same h (hz w hp hall) (qfm (qjd hw)) ?_
 unfold reflV
 split
 ·exact qo8 hw
 ·rfl
theorem qjf (hc:CallsV ca call) (h:VRl Z H0 ρ σ c H) {nt:Nat} {a:Fr} {A:VF} (hf:∀ t,RepF (ZZ Z H0.length ρ σ) ρ σ c H (A t) (a t)) {o:Oper} (ho:operOk nt o=true) {y:VV×VSt×Nat} (hs:stepV P call pol A o σ c=some y):StOk Z H0 ρ σ c H o.op (stepA P ca a o H) y:=by
 have hops:∀ x∈o.op.operands.toList,opndOk nt x=true:=by
  unfold operOk at ho
  rw [Bool.and_eq_true] at ho
  exact fun x hx=>List.all_eq_true.1 ho.1 x hx
 obtain ⟨dst,op,type,pos,after,guard⟩:=o
 simp only at hops
 unfold stepV at hs
 split at hs<;>rename_i hop<;>simp only at hop<;>(try subst hop)
 ·injection hs with hs;subst hs
  exact .same h rfl (qca hf (hops _ (by simp [Op.operands]))) rfl
 ·injection hs with hs;subst hs
  exact .same h rfl (qca hf (hops _ (by simp [Op.operands]))) rfl
 ·rename_i b x yy
  have hb:=qca hf (hops b (by simp [Op.operands]))
  have hx:=qca hf (hops x (by simp [Op.operands]))
  have hy:=qca hf (hops yy (by simp [Op.operands]))
  split at hs
  ·rename_i t e
   injection hs with hs;subst hs
   rw [e] at hb
   obtain ⟨e2,_⟩:=qdw hb
   cases t with
   | true=>exact .same h (by rw [st_pick,e2];rfl) hx rfl
   | false=>exact .same h (by rw [st_pick,e2];rfl) hy rfl
  ·cases hs
 ·-- binOp
  rename_i bop t x yy yt
  have hx:=qca hf (hops x (by simp [Op.operands]))
  have hy:=qca hf (hops yy (by simp [Op.operands]))
  have hcong:(∀ z∈(Op.binOp bop t x yy yt).operands.toList,ev a z=ev (fun t=>toVal (A t)) z)→execOp (ev a) ⟨dst,.binOp bop t x yy yt,type,pos,after,guard⟩=execOp (ev (fun t=>toVal (A t))) ⟨dst,.binOp bop t x yy yt,type,pos,after,guard⟩:=fun he=>by
   have e1:=he x (by simp [Op.operands])
   have e2:=he yy (by simp [Op.operands])
   simp only [execOp,e1,e2]
  have hz:∀ w,plainA P a ⟨dst,.binOp bop t x yy yt,type,pos,after,guard⟩=some w→(∀ z∈(Op.binOp bop t x yy yt).operands.toList,plain (ev a z)=true)→stepA P ca a ⟨dst,.binOp bop t x yy yt,type,pos,after,guard⟩ H=some (w,H):=fun w hw hall=>by
   have e1:=hall x (by simp [Op.operands])
   show aexec P a ⟨dst,.binOp bop t x yy yt,type,pos,after,guard⟩ H=_
   cases bop<;>simp only [aexec,hw,qgx e1,Option.map_some]
  split at hs
  ·cases hb:bothSc (evV A x) (evV A yy) with
   | true=>rw [hb,qaf] at hs;exact qeh h hf hops hcong hs hz
   | false =>
     rw [hb,qar] at hs
     obtain ⟨r,hr,rfl⟩:=qea hs
     cases hcm:cmpV P t σ (evV A x) (evV A yy) with
     | none=>rw [hcm] at hr;cases hr
     | some b =>
       rw [hcm] at hr
       injection hr with hr;subst hr
       refine .same h ?_ (qfm rfl) rfl
       show aexec P a ⟨dst,.binOp .eql t x yy yt,type,pos,after,guard⟩ H=_
       simp only [aexec,qpa h hx hy hcm]
  ·cases hb:bothSc (evV A x) (evV A yy) with
   | true=>rw [hb,qaf] at hs;exact qeh h hf hops hcong hs hz
   | false =>
     rw [hb,qar] at hs
     obtain ⟨r,hr,rfl⟩:=qea hs
     cases hcm:cmpV P t σ (evV A x) (evV A yy) with
     | none=>rw [hcm] at hr;cases hr
     | some b =>
       rw [hcm] at hr
       injection hr with hr;subst hr
       refine .same h ?_ (qfm rfl) rfl
       show aexec P a ⟨dst,.binOp .neq t x yy yt,type,pos,after,guard⟩ H=_
       simp only [aexec,qpa h hx hy hcm]
  ·exact qeh h hf hops hcong hs hz
 ·-- unOp
  rename_i uop t x
  refine qeh h hf hops (fun he=>?_) hs (fun w hw _=>?_)
  ·have e1:=he x (by simp [Op.operands])
   simp only [execOp,e1]
  ·show aexec P a ⟨dst,.unOp uop t x,type,pos,after,guard⟩ H=_
   simp only [aexec,hw,Option.map_some]
 ·-- convert
  rename_i s d x
  have hx:=qca hf (hops x (by simp [Op.operands]))
  split at hs
  ·rename_i w0 e0
   refine qeh h hf hops (fun he=>?_) hs (fun w hw hall=>?_)
   ·have e1:=he x (by simp [Op.operands])
    simp only [execOp,e1]
   ·have e1:=hall x (by simp [Op.operands])
    show aexec P a ⟨dst,.convert s d x,type,pos,after,guard⟩ H=_
    have e2:textA P s d (ev a x) H=none:=by
     unfold textA
     split
     ·rename_i hv;rw [hv] at e1;cases e1
     ·rfl
    simp only [aexec,e2,hw,Option.map_some]
  ·obtain ⟨r,hr,rfl⟩:=qea hs
   cases ht:textV P s d σ (evV A x) with
   | none=>rw [ht] at hr;cases hr
   | some w =>
     rw [ht] at hr
     injection hr with hr;subst hr
     obtain ⟨e1,e2⟩:=text_sound h hx ht
     refine .same h ?_ (qfm (qjd e2)) ?_
     ·show aexec P a ⟨dst,.convert s d x,type,pos,after,guard⟩ H=_
      simp only [aexec,e1]
     ·exact qo8 e2
 ·-- alloc
  rename_i t
  split at hs
  ·rename_i z hz
   obtain ⟨w,e1,e2,_,hrep⟩:=qhs (H:=H) (Y:=ZZ Z H0.length ρ σ) hz
   unfold mkBox at hs
   cases dst with
   | none=>cases hs
   | some i =>
     injection hs with hs;subst hs
     obtain ⟨q1,q2⟩:=qno h i 0 0 z w.cells.toList (by rw [if_pos rfl];exact hrep.toX)
     refine ⟨ptrA H.length 0,_,_,?_,q1,q2,?_,rfl⟩
     ·show aexec P a ⟨some i,.alloc t,type,pos,after,guard⟩ H=_
      simp only [aexec,e1,e2,zeroV_nb hz e1,Bool.false_eq_true,if_false]
     ·simp only [RepF,RepX]
      refine ⟨Nat.lt_succ_self _,fun o' w1 w2=>⟨H.length,H.length,qd8,rfl⟩⟩
  ·cases hs
 ·-- box
  rename_i t x
  have hx:=qca hf (hops x (by simp [Op.operands]))
  split at hs
  ·rename_i cs hsc
   obtain ⟨vs,e1,e2⟩:=qha h hx hsc
   unfold mkBox at hs
   cases dst with
   | none=>cases hs
   | some i =>
     injection hs with hs;subst hs
     obtain ⟨q1,q2⟩:=qno h i 0 0 cs vs (by rw [if_pos rfl];exact e2)
     refine ⟨ptrA H.length 0,_,_,?_,q1,q2,?_,rfl⟩
     ·show aexec P a ⟨some i,.box t x,type,pos,after,guard⟩ H=_
      simp only [aexec,e1]
     ·simp only [RepF,RepX]
      refine ⟨Nat.lt_succ_self _,fun o' w1 w2=>⟨H.length,H.length,qd8,rfl⟩⟩
  ·cases hs
 ·-- build
  rename_i t parts
  obtain ⟨r,hr,rfl⟩:=qea hs
  have hparts:=qmk hf (nt:=nt) (l:=parts.toList) (fun p hp=>hops p.2 (by simp [Op.operands];exact ⟨p.1,by simpa using hp⟩))
  have hp2:All2 (fun (p:Nat×VV) (q:Nat×Value)=>p.1=q.1∧∀ cs,scalV σ p.2=some cs→∃ vs,scal q.2=some vs∧All2 (RepX (ZZ Z H0.length ρ σ) ρ σ c H) cs vs) (parts.toList.map fun p=>(p.1,evV A p.2)) (parts.toList.map fun p=>(p.1,ev a p.2)) :=
   hparts.mono fun _ _ hh=>⟨hh.1,fun cs hcs=>qha h hh.2 hcs⟩
  obtain ⟨cs,vs,rfl,e1,e2⟩:=qpb (R:=RepX (ZZ Z H0.length ρ σ) ρ σ c H) (Y0:=ZZ Z H0.length ρ σ) (fun _ _ hh=>hh.toX) hp2 hr
  refine .same h (v:=.agg vs.toArray) ?_ (by simp only [RepF];exact ⟨vs,rfl,e2⟩) rfl
  show aexec P a ⟨dst,.build t parts,type,pos,after,guard⟩ H=_
  simp only [aexec,e1,Option.map_some]
 ·-- buildSlice
  rename_i t len parts
  have hparts:=qmk hf (nt:=nt) (l:=parts.toList) (fun p hp=>hops p.2 (by simp [Op.operands];exact ⟨p.1,by simpa using hp⟩))
  exact qj3 h hparts (fun _=>rfl) hs
 ·-- load
  rename_i t x
  have hx:=qca hf (hops x (by simp [Op.operands]))
  obtain ⟨r,hr,rfl⟩:=qea hs
  obtain ⟨u,e1,e2,e3⟩:=qmi h hx hr
  refine .same h ?_ e2 e3
  show aexec P a ⟨dst,.load t x,type,pos,after,guard⟩ H=_
  simp only [aexec,e1,Option.map_some]
 ·-- store
  rename_i t x yy
  have hx:=qca hf (hops x (by simp [Op.operands]))
  have hy:=qca hf (hops yy (by simp [Op.operands]))
  cases hst:storeV P t σ (evV A x) (evV A yy) with
  | none=>rw [hst] at hs;cases hs
  | some σ' =>
    rw [hst] at hs
    injection hs with hs;subst hs
    obtain ⟨H',e1,e2,e3⟩:=qqu h hx hy hst
    refine ⟨undef,H',ρ,?_,e2,e3,by simp only [RepF,RepX],rfl⟩
    show aexec P a ⟨dst,.store t x yy,type,pos,after,guard⟩ H=_
    simp only [aexec,e1,Option.map_some]
 ·-- nilCheck
  rename_i x
  have hx:=qca hf (hops x (by simp [Op.operands]))
  split at hs
  ·rename_i id ver i e
   cases hg:getO σ id ver with
   | none=>rw [hg] at hs;cases hs
   | some o =>
     rw [hg] at hs
     injection hs with hs;subst hs
     rw [e] at hx
     have hx':=hx
     obtain ⟨ho2,hv⟩:=qck hg
     simp only [RepF,RepX] at hx'
     obtain ⟨b,f,_,e2⟩:=hx'.2 o ho2 hv
     refine .same h ?_ hx rfl
     show aexec P a ⟨dst,.nilCheck x,type,pos,after,guard⟩ H=_
     simp only [aexec,e2,ptrA,isPtr,if_true]
  ·cases hs
 ·-- makeFunc
  rename_i f first captured
  split at hs
  ·rename_i hcnd
   injection hs with hs;subst hs
   refine .same h ?_ (qfm rfl) rfl
   rw [Bool.and_eq_true] at hcnd
   have e2:captured = #[]:=by simpa using hcnd.2
   subst e2
   show aexec P a ⟨dst,.makeFunc (.func f) first #[],type,pos,after,guard⟩ H=_
   simp [aexec,hcnd.1]
  ·cases hs
 ·-- makeSlice
  rename_i t l m
  have hl:=qca hf (hops l (by simp [Op.operands]))
  have hm:=qca hf (hops m (by simp [Op.operands]))
  exact make_sound h hl hm (op:=.makeSlice t l m) (fun _=>rfl) hs
 ·-- slice
  rename_i t x lo hi mx
  split at hs
  ·cases hs
  ·rename_i hmx
   have hx:=qca hf (hops x (by simp [Op.operands]))
   have:=qqw h hf hx (nt:=nt) (lo:=lo) (hi:=hi) (fun y hy=>hops y (by subst hy;simp [Op.operands])) (fun y hy=>hops y (by subst hy;simp [Op.operands])) (op:=.slice t x lo hi mx) (fun _=>rfl) hs
   show StOk Z H0 ρ σ c H _ (aexec P a ⟨dst,.slice t x lo hi mx,type,pos,after,guard⟩ H) y
   simp only [aexec]
   rw [if_neg hmx]
   exact this
 ·-- fieldAddr
  rename_i t x i
  have hx:=qca hf (hops x (by simp [Op.operands]))
  obtain ⟨r,hr,rfl⟩:=qea hs
  obtain ⟨u,e1,e2⟩:=qqv h hx hr
  refine .same h ?_ e2 rfl
  show aexec P a ⟨dst,.fieldAddr t x i,type,pos,after,guard⟩ H=_
  simp only [aexec,e1,Option.map_some]
 ·-- field
  rename_i t x i
  have hx:=qca hf (hops x (by simp [Op.operands]))
  obtain ⟨r,hr,rfl⟩:=qea hs
  obtain ⟨u,e1,e2⟩:=qqz hx hr
  refine .same h ?_ e2 rfl
  show aexec P a ⟨dst,.field t x i,type,pos,after,guard⟩ H=_
  simp only [aexec,e1,Option.map_some]
 ·-- indexAddr
  rename_i t x i
  have hx:=qca hf (hops x (by simp [Op.operands]))
  have hi:=qca hf (hops i (by simp [Op.operands]))
  obtain ⟨r,hr,rfl⟩:=qea hs
  obtain ⟨u,e1,e2⟩:=addr_sound h hx hi hr
  refine .same h ?_ e2 rfl
  show aexec P a ⟨dst,.indexAddr t x i,type,pos,after,guard⟩ H=_
  simp only [aexec,e1,Option.map_some]
 ·-- index
  rename_i t x i
  have hx:=qca hf (hops x (by simp [Op.operands]))
  have hi:=qca hf (hops i (by simp [Op.operands]))
  split at hs
  ·refine qeh h hf hops (fun he=>?_) hs (fun w hw hall=>?_)
   ·have e1:=he x (by simp [Op.operands])
    have e2:=he i (by simp [Op.operands])
    simp only [execOp,e1,e2]
   ·have e1:=hall x (by simp [Op.operands])
    show aexec P a ⟨dst,.index t x i,type,pos,after,guard⟩ H=_
    have e2:indexA P t (ev a x) (ev a i)=none:=by
     unfold indexA
     split
     ·rename_i hv _;rw [hv] at e1;cases e1
     ·rfl
    simp only [aexec,e2,hw,Option.map_some]
  ·obtain ⟨r,hr,rfl⟩:=qea hs
   obtain ⟨u,e1,e2⟩:=qqy hx hi hr
   refine .same h ?_ e2 rfl
   show aexec P a ⟨dst,.index t x i,type,pos,after,guard⟩ H=_
   simp only [aexec,e1]
 ·-- lookup
  rename_i t x i ok
  split at hs
  ·cases hs
  rename_i hok
  obtain rfl:ok=false:=by simpa using hok
  have hx:=qca hf (hops x (by simp [Op.operands]))
  have hi:=qca hf (hops i (by simp [Op.operands]))
  split at hs
  case h_2=>cases hs
  rename_i es k ex ei
  rw [ex] at hx
  rw [ei] at hi
  obtain ⟨r,hr,rfl⟩:=qea hs
  simp only [RepF,RepX,RepC] at hx
  obtain ⟨b,e1,e2⟩:=hx
  obtain ⟨e3,_⟩:=qdw hi
  obtain ⟨u,q1,q2,q3⟩:=look_sound (σ:=σ) (ρ:=ρ) (c:=c) (Y:=ZZ Z H0.length ρ σ) e2 hr
  refine .same h ?_ q2 q3
  show aexec P a ⟨dst,.lookup t x i false,type,pos,after,guard⟩ H=_
  simp only [aexec,e1,e3,q1,Option.map_some]
 ·-- extract
  rename_i x i
  have hx:=qca hf (hops x (by simp [Op.operands]))
  split at hs
  ·rename_i vs e
   rw [e] at hx
   obtain ⟨r,hr,rfl⟩:=qea hs
   simp only [RepF] at hx
   obtain ⟨ws,e1,e2⟩:=hx
   obtain ⟨u,e3,e4⟩:=e2.get i r hr
   refine .same h ?_ e4.toF rfl
   show aexec P a ⟨dst,.extract x i,type,pos,after,guard⟩ H=_
   simp only [aexec,e1]
   simp [e3]
  ·cases hs
 ·-- len
  rename_i args ats
  split at hs
  ·rename_i x t ea et
   have hargs:args = #[x]:=by rw [← Array.toList_inj];simpa using ea
   have hats:ats = #[t]:=by rw [← Array.toList_inj];simpa using et
   subst hargs;subst hats
   have hx:=qca hf (hops x (by simp [Op.operands,Call.operands]))
   split at hs
   ·rename_i s e
    rw [e] at hx
    obtain ⟨e2,_⟩:=qdw hx
    split at hs
    ·rename_i hu
     injection hs with hs;subst hs
     refine .same h ?_ (qfm rfl) rfl
     show (lenA P t (ev a x)).map (·,H)=_
     rw [e2]
     unfold lenA
     simp only [hu,Option.map_some]
    ·cases hs
   ·split at hs
    ·rename_i el hu
     obtain ⟨r,hr,rfl⟩:=qea hs
     cases hl:lenV σ (evV A x) with
     | none=>rw [hl] at hr;cases hr
     | some n =>
       rw [hl] at hr
       injection hr with hr;subst hr
       obtain ⟨p,m,e2⟩:=len_sound h hx hl
       refine .same h ?_ (qfm rfl) rfl
       show (lenA P t (ev a x)).map (·,H)=_
       rw [e2]
       unfold lenA
       simp only [hu,Option.map_some]
    ·cases hs
  ·cases hs
 ·-- append
  rename_i args ats
  split at hs
  ·rename_i s x t t' ea et
   have hargs:args = #[s,x]:=by rw [← Array.toList_inj];simpa using ea
   have hats:ats = #[t,t']:=by rw [← Array.toList_inj];simpa using et
   subst hargs;subst hats
   have hx:=qca hf (hops x (by simp [Op.operands,Call.operands]))
   have hss:=qca hf (hops s (by simp [Op.operands,Call.operands]))
   split at hs
   ·rename_i e
    subst e
    have:=app_sound h hss hx (op:=.call ⟨.builtin .append,#[s,x],#[t,t]⟩) (fun _=>qmh) hs
    show StOk Z H0 ρ σ c H _ (builtinA P a ⟨dst,.call ⟨.builtin .append,#[s,x],#[t,t]⟩,type,pos,after,guard⟩ .append [ev a s,ev a x] [t,t] H) y
    simp only [builtinA,if_true]
    exact this
   ·cases hs
  ·cases hs
 ·-- min
  rename_i args ats
  refine qeh h hf hops (fun he=>?_) hs (fun w hw _=>?_)
  ·have:args.map (ev a)=args.map (ev fun t=>toVal (A t)):=Array.map_congr_left fun x hx=>he x (by simp [Op.operands,Call.operands];exact hx)
   simp only [execOp,resolve,this]
  ·show builtinA P a ⟨dst,.call ⟨.builtin .min,args,ats⟩,type,pos,after,guard⟩ .min (args.toList.map (ev a)) ats.toList H=_
   simp only [builtinA,hw,Option.map_some]
 ·-- max
  rename_i args ats
  refine qeh h hf hops (fun he=>?_) hs (fun w hw _=>?_)
  ·have:args.map (ev a)=args.map (ev fun t=>toVal (A t)):=Array.map_congr_left fun x hx=>he x (by simp [Op.operands,Call.operands];exact hx)
   simp only [execOp,resolve,this]
  ·show builtinA P a ⟨dst,.call ⟨.builtin .max,args,ats⟩,type,pos,after,guard⟩ .max (args.toList.map (ev a)) ats.toList H=_
   simp only [builtinA,hw,Option.map_some]
 ·-- call
  rename_i f args ats
  have hF:=qca hf (hops f (by simp [Op.operands,Call.operands]))
  have hA:=qnq hf (nt:=nt) (l:=args.toList) (fun x hx=>hops x (by simp [Op.operands,Call.operands];exact .inr (by simpa using hx)))
  have:=call_sound hc h hF hA (op:=.call ⟨.value f,args,ats⟩) (fun _=>qmh) hs
  exact this
 ·cases hs
def FrR (Z:Nat→Prop) (B:Nat) (ρ:Rho) (σ:VSt) (c:Nat) (H:Heap) (A:VF) (a:Fr):Prop:=∀ t,RepF (ZZ Z B ρ σ) ρ σ c H (A t) (a t)
theorem FrR.tr {B:Nat} {ρ':Rho} {σ':VSt} {c':Nat} {H':Heap} {A:VF} {a:Fr} (h:FrR Z B ρ σ c H A a) (t:Tr Z B ρ σ c H ρ' σ' c' H'):FrR Z B ρ' σ' c' H' A a:=fun i=>(h i).tr t
theorem FrR.put {B:Nat} {A:VF} {a:Fr} (h:FrR Z B ρ σ c H A a) {r:VV} {v:Value} (hr:RepF (ZZ Z B ρ σ) ρ σ c H r v) (d:Option Nat):FrR Z B ρ σ c H (putV A d r) (putA a d v):=by
 intro i
 cases d with
 | none=>exact h i
 | some d =>
   show RepF _ _ _ _ _ (updV A d r i) (upd a d v i)
   unfold updV upd
   by_cases e:i=d
   ·rw [if_pos e,if_pos e];exact hr
   ·rw [if_neg e,if_neg e];exact h i
theorem qep {B:Nat} {A:VF} {a:Fr} (h:FrR Z B ρ σ c H A a) {ops:Array Oper} {o:Oper} {b:Bool} (hg:guardV ops A o=some b):Region.wanted o (yieldedA ops a)=b:=by
 unfold guardV at hg
 unfold Region.wanted
 split at hg
 ·rename_i e;injection hg with hg;subst hg;rw [e]
 ·rename_i j w e
  rw [e]
  simp only
  unfold yieldedA
  split at hg
  ·rename_i t ht
   rw [ht]
   simp only
   have h1:=h t
   split at hg
   ·rename_i b' e2
    injection hg with hg;subst hg
    rw [e2] at h1
    rw [(qdw h1).1]
    cases b'<;>cases w<;>rfl
   ·rename_i e2
    injection hg with hg;subst hg
    rw [e2] at h1
    simp only [RepF] at h1
    obtain ⟨vs,e3,h2⟩:=h1
    cases h2
    rw [e3]
    rfl
   ·cases hg
  ·cases hg
theorem qiq {Y:Nat→Prop}:RepF Y ρ σ c H (.tup []) undef:=by simp only [RepF];exact ⟨[],rfl,.nil⟩
theorem ops_sound {nt:Nat} (hc:CallsV ca call) {ops:Array Oper}:∀ (os:List Oper),(∀ o∈os,operOk nt o=true)→∀ {ρ:Rho} {σ:VSt} {c:Nat} {H:Heap} {A:VF} {a:Fr},VRl Z H0 ρ σ c H→FrR Z H0.length ρ σ c H A a→∀ {A':VF} {σ':VSt} {c':Nat},evOpsVV P call pol ops os A σ c=some (A',σ',c') →
  ∃ a' H' ρ',evOps P ca ops os a H=some (a',H')∧evOpsV P ca ops os a H=some (a',H')∧VRl Z H0 ρ' σ' c' H'∧Tr Z H0.length ρ σ c H ρ' σ' c' H'∧FrR Z H0.length ρ' σ' c' H' A' a':=by
 intro os
 induction os with
 | nil =>
   intro _ ρ σ c H A a h hf A' σ' c' hs
   simp only [evOpsVV] at hs
   injection hs with hs;injection hs with e1 hs;injection hs with e2 e3
   subst e1;subst e2;subst e3
   exact ⟨a,H,ρ,rfl,rfl,h,.refl ..,hf⟩
 | cons o os ih =>
   intro ho ρ σ c H A a h hf A' σ' c' hs
   simp only [evOpsVV] at hs
   have ho2:∀ o∈os,operOk nt o=true:=fun x hx=>ho x (by simp [hx])
   split at hs
   ·rename_i hg
    have hw:=qep hf hg
    split at hs
    ·rename_i r σ1 c1 hst
     obtain ⟨v,H1,ρ1,q1,q2,q3,q4,q5⟩:=qjf hc h hf (ho o (by simp)) hst
     obtain ⟨a',H',ρ',w1,w2,w3,w4,w5⟩:=ih ho2 q2 ((hf.tr q3).put q4 o.dst) hs
     refine ⟨a',H',ρ',?_,?_,w3,q3.trans w4,w5⟩
     ·simp only [evOps]
      rw [if_pos hw,q1]
      exact w1
     ·simp only [evOpsV]
      rw [if_pos hw,q1]
      simp only [q5,if_true]
      exact w2
    ·cases hs
   ·rename_i hg
    have hw:=qep hf hg
    obtain ⟨a',H',ρ',w1,w2,w3,w4,w5⟩:=ih ho2 h (hf.put qiq o.dst) hs
    refine ⟨a',H',ρ',?_,?_,w3,w4,w5⟩
    ·simp only [evOps]
     rw [if_neg (by rw [hw];simp)]
     exact w1
    ·simp only [evOpsV]
     rw [if_neg (by rw [hw];simp)]
     exact w2
   ·cases hs
theorem qq0 {t:TypeId} {p u:Value} {G:Heap} (h:loadA P t p H=some u) {b o:Nat} (hp:p=ptrA b o) (hb:G[b]?=H[b]?):loadA P t p G=some u:=by
 subst hp
 unfold loadA ptrA at h ⊢
 simp only at h ⊢
 cases ht:isAggT P t with
 | none=>rw [ht] at h;cases h
 | some q =>
   rw [ht] at h
   cases q with
   | false =>
     simp only [Heap.cell] at h ⊢
     rw [hb];exact h
   | true =>
     simp only at h ⊢
     cases hn:sizeT P t with
     | none=>rw [hn] at h;cases h
     | some n =>
       rw [hn] at h
       simp only [Heap.cellsAt] at h ⊢
       rw [hb];exact h
theorem qsp (hc:CallsP ca call) (h:VRl Z H0 ρ σ c H) {F:VV} {fv:Value} (hF:RepF (ZZ Z H0.length ρ σ) ρ σ c H F fv) {args:List VV} {vs:List Value} (hA:All2 (RepF (ZZ Z H0.length ρ σ) ρ σ c H) args vs) {d:Option Nat} {y:VV×VSt×Nat} (hr:callV call pol d F args σ c=some y) {v:Value} {H':Heap} (hs:ca fv vs H=some (v,H')):Old H.length H H':=by
 unfold callV at hr
 split at hr
 ·rename_i g fs cs ays hp
  obtain ⟨rfl,hsc⟩:=qdw hF
  have e1:fs = #[]:=by simp only [scOk,Bool.and_eq_true] at hsc;simpa using hsc.1
  have e2:cs = #[]:=by simp only [scOk,Bool.and_eq_true] at hsc;simpa using hsc.2
  subst e1;subst e2
  split at hr
  ·rename_i r fresh hcall
   have hcl:=qeo h (Y:=fun _=>True) (keepT _) hA hp (fun _ _ _ _ _ _ _=>trivial)
   obtain ⟨v',H2,q1,_,q3,_⟩:=hc g ays r fresh hcall _ H vs h.wf hcl
   rw [hs] at q1
   injection q1 with q1;injection q1 with _ q1
   subst q1
   exact q3
  ·cases hr
 ·cases hr
def Still (P:Program) (Hs:Heap) (q:RdI):Prop:=∀ G,Old Hs.length Hs G→stillReads P G q.2.1 q.2.2.1 q.2.2.2=true
theorem pureH {a:Fr} {o:Oper} (hcl:cls o.op = .read) {v:Value} {H1:Heap} (h:stepA P ca a o H=some (v,H1)):H1=H:=by
 rw [qfv hcl] at h
 obtain ⟨dst,op,type,pos,after,guard⟩:=o
 cases op<;>simp only [cls,reduceCtorEq] at hcl
 all_goals simp only [aexec] at h
 ·cases hl:loadA P _ _ H with
  | none=>rw [hl] at h;cases h
  | some u=>rw [hl] at h;injection h with h;injection h with _ h;exact h.symm
 ·split at h
  ·injection h with h;injection h with _ h;exact h.symm
  ·cases hl:plainA P a _ with
   | none=>rw [hl] at h;cases h
   | some u=>rw [hl] at h;injection h with h;injection h with _ h;exact h.symm
 ·rename_i t x k ok
  cases hl:lookupA P t (ev a x) (ev a k) ok H with
  | none=>rw [hl] at h;cases h
  | some u=>rw [hl] at h;injection h with h;injection h with _ h;exact h.symm
 ·rename_i cl
  obtain ⟨callee,args,ts⟩:=cl
  cases callee with
  | builtin b=>cases b<;>cases hcl
  | _=>cases hcl
theorem mapH {x:Option Value} {v:Value} {H1:Heap} (h:x.map (fun u=>(u,H))=some (v,H1)):H1=H:=by
 cases x with
 | none=>cases h
 | some u=>injection h with h;injection h with _ h;exact h.symm
theorem pureP {a:Fr} {o:Oper} (hcl:cls o.op = .pure_) {v:Value} {H1:Heap} (h:stepA P ca a o H=some (v,H1)):H1=H:=by
 rw [qlc hcl] at h
 obtain ⟨dst,op,type,pos,after,guard⟩:=o
 cases op<;>simp only [cls,reduceCtorEq] at hcl
 case binOp op t x y t' =>
  cases op<;>simp only [aexec] at h<;>first
   | exact mapH h
   | (split at h
      ·injection h with h;injection h with _ h;exact h.symm
      ·exact mapH h)
 case unOp=>simp only [aexec] at h;exact mapH h
 case move=>simp only [aexec] at h;injection h with h;injection h with _ h;exact h.symm
 case assign=>simp only [aexec] at h;injection h with h;injection h with _ h;exact h.symm
 case pick c x y =>
  simp only [aexec] at h
  split at h
  ·injection h with h;injection h with _ h;exact h.symm
  ·cases h
 case build=>simp only [aexec] at h;exact mapH h
 case nilCheck =>
  simp only [aexec] at h
  split at h
  ·injection h with h;injection h with _ h;exact h.symm
  ·cases h
 case makeFunc f first captured =>
  cases f<;>simp only [aexec] at h<;>first
   | (cases h;done)
   | (split at h
      ·injection h with h;injection h with _ h;exact h.symm
      ·cases h)
 case slice t x lo hi mx =>
  simp only [aexec] at h
  split at h
  ·cases h
  ·exact mapH h
 case fieldAddr=>simp only [aexec] at h;exact mapH h
 case field=>simp only [aexec] at h;exact mapH h
 case indexAddr=>simp only [aexec] at h;exact mapH h
 case index =>
  simp only [aexec] at h
  split at h
  ·injection h with h;injection h with _ h;exact h.symm
  ·exact mapH h
 case extract =>
  simp only [aexec] at h
  split at h
  ·exact mapH h
  ·cases h
 case call cl =>
  obtain ⟨callee,args,ts⟩:=cl
  cases callee with
  | builtin b =>
    simp only [aexec,builtinA] at h
    split at h
    case h_4 =>
     rename_i t _ _
     cases hs:sliceElem P t with
     | none=>rw [hs] at h;cases h
     | some q=>rw [hs] at h;injection h with h;injection h with _ h;exact h.symm
    all_goals first
     | exact mapH h
     | (cases hcl;done)
     | (cases h;done)
  | _=>cases hcl
 all_goals (simp only [aexec] at h;cases h)
theorem allOld {a:Fr} {o:Oper} (hcl:cls o.op = .all_) {v:Value} {H1:Heap} (h:stepA P ca a o H=some (v,H1)):Old H.length H H1:=by
 have hap:∀ {x:Value} {J:Heap},some (x,H++J)=some (v,H1)→Old H.length H H1:=fun {x J} e=>by
  injection e with e;injection e with _ e;subst e;exact Old.app H J
 rw [qnl hcl] at h
 obtain ⟨dst,op,type,pos,after,guard⟩:=o
 cases op<;>simp only [cls,reduceCtorEq] at hcl
 case alloc =>
  simp only [aexec] at h
  split at h
  ·split at h
   ·exact hap h
   ·cases h
  ·cases h
 case box =>
  simp only [aexec] at h
  split at h
  ·exact hap h
  ·cases h
 case buildSlice =>
  simp only [aexec,buildSliceA] at h
  split at h
  ·split at h
   ·split at h
    ·split at h
     ·exact hap h
     ·cases h
    ·cases h
   ·cases h
  ·cases h
 case makeMap =>
  simp only [aexec] at h
  split at h
  ·split at h
   ·exact hap h
   ·cases h
  ·cases h
 case makeSlice =>
  simp only [aexec] at h
  split at h
  ·split at h
   ·split at h
    ·exact hap h
    ·cases h
   ·cases h
  ·cases h
 case call cl =>
  obtain ⟨callee,args,ts⟩:=cl
  cases callee with
  | builtin b=>cases b<;>cases hcl
  | _=>cases hcl
theorem qml {a:Fr} {d:Option Nat} {s u:TypeId} {x:Operand} {ty:TypeId} {pos:String} {aft:Array Edge} {g:Option (Nat×Bool)} {w:Value} (hx:ev a x=w) (hp:scOk w=true) {v:Value} {H1 G:Heap} (h:stepA P ca a ⟨d,.convert s u x,ty,pos,aft,g⟩ H=some (v,H1)):aexec P a ⟨d,.convert s u x,ty,pos,aft,g⟩ G=some (v,G):=by
 have hn:∀ K:Heap,textA P s u (ev a x) K=none:=fun K=>by
  unfold textA
  rw [hx]
  cases w<;>first | rfl | cases hp
 have h:aexec P a ⟨d,.convert s u x,ty,pos,aft,g⟩ H=some (v,H1):=h
 simp only [aexec,hn] at h ⊢
 cases hl:plainA P a ⟨d,.convert s u x,ty,pos,aft,g⟩ with
 | none=>rw [hl] at h;cases h
 | some q=>rw [hl] at h;injection h with h;injection h with h _;subst h;rfl
theorem qq1 {nt:Nat} (hc:CallsV ca call) {ops:Array Oper} {bef:Array Nat} (hdr:drawI ops bef=true) {Hs:Heap} {ρs:Rho} {σs:VSt} {cs:Nat} (hs0:VRl Z H0 ρs σs cs Hs):∀ (os:List Oper) (j:Nat),ops.toList.drop j=os→(∀ o∈os,operOk nt o=true) →
  ∀ {cl:Bool} {ρ:Rho} {σ:VSt} {c:Nat} {H:Heap} {A:VF} {a:Fr} {Gs:List HpI} {rs:List RdI},VRl Z H0 ρ σ c H→FrR Z H0.length ρ σ c H A a→Tr Z H0.length ρs σs cs Hs ρ σ c H →
  ((∀ i,i < j→isEff (ops.getD i default)=true→isVCall (ops.getD i default).op=true)→Old Hs.length Hs H)→(cl=true→H=Hs) →
  (∀ G∈Gs,Old Hs.length Hs G.2∨∃ e,G.1=some e∧e < j∧isEff (ops.getD e default)=true∧¬ (isVCall (ops.getD e default).op=true∧∀ i,i < e→isEff (ops.getD i default)=true→isVCall (ops.getD i default).op=true)) →
  (∀ q∈rs,Still P Hs q∧q.1 < j∧isRead (ops.getD q.1 default)=true) →
  ∀ {A':VF} {σ':VSt} {c':Nat},evOpsVI P call pol ops σs cl os A σ c=some (A',σ',c') →
  ∃ a' H' ρ' Gs' rs',evOpsI P ca ops j os a H Gs rs=some (a',H',Gs',rs')∧VRl Z H0 ρ' σ' c' H'∧Tr Z H0.length ρ σ c H ρ' σ' c' H'∧FrR Z H0.length ρ' σ' c' H' A' a' ∧
    (∀ G∈Gs',∀ q∈rs',ordB bef G.1 q.1=false→stillReads P G.2 q.2.1 q.2.2.1 q.2.2.2=true):=by
 have hord:∀ e,e < ops.size→isEff (ops.getD e default)=true→¬ (isVCall (ops.getD e default).op=true∧∀ i,i < e→isEff (ops.getD i default)=true→isVCall (ops.getD i default).op=true)→∀ j,j < ops.size→isRead (ops.getD j default)=true→j < e∧(bef.getD e 0).testBit j=true:=by
  intro e he h1 h2 j hj h3
  have h4:=List.all_eq_true.1 hdr e (List.mem_range.2 he)
  rw [h1,Bool.not_true,Bool.false_or,Bool.or_eq_true] at h4
  rcases h4 with h4 | h4
  ·exfalso
   apply h2
   rw [Bool.and_eq_true] at h4
   refine ⟨h4.1,fun i hi h5=>?_⟩
   have:=List.all_eq_true.1 h4.2 i (List.mem_range.2 hi)
   rw [h5] at this
   simpa using this
  ·have:=List.all_eq_true.1 h4 j (List.mem_range.2 hj)
   rw [h3] at this
   simpa using this
 intro os
 induction os with
 | nil =>
   intro j hd _ cl ρ σ c H A a Gs rs h hf ht _ _ hG hq A' σ' c' hr
   simp only [evOpsVI] at hr
   injection hr with hr;injection hr with e1 hr;injection hr with e2 e3
   subst e1;subst e2;subst e3
   refine ⟨a,H,ρ,Gs,rs,rfl,h,.refl ..,hf,fun G hGm q hqm ho=>?_⟩
   obtain ⟨k1,k2,k3⟩:=hq q hqm
   have hsz:ops.size≤j:=by
    apply Nat.le_of_not_lt
    intro h
    rw [List.drop_eq_getElem_cons (by simpa using h)] at hd
    cases hd
   rcases hG G hGm with h1 | ⟨e,h1,h2,h3,h4⟩
   ·exact k1 _ h1
   ·exfalso
    have hq1:q.1 < ops.size:=by
     apply Nat.lt_of_not_le
     intro hle
     have:ops.getD q.1 default=default:=by simp [Array.getD,Nat.not_lt.2 hle]
     rw [this] at k3
     revert k3
     show isRead default=true→False
     intro k3;cases k3
    have he1:e < ops.size:=by
     apply Nat.lt_of_not_le
     intro hle
     have:ops.getD e default=default:=by simp [Array.getD,Nat.not_lt.2 hle]
     rw [this] at h3
     cases h3
    obtain ⟨w1,w2⟩:=hord e he1 h3 h4 q.1 hq1 k3
    rw [h1] at ho
    unfold ordB at ho
    simp only [w2,decide_eq_true w1,Bool.and_self] at ho
    cases ho
 | cons o os ih =>
   intro j hd ho cl ρ σ c H A a Gs rs h hf ht hOld hcl hG hq A' σ' c' hr
   have hj:j < ops.size:=by
    apply Nat.lt_of_not_le
    intro hle
    rw [List.drop_eq_nil_of_le (by simpa using hle)] at hd
    cases hd
   have hoj:ops.getD j default=o:=by
    rw [List.drop_eq_getElem_cons (by simpa using hj)] at hd
    injection hd with hd _
    simp only [Array.getD,hj,dif_pos]
    rw [← hd];simp
   have hd2:ops.toList.drop (j+1)=os:=by
    rw [List.drop_eq_getElem_cons (by simpa using hj)] at hd
    injection hd
   have ho2:∀ o∈os,operOk nt o=true:=fun x hx=>ho x (by simp [hx])
   simp only [evOpsVI] at hr
   split at hr
   ·rename_i hg
    have hw:=qep hf hg
    split at hr
    ·rename_i r σ1 c1 hst
     split at hr
     ·rename_i hrd
      obtain ⟨v,H1,ρ1,q1,q2,q3,q4,q5⟩:=qjf hc.noIP.v h hf (ho o (by simp)) hst
      have hfr:=(hf.tr q3).put q4 o.dst
      cases hk:cls o.op with
      | pure_ =>
        have eH:H=H1:=(pureP hk q1).symm
        subst eH
        have hne:isEff o=false:=by unfold isEff;rw [hk]
        obtain ⟨a',H',ρ',Gs',rs',w1,w2,w3,w4,w5⟩:=ih (j+1) hd2 ho2 (cl:=cl && cleanOp o.op) q2 hfr (ht.trans q3) (fun hh=>hOld fun i hi=>hh i (by omega)) (fun hh=>hcl (by rw [Bool.and_eq_true] at hh;exact hh.1))
         (fun G hGm=>by rcases hG G hGm with h1 | ⟨e,h1,h2,h3⟩;exact .inl h1;exact .inr ⟨e,h1,by omega,h3⟩) (fun q hqm=>by have:=hq q hqm;exact ⟨this.1,by omega,this.2.2⟩) hr
        refine ⟨a',H',ρ',Gs',rs',?_,w2,q3.trans w3,w4,w5⟩
        rw [evOpsI,hw,qaf,q1]
        simp only [bindO,hk]
        exact w1
      | read =>
        have eH:H=H1:=(pureH hk q1).symm
        subst eH
        have hread:isRead o=true:=by unfold isRead;rw [hk]
        have hpre:Old Hs.length Hs H:=hOld fun i hi h1=>by
         cases hv:isVCall (ops.getD i default).op with
         | true=>rfl
         | false =>
           exfalso
           obtain ⟨w1,_⟩:=hord i (by omega) h1 (fun hh=>by rw [hv] at hh;cases hh.1) j hj (by rw [hoj];exact hread)
           omega
        have hv1:vEq v v=true:=by unfold reflV at q5;rw [hk] at q5;exact q5
        have hstill:Still P Hs (j,a,o,v):=by
         intro G hGo
         show stillReads P G a o v=true
         have q1':aexec P a o H=some (v,H):=by rw [← qfv hk];exact q1
         have key:aexec P a o G=some (v,G)→stillReads P G a o v=true:=fun e=>by
          unfold stillReads;rw [e];exact hv1
         unfold readOk at hrd
         rw [hk] at hrd
         obtain ⟨dst,op,type,pos,after,guard⟩:=o
         have hopk:=ho _ (List.mem_cons_self ..)
         have hops:∀ x∈op.operands.toList,opndOk nt x=true:=by
          unfold operOk at hopk
          rw [Bool.and_eq_true] at hopk
          exact fun x hx=>List.all_eq_true.1 hopk.1 x hx
         have hloc:∀ {A1:VV} {u:Value},RepF (ZZ Z H0.length ρ σ) ρ σ c H A1 u→∀ t q,loadA P t u H=some q→(cl=true∨(∃ id ver i,A1 = .ptr id ver i∧(getO σs id ver).isSome=true∧(getO σ id ver).isSome=true))→loadA P t u G=some q:=by
          intro A1 u hA1 t q hq1 hcase
          obtain ⟨b,o',rfl,hb⟩:∃ b o',u=ptrA b o'∧b < H.length:=by
           unfold loadA at hq1
           split at hq1
           ·rename_i b o'
            refine ⟨b,o',rfl,?_⟩
            split at hq1
            ·split at hq1
             ·split at hq1
              ·rename_i hce;unfold Heap.cellsAt at hce;split at hce;exact qcz (by assumption);cases hce
              ·cases hq1
             ·cases hq1
            ·unfold Heap.cell at hq1;split at hq1;exact qcz (by assumption);cases hq1
            ·cases hq1
           ·cases hq1
          refine qq0 hq1 rfl ?_
          have hbs:b < Hs.length:=by
           rcases hcase with hcl2 | ⟨id,ver,i,rfl,hg2,hg4⟩
           ·rw [← hcl hcl2];exact hb
           ·cases hg3:getO σs id ver with
            | none=>rw [hg3] at hg2;cases hg2
            | some os' =>
              cases hg5:getO σ id ver with
              | none=>rw [hg5] at hg4;cases hg4
              | some oc =>
                obtain ⟨m1,m2⟩:=qck hg3
                obtain ⟨m3,m4⟩:=qck hg5
                have hver:=hs0.ver id os' m1
                simp only [RepF,RepX] at hA1
                obtain ⟨b2,f2,m5,m6⟩:=hA1.2 oc m3 m4
                obtain ⟨o1,m7,_,_,_,m8⟩:=ht.refs id oc m3 (by omega)
                rw [m8] at m5
                have:=hs0.blk m7 m5
                have e2:b=b2:=by
                 unfold ptrA at m6
                 injection m6 with m6;injection m6 with m6;injection m6
                omega
          rw [hGo.2 b hbs,hpre.2 b hbs]
         cases op<;>simp only [cls,reduceCtorEq] at hk
         ·rename_i t x
          have hx:=qca hf (hops x (by simp [Op.operands]))
          apply key
          simp only [aexec] at q1' ⊢
          cases hl:loadA P t (ev a x) H with
          | none=>rw [hl] at q1';cases q1'
          | some u =>
            rw [hl] at q1'
            injection q1' with q1';injection q1' with q1' _
            subst q1'
            have hcase:cl=true∨(∃ id ver i,evV A x = .ptr id ver i∧(getO σs id ver).isSome=true∧(getO σ id ver).isSome=true):=by
             simp only [Bool.or_eq_true] at hrd
             rcases hrd with hrd | hrd
             ·exact .inl hrd
             ·right
              split at hrd
              ·rename_i id ver i e
               refine ⟨id,ver,i,e,hrd,?_⟩
               obtain ⟨r',hr',_⟩:=qea (show rtV (loadV P t σ (evV A x)) σ c=some (r,σ1,c1) from hst)
               rw [e] at hr'
               unfold loadV at hr'
               simp only [cellsV] at hr'
               cases hg9:getO σ id ver with
               | none=>rw [hg9] at hr';cases hr'
               | some _=>rfl
              ·cases hrd
            rw [hloc hx t u hl hcase];rfl
         ·rename_i s u x
          have hx:=qca hf (hops x (by simp [Op.operands]))
          apply key
          simp only at hrd
          split at hrd
          ·rename_i w e
           rw [e] at hx
           obtain ⟨e2,e3⟩:=qdw hx
           exact qml e2 e3 q1
          ·cases hrd
         ·simp only at hrd;cases hrd
         ·simp only at hrd;cases hrd
        obtain ⟨a',H',ρ',Gs',rs',w1,w2,w3,w4,w5⟩:=ih (j+1) hd2 ho2 (cl:=cl && cleanOp o.op) (rs:=(j,a,o,v)::rs) q2 hfr (ht.trans q3) (fun hh=>hOld fun i hi=>hh i (by omega)) (fun hh=>hcl (by rw [Bool.and_eq_true] at hh;exact hh.1))
         (fun G hGm=>by rcases hG G hGm with h1 | ⟨e,h1,h2,h3⟩;exact .inl h1;exact .inr ⟨e,h1,by omega,h3⟩)
         (fun q hqm=>by
          rcases List.mem_cons.1 hqm with rfl | hqm
          ·exact ⟨hstill,by show j < j+1;omega,by show isRead (ops.getD j default)=true;rw [hoj];exact hread⟩
          ·have:=hq q hqm;exact ⟨this.1,by omega,this.2.2⟩) hr
        refine ⟨a',H',ρ',Gs',rs',?_,w2,q3.trans w3,w4,w5⟩
        rw [evOpsI,hw,qaf,q1]
        simp only [bindO,hk]
        exact w1
      | all_ =>
        have hnE:isEff o=false:=by unfold isEff;rw [hk]
        have hOl:=allOld hk q1
        obtain ⟨a',H',ρ',Gs',rs',w1,w2,w3,w4,w5⟩:=ih (j+1) hd2 ho2 (cl:=cl && cleanOp o.op) q2 hfr (ht.trans q3) (fun hh=>by
          have h1:=hOld fun i hi=>hh i (by omega)
          exact h1.trans (hOl.mono h1.1)) (fun hh=>by
          rw [Bool.and_eq_true] at hh
          have:cleanOp o.op=false:=by unfold cleanOp;rw [hk]
          rw [this] at hh;cases hh.2)
         (fun G hGm=>by rcases hG G hGm with h1 | ⟨e,h1,h2,h3⟩;exact .inl h1;exact .inr ⟨e,h1,by omega,h3⟩) (fun q hqm=>by have:=hq q hqm;exact ⟨this.1,by omega,this.2.2⟩) hr
        refine ⟨a',H',ρ',Gs',rs',?_,w2,q3.trans w3,w4,w5⟩
        rw [evOpsI,hw,qaf,q1]
        simp only [bindO,hk]
        exact w1
      | eff =>
        have hE:isEff o=true:=by unfold isEff;rw [hk]
        have hvO:isVCall o.op=true→Old H.length H H1:=fun hv=>by
         have hopk:=ho o (List.mem_cons_self ..)
         obtain ⟨dst,op,type,pos,after,guard⟩:=o
         cases op<;>simp only [isVCall] at hv<;>try (cases hv;done)
         rename_i cl'
         obtain ⟨callee,args,ts⟩:=cl'
         cases callee<;>simp only at hv<;>try (cases hv;done)
         rename_i fo
         have hops:∀ x∈(Op.call ⟨.value fo,args,ts⟩).operands.toList,opndOk nt x=true:=by
          unfold operOk at hopk
          rw [Bool.and_eq_true] at hopk
          exact fun x hx=>List.all_eq_true.1 hopk.1 x hx
         have hF:=qca hf (hops fo (by simp [Op.operands,Call.operands]))
         have hA:=qnq hf (nt:=nt) (l:=args.toList) (fun x hx=>hops x (by simp [Op.operands,Call.operands];exact .inr (by simpa using hx)))
         exact qsp hc.noIP h hF hA (show callV (noIP call) pol dst (evV A fo) (args.toList.map (evV A)) σ c=some (r,σ1,c1) from hst) q1
        obtain ⟨a',H',ρ',Gs',rs',w1,w2,w3,w4,w5⟩:=ih (j+1) hd2 ho2 (cl:=cl && cleanOp o.op) (Gs:=(some j,H1)::Gs) q2 hfr (ht.trans q3) (fun hh=>by
          have h1:=hOld fun i hi=>hh i (by omega)
          have h2:=hvO (by have:=hh j (by omega);rw [hoj] at this;exact this hE)
          exact h1.trans (h2.mono h1.1)) (fun hh=>by
          rw [Bool.and_eq_true] at hh
          have:cleanOp o.op=false:=by unfold cleanOp;rw [hk]
          rw [this] at hh;cases hh.2)
         (fun G hGm=>by
          rcases List.mem_cons.1 hGm with rfl | hGm
          ·by_cases hcase:isVCall o.op=true∧∀ i,i < j→isEff (ops.getD i default)=true→isVCall (ops.getD i default).op=true
           ·have h1:=hOld hcase.2
            exact .inl (h1.trans ((hvO hcase.1).mono h1.1))
           ·exact .inr ⟨j,rfl,by omega,by rw [hoj];exact hE,by rw [hoj];exact hcase⟩
          ·rcases hG G hGm with h1 | ⟨e,h1,h2,h3⟩
           ·exact .inl h1
           ·exact .inr ⟨e,h1,by omega,h3⟩) (fun q hqm=>by have:=hq q hqm;exact ⟨this.1,by omega,this.2.2⟩) hr
        refine ⟨a',H',ρ',Gs',rs',?_,w2,q3.trans w3,w4,w5⟩
        rw [evOpsI,hw,qaf,q1]
        simp only [bindO,hk]
        exact w1
     ·cases hr
    ·cases hr
   ·rename_i hg
    have hw:=qep hf hg
    obtain ⟨a',H',ρ',Gs',rs',w1,w2,w3,w4,w5⟩:=ih (j+1) hd2 ho2 (cl:=cl) h (hf.put qiq o.dst) ht (fun hh=>hOld fun i hi=>hh i (by omega)) hcl
     (fun G hGm=>by rcases hG G hGm with h1 | ⟨e,h1,h2,h3⟩;exact .inl h1;exact .inr ⟨e,h1,by omega,h3⟩) (fun q hqm=>by have:=hq q hqm;exact ⟨this.1,by omega,this.2.2⟩) hr
    refine ⟨a',H',ρ',Gs',rs',?_,w2,w3,w4,w5⟩
    rw [evOpsI,hw,qar]
    exact w1
   ·cases hr
def OldB (σs:VSt) (ρs:Rho) (Hs G:Heap):Prop:=∀ id o b f,σs id=some o→o.sz=0→ρs id=some (b,f)→G[b]?=Hs[b]?
theorem OldB.refl {σs:VSt} {ρs:Rho} {Hs:Heap}:OldB σs ρs Hs Hs:=fun _ _ _ _ _ _ _=>rfl
theorem qq2 {H H1:Heap} {b o:Nat} {vs:List Value} (h:H.write b o vs=some H1) {b2 f f2:Nat} {own w:Bool} {bs bs2:List Value} (h1:H[b]?=some (.cells f w bs)) (h2:H[b2]?=some (.cells f2 own bs2)) (hf:f2≠f):H1[b2]?=some (.cells f2 own bs2):=by
 unfold Heap.write at h
 rw [h1] at h
 split at h
 ·rename_i fam cs e
  injection e with e
  injection e with e1 e2 e3
  subst e1
  split at h
  ·injection h with h;subst h
   have hb:b≠b2:=by
    intro e;subst e
    rw [h1] at h2
    injection h2 with h2;injection h2 with h2
    exact hf h2.symm
   rw [List.getElem?_set_ne hb,List.getElem?_map,h2]
   simp only [Option.map_some,truncFam,if_neg hf]
  ·cases h
 ·cases h
theorem storeJ {ρs ρ:Rho} {σs σ:VSt} {cs c:Nat} {Hs H H1:Heap} (hs0:VRl Z H0 ρs σs cs Hs) (h:VRl Z H0 ρ σ c H) (ht:Tr Z H0.length ρs σs cs Hs ρ σ c H) (hB:OldB σs ρs Hs H)
  {id ver i:Nat} {p:Value} (hp:RepF (ZZ Z H0.length ρ σ) ρ σ c H (.ptr id ver i) p) (hl:lstOf σs (.ptr id ver i)=true) (hc:(getO σ id ver).isSome=true) {t:TypeId} {v:Value} (hst:storeA P t p v H=some H1):OldB σs ρs Hs H1:=by
 replace hl:(match getO σs id ver with | some o=>o.sz != 0 | none=>false)=true:=hl
 cases hg:getO σs id ver with
 | none=>rw [hg] at hl;cases hl
 | some ol =>
   rw [hg] at hl
   obtain ⟨m1,m2⟩:=qck hg
   have hver:=hs0.ver id ol m1
   cases hg2:getO σ id ver with
   | none=>rw [hg2] at hc;cases hc
   | some oc =>
     obtain ⟨m3,m4⟩:=qck hg2
     simp only [RepF,RepX] at hp
     obtain ⟨b,f,hr,rfl⟩:=hp.2 oc m3 m4
     obtain ⟨o1,m7,_,_,_,m8⟩:=ht.refs id oc m3 (by omega)
     have hr':=hr
     rw [m8] at hr'
     have hob:=h.obj id oc m3
     rw [hr] at hob
     obtain ⟨_,_,bs,k1,_⟩:=hob
     intro idb ob bb fb n1 n2 n3
     have hobb:=hs0.obj idb ob n1
     rw [n3] at hobb
     obtain ⟨_,_,bs2,k2,_⟩:=hobb
     have hne:fb≠f:=by
      intro e;subst e
      have:=hs0.dist idb id ob ol bb b fb n1 m1 n3 hr'
      subst this
      rw [n1] at m1;injection m1 with m1;subst m1
      have hl2:(ob.sz != 0)=true:=hl;rw [n2] at hl2;cases hl2
     have k3:=hB idb ob bb fb n1 n2 n3
     rw [k2] at k3
     unfold storeA ptrA at hst
     split at hst
     ·rename_i b3 o3 cs3 n3' e1 e2 e3
      injection e1 with e1;injection e1 with e1;injection e1 with e1 e1'
      subst e1
      split at hst
      ·rw [k2]
       exact qq2 hst k1 k3 hne
      ·cases hst
     ·cases hst
theorem still_of {nt:Nat} {Hs:Heap} {ρs:Rho} {σs:VSt} {cs:Nat} (hs0:VRl Z H0 ρs σs cs Hs) {cl:Bool} {ρ:Rho} {σ:VSt} {c:Nat} {H:Heap} {A:VF} {a:Fr} (hf:FrR Z H0.length ρ σ c H A a) (ht:Tr Z H0.length ρs σs cs Hs ρ σ c H)
  (hpre:Old Hs.length Hs H) (hcl:cl=true→H=Hs) {j:Nat} {o:Oper} (ho:operOk nt o=true) (hk:cls o.op = .read) {r:VV} {σ1:VSt} {c1:Nat} (hst:stepV P call pol A o σ c=some (r,σ1,c1)) {v:Value} (q1:stepA P ca a o H=some (v,H)) (q5:reflV o.op v) (hrd:readOk σs cl A o=true):Still P Hs (j,a,o,v):=by
 have hv1:vEq v v=true:=by unfold reflV at q5;rw [hk] at q5;exact q5
 intro G hGo
 show stillReads P G a o v=true
 have q1':aexec P a o H=some (v,H):=by rw [← qfv hk];exact q1
 have key:aexec P a o G=some (v,G)→stillReads P G a o v=true:=fun e=>by
  unfold stillReads;rw [e];exact hv1
 unfold readOk at hrd
 rw [hk] at hrd
 obtain ⟨dst,op,type,pos,after,guard⟩:=o
 have hopk:=ho
 have hops:∀ x∈op.operands.toList,opndOk nt x=true:=by
  unfold operOk at hopk
  rw [Bool.and_eq_true] at hopk
  exact fun x hx=>List.all_eq_true.1 hopk.1 x hx
 have hloc:∀ {A1:VV} {u:Value},RepF (ZZ Z H0.length ρ σ) ρ σ c H A1 u→∀ t q,loadA P t u H=some q→(cl=true∨(∃ id ver i,A1 = .ptr id ver i∧(getO σs id ver).isSome=true∧(getO σ id ver).isSome=true))→loadA P t u G=some q:=by
  intro A1 u hA1 t q hq1 hcase
  obtain ⟨b,o',rfl,hb⟩:∃ b o',u=ptrA b o'∧b < H.length:=by
   unfold loadA at hq1
   split at hq1
   ·rename_i b o'
    refine ⟨b,o',rfl,?_⟩
    split at hq1
    ·split at hq1
     ·split at hq1
      ·rename_i hce;unfold Heap.cellsAt at hce;split at hce;exact qcz (by assumption);cases hce
      ·cases hq1
     ·cases hq1
    ·unfold Heap.cell at hq1;split at hq1;exact qcz (by assumption);cases hq1
    ·cases hq1
   ·cases hq1
  refine qq0 hq1 rfl ?_
  have hbs:b < Hs.length:=by
   rcases hcase with hcl2 | ⟨id,ver,i,rfl,hg2,hg4⟩
   ·rw [← hcl hcl2];exact hb
   ·cases hg3:getO σs id ver with
    | none=>rw [hg3] at hg2;cases hg2
    | some os' =>
      cases hg5:getO σ id ver with
      | none=>rw [hg5] at hg4;cases hg4
      | some oc =>
        obtain ⟨m1,m2⟩:=qck hg3
        obtain ⟨m3,m4⟩:=qck hg5
        have hver:=hs0.ver id os' m1
        simp only [RepF,RepX] at hA1
        obtain ⟨b2,f2,m5,m6⟩:=hA1.2 oc m3 m4
        obtain ⟨o1,m7,_,_,_,m8⟩:=ht.refs id oc m3 (by omega)
        rw [m8] at m5
        have:=hs0.blk m7 m5
        have e2:b=b2:=by
         unfold ptrA at m6
         injection m6 with m6;injection m6 with m6;injection m6
        omega
  rw [hGo.2 b hbs,hpre.2 b hbs]
 cases op<;>simp only [cls,reduceCtorEq] at hk
 ·rename_i t x
  have hx:=qca hf (hops x (by simp [Op.operands]))
  apply key
  simp only [aexec] at q1' ⊢
  cases hl:loadA P t (ev a x) H with
  | none=>rw [hl] at q1';cases q1'
  | some u =>
    rw [hl] at q1'
    injection q1' with q1';injection q1' with q1' _
    subst q1'
    have hcase:cl=true∨(∃ id ver i,evV A x = .ptr id ver i∧(getO σs id ver).isSome=true∧(getO σ id ver).isSome=true):=by
     simp only [Bool.or_eq_true] at hrd
     rcases hrd with hrd | hrd
     ·exact .inl hrd
     ·right
      split at hrd
      ·rename_i id ver i e
       refine ⟨id,ver,i,e,hrd,?_⟩
       obtain ⟨r',hr',_⟩:=qea (show rtV (loadV P t σ (evV A x)) σ c=some (r,σ1,c1) from hst)
       rw [e] at hr'
       unfold loadV at hr'
       simp only [cellsV] at hr'
       cases hg9:getO σ id ver with
       | none=>rw [hg9] at hr';cases hr'
       | some _=>rfl
      ·cases hrd
    rw [hloc hx t u hl hcase];rfl
 ·rename_i s u x
  have hx:=qca hf (hops x (by simp [Op.operands]))
  apply key
  simp only at hrd
  split at hrd
  ·rename_i w e
   rw [e] at hx
   obtain ⟨e2,e3⟩:=qdw hx
   exact qml e2 e3 q1
  ·cases hrd
 ·simp only at hrd;cases hrd
 ·simp only at hrd;cases hrd
def StillJ (P:Program) (σs:VSt) (ρs:Rho) (Hs:Heap) (q:RdI):Prop:=∀ G,OldB σs ρs Hs G→stillReads P G q.2.1 q.2.2.1 q.2.2.2=true
theorem stillJ_of {nt:Nat} {Hs:Heap} {ρs:Rho} {σs:VSt} {cs:Nat} (hs0:VRl Z H0 ρs σs cs Hs) {ρ:Rho} {σ:VSt} {c:Nat} {H:Heap} {A:VF} {a:Fr} (h:VRl Z H0 ρ σ c H) (hf:FrR Z H0.length ρ σ c H A a) (ht:Tr Z H0.length ρs σs cs Hs ρ σ c H) (hB:OldB σs ρs Hs H)
  {j:Nat} {o:Oper} (ho:operOk nt o=true) (hk:cls o.op = .read) {r:VV} {σ1:VSt} {c1:Nat} (hst:stepV P call pol A o σ c=some (r,σ1,c1)) {v:Value} (q1:stepA P ca a o H=some (v,H)) (q5:reflV o.op v=true)
  (hrd:(match o.op with | .load _ x=>boxOf σs (evV A x) | _=>false)=true):StillJ P σs ρs Hs (j,a,o,v):=by
 have hv1:vEq v v=true:=by unfold reflV at q5;rw [hk] at q5;exact q5
 intro G hG
 show stillReads P G a o v=true
 have q1':aexec P a o H=some (v,H):=by rw [← qfv hk];exact q1
 have key:aexec P a o G=some (v,G)→stillReads P G a o v=true:=fun e=>by
  unfold stillReads;rw [e];exact hv1
 obtain ⟨dst,op,type,pos,after,guard⟩:=o
 have hops:∀ x∈op.operands.toList,opndOk nt x=true:=by
  unfold operOk at ho
  rw [Bool.and_eq_true] at ho
  exact fun x hx=>List.all_eq_true.1 ho.1 x hx
 cases op<;>simp only [Bool.false_eq_true] at hrd
 rename_i t x
 have hx:=qca hf (hops x (by simp [Op.operands]))
 apply key
 simp only [aexec] at q1' ⊢
 cases hl:loadA P t (ev a x) H with
 | none=>rw [hl] at q1';cases q1'
 | some u =>
   rw [hl] at q1'
   injection q1' with q1';injection q1' with q1' _
   subst q1'
   cases hA:evV A x with
   | ptr id ver i =>
     rw [hA] at hrd hx
     replace hrd:(match getO σs id ver with | some o=>o.sz == 0 | none=>false)=true:=hrd
     obtain ⟨r',hr',_⟩:=qea (show rtV (loadV P t σ (evV A x)) σ c=some (r,σ1,c1) from hst)
     rw [hA] at hr'
     unfold loadV at hr'
     simp only [cellsV] at hr'
     cases hg:getO σs id ver with
     | none=>rw [hg] at hrd;cases hrd
     | some ob =>
       rw [hg] at hrd
       have hz:ob.sz=0:=by
        have hrd2:(ob.sz == 0)=true:=hrd
        simpa using hrd2
       obtain ⟨m1,m2⟩:=qck hg
       have hver:=hs0.ver id ob m1
       cases hg2:getO σ id ver with
       | none=>rw [hg2] at hr';cases hr'
       | some oc =>
         obtain ⟨m3,m4⟩:=qck hg2
         simp only [RepF,RepX] at hx
         obtain ⟨b,f,hr,e⟩:=hx.2 oc m3 m4
         obtain ⟨o1,m7,_,_,_,m8⟩:=ht.refs id oc m3 (by omega)
         rw [m8] at hr
         rw [qq0 hl e (by rw [hG id ob b f m1 hz hr,hB id ob b f m1 hz hr])]
         rfl
   | _=>rw [hA] at hrd;cases hrd
theorem writeJ_len {H H1:Heap} {b o:Nat} {vs:List Value} (h:H.write b o vs=some H1):H1.length=H.length:=by
 unfold Heap.write at h
 split at h
 ·split at h
  ·injection h with h;subst h;simp
  ·cases h
 ·cases h
theorem app_heap (h:VRl Z H0 ρ σ c H) {S X:VV} {s x:Value} (hS:RepF (ZZ Z H0.length ρ σ) ρ σ c H S s) (hX:RepF (ZZ Z H0.length ρ σ) ρ σ c H X x) {d:Option Nat} {t:TypeId} {y:VV×VSt×Nat} (hr:appV P d t S X σ c=some y) {v:Value} {H1:Heap} (hs:appendX P t s x H=some (v,H1)) :
  (∃ J,H1=H++J)∨∃ id o b f q J,σ id=some o∧o.sz≠0∧ρ id=some (b,f)∧H1=H.map (truncFam f q)++J:=by
 rw [qi1 (app_reb h hS hX hr)] at hs
 have main:∀ {el:TypeId} {size:Nat},sliceElem P t=some (el,size)→((bytesT P el).isSome∧(bytesT P el).getD 0≤maxA∧(zeros P el size 1).isSome)→(∃ p n m,s = .slice p n m)→(s = .slice none 0 0∨(∃ p m,x = .slice p 0 m)∨∃ id o b f bs,σ id=some o∧o.sz≠0∧ρ id=some (b,f)∧(∃ n sz,s=sliceA b 0 n sz)∧H[b]?=some (.cells f true bs)) →
   (∃ J,H1=H++J)∨∃ id o b f q J,σ id=some o∧o.sz≠0∧ρ id=some (b,f)∧H1=H.map (truncFam f q)++J:=by
  intro el size he hb hsl hcase
  rw [qje he hb] at hs
  split at hs
  ·rename_i news k hk hx
   split at hs
   ·split at hs
    ·injection hs with hs;injection hs with _ hs;subst hs;exact .inl ⟨[],by simp⟩
    ·cases hs
   ·rename_i hk0
    split at hs
    ·split at hs
     ·injection hs with hs;injection hs with _ hs;subst hs;exact .inl ⟨_,rfl⟩
     ·cases hs
    ·rename_i b0 n0 sz0
     split at hs
     ·rename_i fam cs hbk
      split at hs
      ·injection hs with hs;injection hs with _ hs;subst hs
       rcases hcase with e | ⟨p,m,e⟩ | ⟨id,o,b,f,bs,w1,w2,w3,⟨n,sz,w4⟩,w5⟩
       ·cases e
       ·injection e with _ e2 _
        exact absurd e2 hk0
       ·unfold sliceA at w4
        injection w4 with w4;injection w4 with w4;injection w4 with w4 _ _
        subst w4
        rw [w5] at hbk
        injection hbk with hbk;injection hbk with e1 _ _
        subst e1
        exact .inr ⟨id,o,_,f,_,_,w1,w2,w3,rfl⟩
      ·cases hs
     ·cases hs
    ·cases hs
  ·cases hs
 unfold appV at hr
 split at hr
 ·rename_i el size he
  split at hr
  ·rename_i hb
   obtain ⟨hz,hb⟩:=hb
   split at hr
   ·rename_i cs hrd
    obtain ⟨vs,p,m,rfl,e2,_,_⟩:=qfw h hX hrd hz
    rw [qje he hb] at hs
    simp only [e2,if_true] at hs
    split at hs
    ·injection hs with hs;injection hs with _ hs;subst hs;exact .inl ⟨[],by simp⟩
    ·cases hs
   ·split at hr
    ·obtain rfl:=qeu hS
     exact main he hb ⟨_,_,_,rfl⟩ (.inl rfl)
    ·rename_i id ver
     split at hr
     ·rename_i o hg
      obtain ⟨hzz,_,hown⟩:=qdl h hS hg
      rcases hown with ⟨_,_,_,rfl⟩ | ⟨b,f,bs,w1,rfl,w2,_⟩
      ·exact main he hb ⟨_,_,_,rfl⟩ (.inl rfl)
      ·exact main he hb ⟨_,_,_,rfl⟩ (.inr (.inr ⟨id,o,b,f,bs,(qck hg).1,by omega,w1,⟨_,_,rfl⟩,w2⟩))
     ·cases hr
    ·cases hr
   ·cases hr
  ·cases hr
 ·cases hr
theorem effJ {nt:Nat} (hc:CallsP ca call) {ops:Array Oper} {bef:Array Nat} {cl:Bool} {j:Nat} {Hs:Heap} {ρs:Rho} {σs:VSt} {cs:Nat} (hs0:VRl Z H0 ρs σs cs Hs) {ρ:Rho} {σ:VSt} {c:Nat} {H H1:Heap} {A:VF} {a:Fr} (h:VRl Z H0 ρ σ c H) (hf:FrR Z H0.length ρ σ c H A a) (ht:Tr Z H0.length ρs σs cs Hs ρ σ c H) (hB:OldB σs ρs Hs H)
  {o:Oper} (ho:operOk nt o=true) (hk:cls o.op = .eff) {r:VV} {σ1:VSt} {c1:Nat} (hst:stepV P call pol A o σ c=some (r,σ1,c1)) {v:Value} (q1:stepA P ca a o H=some (v,H1)) (hrd:okJ ops bef σs cl A j o=true):OldB σs ρs Hs H1∧H.length≤H1.length:=by
 unfold okJ at hrd
 rw [hk] at hrd
 obtain ⟨dst,op,type,pos,after,guard⟩:=o
 have hops:∀ x∈op.operands.toList,opndOk nt x=true:=by
  unfold operOk at ho
  rw [Bool.and_eq_true] at ho
  exact fun x hx=>List.all_eq_true.1 ho.1 x hx
 have hup:∀ {H1:Heap},Old H.length H H1→OldB σs ρs Hs H1:=fun {H1} hO id ob b f n1 n2 n3=>by
  have hobb:=hs0.obj id ob n1
  rw [n3] at hobb
  obtain ⟨_,_,bs2,k2,_⟩:=hobb
  have hlt:=qcz k2
  have k3:=hB id ob b f n1 n2 n3
  rw [k2] at k3
  rw [hO.2 b (qcz k3),hB id ob b f n1 n2 n3]
 cases op<;>simp only [Bool.false_eq_true] at hrd
 case call cl =>
  obtain ⟨callee,args,ats⟩:=cl
  cases callee with
  | invoke _=>simp only [Bool.false_eq_true] at hrd
  | value fo =>
    have hF:=qca hf (hops fo (by simp [Op.operands,Call.operands]))
    have hA:=qnq (nt:=nt) hf (l:=args.toList) fun x hx=>hops x (by simp [Op.operands,Call.operands];exact .inr (by simpa using hx))
    have hO:Old H.length H H1:=qsp hc h hF hA (show callV call pol dst (evV A fo) (args.toList.map (evV A)) σ c=some (r,σ1,c1) from hst) q1
    exact ⟨hup hO,hO.1⟩
  | builtin bi =>
    cases bi<;>simp only [Bool.false_eq_true] at hrd
    have hst':(match args.toList,ats.toList with
     | [s,x],[t,t']=>if t=t' then appV P dst t (evV A s) (evV A x) σ c else none
     | _,_=>none)=some (r,σ1,c1):=hst
    split at hst'
    ·rename_i s x t t' ea et
     split at hst'
     ·rename_i e
      subst e
      have hargs:args = #[s,x]:=by rw [← Array.toList_inj];simpa using ea
      have hats:ats = #[t,t]:=by rw [← Array.toList_inj];simpa using et
      subst hargs;subst hats
      have hxx:=qca hf (hops x (by simp [Op.operands,Call.operands]))
      have hss:=qca hf (hops s (by simp [Op.operands,Call.operands]))
      have q1':appendX P t (ev a s) (ev a x) H=some (v,H1):=by
       have:builtinA P a ⟨dst,.call ⟨.builtin .append,#[s,x],#[t,t]⟩,type,pos,after,guard⟩ .append [ev a s,ev a x] [t,t] H=some (v,H1):=q1
       simpa only [builtinA,if_true] using this
      rcases app_heap h hss hxx hst' q1' with ⟨J,rfl⟩ | ⟨id,o,b,f,q,J,w1,w2,w3,rfl⟩
      ·exact ⟨hup (Old.app H J),by simp⟩
      ·refine ⟨fun idb ob bb fb n1 n2 n3=>?_,by simp⟩
       have hobb:=hs0.obj idb ob n1
       rw [n3] at hobb
       obtain ⟨_,_,bs2,k2,_⟩:=hobb
       have k3:=hB idb ob bb fb n1 n2 n3
       rw [k2] at k3
       have hne:fb≠f:=by
        intro e;subst e
        rcases ht.fam id o b fb w1 w3 with ⟨o0,b0,z1,z2,z3⟩ | z
        ·have:=hs0.dist idb id ob o0 bb b0 fb n1 z1 n3 z2
         subst this
         rw [n1] at z1;injection z1 with z1;subst z1
         omega
        ·have:=hs0.wf bb fb true bs2 k2
         have:=qcz k2
         omega
       rw [List.getElem?_append_left (by rw [List.length_map];exact qcz k3),List.getElem?_map,k3,k2]
       simp only [Option.map_some,truncFam,if_neg hne]
     ·cases hst'
    ·cases hst'
 rename_i t x y
 have hx:=qca hf (hops x (by simp [Op.operands]))
 have q1':aexec P a ⟨dst,.store t x y,type,pos,after,guard⟩ H=some (v,H1):=q1
 simp only [aexec] at q1'
 cases hs:storeA P t (ev a x) (ev a y) H with
 | none=>rw [hs] at q1';cases q1'
 | some H2 =>
   rw [hs] at q1'
   injection q1' with q1';injection q1' with _ q1'
   subst q1'
   cases hA:evV A x with
   | ptr id ver i =>
     rw [hA] at hrd hx
     have hsv:(storeV P t σ (evV A x) (evV A y)).isSome=true:=by
      cases hq:storeV P t σ (evV A x) (evV A y) with
      | none =>
        have:((storeV P t σ (evV A x) (evV A y)).map fun σ'=>(VV.bad,σ',c))=some (r,σ1,c1):=hst
        rw [hq] at this;cases this
      | some _=>rfl
     have hgs:(getO σ id ver).isSome=true:=by
      cases hg:getO σ id ver with
      | some _=>rfl
      | none =>
        rw [hA] at hsv
        unfold storeV at hsv
        split at hsv
        ·rename_i e _ _
         injection e with e1 e2 e3
         subst e1;subst e2
         rw [hg] at hsv;cases hsv
        ·cases hsv
     refine ⟨storeJ hs0 h ht hB hx hrd hgs hs,?_⟩
     unfold storeA at hs
     split at hs
     ·split at hs
      ·exact Nat.le_of_eq (writeJ_len hs).symm
      ·cases hs
     ·cases hs
   | _=>rw [hA] at hrd;cases hrd
theorem qq3 {nt:Nat} (hc:CallsV ca call) {ops:Array Oper} {bef:Array Nat} {Hs:Heap} {ρs:Rho} {σs:VSt} {cs:Nat} (hs0:VRl Z H0 ρs σs cs Hs):∀ (os:List Oper) (j:Nat),ops.toList.drop j=os→(∀ o∈os,operOk nt o=true) →
  ∀ {cl:Bool} {ρ:Rho} {σ:VSt} {c:Nat} {H:Heap} {A:VF} {a:Fr} {Gs:List HpI} {rs:List RdI},VRl Z H0 ρ σ c H→FrR Z H0.length ρ σ c H A a→Tr Z H0.length ρs σs cs Hs ρ σ c H →
  ((∀ i,i < j→isEff (ops.getD i default)=false)→Old Hs.length Hs H)→(cl=true→H=Hs)→OldB σs ρs Hs H→Hs.length≤H.length →
  (∀ G∈Gs,OldB σs ρs Hs G.2∧(Old Hs.length Hs G.2∧G.1=none∨∃ e,G.1=some e∧e < ops.size∧isEff (ops.getD e default)=true)) →
  (∀ q∈rs,q.1 < ops.size∧(StillJ P σs ρs Hs q∨(Still P Hs q∧ordAll ops bef q.1=true))) →
  ∀ {A':VF} {σ':VSt} {c':Nat},evOpsVJ P call pol ops bef σs j cl os A σ c=some (A',σ',c') →
  ∃ a' H' ρ' Gs' rs',evOpsI P ca ops j os a H Gs rs=some (a',H',Gs',rs')∧VRl Z H0 ρ' σ' c' H'∧Tr Z H0.length ρ σ c H ρ' σ' c' H'∧FrR Z H0.length ρ' σ' c' H' A' a' ∧
    (∀ G∈Gs',∀ q∈rs',ordB bef G.1 q.1=false→stillReads P G.2 q.2.1 q.2.2.1 q.2.2.2=true):=by
 intro os
 induction os with
 | nil =>
   intro j hd _ cl ρ σ c H A a Gs rs h hf ht _ _ _ _ hG hq A' σ' c' hr
   simp only [evOpsVJ] at hr
   injection hr with hr;injection hr with e1 hr;injection hr with e2 e3
   subst e1;subst e2;subst e3
   refine ⟨a,H,ρ,Gs,rs,rfl,h,.refl ..,hf,fun G hGm q hqm ho=>?_⟩
   obtain ⟨g1,g2⟩:=hG G hGm
   obtain ⟨_,k | ⟨k1,k2⟩⟩:=hq q hqm
   ·exact k _ g1
   ·rcases g2 with ⟨g2,_⟩ | ⟨e,g2,g3,g4⟩
    ·exact k1 _ g2
    ·exfalso
     have:=List.all_eq_true.1 k2 e (List.mem_range.2 g3)
     rw [g4,Bool.not_true,Bool.false_or] at this
     rw [g2] at ho
     unfold ordB at ho
     simp only at ho
     rw [this] at ho
     cases ho
 | cons o os ih =>
   intro j hd ho cl ρ σ c H A a Gs rs h hf ht hOld hcl hB hlen hG hq A' σ' c' hr
   have hj:j < ops.size:=by
    apply Nat.lt_of_not_le
    intro hle
    rw [List.drop_eq_nil_of_le (by simpa using hle)] at hd
    cases hd
   have hoj:ops.getD j default=o:=by
    rw [List.drop_eq_getElem_cons (by simpa using hj)] at hd
    injection hd with hd _
    simp only [Array.getD,hj,dif_pos]
    rw [← hd];simp
   have hd2:ops.toList.drop (j+1)=os:=by
    rw [List.drop_eq_getElem_cons (by simpa using hj)] at hd
    injection hd
   have ho2:∀ o∈os,operOk nt o=true:=fun x hx=>ho x (by simp [hx])
   have hup:∀ {H1:Heap},Old H.length H H1→OldB σs ρs Hs H1:=fun {H1} hO id ob b f n1 n2 n3=>by
    have hobb:=hs0.obj id ob n1
    rw [n3] at hobb
    obtain ⟨_,_,bs2,k2,_⟩:=hobb
    have hlt:=qcz k2
    rw [hO.2 b (by omega),hB id ob b f n1 n2 n3]
   simp only [evOpsVJ] at hr
   split at hr
   ·rename_i hg
    have hw:=qep hf hg
    split at hr
    ·rename_i r σ1 c1 hst
     split at hr
     ·rename_i hrd
      obtain ⟨v,H1,ρ1,q1,q2,q3,q4,q5⟩:=qjf hc.noIP.v h hf (ho o (by simp)) hst
      have hfr:=(hf.tr q3).put q4 o.dst
      cases hk:cls o.op with
      | pure_ =>
        have eH:H=H1:=(pureP hk q1).symm
        subst eH
        have hne:isEff o=false:=by unfold isEff;rw [hk]
        obtain ⟨a',H',ρ',Gs',rs',w1,w2,w3,w4,w5⟩:=ih (j+1) hd2 ho2 (cl:=cl && cleanOp o.op) q2 hfr (ht.trans q3) (fun hh=>hOld fun i hi=>hh i (by omega)) (fun hh=>hcl (by rw [Bool.and_eq_true] at hh;exact hh.1)) hB hlen hG hq hr
        refine ⟨a',H',ρ',Gs',rs',?_,w2,q3.trans w3,w4,w5⟩
        rw [evOpsI,hw,qaf,q1]
        simp only [bindO,hk]
        exact w1
      | read =>
        have eH:H=H1:=(pureH hk q1).symm
        subst eH
        have hq2:StillJ P σs ρs Hs (j,a,o,v)∨(Still P Hs (j,a,o,v)∧ordAll ops bef j=true):=by
         unfold okJ at hrd
         rw [hk] at hrd
         simp only [Bool.or_eq_true,Bool.and_eq_true] at hrd
         rcases hrd with ⟨h1,h2⟩ | h1
         ·right
          refine ⟨still_of hs0 hf ht (hOld fun i hi=>?_) hcl (ho o (by simp)) hk hst q1 q5 h2,h1⟩
          cases hE:isEff (ops.getD i default) with
          | false=>rfl
          | true =>
            exfalso
            have:=List.all_eq_true.1 h1 i (List.mem_range.2 (by omega))
            rw [hE,Bool.not_true,Bool.false_or,Bool.and_eq_true,decide_eq_true_eq] at this
            omega
         ·left
          exact stillJ_of hs0 h hf ht hB (ho o (by simp)) hk hst q1 q5 h1
        obtain ⟨a',H',ρ',Gs',rs',w1,w2,w3,w4,w5⟩:=ih (j+1) hd2 ho2 (cl:=cl && cleanOp o.op) (rs:=(j,a,o,v)::rs) q2 hfr (ht.trans q3) (fun hh=>hOld fun i hi=>hh i (by omega)) (fun hh=>hcl (by rw [Bool.and_eq_true] at hh;exact hh.1)) hB hlen hG
         (fun q hqm=>by
          rcases List.mem_cons.1 hqm with rfl | hqm
          ·exact ⟨hj,hq2⟩
          ·exact hq q hqm) hr
        refine ⟨a',H',ρ',Gs',rs',?_,w2,q3.trans w3,w4,w5⟩
        rw [evOpsI,hw,qaf,q1]
        simp only [bindO,hk]
        exact w1
      | all_ =>
        have hOl:=allOld hk q1
        obtain ⟨a',H',ρ',Gs',rs',w1,w2,w3,w4,w5⟩:=ih (j+1) hd2 ho2 (cl:=cl && cleanOp o.op) q2 hfr (ht.trans q3) (fun hh=>by
         have h1:=hOld fun i hi=>hh i (by omega)
         exact h1.trans (hOl.mono h1.1)) (fun hh=>by
         rw [Bool.and_eq_true] at hh
         have:cleanOp o.op=false:=by unfold cleanOp;rw [hk]
         rw [this] at hh;cases hh.2) (hup hOl) (Nat.le_trans hlen hOl.1) hG hq hr
        refine ⟨a',H',ρ',Gs',rs',?_,w2,q3.trans w3,w4,w5⟩
        rw [evOpsI,hw,qaf,q1]
        simp only [bindO,hk]
        exact w1
      | eff =>
        have hE:isEff o=true:=by unfold isEff;rw [hk]
        have hBL:OldB σs ρs Hs H1∧H.length≤H1.length:=effJ hc.noIP hs0 h hf ht hB (ho o (by simp)) hk hst q1 hrd
        obtain ⟨a',H',ρ',Gs',rs',w1,w2,w3,w4,w5⟩:=ih (j+1) hd2 ho2 (cl:=cl && cleanOp o.op) (Gs:=(some j,H1)::Gs) q2 hfr (ht.trans q3) (fun hh=>by
          have:=hh j (by omega)
          rw [hoj,hE] at this;cases this) (fun hh=>by
          rw [Bool.and_eq_true] at hh
          have:cleanOp o.op=false:=by unfold cleanOp;rw [hk]
          rw [this] at hh;cases hh.2) hBL.1 (Nat.le_trans hlen hBL.2)
         (fun G hGm=>by
          rcases List.mem_cons.1 hGm with rfl | hGm
          ·exact ⟨hBL.1,.inr ⟨j,rfl,hj,by rw [hoj];exact hE⟩⟩
          ·exact hG G hGm) hq hr
        refine ⟨a',H',ρ',Gs',rs',?_,w2,q3.trans w3,w4,w5⟩
        rw [evOpsI,hw,qaf,q1]
        simp only [bindO,hk]
        exact w1
     ·cases hr
    ·cases hr
   ·rename_i hg
    have hw:=qep hf hg
    obtain ⟨a',H',ρ',Gs',rs',w1,w2,w3,w4,w5⟩:=ih (j+1) hd2 ho2 (cl:=cl) h (hf.put qiq o.dst) ht (fun hh=>hOld fun i hi=>hh i (by omega)) hcl hB hlen hG hq hr
    refine ⟨a',H',ρ',Gs',rs',?_,w2,w3,w4,w5⟩
    rw [evOpsI,hw,qar]
    exact w1
   ·cases hr
theorem qmm {nt k:Nat} (hc:CallsV ca call):∀ (x:Code),codeOk nt x=true→∀ {ρ:Rho} {σ:VSt} {c:Nat} {H:Heap} {A:VF} {a:Fr},VRl Z H0 ρ σ c H→FrR Z H0.length ρ σ c H A a→∀ {e:X} {A':VF} {σ':VSt} {c':Nat},evVC P call pol k x A σ c=some (e,A',σ',c') →
  ∃ a' H' ρ',evT P ca k nt none (fun id=>pol (1000000+id)) x a H=some (e,a',H')∧VRl Z H0 ρ' σ' c' H'∧Tr Z H0.length ρ σ c H ρ' σ' c' H'∧FrR Z H0.length ρ' σ' c' H' A' a':=by
 intro x
 induction x with
 | region id ops draw =>
   intro hok ρ σ c H A a h hf e A' σ' c' hs
   simp only [codeOk,Bool.and_eq_true] at hok
   have ho:∀ o∈ops.toList,operOk nt o=true:=fun o hm=>List.all_eq_true.1 hok.1 o hm
   simp only [evVC] at hs
   cases hdp:(draw && pol (1000000+id)) with
   | false =>
     rw [hdp,qar] at hs
     split at hs
     ·rename_i A1 σ1 c1 h1
      injection hs with hs;injection hs with e1 hs;injection hs with e2 hs;injection hs with e3 e4
      subst e1;subst e2;subst e3;subst e4
      obtain ⟨a',H',ρ',w1,w2,w3,w4,w5⟩:=ops_sound hc _ ho h hf h1
      refine ⟨a',H',ρ',?_,w3,w4,w5⟩
      cases draw with
      | false=>rw [es_region,w1];rfl
      | true =>
        rw [Bool.true_and] at hdp
        rw [qqs]
        show iteB (pol (1000000+id)) _ _=_
        rw [hdp,qar,w2];rfl
     ·cases hs
   | true =>
     rw [Bool.and_eq_true] at hdp
     obtain ⟨rfl,hp⟩:=hdp
     rw [show (true && pol (1000000+id))=true from by rw [hp];rfl,qaf] at hs
     cases hdr:drawI ops (Region.before ops) with
     | false =>
       rw [hdr,qar] at hs
       split at hs
       ·rename_i A1 σ1 c1 h1
        injection hs with hs;injection hs with e1 hs;injection hs with e2 hs;injection hs with e3 e4
        subst e1;subst e2;subst e3;subst e4
        obtain ⟨a',H',ρ',Gs',rs',w1,w2,w3,w4,w5⟩:=qq3 (bef:=Region.before ops) hc h ops.toList 0 rfl ho (Gs:=[(none,H)]) (rs:=[]) h hf (.refl ..) (fun _=>Old.refl _ _) (fun _=>rfl) OldB.refl (Nat.le_refl _) (fun G hG=>by rw [List.mem_singleton.1 hG];exact ⟨OldB.refl,.inl ⟨Old.refl _ _,rfl⟩⟩) (fun q hq=>by cases hq) h1
        refine ⟨a',H',ρ',?_,w2,w3,w4⟩
        have hH:=(qin _ _ _ _ _ _ _ _ _ _ w1).1 (none,H) (List.mem_cons_self ..)
        have hdw:=qsi (bef:=Region.before ops) w5 ops.toList 0 a H [(none,H)] [] [(none,H)] [] a' H' rfl (fun x hx=>by rw [List.mem_singleton.1 hx];exact ⟨hH,fun e he=>by cases he⟩) (fun p hp=>by cases hp) w1
        rw [qqs]
        show iteB (pol (1000000+id)) _ _=_
        rw [hp,qaf]
        rw [show (List.range ops.size).drop 0=List.range ops.size from rfl] at hdw
        rw [hdw];rfl
       ·cases hs
     | true =>
       rw [hdr,qaf] at hs
       split at hs
       ·rename_i A1 σ1 c1 h1
        injection hs with hs;injection hs with e1 hs;injection hs with e2 hs;injection hs with e3 e4
        subst e1;subst e2;subst e3;subst e4
        obtain ⟨a',H',ρ',Gs',rs',w1,w2,w3,w4,w5⟩:=qq1 hc hdr h ops.toList 0 rfl ho (Gs:=[(none,H)]) (rs:=[]) h hf (.refl ..) (fun _=>Old.refl _ _) (fun _=>rfl) (fun G hG=>by rw [List.mem_singleton.1 hG];exact .inl (Old.refl _ _)) (fun q hq=>by cases hq) h1
        refine ⟨a',H',ρ',?_,w2,w3,w4⟩
        have hH:=(qin _ _ _ _ _ _ _ _ _ _ w1).1 (none,H) (List.mem_cons_self ..)
        have hdw:=qsi (bef:=Region.before ops) w5 ops.toList 0 a H [(none,H)] [] [(none,H)] [] a' H' rfl (fun x hx=>by rw [List.mem_singleton.1 hx];exact ⟨hH,fun e he=>by cases he⟩) (fun p hp=>by cases hp) w1
        rw [qqs]
        show iteB (pol (1000000+id)) _ _=_
        rw [hp,qaf]
        rw [show (List.range ops.size).drop 0=List.range ops.size from rfl] at hdw
        rw [hdw];rfl
       ·cases hs
 | seq x y ihx ihy =>
   intro hok ρ σ c H A a h hf e A' σ' c' hs
   simp only [codeOk,Bool.and_eq_true] at hok
   simp only [evVC] at hs
   rw [es_seq]
   split at hs
   ·rename_i A1 σ1 c1 h1
    obtain ⟨a1,H1,ρ1,w1,w2,w3,w4⟩:=ihx hok.1 h hf h1
    obtain ⟨a',H',ρ',q1,q2,q3,q4⟩:=ihy hok.2 w2 w4 hs
    exact ⟨a',H',ρ',by rw [w1,qo3];exact q1,q2,w3.trans q3,q4⟩
   ·rename_i hn
    obtain ⟨a1,H1,ρ1,w1,w2,w3,w4⟩:=ihx hok.1 h hf hs
    refine ⟨a1,H1,ρ1,?_,w2,w3,w4⟩
    rw [w1]
    cases e with
    | normal=>exact absurd hs (hn _ _ _)
    | _=>rfl
 | cond b x y ihx ihy =>
   intro hok ρ σ c H A a h hf e A' σ' c' hs
   simp only [codeOk,Bool.and_eq_true] at hok
   simp only [evVC] at hs
   rw [es_cond]
   have hb:=qca hf hok.1.1
   split at hs
   ·rename_i e1
    rw [e1] at hb
    rw [(qdw hb).1,condX_true]
    exact ihx hok.1.2 h hf hs
   ·rename_i e1
    rw [e1] at hb
    rw [(qdw hb).1,qqr]
    exact ihy hok.2 h hf hs
   ·cases hs
 | block id x ih =>
   intro hok ρ σ c H A a h hf e A' σ' c' hs
   simp only [codeOk] at hok
   simp only [evVC] at hs
   rw [es_block]
   split at hs
   ·rename_i i A1 σ1 c1 h1
    obtain ⟨a1,H1,ρ1,w1,w2,w3,w4⟩:=ih hok h hf h1
    rw [w1,blkX_exit]
    split at hs
    ·rename_i hi
     injection hs with hs;injection hs with e1 hs;injection hs with e2 hs;injection hs with e3 e4
     subst e1;subst e2;subst e3;subst e4
     exact ⟨a1,H1,ρ1,by rw [if_pos hi],w2,w3,w4⟩
    ·rename_i hi
     injection hs with hs;injection hs with e1 hs;injection hs with e2 hs;injection hs with e3 e4
     subst e1;subst e2;subst e3;subst e4
     exact ⟨a1,H1,ρ1,by rw [if_neg hi],w2,w3,w4⟩
   ·rename_i hn
    obtain ⟨a1,H1,ρ1,w1,w2,w3,w4⟩:=ih hok h hf hs
    refine ⟨a1,H1,ρ1,?_,w2,w3,w4⟩
    rw [w1]
    cases e with
    | exit i=>exact absurd hs (hn _ _ _ _)
    | _=>rfl
 | loop x ih =>
   intro hok ρ σ c H A a h hf e A' σ' c' hs
   simp only [codeOk] at hok
   simp only [evVC] at hs
   rw [es_loop]
   have key:∀ (n:Nat) {ρ:Rho} {σ:VSt} {c:Nat} {H:Heap} {A:VF} {a:Fr},VRl Z H0 ρ σ c H→FrR Z H0.length ρ σ c H A a→loopV (evVC P call pol k x) n A σ c=some (e,A',σ',c') →
     ∃ a' H' ρ',loopN (evT P ca k nt none (fun id=>pol (1000000+id)) x) n a H=some (e,a',H')∧VRl Z H0 ρ' σ' c' H'∧Tr Z H0.length ρ σ c H ρ' σ' c' H'∧FrR Z H0.length ρ' σ' c' H' A' a':=by
    intro n
    induction n with
    | zero=>intro ρ σ c H A a _ _ hs;cases hs
    | succ n ihn =>
      intro ρ σ c H A a h hf hs
      simp only [loopV] at hs
      split at hs
      ·rename_i A1 σ1 c1 h1
       obtain ⟨a1,H1,ρ1,w1,w2,w3,w4⟩:=ih hok h hf h1
       obtain ⟨a',H',ρ',q1,q2,q3,q4⟩:=ihn w2 w4 hs
       exact ⟨a',H',ρ',by rw [loopN,w1];exact q1,q2,w3.trans q3,q4⟩
      ·rename_i hn
       obtain ⟨a1,H1,ρ1,w1,w2,w3,w4⟩:=ih hok h hf hs
       refine ⟨a1,H1,ρ1,?_,w2,w3,w4⟩
       rw [loopN,w1]
       cases e with
       | normal=>exact absurd hs (hn _ _ _)
       | _=>rfl
   exact key k h hf hs
 | skip=>intro _ ρ σ c H A a h hf e A' σ' c' hs;injection hs with hs;injection hs with e1 hs;injection hs with e2 hs;injection hs with e3 e4;subst e1;subst e2;subst e3;subst e4;exact ⟨a,H,ρ,rfl,h,.refl ..,hf⟩
 | label _=>intro _ ρ σ c H A a h hf e A' σ' c' hs;injection hs with hs;injection hs with e1 hs;injection hs with e2 hs;injection hs with e3 e4;subst e1;subst e2;subst e3;subst e4;exact ⟨a,H,ρ,rfl,h,.refl ..,hf⟩
 | exit id=>intro _ ρ σ c H A a h hf e A' σ' c' hs;injection hs with hs;injection hs with e1 hs;injection hs with e2 hs;injection hs with e3 e4;subst e1;subst e2;subst e3;subst e4;exact ⟨a,H,ρ,rfl,h,.refl ..,hf⟩
 | ret=>intro _ ρ σ c H A a h hf e A' σ' c' hs;injection hs with hs;injection hs with e1 hs;injection hs with e2 hs;injection hs with e3 e4;subst e1;subst e2;subst e3;subst e4;exact ⟨a,H,ρ,rfl,h,.refl ..,hf⟩
 | _=>intro _ ρ σ c H A a h hf e A' σ' c' hs;cases hs
theorem qsq {Y:Nat→Prop}:∀ {args:List VV} {vs:List Value},RepCL Y H args vs→∀ t,RepF Y ρ σ c H (frV args t) (frOf vs t):=by
 intro args
 induction args with
 | nil=>intro vs h t;simp only [RepCL] at h;subst h;exact qiq
 | cons A args ih =>
   intro vs h t
   simp only [RepCL] at h
   obtain ⟨w,ws,rfl,h1,h2⟩:=h
   cases t with
   | zero=>exact h1.toF
   | succ t=>exact ih h2 t
theorem qpf (h:VRl Z H0 ρ σ c H) {A:VF} {a:Fr} (hf:FrR Z H0.length ρ σ c H A a):∀ {rs:List ResultVar} {l:List VV},resV P σ A rs=some l→∃ vs,resList P a H rs=some vs∧RepCL (fun f=>Z f∨H0.length≤f) H l vs:=by
 have hk:KeepZ (ZZ Z H0.length ρ σ) (fun f=>Z f∨H0.length≤f) H H:=⟨fun _ _ _ _ z e=>⟨z.1,e⟩,fun _ _ e=>e⟩
 have hY:∀ id o b f,σ id=some o→ρ id=some (b,f)→(Z f∨H0.length≤f):=fun id o b f h1 h2=>.inr (h.blk h1 h2).2.1
 intro rs
 induction rs with
 | nil=>intro l hr;injection hr with hr;subst hr;exact ⟨[],rfl,by simp only [RepCL]⟩
 | cons r rs ih =>
   intro l hr
   cases r with
   | tmp t =>
     simp only [resV] at hr
     split at hr
     ·rename_i cs B r h1 h2 h3
      injection hr with hr;subst hr
      obtain ⟨ws,e1,e2⟩:=ih h3
      obtain ⟨us,e3,_⟩:=qha h (hf t) h1
      refine ⟨a t::ws,?_,?_⟩
      ·simp only [resList,e3,e1,Option.map_some]
      ·simp only [RepCL]
       exact ⟨_,_,rfl,qjc h hk (hf t) h2 (fun id _=>hY id),e2⟩
     ·cases hr
   | cell t ty =>
     simp only [resV] at hr
     split at hr
     ·rename_i B r h1 h3
      injection hr with hr;subst hr
      obtain ⟨ws,e1,e2⟩:=ih h3
      cases hl:loadV P ty σ (A t) with
      | none=>rw [hl] at h1;cases h1
      | some C =>
        rw [hl] at h1
        simp only [Option.bind_some] at h1
        obtain ⟨u,e3,e4,_⟩:=qmi h (hf t) hl
        refine ⟨u::ws,?_,?_⟩
        ·simp only [resList,e3,e1]
        ·simp only [RepCL]
         exact ⟨_,_,rfl,qjc h hk e4 h1 (fun id _=>hY id),e2⟩
     ·cases hr
theorem qlj {Y:Nat→Prop} {l:List VV} {vs:List Value} (h:RepCL Y H l vs):RepC Y H (packV l) (pack vs):=by
 match l,h with
 | [],h=>simp only [RepCL] at h;subst h;simp only [packV,pack,RepC];exact ⟨[],rfl,by simp only [RepCL]⟩
 | [A],h =>
   simp only [RepCL] at h
   obtain ⟨w,ws,rfl,h1,rfl⟩:=h
   exact h1
 | A::B::l,h =>
   have hl:=h.length
   match vs,hl with
   | u::v::vs,_ =>
     simp only [packV,pack,RepC]
     exact ⟨_,rfl,h⟩
theorem qsr {n g:Nat} {fn:Func} {x:Code} (hc:CallsV ca call) (hfn:P.funcs[g]?=some fn) (hb:fn.body=some x) (hok:funcOk fn x=true) (hd:drawsOk (fun id=>pol (1000000+id)) x=true) {args:List VV} (hl:args.length≤fn.ntmps) {r:VV} {fresh:Bool}
  (hr:finV P fn.results.toList (evVC P call pol n x (frV args) (fun _=>none) 0)=some (r,fresh)):AnsAt (evBody P ca n) g args r fresh:=by
 intro Z H vs hw hA
 have hcode:codeOk fn.ntmps x=true:=by unfold funcOk at hok;simp only [Bool.and_eq_true] at hok;exact hok.1.1
 rw [body_runS hfn hb hok (by rw [← hA.length];exact hl) hd]
 have h0:VRl Z H (fun _=>none) (fun _=>none) 0 H:=⟨hw,Old.refl _ _,fun _ _ e=>(by cases e),fun _ _ e=>(by cases e),fun _ _ _ _ _ _ _ e=>(by cases e)⟩
 have hf0:FrR Z H.length (fun _=>none) (fun _=>none) 0 H (frV args) (frOf vs):=by
  intro t
  refine qsq (RepCL.keep ⟨fun b f w bs z e=>⟨⟨.inl z,fun id o b g e1=>(by cases e1)⟩,e⟩,fun _ _ e=>e⟩ _ _ hA) t
 have key:∀ {e A' σ' c'},evVC P call pol n x (frV args) (fun _=>none) 0=some (e,A',σ',c')→(resV P σ' A' fn.results.toList).map (fun vs=>(packV vs,freshV A' fn.results.toList))=some (r,fresh)→(e = .normal∨e = .ret) →
   ∃ v H',finB P fn.results.toList (evT P ca n fn.ntmps none (fun id=>pol (1000000+id)) x (frOf vs) H)=some (v,H')∧RepC (fun f=>Z f∨H.length≤f) H' r v∧Old H.length H H'∧WF H'∧(fresh=true→∀ n sz cs,r = .fz n sz cs→OwnR H.length Z H' v n sz cs):=by
  intro e A' σ' c' h1 h2 he
  obtain ⟨a',H',ρ',w1,w2,w3,w4⟩:=qmm hc x hcode h0 hf0 h1
  cases hres:resV P σ' A' fn.results.toList with
  | none=>rw [hres] at h2;cases h2
  | some l =>
    rw [hres] at h2
    injection h2 with h2;injection h2 with e1 e2
    subst e1;subst e2
    obtain ⟨us,e3,e4⟩:=qpf (P:=P) w2 w4 hres
    refine ⟨pack us,H',?_,qlj e4,w2.old,w2.wf,fun hfr m sz cs hm=>?_⟩
    ·rw [w1]
     rcases he with rfl | rfl
     ·rw [fin_n,e3];rfl
     ·rw [fin_r,e3];rfl
    ·unfold freshV at hfr
     split at hfr
     ·rename_i t ht
      rw [ht] at hres e3
      split at hfr
      ·rename_i id ver hA'
       simp only [resV,hA'] at hres
       split at hres
       ·rename_i q1 q2 q3 h3 h4 h5
        injection hres with hres;subst hres
        injection h5 with h5;subst h5
        simp only [packV] at hm
        subst hm
        simp only [peek,peek1] at h4
        split at h4
        ·rename_i o hg
         split at h4
         ·cases h4
         ·injection h4 with h4
          injection h4 with m1 m2 m3
          subst m1;subst m2;subst m3
          have hX:=w4 t
          rw [hA'] at hX
          obtain ⟨hz,hlen,hown⟩:=qdl w2 hX hg
          have e5:us=[a' t]:=by
           simp only [resList] at e3
           cases hsc:scal (a' t) with
           | none=>rw [hsc] at e3;cases e3
           | some _=>rw [hsc] at e3;simp only [Option.map_some] at e3;injection e3 with e3;exact e3.symm
          subst e5
          show OwnR H.length Z H' (a' t) o.n o.sz o.cs
          rcases hown with ⟨_,hn,hcs,e6⟩ | ⟨b,f,bs,hρ,e6,hb,hbl,hrep⟩
          ·exact .inl ⟨hn,hcs,e6⟩
          ·obtain ⟨ho,_⟩:=qck hg
           have hbk:=w2.blk ho hρ
           exact .inr ⟨b,f,bs,e6,hbk.1,hbk.2.1,hb,hlen,hbl,RepCL.keep ⟨fun b' f' w bs' z e=>⟨⟨z.1,z.2 id o b f ho hρ⟩,e⟩,fun _ _ e=>e⟩ _ _ hrep⟩
        ·cases h4
       ·cases hres
      ·cases hfr
     ·cases hfr
 cases he:evVC P call pol n x (frV args) (fun _=>none) 0 with
 | none=>rw [he] at hr;cases hr
 | some q =>
   obtain ⟨e,A',σ',c'⟩:=q
   rw [he] at hr
   cases e with
   | normal=>exact key he hr (.inl rfl)
   | ret=>exact key he hr (.inr rfl)
   | exit i=>cases hr
end
end Go.Abs
namespace Go.Abs
abbrev St3:=VV×VSt×Nat
def bindS {α:Type} (x:Option St3) (k:VV→VSt→Nat→Option α):Option α:=match x with
 | some (r,σ,c)=>k r σ c
 | none=>none
def bindG {α:Type} (x:Option (VF×VSt×Nat)) (k:VF→VSt→Nat→Option α):Option α:=match x with
 | some (a,σ,c)=>k a σ c
 | none=>none
abbrev XS:=X×VF×VSt×Nat
def bindC (x:Option XS) (k:VF→VSt→Nat→Option XS):Option XS:=match x with
 | some (.normal,a,σ,c)=>k a σ c
 | r=>r
def blkC (id:Nat) (x:Option XS):Option XS:=match x with
 | some (.exit i,a,σ,c)=>if i=id then some (.normal,a,σ,c) else some (.exit i,a,σ,c)
 | r=>r
def condV {α:Type} (v:VV) (x y:Option α):Option α:=match v with
 | .sc (.bool true)=>x
 | .sc (.bool false)=>y
 | _=>none
def grdV {α:Type} (x:Option Bool) (k m:Option α):Option α:=match x with
 | some true=>k
 | some false=>m
 | none=>none
def pickV (v:VV) (x y:VV) (σ:VSt) (c:Nat):Option St3:=match v with
 | .sc (.bool true)=>some (x,σ,c)
 | .sc (.bool false)=>some (y,σ,c)
 | _=>none
theorem qba {α:Type} {x x':Option St3} {k:VV→VSt→Nat→Option α} (h:x=x'):bindS x k=bindS x' k:=by rw [h]
theorem qbb {α:Type} {x x':Option (VF×VSt×Nat)} {k:VF→VSt→Nat→Option α} (h:x=x'):bindG x k=bindG x' k:=by rw [h]
theorem qbc {x x':Option XS} {k:VF→VSt→Nat→Option XS} (h:x=x'):bindC x k=bindC x' k:=by rw [h]
theorem qbd {α:Type} {v v':VV} {x y:Option α} (h:v=v'):condV v x y=condV v' x y:=by rw [h]
theorem qbn {α:Type} {v v':Option Bool} {x y:Option α} (h:v=v'):grdV v x y=grdV v' x y:=by rw [h]
theorem qbe {v v' x y:VV} {σ:VSt} {c:Nat} (h:v=v'):pickV v x y σ c=pickV v' x y σ c:=by rw [h]
section
variable {α:Type} {a:VF} {σ:VSt} {c:Nat} {i j:Nat}
theorem qaa {r:VV} {k:VV→VSt→Nat→Option α}:bindS (some (r,σ,c)) k=k r σ c:=(rfl)
theorem qab {k:VF→VSt→Nat→Option α}:bindG (some (a,σ,c)) k=k a σ c:=(rfl)
theorem qac {k:VF→VSt→Nat→Option XS}:bindC (some (.normal,a,σ,c)) k=k a σ c:=(rfl)
theorem qb0 {k:VF→VSt→Nat→Option XS}:bindC (some (.exit i,a,σ,c)) k=some (.exit i,a,σ,c):=(rfl)
theorem qaz {k:VF→VSt→Nat→Option XS}:bindC (some (.ret,a,σ,c)) k=some (.ret,a,σ,c):=(rfl)
theorem qcu:blkC i (some (.normal,a,σ,c))=some (.normal,a,σ,c):=(rfl)
theorem qdx:blkC i (some (.ret,a,σ,c))=some (.ret,a,σ,c):=(rfl)
theorem qdp:blkC i (some (.exit j,a,σ,c))=if j=i then some (.normal,a,σ,c) else some (.exit j,a,σ,c):=(rfl)
theorem qam {x y:Option α}:condV (.sc (.bool true)) x y=x:=(rfl)
theorem qan {x y:Option α}:condV (.sc (.bool false)) x y=y:=(rfl)
theorem qcr {x y:Option α}:grdV (some true) x y=x:=(rfl)
theorem qdq {x y:Option α}:grdV (some false) x y=y:=(rfl)
theorem qcw {x y:VV}:pickV (.sc (.bool true)) x y σ c=some (x,σ,c):=(rfl)
theorem qcb {x y:VV}:pickV (.sc (.bool false)) x y σ c=some (y,σ,c):=(rfl)
end
section
variable {P:Program} {call:VCall} {pol:Nat→Bool} {ops:Array Oper} {a:VF} {σ:VSt} {c:Nat} {k:Nat}
variable {d:Option Nat} {op:Op} {ty:TypeId} {pos:String} {aft:Array Edge} {os:List Oper} {g:Option (Nat×Bool)}
theorem qaw:evOpsVV P call pol ops [] a σ c=some (a,σ,c):=(rfl)
theorem qao:evOpsVV P call pol ops (⟨d,op,ty,pos,aft,none⟩::os) a σ c=bindS (stepV P call pol a ⟨d,op,ty,pos,aft,none⟩ σ c) fun r σ' c'=>evOpsVV P call pol ops os (putV a d r) σ' c':=by
 simp only [evOpsVV,guardV]
 unfold bindS
 cases stepV P call pol a ⟨d,op,ty,pos,aft,none⟩ σ c with
 | none=>rfl
 | some q=>rfl
def guardS (o:Option Oper) (a:VF) (w:Bool):Option Bool:=match o.bind (·.dst) with
 | some t=>match a t with
   | .sc (.bool b)=>some (b == w)
   | .tup []=>some false
   | _=>none
 | none=>none
def gdV (v:VV) (w:Bool):Option Bool:=match v with
 | .sc (.bool b)=>some (b == w)
 | .tup []=>some false
 | _=>none
theorem qbj {t:Nat} {w:Bool}:guardS (some ⟨some t,op,ty,pos,aft,g⟩) a w=gdV (a t) w:=(rfl)
theorem gdV_b {b w:Bool}:gdV (.sc (.bool b)) w=some (b == w):=(rfl)
theorem qce {j:Nat} {w:Bool}:evOpsVV P call pol ops (⟨d,op,ty,pos,aft,some (j,w)⟩::os) a σ c=grdV (guardS ops[j]? a w) (bindS (stepV P call pol a ⟨d,op,ty,pos,aft,some (j,w)⟩ σ c) fun r σ' c'=>evOpsVV P call pol ops os (putV a d r) σ' c') (evOpsVV P call pol ops os (putV a d (.tup [])) σ c):=by
 have e:guardV ops a ⟨d,op,ty,pos,aft,some (j,w)⟩=guardS ops[j]? a w:=by
  rfl
 simp only [evOpsVV,e]
 unfold grdV bindS
 cases guardS ops[j]? a w with
 | none=>rfl
 | some b =>
   cases b with
   | false=>rfl
   | true =>
     cases stepV P call pol a ⟨d,op,ty,pos,aft,some (j,w)⟩ σ c with
     | none=>rfl
     | some q=>rfl
theorem qah {id:Nat}:evVC P call pol k (.region id ops false) a σ c=bindG (evOpsVV P call pol ops ops.toList a σ c) fun a' σ' c'=>some (.normal,a',σ',c'):=by
 simp only [evVC,Bool.false_and,qar]
 unfold bindG
 cases evOpsVV P call pol ops ops.toList a σ c<;>rfl
theorem qc4 {id:Nat}:evVC P call pol k (.region id ops true) a σ c=iteB (pol (1000000+id)) (iteB (drawI ops (Region.before ops)) (bindG (evOpsVI P call pol ops σ true ops.toList a σ c) fun a' σ' c'=>some (.normal,a',σ',c')) (bindG (evOpsVJ P call pol ops (Region.before ops) σ 0 true ops.toList a σ c) fun a' σ' c'=>some (.normal,a',σ',c'))) (bindG (evOpsVV P call pol ops ops.toList a σ c) fun a' σ' c'=>some (.normal,a',σ',c')):=by
 simp only [evVC,Bool.true_and]
 cases pol (1000000+id) with
 | false =>
   simp only [qar]
   unfold bindG
   cases evOpsVV P call pol ops ops.toList a σ c<;>rfl
 | true =>
   simp only [qaf]
   cases drawI ops (Region.before ops) with
   | false =>
     simp only [qar]
     unfold bindG
     cases evOpsVJ P call pol ops (Region.before ops) σ 0 true ops.toList a σ c<;>rfl
   | true =>
     simp only [qaf]
     unfold bindG
     cases evOpsVI P call pol ops σ true ops.toList a σ c<;>rfl
def rdC (x:Bool) (k:Option (VF×VSt×Nat)):Option (VF×VSt×Nat):=match x with
 | true=>k
 | false=>none
theorem qb7 {x x':Bool} {k:Option (VF×VSt×Nat)} (h:x=x'):rdC x k=rdC x' k:=by rw [h]
theorem rdC_t {k:Option (VF×VSt×Nat)}:rdC true k=k:=(rfl)
theorem qe7 {cl:Bool} {σ0:VSt}:evOpsVI P call pol ops σ0 cl [] a σ c=some (a,σ,c):=(rfl)
theorem qef {cl:Bool} {σ0:VSt}:evOpsVI P call pol ops σ0 cl (⟨d,op,ty,pos,aft,none⟩::os) a σ c=bindS (stepV P (noIP call) pol a ⟨d,op,ty,pos,aft,none⟩ σ c) fun r σ' c'=>rdC (readOk σ0 cl a ⟨d,op,ty,pos,aft,none⟩) (evOpsVI P call pol ops σ0 (cl && cleanOp op) os (putV a d r) σ' c'):=by
 simp only [evOpsVI,guardV]
 unfold bindS rdC
 cases stepV P (noIP call) pol a ⟨d,op,ty,pos,aft,none⟩ σ c with
 | none=>rfl
 | some q =>
   obtain ⟨r,σ',c'⟩:=q
   simp only
   cases readOk σ0 cl a ⟨d,op,ty,pos,aft,none⟩<;>rfl
theorem vi_consG {cl:Bool} {σ0:VSt} {j:Nat} {w:Bool}:evOpsVI P call pol ops σ0 cl (⟨d,op,ty,pos,aft,some (j,w)⟩::os) a σ c=grdV (guardS ops[j]? a w) (bindS (stepV P (noIP call) pol a ⟨d,op,ty,pos,aft,some (j,w)⟩ σ c) fun r σ' c'=>rdC (readOk σ0 cl a ⟨d,op,ty,pos,aft,some (j,w)⟩) (evOpsVI P call pol ops σ0 (cl && cleanOp op) os (putV a d r) σ' c')) (evOpsVI P call pol ops σ0 cl os (putV a d (.tup [])) σ c):=by
 have e:guardV ops a ⟨d,op,ty,pos,aft,some (j,w)⟩=guardS ops[j]? a w:=by
  unfold guardV guardS
  rfl
 simp only [evOpsVI,e]
 unfold grdV bindS rdC
 cases guardS ops[j]? a w with
 | none=>rfl
 | some b =>
   cases b with
   | false=>rfl
   | true =>
     cases stepV P (noIP call) pol a ⟨d,op,ty,pos,aft,some (j,w)⟩ σ c with
     | none=>rfl
     | some q =>
       obtain ⟨r,σ',c'⟩:=q
       simp only
       cases readOk σ0 cl a ⟨d,op,ty,pos,aft,some (j,w)⟩<;>rfl
theorem vj_nil {cl:Bool} {σ0:VSt} {bef:Array Nat} {jj:Nat}:evOpsVJ P call pol ops bef σ0 jj cl [] a σ c=some (a,σ,c):=(rfl)
theorem vj_cons {cl:Bool} {σ0:VSt} {bef:Array Nat} {jj:Nat}:evOpsVJ P call pol ops bef σ0 jj cl (⟨d,op,ty,pos,aft,none⟩::os) a σ c=bindS (stepV P (noIP call) pol a ⟨d,op,ty,pos,aft,none⟩ σ c) fun r σ' c'=>rdC (okJ ops bef σ0 cl a jj ⟨d,op,ty,pos,aft,none⟩) (evOpsVJ P call pol ops bef σ0 (jj+1) (cl && cleanOp op) os (putV a d r) σ' c'):=by
 simp only [evOpsVJ,guardV]
 unfold bindS rdC
 cases stepV P (noIP call) pol a ⟨d,op,ty,pos,aft,none⟩ σ c with
 | none=>rfl
 | some q =>
   obtain ⟨r,σ',c'⟩:=q
   simp only
   cases okJ ops bef σ0 cl a jj ⟨d,op,ty,pos,aft,none⟩<;>rfl
section
variable {σ0:VSt} {cl:Bool}
theorem qhu {x:Operand}:readOk σ0 cl a ⟨d,.move x,ty,pos,aft,g⟩=true:=(rfl)
theorem qfx {x:Operand}:readOk σ0 cl a ⟨d,.assign x,ty,pos,aft,g⟩=true:=(rfl)
theorem ro_pick {b x y:Operand}:readOk σ0 cl a ⟨d,.pick b x y,ty,pos,aft,g⟩=true:=(rfl)
theorem ro_bin {op:BinOp} {t t':TypeId} {x y:Operand}:readOk σ0 cl a ⟨d,.binOp op t x y t',ty,pos,aft,g⟩=true:=(rfl)
theorem ro_un {op:UnOp} {t:TypeId} {x:Operand}:readOk σ0 cl a ⟨d,.unOp op t x,ty,pos,aft,g⟩=true:=(rfl)
theorem qir {t:TypeId} {x:Array (Nat×Operand)}:readOk σ0 cl a ⟨d,.build t x,ty,pos,aft,g⟩=true:=(rfl)
theorem qfe {t:TypeId} {x y:Operand}:readOk σ0 cl a ⟨d,.store t x y,ty,pos,aft,g⟩=true:=(rfl)
theorem qss {t:TypeId}:readOk σ0 cl a ⟨d,.alloc t,ty,pos,aft,g⟩=true:=(rfl)
theorem ro_make {t:TypeId} {x y:Operand}:readOk σ0 cl a ⟨d,.makeSlice t x y,ty,pos,aft,g⟩=true:=(rfl)
theorem ro_slice {t:TypeId} {x:Operand} {l h m:Option Operand}:readOk σ0 cl a ⟨d,.slice t x l h m,ty,pos,aft,g⟩=true:=(rfl)
theorem qhb {t:TypeId} {x:Operand} {i:Nat}:readOk σ0 cl a ⟨d,.fieldAddr t x i,ty,pos,aft,g⟩=true:=(rfl)
theorem qhv {t:TypeId} {x i:Operand}:readOk σ0 cl a ⟨d,.indexAddr t x i,ty,pos,aft,g⟩=true:=(rfl)
theorem ro_index {t:TypeId} {x i:Operand}:readOk σ0 cl a ⟨d,.index t x i,ty,pos,aft,g⟩=true:=(rfl)
theorem ro_ext {x:Operand} {i:Nat}:readOk σ0 cl a ⟨d,.extract x i,ty,pos,aft,g⟩=true:=(rfl)
theorem qf7 {cc:Call}:readOk σ0 cl a ⟨d,.call cc,ty,pos,aft,g⟩=true:=by
 unfold readOk
 have h:cls (.call cc)≠.read:=by
  obtain ⟨callee,args,ts⟩:=cc
  cases callee with
  | builtin b=>cases b<;>simp [cls]
  | _=>simp [cls]
 revert h
 simp only
 cases cls (.call cc)<;>intro h<;>first | rfl | exact absurd rfl h
def isCur (σ0:VSt) (v:VV):Bool:=match v with
 | .ptr id ver _=>(getO σ0 id ver).isSome
 | _=>false
theorem qc8 {id ver i:Nat}:isCur σ0 (.ptr id ver i)=(getO σ0 id ver).isSome:=(rfl)
theorem qeb {t:TypeId} {x:Operand}:readOk σ0 cl a ⟨d,.load t x,ty,pos,aft,g⟩=(cl || isCur σ0 (evV a x)):=(rfl)
theorem oj_assign {x:Operand} {bef:Array Nat} {jj:Nat}:okJ ops bef σ0 cl a jj ⟨d,.assign x,ty,pos,aft,g⟩=true:=(rfl)
theorem oj_faddr {t:TypeId} {x:Operand} {i:Nat} {bef:Array Nat} {jj:Nat}:okJ ops bef σ0 cl a jj ⟨d,.fieldAddr t x i,ty,pos,aft,g⟩=true:=(rfl)
theorem oj_load {t:TypeId} {x:Operand} {bef:Array Nat} {jj:Nat}:okJ ops bef σ0 cl a jj ⟨d,.load t x,ty,pos,aft,g⟩=((ordAll ops bef jj && readOk σ0 cl a ⟨d,.load t x,ty,pos,aft,g⟩) || boxOf σ0 (evV a x)):=(rfl)
theorem oj_callF {f:Operand} {ays:Array Operand} {ts:Array TypeId} {bef:Array Nat} {jj:Nat}:okJ ops bef σ0 cl a jj ⟨d,.call { callee:=.value f,args:=ays,argTypes:=ts },ty,pos,aft,g⟩=true:=(rfl)
theorem oj_app {ays:Array Operand} {ts:Array TypeId} {bef:Array Nat} {jj:Nat}:okJ ops bef σ0 cl a jj ⟨d,.call { callee:=.builtin .append,args:=ays,argTypes:=ts },ty,pos,aft,g⟩=true:=(rfl)
def szIs (o:Option Ob) (b:Bool):Bool:=match o with
 | some o=>if b then o.sz == 0 else o.sz != 0
 | none=>false
theorem boxOf_ptr {id ver i:Nat}:boxOf σ0 (.ptr id ver i)=szIs (getO σ0 id ver) true:=by
 show (match getO σ0 id ver with | some o=>o.sz == 0 | none=>false)=_
 unfold szIs
 cases getO σ0 id ver<;>rfl
theorem szIs_t {o:Ob}:szIs (some o) true=(o.sz == 0):=(rfl)
end
theorem qhw {x:Operand}:cleanOp (.move x)=true:=(rfl)
theorem qe8 {x:Operand}:cleanOp (.assign x)=true:=(rfl)
theorem co_pick {b x y:Operand}:cleanOp (.pick b x y)=true:=(rfl)
theorem co_bin {op:BinOp} {t t':TypeId} {x y:Operand}:cleanOp (.binOp op t x y t')=true:=(rfl)
theorem co_un {op:UnOp} {t:TypeId} {x:Operand}:cleanOp (.unOp op t x)=true:=(rfl)
theorem qis {t:TypeId} {x:Array (Nat×Operand)}:cleanOp (.build t x)=true:=(rfl)
theorem qec {t:TypeId} {x:Operand}:cleanOp (.load t x)=true:=(rfl)
theorem qf8 {t:TypeId} {x:Operand} {i:Nat}:cleanOp (.fieldAddr t x i)=true:=(rfl)
theorem qhx {t:TypeId} {x i:Operand}:cleanOp (.indexAddr t x i)=true:=(rfl)
theorem co_index {t:TypeId} {x i:Operand}:cleanOp (.index t x i)=true:=(rfl)
theorem co_ext {x:Operand} {i:Nat}:cleanOp (.extract x i)=true:=(rfl)
theorem co_slice {t:TypeId} {x:Operand} {l h m:Option Operand}:cleanOp (.slice t x l h m)=true:=(rfl)
theorem qes {f:Operand} {ays:Array Operand} {ts:Array TypeId}:cleanOp (.call { callee:=.value f,args:=ays,argTypes:=ts })=false:=(rfl)
theorem co_len {ays:Array Operand} {ts:Array TypeId}:cleanOp (.call { callee:=.builtin .len,args:=ays,argTypes:=ts })=true:=(rfl)
theorem co_app {ays:Array Operand} {ts:Array TypeId}:cleanOp (.call { callee:=.builtin .append,args:=ays,argTypes:=ts })=false:=(rfl)
theorem qff {t:TypeId} {x y:Operand}:cleanOp (.store t x y)=false:=(rfl)
theorem qst {t:TypeId}:cleanOp (.alloc t)=false:=(rfl)
theorem co_make {t:TypeId} {x y:Operand}:cleanOp (.makeSlice t x y)=false:=(rfl)
theorem qax {x y:Code}:evVC P call pol k (.seq x y) a σ c=bindC (evVC P call pol k x a σ c) fun a' σ' c'=>evVC P call pol k y a' σ' c':=by
 simp only [evVC]
 unfold bindC
 rfl
theorem qau {b:Operand} {x y:Code}:evVC P call pol k (.cond b x y) a σ c=condV (evV a b) (evVC P call pol k x a σ c) (evVC P call pol k y a σ c):=by
 simp only [evVC]
 unfold condV
 rfl
theorem qay {id:Nat} {x:Code}:evVC P call pol k (.block id x) a σ c=blkC id (evVC P call pol k x a σ c):=by
 simp only [evVC]
 unfold blkC
 rfl
theorem qdj {x:Code}:evVC P call pol k (.loop x) a σ c=loopV (evVC P call pol k x) k a σ c:=(rfl)
theorem qa7:evVC P call pol k .skip a σ c=some (.normal,a,σ,c):=(rfl)
theorem qda {i:Nat}:evVC P call pol k (.exit i) a σ c=some (.exit i,a,σ,c):=(rfl)
theorem qbv:evVC P call pol k .ret a σ c=some (.ret,a,σ,c):=(rfl)
theorem qat {x:Operand}:stepV P call pol a ⟨d,.move x,ty,pos,aft,g⟩ σ c=some (evV a x,σ,c):=(rfl)
theorem qal {x:Operand}:stepV P call pol a ⟨d,.assign x,ty,pos,aft,g⟩ σ c=some (evV a x,σ,c):=(rfl)
theorem qcx {b x y:Operand}:stepV P call pol a ⟨d,.pick b x y,ty,pos,aft,g⟩ σ c=pickV (evV a b) (evV a x) (evV a y) σ c:=by
 unfold pickV
 show (match evV a b with
  | .sc (.bool t)=>some (if t then evV a x else evV a y,σ,c)
  | _=>none)=_
 split
 ·rename_i t e;rw [e];cases t<;>rfl
 ·rename_i hn
  split
  ·rename_i e;exact absurd e (hn _)
  ·rename_i e;exact absurd e (hn _)
  ·rfl
theorem qdy {t:TypeId} {z:List VV} (hz:zeroV P t=some z):stepV P call pol a ⟨d,.alloc t,ty,pos,aft,g⟩ σ c=mkBox d z σ c:=by
 show (match zeroV P t with | some z=>mkBox d z σ c | none=>none)=_
 rw [hz]
def boxV (d:Option Nat) (x:Option (List VV)) (σ:VSt) (c:Nat):Option St3:=match x with
 | some cs=>mkBox d cs σ c
 | none=>none
theorem qcv {t:TypeId} {x:Operand}:stepV P call pol a ⟨d,.box t x,ty,pos,aft,g⟩ σ c=boxV d (scalV σ (evV a x)) σ c:=(rfl)
theorem qex {t:TypeId} {parts:Array (Nat×Operand)}:stepV P call pol a ⟨d,.build t parts,ty,pos,aft,g⟩ σ c=rtV (buildV P σ t (parts.toList.map fun p=>(p.1,evV a p.2))) σ c:=(rfl)
theorem qc0 {t:TypeId} {len:Nat} {parts:Array (Nat×Operand)}:stepV P call pol a ⟨d,.buildSlice t len parts,ty,pos,aft,g⟩ σ c=buildSliceV P pol d t len (parts.toList.map fun p=>(p.1,evV a p.2)) σ c:=(rfl)
theorem qa4 {t:TypeId} {x:Operand}:stepV P call pol a ⟨d,.load t x,ty,pos,aft,g⟩ σ c=rtV (loadV P t σ (evV a x)) σ c:=(rfl)
def stoV (x:Option VSt) (c:Nat):Option St3:=match x with
 | some σ'=>some (.bad,σ',c)
 | none=>none
theorem qc1 {t:TypeId} {x y:Operand}:stepV P call pol a ⟨d,.store t x y,ty,pos,aft,g⟩ σ c=stoV (storeV P t σ (evV a x) (evV a y)) c:=by
 show (storeV P t σ (evV a x) (evV a y)).map (fun σ'=>(VV.bad,σ',c))=_
 unfold stoV
 cases storeV P t σ (evV a x) (evV a y)<;>rfl
theorem qhy {t:TypeId} {l m:Operand}:stepV P call pol a ⟨d,.makeSlice t l m,ty,pos,aft,g⟩ σ c=makeV P d t (evV a l) (evV a m) σ c:=(rfl)
theorem vs_slice {t:TypeId} {x:Operand} {lo hi:Option Operand}:stepV P call pol a ⟨d,.slice t x lo hi none,ty,pos,aft,g⟩ σ c=sliceV P pol d t (evV a x) (lo.map (evV a)) (hi.map (evV a)) σ c:=(rfl)
theorem qcl {t:TypeId} {x:Operand} {i:Nat}:stepV P call pol a ⟨d,.fieldAddr t x i,ty,pos,aft,g⟩ σ c=rtV (fieldAddrV P t σ (evV a x) i) σ c:=(rfl)
theorem qcd {t:TypeId} {x i:Operand}:stepV P call pol a ⟨d,.indexAddr t x i,ty,pos,aft,g⟩ σ c=rtV (addrV P t σ (evV a x) (evV a i)) σ c:=(rfl)
def extV (v:VV) (i:Nat):Option VV:=match v with
 | .tup vs=>vs[i]?
 | _=>none
theorem vs_ext {x:Operand} {i:Nat}:stepV P call pol a ⟨d,.extract x i,ty,pos,aft,g⟩ σ c=rtV (extV (evV a x) i) σ c:=by
 show (match evV a x with
  | .tup vs=>rtV vs[i]? σ c
  | _=>none)=_
 unfold extV
 cases evV a x<;>rfl
theorem qbi {f:Operand} {args:Array Operand} {ts:Array TypeId}:stepV P call pol a ⟨d,.call { callee:=.value f,args:=args,argTypes:=ts },ty,pos,aft,g⟩ σ c=callV call pol d (evV a f) (args.toList.map (evV a)) σ c:=(rfl)
theorem qgy {t:TypeId} {s x:Operand}:stepV P call pol a ⟨d,.call { callee:=.builtin .append,args:=#[s,x],argTypes:=#[t,t] },ty,pos,aft,g⟩ σ c=appV P d t (evV a s) (evV a x) σ c:=by
 show (if t=t then appV P d t (evV a s) (evV a x) σ c else none)=_
 rw [if_pos rfl]
def lenVS (s:Bool) (σ:VSt) (c:Nat) (v:VV):Option St3:=match v with
 | .sc (.string s')=>iteB s (some (.sc (vi s'.size),σ,c)) none
 | A=>iteB s none (rtV ((lenV σ A).map fun (n:Nat)=>.sc (vi n)) σ c)
theorem qcg {x:Operand} {t e:TypeId} (hu:P.underlying t=some (.slice e)):stepV P call pol a ⟨d,.call { callee:=.builtin .len,args:=#[x],argTypes:=#[t] },ty,pos,aft,g⟩ σ c=rtV ((lenV σ (evV a x)).map fun (n:Nat)=>.sc (vi n)) σ c:=by
 show (match evV a x with
  | .sc (.string s)=>match P.underlying t with
    | some .string=>some (VV.sc (goInt s.size),σ,c)
    | _=>none
  | A=>match P.underlying t with
    | some (.slice _)=>rtV ((lenV σ A).map fun (n:Nat)=>.sc (goInt n)) σ c
    | _=>none)=_
 split
 ·rename_i s e;rw [hu,e];rfl
 ·rw [hu];rfl
def slenV (v:VV) (σ:VSt) (c:Nat):Option St3:=match v with
 | .sc (.string s)=>some (.sc (vi s.size),σ,c)
 | _=>none
theorem qd4 {x:Operand} {t:TypeId} (hu:P.underlying t=some .string):stepV P call pol a ⟨d,.call { callee:=.builtin .len,args:=#[x],argTypes:=#[t] },ty,pos,aft,g⟩ σ c=slenV (evV a x) σ c:=by
 show (match evV a x with
  | .sc (.string s)=>match P.underlying t with
    | some .string=>some (VV.sc (goInt s.size),σ,c)
    | _=>none
  | A=>match P.underlying t with
    | some (.slice _)=>rtV ((lenV σ A).map fun (n:Nat)=>.sc (goInt n)) σ c
    | _=>none)=_
 unfold slenV
 rw [hu]
 cases evV a x with
 | sc w=>cases w<;>rfl
 | _=>rfl
def u8Op (op:BinOp) (p q:Int):Option Value:=match op with
 | .lss=>some (.bool (decide (p < q)))
 | .gtr=>some (.bool (decide (q < p)))
 | .leq=>some (.bool (decide (p≤q)))
 | .geq=>some (.bool (decide (q≤p)))
 | .eql=>some (.bool (decide (p=q)))
 | .neq=>some (.bool (!decide (p=q)))
 | .rem=>if q=0 then none else some (.int .u8 (p.tmod q))
 | _=>none
def strOp (op:BinOp) (s t:ByteArray):Option Value:=match op with
 | .add=>if ((s.size+t.size:Nat):Int) > IntKind.i64.max then none else some (.string (s++t))
 | .eql=>some (.bool (s.toList == t.toList))
 | .neq=>some (.bool (!(s.toList == t.toList)))
 | _=>none
def scOp (op:BinOp) (u v:Value):Option Value:=match u,v with
 | .int .i64 p,.int .i64 q=>intOp op p q
 | .int .u8 p,.int .u8 q=>u8Op op p q
 | .string s,.string t=>strOp op s t
 | _,_=>none
def binV (op:BinOp) (u v:VV) (σ:VSt) (c:Nat) (r:Option St3):Option St3:=match u,v with
 | .sc u,.sc v=>match scOp op u v with
   | some z=>some (.sc z,σ,c)
   | none=>r
 | _,_=>r
theorem qbo {op:BinOp} {u u' v v':VV} {σ:VSt} {c:Nat} {r:Option St3} (hu:u=u') (hv:v=v'):binV op u v σ c r=binV op u' v' σ c r:=by rw [hu,hv]
theorem qey {x:Operand} {w:Value} (h:evV a x = .sc w) (hp:plain w=true):ev (fun t=>toVal (a t)) x=w:=by
 cases x with
 | tmp t=>show toVal (a t)=w;have:a t = .sc w:=h;rw [this];rfl
 | const v =>
   have h1:vcst v = .sc w:=h
   show v=w
   unfold vcst vcst1 at h1
   split at h1
   ·cases h1
   ·split at h1
    ·cases h1
    ·injection h1
 | func f=>injection h with h
 | global _=>cases h
def restS (P:Program) (call:VCall) (pol:Nat→Bool) (a:VF) (o:Oper) (σ:VSt) (c:Nat):Option St3:=stepV P call pol a o σ c
theorem plainA_int {op:BinOp} {t t':TypeId} {x y:Operand} {b:Fr} {p q:Int} {z:Value} (hx:ev b x=vi p) (hy:ev b y=vi q) (hz:intOp op p q=some z):plainA P b ⟨d,.binOp op t x y t',ty,pos,aft,g⟩=some z:=by
 have h:=sy_bin (P:=P) (call:=noC) (a:=b) (H:=[]) (op:=op) (t:=t) (t':=t') (x:=x) (y:=y) (d:=d) (ty:=ty) (pos:=pos) (aft:=aft) (g:=g)
 rw [hx,hy] at h
 simp only [binS,hz] at h
 have h2:aexec P b ⟨d,.binOp op t x y t',ty,pos,aft,g⟩ []=some (z,[]):=h
 cases hp:plainA P b ⟨d,.binOp op t x y t',ty,pos,aft,g⟩ with
 | some w =>
   have:aexec P b ⟨d,.binOp op t x y t',ty,pos,aft,g⟩ []=some (w,[]):=by
    cases op<;>simp only [aexec,hx,hp,qgx (show plain (vi p)=true from rfl),Option.map_some]
   rw [this] at h2;injection h2 with h2;injection h2 with h2;rw [h2]
 | none =>
   have:aexec P b ⟨d,.binOp op t x y t',ty,pos,aft,g⟩ []=none:=by
    cases op<;>simp only [aexec,hx,hp,qgx (show plain (vi p)=true from rfl),Option.map_none]
   rw [this] at h2;cases h2
theorem qfy {op:BinOp} {t t':TypeId} {x y:Operand} {b:Fr} {u v z:Value} (hx:ev b x=u) (hy:ev b y=v) (pu:plain u=true) (pv':plain v=true) (hz:pureVal P (do eqGuard op t x y u v;binOp op t u v)=some z) (pz:plain z=true):plainA P b ⟨d,.binOp op t x y t',ty,pos,aft,g⟩=some z:=by
 unfold plainA
 have hall:((⟨d,.binOp op t x y t',ty,pos,aft,g⟩:Oper).op.operands.toList.all fun z=>plain (ev b z))=true:=by simp [Op.operands,hx,hy,pu,pv']
 rw [if_pos hall]
 have ex:execOp (ev b) (⟨d,.binOp op t x y t',ty,pos,aft,g⟩:Oper)=(do let v ← (do eqGuard op t x y (ev b x) (ev b y);binOp op t (ev b x) (ev b y));pure (.value v)):=rfl
 rw [ex,hx,hy,qnm _ _ hz]
 simp only [pz,if_true]
theorem plainA_sc {op:BinOp} {t t':TypeId} {x y:Operand} {b:Fr} {u v z:Value} (hx:ev b x=u) (hy:ev b y=v) (hz:scOp op u v=some z):plainA P b ⟨d,.binOp op t x y t',ty,pos,aft,g⟩=some z:=by
 unfold scOp at hz
 split at hz
 ·exact plainA_int hx hy hz
 ·rename_i p q
  unfold u8Op at hz
  by_cases hr:op = .rem
  ·subst hr
   simp only at hz
   split at hz
   ·cases hz
   rename_i hq
   injection hz with hz
   subst hz
   refine qfy hx hy rfl rfl ?_ rfl
   simp [eqGuard,binOp,Op.intDiv,hq,pv]
   rfl
  cases op<;>(try exact absurd rfl hr)<;>simp only [Option.some.injEq,reduceCtorEq] at hz<;>subst hz<;>refine qfy hx hy rfl rfl ?_ rfl<;>simp [eqGuard,binOp,Op.intCmp,pv,bne]<;>rfl
 ·rename_i s t
  unfold strOp at hz
  cases op<;>simp only [Option.some.injEq,reduceCtorEq] at hz
  ·split at hz
   ·cases hz
   ·rename_i hq
    injection hz with hz
    subst hz
    refine qfy hx hy rfl rfl ?_ rfl
    have h3:IntKind.i64.max=9223372036854775807:=rfl
    rw [h3] at hq
    have hq':¬ (9223372036854775807 < (s.size:Int)+(t.size:Int)):=by omega
    simp only [eqGuard,binOp,Op.stringOp]
    simp [hq',pv]
    rfl
  ·subst hz;refine qfy hx hy rfl rfl ?_ rfl;simp [eqGuard,binOp,Op.stringOp,pv];rfl
  ·subst hz;refine qfy hx hy rfl rfl ?_ rfl;simp [eqGuard,binOp,Op.stringOp,pv];rfl
 ·cases hz
theorem scOp_both {op:BinOp} {u v z:Value} (hz:scOp op u v=some z):bothSc (.sc u) (.sc v)=true∧plain u=true∧plain v=true:=by
 unfold scOp at hz
 split at hz
 ·exact ⟨rfl,rfl,rfl⟩
 ·exact ⟨rfl,rfl,rfl⟩
 ·exact ⟨rfl,rfl,rfl⟩
 ·cases hz
theorem qa3 {op:BinOp} {t t':TypeId} {x y:Operand}:stepV P call pol a ⟨d,.binOp op t x y t',ty,pos,aft,g⟩ σ c=binV op (evV a x) (evV a y) σ c (restS P call pol a ⟨d,.binOp op t x y t',ty,pos,aft,g⟩ σ c):=by
 unfold binV restS
 split
 ·rename_i u v hx hy
  split
  ·rename_i z hz
   obtain ⟨h1,h2,h3⟩:=scOp_both hz
   have h:=plainA_sc (P:=P) (op:=op) (t:=t) (t':=t') (d:=d) (ty:=ty) (pos:=pos) (aft:=aft) (g:=g) (qey hx h2) (qey hy h3) hz
   have hb:bothSc (evV a x) (evV a y)=true:=by rw [hx,hy];exact h1
   have h2:plainV P a ⟨d,.binOp op t x y t',ty,pos,aft,g⟩=some (.sc z):=by unfold plainV;rw [h];rfl
   cases op<;>first
    | (show iteB (bothSc (evV a x) (evV a y)) (rtV (plainV P a _) σ c) _=_;rw [hb,qaf,h2];rfl)
    | (show rtV (plainV P a _) σ c=_;rw [h2];rfl)
  ·rfl
 ·rfl
section
variable {p q:Int} {r:Option St3}
theorem qa0:binV .lss (.sc (vi p)) (.sc (vi q)) σ c r=some (.sc (.bool (decide (p < q))),σ,c):=(rfl)
theorem qdi:binV .gtr (.sc (vi p)) (.sc (vi q)) σ c r=some (.sc (.bool (decide (q < p))),σ,c):=(rfl)
theorem qsu:binV .leq (.sc (vi p)) (.sc (vi q)) σ c r=some (.sc (.bool (decide (p≤q))),σ,c):=(rfl)
theorem qel:binV .geq (.sc (vi p)) (.sc (vi q)) σ c r=some (.sc (.bool (decide (q≤p))),σ,c):=(rfl)
theorem qdf:binV .eql (.sc (vi p)) (.sc (vi q)) σ c r=some (.sc (.bool (decide (p=q))),σ,c):=(rfl)
theorem qch:binV .neq (.sc (vi p)) (.sc (vi q)) σ c r=some (.sc (.bool (!decide (p=q))),σ,c):=by
 show some (VV.sc (.bool (decide (p≠q))),σ,c)=_
 rw [decide_not]
theorem qb9:binV .add (.sc (vi p)) (.sc (vi q)) σ c r=some (.sc (vi (IntKind.i64.wrap (p+q))),σ,c):=(rfl)
theorem qf9:binV .sub (.sc (vi p)) (.sc (vi q)) σ c r=some (.sc (vi (IntKind.i64.wrap (p - q))),σ,c):=(rfl)
theorem qsv (h:q≠0):binV .quo (.sc (vi p)) (.sc (vi q)) σ c r=some (.sc (vi (IntKind.i64.wrap (p.tdiv q))),σ,c):=by simp [binV,scOp,intOp,h]
theorem qnr (h:q≠0):binV .rem (.sc (vi p)) (.sc (vi q)) σ c r=some (.sc (vi (p.tmod q)),σ,c):=by simp [binV,scOp,intOp,h]
abbrev vY (z:Int):VV:=.sc (.int .u8 z)
theorem qfg:binV .eql (vY p) (vY q) σ c r=some (.sc (.bool (decide (p=q))),σ,c):=(rfl)
theorem qit:binV .neq (vY p) (vY q) σ c r=some (.sc (.bool (!decide (p=q))),σ,c):=(rfl)
theorem binY_rem (h:q≠0):binV .rem (vY p) (vY q) σ c r=some (vY (p.tmod q),σ,c):=by simp [binV,scOp,u8Op,h]
theorem qsw {s t:ByteArray}:binV .neq (.sc (.string s)) (.sc (.string t)) σ c r=some (.sc (.bool (!(s.toList == t.toList))),σ,c):=(rfl)
theorem binT_add {s t:ByteArray} (h:((s.size+t.size:Nat):Int)≤9223372036854775807):binV .add (.sc (.string s)) (.sc (.string t)) σ c r=some (.sc (.string (s++t)),σ,c):=by
 have:¬ (((s.size+t.size:Nat):Int) > IntKind.i64.max):=by show ¬ (9223372036854775807 < ((s.size+t.size:Nat):Int));omega
 simp only [binV,scOp,strOp]
 rw [if_neg this]
end
def negV (v:VV) (σ:VSt) (c:Nat) (r:Option St3):Option St3:=match v with
 | .sc (.int .i64 z)=>some (.sc (vi (IntKind.i64.wrap (0 - z))),σ,c)
 | _=>r
theorem vs_neg {t:TypeId} {x:Operand}:stepV P call pol a ⟨d,.unOp .neg t x,ty,pos,aft,g⟩ σ c=negV (evV a x) σ c (restS P call pol a ⟨d,.unOp .neg t x,ty,pos,aft,g⟩ σ c):=by
 unfold negV restS
 split
 ·rename_i b hx
  have h:=sy_neg (P:=P) (call:=noC) (a:=fun t=>toVal (a t)) (H:=[]) (t:=t) (x:=x) (d:=d) (ty:=ty) (pos:=pos) (aft:=aft) (g:=g)
  have e:=qey hx rfl
  rw [e] at h
  have h2:(plainA P (fun t=>toVal (a t)) ⟨d,.unOp .neg t x,ty,pos,aft,g⟩).map (fun v=>(v,([]:Heap)))=some (vi (IntKind.i64.wrap (0 - b)),[]):=h
  show rtV (plainV P a ⟨d,.unOp .neg t x,ty,pos,aft,g⟩) σ c=_
  unfold plainV
  cases hp:plainA P (fun t=>toVal (a t)) ⟨d,.unOp .neg t x,ty,pos,aft,g⟩ with
  | none=>rw [hp] at h2;cases h2
  | some w=>rw [hp] at h2;injection h2 with h2;injection h2 with h2;rw [h2];rfl
 ·rfl
theorem negV_i {z:Int} {r:Option St3}:negV (.sc (vi z)) σ c r=some (.sc (vi (IntKind.i64.wrap (0 - z))),σ,c):=(rfl)
def notV (v:VV) (σ:VSt) (c:Nat) (r:Option St3):Option St3:=match v with
 | .sc (.bool b)=>some (.sc (.bool !b),σ,c)
 | _=>r
theorem qjt {t:TypeId} {x:Operand}:stepV P call pol a ⟨d,.unOp .not t x,ty,pos,aft,g⟩ σ c=notV (evV a x) σ c (restS P call pol a ⟨d,.unOp .not t x,ty,pos,aft,g⟩ σ c):=by
 unfold notV restS
 split
 ·rename_i b hx
  have h:=st_not (P:=P) (call:=noC) (a:=fun t=>toVal (a t)) (H:=[]) (t:=t) (x:=x) (d:=d) (ty:=ty) (pos:=pos) (aft:=aft) (g:=g)
  have e:=qey hx rfl
  rw [e] at h
  have h2:(plainA P (fun t=>toVal (a t)) ⟨d,.unOp .not t x,ty,pos,aft,g⟩).map (fun v=>(v,([]:Heap)))=some (.bool !b,[]):=h
  show rtV (plainV P a ⟨d,.unOp .not t x,ty,pos,aft,g⟩) σ c=_
  unfold plainV
  cases hp:plainA P (fun t=>toVal (a t)) ⟨d,.unOp .not t x,ty,pos,aft,g⟩ with
  | none=>rw [hp] at h2;cases h2
  | some w=>rw [hp] at h2;injection h2 with h2;injection h2 with h2;rw [h2];rfl
 ·rfl
theorem qju {b:Bool} {r:Option St3}:notV (.sc (.bool b)) σ c r=some (.sc (.bool !b),σ,c):=(rfl)
end
theorem qaq {A:VV} {σ:VSt} {c:Nat}:rtV (some A) σ c=some (A,σ,c):=(rfl)
theorem qcm {σ:VSt} {c:Nat}:stoV (some σ) c=some (.bad,σ,c):=(rfl)
theorem qbg {d:Option Nat} {cs:List VV} {σ:VSt} {c:Nat}:boxV d (some cs) σ c=mkBox d cs σ c:=(rfl)
theorem qag {α:Type} {a:Nat→α} {t i:Nat} {v:α}:updV a t v i=if i=t then v else a i:=by unfold updV;rfl
theorem qap {a:VF} {t:Nat}:evV a (.tmp t)=a t:=by simp only [evV]
theorem qa5 {a:VF} {f:Nat}:evV a (.func f) = .sc (.func (.func f) #[] #[]):=by simp only [evV]
theorem qav {a:VF} {k:IntKind} {z:Int}:evV a (.const (.int k z)) = .sc (.int k z):=by simp only [evV,vcst,vcst1]
theorem qcs {a:VF} {b:Bool}:evV a (.const (.bool b)) = .sc (.bool b):=by simp only [evV,vcst,vcst1]
theorem qgz {a:VF} {s:ByteArray}:evV a (.const (.string s)) = .sc (.string s):=by simp only [evV,vcst,vcst1]
theorem qfn {a:VF}:evV a (.const (.slice none 0 0)) = .nl:=by simp only [evV,vcst,vcst1]
theorem qai {a:VF} {t:Nat} {v:VV}:putV a (some t) v=updV a t v:=(rfl)
theorem qcn {a:VF} {v:VV}:putV a none v=a:=(rfl)
theorem qns {f:VF→VSt→Nat→Option XS} (I:Nat→VF→VSt→Nat→Prop) (Q:X→VF→VSt→Nat→Prop)
  (step:∀ n a σ c,I n a σ c→(∃ a' σ' c',f a σ c=some (.normal,a',σ',c')∧∃ m,m < n∧I m a' σ' c')∨(∃ x a' σ' c',f a σ c=some (x,a',σ',c')∧x≠.normal∧Q x a' σ' c')) :
  ∀ (k n:Nat) a σ c,n < k→I n a σ c→∃ x a' σ' c',loopV f k a σ c=some (x,a',σ',c')∧Q x a' σ' c':=by
 intro k
 induction k with
 | zero=>intro n a σ c h;omega
 | succ k ih =>
   intro n a σ c hk hI
   rcases step n a σ c hI with ⟨a',σ',c',e,m,hm,hI'⟩ | ⟨x,a',σ',c',e,hx,hQ⟩
   ·obtain ⟨x,a2,σ2,c2,e2,hQ⟩:=ih m a' σ' c' (by omega) hI'
    exact ⟨x,a2,σ2,c2,by rw [loopV,e];exact e2,hQ⟩
   ·refine ⟨x,a',σ',c',?_,hQ⟩
    rw [loopV,e]
    cases x with
    | normal=>exact absurd rfl hx
    | _=>rfl
theorem qc2 {f:VF→VSt→Nat→Option XS} (N:Nat) (I:Nat→VF→VSt→Nat→Prop) (Q:X→VF→VSt→Nat→Prop)
  (step:∀ i a σ c,i < N→I i a σ c→(∃ a' σ' c',f a σ c=some (.normal,a',σ',c')∧I (i+1) a' σ' c')∨(∃ x a' σ' c',f a σ c=some (x,a',σ',c')∧x≠.normal∧Q x a' σ' c'))
  (last:∀ a σ c,I N a σ c→∃ x a' σ' c',f a σ c=some (x,a',σ',c')∧x≠.normal∧Q x a' σ' c') {k:Nat} (hk:N < k) {a:VF} {σ:VSt} {c:Nat} (h0:I 0 a σ c) :
  ∃ x a' σ' c',loopV f k a σ c=some (x,a',σ',c')∧Q x a' σ' c':=by
 refine qns (fun n a σ c=>n≤N∧I (N - n) a σ c) Q ?_ k N a σ c hk ⟨Nat.le_refl _,by rw [Nat.sub_self];exact h0⟩
 intro n a σ c ⟨hn,hI⟩
 by_cases h:n=0
 ·subst h
  exact .inr (last a σ c hI)
 ·rcases step (N - n) a σ c (by omega) hI with ⟨a',σ',c',e,h'⟩ | h'
  ·exact .inl ⟨a',σ',c',e,n - 1,by omega,by omega,by rw [show N - (n - 1)=N - n+1 from by omega];exact h'⟩
  ·exact .inr h'
def li (l:List Int):List VV:=l.map fun z=>.sc (vi z)
abbrev vL (l:List Int):VV:=.fz l.length 1 (li l)
abbrev vI (z:Int):VV:=.sc (vi z)
abbrev vB (b:Bool):VV:=.sc (.bool b)
theorem qjv (l:List Int):(li l).length=l.length:=List.length_map ..
theorem li_app (l m:List Int):li l++li m=li (l++m):=(List.map_append ..).symm
theorem qdm {l:List Int} {i:Nat} (h:i < l.length):(li l)[i]?=some (vI (l.getD i 0)):=by simp [li,h]
theorem qsx (l:List Int) (i:Nat) (z:Int):(li l).set i (vI z)=li (l.set i z):=by unfold li;rw [List.map_set]
theorem li_nil:li []=[]:=rfl
theorem qjg (l:List Int) (z:Int):li l++[vI z]=li (l++[z]):=by rw [← li_app];rfl
def ofCs:List VV→Option (List Int)
 | []=>some []
 | .sc (.int .i64 z)::l=>(ofCs l).map (z::·)
 | _::_=>none
def asL:VV→Option (List Int)
 | .nl=>some []
 | .fz _ 1 cs=>ofCs cs
 | _=>none
theorem qnt (l:List Int):ofCs (li l)=some l:=by
 induction l with
 | nil=>rfl
 | cons z l ih=>simp only [li,List.map_cons,ofCs] at ih ⊢;rw [ih];rfl
theorem ofCs_eq:∀ {cs:List VV} {l:List Int},ofCs cs=some l→cs=li l:=by
 intro cs
 induction cs with
 | nil=>intro l h;injection h with h;subst h;rfl
 | cons A cs ih =>
   intro l h
   unfold ofCs at h
   split at h
   ·rename_i e;cases e
   ·rename_i z l' e
    injection e with e1 e2
    subst e1;subst e2
    cases hc:ofCs cs with
    | none=>rw [hc] at h;cases h
    | some r=>rw [hc] at h;injection h with h;subst h;rw [ih hc];rfl
   ·cases h
theorem asL_fz {n:Nat} {l:List Int}:asL (.fz n 1 (li l))=some l:=qnt l
theorem qq4 {Z:Nat→Prop} {H:Heap} {A:VV} {l:List Int} {v:Value} (h:asL A=some l) (hr:RepC Z H A v):RepC Z H (vL l) v:=by
 unfold asL at h
 split at h
 ·injection h with h;subst h
  simp only [RepC] at hr ⊢
  exact ⟨[],⟨rfl,by omega,.inl ⟨rfl,.inl hr⟩⟩,by simp only [li_nil,RepCL]⟩
 ·rename_i n cs
  have:=ofCs_eq h
  subst this
  have hr':=hr
  simp only [RepC] at hr
  obtain ⟨vs,hv,hc⟩:=hr
  have h1:=hc.length
  have h2:=hv.1
  rw [qjv] at h1
  have:n=l.length:=by omega
  subst this
  exact hr'
 ·cases h
abbrev VSpec:=List VV→Option (VV×Bool)
def callOf:List (Nat×VSpec)→VCall
 | [],_,_=>none
 | (f,s)::t,g,args=>if g=f then s args else callOf t g args
def VSpecOK (ca:CallF) (f:Nat) (s:VSpec):Prop:=∀ args r fresh,s args=some (r,fresh)→AnsX ca f args r fresh
theorem qlk {ca:CallF}:∀ {t:List (Nat×VSpec)},(∀ x∈t,VSpecOK ca x.1 x.2)→CallsV ca (callOf t):=by
 intro t
 induction t with
 | nil=>intro _ g args r fresh h;cases h
 | cons x t ih =>
   intro h g args r fresh hs
   obtain ⟨f,s⟩:=x
   simp only [callOf] at hs
   split at hs
   ·rename_i e;subst e;exact h (g,s) (by simp) args r fresh hs
   ·exact ih (fun y hy=>h y (by simp [hy])) g args r fresh hs
theorem AnsAt.args {ca:CallF} {g:Nat} {args args':List VV} {r:VV} {fresh:Bool} (h:AnsAt ca g args' r fresh) (he:∀ Z H vs,RepCL Z H args vs→RepCL Z H args' vs):AnsAt ca g args r fresh :=
 fun Z H vs hw hA=>h Z H vs hw (he Z H vs hA)
end Go.Abs
namespace Go.Abs
def optG {α:Type} (x:Option Ob) (k:Ob→Option α):Option α:=match x with
 | some o=>k o
 | none=>none
theorem qbp {α:Type} {x x':Option Ob} {k:Ob→Option α} (h:x=x'):optG x k=optG x' k:=by rw [h]
theorem qae {α:Type} {o:Ob} {k:Ob→Option α}:optG (some o) k=k o:=(rfl)
def gO (x:Option Ob) (ver:Nat):Option Ob:=match x with
 | some o=>if o.ver=ver then some o else none
 | none=>none
theorem qa1 {σ:VSt} {id ver:Nat}:getO σ id ver=gO (σ id) ver:=by unfold getO gO;cases σ id<;>rfl
theorem qcc {x x':Option Ob} {ver:Nat} (h:x=x'):gO x ver=gO x' ver:=by rw [h]
theorem qa2 {v n s:Nat} {cs:List VV}:gO (some ⟨v,n,s,cs⟩) v=some ⟨v,n,s,cs⟩:=by simp [gO]
theorem qll {σ:VSt}:killL σ []=σ:=by funext i;rfl
section
variable {P:Program} {pol:Nat→Bool} {a:VF} {σ:VSt} {c:Nat} {d:Option Nat} {t e:TypeId} {s n ver id:Nat} {cs:List VV}
theorem qew (hs:sliceElem P t=some (e,s)) {kk:IntKind} {k:Int}:addrV P t σ (.own id ver) (.sc (.int kk k))=optG (getO σ id ver) fun o=>if 0≤k∧k < o.n then some (.ptr id ver (k.toNat*s)) else none:=by
 unfold addrV optG
 simp only [hs]
 cases getO σ id ver<;>rfl
theorem ad_fz (hs:sliceElem P t=some (e,s)) {kk:IntKind} {k:Int}:addrV P t σ (.fz n s cs) (.sc (.int kk k))=if 0≤k∧k < n then some (.rp (cs.drop (k.toNat*s))) else none:=by
 unfold addrV
 simp only [hs,true_and]
theorem qnu {i off:Nat} (h:fieldOff P t i=some off):∃ fields f n,P.underlying t=some (.struct fields)∧fields[i]?=some f∧sizeT P f.type=some (n+1)∧f.offset=off:=by
 unfold fieldOff at h
 split at h
 ·rename_i fields hu
  split at h
  ·rename_i f hf
   split at h
   ·rename_i n hn
    injection h with h
    exact ⟨fields,f,n,hu,hf,hn,h⟩
   ·cases h
  ·cases h
 ·cases h
theorem qcf {i off k:Nat} (h:fieldOff P t i=some off):fieldAddrV P t σ (.ptr id ver k) i=optG (getO σ id ver) fun _=>some (.ptr id ver (k+off)):=by
 obtain ⟨fields,f,n,hu,hf,hn,rfl⟩:=qnu h
 unfold fieldAddrV optG
 simp only [hu,hf,hn]
 cases getO σ id ver<;>rfl
def ldS (σ:VSt) (x:Option VV):Option VV:=match x with
 | some A=>if solid1 σ A then some A else none
 | none=>none
theorem qby {σ:VSt} {x x':Option VV} (h:x=x'):ldS σ x=ldS σ x':=by rw [h]
theorem qc3 {w:Value}:ldS σ (some (.sc w))=some (.sc w):=(rfl)
theorem qdn:ldS σ (some (.fz n s cs))=some (.fz n s cs):=(rfl)
theorem ldS_own:ldS σ (some (.own id ver))=optG (getO σ id ver) fun o=>if o.sz=0 then none else some (.own id ver):=by
 unfold ldS optG
 cases hg:getO σ id ver with
 | none=>simp [solid1,hg]
 | some o=>by_cases h:o.sz=0<;>simp [solid1,hg,h]
theorem qco (ht:isAggT P t=some false) {i:Nat}:loadV P t σ (.ptr id ver i)=optG (getO σ id ver) fun o=>ldS σ o.cs[i]? := by
 unfold loadV optG ldS
 simp only [cellsV,ht]
 cases getO σ id ver with
 | none=>rfl
 | some o =>
   simp only [Option.map_some]
   cases o.cs[i]?<;>rfl
theorem ld_rp (ht:isAggT P t=some false):loadV P t σ (.rp cs)=ldS σ cs[0]? := by
 unfold loadV ldS
 simp only [cellsV,ht]
 cases cs[0]?<;>rfl
def ldN (σ:VSt) (n:Nat) (cs:List VV):Option VV:=if n≤cs.length then (if (cs.take n).all (solid1 σ) then some (.st (cs.take n)) else none) else none
theorem qb5 (ht:isAggT P t=some true) (hn:sizeT P t=some n) {i:Nat}:loadV P t σ (.ptr id ver i)=optG (getO σ id ver) fun o=>if i+n≤o.cs.length then ldN σ n (o.cs.drop i) else none:=by
 unfold loadV optG ldN
 simp only [cellsV,ht,hn]
 cases getO σ id ver with
 | none=>rfl
 | some o =>
   simp only [Option.map_some,List.length_drop]
   by_cases h1:i+n≤o.cs.length
   ·rw [if_pos h1]
    have:n≤o.cs.length - i:=by omega
    rw [if_pos this]
    by_cases h2:((o.cs.drop i).take n).all (solid1 σ)=true
    ·rw [if_pos h2,if_pos ⟨h1,h2⟩]
    ·rw [if_neg h2,if_neg (fun h=>h2 h.2)]
   ·rw [if_neg h1,if_neg (fun h=>h1 h.1)]
theorem st_sc (hz:sizeT P t=some 1) {i:Nat} {w:Value}:storeV P t σ (.ptr id ver i) (.sc w)=optG (getO σ id ver) fun o=>if i < o.cs.length then some (updV σ id (some ⟨o.ver,o.n,o.sz,o.cs.set i (.sc w)⟩)) else none:=by
 unfold storeV optG
 simp only [scalV,hz]
 cases getO σ id ver with
 | none=>rfl
 | some o =>
   simp only [List.length_cons,List.length_nil,true_and]
   by_cases h1:i < o.cs.length
   ·rw [if_pos h1,if_pos (by omega)]
    by_cases h2:o.sz=0
    ·rw [if_pos h2];rfl
    ·rw [if_neg h2];rfl
   ·rw [if_neg h1,if_neg (by omega)]
def boxW (σ:VSt) (id i n:Nat) (x:Option (List VV)) (o:Ob):Option VSt:=match x with
 | some cs=>if cs.length=n∧i+n≤o.cs.length∧o.sz=0 then some (updV σ id (some ⟨o.ver,o.n,o.sz,setLs o.cs i cs⟩)) else none
 | none=>none
theorem ln_fz:lenV σ (.fz n s cs)=some n:=(rfl)
theorem qlm:lenV σ (.own id ver)=optG (getO σ id ver) fun o=>if o.sz=0 then none else some o.n:=by
 simp only [lenV]
 unfold optG
 cases getO σ id ver<;>rfl
def okApp (P:Program) (el:TypeId) (s:Nat):Bool:=decide (0 < s) && (bytesT P el).isSome && decide ((bytesT P el).getD 0≤maxA) && (zeros P el s 1).isSome
theorem ap_nl (hs:sliceElem P t=some (e,s)) (hb:okApp P e s=true) {k:Nat} (hk:(k+1)*s≤maxA):appV P d t .nl (.fz (k+1) s cs) σ c=mkOwn d (k+1) s cs σ c:=by
 unfold appV
 simp only [okApp,Bool.and_eq_true,decide_eq_true_eq] at hb
 simp only [hs]
 rw [if_pos ⟨hb.1.1.1,hb.1.1.2,hb.1.2,hb.2⟩]
 simp only [readV,if_true]
 rw [if_pos hk]
theorem qjw (hs:sliceElem P t=some (e,s)) (hb:okApp P e s=true) {k:Nat}:appV P d t (.own id ver) (.fz (k+1) s cs) σ c=optG (getO σ id ver) fun o=>if o.sz=s∧(o.n+(k+1))*s≤maxA then some (.own id c,updV σ id (some ⟨c,o.n+(k+1),o.sz,o.cs.take (o.n*o.sz)++cs⟩),c+1) else none:=by
 unfold appV optG
 simp only [okApp,Bool.and_eq_true,decide_eq_true_eq] at hb
 simp only [hs]
 rw [if_pos ⟨hb.1.1.1,hb.1.1.2,hb.1.2,hb.2⟩]
 simp only [readV,if_true]
 cases getO σ id ver<;>rfl
theorem qc5 {i:Nat}:mkOwn (some i) n s cs σ c=some (.own i c,updV σ i (some ⟨c,n,s,cs⟩),c+1):=(rfl)
theorem qa6 {i:Nat}:mkBox (some i) cs σ c=some (.ptr i c 0,updV σ i (some ⟨c,0,0,cs⟩),c+1):=(rfl)
theorem mk_sl (hs:sliceElem P t=some (e,s)) {by_:Nat} (hb:bytesT P e=some by_) (hb2:by_≤1048576∧0 < s) {k1 k2:IntKind} {n m:Int}:makeV P d t (.sc (.int k1 n)) (.sc (.int k2 m)) σ c=if 0≤n∧n≤m∧m≤1048576 then (match zeros P e s n.toNat with | some z=>mkOwn d n.toNat s (z.map vcst1) σ c | none=>none) else none:=by
 unfold makeV
 simp only [hs,Option.getD_some,hb]
 by_cases h:0≤n∧n≤m∧m≤1048576
 ·rw [if_pos h,if_pos ⟨h.1,h.2.1,h.2.2,hb2.2,hb2.1⟩]
  cases zeros P e s n.toNat<;>rfl
 ·rw [if_neg h,if_neg (fun h'=>h ⟨h'.1,h'.2.1,h'.2.2.1⟩)]
def bsV (P:Program) (e:TypeId) (s len:Nat) (is:List Nat) (x:Option (List VV)):Option (List VV):=match (zeros P e s len).map (·.map vcst1),x with
 | some z,some vs=>fillV (fun _=>none) (fun i=>some (i*s,s)) z (is.zip vs)
 | _,_=>none
theorem qpg {σ:VSt} {pl:Nat→Option (Nat×Nat)}:∀ {ps:List (Nat×VV)} {cs r:List VV},fillV (fun _=>none) pl cs ps=some r→fillV σ pl cs ps=some r:=by
 intro ps
 induction ps with
 | nil=>intro cs r h;exact h
 | cons p ps ih =>
   intro cs r h
   obtain ⟨i,A⟩:=p
   simp only [fillV] at h ⊢
   split at h
   ·rename_i off size vc h1 h2
    have h3:scalV σ A=some vc:=by
     cases A with
     | own id ver=>simp [scalV,getO] at h2
     | ptr id ver i=>simp [scalV,getO] at h2
     | _=>exact h2
    rw [h1,h3]
    simp only
    split at h
    ·rename_i hc
     rw [if_pos hc]
     exact ih h
    ·cases h
   ·cases h
theorem bs_eq (hs:sliceElem P t=some (e,s)) {len:Nat} (hl:0 < s∧len*s≤maxA) {parts:List (Nat×VV)} {r:List VV} (hr:bsV P e s len (parts.map (·.1)) (peekL σ (parts.map (·.2)))=some r) :
  buildSliceV P pol d t len parts σ c=iteB (pol (d.getD 0)) (mkOwn d len s r (killL σ ((parts.map (·.2)).flatMap ownIds)) c) (some (.fz len s r,killL σ ((parts.map (·.2)).flatMap ownIds),c)):=by
 unfold bsV at hr
 unfold buildSliceV
 simp only [hs]
 rw [if_pos hl]
 split at hr
 ·rename_i z vs h1 h2
  rw [h1,h2]
  simp only [qpg hr]
 ·cases hr
def optP {α:Type} (x:Option VV) (k:VV→Option α):Option α:=match x with
 | some A=>k A
 | none=>none
def optL {α:Type} (x:Option (List VV)) (k:List VV→Option α):Option α:=match x with
 | some A=>k A
 | none=>none
theorem qbq {α:Type} {x x':Option VV} {k:VV→Option α} (h:x=x'):optP x k=optP x' k:=by rw [h]
theorem qbr {α:Type} {x x':Option (List VV)} {k:List VV→Option α} (h:x=x'):optL x k=optL x' k:=by rw [h]
theorem qaj {α:Type} {A:VV} {k:VV→Option α}:optP (some A) k=k A:=(rfl)
theorem qad {α:Type} {A:List VV} {k:List VV→Option α}:optL (some A) k=k A:=(rfl)
theorem qbz:peekL σ []=some []:=(rfl)
theorem qbf {A:VV} {l:List VV}:peekL σ (A::l)=optP (peek σ A) fun x=>optL (peekL σ l) fun r=>some (x::r):=by
 simp only [peekL]
 unfold optP optL
 cases peek σ A<;>cases peekL σ l<;>rfl
theorem qb6:peekL1 σ []=some []:=(rfl)
theorem qbm {A:VV} {l:List VV}:peekL1 σ (A::l)=optP (peek1 σ A) fun x=>optL (peekL1 σ l) fun r=>some (x::r):=by
 simp only [peekL1]
 unfold optP optL
 cases peek1 σ A<;>cases peekL1 σ l<;>rfl
theorem pk_sc {w:Value}:peek σ (.sc w)=some (.sc w):=(rfl)
theorem pk_fz:peek σ (.fz n s cs)=some (.fz n s cs):=(rfl)
theorem pk_st:peek σ (.st cs)=optL (peekL1 σ cs) fun r=>some (.st r):=by
 simp only [peek];unfold optL;cases peekL1 σ cs<;>rfl
theorem qln:peek σ (.own id ver)=optG (getO σ id ver) fun o=>if o.sz=0 then none else some (.fz o.n o.sz o.cs):=by
 simp only [peek,peek1];unfold optG;cases getO σ id ver<;>rfl
theorem pk1_nl:peek1 σ .nl=some .nl:=(rfl)
theorem qcp:peek1 σ (.fz n s cs)=some (.fz n s cs):=(rfl)
theorem pk1_own:peek1 σ (.own id ver)=optG (getO σ id ver) fun o=>if o.sz=0 then none else some (.fz o.n o.sz o.cs):=by
 simp only [peek1];unfold optG;cases getO σ id ver<;>rfl
def ansS (pol:Nat→Bool) (d:Option Nat) (ids:List Nat) (args:List VV) (σ:VSt) (c:Nat) (x:Option (VV×Bool)):Option St3:=match x with
 | some (r,fresh) =>
   if flatV r then some (r,σ,c)
   else match r with
    | .rp cs=>inV args cs σ c
    | .fz n sz cs=>if ids=[]∨(fresh && (allSc cs).isSome)=true then iteB (fresh && pol (d.getD 0) && sz != 0) (mkOwn d n sz cs σ c) (some (.fz n sz cs,σ,c)) else none
    | r=>if ids=[] then some (r,σ,c) else none
 | none=>none
theorem qbs {pol:Nat→Bool} {d:Option Nat} {ids:List Nat} {args:List VV} {σ:VSt} {c:Nat} {x x':Option (VV×Bool)} (h:x=x'):ansS pol d ids args σ c x=ansS pol d ids args σ c x':=by rw [h]
theorem vcall {call:VCall} {g:Nat} {args:List VV}:callV call pol d (.sc (.func (.func g) #[] #[])) args σ c=optL (peekL σ args) fun ays=>ansS pol d (args.flatMap ownIds) args σ c (call g ays):=by
 unfold callV optL ansS
 cases peekL σ args with
 | none=>rfl
 | some ays =>
   simp only
   cases call g ays with
   | none=>rfl
   | some q=>rfl
theorem qb4 {w:Value} {ids:List Nat} {args:List VV} {fr:Bool}:ansS pol d ids args σ c (some (.sc w,fr))=some (.sc w,σ,c):=(rfl)
theorem qez {args:List VV} {fr:Bool}:ansS pol d [] args σ c (some (.st cs,fr))=some (.st cs,σ,c):=by
 simp only [ansS]
 split<;>simp
theorem qph {args:List VV} {fr:Bool}:ansS pol d [] args σ c (some (.tup cs,fr))=some (.tup cs,σ,c):=by
 simp only [ansS]
 split<;>simp
theorem qd6 {args:List VV} {fr:Bool}:ansS pol d [] args σ c (some (.fz n s cs,fr))=iteB (fr && pol (d.getD 0) && s != 0) (mkOwn d n s cs σ c) (some (.fz n s cs,σ,c)):=by
 simp [ansS,flatV]
theorem qq5 {ids:List Nat} {args:List VV} (h:(allSc cs).isSome=true):ansS pol d ids args σ c (some (.fz n s cs,true))=iteB (pol (d.getD 0) && s != 0) (mkOwn d n s cs σ c) (some (.fz n s cs,σ,c)):=by
 simp [ansS,flatV,h]
theorem qfo {call:VCall} {g:Nat} {ays:List VV}:noIP call g ays=ipF (call g ays):=(rfl)
theorem qpi {w:Value} {fr:Bool}:ipF (some (.sc w,fr))=some (.sc w,fr):=(rfl)
theorem qsy {fr:Bool}:ipF (some (.st cs,fr))=some (.st cs,fr):=(rfl)
theorem ipF_tup {fr:Bool}:ipF (some (.tup cs,fr))=some (.tup cs,fr):=(rfl)
theorem qpj {fr:Bool}:ipF (some (.fz n s cs,fr))=some (.fz n s cs,fr):=(rfl)
theorem qnv {l:List Int}:(allSc (li l)).isSome=true:=by
 induction l with
 | nil=>rfl
 | cons z l ih=>simp only [li,List.map_cons,allSc,Option.isSome_map] at ih ⊢;exact ih
theorem qas {f g:Nat} {sp:VSpec} {tb:List (Nat×VSpec)} {ays:List VV}:callOf ((f,sp)::tb) g ays=if g=f then sp ays else callOf tb g ays:=(rfl)
theorem qbw:resV P σ a []=some []:=(rfl)
def tmpV (σ:VSt) (A:VV) (x:Option (List VV)):Option (List VV):=match scalV σ A,peek σ A,x with
 | some _,some B,some r=>some (B::r)
 | _,_,_=>none
theorem qb8 {i:Nat} {rs:List ResultVar}:resV P σ a (.tmp i::rs)=tmpV σ (a i) (resV P σ a rs):=(rfl)
theorem qbx {w:Value} {r:List VV}:tmpV σ (.sc w) (some r)=some (.sc w::r):=(rfl)
theorem tmpV_fz {r:List VV}:tmpV σ (.fz n s cs) (some r)=some (.fz n s cs::r):=(rfl)
theorem qe0 {r:List VV}:tmpV σ (.own id ver) (some r)=optG (getO σ id ver) fun o=>if o.sz=0 then none else some (.fz o.n o.sz o.cs::r):=by
 simp only [tmpV,scalV,peek,peek1]
 unfold optG
 cases getO σ id ver with
 | none=>rfl
 | some o=>by_cases h:o.sz=0<;>simp [h]
theorem qev {i:Nat} {ty:TypeId} {rs:List ResultVar}:resV P σ a (.cell i ty::rs)=optP (loadV P ty σ (a i)) fun A=>optP (peek σ A) fun B=>optL (resV P σ a rs) fun r=>some (B::r):=by
 simp only [resV]
 unfold optP optL
 cases loadV P ty σ (a i) with
 | none=>rfl
 | some A =>
   simp only [Option.bind_some]
   cases peek σ A<;>cases resV P σ a rs<;>rfl
theorem fv_r {rs:List ResultVar}:finV P rs (some (.ret,a,σ,c))=optL (resV P σ a rs) fun vs=>some (packV vs,freshV a rs):=by
 simp only [finV];unfold optL;cases resV P σ a rs<;>rfl
theorem pv_1 {A:VV}:packV [A]=A:=(rfl)
theorem pv_2 {A B:VV}:packV [A,B] = .tup [A,B]:=(rfl)
def isOwnV:VV→Bool
 | .own _ _=>true
 | _=>false
theorem fsh_1 {i:Nat}:freshV a [.tmp i]=isOwnV (a i):=by simp only [freshV];unfold isOwnV;cases a i<;>rfl
theorem fsh_2 {x y:ResultVar} {l:List ResultVar}:freshV a (x::y::l)=false:=by cases x<;>rfl
theorem fsh_c {i:Nat} {ty:TypeId} {l:List ResultVar}:freshV a (.cell i ty::l)=false:=(rfl)
theorem qem:isOwnV (.own id ver)=true:=(rfl)
theorem qbk {w:Value}:isOwnV (.sc w)=false:=(rfl)
end
theorem frV_0 {v:VV} {vs:List VV}:frV (v::vs) 0=v:=(rfl)
theorem frV_1 {u v:VV} {vs:List VV}:frV (u::v::vs) 1=v:=(rfl)
theorem frV_2 {s u v:VV} {vs:List VV}:frV (s::u::v::vs) 2=v:=(rfl)
theorem qiu {l:List Int}:(li l).take l.length=li l:=by rw [← qjv l,List.take_length]
theorem qfz {w:Value}:ownIds (.sc w)=[]:=(rfl)
theorem qhf {n s:Nat} {cs:List VV}:ownIds (.fz n s cs)=[]:=(rfl)
theorem qe9 {cs:List VV}:ownIds (.st cs)=cs.flatMap ownIds1:=(rfl)
theorem qeg {n s:Nat} {cs:List VV}:ownIds1 (.fz n s cs)=[]:=(rfl)
def regOps:Code→Array Oper
 | .region _ ops _=>ops
 | _=>#[]
theorem qsz {P:Program} {base:CallF} {n:Nat} {fv:Value} {args:List Value} {H:Heap} (h:base fv args H=none):evB P base (n+1) fv args H=evBody P (evB P base n) n fv args H:=by
 show (match base fv args H with | some r=>some r | none=>evBody P (evB P base n) n fv args H)=_
 rw [h]
end Go.Abs
namespace Go.Abs
structure Cod (α:Type) where
 enc:α→VV
 dec:VV→Option α
 ok:∀ (Z:Nat→Prop) (H:Heap) (A:VV) (x:α) (v:Value),dec A=some x→RepC Z H A v→RepC Z H (enc x) v
def optD {α β:Type} (x:Option α) (k:α→Option β):Option β:=match x with
 | some y=>k y
 | none=>none
theorem qbt {α β:Type} {x x':Option α} {k:α→Option β} (h:x=x'):optD x k=optD x' k:=by rw [h]
theorem qak {α β:Type} {y:α} {k:α→Option β}:optD (some y) k=k y:=(rfl)
def cL:Cod (List Int):=⟨fun l=>vL l,asL,fun _ _ _ _ _ h hr=>qq4 h hr⟩
def asI:VV→Option Int
 | .sc (.int .i64 z)=>some z
 | _=>none
def cI:Cod Int:=⟨fun z=>vI z,asI,fun Z H A x v h hr=>by
 unfold asI at h
 split at h
 ·injection h with h;subst h;exact hr
 ·cases h⟩
def asS:VV→Option ByteArray
 | .sc (.string z)=>some z
 | _=>none
def cS:Cod ByteArray:=⟨fun z=>.sc (.string z),asS,fun Z H A x v h hr=>by
 unfold asS at h
 split at h
 ·injection h with h;subst h;exact hr
 ·cases h⟩
def asY:VV→Option Int
 | .sc (.int .u8 z)=>some z
 | _=>none
def cY:Cod Int:=⟨fun z=>.sc (.int .u8 z),asY,fun Z H A x v h hr=>by
 unfold asY at h
 split at h
 ·injection h with h;subst h;exact hr
 ·cases h⟩
abbrev vO (r u:List Int):VV:=.st [vL r,vL u]
def asO:VV→Option (List Int×List Int)
 | .st [A,B]=>match asL A,asL B with
   | some r,some u=>some (r,u)
   | _,_=>none
 | _=>none
def cO:Cod (List Int×List Int):=⟨fun o=>vO o.1 o.2,asO,fun Z H A x v h hr=>by
 unfold asO at h
 split at h
 ·split at h
  ·rename_i r u h1 h2
   injection h with h;subst h
   simp only [RepC] at hr ⊢
   obtain ⟨vs,e,h3⟩:=hr
   refine ⟨vs,e,?_⟩
   simp only [RepCL] at h3 ⊢
   obtain ⟨w,ws,e1,k1,w2,ws2,e2,k2,k3⟩:=h3
   exact ⟨w,ws,e1,qq4 h1 k1,w2,ws2,e2,qq4 h2 k2,k3⟩
  ·cases h
 ·cases h⟩
def lls (l:List (List Int)):List VV:=l.map fun r=>vL r
abbrev vLL (l:List (List Int)):VV:=.fz l.length 1 (lls l)
section
variable {α β γ:Type}
theorem enc_L {l:List Int}:cL.enc l=vL l:=(rfl)
theorem enc_I {z:Int}:cI.enc z=vI z:=(rfl)
theorem enc_S {z:ByteArray}:cS.enc z = .sc (.string z):=(rfl)
theorem enc_Y {z:Int}:cY.enc z = .sc (.int .u8 z):=(rfl)
theorem enc_O {r u:List Int}:cO.enc (r,u)=vO r u:=(rfl)
theorem dec_L {n:Nat} {l:List Int}:cL.dec (.fz n 1 (li l))=some l:=qnt l
theorem dec_I {z:Int}:cI.dec (.sc (.int .i64 z))=some z:=(rfl)
theorem dec_S {z:ByteArray}:cS.dec (.sc (.string z))=some z:=(rfl)
theorem dec_Y {z:Int}:cY.dec (.sc (.int .u8 z))=some z:=(rfl)
theorem dec_O {m n:Nat} {r u:List Int}:cO.dec (.st [.fz m 1 (li r),.fz n 1 (li u)])=some (r,u):=by
 show asO (.st [.fz m 1 (li r),.fz n 1 (li u)])=some (r,u)
 simp only [asO]
 rw [show asL (.fz m 1 (li r))=some r from qnt r,show asL (.fz n 1 (li u))=some u from qnt u]
def spec1 (c:Cod α) (p:α→Bool) (g:α→VV) (fr:Bool):VSpec:=fun args=>match args with
 | [A]=>optD (c.dec A) fun x=>iteB (p x) (some (g x,fr)) none
 | _=>none
def spec2 (c:Cod α) (d:Cod β) (p:α→β→Bool) (g:α→β→VV) (fr:Bool):VSpec:=fun args=>match args with
 | [A,B]=>optD (c.dec A) fun x=>optD (d.dec B) fun y=>iteB (p x y) (some (g x y,fr)) none
 | _=>none
def spec3 (c:Cod α) (d:Cod β) (e:Cod γ) (p:α→β→γ→Bool) (g:α→β→γ→VV) (fr:Bool):VSpec:=fun args=>match args with
 | [A,B,C]=>optD (c.dec A) fun x=>optD (d.dec B) fun y=>optD (e.dec C) fun z=>iteB (p x y z) (some (g x y z,fr)) none
 | _=>none
def spec0 (g:VV) (fr:Bool):VSpec:=fun args=>match args with
 | []=>some (g,fr)
 | _=>none
theorem sp0 {g:VV} {fr:Bool}:spec0 g fr []=some (g,fr):=(rfl)
theorem sp1 {c:Cod α} {p:α→Bool} {g:α→VV} {fr:Bool} {A:VV}:spec1 c p g fr [A]=optD (c.dec A) fun x=>iteB (p x) (some (g x,fr)) none:=(rfl)
theorem sp2 {c:Cod α} {d:Cod β} {p:α→β→Bool} {g:α→β→VV} {fr:Bool} {A B:VV}:spec2 c d p g fr [A,B]=optD (c.dec A) fun x=>optD (d.dec B) fun y=>iteB (p x y) (some (g x y,fr)) none:=(rfl)
theorem sp3 {c:Cod α} {d:Cod β} {e:Cod γ} {p:α→β→γ→Bool} {g:α→β→γ→VV} {fr:Bool} {A B C:VV}:spec3 c d e p g fr [A,B,C]=optD (c.dec A) fun x=>optD (d.dec B) fun y=>optD (e.dec C) fun z=>iteB (p x y z) (some (g x y z,fr)) none:=(rfl)
theorem qjh {x:Option α} {k:α→Option β} {r:β} (h:optD x k=some r):∃ y,x=some y∧k y=some r:=by
 unfold optD at h
 cases x with
 | none=>cases h
 | some y=>exact ⟨y,rfl,h⟩
theorem qq6 {b:Bool} {x:α} {r:α} (h:iteB b (some x) none=some r):b=true∧x=r:=by
 cases b with
 | false=>cases h
 | true=>injection h with h;exact ⟨rfl,h⟩
theorem qpk {c:Cod α} {p:α→Bool} {g:α→VV} {fr:Bool} {args:List VV} {r:VV} {fresh:Bool} (h:spec1 c p g fr args=some (r,fresh)) :
  ∃ x,p x=true∧r=g x∧fresh=fr∧∀ Z H vs,RepCL Z H args vs→RepCL Z H [c.enc x] vs:=by
 unfold spec1 at h
 split at h
 ·rename_i A
  obtain ⟨x,h1,h2⟩:=qjh h
  obtain ⟨h3,h4⟩:=qq6 h2
  injection h4 with h4 h5
  refine ⟨x,h3,h4.symm,h5.symm,fun Z H vs hr=>?_⟩
  simp only [RepCL] at hr ⊢
  obtain ⟨w,ws,e,k1,k2⟩:=hr
  exact ⟨w,ws,e,c.ok _ _ _ _ _ h1 k1,k2⟩
 ·cases h
theorem qlo {c:Cod α} {d:Cod β} {p:α→β→Bool} {g:α→β→VV} {fr:Bool} {args:List VV} {r:VV} {fresh:Bool} (h:spec2 c d p g fr args=some (r,fresh)) :
  ∃ x y,p x y=true∧r=g x y∧fresh=fr∧∀ Z H vs,RepCL Z H args vs→RepCL Z H [c.enc x,d.enc y] vs:=by
 unfold spec2 at h
 split at h
 ·rename_i A B
  obtain ⟨x,h1,h2⟩:=qjh h
  obtain ⟨y,q1,q2⟩:=qjh h2
  obtain ⟨h3,h4⟩:=qq6 q2
  injection h4 with h4 h5
  refine ⟨x,y,h3,h4.symm,h5.symm,fun Z H vs hr=>?_⟩
  simp only [RepCL] at hr ⊢
  obtain ⟨w,ws,e,k1,w2,ws2,e2,k2,k3⟩:=hr
  exact ⟨w,ws,e,c.ok _ _ _ _ _ h1 k1,w2,ws2,e2,d.ok _ _ _ _ _ q1 k2,k3⟩
 ·cases h
theorem spec3_inv {c:Cod α} {d:Cod β} {e:Cod γ} {p:α→β→γ→Bool} {g:α→β→γ→VV} {fr:Bool} {args:List VV} {r:VV} {fresh:Bool} (h:spec3 c d e p g fr args=some (r,fresh)) :
  ∃ x y z,p x y z=true∧r=g x y z∧fresh=fr∧∀ Z H vs,RepCL Z H args vs→RepCL Z H [c.enc x,d.enc y,e.enc z] vs:=by
 unfold spec3 at h
 split at h
 ·rename_i A B C
  obtain ⟨x,h1,h2⟩:=qjh h
  obtain ⟨y,q1,q2⟩:=qjh h2
  obtain ⟨z,p1,p2⟩:=qjh q2
  obtain ⟨h3,h4⟩:=qq6 p2
  injection h4 with h4 h5
  refine ⟨x,y,z,h3,h4.symm,h5.symm,fun Z H vs hr=>?_⟩
  simp only [RepCL] at hr ⊢
  obtain ⟨w,ws,e1,k1,w2,ws2,e2,k2,w3,ws3,e3,k3,k4⟩:=hr
  exact ⟨w,ws,e1,c.ok _ _ _ _ _ h1 k1,w2,ws2,e2,d.ok _ _ _ _ _ q1 k2,w3,ws3,e3,e.ok _ _ _ _ _ p1 k3,k4⟩
 ·cases h
end
end Go.Abs
