/- Of the law: texts of its proof, joined (part 7). -/
import Derived.OpenShut
import Derived.WideShapes
import Derived.Test.YtmdnofcphdjieaaGreatDoorQos3
import Derived.Test.YtmdnofcphdjieaaGreatDoorQos4
import Derived.Test.YtmdnofcphdjieaaGreatDoorQos5
import Derived.Test.YtmdnofcphdjieaaGreatDoorQos6
set_option linter.all false
namespace Go.Abs
structure PermOf (ops0 ops:Array Oper) (s u:Nat→Nat):Prop where
 size:ops0.size=ops.size
 us:∀ x,u (s x)=x
 su:∀ x,s (u x)=x
 lt:∀ x,u x < ops.size↔x < ops.size
 get:∀ x,x < ops.size→∃ o0,ops0[s x]?=some o0∧o0={ opAt ops x with after:=o0.after }
 free:∀ x,x < ops.size→(opAt ops x).guard=none
 pre0:∀ j,j < ops0.size→∀ i∈preds (ops0.getD j default),i < j
 pre:∀ x,x < ops.size→∀ p∈preds (opAt ops x),s p∈preds (opAt ops0 (s x))
section
variable {P:Program} {call:CallF} {ops:Array Oper} {a:Fr} {H:Heap} {nt:Nat} {m0:Mp} {w0 w:World} {L:Nat→Bool} {M:Mp} {tmps:Array Value} {c:Nat}
theorem PermOf.topo {ops0:Array Oper} {s u:Nat→Nat} (h:PermOf ops0 ops s u):∀ {l:List Nat} {L0:Nat→Bool},Topo ops0 L0 l→Topo ops (fun x=>L0 (s x)) (l.map u):=by
 intro l L0 hT
 induction hT with
 | nil L hall=>exact .nil _ fun i hi=>hall _ (by have:=(h.lt (s i)).1 (by rw [h.us];exact hi);rw [h.size];exact this)
 | cons L i l hi hL hp _ ih =>
   have hu:u i < ops.size:=(h.lt i).2 (by rw [← h.size];exact hi)
   refine .cons _ _ _ hu (by rw [h.su];exact hL) (fun p hpp=>?_) ?_
   ·have:=h.pre _ hu p hpp
    rw [h.su] at this
    exact hp _ this
   ·have e:(fun j=>decide (j=u i) || L (s j))=fun x=>(fun j=>decide (j=i) || L j) (s x):=by
     funext j
     have:(j=u i)↔(s j=i):=⟨fun e=>by rw [e,h.su],fun e=>by rw [← e,h.us]⟩
     simp only [this]
    rw [e];exact ih
variable (hcall:CallOK P call) (hg:CallGrow call) (hD:DrawF ops) (hok:∀ j,j < ops.size→StepOk P call ops a H (Region.before ops) j) (hops:∀ o∈ops.toList,operOk nt o=true) {ops0:Array Oper} {s u:Nat→Nat} (hpm:PermOf ops0 ops s u)
include hcall hg hD hok hops hpm
theorem inv_stepP (hI:Inv P call ops a H nt m0 w0 L M w tmps c) {x:Nat} (hx:x < ops.size) (hLx:L x=false) (hp:∀ p∈preds (opAt ops x),L p=true) :
  ∀ b ds rest k cs,∃ M' w' tmps' c',Inv P call ops a H nt m0 w0 (fun j=>decide (j=x) || L j) M' w' tmps' c'∧Steps P (lone (onF b tmps ds (.inRegion ops0 (s x::rest)::k)) cs w) (lone (onF b tmps' ds (.inRegion ops0 rest::k)) cs w'):=by
 intro b ds rest k cs
 have hbits:=hI.down.bits hD hx hp
 have hwant:=hI.wanted hg hD hok hops hx hbits
 have hget:=qg7 hx
 obtain ⟨o0,h0,hz⟩:=hpm.get x hx
 have hg0:=hpm.free x hx
 have hopok:=hops _ (List.mem_of_getElem? (by simpa using hget:ops.toList[x]?=some (opAt ops x)))
 have hopnd:∀ z∈(opAt ops x).op.operands.toList,VR (rst M (hl P call ops a H (max x c))) (ev (trA P call ops a H x) z) (evC tmps z):=fun z hz=>hI.opnd hg hD hok hx hLx hbits hz (qgn hopok z hz)
 have hcn:=hI.le
 have hle1:hl P call ops a H (max x c)≤hl P call ops a H (max (x+1) c):=qdd hg hok (by omega) (by omega)
 have hd0:o0.dst=(opAt ops x).dst:=by rw [hz]
 have ho0:o0.op=(opAt ops x).op:=by rw [hz]
 have hst:∀ b H,stepA P call b o0 H=stepA P call b (opAt ops x) H:=fun b H=>by rw [hz];rfl
 have hwant0:∀ ys,Region.wanted o0 ys=true:=fun ys=>by rw [hz];unfold Region.wanted;rw [hg0]
 cases hw:trW P call ops a H x with
 | false =>
   have:trW P call ops a H x=true:=by unfold trW Region.wanted;rw [hg0]
   rw [this] at hw;cases hw
 | true =>
   rw [hw] at hwant
   have quietly:cls (opAt ops x).op = .pure_∨cls (opAt ops x).op = .read→(∀ G,Sub (trH P call ops a H c) G→∃ G',aexec P (trA P call ops a H x) (opAt ops x) G=some (trV P call ops a H x,G')) →
     ∃ M' w' tmps' c',Inv P call ops a H nt m0 w0 (fun j=>decide (j=x) || L j) M' w' tmps' c'∧Steps P (lone (onF b tmps ds (.inRegion ops0 (s x::rest)::k)) cs w) (lone (onF b tmps' ds (.inRegion ops0 rest::k)) cs w'):=by
    intro hcl hrun
    have hE:¬ isE P call ops a H x:=fun h=>by have h2:=h.2;rw [h2] at hcl;rcases hcl with e | e<;>cases e
    have hm:¬ mkAt P call ops a H x:=fun h=>by have h2:=h.2;rw [h2] at hcl;rcases hcl with e | e<;>cases e
    obtain ⟨G,g1,g2,g3,_⟩:=layers hg hok hI (max x c - c) (by omega)
    rw [show c+(max x c - c)=max x c from by omega] at g1 g2
    obtain ⟨G',hG'⟩:=hrun G g3
    have hstep:stepA P call (trA P call ops a H x) (opAt ops x) G=some (trV P call ops a H x,G'):=by
     rw [qif (fun e=>by rw [e] at hcl;rcases hcl with e | e<;>cases e)];exact hG'
    have q0:=qos hcall g1.rel h0 (by rw [ho0];exact hopnd) (hwant0 _) (by rw [hst];exact hstep) b ds rest k cs
    rw [hd0,ho0] at q0
    obtain ⟨m',w',v',_,s2,s3,s4⟩:=q0
    obtain ⟨rfl,rfl⟩:=s4 hcl
    exact ⟨M,w',_,c,hI.quiet hg hok hD hx hp hE hm (s2.mono (qdc (.refl M) hle1)),s3⟩
   cases hcl:cls (opAt ops x).op with
   | pure_ =>
     obtain ⟨G,hG⟩:=(hok x hx).quiet hw (.inl hcl)
     exact quietly (.inl hcl) fun G' _=>⟨G',(qfu hcl hG).2 G'⟩
   | read =>
     obtain ⟨G,hG⟩:=stable hok hx hw hcl hcn hI.at_ (fun e he hEe hce=>by
      cases hb:((Region.before ops).getD x 0).testBit e with
      | false=>rfl
      | true =>
        have:=(hI.eff e he hEe).1 (hbits e hb)
        omega) (fun e hec hEe=>by
      cases hb:((Region.before ops).getD e 0).testBit x with
      | false=>rfl
      | true =>
        have:=hI.down e (by omega) ((hI.eff e (by omega) hEe).2 hec) x hb
        rw [hLx] at this;cases this)
     exact quietly (.inr hcl) fun G' hS=>⟨G',qi5 hcl hG hS⟩
   | all_ =>
     have hm:mkAt P call ops a H x:=⟨hw,hcl⟩
     have hE:¬ isE P call ops a H x:=fun h=>by have h2:=h.2;rw [hcl] at h2;cases h2
     have hcx:c≤x:=by
      rcases hI.at_ with e | ⟨e,rfl,hEe⟩
      ·omega
      ·rcases Nat.lt_trichotomy x e with h | h | h
       ·have:=hI.down e (by omega) ((hI.eff e (by omega) hEe).2 (by omega)) x (hD.alloc x e h (by omega) hcl hEe.2)
        rw [hLx] at this;cases this
       ·subst h;exact absurd hEe hE
       ·omega
     have hmax:max x c=x:=by omega
     rw [hmax] at hopnd
     have hal:=(hok x hx).alloc hw hcl
     obtain ⟨B,obj,N,v',q1,q2,q3,q4,q5⟩:=qma (w:=w) hopnd hcl hal
     have hhl:hl P call ops a H (x+1)=hl P call ops a H x+1:=by unfold hl;rw [q1];simp
     have hfree:M (hl P call ops a H x)=none:=qie hg hok hI hx hcx (by rw [hLx];simp) (Nat.le_refl _) (by omega)
     have hE':Ext M (psh M (hl P call ops a H x) ⟨w.heap.size,0,N⟩):=.push _ hfree
     have hEr:Ext (rst M (hl P call ops a H x)) (rst (psh M (hl P call ops a H x) ⟨w.heap.size,0,N⟩) (hl P call ops a H (x+1))):=qdc hE' (by omega)
     have hnew:rst (psh M (hl P call ops a H x) ⟨w.heap.size,0,N⟩) (hl P call ops a H (x+1)) (hl P call ops a H x)=some ⟨w.heap.size,0,N⟩:=qdh.2 ⟨by omega,qcq ..⟩
     have hbaseM:rst (psh M (hl P call ops a H x) ⟨w.heap.size,0,N⟩) (hl P call ops a H c)=rst M (hl P call ops a H c):=by
      have h1:=qdd hg hok hcx (by omega)
      funext b
      unfold rst
      split
      ·rw [qci _ (by omega)]
      ·rfl
     have hMlt:∀ b k,M b=some k→k.g < w.heap.size:=fun b k hb=>by
      rcases hI.dom b k hb with h | ⟨y,hy,hcy,hLy,hmy,rfl⟩
      ·exact hI.base.rel.bnd b k (qdh.2 ⟨h,hb⟩)
      ·obtain ⟨l,B',e1,_,_,_,e5,_⟩:=hI.early y hy hcy hLy hmy
       rw [e1] at hb;injection hb with hb;rw [← hb];exact e5
     refine ⟨psh M (hl P call ops a H x) ⟨w.heap.size,0,N⟩,{ w with heap:=w.heap.push obj },putC tmps (opAt ops x).dst v',c,⟨hcn,hI.at_,fun e he hEe=>?_,hI.down.add hD hx hp,?_,fun y hy hcy hLy hmy=>?_,fun b l hb=>?_,by rw [qgr];exact hI.size,?_⟩,.one (by have q0:=qna (P:=P) (tmps:=tmps) (ds:=ds) (b:=b) (k:=k) (cs:=cs) (rest:=rest) h0 (hwant0 _) (fun c=>by rw [ho0];exact qfk (call:=call) (by rw [qif (by rw [hcl];simp)];exact hal) c) (by rw [hz];exact q3) rfl;rw [hd0] at q0;exact q0)⟩
     ·have:e≠x:=fun h=>hE (h▸hEe)
      simpa [this] using hI.eff e he hEe
     ·rw [hbaseM]
      exact hI.base.trans (Sim.junk hI.base.rel obj)
     ·by_cases hyx:y=x
      ·subst hyx
       refine ⟨⟨w.heap.size,0,N⟩,B,qcq ..,q1,q2,q5 _ _ hEr (qd0 w obj),by simp,hI.base.keep.size,fun b k hb hk=>?_⟩
       rw [qci _ hb] at hk
       have:=hMlt b k hk
       simp;omega
      ·obtain ⟨l,B',e1,e2,e3,e4,e5,e6,e7⟩:=hI.early y hy hcy (by simpa [hyx] using hLy) hmy
       refine ⟨l,B',hE' _ _ e1,e2,e3,e4.keep (qdc hE' (Nat.le_refl _)) fun _=>qdo w obj e5,by simp;omega,e6,fun b k hb hk=>?_⟩
       by_cases hbx:b=hl P call ops a H x
       ·subst hbx
        rw [qcq] at hk
        injection hk with hk
        subst hk
        simp;omega
       ·rw [qci _ hbx] at hk
        exact e7 b k hb hk
     ·by_cases hbx:b=hl P call ops a H x
      ·exact .inr ⟨x,hx,hcx,by simp,hm,hbx⟩
      ·rw [qci _ hbx] at hb
       exact (hI.dom b l hb).imp id fun ⟨y,hy,hc,hL,h⟩=>⟨y,hy,hc,by simp [hL],h⟩
     ·refine qgq hx hD hI.frame hI.size (fun _ _=>qdc hE' (Nat.le_refl _)) (qdc hE' (Nat.le_refl _)) ?_
      rw [show max (x+1) c=x+1 from by omega]
      exact q4 _ hEr hnew
   | eff =>
     have hE:isE P call ops a H x:=⟨hw,hcl⟩
     have hm:¬ mkAt P call ops a H x:=fun h=>by have h2:=h.2;rw [hcl] at h2;cases h2
     have hcx:c≤x:=by
      rcases Nat.lt_or_ge x c with h | h
      ·have:=(hI.eff x hx hE).2 h
       rw [hLx] at this;cases this
      ·exact h
     have hmax:max x c=x:=by omega
     rw [hmax] at hopnd
     have hnoE:∀ e,c≤e→e < x→¬ isE P call ops a H e:=fun e h1 h2 hEe=>by
      have:=(hI.eff e (by omega) hEe).1 (hbits e (hD.effs e x h2 hx hEe.2 hcl))
      omega
     obtain ⟨G,g1,g2,_,g4⟩:=layers hg hok hI (x - c) (by omega)
     rw [show c+(x - c)=x from by omega] at g1 g2 g4
     have hG:=g4 fun j h1 h2=>⟨hnoE j h1 h2,fun hmj=>hbits j (hD.alloc j x h2 hx hmj.2 hcl)⟩
     subst hG
     have hstep:=((hok x hx).eff hE).1
     have q0:=qos hcall g1.rel h0 (by rw [ho0];exact hopnd) (hwant0 _) (by rw [hst];exact hstep) b ds rest k cs
     rw [hd0,ho0] at q0
     obtain ⟨m',w',v',s1,s2,s3,_⟩:=q0
     have hstp:=qnb hg hok hx
     let M':Mp:=fun b=>if b < hl P call ops a H (x+1) then m' b else M b
     have hMlo:∀ {b},b < hl P call ops a H (x+1)→M' b=m' b:=fun h=>if_pos h
     have hMhi:∀ {b},hl P call ops a H (x+1)≤b→M' b=M b:=fun h=>if_neg (by omega)
     have hExt:Ext M M':=fun b l hb=>by
      rcases Nat.lt_or_ge b (hl P call ops a H (x+1)) with h | h
      ·rw [hMlo h]
       rcases Nat.lt_or_ge b (hl P call ops a H x) with h1 | h1
       ·exact s1.ext _ _ (qdh.2 ⟨h1,hb⟩)
       ·rw [qie hg hok hI hx hcx (by rw [hLx];simp) h1 h] at hb;cases hb
      ·rw [hMhi h];exact hb
     have hM':rst M' (hl P call ops a H (x+1))=m':=by
      funext b
      unfold rst
      split
      ·exact hMlo (by assumption)
      ·cases hb:m' b with
       | none=>rfl
       | some l=>exact absurd (s1.rel.len b l hb) (by assumption)
     have hyx:∀ y,y < ops.size→x+1≤y→hl P call ops a H (x+1)≤hl P call ops a H y:=fun y hy h=>qdd hg hok h (by omega)
     refine ⟨M',w',_,x+1,⟨by omega,.inr ⟨x,rfl,hE⟩,fun e he hEe=>?_,hI.down.add hD hx hp,?_,fun y hy hcy hLy hmy=>?_,fun b l hb=>?_,by rw [qgr];exact hI.size,?_⟩,s3⟩
     ·simp only [Bool.or_eq_true,decide_eq_true_eq]
      rw [hI.eff e he hEe]
      constructor
      ·intro h;omega
      ·intro h
       rcases Nat.lt_or_ge e x with h1 | h1
       ·rcases Nat.lt_or_ge e c with h2 | h2
        ·exact .inr h2
        ·exact absurd hEe (hnoE e h2 h1)
       ·exact .inl (by omega)
     ·rw [hM'];exact g1.trans s1
     ·have hne:y≠x:=by omega
      obtain ⟨l,B',e1,e2,e3,e4,e5,e6,e7⟩:=hI.early y hy (by omega) (by simpa [hne] using hLy) hmy
      have hhy:=hyx y hy hcy
      have hnot:¬ Owned (rst M (hl P call ops a H x)) (trH P call ops a H x) l.g:=fun ⟨b,_,k,_,k2,_,k4⟩=>by
       rw [qdh] at k2
       exact e7 b k (fun e=>by omega) k2.2 k4
      refine ⟨l,B',by rw [hMhi hhy];exact e1,e2,e3,e4.keep (qdc hExt (Nat.le_refl _)) fun _=>s1.keep.block _ e5 hnot,Nat.lt_of_lt_of_le e5 s1.keep.size,e6,fun b k hb hk=>?_⟩
      rcases Nat.lt_or_ge b (hl P call ops a H (x+1)) with h | h
      ·rw [hMlo h] at hk
       rcases s1.img b k hk with ⟨c0,k0,h1,h2⟩ | h1
       ·rw [qdh] at h1
        rw [← h2]
        exact e7 c0 k0 (fun e=>by omega) h1.2
       ·omega
      ·rw [hMhi h] at hk
       exact e7 b k hb hk
     ·rcases Nat.lt_or_ge b (hl P call ops a H (x+1)) with h | h
      ·exact .inl h
      ·rw [hMhi h] at hb
       rcases hI.dom b l hb with h1 | ⟨y,hy,hcy,hLy,hmy,rfl⟩
       ·have:=qdd hg hok (show c≤x+1 by omega) (by omega)
        omega
       ·refine .inr ⟨y,hy,?_,by simp [hLy],hmy,rfl⟩
        rcases Nat.lt_or_ge y (x+1) with h2 | h2
        ·have e1:=mk_hl hok hI hy hcy hLy hmy
         have:=qdd hg hok (show y+1≤x+1 by omega) (by omega)
         omega
        ·exact h2
     ·refine qgq hx hD hI.frame hI.size (fun y hy=>qdc hExt (qdd hg hok (by omega) (by omega))) (qdc hExt (qdd hg hok (by omega) (by omega))) ?_
      rw [show max (x+1) (x+1)=x+1 from by omega,hM']
      exact s2
theorem inv_runP:∀ {l:List Nat} {L:Nat→Bool},Topo ops L l→∀ {M:Mp} {w:World} {tmps:Array Value} {c:Nat},Inv P call ops a H nt m0 w0 L M w tmps c →
  ∀ b ds k cs,∃ m' w' tmps',Sim m0 H w0 m' (trH P call ops a H ops.size) w'∧FR m' nt (trA P call ops a H ops.size) tmps'∧Steps P (lone (onF b tmps ds (.inRegion ops0 (l.map s)::k)) cs w) (lone (onF b tmps' ds k) cs w'):=by
 intro l L hT
 induction hT with
 | nil L hall =>
   intro M w tmps c hI b ds k cs
   have hcn:=hI.le
   obtain ⟨G,g1,g2,_,g4⟩:=layers hg hok hI (ops.size - c) (by omega)
   rw [show c+(ops.size - c)=ops.size from by omega] at g1 g2 g4
   have hG:=g4 fun j h1 h2=>⟨fun hE=>by
    have:=(hI.eff j h2 hE).1 (hall j h2)
    omega,fun _=>hall j h2⟩
   subst hG
   refine ⟨_,w,tmps,g1,⟨hI.size,fun t ht=>?_⟩,.one qgo⟩
   obtain ⟨v',h1,h2⟩:=hI.frame t ht
   refine ⟨v',h1,?_⟩
   rcases h2 with ⟨y,hy,hLy,hd,hv⟩ | ⟨hno,hv⟩
   ·rw [qr2 hD hok hd _ (Nat.le_refl _) hy]
    exact hv.mono (qdc (.refl M) (qdd hg hok (by omega) (Nat.le_refl _)))
   ·rw [trA_no hok _ (Nat.le_refl _) fun y hy=>hno y hy (hall y hy)]
    exact hv.mono (qdc (.refl M) (qdd hg hok hcn (Nat.le_refl _)))
 | cons L x l hx hLx hp _ ih =>
   intro M w tmps c hI b ds k cs
   obtain ⟨M',w',t',c',hI',hs⟩:=inv_stepP hcall hg hD hok hops hpm hI hx hLx hp b ds (l.map s) k cs
   obtain ⟨m2,w2,t2,r1,r2,r3⟩:=ih hI' b ds k cs
   exact ⟨m2,w2,t2,r1,r2,hs.trans r3⟩
end
theorem drawP {P:Program} (hmix:P.follows .mixedOrders=true) {call:CallF} (hcall:CallOK P call) (hg:CallGrow call) {nt:Nat} {ops ops0:Array Oper} (hops:∀ o∈ops.toList,operOk nt o=true) (hdr:drawOk ops (Region.before ops) (effs ops)=true) {s u:Nat→Nat} (hpm:PermOf ops0 ops s u) {a a':Fr} {H H':Heap}
  (h:evDraw P call ops (Region.before ops) (List.range ops.size) a H [(none,H)] []=some (a',H')) {m:Mp} {w:World} {tmps:Array Value} (t:Nat) (hR:Rel m H w) (hf:FR m nt a tmps) (b:Frame) (ds:List Deferred) (k:List Item) (cs:List Frame) :
  ∃ m' w' tmps',Sim m H w m' H' w'∧FR m' nt a' tmps'∧Steps P (lone (onF b tmps ds (.inRegion ops0 (Region.schedule (P.follows .mixedOrders) ops0 t)::k)) cs w) (lone (onF b tmps' ds k) cs w'):=by
 have hD:=DrawF.of hdr
 rw [List.range_eq_range'] at h
 obtain ⟨⟨rfl,rfl⟩,hok⟩:=trace (P:=P) (call:=call) (ops:=ops) (a:=a) (H:=H) (bef:=Region.before ops) ops.size 0 (by omega) h
 have hI:Inv P call ops a H nt m w (fun _=>false) m w tmps 0:=by
  have hself:rst m (hl P call ops a H 0)=m:=qr1 hR.len
  refine ⟨Nat.zero_le _,.inl rfl,fun e _ _=>by simp,fun j _ hj=>by simp at hj,?_,fun x _ _ hL=>by simp at hL,fun b l hb=>.inl (hR.len b l hb),hf.1,fun t ht=>?_⟩
  ·rw [hself];exact .refl hR
  ·obtain ⟨v',h1,h2⟩:=hf.2 t ht
   exact ⟨v',h1,.inr ⟨fun _ _ hL=>by simp at hL,by rw [hself];exact h2⟩⟩
 rw [hmix]
 have:Region.schedule true ops0 t=Region.linearise .any ops0 t:=by simp [Region.schedule]
 rw [this]
 have q:=inv_runP hcall hg hD (fun j hj=>hok j (Nat.zero_le _) hj) hops hpm (hpm.topo (qhe hpm.pre0 t)) hI b ds k cs
 have e:((Region.linearise .any ops0 t).map u).map s=Region.linearise .any ops0 t:=by
  rw [List.map_map]
  conv=>rhs;rw [← List.map_id (Region.linearise .any ops0 t)]
  exact List.map_congr_left fun x _=>hpm.su x
 rw [e] at q
 exact q
end Go.Abs
namespace Go.Abs
section
variable {P:Program} {call:CallF} {kk nt:Nat}
def For (P:Program) (call:CallF) (kk nt:Nat) (c c':Code):Prop:=∀ (lo:Nat) (b:Frame),b.roundOf=none→∀ {a a':Fr} {H H':Heap} {x:X} {m:Mp} {w:World} {tmps:Array Value} {ds:List Deferred},
 evCode P call kk nt none c' a H=some (x,a',H')→Rel m H w→FR m nt a tmps→Marks lo m H w ds→OutC P nt lo b none c m H w tmps ds x a' H'
theorem For.same (hcall:CallOK P call) (hdraw:DrawOK P call nt) {c:Code} (hok:codeOk nt c=true):For P call kk nt c c :=
 fun _ b hb _ _ _ _ _ _ _ _ _ h hR hf hM=>qkf hcall hdraw b none kk c hok h hR hf hM hb (fun h=>absurd rfl h)
theorem For.seq {c c' d d':Code} (h1:For P call kk nt c c') (h2:For P call kk nt d d'):For P call kk nt (.seq c d) (.seq c' d'):=by
 intro lo b hb a a' H H' x m w tmps ds h hR hf hM k cs
 simp only [evCode] at h
 split at h
 ·rename_i a1 H1 e1
  obtain ⟨m1,w1,t1,d1,s1,s2,s3,s4,s5⟩:=h1 lo b hb e1 hR hf hM (.code d::k) cs
  obtain ⟨m2,w2,t2,d2,q1,q2,q3,q4,q5⟩:=h2 lo b hb h s1.rel s2 s3 k cs
  refine ⟨m2,w2,t2,d2,s1.trans q1,q2,q3,q4,?_⟩
  have hs:Steps P _ _:=s5
  have hs':=Steps.head (ql9 (P:=P)) hs
  have hq:=q5
  cases x with
  | normal=>exact hs'.trans hq
  | exit id=>obtain ⟨k',e1,e2⟩:=hq;exact ⟨k',e1,hs'.trans e2⟩
  | ret=>obtain ⟨k',e2⟩:=hq;exact ⟨k',hs'.trans e2⟩
 ·rename_i hne
  obtain ⟨m1,w1,t1,d1,s1,s2,s3,s4,s5⟩:=h1 lo b hb h hR hf hM (.code d::k) cs
  refine ⟨m1,w1,t1,d1,s1,s2,s3,s4,?_⟩
  have hs:=s5
  cases x with
  | normal=>exact absurd h (hne _ _)
  | exit id=>obtain ⟨k',e1,e2⟩:=hs;exact ⟨k',by rw [e1,qhk rfl],Steps.head (ql9 (P:=P)) e2⟩
  | ret=>obtain ⟨k',e2⟩:=hs;exact ⟨k',Steps.head (ql9 (P:=P)) e2⟩
theorem For.region (hmix:P.follows .mixedOrders=true) (hcall:CallOK P call) (hg:CallGrow call) {id:Nat} {ops0 ops:Array Oper} (hok:codeOk nt (.region id ops true)=true) {s u:Nat→Nat} (hpm:PermOf ops0 ops s u):For P call kk nt (.region id ops0 true) (.region id ops true):=by
 intro lo b hb a a' H H' x m w tmps ds h hR hf hM k cs
 simp only [codeOk,Bool.and_eq_true] at hok
 have hops:∀ o∈ops.toList,operOk nt o=true:=List.all_eq_true.1 hok.1
 simp only [evCode] at h
 split at h
 ·rename_i a1 H1 h1
  injection h with h;injection h with h1 h2;injection h2 with h2 h3;subst h1;subst h2;subst h3
  have hj:Sim m H w m H { w with drawn:=w.drawn+1 }:=⟨.refl m,hR.world fun _ _=>rfl,⟨rfl,rfl,rfl,Nat.le_refl _,fun _ _ _=>rfl⟩,fun _ h=>.inl h,Nat.le_refl _,fun b l h=>.inl ⟨b,l,h,rfl⟩⟩
  obtain ⟨m1,w1,t1,s1,s2,s3⟩:=drawP hmix hcall hg hops (by simpa using hok.2) hpm h1 (w.tape w.drawn (.order b.fn id)) hj.rel hf b ds k cs
  exact ⟨m1,w1,t1,ds,hj.trans s1,s2,hM.sim (hj.trans s1),fun h=>absurd rfl h,Steps.head st_draw s3⟩
 ·cases h
def bodyC (P:Program) (call:CallF) (n g:Nat) (fn:Func) (c':Code):CallF:=fun fv vs H=>match fv with
 | .func (.func f) first captured=>if f=g∧first.isEmpty∧captured.isEmpty∧vs.length≤fn.ntmps then finB P fn.results.toList (evCode P call n fn.ntmps none c' (frOf vs) H) else none
 | _=>none
theorem bodyC_ok {n g:Nat} {fn:Func} {c c':Code} (hfn:P.funcs[g]?=some fn) (hbody:fn.body=some c) (hname:fn.name ≠ "runtime.NumGoroutine") (hres:fn.results.toList.all (resOk fn.ntmps)=true) (hfor:For P call n fn.ntmps c c'):CallOK P (bodyC P call n g fn c'):=by
 intro fv args H v H' h m w fv' args' hR hfv hargs
 unfold bodyC at h
 split at h
 case h_2=>cases h
 rename_i f first captured
 split at h
 case isFalse=>cases h
 rename_i hcond
 obtain ⟨rfl,hfirst,hcap0,hle⟩:=hcond
 have hfv':∃ cap',fv' = .func (.func f) #[] cap'∧All2 (PR m) captured.toList cap'.toList:=by
  cases hfv with
  | a h=>cases h with
    | s h=>cases h with
      | func f cap cap' hc=>exact ⟨cap',rfl,hc⟩
 obtain ⟨cap',rfl,hcap⟩:=hfv'
 have hc0:cap' = #[]:=by
  have h0:captured.toList=[]:=by simpa using hcap0
  rw [h0] at hcap
  cases hcl:cap'.toList with
  | nil=>simpa using hcl
  | cons _ _=>rw [hcl] at hcap;cases hcap
 subst hc0
 have fin:∀ (x:X) (a:Fr) (H1:Heap) rs,(x = .normal∨x = .ret)→evCode P call n fn.ntmps none c' (frOf args) H=some (x,a,H1)→resList P a H1 fn.results.toList=some rs→v=pack rs→H'=H1 →
   ∃ nx sf,(do let d ← Deferred.ofValue (.func (.func f) #[] #[]) args';invoke d.target d.args).run P w = .ok nx w∧Starts P nx sf∧∀ fr cs,∃ m' w' v',Sim m H w m' H' w'∧VR m' v v'∧Steps P (lone sf (fr::cs) w) (lone (fr.finish v') cs w'):=by
  rintro x a H1 rs hx hev hrs rfl rfl
  refine ⟨.enter f args',Frame.enter P f args' .normal,?_,.enter _ _,fun fr cs=>?_⟩
  ·simp [Deferred.ofValue,invoke,callFunc,program,Sem.run,hfn,hname,hbody]
  ·let b:Frame:={ (default:Frame) with fn:=f,kind:=.normal,roundOf:=none }
   have hf:=qr4 hargs hle
   obtain ⟨m1,w1,t1,d1,s1,s2,s3,_,s5⟩:=hfor w.heap.size b rfl hev hR hf (.nil (Nat.le_refl _)) [] (fr::cs)
   have enter:∀ cs,lone (Frame.enter P f args' .normal) cs w=lone (onF b (args'++Array.replicate (fn.ntmps - args'.toList.length) undef) [] [.code c]) cs w:=by
    intro cs
    simp [Frame.enter,hfn,hbody,onF,b]
   have e0:args'.toList.toArray=args':=by simp
   rw [e0] at s5
   have leave:∃ todo,Steps P (lone (Frame.enter P f args' .normal) (fr::cs) w) (lone { onF b t1 d1 todo with mode:=.returning } (fr::cs) w1):=by
    rcases hx with rfl | rfl
    ·exact ⟨[],by rw [enter];exact Steps.trans s5 (.one (st_end rfl))⟩
    ·obtain ⟨k',hk⟩:=s5
     exact ⟨_,by rw [enter];exact Steps.trans hk (.one (st_ret rfl))⟩
   obtain ⟨w2,k1,k2,k3,k4,k5,k6,k7,k8⟩:=qmb (P:=P) d1 s3 s1.rel
   have hsim:Sim m H w m1 H' w2:=⟨s1.ext,k2,⟨k3.trans s1.keep.os,k4.trans s1.keep.tape,k5.trans s1.keep.output,by rw [k6];exact s1.keep.size,fun g hg hn=>(k7 g hg).trans (s1.keep.block g hg hn)⟩,s1.fresh,s1.grow,s1.img⟩
   obtain ⟨v',r1,r2⟩:=qig (P:=P) k2 s2 hres hrs
   obtain ⟨todo,hs⟩:=leave
   exact ⟨m1,w2,v',hsim,r2,Steps.trans (hs.trans (k1 b t1 todo (fr::cs))) (.one (step_leave_returned ⟨rfl,rfl,rfl,fn,hfn,r1⟩))⟩
 unfold finB at h
 split at h
 ·rename_i a H1 hev
  cases hr:resList P a H1 fn.results.toList with
  | none=>rw [hr] at h;cases h
  | some rs =>
    rw [hr] at h
    simp only [Option.map_some] at h
    injection h with h;injection h with h1 h2
    exact fin _ a H1 rs (.inl rfl) hev hr h1.symm h2.symm
 ·rename_i a H1 hev
  cases hr:resList P a H1 fn.results.toList with
  | none=>rw [hr] at h;cases h
  | some rs =>
    rw [hr] at h
    simp only [Option.map_some] at h
    injection h with h;injection h with h1 h2
    exact fin _ a H1 rs (.inr rfl) hev hr h1.symm h2.symm
 ·cases h
end
end Go.Abs
namespace Go.Abs
section
variable {P:Program}
end
end Go.Abs
namespace Go.Abs
def plcOf (l:List Nat) (x:Nat):Nat:=if x < l.length then l.getD x 0 else x
def numOf (l:List Nat) (x:Nat):Nat:=if x < l.length then l.idxOf x else x
def permOp (l:List Nat) (o:Oper):Oper:={ o with after:=o.after.map fun e=>{ e with on:=numOf l e.on } }
def permOps (l:List Nat) (ops:Array Oper):Array Oper:=(l.map fun i=>permOp l (ops.getD i default)).toArray
def permOk (l:List Nat) (ops:Array Oper):Bool :=
 l.length == ops.size && ((List.range l.length).all fun x=>decide (l.getD x 0 < l.length) && l.idxOf (l.getD x 0) == x && decide (l.idxOf x < l.length) && l.getD (l.idxOf x) 0 == x) &&
 ((List.range l.length).all fun x=>(ops.getD x default).guard.isNone) && ((List.range l.length).all fun j=>(preds (ops.getD j default)).all fun i=>decide (i < j)) &&
 ((List.range l.length).all fun x=>(preds (permOp l (ops.getD (l.getD x 0) default))).all fun p=>(preds (ops.getD (l.getD x 0) default)).contains (plcOf l p))
theorem qjk {l:List Nat} {ops:Array Oper} {x:Nat} (h:x < l.length):opAt (permOps l ops) x=permOp l (ops.getD (l.getD x 0) default):=by
 unfold opAt permOps
 rw [Array.getD_eq_getD_getElem?,List.getElem?_toArray,List.getElem?_map,List.getElem?_eq_getElem h]
 simp only [Option.map_some,Option.getD_some]
 rw [List.getD_eq_getElem?_getD,List.getElem?_eq_getElem h]
 rfl
theorem permOf {l:List Nat} {ops:Array Oper} (h:permOk l ops=true):PermOf ops (permOps l ops) (plcOf l) (numOf l):=by
 unfold permOk at h
 simp only [Bool.and_eq_true,beq_iff_eq] at h
 obtain ⟨⟨⟨⟨h1,h2⟩,h3⟩,h4⟩,h5⟩:=h
 have hsz:(permOps l ops).size=l.length:=by simp [permOps]
 have a2:∀ x,x < l.length→l.getD x 0 < l.length∧l.idxOf (l.getD x 0)=x∧l.idxOf x < l.length∧l.getD (l.idxOf x) 0=x:=fun x hx=>by
  have:=List.all_eq_true.1 h2 x (List.mem_range.2 hx)
  simp only [Bool.and_eq_true,decide_eq_true_eq,beq_iff_eq] at this
  exact ⟨this.1.1.1,this.1.1.2,this.1.2,this.2⟩
 refine ⟨by rw [hsz,h1],fun x=>?_,fun x=>?_,fun x=>?_,fun x hx=>?_,fun x hx=>?_,fun j hj i hi=>?_,fun x hx p hp=>?_⟩
 ·unfold plcOf numOf
  by_cases hx:x < l.length
  ·obtain ⟨q1,q2,_,_⟩:=a2 x hx
   rw [if_pos hx,if_pos q1,q2]
  ·rw [if_neg hx,if_neg hx]
 ·unfold plcOf numOf
  by_cases hx:x < l.length
  ·obtain ⟨_,_,q3,q4⟩:=a2 x hx
   rw [if_pos hx,if_pos q3,q4]
  ·rw [if_neg hx,if_neg hx]
 ·unfold numOf
  rw [hsz]
  by_cases hx:x < l.length
  ·obtain ⟨_,_,q3,_⟩:=a2 x hx
   rw [if_pos hx];exact ⟨fun _=>hx,fun _=>q3⟩
  ·rw [if_neg hx]
 ·rw [hsz] at hx
  have hs:plcOf l x=l.getD x 0:=if_pos hx
  refine ⟨ops.getD (l.getD x 0) default,?_,?_⟩
  ·rw [hs]
   exact qg7 (by rw [← h1];exact (a2 x hx).1)
  ·rw [qjk hx];rfl
 ·rw [hsz] at hx
  rw [qjk hx]
  have:=List.all_eq_true.1 h3 (l.getD x 0) (List.mem_range.2 (a2 x hx).1)
  exact Option.isNone_iff_eq_none.1 this
 ·have:=List.all_eq_true.1 (List.all_eq_true.1 h4 j (List.mem_range.2 (by omega))) i hi
  exact of_decide_eq_true this
 ·rw [hsz] at hx
  have hs:plcOf l x=l.getD x 0:=if_pos hx
  rw [qjk hx] at hp
  have:=List.all_eq_true.1 (List.all_eq_true.1 h5 x (List.mem_range.2 hx)) p hp
  rw [hs]
  exact List.contains_iff_mem.1 this
def permAt (l:List Nat):Code→Code
 | .seq c (.seq (.region id ops d) e)=>.seq c (.seq (.region id (permOps l ops) d) e)
 | c=>c
section
variable {P:Program}
theorem For.permAt (hmix:P.follows .mixedOrders=true) {call:CallF} (hcall:CallOK P call) (hg:CallGrow call) {kk nt:Nat} {l:List Nat} {c e:Code} {id:Nat} {ops:Array Oper} (hp:permOk l ops=true) (h1:codeOk nt c=true) (h2:codeOk nt (.region id (permOps l ops) true)=true) (h3:codeOk nt e=true) :
  For P call kk nt (.seq c (.seq (.region id ops true) e)) (Abs.permAt l (.seq c (.seq (.region id ops true) e))) :=
 .seq (.same hcall (drawOK hmix hcall hg nt) h1) (.seq (.region hmix hcall hg h2 (permOf hp)) (.same hcall (drawOK hmix hcall hg nt) h3))
def permCodeOk (nt:Nat) (l:List Nat):Code→Bool
 | .seq c (.seq (.region id ops true) e)=>permOk l ops && codeOk nt c && codeOk nt (.region id (permOps l ops) true) && codeOk nt e
 | _=>false
theorem For.perm (hmix:P.follows .mixedOrders=true) {call:CallF} (hcall:CallOK P call) (hg:CallGrow call) {kk nt:Nat} {l:List Nat} {c:Code} (h:permCodeOk nt l c=true):For P call kk nt c (Abs.permAt l c):=by
 unfold permCodeOk at h
 split at h
 ·simp only [Bool.and_eq_true] at h
  exact For.permAt hmix hcall hg h.1.1.1 h.1.1.2 h.1.2 h.2
 ·cases h
theorem bodyC_perm (hmix:P.follows .mixedOrders=true) {call:CallF} (hcall:CallOK P call) (hg:CallGrow call) {n g:Nat} {fn:Func} {c:Code} {l:List Nat} (hfn:P.funcs[g]?=some fn) (hbody:fn.body=some c) (hname:fn.name ≠ "runtime.NumGoroutine") (hres:fn.results.toList.all (resOk fn.ntmps)=true) (h:permCodeOk fn.ntmps l c=true):CallOK P (bodyC P call n g fn (Abs.permAt l c)) :=
 bodyC_ok hfn hbody hname hres (For.perm hmix hcall hg h)
end
end Go.Abs
namespace Go.Abs
theorem bodyC_grow {P:Program} {call:CallF} (hg:CallGrow call) {n g:Nat} {fn:Func} {c:Code}:CallGrow (bodyC P call n g fn c):=by
 intro fv args H v H' h
 unfold bodyC at h
 split at h
 case h_2=>cases h
 split at h
 case isFalse=>cases h
 have fin:∀ {a1:Fr} {H1:Heap} {o:Option (List Value)},o.map (fun vs=>(pack vs,H1))=some (v,H')→H'=H1:=by
  intro a1 H1 o h
  cases o with
  | none=>cases h
  | some vs=>simp only [Option.map_some] at h;injection h with h;injection h with h1 h2;exact h2.symm
 unfold finB at h
 split at h
 ·rename_i a1 H1 hev
  rw [fin (a1:=a1) h]
  exact qen hg hev
 ·rename_i a1 H1 hev
  rw [fin (a1:=a1) h]
  exact qen hg hev
 ·cases h
end Go.Abs
namespace Go.Abs
section
variable {P:Program} {pol:Nat→Bool} {a:VF} {σ:VSt} {c:Nat} {d:Option Nat} {t e:TypeId} {s n ver id:Nat} {cs:List VV}
def stW (σ:VSt) (id i:Nat) (cs:List VV) (o:Ob):Option VSt :=
 if o.sz=0 then some (updV σ id (some ⟨o.ver,o.n,o.sz,setLs o.cs i cs⟩))
 else match peekL1 σ cs with
  | some cs'=>if cs.flatMap ownIds1=[] then some (updV σ id (some ⟨o.ver,o.n,o.sz,setLs o.cs i cs'⟩)) else none
  | none=>none
theorem st_W (hz:sizeT P t=some n) {i:Nat} {A:VV}:storeV P t σ (.ptr id ver i) A=optL (scalV σ A) fun cs=>optG (getO σ id ver) fun o=>if cs.length=n then (if i+n≤o.cs.length then stW σ id i cs o else none) else none:=by
 unfold storeV optL optG stW
 cases scalV σ A with
 | none=>rfl
 | some xs =>
   simp only [hz]
   cases getO σ id ver with
   | none=>rfl
   | some o =>
     simp only
     by_cases h1:xs.length=n
     ·by_cases h2:i+n≤o.cs.length
      ·rw [if_pos ⟨h1,h2⟩,if_pos h1,if_pos h2];rfl
      ·rw [if_neg (fun h=>h2 h.2),if_pos h1,if_neg h2]
     ·rw [if_neg (fun h=>h1 h.1),if_neg h1]
theorem qed {i v m:Nat} {xs os:List VV}:stW σ id i xs ⟨v,m,0,os⟩=some (updV σ id (some ⟨v,m,0,setLs os i xs⟩)):=(rfl)
theorem sv_st:scalV σ (.st cs)=some cs:=(rfl)
theorem sv_fz:scalV σ (.fz n s cs)=some [.fz n s cs]:=(rfl)
theorem sv_own:scalV σ (.own id ver)=optG (getO σ id ver) fun o=>if o.sz=0 then none else some [.own id ver]:=by
 simp only [scalV];unfold optG;cases getO σ id ver<;>rfl
theorem qde {α:Type} {l:List α} {i:Nat}:setLs l i []=l:=(rfl)
theorem qc6 {α:Type} {l r:List α} {i:Nat} {x:α}:setLs l i (x::r)=setLs (l.set i x) (i+1) r:=(rfl)
def solG (x:Option Ob):Bool:=match x with
 | some o=>o.sz != 0
 | none=>false
theorem sl_nl:solid1 σ .nl=true:=(rfl)
theorem sl_fz:solid1 σ (.fz n s cs)=true:=(rfl)
theorem sl_own:solid1 σ (.own id ver)=solG (getO σ id ver):=(rfl)
theorem solG_some {v m z:Nat}:solG (some ⟨v,m,z+1,cs⟩)=true:=(rfl)
def soln (b:Bool) (x:Option VV):Option VV:=match b with
 | true=>x
 | false=>none
theorem qa8 {x:Option VV}:soln true x=x:=(rfl)
theorem ldN_2 {A B:VV} {l:List VV}:ldN σ 2 (A::B::l)=soln (solid1 σ A) (soln (solid1 σ B) (some (.st [A,B]))):=by
 unfold ldN soln
 rw [if_pos (by simp)]
 cases h:solid1 σ A<;>cases h2:solid1 σ B<;>simp [h,h2]
def opt1 {α:Type} (x:Option (List VV)) (k:VV→Option α):Option α:=match x with
 | some [A]=>k A
 | _=>none
theorem qbu {α:Type} {x x':Option (List VV)} {k:VV→Option α} (h:x=x'):opt1 x k=opt1 x' k:=by rw [h]
theorem qdu {α:Type} {A:VV} {k:VV→Option α}:opt1 (some [A]) k=k A:=(rfl)
theorem build_2 {fs:Array Field} {z1 z2 A B:VV} (hz:zeroV P t=some [z1,z2]) (hu:P.underlying t=some (.struct fs)) (ho:sizesOf P fs.toList=some [(0,1),(1,1)]):buildV P σ t [(0,A),(1,B)]=opt1 (scalV σ A) fun x=>opt1 (scalV σ B) fun y=>some (.st [x,y]):=by
 unfold buildV opt1
 simp only [hz,hu,ho,fillV,List.getElem?_cons_zero,List.getElem?_cons_succ]
 cases scalV σ A with
 | none=>rfl
 | some xs =>
   match xs with
   | []=>rfl
   | _::_::_=>simp
   | [x] =>
     simp only [List.length_cons,List.length_nil,Nat.zero_add,true_and]
     rw [if_pos (by omega)]
     cases scalV σ B with
     | none=>rfl
     | some ys =>
       match ys with
       | []=>rfl
       | _::_::_=>simp
       | [y] =>
         simp only [List.length_cons,List.length_nil,Nat.zero_add,true_and]
         rw [if_pos (by rw [qd3];simp)]
         rfl
def idxV (P:Program) (t:TypeId) (A I:VV) (σ:VSt) (c:Nat) (r:Option St3):Option St3:=match A with
 | .st cs=>rtV (indexV P t (.st cs) I) σ c
 | _=>r
theorem qb1 {A A' I:VV} {r:Option St3} (h:A=A'):idxV P t A I σ c r=idxV P t A' I σ c r:=by rw [h]
theorem qd7 {call:VCall} {x i:Operand} {ty:TypeId} {pos:String} {aft:Array Edge} {g:Option (Nat×Bool)}:stepV P call pol a ⟨d,.index t x i,ty,pos,aft,g⟩ σ c=idxV P t (evV a x) (evV a i) σ c (restS P call pol a ⟨d,.index t x i,ty,pos,aft,g⟩ σ c):=by
 unfold idxV restS
 show (match evV a x with
  | .sc _=>rtV (plainV P a _) σ c
  | A=>rtV (indexV P t A (evV a i)) σ c)=_
 cases h:evV a x<;>first | rfl | skip
 all_goals (show _=stepV P call pol a _ σ c;simp only [stepV,h])
theorem qrf {I:VV} {r:Option St3}:idxV P t (.st cs) I σ c r=rtV (indexV P t (.st cs) I) σ c:=(rfl)
theorem ix_1 {len:Nat} {e:TypeId} (hu:P.underlying t=some (.array len e)) (ha:isAggT P e=some false) (hs:sizeT P e=some 1) {kk:IntKind} {k:Int}:indexV P t (.st cs) (.sc (.int kk k))=if 0≤k∧k < len then cs[k.toNat]? else none:=by
 unfold indexV
 simp only [hu,hs,Nat.mul_one]
 unfold partV
 rw [ha]
theorem build_A2 {e:TypeId} {z1 z2 A B:VV} (hz:zeroV P t=some [z1,z2]) (hu:P.underlying t=some (.array 2 e)) (hs:sizeT P e=some 1):buildV P σ t [(0,A),(1,B)]=opt1 (scalV σ A) fun x=>opt1 (scalV σ B) fun y=>some (.st [x,y]):=by
 unfold buildV opt1
 simp only [hz,hu,hs,fillV]
 cases scalV σ A with
 | none=>rfl
 | some xs =>
   match xs with
   | []=>rfl
   | _::_::_=>simp
   | [x] =>
     simp only [List.length_cons,List.length_nil,Nat.zero_add,true_and,Nat.zero_mul]
     rw [if_pos (by omega)]
     cases scalV σ B with
     | none=>rfl
     | some ys =>
       match ys with
       | []=>rfl
       | _::_::_=>simp
       | [y] =>
         simp only [List.length_cons,List.length_nil,Nat.zero_add,true_and]
         rw [if_pos (by rw [qd3];simp)]
         rfl
end
end Go.Abs
namespace Go.Num
def B:Int:=100000000
def val:List Int→Int
 | []=>0
 | x::l=>x+B*val l
def cmpZ (x y:Int):Int:=if x < y then -1 else if y < x then 1 else 0
end Go.Num
namespace Go.Num
def bad (p:Option Int) (x:Int):Option Int:=if x < 1 then some 2 else if 20 < x then some 2 else match p with
 | some q=>if q < x then some 9 else none
 | none=>none
def tw (l:List Int) (j:Int):Nat:=(l.takeWhile fun x=>decide (j < x)).length
end Go.Num
namespace Go.Abs
open Go.Num
def goodV:Value→Bool
 | .slice (some ⟨_,_,none⟩) _ _=>true
 | v=>immOk v
def renD (d:Nat):Value→Value
 | .slice (some ⟨b,o,none⟩) n e=>.slice (some ⟨b+d,o,none⟩) n e
 | v=>v
theorem qs7 {d:Nat} {v:Value} (h:goodV v=true):renS (fun b=>some (b+d)) v=some (renD d v):=by
 unfold goodV at h
 split at h
 ·rfl
 ·rename_i hn
  have e:renD d v=v:=by
   unfold renD
   split
   ·exact absurd rfl (hn _ _ _ _)
   ·rfl
  rw [e]
  unfold renS
  split
  ·exact absurd rfl (hn _ _ _ _)
  ·rw [if_pos h]
theorem qpw {d:Nat}:∀ {cs:List Value},cs.all goodV=true→mapO (renS fun b=>some (b+d)) cs=some (cs.map (renD d)):=by
 intro cs
 induction cs with
 | nil=>intro _;rfl
 | cons c cs ih =>
   intro h
   rw [List.all_cons,Bool.and_eq_true] at h
   rw [mapO,qs7 h.1,ih h.2];rfl
def mkL (d:Nat):Nat→List (List Value)→List Blk
 | _,[]=>[]
 | j,b::bs=>.cells j true (b.map (renD d))::mkL d (j+1) bs
theorem mk_good {d:Nat}:∀ {bs:List (List Value)} {j:Nat},(bs.all fun b=>b.all goodV)=true→mkBlks d j bs=some (mkL d j bs):=by
 intro bs
 induction bs with
 | nil=>intro j _;rfl
 | cons b bs ih =>
   intro j h
   rw [List.all_cons,Bool.and_eq_true] at h
   rw [mkBlks,qpw h.1,ih h.2];rfl
theorem mkL_get {d:Nat}:∀ {bs:List (List Value)} {j i:Nat},(mkL d j bs)[i]?=(bs[i]?).map fun b=>.cells (j+i) true (b.map (renD d)):=by
 intro bs
 induction bs with
 | nil=>intro j i;rfl
 | cons b bs ih =>
   intro j i
   cases i with
   | zero=>rfl
   | succ i =>
     rw [mkL,List.getElem?_cons_succ,List.getElem?_cons_succ,ih,show j+1+i=j+(i+1) from by omega]
theorem mkL_wf {H:Heap} (hw:WF H) (bs:List (List Value)):WF (H++mkL H.length H.length bs):=by
 intro b f o cs hb
 by_cases hlt:b < H.length
 ·rw [List.getElem?_append_left hlt] at hb;exact hw b f o cs hb
 ·rw [List.getElem?_append_right (by omega),mkL_get] at hb
  cases h:bs[b - H.length]? with
  | none=>rw [h] at hb;cases hb
  | some c=>rw [h] at hb;injection hb with hb;injection hb with h1;omega
theorem mkL_old (H:Heap) (bs:List (List Value)):Old H.length H (H++mkL H.length H.length bs):=Old.app H _
end Go.Abs
namespace Go.Abs
def scE:Value→Value→Bool
 | .int k n,.int k' n'=>decide (k=k') && decide (n=n')
 | .bool a,.bool b=>a == b
 | _,_=>false
theorem scE_eq {w v:Value} (h:scE w v=true):v=w∧scOk w=true∧∀ d,renD d v=w:=by
 unfold scE at h
 split at h
 ·simp only [Bool.and_eq_true,decide_eq_true_eq] at h
  obtain ⟨rfl,rfl⟩:=h
  exact ⟨rfl,rfl,fun _=>rfl⟩
 ·simp only [beq_iff_eq] at h
  subst h
  exact ⟨rfl,rfl,fun _=>rfl⟩
 ·cases h
def nilE:Value→Bool
 | .slice none 0 0=>true
 | _=>false
theorem nilE_eq {v:Value} (h:nilE v=true):v = .slice none 0 0:=by
 unfold nilE at h
 split at h
 ·rfl
 ·cases h
mutual
def fitS (bs:List (List Value)):VV→Value→Bool
 | .sc w,v=>scE w v
 | .nl,v=>nilE v
 | .fz n sz cs,v=>match v with
   | .slice (some ⟨p,0,none⟩) n' sz'=>decide (n=n') && (decide (sz=sz') && (decide (0 < sz) && (match bs[p]? with
     | some vs=>decide (vs.length=n*sz) && fitSL bs cs vs
     | none=>false)))
   | _=>false
 | .st _,_=>false
 | .tup _,_=>false
 | .own _ _,_=>false
 | .ptr _ _ _,_=>false
 | .rp _,_=>false
 | .mp _,_=>false
 | .bad,_=>false
def fitSL (bs:List (List Value)):List VV→List Value→Bool
 | [],vs=>vs.isEmpty
 | c::cs,vs=>match vs with
   | []=>false
   | v::vs=>fitS bs c v && fitSL bs cs vs
end
mutual
theorem qn4 {bs:List (List Value)} {Z:Nat→Prop} {H:Heap}:∀ (r:VV) (v:Value),fitS bs r v=true→RepC (fun f=>Z f∨H.length≤f) (H++mkL H.length H.length bs) r (renD H.length v)∧goodV v=true
 | .sc w,v,h=>by
   simp only [fitS] at h
   obtain ⟨rfl,h2,h3⟩:=scE_eq h
   refine ⟨by rw [h3];simp only [RepC];exact ⟨trivial,h2⟩,?_⟩
   unfold scE at h
   split at h<;>first | rfl | cases h
 | .nl,v,h=>by
   simp only [fitS] at h
   obtain rfl:=nilE_eq h
   exact ⟨by simp only [RepC];rfl,rfl⟩
 | .fz n sz cs,v,h=>by
   simp only [fitS] at h
   split at h
   case h_2=>cases h
   rename_i p n' sz'
   simp only [Bool.and_eq_true,decide_eq_true_eq] at h
   obtain ⟨rfl,rfl,h3,h4⟩:=h
   split at h4
   case h_2=>cases h4
   rename_i vs hb
   simp only [Bool.and_eq_true,decide_eq_true_eq] at h4
   obtain ⟨h4,h5⟩:=h4
   refine ⟨?_,rfl⟩
   simp only [RepC]
   refine ⟨vs.map (renD H.length),⟨by rw [List.length_map];exact h4,h3,.inr ⟨p+H.length,0,H.length+p,true,vs.map (renD H.length),rfl,?_,.inr (by omega),by rw [List.length_map];omega,?_⟩⟩,qlt cs vs h5⟩
   ·rw [List.getElem?_append_right (by omega),show p+H.length - H.length=p from by omega,mkL_get,hb];rfl
   ·rw [List.drop_zero,← h4,← List.length_map (f:=renD H.length),List.take_length]
 | .st _,_,h=>by simp only [fitS] at h;cases h
 | .tup _,_,h=>by simp only [fitS] at h;cases h
 | .own _ _,_,h=>by simp only [fitS] at h;cases h
 | .ptr _ _ _,_,h=>by simp only [fitS] at h;cases h
 | .rp _,_,h=>by simp only [fitS] at h;cases h
 | .mp _,_,h=>by simp only [fitS] at h;cases h
 | .bad,_,h=>by simp only [fitS] at h;cases h
theorem qlt {bs:List (List Value)} {Z:Nat→Prop} {H:Heap}:∀ (cs:List VV) (vs:List Value),fitSL bs cs vs=true→RepCL (fun f=>Z f∨H.length≤f) (H++mkL H.length H.length bs) cs (vs.map (renD H.length))
 | [],vs,h=>by
   simp only [fitSL,List.isEmpty_iff] at h
   subst h
   simp only [RepCL,List.map_nil]
 | c::cs,vs,h=>by
   simp only [fitSL] at h
   split at h
   case h_1=>cases h
   rename_i v vs'
   simp only [Bool.and_eq_true] at h
   simp only [RepCL,List.map_cons]
   exact ⟨_,_,rfl,(qn4 c v h.1).1,qlt cs vs' h.2⟩
end
def fitA (bs:List (List Value)) (r:VV) (v:Value):Bool:=match r,v with
 | .st cs,.agg vs=>vs.toList.all goodV && fitSL bs cs vs.toList
 | r,v=>fitS bs r v
def fitAL (bs:List (List Value)):List VV→List Value→Bool
 | [],vs=>vs.isEmpty
 | c::cs,vs=>match vs with
   | []=>false
   | v::vs=>fitA bs c v && fitAL bs cs vs
def fitV (bs:List (List Value)) (r:VV) (v:Value):Bool:=match r,v with
 | .tup cs,.tuple vs=>fitAL bs cs vs.toList
 | r,v=>fitA bs r v
theorem goodV_agg {cs:Array Value} (h:goodV (.agg cs)=true):False:=by simp [goodV,immOk] at h
theorem qrg {cs:Array Value} (h:goodV (.tuple cs)=true):False:=by simp [goodV,immOk] at h
theorem qs8 {bs:List (List Value)} {Z:Nat→Prop} {H:Heap} {r:VV} {v:Value} (h:fitA bs r v=true):∃ u,renA (fun b=>some (b+H.length)) v=some u∧RepC (fun f=>Z f∨H.length≤f) (H++mkL H.length H.length bs) r u:=by
 unfold fitA at h
 split at h
 ·rename_i cs vs
  simp only [Bool.and_eq_true] at h
  refine ⟨.agg ⟨vs.toList.map (renD H.length)⟩,by simp only [renA,qpw h.1];rfl,?_⟩
  simp only [RepC]
  exact ⟨_,rfl,qlt _ _ h.2⟩
 ·obtain ⟨h1,h2⟩:=qn4 (Z:=Z) (H:=H) _ _ h
  refine ⟨_,?_,h1⟩
  unfold renA
  split
  ·exact (goodV_agg h2).elim
  ·exact qs7 h2
theorem fitAL_rep {bs:List (List Value)} {Z:Nat→Prop} {H:Heap}:∀ {cs:List VV} {vs:List Value},fitAL bs cs vs=true→∃ us,mapO (renA fun b=>some (b+H.length)) vs=some us∧RepCL (fun f=>Z f∨H.length≤f) (H++mkL H.length H.length bs) cs us:=by
 intro cs
 induction cs with
 | nil =>
   intro vs h
   simp only [fitAL,List.isEmpty_iff] at h
   subst h
   exact ⟨[],rfl,by simp only [RepCL]⟩
 | cons c cs ih =>
   intro vs h
   unfold fitAL at h
   split at h
   case h_1=>cases h
   rename_i v vs'
   simp only [Bool.and_eq_true] at h
   obtain ⟨u,h1,h2⟩:=qs8 (Z:=Z) (H:=H) h.1
   obtain ⟨us,h3,h4⟩:=ih h.2
   refine ⟨u::us,by rw [mapO,h1,h3],?_⟩
   simp only [RepCL]
   exact ⟨_,_,rfl,h2,h4⟩
theorem fitV_rep {bs:List (List Value)} {Z:Nat→Prop} {H:Heap} {r:VV} {v:Value} (h:fitV bs r v=true):∃ u,renV (fun b=>some (b+H.length)) v=some u∧RepC (fun f=>Z f∨H.length≤f) (H++mkL H.length H.length bs) r u:=by
 unfold fitV at h
 split at h
 ·rename_i cs vs
  obtain ⟨us,h1,h2⟩:=fitAL_rep (Z:=Z) (H:=H) h
  refine ⟨.tuple ⟨us⟩,by simp only [renV,h1];rfl,?_⟩
  simp only [RepC]
  exact ⟨_,rfl,h2⟩
 ·obtain ⟨u,h1,h2⟩:=qs8 (Z:=Z) (H:=H) h
  refine ⟨u,?_,h2⟩
  unfold renV
  split
  ·rename_i cs _
   unfold fitA at h
   split at h
   ·contradiction
   ·have:=(qn4 (Z:=Z) (H:=H) _ _ h).2
    exact (qrg this).elim
  ·exact h1
theorem tab_fit {sp:Nat→List Arg→Option Res} {g:Nat} {ays:List Arg} {args:List VV} {r:VV} {v:Value} {bs:List (List Value)} (hs:sp g ays=some (v,bs)) (hf:fitV bs r v=true) (hb:(bs.all fun b=>b.all goodV)=true)
  (ha:∀ Z H vs,WF H→RepCL Z H args vs→mapO (readArg H) vs=some ays):AnsAt (tabC sp) g args r false:=by
 intro Z H vs hw hA
 obtain ⟨u,h1,h2⟩:=fitV_rep (Z:=Z) (H:=H) hf
 refine ⟨u,H++mkL H.length H.length bs,?_,h2,mkL_old H bs,mkL_wf hw bs,fun e=>by cases e⟩
 unfold tabC
 simp only [ha Z H vs hw hA,hs,h1,mk_good hb]
 rfl
end Go.Abs
namespace Go.Abs
theorem ba_get (s:ByteArray) (k:Nat):s[k]?=s.data.toList[k]? := by
 by_cases h:k < s.size
 ·rw [getElem?_pos s k h]
  have h':k < s.data.toList.length:=by rw [Array.length_toList];exact h
  rw [List.getElem?_eq_getElem h']
  rfl
 ·rw [getElem?_neg s k h]
  have h':s.data.toList.length≤k:=by rw [Array.length_toList];exact Nat.le_of_not_lt h
  rw [List.getElem?_eq_none h']
theorem pure_prog {α β:Type} {P:Program} (f:Program→Sem β) (k:β→Sem α):pureVal P ((Go.program >>= f) >>= k)=pureVal P (f P >>= k):=rfl
theorem pure_prog1 {α:Type} {P:Program} (k:Program→Sem α):pureVal P (Go.program >>= k)=pureVal P (k P):=rfl
theorem pure_sidx {P:Program} {t:TypeId} (hu:P.underlying t=some .string) {s:ByteArray} {kk:IntKind} {k:Int} (h0:0≤k) {b:UInt8} (hb:s.data.toList[k.toNat]?=some b):pureVal P (Instr.index t (.string s) (.int kk k))=some (.int .u8 b.toNat):=by
 have hb':s[k.toNat]?=some b:=by rw [ba_get];exact hb
 unfold Instr.index
 simp [asIntOf,underlying]
 rw [pure_prog1]
 simp [hu,h0,hb']
 rfl
def sidxV (A I:VV) (σ:VSt) (c:Nat) (r:Option St3):Option St3:=match A,I with
 | .sc (.string s),.sc (.int .i64 k)=>if 0≤k then (match s.data.toList[k.toNat]? with
   | some b=>some (.sc (.int .u8 b.toNat),σ,c)
   | none=>r) else r
 | _,_=>r
section
variable {P:Program} {call:VCall} {pol:Nat→Bool} {a:VF} {σ:VSt} {c:Nat} {d:Option Nat} {ty:TypeId} {pos:String} {aft:Array Edge} {g:Option (Nat×Bool)}
def restT (P:Program) (call:VCall) (pol:Nat→Bool) (a:VF) (o:Oper) (σ:VSt) (c:Nat):Option St3:=stepV P call pol a o σ c
theorem qfp {t:TypeId} {w:Value} {I:VV} {r:Option St3}:idxV P t (.sc w) I σ c r=r:=(rfl)
theorem qee {t:TypeId} {x i:Operand} (hu:P.underlying t=some .string):restS P call pol a ⟨d,.index t x i,ty,pos,aft,g⟩ σ c=sidxV (evV a x) (evV a i) σ c (restT P call pol a ⟨d,.index t x i,ty,pos,aft,g⟩ σ c):=by
 unfold sidxV restS restT
 split
 ·rename_i s k ex ei
  split
  ·rename_i h0
   split
   ·rename_i b hb
    show (match evV a x with
     | .sc _=>rtV (plainV P a _) σ c
     | A=>rtV (indexV P t A (evV a i)) σ c)=_
    rw [ex]
    have hpl:plainA P (fun t=>toVal (a t)) ⟨d,.index t x i,ty,pos,aft,g⟩=some (.int .u8 b.toNat):=by
     have h1:ev (fun t=>toVal (a t)) x = .string s:=qey ex rfl
     have h2:ev (fun t=>toVal (a t)) i = .int .i64 k:=qey ei rfl
     unfold plainA
     have hall:((⟨d,.index t x i,ty,pos,aft,g⟩:Oper).op.operands.toList.all fun z=>plain (ev (fun t=>toVal (a t)) z))=true:=by simp [Op.operands,h1,h2,plain]
     rw [if_pos hall]
     have e2:execOp (ev (fun t=>toVal (a t))) (⟨d,.index t x i,ty,pos,aft,g⟩:Oper)=(do let v ← Instr.index t (ev (fun t=>toVal (a t)) x) (ev (fun t=>toVal (a t)) i);pure (.value v)):=rfl
     rw [e2,h1,h2,qnm _ _ (pure_sidx hu h0 hb)]
     simp [plain]
    simp only [plainV,hpl]
    rfl
   ·rfl
  ·rfl
 ·rfl
theorem qrh {s:ByteArray} {k:Nat} {b:UInt8} (hb:s.data.toList[k]?=some b) {r:Option St3}:sidxV (.sc (.string s)) (.sc (vi (k:Int))) σ c r=some (.sc (.int .u8 b.toNat),σ,c):=by
 show (if (0:Int)≤k then (match s.data.toList[(k:Int).toNat]? with
  | some b=>some (VV.sc (.int .u8 b.toNat),σ,c)
  | none=>r) else r)=_
 rw [if_pos (by omega),Int.toNat_natCast,hb]
def lkV (P:Program) (t:TypeId) (A I:VV) (σ:VSt) (c:Nat):Option St3:=match A,I with
 | .mp es,.sc k=>rtV (lookV P t es k) σ c
 | _,_=>none
theorem qpx {t:TypeId} {A A' I:VV} (h:A=A'):lkV P t A I σ c=lkV P t A' I σ c:=by rw [h]
theorem extV_tup {vs:List VV} {i:Nat}:extV (.tup vs) i=vs[i]? := (rfl)
end
end Go.Abs
namespace Go.Abs
def minV (A B:VV) (σ:VSt) (c:Nat) (r:Option St3):Option St3:=match A,B with
 | .sc (.int .i64 p),.sc (.int .i64 q)=>some (.sc (vi (if q < p then q else p)),σ,c)
 | _,_=>r
section
variable {P:Program} {call:VCall} {pol:Nat→Bool} {a:VF} {σ:VSt} {c:Nat} {d:Option Nat} {ty:TypeId} {pos:String} {aft:Array Edge} {g:Option (Nat×Bool)}
theorem minV_i {p q:Int} {r:Option St3}:minV (.sc (vi p)) (.sc (vi q)) σ c r=some (.sc (vi (if q < p then q else p)),σ,c):=(rfl)
theorem vs_min {x y:Operand} {t t':TypeId}:stepV P call pol a ⟨d,.call { callee:=.builtin .min,args:=#[x,y],argTypes:=#[t,t'] },ty,pos,aft,g⟩ σ c=minV (evV a x) (evV a y) σ c (restS P call pol a ⟨d,.call { callee:=.builtin .min,args:=#[x,y],argTypes:=#[t,t'] },ty,pos,aft,g⟩ σ c):=by
 unfold minV restS
 split
 ·rename_i p q ex ey
  have hx:ev (fun t=>toVal (a t)) x=vi p:=qey ex rfl
  have hy:ev (fun t=>toVal (a t)) y=vi q:=qey ey rfl
  have e:plainA P (fun t=>toVal (a t)) (⟨d,.call { callee:=.builtin .min,args:=#[x,y],argTypes:=#[t,t'] },ty,pos,aft,g⟩:Oper)=some (vi (if q < p then q else p)):=by
   unfold plainA
   have hops:(⟨d,.call { callee:=.builtin .min,args:=#[x,y],argTypes:=#[t,t'] },ty,pos,aft,g⟩:Oper).op.operands.toList=[x,y]:=rfl
   rw [hops]
   simp only [List.all_cons,List.all_nil,hx,hy,plain,Bool.and_self,if_true]
   have ex:execOp (ev fun t=>toVal (a t)) (⟨d,.call { callee:=.builtin .min,args:=#[x,y],argTypes:=#[t,t'] },ty,pos,aft,g⟩:Oper)=(pure (.value (.int .i64 (if q < p then q else p))):Sem Next):=by
    show (resolve (ev fun t=>toVal (a t)) ⟨.builtin .min,⟨[x,y]⟩,#[t,t']⟩ ty >>= fun d=>invoke d.target d.args)=_
    simp [resolve,invoke,builtin,Builtin.min_,Builtin.min2,hx,hy]
   rw [ex]
   rfl
  show rtV (plainV P a _) σ c=_
  unfold plainV
  rw [e];rfl
 ·rfl
theorem qmp {α:Type} {t:TypeId} {e:TypeDesc} (h:P.underlying t=some e) (k:TypeDesc→Sem α):pureVal P (Go.underlying t >>= k)=pureVal P (k e):=by
 unfold Go.underlying
 rw [pure_prog,h]
 rfl
def cnvV (A:VV) (σ:VSt) (c:Nat) (r:Option St3):Option St3:=match A with
 | .sc (.int .u8 z)=>some (.sc (vi (IntKind.i64.wrap z)),σ,c)
 | _=>r
theorem cnv_y {z:Int} {r:Option St3}:cnvV (.sc (.int .u8 z)) σ c r=some (.sc (vi (IntKind.i64.wrap z)),σ,c):=(rfl)
theorem vs_conv {x:Operand} {s t:TypeId} {ks:IntKind} (hs:P.underlying s=some (.int ks)) (ht:P.underlying t=some (.int .i64)):stepV P call pol a ⟨d,.convert s t x,ty,pos,aft,g⟩ σ c=cnvV (evV a x) σ c (restS P call pol a ⟨d,.convert s t x,ty,pos,aft,g⟩ σ c):=by
 unfold cnvV restS
 split
 ·rename_i z ex
  have hx:ev (fun t=>toVal (a t)) x = .int .u8 z:=qey ex rfl
  have e:plainA P (fun t=>toVal (a t)) (⟨d,.convert s t x,ty,pos,aft,g⟩:Oper)=some (vi (IntKind.i64.wrap z)):=by
   unfold plainA
   have hops:(⟨d,.convert s t x,ty,pos,aft,g⟩:Oper).op.operands.toList=[x]:=rfl
   rw [hops]
   simp only [List.all_cons,List.all_nil,hx,plain,Bool.and_self,if_true]
   have hv:pureVal P (Go.convert s t (.int .u8 z))=some (vi (IntKind.i64.wrap z)):=by
    unfold Go.convert
    rw [qmp hs,qmp ht]
    rfl
   have ex:execOp (ev fun t=>toVal (a t)) (⟨d,.convert s t x,ty,pos,aft,g⟩:Oper)=(do let v ← Go.convert s t (ev (fun t=>toVal (a t)) x);pure (.value v)):=rfl
   rw [ex,hx,qnm _ _ hv]
   rfl
  show (match evV a x with
   | .sc _=>rtV (plainV P a _) σ c
   | A=>rtV ((textV P s t σ A).map .sc) σ c)=_
  rw [ex]
  simp only
  unfold plainV
  rw [e];rfl
 ·rfl
abbrev mkS (l:List UInt8):ByteArray:=⟨l.toArray⟩
theorem mk_app (l m:List UInt8):mkS l++mkS m=mkS (l++m):=by
 apply ByteArray.ext
 rw [ByteArray.data_append]
 simp
theorem qfa (l:List UInt8):(mkS l).size=l.length:=by simp [ByteArray.size]
theorem mk_cut (l:List UInt8) (i j:Nat):(mkS l).extract i j=mkS ((l.take j).drop i):=by
 apply ByteArray.ext
 rw [ByteArray.data_extract]
 simp [List.extract_eq_take_drop,List.drop_take]
theorem qri {l m:List UInt8} {r:Option St3} (h:l.length+m.length≤1000000):binV .add (.sc (.string (mkS l))) (.sc (.string (mkS m))) σ c r=some (.sc (.string (mkS (l++m))),σ,c):=by
 rw [binT_add (by rw [qfa,qfa];omega),mk_app]
theorem slc_to {t:TypeId} (hu:P.underlying t=some .string) {l:List UInt8} {k:Nat} (hk:k≤l.length):sliceV P pol d t (.sc (.string (mkS l))) none (some (vI (k:Int))) σ c=some (.sc (.string (mkS (l.take k))),σ,c):=by
 have hn:sliceElem P t=none:=by unfold sliceElem;rw [hu]
 unfold sliceV
 simp only [hn,hu,bndV,qfa]
 rw [if_pos ⟨by omega,by omega⟩]
 simp only [Int.toNat_natCast]
 rw [mk_cut,List.drop_zero]
theorem slc_from {t:TypeId} (hu:P.underlying t=some .string) {l:List UInt8} {k:Nat} (hk:k≤l.length):sliceV P pol d t (.sc (.string (mkS l))) (some (vI (k:Int))) none σ c=some (.sc (.string (mkS (l.drop k))),σ,c):=by
 have hn:sliceElem P t=none:=by unfold sliceElem;rw [hu]
 unfold sliceV
 simp only [hn,hu,bndV,qfa]
 rw [if_pos ⟨by omega,by omega⟩]
 simp only [Int.toNat_natCast]
 rw [mk_cut,List.take_length]
theorem qs9 {t e:TypeId} {len:Nat} (hu:P.underlying t=some (.array len e)) (hs:sizeT P e=some 1) {id ver j:Nat} {kk:IntKind} {k:Int}:addrV P t σ (.ptr id ver j) (.sc (.int kk k))=optG (getO σ id ver) fun _=>if 0≤k∧k < len then some (.ptr id ver (j+k.toNat)) else none:=by
 have hn:sliceElem P t=none:=by unfold sliceElem;rw [hu]
 unfold addrV optG
 simp only [hn,hu,hs,Nat.mul_one]
 cases getO σ id ver with
 | none=>simp
 | some o=>rfl
end
end Go.Abs
namespace Go.Abs
section
variable {P:Program} {ca:CallF} {call:VCall} {pol:Nat→Bool}
theorem fn_soundC {n g:Nat} {fn:Func} {x:Code} (hc:CallsV ca call) (hcode:codeOk fn.ntmps x=true) (hd:drawsOk (fun id=>pol (1000000+id)) x=true) {args:List VV} (hl:args.length≤fn.ntmps) {r:VV} {fresh:Bool}
  (hr:finV P fn.results.toList (evVC P call pol n x (frV args) (fun _=>none) 0)=some (r,fresh)):AnsAt (bodyC P ca n g fn x) g args r fresh:=by
 intro Z H vs hw hA
 have e0:bodyC P ca n g fn x (.func (.func g) #[] #[]) vs H=finB P fn.results.toList (evT P ca n fn.ntmps none (fun id=>pol (1000000+id)) x (frOf vs) H):=by
  unfold bodyC
  simp only
  rw [if_pos ⟨trivial,rfl,rfl,by rw [← hA.length];exact hl⟩,evS_eq x hd]
 rw [e0]
 have h0:VRl Z H (fun _=>none) (fun _=>none) 0 H:=⟨hw,Old.refl _ _,fun _ _ e=>(by cases e),fun _ _ e=>(by cases e),fun _ _ _ _ _ _ _ e=>(by cases e)⟩
 have hf0:FrR Z H.length (fun _=>none) (fun _=>none) 0 H (frV args) (frOf vs):=by
  intro t
  refine qsq (RepCL.keep ⟨fun b f w bs z e=>⟨⟨.inl z,fun id o b g e1=>(by cases e1)⟩,e⟩,fun _ _ e=>e⟩ _ _ hA) t
 have key:∀ {e A' σ' c'},evVC P call pol n x (frV args) (fun _=>none) 0=some (e,A',σ',c')→(resV P σ' A' fn.results.toList).map (fun vs=>(packV vs,freshV A' fn.results.toList))=some (r,fresh)→(e = .normal∨e = .ret) →
   ∃ v H',finB P fn.results.toList (evT P ca n fn.ntmps none (fun id=>pol (1000000+id)) x (frOf vs) H)=some (v,H')∧RepC (fun f=>Z f∨H.length≤f) H' r v∧Old H.length H H'∧WF H'∧(fresh=true→∀ n sz cs,r = .fz n sz cs→OwnR H.length Z H' v n sz cs):=by
  intro e A' σ' c' h1 h2 he
  obtain ⟨a',H',ρ',w1,w2,w3,w4⟩:=qmm hc x hcode h0 hf0 h1
  cases hres:resV P σ' A' fn.results.toList with
  | none=>rw [hres] at h2;cases h2
  | some l =>
    rw [hres] at h2
    injection h2 with h2;injection h2 with e1 e2
    subst e1;subst e2
    obtain ⟨us,e3,e4⟩:=qpf (P:=P) w2 w4 hres
    refine ⟨pack us,H',?_,qlj e4,w2.old,w2.wf,fun hfr m sz cs hm=>?_⟩
    ·rw [w1]
     rcases he with rfl | rfl
     ·rw [fin_n,e3];rfl
     ·rw [fin_r,e3];rfl
    ·unfold freshV at hfr
     split at hfr
     ·rename_i t ht
      rw [ht] at hres e3
      split at hfr
      ·rename_i id ver hA'
       simp only [resV,hA'] at hres
       split at hres
       ·rename_i q1 q2 q3 h3 h4 h5
        injection hres with hres;subst hres
        injection h5 with h5;subst h5
        simp only [packV] at hm
        subst hm
        simp only [peek,peek1] at h4
        split at h4
        ·rename_i o hg
         split at h4
         ·cases h4
         ·injection h4 with h4
          injection h4 with m1 m2 m3
          subst m1;subst m2;subst m3
          have hX:=w4 t
          rw [hA'] at hX
          obtain ⟨hz,hlen,hown⟩:=qdl w2 hX hg
          have e5:us=[a' t]:=by
           simp only [resList] at e3
           cases hsc:scal (a' t) with
           | none=>rw [hsc] at e3;cases e3
           | some _=>rw [hsc] at e3;simp only [Option.map_some] at e3;injection e3 with e3;exact e3.symm
          subst e5
          show OwnR H.length Z H' (a' t) o.n o.sz o.cs
          rcases hown with ⟨_,hn,hcs,e6⟩ | ⟨b,f,bs,hρ,e6,hb,hbl,hrep⟩
          ·exact .inl ⟨hn,hcs,e6⟩
          ·obtain ⟨ho,_⟩:=qck hg
           have hbk:=w2.blk ho hρ
           exact .inr ⟨b,f,bs,e6,hbk.1,hbk.2.1,hb,hlen,hbl,RepCL.keep ⟨fun b' f' w bs' z e=>⟨⟨z.1,z.2 id o b f ho hρ⟩,e⟩,fun _ _ e=>e⟩ _ _ hrep⟩
        ·cases h4
       ·cases hres
      ·cases hfr
     ·cases hfr
 cases he:evVC P call pol n x (frV args) (fun _=>none) 0 with
 | none=>rw [he] at hr;cases hr
 | some q =>
   obtain ⟨e,A',σ',c'⟩:=q
   rw [he] at hr
   cases e with
   | normal=>exact key he hr (.inl rfl)
   | ret=>exact key he hr (.inr rfl)
   | exit i=>cases hr
end
end Go.Abs
namespace Go.Abs
section
variable {P:Program}
end
end Go.Abs
namespace Go.Abs
inductive Sh where
 | int (k:IntKind)
 | str
 | bool
 | sl (s:Sh)
 | un
 | pr (a b:Sh)
def Sh.size:Sh→Nat
 | .int _=>1
 | .str=>1
 | .bool=>1
 | .sl _=>1
 | .un=>0
 | .pr a b=>a.size+b.size
def fieldsOf (P:Program) (t:TypeId):Option (List (Nat×TypeId)):=match P.underlying t with
 | some (.struct fs)=>some (fs.toList.map fun f=>(f.offset,f.type))
 | some (.array n e)=>some ((List.range n).map fun i=>(i*P.cellsOf e,e))
 | _=>none
mutual
/-- The type has the shape. -/
def shT (P:Program):Sh→TypeId→Bool
 | .int k,t=>match P.underlying t with
   | some (.int k')=>k == k'
   | _=>false
 | .str,t=>match P.underlying t with
   | some .string=>true
   | _=>false
 | .bool,t=>match P.underlying t with
   | some .bool=>true
   | _=>false
 | .sl s,t=>match P.underlying t with
   | some (.slice e)=>shT P s e && (P.cellsOf e == s.size && Nat.blt 0 s.size)
   | _=>false
 | .un,_=>false
 | .pr a b,t=>match fieldsOf P t with
   | some ((o,u)::r)=>(o == 0 && (P.cellsOf u == a.size && (shT P a u && shF P b a.size r))) && P.cellsOf t == a.size+b.size
   | _=>false
def shF (P:Program):Sh→Nat→List (Nat×TypeId)→Bool
 | .un,_,l=>l.isEmpty
 | .pr a b,o,l=>match l with
   | (o',u)::r=>o' == o && (P.cellsOf u == a.size && (shT P a u && shF P b (o+a.size) r))
   | []=>false
 | _,_,_=>false
end
def ShAt (w:World):Sh→List Value→Prop
 | .int k,cs=>∃ z,cs=[.int k z]∧(Lit.int k z).wf=true
 | .str,cs=>∃ s,cs=[.string s]
 | .bool,cs=>∃ b,cs=[.bool b]
 | .sl s,cs=>cs=[.slice none 0 0]∨∃ a len cap,cs=[.slice (some a) len cap]∧0 < s.size∧len≤cap∧∀ i,i < cap→∃ es,w.cells? 0 (a.add (i*s.size)) s.size=some es∧ShAt w s es
 | .un,cs=>cs=[]
 | .pr a b,cs=>∃ c1 c2,cs=c1++c2∧ShAt w a c1∧ShAt w b c2
section
variable {H:Type} {enc:TypeId×Value→H} {P:Program} {w:World} {held:Bool}
theorem qrj {fuel:Nat} {t:TypeId} {cs:List Value} {x:DataW H×List MemPlace} {l:List (Nat×TypeId)} (hl:fieldsOf P t=some l) (h:DataW.trod enc P w 0 (fun _=>true) held fuel t cs=some x) :
  cs.length=P.cellsOf t∧∃ n,∀ o u,(o,u)∈l→∃ y,DataW.trod enc P w 0 (fun _=>true) held n u ((cs.drop o).take (P.cellsOf u))=some y:=by
 unfold fieldsOf at hl
 split at hl
 ·rename_i fs hu
  injection hl with hl;subst hl
  obtain ⟨xs,n,_,_,hlen,hxs,hf⟩:=DataW.trod_struct hu h
  refine ⟨hlen,n,fun o u hm=>?_⟩
  obtain ⟨f,hfm,he⟩:=List.mem_map.1 hm
  injection he with e1 e2;subst e1;subst e2
  obtain ⟨i,hi,rfl⟩:=List.getElem_of_mem hfm
  have hi':i < fs.size:=by simpa using hi
  have:=hf i fs[i] (by simp [hi'])
  rw [List.getElem?_eq_getElem (by omega:i < xs.length)] at this
  exact ⟨_,by simpa using this⟩
 ·rename_i n e hu
  injection hl with hl;subst hl
  obtain ⟨xs,m,_,_,hlen,hxs,hf⟩:=DataW.trod_array hu h
  refine ⟨hlen,m,fun o u hm=>?_⟩
  obtain ⟨i,hi,he⟩:=List.mem_map.1 hm
  injection he with e1 e2;subst e1;subst e2
  have hi:=List.mem_range.1 hi
  have:=hf i hi
  rw [List.getElem?_eq_getElem (by omega:i < xs.length)] at this
  exact ⟨_,this⟩
 ·cases hl
theorem drop_split {α:Type} (cs:List α) (o m:Nat):cs.drop o=(cs.drop o).take m++cs.drop (o+m):=by
 rw [← List.drop_drop,List.take_append_drop]
mutual
theorem qn5:∀ (s:Sh) {fuel:Nat} {t:TypeId} {cs:List Value} {x:DataW H×List MemPlace},shT P s t=true→DataW.trod enc P w 0 (fun _=>true) held fuel t cs=some x→ShAt w s cs
 | .int k,fuel,t,cs,x,hs,h=>by
   unfold shT at hs
   split at hs
   ·rename_i k' hu
    obtain rfl:=by simpa using hs
    obtain ⟨z,hz,_,hw⟩:=DataW.trod_int hu h
    simp only [ShAt];exact ⟨z,hz,hw⟩
   ·cases hs
 | .str,fuel,t,cs,x,hs,h=>by
   unfold shT at hs
   split at hs
   ·rename_i hu
    obtain ⟨z,hz,_⟩:=DataW.trod_string hu h
    simp only [ShAt];exact ⟨z,hz⟩
   ·cases hs
 | .bool,fuel,t,cs,x,hs,h=>by
   unfold shT at hs
   split at hs
   ·rename_i hu
    obtain ⟨z,hz,_⟩:=DataW.trod_bool hu h
    simp only [ShAt];exact ⟨z,hz⟩
   ·cases hs
 | .sl s,fuel,t,cs,x,hs,h=>by
   unfold shT at hs
   split at hs
   ·rename_i e hu
    simp only [Bool.and_eq_true,beq_iff_eq] at hs
    obtain ⟨h1,h2,h3⟩:=hs
    simp only [ShAt]
    rcases DataW.trod_slice hu h with ⟨h0,_⟩ | ⟨a,len,cap,elems,rest,n,_,hcs,_,_,hl,_,hlen,hel,hsp,_⟩
    ·exact .inl h0
    ·refine .inr ⟨a,len,cap,hcs,Nat.le_of_ble_eq_true h3,hl,fun i hi=>?_⟩
     obtain ⟨hr1,hr2⟩:=hsp rfl
     have main:∀ y,(w.cells? 0 (a.add (i*P.cellsOf e)) (P.cellsOf e)).bind (DataW.trod enc P w 0 (fun _=>true) held n e)=some y→∃ es,w.cells? 0 (a.add (i*s.size)) s.size=some es∧ShAt w s es:=by
      intro y hy
      rw [h2] at hy
      cases hc:w.cells? 0 (a.add (i*s.size)) s.size with
      | none=>rw [hc] at hy;cases hy
      | some es =>
        rw [hc] at hy
        exact ⟨es,rfl,qn5 s h1 hy⟩
     by_cases hil:i < len
     ·have:=hel i hil
      rw [List.getElem?_eq_getElem (by omega:i < elems.length)] at this
      exact main _ this
     ·have:=hr2 (i - len) (by omega)
      rw [List.getElem?_eq_getElem (by omega:i - len < rest.length),show len+(i - len)=i from by omega] at this
      exact main _ this
   ·cases hs
 | .un,fuel,t,cs,x,hs,h=>by unfold shT at hs;cases hs
 | .pr a b,fuel,t,cs,x,hs,h=>by
   unfold shT at hs
   split at hs
   ·rename_i o u r hl
    simp only [Bool.and_eq_true,beq_iff_eq] at hs
    obtain ⟨⟨rfl,h2,h3,h4⟩,h5⟩:=hs
    obtain ⟨hlen,n,hf⟩:=qrj hl h
    obtain ⟨y,hy⟩:=hf 0 u (List.mem_cons_self ..)
    simp only [ShAt]
    refine ⟨cs.take a.size,cs.drop a.size,(List.take_append_drop _ _).symm,?_,?_⟩
    ·rw [List.drop_zero,h2] at hy
     exact qn5 a h3 hy
    ·exact qta b h4 (by rw [hlen,h5]) fun o u hm=>hf o u (List.mem_cons_of_mem _ hm)
   ·cases hs
theorem qta:∀ (s:Sh) {o:Nat} {l:List (Nat×TypeId)} {cs:List Value} {n:Nat},shF P s o l=true→cs.length=o+s.size →
  (∀ o u,(o,u)∈l→∃ y,DataW.trod enc P w 0 (fun _=>true) held n u ((cs.drop o).take (P.cellsOf u))=some y)→ShAt w s (cs.drop o)
 | .un,o,l,cs,n,hs,hlen,hf=>by
   simp only [ShAt]
   rw [List.drop_eq_nil_iff]
   simp only [Sh.size] at hlen
   omega
 | .pr a b,o,l,cs,n,hs,hlen,hf=>by
   unfold shF at hs
   split at hs
   ·rename_i o' u r
    simp only [Bool.and_eq_true,beq_iff_eq] at hs
    obtain ⟨rfl,h2,h3,h4⟩:=hs
    obtain ⟨y,hy⟩:=hf o' u (List.mem_cons_self ..)
    simp only [ShAt]
    refine ⟨(cs.drop o').take a.size,cs.drop (o'+a.size),drop_split cs o' a.size,?_,?_⟩
    ·rw [h2] at hy
     exact qn5 a h3 hy
    ·exact qta b h4 (by rw [hlen,Sh.size];omega) fun o u hm=>hf o u (List.mem_cons_of_mem _ hm)
   ·cases hs
 | .int _,_,_,_,_,hs,_,_=>by unfold shF at hs;cases hs
 | .str,_,_,_,_,hs,_,_=>by unfold shF at hs;cases hs
 | .bool,_,_,_,_,hs,_,_=>by unfold shF at hs;cases hs
 | .sl _,_,_,_,_,hs,_,_=>by unfold shF at hs;cases hs
end
end
def ShOk:Sh→List VV→Prop
 | .int k,A=>∃ z,A=[.sc (.int k z)]∧(Lit.int k z).wf=true
 | .str,A=>∃ s,A=[.sc (.string s)]
 | .bool,A=>∃ b,A=[.sc (.bool b)]
 | .sl s,A=>A=[.nl]∨∃ es:List (List VV),A=[.fz es.length s.size es.flatten]∧∀ e∈es,ShOk s e
 | .un,A=>A=[]
 | .pr a b,A=>∃ A1 A2,A=A1++A2∧ShOk a A1∧ShOk b A2
theorem ShOk.len:∀ {s:Sh} {A:List VV},ShOk s A→A.length=s.size
 | .int _,_,h=>by obtain ⟨z,rfl,_⟩:=h;rfl
 | .str,_,h=>by obtain ⟨z,rfl⟩:=h;rfl
 | .bool,_,h=>by obtain ⟨z,rfl⟩:=h;rfl
 | .sl _,_,h=>by
   simp only [ShOk] at h
   rcases h with rfl | ⟨es,rfl,_⟩<;>rfl
 | .un,_,h=>by simp only [ShOk] at h;subst h;rfl
 | .pr a b,_,h=>by
   simp only [ShOk] at h
   obtain ⟨A1,A2,rfl,h1,h2⟩:=h
   rw [List.length_append,h1.len,h2.len,Sh.size]
structure Bears (w:World) (m:Mp) (H:Heap):Prop where
 rel:Rel m H w
 own:∀ (b:Nat) (x:Blk),H[b]?=some x→x.owned=false
 wf:WF H
abbrev TT:Nat→Prop:=fun _=>True
theorem qpy (H J:Heap):KeepZ TT TT H (H++J) :=
 ⟨fun b f w bs z e=>⟨trivial,by rw [List.getElem?_append_left (qa9 e)];exact e⟩,fun b es e=>by rw [List.getElem?_append_left (qa9 e)];exact e⟩
theorem Bears.push {w:World} {m:Mp} {H:Heap} (h:Bears w m H) {cs:List Value} {l:Loc} {C:Array Value} {el:TypeId} {fr:Nat×Nat} (hg:w.heap[l.g]?=some (.cells C el fr)) (hN:C.size=l.N)
  (hc:∀ i v,cs[i]?=some v→∃ v',C[l.o+i]?=some v'∧SR m v v'):Bears w (psh m H.length l) (H++[.cells H.length false cs]):=by
 have hlt:l.g < w.heap.size:=by
  apply Nat.lt_of_not_le
  intro hge
  rw [Array.getElem?_eq_none hge] at hg
  cases hg
 have hext:=Ext.push l h.rel.free
 have hown:∀ (b:Nat) (x:Blk),(H++[Blk.cells H.length false cs])[b]?=some x→x.owned=false:=by
  intro b x hb
  by_cases hlt:b < H.length
  ·rw [List.getElem?_append_left hlt] at hb;exact h.own b x hb
  ·rw [List.getElem?_append_right (by omega)] at hb
   have h0:=qa9 hb
   simp at h0
   rw [show b - H.length=0 from by omega] at hb
   simp at hb
   subst hb;rfl
 refine ⟨?_,hown,h.wf.app (Nat.le_refl _)⟩
 exact {
  len:=fun b k hb=>by
   by_cases hbb:b=H.length
   ·subst hbb;simp
   ·rw [qci _ hbb] at hb
    have:=h.rel.len b k hb
    simp;omega
  has:=fun b x hb hl=>by
   by_cases hbb:b=H.length
   ·subst hbb;exact ⟨l,qcq ..⟩
   ·have hlt:b < H.length:=by have:=qa9 hb;simp at this;omega
    rw [List.getElem?_append_left hlt] at hb
    rw [qci _ hbb]
    exact h.rel.has b x hb hl
  bnd:=fun b k hb=>by
   by_cases hbb:b=H.length
   ·subst hbb;rw [qcq] at hb;injection hb with hb;subst hb;exact hlt
   ·rw [qci _ hbb] at hb;exact h.rel.bnd b k hb
  blk:=fun b x k hx hb=>by
   by_cases hbb:b=H.length
   ·subst hbb
    rw [qcq] at hb;injection hb with hb;subst hb
    rw [List.getElem?_append_right (Nat.le_refl _),Nat.sub_self] at hx
    simp at hx;subst hx
    exact ⟨C,el,fr,hg,hN,(fun e=>by cases e),fun i v hv=>by
     obtain ⟨v',a1,a2⟩:=hc i v hv
     exact ⟨v',a1,a2.mono hext⟩⟩
   ·have hlt:b < H.length:=by have:=qa9 hx;simp at this;omega
    rw [List.getElem?_append_left hlt] at hx
    rw [qci _ hbb] at hb
    exact BR.keep hext (h.rel.blk b x k hx hb) fun _=>rfl
  sep:=fun b c x y k j _ hx _ _ _ ho=>by rw [hown b x hx] at ho;cases ho }
structure Grows (m:Mp) (H:Heap) (m':Mp) (H':Heap):Prop where
 ext:Ext m m'
 app:∃ J,H'=H++J
theorem Grows.refl (m:Mp) (H:Heap):Grows m H m H:=⟨.refl m,[],by simp⟩
theorem Grows.trans {m1 m2 m3:Mp} {H1 H2 H3:Heap} (h:Grows m1 H1 m2 H2) (k:Grows m2 H2 m3 H3):Grows m1 H1 m3 H3:=by
 obtain ⟨J,hJ⟩:=h.app
 obtain ⟨K,hK⟩:=k.app
 exact ⟨h.ext.trans k.ext,J++K,by rw [hK,hJ,List.append_assoc]⟩
theorem Grows.keep {m m':Mp} {H H':Heap} (h:Grows m H m' H') {A:List VV} {vs:List Value} (hr:RepCL TT H A vs):RepCL TT H' A vs:=by
 obtain ⟨J,rfl⟩:=h.app
 exact RepCL.keep (qpy H J) _ _ hr
theorem qlu {m m':Mp} (h:Ext m m') {vs cs:List Value} (k:All2 (SR m) vs cs):All2 (SR m') vs cs:=k.mono fun _ _ e=>e.mono h
theorem qlv {Z:Nat→Prop} {H:Heap} {A B:List VV} {us vs:List Value} (h:RepCL Z H A us) (k:RepCL Z H B vs):RepCL Z H (A++B) (us++vs):=by
 rw [qb3] at *
 exact h.append k
theorem qfb {Z:Nat→Prop} {H:Heap} {A:VV} {v:Value} (h:RepC Z H A v):RepCL Z H [A] [v]:=by
 simp only [RepCL]
 exact ⟨v,[],rfl,h,rfl⟩
theorem mapM_get {α β:Type} {f:α→Option β}:∀ {l:List α} {r:List β},l.mapM f=some r→r.length=l.length∧∀ (i:Nat) (x:α),l[i]?=some x→f x=r[i]? := by
 intro l
 induction l with
 | nil=>intro r h;simp at h;subst h;exact ⟨rfl,fun i x h=>by simp at h⟩
 | cons a l ih =>
   intro r h
   rw [List.mapM_cons] at h
   cases ha:f a with
   | none=>rw [ha] at h;simp at h
   | some b =>
     cases hl:l.mapM f with
     | none=>rw [ha,hl] at h;simp at h
     | some bs =>
       rw [ha,hl] at h
       simp at h
       subst h
       obtain ⟨h1,h2⟩:=ih hl
       refine ⟨by simp [h1],fun i x hx=>?_⟩
       cases i with
       | zero=>simp at hx;subst hx;simp [ha]
       | succ i=>simpa using h2 i x (by simpa using hx)
theorem qpz {w:World} {a:Addr} {n:Nat} {es:List Value} (h:w.cells? 0 a n=some es) (hn:0 < n):∃ C el fr,a.spot=none∧w.heap[a.block]?=some (.cells C el fr)∧es.length=n∧∀ i v,es[i]?=some v→C[a.off+i]?=some v:=by
 unfold World.cells? at h
 rw [if_pos (Nat.zero_le _)] at h
 have hlen:es.length=n∧∀ i,i < n→w.cell? (a.add i)=es[i]? := by
  obtain ⟨h1,h2⟩:=mapM_get h
  rw [List.length_range] at h1
  exact ⟨h1,fun i hi=>h2 i i (by rw [List.getElem?_range hi])⟩
 obtain ⟨hl,hc⟩:=hlen
 have h0:=hc 0 hn
 rw [List.getElem?_eq_getElem (by omega)] at h0
 unfold World.cell? Addr.add at h0
 rw [if_pos rfl] at h0
 split at h0
 ·rename_i C el fr hh
  have hs:a.spot=none:=by
   cases hsp:a.spot with
   | none=>rfl
   | some p=>rw [hsp] at h0;simp at h0
  refine ⟨C,el,fr,hs,hh,hl,fun i v hv=>?_⟩
  have hi:=qa9 hv
  have:=hc i (by omega)
  rw [hv] at this
  unfold World.cell? Addr.add at this
  by_cases hi0:i=0
  ·subst hi0
   rw [if_pos rfl,hh] at this
   simp only [hs,Option.isSome_none,Bool.false_eq_true,if_false] at this
   simpa using this
  ·rw [if_neg hi0] at this
   simp only [hh,Option.isSome_none,Bool.false_eq_true,if_false] at this
   exact this
 ·cases h0
theorem elems_rep {w:World} {s:Sh} (ih:∀ {cs:List Value} {m:Mp} {H:Heap},ShAt w s cs→Bears w m H→∃ m' H' A vs,Grows m H m' H'∧Bears w m' H'∧ShOk s A∧RepCL TT H' A vs∧All2 (SR m') vs cs) :
  ∀ {ess:List (List Value)} {m:Mp} {H:Heap},(∀ es∈ess,ShAt w s es)→Bears w m H→∃ (m':Mp) (H':Heap) (As:List (List VV)) (vs:List Value),Grows m H m' H'∧Bears w m' H'∧As.length=ess.length∧(∀ A∈As,ShOk s A)∧RepCL TT H' As.flatten vs∧All2 (SR m') vs ess.flatten:=by
 intro ess
 induction ess with
 | nil=>intro m H _ hb;exact ⟨m,H,[],[],.refl _ _,hb,rfl,(fun A h=>by cases h),by simp only [List.flatten_nil,RepCL],.nil⟩
 | cons es ess ih2 =>
   intro m H h hb
   obtain ⟨m1,H1,A,vs,g1,b1,o1,r1,s1⟩:=ih (h es (List.mem_cons_self ..)) hb
   obtain ⟨m2,H2,As,us,g2,b2,l2,o2,r2,s2⟩:=ih2 (fun e he=>h e (List.mem_cons_of_mem _ he)) b1
   refine ⟨m2,H2,A::As,vs++us,g1.trans g2,b2,by simp [l2],fun B hB=>?_,?_,?_⟩
   ·rcases List.mem_cons.1 hB with rfl | hB
    ·exact o1
    ·exact o2 B hB
   ·rw [List.flatten_cons];exact qlv (g2.keep r1) r2
   ·rw [List.flatten_cons];exact (qlu g2.ext s1).append s2
theorem qtb {α:Type} {n:Nat}:∀ {l:List (List α)},(∀ x∈l,x.length=n)→l.flatten.length=l.length*n
 | [],_=>by simp
 | x::l,h=>by
   rw [List.flatten_cons,List.length_append,h x (List.mem_cons_self ..),qtb fun y hy=>h y (List.mem_cons_of_mem _ hy),List.length_cons,Nat.add_mul,Nat.one_mul,Nat.add_comm]
theorem qtc {α:Type} {n:Nat}:∀ {l:List (List α)},(∀ x∈l,x.length=n)→∀ {k:Nat} {v:α},l.flatten[k]?=some v→∃ i j x,l[i]?=some x∧x[j]?=some v∧j < n∧k=i*n+j
 | [],_,k,v,h=>by simp at h
 | x::l,hl,k,v,h=>by
   have hx:=hl x (List.mem_cons_self ..)
   rw [List.flatten_cons] at h
   by_cases hk:k < x.length
   ·rw [List.getElem?_append_left hk] at h
    exact ⟨0,k,x,rfl,h,by omega,by omega⟩
   ·rw [List.getElem?_append_right (by omega)] at h
    obtain ⟨i,j,y,h1,h2,h3,h4⟩:=qtc (fun y hy=>hl y (List.mem_cons_of_mem _ hy)) h
    exact ⟨i+1,j,y,by simpa using h1,h2,h3,by rw [Nat.add_mul];omega⟩
theorem qp0 {w:World}:∀ (s:Sh) {cs:List Value} {m:Mp} {H:Heap},ShAt w s cs→Bears w m H→∃ m' H' A vs,Grows m H m' H'∧Bears w m' H'∧ShOk s A∧RepCL TT H' A vs∧All2 (SR m') vs cs
 | .int k,cs,m,H,h,hb=>by
   simp only [ShAt] at h
   obtain ⟨z,rfl,hw⟩:=h
   exact ⟨m,H,[.sc (.int k z)],[.int k z],.refl _ _,hb,⟨z,rfl,hw⟩,qfb (qdv.2 ⟨rfl,rfl⟩),.cons (.int _ _) .nil⟩
 | .str,cs,m,H,h,hb=>by
   simp only [ShAt] at h
   obtain ⟨z,rfl⟩:=h
   exact ⟨m,H,[.sc (.string z)],[.string z],.refl _ _,hb,⟨z,rfl⟩,qfb (qdv.2 ⟨rfl,rfl⟩),.cons (.string _) .nil⟩
 | .bool,cs,m,H,h,hb=>by
   simp only [ShAt] at h
   obtain ⟨z,rfl⟩:=h
   exact ⟨m,H,[.sc (.bool z)],[.bool z],.refl _ _,hb,⟨z,rfl⟩,qfb (qdv.2 ⟨rfl,rfl⟩),.cons (.bool _) .nil⟩
 | .un,cs,m,H,h,hb=>by
   simp only [ShAt] at h
   subst h
   exact ⟨m,H,[],[],.refl _ _,hb,rfl,by simp only [RepCL],.nil⟩
 | .pr a b,cs,m,H,h,hb=>by
   simp only [ShAt] at h
   obtain ⟨c1,c2,rfl,h1,h2⟩:=h
   obtain ⟨m1,H1,A,vs,g1,b1,o1,r1,s1⟩:=qp0 a h1 hb
   obtain ⟨m2,H2,B,us,g2,b2,o2,r2,s2⟩:=qp0 b h2 b1
   exact ⟨m2,H2,A++B,vs++us,g1.trans g2,b2,⟨A,B,rfl,o1,o2⟩,qlv (g2.keep r1) r2,(qlu g2.ext s1).append s2⟩
 | .sl s,cs,m,H,h,hb=>by
   simp only [ShAt] at h
   rcases h with rfl | ⟨a,len,cap,rfl,hs0,hl,hel⟩
   ·exact ⟨m,H,[.nl],[.slice none 0 0],.refl _ _,hb,.inl rfl,qfb (by simp only [RepC]),.cons .sliceNil .nil⟩
   ·by_cases h0:len=0
    ·subst h0
     refine ⟨m,H,[.fz 0 s.size []],[lostSlice],.refl _ _,hb,.inr ⟨[],rfl,fun e h=>by cases h⟩,qfb ?_,.cons (.lost _ _ _ _) .nil⟩
     simp only [RepC]
     exact ⟨[],⟨by simp,hs0,.inl ⟨rfl,.inr rfl⟩⟩,by simp only [RepCL]⟩
    ·have hl0:0 < len:=by omega
     -- the elements' cells
     have hch:∀ i,∃ es,i < cap→(w.cells? 0 (a.add (i*s.size)) s.size=some es∧ShAt w s es):=fun i=>by
      by_cases hi:i < cap
      ·obtain ⟨es,he⟩:=hel i hi
       exact ⟨es,fun _=>he⟩
      ·exact ⟨[],fun hh=>absurd hh hi⟩
     obtain ⟨f,hf⟩:=Classical.axiomOfChoice hch
     obtain ⟨C,el,fr,hspot,hg,_,_⟩:=qpz (hf 0 (by omega)).1 hs0
     have hsp:a.spot=none:=by simpa [Addr.add] using hspot
     have hblk:w.heap[a.block]?=some (.cells C el fr):=by simpa [Addr.add] using hg
     have cell:∀ i,i < cap→(f i).length=s.size∧∀ j v,(f i)[j]?=some v→C[a.off+(i*s.size+j)]?=some v:=by
      intro i hi
      obtain ⟨C',el',fr',_,hg',hl',hc'⟩:=qpz (hf i hi).1 hs0
      have hb':(a.add (i*s.size)).block=a.block:=by unfold Addr.add;split<;>rfl
      have ho':(a.add (i*s.size)).off=a.off+i*s.size:=by unfold Addr.add;split<;>simp_all
      rw [hb',hblk] at hg'
      injection hg' with hg'
      injection hg' with e1 _ _
      subst e1
      exact ⟨hl',fun j v hv=>by have:=hc' j v hv;rw [ho'] at this;rw [← Nat.add_assoc];exact this⟩
     obtain ⟨m1,H1,As,vs,g1,b1,l1,o1,r1,s1⟩:=elems_rep (w:=w) (s:=s) (fun h hb=>qp0 s h hb) (ess:=(List.range len).map f) (m:=m) (H:=H) (fun es he=>by
      obtain ⟨i,hi,rfl⟩:=List.mem_map.1 he
      exact (hf i (by have:=List.mem_range.1 hi;omega)).2) hb
     rw [List.length_map,List.length_range] at l1
     have hfl:∀ x∈(List.range len).map f,x.length=s.size:=fun x hx=>by
      obtain ⟨i,hi,rfl⟩:=List.mem_map.1 hx
      exact (cell i (by have:=List.mem_range.1 hi;omega)).1
     have hcl:((List.range len).map f).flatten.length=len*s.size:=by rw [qtb hfl,List.length_map,List.length_range]
     have hvl:vs.length=len*s.size:=by rw [s1.length,hcl]
     let l:Loc:=⟨a.block,a.off,C.size⟩
     have hfit:a.off+cap*s.size≤C.size:=by
      obtain ⟨e1,e2⟩:=cell (cap - 1) (by omega)
      have:=e2 (s.size - 1) _ (List.getElem?_eq_getElem (by omega))
      have:=(Array.getElem?_eq_some_iff.1 this).1
      have e3:(cap - 1)*s.size+s.size=cap*s.size:=by rw [← Nat.succ_mul];congr 1;omega
      omega
     have b2:=b1.push (cs:=vs) (l:=l) hblk rfl (fun i v hv=>by
      obtain ⟨v',a1,a2⟩:=s1.get i v hv
      obtain ⟨p,q,x,hp,hq,hqs,hpq⟩:=qtc hfl a1
      rw [List.getElem?_map] at hp
      cases hr:(List.range len)[p]? with
      | none=>rw [hr] at hp;cases hp
      | some p' =>
        rw [hr] at hp
        injection hp with hp
        have hpl:p < len:=by have:=qa9 hr;simpa using this
        rw [List.getElem?_range hpl] at hr
        injection hr with hr
        subst hr;subst hp
        exact ⟨v',by rw [hpq];exact (cell p (by omega)).2 q v' hq,a2⟩)
     have hnew:(psh m1 H1.length l) H1.length=some l:=qcq ..
     refine ⟨psh m1 H1.length l,H1++[.cells H1.length false vs],[.fz As.length s.size As.flatten],[sliceA H1.length 0 len s.size],g1.trans ⟨.push l b1.rel.free,_,rfl⟩,b2,.inr ⟨As,rfl,o1⟩,qfb ?_,.cons ?_ .nil⟩
     ·simp only [RepC]
      rw [l1]
      refine ⟨vs,⟨hvl,hs0,.inr ⟨H1.length,0,H1.length,false,vs,rfl,by simp,trivial,by omega,by rw [List.drop_zero,← hvl,List.take_length]⟩⟩,RepCL.keep (qpy H1 _) _ _ r1⟩
     ·have:=SR.slice (m:=psh m1 H1.length l) H1.length 0 len s.size cap l hnew hl (by show a.off+0+cap*s.size≤C.size;omega)
      obtain ⟨ab,ao,asp⟩:=a
      simp only at hsp
      subst hsp
      exact this
def ArgSh (w:World):Sh→Value→Prop
 | .pr a b,v=>∃ cs,v = .agg cs∧ShAt w (.pr a b) cs.toList
 | s,v=>ShAt w s [v]
def ShArg:Sh→VV→Prop
 | .pr a b,A=>∃ As,A = .st As∧ShOk (.pr a b) As
 | s,A=>ShOk s [A]
theorem qn6 {H:Type} {enc:TypeId×Value→H} {P:Program} {w w0:World} {held:Bool} {r:Reach} {base:Nat} {s:Sh} {t:TypeId} {v:Value} {d:DataW H} {p:List MemPlace} (hs:shT P s t=true) (hval:Value.okWide P w0 r base t v)
  (hd:DataW.Trod enc P w 0 (fun _=>true) held t v d p):ArgSh w s v:=by
 obtain ⟨fuel,hf⟩:=hd
 have h:=qn5 s hs hf
 cases s with
 | int k =>
   unfold shT at hs
   split at hs
   ·rename_i k' hu
    obtain ⟨n,rfl⟩:=WideShapes.okWide_int hu hval
    exact h
   ·cases hs
 | str =>
   unfold shT at hs
   split at hs
   ·rename_i hu
    obtain ⟨n,rfl⟩:=WideShapes.okWide_string hu hval
    exact h
   ·cases hs
 | bool =>
   unfold shT at hs
   split at hs
   ·rename_i hu
    obtain ⟨n,rfl⟩:=WideShapes.okWide_bool hu hval
    exact h
   ·cases hs
 | sl s =>
   unfold shT at hs
   split at hs
   ·rename_i e hu
    obtain ⟨a,len,cap,rfl⟩:=WideShapes.okWide_slice hu hval
    exact h
   ·cases hs
 | un=>unfold shT at hs;cases hs
 | pr a b =>
   have hagg:∃ cs,v = .agg cs:=by
    unfold shT at hs
    split at hs
    ·rename_i o u r hl
     unfold fieldsOf at hl
     split at hl
     ·rename_i fs hu
      simp only [Value.okWide,hu] at hval
      obtain ⟨cs,e,_⟩:=hval
      exact ⟨cs,e⟩
     ·rename_i n e hu
      simp only [Value.okWide,hu] at hval
      obtain ⟨cs,e,_⟩:=hval
      exact ⟨cs,e⟩
     ·cases hl
    ·cases hs
   obtain ⟨cs,rfl⟩:=hagg
   exact ⟨cs,rfl,h⟩
theorem arg_rep {w:World} {s:Sh} {v:Value} {m:Mp} {H:Heap} (h:ArgSh w s v) (hb:Bears w m H):∃ m' H' A u,Grows m H m' H'∧Bears w m' H'∧ShArg s A∧RepC TT H' A u∧VR m' u v:=by
 have one:ShAt w s [v]→(∀ A,ShOk s [A]→ShArg s A)→s.size=1→∃ m' H' A u,Grows m H m' H'∧Bears w m' H'∧ShArg s A∧RepC TT H' A u∧VR m' u v:=by
  intro h hsh h1
  obtain ⟨m',H',As,vs,g,b,o,r,k⟩:=qp0 s h hb
  have hl:=o.len
  rw [h1] at hl
  match As,hl with
  | [A],_ =>
    simp only [RepCL] at r
    obtain ⟨u,ws,rfl,r1,rfl⟩:=r
    cases k with
    | cons k1 k2 =>
      exact ⟨m',H',A,u,g,b,hsh A o,r1,.a (.s k1)⟩
 cases s with
 | pr a c =>
   obtain ⟨cs,rfl,h⟩:=h
   obtain ⟨m',H',As,vs,g,b,o,r,k⟩:=qp0 _ h hb
   refine ⟨m',H',.st As,.agg vs.toArray,g,b,⟨As,rfl,o⟩,by simp only [RepC];exact ⟨vs,rfl,r⟩,.a (.agg (by simpa using k))⟩
 | un =>
   have:ShAt w .un [v]:=h
   simp only [ShAt] at this
   cases this
 | int k=>exact one h (fun _ o=>o) rfl
 | str=>exact one h (fun _ o=>o) rfl
 | bool=>exact one h (fun _ o=>o) rfl
 | sl s=>exact one h (fun _ o=>o) rfl
theorem args_rep {w:World}:∀ {shs:List Sh} {vs:List Value} {m:Mp} {H:Heap},All2 (ArgSh w) shs vs→Bears w m H→∃ (m':Mp) (H':Heap) (As:List VV) (us:List Value),Grows m H m' H'∧Bears w m' H'∧All2 ShArg shs As∧RepCL TT H' As us∧All2 (VR m') us vs:=by
 intro shs
 induction shs with
 | nil=>intro vs m H h hb;cases h;exact ⟨m,H,[],[],.refl _ _,hb,.nil,by simp only [RepCL],.nil⟩
 | cons s shs ih =>
   intro vs m H h hb
   cases h with
   | cons h1 h2 =>
     obtain ⟨m1,H1,A,u,g1,b1,o1,r1,k1⟩:=arg_rep h1 hb
     obtain ⟨m2,H2,As,us,g2,b2,o2,r2,k2⟩:=ih h2 b1
     exact ⟨m2,H2,A::As,u::us,g1.trans g2,b2,.cons o1 o2,qlv (g2.keep (qfb r1)) r2,.cons (k1.mono g2.ext) k2⟩
theorem bears_nil (w:World):Bears w (fun _=>none) []:=⟨rel_nil w,fun b x h=>by simp at h,fun b f o cs h=>by simp at h⟩
abbrev shL:Sh:=.sl (.int .i64)
theorem sh_L {A:VV} (h:ShOk shL [A]):∃ l,asL A=some l:=by
 simp only [ShOk] at h
 rcases h with h | ⟨es,h,he⟩
 ·injection h with h;subst h;exact ⟨[],rfl⟩
 ·injection h with h;subst h
  have:∃ l,es.flatten=li l:=by
   induction es with
   | nil=>exact ⟨[],rfl⟩
   | cons e es ih =>
     obtain ⟨l,hl⟩:=ih fun x hx=>he x (List.mem_cons_of_mem _ hx)
     obtain ⟨z,hz,_⟩:=he e (List.mem_cons_self ..)
     exact ⟨z::l,by rw [List.flatten_cons,hz,hl];rfl⟩
  obtain ⟨l,hl⟩:=this
  rw [hl]
  exact ⟨l,asL_fz⟩
abbrev shO:Sh:=.pr shL (.pr shL .un)
theorem qh0 {a b:Sh} {As:List VV} (h:ShOk (.pr a (.pr b .un)) As) (ha:a.size=1) (hb:b.size=1):∃ A B,As=[A,B]∧ShOk a [A]∧ShOk b [B]:=by
 simp only [ShOk] at h
 obtain ⟨A1,A2,rfl,h1,B1,B2,rfl,h2,rfl⟩:=h
 have l1:=h1.len
 have l2:=h2.len
 rw [ha] at l1
 rw [hb] at l2
 match A1,B1,l1,l2 with
 | [A],[B],_,_=>exact ⟨A,B,rfl,h1,h2⟩
theorem sh_O {A:VV} (h:ShArg shO A):∃ o,cO.dec A=some o:=by
 obtain ⟨As,rfl,h⟩:=h
 obtain ⟨A,B,rfl,h1,h2⟩:=qh0 h rfl rfl
 obtain ⟨l,hl⟩:=sh_L h1
 obtain ⟨m,hm⟩:=sh_L h2
 refine ⟨(l,m),?_⟩
 show asO (.st [A,B])=_
 simp only [asO,hl,hm]
def asSS:VV→Option (ByteArray×ByteArray)
 | .st [.sc (.string a),.sc (.string b)]=>some (a,b)
 | _=>none
def cSS:Cod (ByteArray×ByteArray):=⟨fun p=>.st [.sc (.string p.1),.sc (.string p.2)],asSS,fun Z H A x v h hr=>by
 unfold asSS at h
 split at h
 ·injection h with h;subst h;exact hr
 ·cases h⟩
def asYY:VV→Option (Int×Int)
 | .st [.sc (.int .u8 a),.sc (.int .u8 b)]=>some (a,b)
 | _=>none
def cYY:Cod (Int×Int):=⟨fun p=>.st [.sc (.int .u8 p.1),.sc (.int .u8 p.2)],asYY,fun Z H A x v h hr=>by
 unfold asYY at h
 split at h
 ·injection h with h;subst h;exact hr
 ·cases h⟩
theorem qmq {a b:ByteArray}:cSS.enc (a,b) = .st [.sc (.string a),.sc (.string b)]:=(rfl)
theorem qmr {a b:Int}:cYY.enc (a,b) = .st [.sc (.int .u8 a),.sc (.int .u8 b)]:=(rfl)
abbrev shS2:Sh:=.pr .str (.pr .str .un)
abbrev shY2:Sh:=.pr (.int .u8) (.pr (.int .u8) .un)
theorem sh_S2 {A:VV} (h:ShArg shS2 A):∃ p,cSS.dec A=some p:=by
 obtain ⟨As,rfl,h⟩:=h
 obtain ⟨A,B,rfl,⟨a,ha⟩,⟨b,hb⟩⟩:=qh0 h rfl rfl
 injection ha with ha;injection hb with hb
 subst ha;subst hb
 exact ⟨(a,b),rfl⟩
theorem wf_u8 {z:Int} (h:(Lit.int .u8 z).wf=true):0≤z∧z≤255:=by
 have h:(decide (IntKind.u8.min≤z) && decide (z≤IntKind.u8.max))=true:=h
 rw [Bool.and_eq_true,decide_eq_true_eq,decide_eq_true_eq] at h
 exact h
theorem sh_Y2 {A:VV} (h:ShArg shY2 A):∃ p:Int×Int,cYY.dec A=some p∧(0≤p.1∧p.1≤255)∧0≤p.2∧p.2≤255:=by
 obtain ⟨As,rfl,h⟩:=h
 obtain ⟨A,B,rfl,⟨a,ha,wa⟩,⟨b,hb,wb⟩⟩:=qh0 h rfl rfl
 injection ha with ha;injection hb with hb
 subst ha;subst hb
 exact ⟨(a,b),rfl,wf_u8 wa,wf_u8 wb⟩
end Go.Abs
