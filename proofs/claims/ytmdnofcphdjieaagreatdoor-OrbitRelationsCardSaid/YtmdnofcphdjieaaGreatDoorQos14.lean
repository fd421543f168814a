/- Of the law: texts of its proof, joined (part 14). -/
import Derived.Test.YtmdnofcphdjieaaGreatDoorQos13
import Derived.Test.YtmdnofcphdjieaaGreatDoorQos7
set_option linter.all false
namespace Go.Proofs.YtmdnofcphdjieaaGreatDoor
open Go Go.Abs
set_option maxRecDepth 10000
attribute [local congr] qba qbb qbc qbd qbn qbe qbo qbp qbq qbr qbt qbu qcc qby qbs qbl qb7 qb1
theorem atG_neg {l:List Int} {z:Int}:∀ {m i:Nat},(∀ k,i≤k→k < i+m→l.getD k 0≠z)→atG l z m i=-1:=by
 intro m
 induction m with
 | zero=>intro i _;rfl
 | succ m ih =>
   intro i h
   rw [atG,if_neg (h i (Nat.le_refl _) (by omega))]
   exact ih fun k h1 h2=>h k (by omega) (by omega)
theorem atL_neg {l:List Int} {z:Int} (h:∀ k,k < l.length→l.getD k 0≠z):atL l z=-1:=atG_neg fun k _ hk=>h k (by omega)
theorem atL_iff {l:List Int} {z:Int}:atL l z < 0↔∀ k,k < l.length→l.getD k 0≠z:=by
 constructor
 ·intro h k hk e
  obtain ⟨j,hj,h1,h2⟩:=qgi (p:=fun k=>decide (l.getD k 0=z)) (y:=k) (decide_eq_true e)
  have:=atL_at (l:=l) (z:=z) (j:=j) (by omega) (fun x hx=>of_decide_eq_false (h2 x hx)) (of_decide_eq_true h1)
  omega
 ·intro h
  rw [atL_neg h]
  omega
structure NI (n:Nat) (o:Og) (s:NSt):Prop where
 ok:NOk n s
 at_:NAt s
 cl:NCl n o 0 s
theorem NI.vis {n:Nat} {o:Og} {s:NSt} (h:NI n o s) {z:Int} (h0:0≤z) (h1:z < n):NI n o (visit s z) :=
 ⟨h.ok.visit h0 h1,h.at_.vis h.ok h0 (by omega),NCl.visit h.ok h.cl (Nat.zero_le _) h0 (by omega)⟩
theorem NI.link {n:Nat} {o:Og} {s:NSt} (h:NI n o s) {z:Int} (h0:0≤z) (h1:z < n):atL s.2 z < 0↔s.1.getD z.toNat 0 < 0:=by
 rw [atL_iff]
 constructor
 ·intro hh
  apply Int.not_le.1
  intro hle
  obtain ⟨k,hk,e⟩:=h.cl.mem z.toNat (by omega) (by unfold hasN;exact decide_eq_true hle)
  exact hh k hk (by rw [e];omega)
 ·intro hh k hk e
  have:=h.at_ k hk
  rw [e] at this
  omega
theorem NI.start {n:Nat} {o:Og} {x:Int} (h0:0≤x) (h1:x < n):NI n o (nstart n x):=by
 refine ⟨NOk.start h0 h1,fun k hk=>?_,NCl.start h0 h1⟩
 have hk:k < 1:=hk
 have:k=0:=by omega
 subst this
 show ((List.replicate n (-1:Int)).set x.toNat 0).getD x.toNat 0=_
 rw [qdk (by simp;omega),if_pos rfl]
 rfl
theorem qkt {s:NSt} {z:Int} (h:s.1.getD z.toNat 0 < 0):(visit s z).2=s.2++[z]:=by unfold visit;rw [if_pos h]
theorem qku {s:NSt} {z:Int} (h:¬ s.1.getD z.toNat 0 < 0):visit s z=s:=by unfold visit;rw [if_neg h]
noncomputable def frC:Code:=atC [1,1,0,1,0,0] ((Tryz.f105.body).getD .skip)
abbrev frT:List (Nat×VSpec):=[(133,ratS),(101,rinS)]
abbrev frPol:Nat→Bool:=fun d=>d == 10 || d == 50
theorem fr_loop {n:Nat} (hn:n≤1000) {r v:List Int} (hr:Pn n r) (hv:Pn n v) {R:NSt} {mm k c w u2 K:Nat} {s:NSt} (hs:NI n (r,v) s) (hK:K≤s.2.length) (hR:nloop (r,v) (n+1 - K) K s=R) {a:VF} {σ:VSt} (hk:n+1 - K < k)
  (h2:a 2 = .ptr 2 u2 0) (h5:a 5 = .own 10 w) (h6:a 6=vI (K:Int)) (s10:σ 10=some ⟨w,s.2.length,1,li s.2⟩) (s2:σ 2=bx0 u2 r v) :
  ∃ x a' σ' c',loopV (evVC Tryz.prog (callOf frT) frPol mm frC) k a σ c=some (x,a',σ',c')∧x = .exit 0∧∃ w,a' 5 = .own 10 w∧σ' 10=some ⟨w,R.2.length,1,li R.2⟩:=by
 refine qns (fun M a σ _=>∃ K s w,M=n+1 - K∧NI n (r,v) s∧K≤s.2.length∧nloop (r,v) (n+1 - K) K s=R∧a 2 = .ptr 2 u2 0∧a 5 = .own 10 w∧a 6=vI (K:Int)∧σ 10=some ⟨w,s.2.length,1,li s.2⟩∧σ 2=bx0 u2 r v) _ ?_ k (n+1 - K) a σ c hk ⟨K,s,w,rfl,hs,hK,hR,h2,h5,h6,s10,s2⟩
 intro M a σ c ⟨K,s,w,hM,hs,hK,hR,h2,h5,h6,s10,s2⟩
 have hle:=hs.ok.le
 obtain ⟨f,hf⟩:∃ f,n+1 - K=f+1:=⟨n - K,by omega⟩
 have hf2:n+1 - (K+1)=f:=by omega
 have hrl:=hr.1
 have hvl:=hv.1
 have p10:frPol 10=true:=rfl
 have p31:frPol 31=false:=rfl
 have p47:frPol 47=false:=rfl
 have p5:frPol (1000000+5)=false:=rfl
 have p8:frPol (1000000+8)=false:=rfl
 by_cases hlt:K < s.2.length
 ·left
  have c1:(K:Int) < (s.2.length:Int):=by omega
  have hx:=qbh hs.ok.ord hlt
  have ha:=qbh hr.2 (i:=(s.2.getD K 0).toNat) (by rw [hr.1];omega)
  have hb:=qbh hv.2 (i:=(s.2.getD K 0).toNat) (by rw [hv.1];omega)
  have x0:=hx.1
  have x1:s.2.getD K 0 < (r.length:Int):=by rw [hrl];exact hx.2
  have x2:s.2.getD K 0 < (v.length:Int):=by rw [hvl];exact hx.2
  have cx:(s.2.getD K 0).toNat < n:=by omega
  have e3:IntKind.i64.wrap ((K:Int)+1)=((K+1:Nat):Int):=by rw [wr64 (by omega) (by omega)];omega
  have hs1:=hs.vis ha.1 ha.2
  have hs2:=hs1.vis hb.1 hb.2
  have hle1:=hs1.ok.le
  have hle2:=hs2.ok.le
  have lk1:=hs.link ha.1 ha.2
  have lk2:=hs1.link hb.1 hb.2
  rw [hf,nloop,if_pos hlt] at hR
  have fin:∀ s',s'=nstep (r,v) s K→NI n (r,v) s'∧K+1≤s'.2.length∧nloop (r,v) (n+1 - (K+1)) (K+1) s'=R:=by
   rintro s' rfl
   refine ⟨hs2,?_,by rw [hf2];exact hR⟩
   have l1:=qdt s ((r,v).1.getD (s.2.getD K 0).toNat 0)
   have l2:=qdt (visit s ((r,v).1.getD (s.2.getD K 0).toNat 0)) ((r,v).2.getD (s.2.getD K 0).toNat 0)
   unfold nstep
   omega
  have q0:decide (s.2.length≤1000000)=true:=decide_eq_true (by omega)
  rw [show frC=atC [1,1,0,1,0,0] ((Tryz.f105.body).getD .skip) from rfl]
  by_cases e1:s.1.getD (r.getD (s.2.getD K 0).toNat 0).toNat 0 < 0
  ·have a1:atL s.2 (r.getD (s.2.getD K 0).toNat 0) < 0:=lk1.2 e1
   have v1:=qkt e1
   have hL:(s.2++[r.getD (s.2.getD K 0).toNat 0]).length=s.2.length+1:=by simp
   rw [v1,hL] at hle1
   have hm1:s.2.length+1≤maxA:=by unfold maxA;omega
   have g1:(s.2++[r.getD (s.2.getD K 0).toNat 0]).getD K 0=s.2.getD K 0:=qf1 hlt
   have c2:(K:Int) < ((s.2.length+1:Nat):Int):=by omega
   have q1:decide ((s.2++[r.getD (s.2.getD K 0).toNat 0]).length≤1000000)=true:=decide_eq_true (by omega)
   by_cases e2:(visit s (r.getD (s.2.getD K 0).toNat 0)).1.getD (v.getD (s.2.getD K 0).toNat 0).toNat 0 < 0
   ·have a2:=lk2.2 e2
    rw [v1] at a2
    have v2:=qkt e2
    rw [v1] at v2
    rw [v2] at hle2
    have hL2:(s.2++[r.getD (s.2.getD K 0).toNat 0]++[v.getD (s.2.getD K 0).toNat 0]).length=s.2.length+1+1:=by simp
    rw [hL2] at hle2
    have hm2:s.2.length+1+1≤maxA:=by unfold maxA;omega
    simp (disch:=omega) only [Tryz.f105,Option.getD_some,atC,qaw,qao,qah,qc4,qax,qau,qay,qa7,qat,qal,qa4,qcl,qcd,qbi,qgy,qcg uL,qa3,qa0,qb9,qaa,qab,qac,qcu,qam,↓qaa,↓qab,↓qac,↓qam,qaq,qag,qap,qa5,qav,qai,qa1,qa2,qae,qaj,qad,↓qae,↓qaj,↓qad,qew eL,ad_fz eL,qco aI,ld_rp aI,qc3,qdn,qlm,qjw eL pVI,bs_I1,qc0,qbz,qbf,pk_sc,qln,vcall,qb4,qas,qiu,qjg,qdm,List.getElem?_drop,Option.map_some,↓reduceIte,Nat.reduceEqDiff,Nat.succ_ne_self,Nat.zero_add,Nat.add_zero,Nat.mul_one,Int.toNat_natCast,Int.natCast_nonneg,and_self,List.map_cons,List.map_nil,decide_true,List.getElem?_cons_zero,List.getElem?_cons_succ,qaf,qar,↓qaf,↓qar,Option.getD_some,sp2,qak,↓qak,dec_L,dec_I,qco aL,qcf fO0,qcf fO1,Nat.reduceAdd,p5,p8,h2,h5,h6,s10,s2,c1,c2,x0,x1,x2,g1,q0,q1,a1,a2,hm1,hm2,p31,p47,e3]
    refine ⟨_,_,_,rfl,?_⟩
    obtain ⟨f1,f2,f3⟩:=fin _ rfl
    refine ⟨n+1 - (K+1),by omega,K+1,_,_,rfl,f1,f2,f3,h2,rfl,rfl,?_,s2⟩
    show _=some (⟨_,(visit (visit s (r.getD (s.2.getD K 0).toNat 0)) (v.getD (s.2.getD K 0).toNat 0)).2.length,1,li (visit (visit s (r.getD (s.2.getD K 0).toNat 0)) (v.getD (s.2.getD K 0).toNat 0)).2⟩:Ob)
    rw [v2,hL2]
    simp only [qag,↓reduceIte]
    rw [List.take_of_length_le (by rw [qjv,hL];exact Nat.le_refl _),qjg]
   ·have a2:¬ atL (s.2++[r.getD (s.2.getD K 0).toNat 0]) (v.getD (s.2.getD K 0).toNat 0) < 0:=fun h=>e2 (lk2.1 (by rw [v1];exact h))
    have v2:=qku e2
    simp (disch:=omega) only [Tryz.f105,Option.getD_some,atC,qaw,qao,qah,qc4,qax,qau,qay,qa7,qat,qal,qa4,qcl,qcd,qbi,qgy,qcg uL,qa3,qa0,qb9,qaa,qab,qac,qcu,qam,qan,↓qaa,↓qab,↓qac,↓qam,↓qan,qaq,qag,qap,qa5,qav,qai,qa1,qa2,qae,qaj,qad,↓qae,↓qaj,↓qad,qew eL,ad_fz eL,qco aI,ld_rp aI,qc3,qdn,qlm,qjw eL pVI,bs_I1,qc0,qbz,qbf,pk_sc,qln,vcall,qb4,qas,qiu,qjg,qdm,List.getElem?_drop,Option.map_some,↓reduceIte,Nat.reduceEqDiff,Nat.succ_ne_self,Nat.zero_add,Nat.add_zero,Nat.mul_one,Int.toNat_natCast,Int.natCast_nonneg,and_self,List.map_cons,List.map_nil,decide_true,decide_false,List.getElem?_cons_zero,List.getElem?_cons_succ,qaf,qar,↓qaf,↓qar,Option.getD_some,sp2,qak,↓qak,dec_L,dec_I,qco aL,qcf fO0,qcf fO1,Nat.reduceAdd,p5,p8,h2,h5,h6,s10,s2,c1,c2,x0,x1,x2,g1,q0,q1,a1,a2,hm1,p31,e3]
    refine ⟨_,_,_,rfl,?_⟩
    obtain ⟨f1,f2,f3⟩:=fin _ rfl
    refine ⟨n+1 - (K+1),by omega,K+1,_,_,rfl,f1,f2,f3,h2,rfl,rfl,?_,s2⟩
    show _=some (⟨_,(visit (visit s (r.getD (s.2.getD K 0).toNat 0)) (v.getD (s.2.getD K 0).toNat 0)).2.length,1,li (visit (visit s (r.getD (s.2.getD K 0).toNat 0)) (v.getD (s.2.getD K 0).toNat 0)).2⟩:Ob)
    rw [v2,v1,hL]
    rfl
  ·have a1:¬ atL s.2 (r.getD (s.2.getD K 0).toNat 0) < 0:=fun h=>e1 (lk1.1 h)
   have v1:=qku e1
   by_cases e2:s.1.getD (v.getD (s.2.getD K 0).toNat 0).toNat 0 < 0
   ·have a2:=(hs.link hb.1 hb.2).2 e2
    have v2:=qkt e2
    have hL:(s.2++[v.getD (s.2.getD K 0).toNat 0]).length=s.2.length+1:=by simp
    have hle3:=(hs.vis hb.1 hb.2).ok.le
    rw [v2,hL] at hle3
    have hm1:s.2.length+1≤maxA:=by unfold maxA;omega
    simp (disch:=omega) only [Tryz.f105,Option.getD_some,atC,qaw,qao,qah,qc4,qax,qau,qay,qa7,qat,qal,qa4,qcl,qcd,qbi,qgy,qcg uL,qa3,qa0,qb9,qaa,qab,qac,qcu,qam,qan,↓qaa,↓qab,↓qac,↓qam,↓qan,qaq,qag,qap,qa5,qav,qai,qa1,qa2,qae,qaj,qad,↓qae,↓qaj,↓qad,qew eL,ad_fz eL,qco aI,ld_rp aI,qc3,qdn,qlm,qjw eL pVI,bs_I1,qc0,qbz,qbf,pk_sc,qln,vcall,qb4,qas,qiu,qjg,qdm,List.getElem?_drop,Option.map_some,↓reduceIte,Nat.reduceEqDiff,Nat.succ_ne_self,Nat.zero_add,Nat.add_zero,Nat.mul_one,Int.toNat_natCast,Int.natCast_nonneg,and_self,List.map_cons,List.map_nil,decide_true,decide_false,List.getElem?_cons_zero,List.getElem?_cons_succ,qaf,qar,↓qaf,↓qar,Option.getD_some,sp2,qak,↓qak,dec_L,dec_I,qco aL,qcf fO0,qcf fO1,Nat.reduceAdd,p5,p8,h2,h5,h6,s10,s2,c1,x0,x1,x2,q0,a1,a2,hm1,p47,e3]
    refine ⟨_,_,_,rfl,?_⟩
    obtain ⟨f1,f2,f3⟩:=fin _ rfl
    refine ⟨n+1 - (K+1),by omega,K+1,_,_,rfl,f1,f2,f3,h2,rfl,rfl,?_,s2⟩
    show _=some (⟨_,(visit (visit s (r.getD (s.2.getD K 0).toNat 0)) (v.getD (s.2.getD K 0).toNat 0)).2.length,1,li (visit (visit s (r.getD (s.2.getD K 0).toNat 0)) (v.getD (s.2.getD K 0).toNat 0)).2⟩:Ob)
    rw [v1,v2,hL]
    rfl
   ·have a2:¬ atL s.2 (v.getD (s.2.getD K 0).toNat 0) < 0:=fun h=>e2 ((hs.link hb.1 hb.2).1 h)
    have v2:=qku e2
    simp (disch:=omega) only [Tryz.f105,Option.getD_some,atC,qaw,qao,qah,qc4,qax,qau,qay,qa7,qat,qal,qa4,qcl,qcd,qbi,qcg uL,qa3,qa0,qb9,qaa,qab,qac,qcu,qam,qan,↓qaa,↓qab,↓qac,↓qam,↓qan,qaq,qag,qap,qa5,qav,qai,qa1,qa2,qae,qaj,qad,↓qae,↓qaj,↓qad,qew eL,ad_fz eL,qco aI,ld_rp aI,qc3,qdn,qlm,qbz,qbf,pk_sc,qln,vcall,qb4,qas,qdm,List.getElem?_drop,Option.map_some,↓reduceIte,Nat.reduceEqDiff,Nat.succ_ne_self,Nat.zero_add,Nat.add_zero,Nat.mul_one,Int.toNat_natCast,Int.natCast_nonneg,and_self,List.map_cons,List.map_nil,decide_true,decide_false,List.getElem?_cons_zero,List.getElem?_cons_succ,qaf,qar,↓qaf,↓qar,Option.getD_some,sp2,qak,↓qak,dec_L,dec_I,qco aL,qcf fO0,qcf fO1,Nat.reduceAdd,p5,p8,h2,h5,h6,s10,s2,c1,x0,x1,x2,q0,a1,a2,e3]
    refine ⟨_,_,_,rfl,?_⟩
    obtain ⟨f1,f2,f3⟩:=fin _ rfl
    refine ⟨n+1 - (K+1),by omega,K+1,_,_,rfl,f1,f2,f3,h2,h5,rfl,?_,s2⟩
    show _=some (⟨_,(visit (visit s (r.getD (s.2.getD K 0).toNat 0)) (v.getD (s.2.getD K 0).toNat 0)).2.length,1,li (visit (visit s (r.getD (s.2.getD K 0).toNat 0)) (v.getD (s.2.getD K 0).toNat 0)).2⟩:Ob)
    rw [v1,v2]
    exact s10
 ·right
  have c1:¬ ((K:Int) < (s.2.length:Int)):=by omega
  rw [show frC=atC [1,1,0,1,0,0] ((Tryz.f105.body).getD .skip) from rfl]
  simp (disch:=omega) only [Tryz.f105,Option.getD_some,atC,qaw,qao,qah,qax,qau,qda,qat,qcg uL,qa3,qa0,qaa,qab,qac,qb0,qan,↓qaa,↓qab,↓qac,↓qb0,↓qan,qaq,qag,qap,qai,qa1,qa2,qae,↓qae,qlm,Option.map_some,↓reduceIte,Nat.reduceEqDiff,Nat.succ_ne_self,decide_false,Option.getD_some,h5,h6,s10,c1]
  rw [hf,nloop,if_neg hlt] at hR
  subst hR
  refine ⟨_,_,_,_,rfl,?_⟩
  exact ⟨by simp,rfl,w,h5,s10⟩
def ordL (o:Og) (x:Int):List Int:=(nloop o (o.1.length+1) 0 (nstart o.1.length x)).2
theorem NI.loop {n:Nat} {o:Og} (h1:Pn n o.1) (h2:Pn n o.2):∀ {f K:Nat} {s:NSt},NI n o s→NI n o (nloop o f K s)∧s.2.length≤(nloop o f K s).2.length
 | 0,_,_,h=>⟨h,Nat.le_refl _⟩
 | f+1,K,s,h=>by
   rw [nloop]
   split
   ·rename_i hK
    have hx:=qbh h.ok.ord hK
    have ha:=qbh h1.2 (i:=(s.2.getD K 0).toNat) (by rw [h1.1];omega)
    have hb:=qbh h2.2 (i:=(s.2.getD K 0).toNat) (by rw [h2.1];omega)
    obtain ⟨q1,q2⟩:=NI.loop h1 h2 (f:=f) (K:=K+1) ((h.vis ha.1 ha.2).vis hb.1 hb.2)
    refine ⟨q1,?_⟩
    have l1:=qdt s (o.1.getD (s.2.getD K 0).toNat 0)
    have l2:=qdt (visit s (o.1.getD (s.2.getD K 0).toNat 0)) (o.2.getD (s.2.getD K 0).toNat 0)
    exact Nat.le_trans (Nat.le_trans l1 l2) q2
   ·exact ⟨h,Nat.le_refl _⟩
abbrev frS:VSpec:=spec2 cO cI numP (fun o x=>vL (rinvL (ordL o x))) true
theorem fr_ok:OK 1000004 105 frS:=by
 refine OK.of2 (F:=1000003) (tb:=frT) (pol:=frPol) ?_ (x:=(Tryz.f105.body).getD .skip) (Nat.le_of_ble_eq_true rfl) Tryz.func105 rfl (ok_fn (by rfl) Tryz.func105 rfl) (by kernel_rfl) (by intros;rfl) fun n hn o x hc=>?_
 ·intro y hy
  simp only [frT,List.mem_cons,List.not_mem_nil,or_false] at hy
  rcases hy with rfl | rfl
  ·exact rat_ok.mono (by omega)
  ·exact rin_ok
 obtain ⟨r,v⟩:=o
 simp only [numP,Bool.and_eq_true,decide_eq_true_eq] at hc
 obtain ⟨⟨⟨hP,h100⟩,hx0⟩,hx1⟩:=hc
 obtain ⟨h1,h2,h3⟩:=qfc.1 hP
 replace h1:Pn r.length r:=h1
 replace h2:Pn r.length v:=h2
 replace h100:r.length≤100:=h100
 have hst:=NI.start (n:=r.length) (o:=(r,v)) hx0 hx1
 have key:=fun (a:VF) (σ:VSt) (c w u2:Nat)=>fr_loop (by omega) h1 h2 (R:=nloop (r,v) (r.length+1 - 0) 0 (nstart r.length x)) hst (Nat.zero_le _) rfl (mm:=n) (k:=n) (a:=a) (σ:=σ) (c:=c) (w:=w) (u2:=u2) (by omega)
 rw [show frC=atC [1,1,0,1,0,0] ((Tryz.f105.body).getD .skip) from rfl] at key
 simp only [Tryz.f105,Option.getD_some,atC] at key
 obtain ⟨hI,hIl⟩:=NI.loop (n:=r.length) (o:=(r,v)) h1 h2 (f:=r.length+1) (K:=0) hst
 have hl1:1≤(ordL (r,v) x).length:=hIl
 have hl2:(ordL (r,v) x).length≤r.length:=hI.ok.le
 have d1:decide (0 < (ordL (r,v) x).length)=true:=decide_eq_true (by omega)
 have d2:decide ((ordL (r,v) x).length≤1000)=true:=decide_eq_true (by omega)
 have p10:frPol 10=true:=rfl
 have p50:frPol 50=true:=rfl
 simp (disch:=omega) only [Tryz.f105,Option.getD_some,qaw,qao,qah,qax,qay,qdj,qbv,qat,qal,qcv,qbi,qaa,qab,qac,↓qaa,↓qab,↓qac,qbg,qag,qap,qa5,qav,qfn,qai,qad,↓qad,qc5,qa6,bs_I1,qc0,qbz,qbf,vcall,qas,frV_0,frV_1,List.flatMap_cons,List.flatMap_nil,List.append_nil,↓reduceIte,Nat.reduceEqDiff,Nat.zero_add,List.map_cons,List.map_nil,qaf,↓qaf,Option.getD_some,enc_I,enc_O,sv_st,Nat.reduceAdd,p10]
 generalize hA:updV _ 6 _=B
 generalize hS:updV _ 10 _=τ
 obtain ⟨xx,a',σ',c',e,rfl,w,w5,q10⟩:=key B τ _ _ _ (by subst hA;rfl) (by subst hA;rfl) (by subst hA;rfl) (by subst hS;rfl) (by subst hS;rfl)
 rw [e]
 replace q10:σ' 10=some ⟨w,(ordL (r,v) x).length,1,li (ordL (r,v) x)⟩:=q10
 simp (disch:=omega) only [qaa,qab,qac,qdp,↓qaa,↓qab,↓qac,qag,qa1,qa2,qae,qaj,qad,↓qae,↓qaj,↓qad,qc5,qln,qbw,qb8,qe0,fv_r,pv_1,fsh_1,qem,↓reduceIte,Nat.succ_ne_self,qaf,↓qaf,Bool.and_true,bne_1,Option.getD_some,sp1,qak,↓qak,dec_L,w5,q10,d1,d2,p50,qq5 qnv]
end Go.Proofs.YtmdnofcphdjieaaGreatDoor
namespace Go.Proofs.YtmdnofcphdjieaaGreatDoor
open Go Go.Abs
set_option maxRecDepth 10000
attribute [local congr] qba qbb qbc qbd qbn qbe qbo qbp qbq qbr qbt qbu qcc qby qbs qbl qb7 qb1
def lsL:List Int→List Int→Bool
 | x::l,y::m=>if x=y then lsL l m else decide (x < y)
 | _,_=>false
theorem lsL_step {l m:List Int} {i:Nat} (h1:i < l.length) (h2:i < m.length):lsL (l.drop i) (m.drop i)=if l.getD i 0=m.getD i 0 then lsL (l.drop (i+1)) (m.drop (i+1)) else decide (l.getD i 0 < m.getD i 0):=by
 rw [qh2 h1,qh2 h2,lsL]
noncomputable def lsC:Code:=atC [1,0,1,0,0] ((Tryz.f135.body).getD .skip)
theorem ls_loop {l m:List Int} (he:l.length=m.length) (hb:l.length≤1000000) {call:VCall} {mm k c:Nat} {a:VF} {σ:VSt} (hk:l.length < k)
  (h0:a 0=vL l) (h1:a 1=vL m) (h5:a 5=vI ((0:Nat):Int)) :
  ∃ x a' σ' c',loopV (evVC Tryz.prog call (fun _=>false) mm lsC) k a σ c=some (x,a',σ',c')∧((x = .exit 0∧lsL l m=false)∨(x = .ret∧a' 4=vB (lsL l m))):=by
 refine qc2 l.length (fun i a σ _=>a 0=vL l∧a 1=vL m∧a 5=vI i∧lsL l m=lsL (l.drop i) (m.drop i)) _ ?_ ?_ hk ⟨h0,h1,h5,rfl⟩
 ·intro i a σ c hi ⟨h0,h1,h5,hd⟩
  have hi2:i < m.length:=by omega
  have c1:(i:Int) < (l.length:Int):=by omega
  have c2:(i:Int) < (m.length:Int):=by omega
  have e3:IntKind.i64.wrap ((i:Int)+1)=((i+1:Nat):Int):=by rw [wr64 (by omega) (by omega)];omega
  rw [lsL_step hi hi2] at hd
  rw [show lsC=atC [1,0,1,0,0] ((Tryz.f135.body).getD .skip) from rfl]
  by_cases h:l.getD i 0=m.getD i 0
  ·left
   have hT:(l.getD i 0=m.getD i 0)=True:=eq_true h
   rw [if_pos h] at hd
   simp (disch:=omega) only [Tryz.f135,Option.getD_some,atC,qaw,qao,qah,qc4,qax,qau,qay,qa7,qat,qal,qa4,qcd,qcg uL,qa3,qa0,qch,qb9,qaa,qab,qac,qcu,qam,qan,↓qaa,↓qab,↓qac,↓qam,↓qan,qaq,qag,qap,qav,qai,ad_fz eL,ld_rp aI,qc3,ln_fz,qdm,List.getElem?_drop,Option.map_some,↓reduceIte,Nat.reduceEqDiff,Nat.add_zero,Nat.mul_one,Int.toNat_natCast,Int.natCast_nonneg,and_self,decide_true,Bool.not_true,qar,↓qar,Option.getD_some,h0,h1,h5,c1,c2,hT,e3]
   refine ⟨_,_,_,rfl,?_⟩
   exact ⟨h0,h1,rfl,hd⟩
  ·right
   have hF:(l.getD i 0=m.getD i 0)=False:=eq_false h
   rw [if_neg h] at hd
   simp (disch:=omega) only [Tryz.f135,Option.getD_some,atC,qaw,qao,qah,qc4,qax,qau,qay,qa7,qbv,qat,qal,qa4,qcd,qcg uL,qa3,qa0,qch,qaa,qab,qac,qaz,qdx,qam,↓qaa,↓qab,↓qac,↓qaz,↓qam,qaq,qag,qap,qai,ad_fz eL,ld_rp aI,qc3,ln_fz,qdm,List.getElem?_drop,Option.map_some,↓reduceIte,Nat.reduceEqDiff,Nat.add_zero,Nat.mul_one,Int.toNat_natCast,Int.natCast_nonneg,and_self,decide_true,decide_false,Bool.not_false,qar,↓qar,Option.getD_some,h0,h1,h5,c1,c2,hF]
   refine ⟨_,_,_,_,rfl,?_⟩
   exact ⟨by simp,.inr ⟨rfl,by rw [hd];rfl⟩⟩
 ·intro a σ c ⟨h0,h1,h5,hd⟩
  have c1:¬ ((l.length:Int) < (l.length:Int)):=by omega
  rw [show lsC=atC [1,0,1,0,0] ((Tryz.f135.body).getD .skip) from rfl]
  simp only [Tryz.f135,Option.getD_some,atC,qaw,qao,qah,qax,qau,qda,qat,qcg uL,qa3,qa0,qaa,qab,qac,qb0,qan,↓qaa,↓qab,↓qac,↓qb0,↓qan,qaq,qag,qap,qai,ln_fz,Option.map_some,↓reduceIte,Nat.reduceEqDiff,decide_false,Option.getD_some,h0,h5,c1]
  refine ⟨_,_,_,_,rfl,?_⟩
  exact ⟨by simp,.inl ⟨rfl,by rw [hd,List.drop_length];rfl⟩⟩
abbrev lsP (l m:List Int):Bool:=decide (l.length=m.length) && decide (l.length≤1000000)
abbrev lsS:VSpec:=spec2 cL cL lsP (fun l m=>vB (lsL l m)) false
theorem ls_ok:OK 1000002 135 lsS:=by
 refine OK.of2 (F:=1000001) (tb:=[]) (pol:=fun _=>false) (by simp) (x:=(Tryz.f135.body).getD .skip) (Nat.le_of_ble_eq_true rfl) Tryz.func135 rfl (ok_fn (by rfl) Tryz.func135 rfl) (by kernel_rfl) (by intros;rfl) fun n hn l m hc=>?_
 simp only [lsP,Bool.and_eq_true,decide_eq_true_eq] at hc
 have key:=fun (a:VF) (σ:VSt) (c:Nat)=>ls_loop hc.1 hc.2 (call:=callOf []) (mm:=n) (k:=n) (a:=a) (σ:=σ) (c:=c) (by omega)
 rw [show lsC=atC [1,0,1,0,0] ((Tryz.f135.body).getD .skip) from rfl] at key
 simp only [Tryz.f135,Option.getD_some,atC] at key
 simp (disch:=omega) only [Tryz.f135,qaw,qao,qah,qax,qay,qdj,qbv,qal,qaa,qab,qac,↓qaa,↓qab,↓qac,qav,qcs,qai,Option.getD_some,enc_L]
 generalize hA:updV _ 5 _=B
 obtain ⟨x,a',σ',c',e,⟨rfl,h⟩ | ⟨rfl,h4⟩⟩:=key B _ _ (by subst hA;rfl) (by subst hA;rfl) (by subst hA;rfl)
 ·rw [e,h]
  simp (disch:=omega) only [qac,qdp,↓qac,qag,qad,↓qad,qbw,qb8,qbx,fv_r,pv_1,fsh_1,qbk,↓reduceIte]
 ·rw [e]
  simp (disch:=omega) only [qaz,qdx,↓qaz,qad,↓qad,qbw,qb8,qbx,fv_r,pv_1,fsh_1,qbk,h4]
def bfB (a b:Og):Bool:=lsL (a.1++a.2) (b.1++b.2)
abbrev bfP (a b:Og):Bool:=decide (0 < a.1.length) && (decide (a.1.length≤1000) && (decide (a.2.length=a.1.length) && (decide (b.1.length=a.1.length) && decide (b.2.length=a.1.length))))
abbrev bfT:List (Nat×VSpec):=[(102,cpyS),(135,lsS)]
abbrev bfPol:Nat→Bool:=fun d=>d == 7 || d == 13 || d == 1000001
theorem li_cons (x:Int) (l:List Int):vL (x::l) = .fz (l.length+1) 1 (li (x::l)):=rfl
abbrev bfS:VSpec:=spec2 cO cO bfP (fun a b=>vB (bfB a b)) false
theorem bf_ok:OK 1000003 107 bfS:=by
 refine OK.of2 (F:=1000002) (tb:=bfT) (pol:=bfPol) ?_ (x:=(Tryz.f107.body).getD .skip) (Nat.le_of_ble_eq_true rfl) Tryz.func107 rfl (ok_fn (by rfl) Tryz.func107 rfl) (by kernel_rfl) (by intros;rfl) fun n hn o w hc=>?_
 ·intro y hy
  simp only [bfT,List.mem_cons,List.not_mem_nil,or_false] at hy
  rcases hy with rfl | rfl
  ·exact cpy_ok.mono (by omega)
  ·exact ls_ok
 obtain ⟨a,b⟩:=o
 obtain ⟨c,d⟩:=w
 simp only [bfP,Bool.and_eq_true,decide_eq_true_eq] at hc
 obtain ⟨h0,h1,h2,h3,h4⟩:=hc
 obtain ⟨y,bt,rfl⟩:∃ y bt,b=y::bt:=by cases b with | nil=>simp at h2;omega | cons y bt=>exact ⟨y,bt,rfl⟩
 obtain ⟨z,dt,rfl⟩:∃ z dt,d=z::dt:=by cases d with | nil=>simp at h4;omega | cons y bt=>exact ⟨y,bt,rfl⟩
 rw [List.length_cons] at h2 h4
 have q1:decide (0 < a.length)=true:=decide_eq_true h0
 have q2:decide (a.length≤1000)=true:=decide_eq_true h1
 have q3:decide (0 < c.length)=true:=decide_eq_true (by omega)
 have q4:decide (c.length≤1000)=true:=decide_eq_true (by omega)
 have m1:a.length+(bt.length+1)≤maxA:=by unfold maxA;omega
 have m2:c.length+(dt.length+1)≤maxA:=by unfold maxA;omega
 have hls:lsP (a++y::bt) (c++z::dt)=true:=by
  simp only [lsP,Bool.and_eq_true,decide_eq_true_eq,List.length_append,List.length_cons]
  omega
 have di:drawI (regOps (atC [1,0] ((Tryz.f107.body).getD .skip))) (Region.before (regOps (atC [1,0] ((Tryz.f107.body).getD .skip))))=false:=by kernel_rfl
 simp only [Tryz.f107,Option.getD_some,atC,regOps] at di
 have p1:bfPol (1000000+1)=true:=rfl
 have p7:bfPol 7=true:=rfl
 have p13:bfPol 13=true:=rfl
 simp (disch:=omega) only [Tryz.f107,Option.getD_some,qaw,qao,qah,qc4,qax,qbv,qal,qcv,qa4,qcl,qbi,qgy,qaa,qab,qac,↓qaa,↓qab,↓qac,qaq,qbg,qag,qap,qa5,qcs,qai,qa1,qa2,qae,qaj,qad,↓qae,↓qaj,↓qad,qdn,qjw eL pVI,qc5,qa6,qbz,qbf,pk_fz,qln,vcall,qfo,qpi,qpj,qb4,qd6,qas,qbw,qb8,qbx,fv_r,pv_1,fsh_1,qbk,frV_0,frV_1,qiu,li_app,qhf,List.flatMap_cons,List.flatMap_nil,List.append_nil,↓reduceIte,Nat.reduceEqDiff,Nat.succ_ne_self,Nat.zero_add,Nat.add_zero,Nat.mul_one,and_self,List.map_cons,List.map_nil,List.getElem?_cons_zero,List.getElem?_cons_succ,beq_self_eq_true,qaf,qar,↓qaf,↓qar,Bool.and_true,Bool.and_false,bne_1,Option.getD_some,sp1,sp2,enc_O,qak,↓qak,dec_L,sv_st,qco aL,qcf fO0,qcf fO1,Nat.reduceAdd,vj_nil,vj_cons,rdC_t,oj_callF,oj_app,oj_assign,oj_faddr,oj_load,boxOf_ptr,szIs_t,qeb,qc8,qe8,qec,qf8,qes,co_app,Option.isSome_some,Bool.or_true,di,p1,p7,p13,li_cons,q1,q2,q3,q4,m1,m2,hls]
 rfl
end Go.Proofs.YtmdnofcphdjieaaGreatDoor
namespace Go.Proofs.YtmdnofcphdjieaaGreatDoor
open Go Go.Abs
set_option maxRecDepth 10000
attribute [local congr] qba qbb qbc qbd qbn qbe qbo qbp qbq qbr qbt qbu qcc qby qbs qbl qb7 qb1
theorem rsz_noC:VSpecOK (evB Tryz.prog noC 3) 106 rszS:=by
 intro args r fresh hs
 obtain ⟨y,h1,rfl,rfl,h2⟩:=qpk hs
 have h:AnsAt (evB Tryz.prog noC 3) 106 [cO.enc y] (vI (y.1.length:Int)) false:=by
  refine qsr (n:=2) (ca:=evB Tryz.prog noC 2) (call:=callOf []) (pol:=fun _=>false) (x:=(Tryz.f106.body).getD .skip) (qlk (t:=[]) fun y hy=>by cases hy) Tryz.func106 rfl (ok_fn (by rfl) Tryz.func106 rfl) (by kernel_rfl) (args:=[cO.enc y]) (Nat.le_of_ble_eq_true rfl) ?_
  obtain ⟨r,u⟩:=y
  simp (disch:=omega) only [Tryz.f106,Option.getD_some,qaw,qao,qah,qax,qbv,qal,qcv,qa4,qcl,qcg uL,qaa,qab,qac,↓qaa,↓qab,↓qac,qaq,qbg,qag,qap,qav,qai,qa1,qa2,qae,qad,↓qae,↓qad,qdn,ln_fz,qa6,qbw,qb8,qbx,fv_r,pv_1,fsh_1,qbk,frV_0,Option.map_some,↓reduceIte,Nat.reduceEqDiff,Nat.zero_add,Nat.add_zero,List.getElem?_cons_zero,Option.getD_some,enc_O,sv_st,qco aL,qcf fO0]
 exact (AnsAt.args h h2).x (fun cs e=>by cases e)
noncomputable def rrC:Code:=atC [1,1,0,1,0,0] ((Tryz.f108.body).getD .skip)
abbrev rrT:List (Nat×VSpec):=[(106,rszS)]
theorem rr_loop {n:Nat} (hn:n≤1000) {r v f:List Int} (hr:Pn n r) (hv:Pn n v) (hf:Pn n f) {pol:Nat→Bool} (p5:pol (1000000+5)=true) (p6:pol (1000000+6)=true) {m k c:Nat} {a:VF} {σ:VSt} (hk:n < k) {u1 u2 u3:Nat} {A:Option Ob}
  (h1:a 1=vL f) (h6:a 6=vI ((0:Nat):Int)) (h2:a 2 = .ptr 2 0 0) (h5:a 5 = .ptr 5 u3 0) (h4:a 4 = .ptr 4 1 0)
  (s2:σ 2=some ⟨0,0,0,[.fz n 1 (li r),.fz n 1 (li v)]⟩) (s5:σ 5=some ⟨u3,0,0,[.own 9 u1,.own 12 u2]⟩) (s4:σ 4=A) (s9:σ 9=some ⟨u1,n,1,li (renK f r 0)⟩) (s12:σ 12=some ⟨u2,n,1,li (renK f v 0)⟩) :
  ∃ x a' σ' c',loopV (evVC Tryz.prog (callOf rrT) pol m rrC) k a σ c=some (x,a',σ',c')∧x = .exit 0∧a' 5 = .ptr 5 u3 0∧a' 4 = .ptr 4 1 0∧σ' 4=A∧σ' 5=some ⟨u3,0,0,[.own 9 u1,.own 12 u2]⟩∧σ' 9=some ⟨u1,n,1,li (renK f r n)⟩∧σ' 12=some ⟨u2,n,1,li (renK f v n)⟩:=by
 have di:drawI (regOps (atC [1,1,0,1,0,0,1,0,0,0] ((Tryz.f108.body).getD .skip))) (Region.before (regOps (atC [1,1,0,1,0,0,1,0,0,0] ((Tryz.f108.body).getD .skip))))=true:=by kernel_rfl
 simp only [Tryz.f108,Option.getD_some,atC,regOps] at di
 have dj:drawI (regOps (atC [1,1,0,1,0,0,1,0,0,1] ((Tryz.f108.body).getD .skip))) (Region.before (regOps (atC [1,1,0,1,0,0,1,0,0,1] ((Tryz.f108.body).getD .skip))))=true:=by kernel_rfl
 simp only [Tryz.f108,Option.getD_some,atC,regOps] at dj
 refine qc2 n (fun i a σ _=>a 1=vL f∧a 6=vI i∧a 2 = .ptr 2 0 0∧a 5 = .ptr 5 u3 0∧a 4 = .ptr 4 1 0∧σ 2=some ⟨0,0,0,[.fz n 1 (li r),.fz n 1 (li v)]⟩∧σ 5=some ⟨u3,0,0,[.own 9 u1,.own 12 u2]⟩∧σ 4=A∧σ 9=some ⟨u1,n,1,li (renK f r i)⟩∧σ 12=some ⟨u2,n,1,li (renK f v i)⟩) _ ?_ ?_ hk ⟨h1,h6,h2,h5,h4,s2,s5,s4,s9,s12⟩
 ·intro i a σ c hi ⟨h1,h6,h2,h5,h4,s2,s5,s4,s9,s12⟩
  left
  obtain ⟨hr0,hr1⟩:=hr
  obtain ⟨hv0,hv1⟩:=hv
  obtain ⟨hf0,hf1⟩:=hf
  have x0:=qbh hr1 (i:=i) (by omega)
  have y0:=qbh hv1 (i:=i) (by omega)
  have z0:=qbh hf1 (i:=i) (by omega)
  have c1:(i:Int) < (n:Int):=by omega
  have c2:(r.getD i 0).toNat < n:=by omega
  have c3:(v.getD i 0).toNat < n:=by omega
  have c4:(f.getD i 0).toNat < n:=by omega
  have l1:=qj8 f r i
  have l2:=qj8 f v i
  have e3:IntKind.i64.wrap ((i:Int)+1)=((i+1:Nat):Int):=by rw [wr64 (by omega) (by omega)];omega
  rw [show rrC=atC [1,1,0,1,0,0] ((Tryz.f108.body).getD .skip) from rfl]
  simp (disch:=omega) only [Tryz.f108,Option.getD_some,atC,qaw,qao,qah,qc4,qax,qau,qay,qa7,qat,qal,qa4,qc1,qcl,qcd,qbi,qa3,qa0,qb9,qaa,qab,qac,qcu,qam,↓qaa,↓qab,↓qac,↓qam,qaq,qcm,qag,qap,qa5,qav,qai,qcn,qa1,qa2,qae,qaj,qad,↓qae,↓qaj,↓qad,qew eL,ad_fz eL,ld_rp aI,qc3,qdn,ldS_own,st_sc zI,qbz,qbf,qb6,qbm,pk_st,qcp,vcall,qb4,qas,qdm,qsx,qjv,List.getElem?_drop,↓reduceIte,Nat.reduceEqDiff,Nat.succ_ne_self,Nat.zero_add,Nat.add_zero,Nat.mul_one,Int.toNat_natCast,Int.natCast_nonneg,and_self,List.map_cons,List.map_nil,decide_true,List.getElem?_cons_zero,List.getElem?_cons_succ,qaf,↓qaf,Bool.and_true,Bool.and_false,Option.getD_some,sp1,qak,↓qak,dec_O,sl_fz,qa8,ldN_2,qco aL,qcf fO0,qcf fO1,qb5 aO zO,List.length_cons,List.length_nil,Nat.reduceAdd,Nat.le_refl,List.drop_zero,qe7,qef,rdC_t,qhu,qfe,qhb,qhv,qc8,qeb,qhw,qec,qf8,qhx,qff,Option.isSome_some,Bool.or_true,Bool.true_or,di,dj,p5,p6,h1,h6,h2,h5,s2,s5,s9,s12,c1,c4,x0.1,x0.2,y0.1,y0.2,z0.1,z0.2,l1,l2,hr0,hf0,e3]
  refine ⟨_,_,_,rfl,?_⟩
  exact ⟨h1,rfl,h2,h5,h4,s2,s5,s4,by simp only [qag,↓reduceIte,Nat.reduceEqDiff,qh3,renF],by simp only [qag,↓reduceIte,qh3,renF]⟩
 ·intro a σ c ⟨h1,h6,h2,h5,h4,s2,s5,s4,s9,s12⟩
  have c1:¬ ((n:Int) < (n:Int)):=by omega
  have hr0:=hr.1
  have hv0:=hv.1
  rw [show rrC=atC [1,1,0,1,0,0] ((Tryz.f108.body).getD .skip) from rfl]
  simp (disch:=omega) only [Tryz.f108,Option.getD_some,atC,qaw,qao,qah,qax,qau,qda,qat,qa4,qbi,qa3,qa0,qaa,qab,qac,qb0,qan,↓qaa,↓qab,↓qac,↓qb0,↓qan,qaq,qag,qap,qa5,qai,qa1,qa2,qae,qaj,qad,↓qae,↓qaj,↓qad,qbz,qbf,qb6,qbm,pk_st,qcp,vcall,qb4,qas,↓reduceIte,Nat.reduceEqDiff,Nat.zero_add,List.map_cons,List.map_nil,decide_false,qaf,↓qaf,Option.getD_some,sp1,qak,↓qak,dec_O,sl_fz,qa8,ldN_2,qb5 aO zO,List.length_cons,List.length_nil,Nat.reduceAdd,Nat.le_refl,List.drop_zero,h2,h6,s2,hr0,c1]
  refine ⟨_,_,_,_,rfl,?_⟩
  exact ⟨by simp,rfl,h5,h4,s4,s5,s9,s12⟩
abbrev rrPol:Nat→Bool:=fun d=>d == 9 || d == 12 || d == 1000001 || d == 1000005 || d == 1000006
theorem rr_fin {r u f:List Int} (hc:renP (r,u) f=true):finV Tryz.prog Tryz.f108.results.toList (evVC Tryz.prog (callOf rrT) rrPol 2000 rnX (frV [cO.enc (r,u),cL.enc f]) (fun _=>none) 0)=some (encO (renO (r,u) f),false):=by
 simp only [renP,Bool.and_eq_true,decide_eq_true_eq] at hc
 obtain ⟨⟨hc,hf1⟩,hf0⟩:=hc
 obtain ⟨h1,h2,h3⟩:=qfc.1 hc
 replace h1:Pn r.length r:=h1
 replace h2:Pn r.length u:=h2
 replace h3:r.length≤1000:=h3
 replace hf0:f.length=r.length:=hf0
 have hf:Pn r.length f:=⟨hf0,hf1⟩
 have l2:=h2.1
 have c2:((r.length:Nat):Int)≤1048576:=by omega
 have c0:(0:Int)≤((r.length:Nat):Int):=by omega
 have p1:rrPol (1000000+1)=true:=rfl
 have p9:rrPol 9=true:=rfl
 have p12:rrPol 12=true:=rfl
 have di:drawI (regOps (atC [1,0] rnX)) (Region.before (regOps (atC [1,0] rnX)))=true:=by kernel_rfl
 simp only [rnX,rnB,Tryz.f108,Option.getD_some,permAt,permOps,permOp,List.map_cons,List.map_nil,Array.getD_eq_getD_getElem?,List.getElem?_toArray,List.getElem?_cons_zero,List.getElem?_cons_succ,List.map_toArray,numOf,List.length_cons,List.length_nil,List.idxOf_cons,Nat.reduceAdd,Nat.reduceLT,Nat.reduceBEq,↓reduceIte,cond_true,cond_false,atC,regOps] at di
 have p5:rrPol (1000000+5)=true:=rfl
 have p6:rrPol (1000000+6)=true:=rfl
 have key:=fun (a:VF) (σ:VSt) (c u1 u2 u3:Nat) (A:Option Ob)=>rr_loop (m:=2000) (k:=2000) (c:=c) (a:=a) (σ:=σ) (u1:=u1) (u2:=u2) (u3:=u3) (pol:=rrPol) (A:=A) h3 h1 h2 hf p5 p6 (by omega)
 rw [show rrC=atC [1,1,0,1,0,0] ((Tryz.f108.body).getD .skip) from rfl] at key
 simp only [Tryz.f108,Option.getD_some,atC] at key
 simp only [rnX,rnB,Tryz.f108,Option.getD_some,permAt,permOps,permOp,List.map_cons,List.map_nil,Array.getD_eq_getD_getElem?,List.getElem?_toArray,List.getElem?_cons_zero,List.getElem?_cons_succ,List.map_toArray,numOf,List.length_cons,List.length_nil,List.idxOf_cons,Nat.reduceAdd,Nat.reduceLT,Nat.reduceBEq,↓reduceIte,cond_true,cond_false]
 simp (disch:=omega) only [qaw,qao,qah,qc4,qax,qay,qdj,qbv,qal,qcv,qex,qa4,qc1,qhy,qbi,qaa,qab,qac,↓qaa,↓qab,↓qac,qaq,qcm,qbg,qag,qap,qa5,qav,qai,qcn,qa1,qa2,qae,qaj,qad,↓qae,↓qaj,↓qad,qc5,qa6,mk_I,qbz,qbf,qb6,qbm,pk_st,qcp,vcall,qfo,qpi,qb4,qas,frV_0,↓reduceIte,Nat.reduceEqDiff,Nat.succ_ne_self,Nat.zero_add,Int.toNat_natCast,and_self,List.map_cons,List.map_nil,qaf,↓qaf,Bool.and_true,Bool.and_false,sp1,enc_L,enc_O,qak,↓qak,dec_O,st_W zO,qed,sv_st,sv_own,qde,qc6,sl_fz,qa8,ldN_2,qdu,↓qdu,qdy iO,qb5 aO zO,bO,List.set_cons_zero,List.set_cons_succ,List.length_cons,List.length_nil,Nat.reduceAdd,Nat.le_refl,List.drop_zero,qe7,qef,rdC_t,qir,qfe,qss,ro_make,qf7,qc8,qeb,qis,qec,qes,qff,qst,co_make,Option.isSome_some,Bool.or_true,di,c0,c2,p1,Int.le_refl]
 generalize hA:updV _ 6 _=B
 generalize hσ:updV _ 5 _=σB
 obtain ⟨x',a',σ',c',e,rfl,n5,n4,m4,m5,m9,m12⟩:=key B σB 5 2 3 4 _ (by subst hA;rfl) (by subst hA;rfl) (by subst hA;rfl) (by subst hA;rfl) (by subst hA;rfl) (by subst hσ;show some (⟨0,0,0,[.fz r.length 1 (li r),.fz u.length 1 (li u)]⟩:Ob)=_;rw [l2]) (by subst hσ;rfl) (by subst hσ;rfl) (by subst hσ;simp only [qag,↓reduceIte,Nat.reduceEqDiff,renK,hf0];rfl) (by subst hσ;simp only [qag,↓reduceIte,Nat.reduceEqDiff,renK,hf0];rfl)
 rw [e]
 simp (disch:=omega) only [qaa,qab,qac,qdp,↓qaa,↓qab,↓qac,qaq,qcm,qag,qa1,qa2,qae,qaj,qad,↓qae,↓qaj,↓qad,qb6,qbm,pk_st,pk1_own,qbw,qev,fv_r,pv_1,fsh_c,↓reduceIte,Nat.reduceEqDiff,Nat.succ_ne_self,Nat.zero_add,st_W zO,qed,sv_st,qde,qc6,sl_own,solG_some,qa8,ldN_2,qb5 aO zO,List.set_cons_zero,List.set_cons_succ,List.length_cons,List.length_nil,Nat.reduceAdd,Nat.le_refl,List.drop_zero,n5,n4,m4,m5,m9,m12]
 show some (VV.st [VV.fz r.length 1 (li (renK f r r.length)),VV.fz r.length 1 (li (renK f u r.length))],false)=some (VV.st [VV.fz (renL f r).length 1 (li (renL f r)),VV.fz (renL f u).length 1 (li (renL f u))],false)
 rw [qh4,qh4,hf0]
 unfold renL
 rw [hf0]
theorem rren_ok:OK 1 108 renS:=by
 intro n hn args r fresh hs
 obtain ⟨o,f,hp,rfl,rfl,hA⟩:=qlo hs
 obtain ⟨a,b⟩:=o
 have h:AnsAt rnC 108 [cO.enc (a,b),cL.enc f] (encO (renO (a,b) f)) false:=by
  refine fn_soundC (n:=2000) (call:=callOf rrT) (pol:=rrPol) (qlk (t:=rrT) fun y hy=>?_) (by kernel_rfl) (by kernel_rfl) (args:=[cO.enc (a,b),cL.enc f]) (Nat.le_of_ble_eq_true rfl) (rr_fin hp)
  simp only [rrT,List.mem_singleton] at hy
  subst hy
  exact rsz_noC
 have h2:AnsAt (evB Tryz.prog bC n) 108 [cO.enc (a,b),cL.enc f] (encO (renO (a,b) f)) false:=by
  intro Z H vs hw hA
  obtain ⟨v,H',q1,q2⟩:=h Z H vs hw hA
  exact ⟨v,H',qkn (by exact q1),q2⟩
 exact (h2.args hA).x (fun cs e=>by cases e)
end Go.Proofs.YtmdnofcphdjieaaGreatDoor
namespace Go.Proofs.YtmdnofcphdjieaaGreatDoor
open Go Go.Abs
set_option maxRecDepth 10000
attribute [local congr] qba qbb qbc qbd qbn qbe qbo qbp qbq qbr qbt qbu qcc qby qbs qbl qb7 qb1
theorem rinv_ord {o:Og} (h:Cn o.1.length o) {x:Nat} (hx:x < o.1.length):rinvL (ordL o (x:Int))=numL o (x:Int):=by
 have hI:=(NI.loop (n:=o.1.length) (o:=o) h.r.pn h.u.pn (f:=o.1.length+1) (K:=0) (NI.start (o:=o) (x:=(x:Int)) (by omega) (by omega))).1
 have hP:=(qog h hx).1
 have hl:(ordL o (x:Int)).length=o.1.length:=by
  have c:cntN (numL o (x:Int))=(ordL o (x:Int)).length:=hI.ok.cnt
  rw [← c,← hP.pn.1]
  unfold cntN
  rw [List.countP_eq_length]
  intro z hz
  obtain ⟨i,hi,e⟩:=List.getElem_of_mem hz
  have:=qbh hP.pn.2 (i:=i) hi
  rw [List.getD_eq_getElem?_getD,List.getElem?_eq_getElem hi,Option.getD_some,e] at this
  exact decide_eq_true this.1
 refine List.ext_getElem (by simp only [rinvL,List.length_map,List.length_range,hl,hP.pn.1]) fun i h1 h2=>?_
 have hi:i < o.1.length:=by rw [← hP.pn.1];exact h2
 have hg:=qbh hP.pn.2 (i:=i) h2
 obtain ⟨k,hk,e⟩:=hI.cl.mem i hi (by unfold hasN;exact decide_eq_true hg.1)
 have ea:=hI.at_ k hk
 rw [e,Int.toNat_natCast] at ea
 have ek:atL (ordL o (x:Int)) (i:Int)=(k:Int):=atL_at hk (fun j hj hh=>by
  have:=hI.at_ j (Nat.lt_trans hj hk)
  rw [show (nloop o (o.1.length+1) 0 (nstart o.1.length (x:Int))).2.getD j 0=(i:Int) from hh,Int.toNat_natCast,ea] at this
  omega) e
 simp only [rinvL,List.getElem_map,List.getElem_range]
 rw [ek,← ea]
 show (numL o (x:Int)).getD i 0=_
 rw [List.getD_eq_getElem?_getD,List.getElem?_eq_getElem h2,Option.getD_some]
theorem qft (x y:Int) (a b:List Int):cmpL (x::a) (y::b)=if cmpZ x y≠0 then cmpZ x y else cmpL a b:=rfl
theorem qgj (x:Int):cmpZ x x=0:=by simp [cmpZ]
theorem qfh {x y:Int} (h:x≠y):cmpZ x y≠0:=by
 unfold cmpZ;split<;>(try split)<;>omega
theorem qiz {x y:Int} (h:x≠y):cmpZ x y < 0↔x < y:=by
 unfold cmpZ;split<;>(try split)<;>omega
theorem lsL_cmp:∀ {a b:List Int},a.length=b.length→(lsL a b=true↔cmpL a b < 0)
 | [],[],_=>by simp [lsL,cmpL]
 | [],_::_,h=>by simp at h
 | _::_,[],h=>by simp at h
 | x::a,y::b,h=>by
   rw [qft,lsL]
   by_cases e:x=y
   ·subst e
    rw [if_pos rfl,if_neg (by simp [qgj]),lsL_cmp (by simpa using h)]
   ·rw [if_neg e,if_pos (qfh e),decide_eq_true_eq,qiz e]
theorem lsL_app {c d:List Int}:∀ {a b:List Int},a.length=b.length→(lsL (a++c) (b++d)=true↔if cmpL a b≠0 then cmpL a b < 0 else lsL c d=true)
 | [],[],_=>by simp [cmpL]
 | [],_::_,h=>by simp at h
 | _::_,[],h=>by simp at h
 | x::a,y::b,h=>by
   rw [qft,List.cons_append,List.cons_append,lsL]
   by_cases e:x=y
   ·subst e
    rw [if_pos rfl,if_neg (by simp [qgj]:¬ cmpZ x x≠0),lsL_app (by simpa using h)]
   ·rw [if_neg e,if_pos (qfh e),decide_eq_true_eq,if_pos (qfh e),qiz e]
theorem bfB_cmp {a b:Og} (h1:a.1.length=b.1.length) (h2:a.2.length=b.2.length):bfB a b=decide (cmpO a b < 0):=by
 rw [Bool.eq_iff_iff,decide_eq_true_eq]
 unfold bfB cmpO
 rw [lsL_app h1,lsL_cmp h2]
 split<;>exact Iff.rfl
noncomputable def rlC:Code:=atC [1,1,0,1,0,0] ((Tryz.f66.body).getD .skip)
abbrev rlT:List (Nat×VSpec):=[(106,rszS),(105,frS),(108,renS),(107,bfS)]
theorem rl_at {r u:List Int} (hC:Cn r.length (r,u)) {x:Nat} (hx:x < r.length):numP (r,u) (x:Int)=true∧rinvL (ordL (r,u) (x:Int))=numL (r,u) (x:Int)∧renP (r,u) (numL (r,u) (x:Int))=true∧Pn r.length (numL (r,u) (x:Int)):=by
 have hP:=Co_Po (o:=(r,u)) (Co_Cn.2 hC)
 have h60:=hC.le
 have hf:=(qog (o:=(r,u)) hC hx).1.pn
 refine ⟨?_,rinv_ord (o:=(r,u)) hC hx,?_,hf⟩
 ·simp only [numP,Bool.and_eq_true,decide_eq_true_eq]
  exact ⟨⟨⟨hP,by show r.length≤100;omega⟩,by omega⟩,by show (x:Int) < (r.length:Int);omega⟩
 ·simp only [renP,Bool.and_eq_true,decide_eq_true_eq]
  exact ⟨⟨hP,hf.2⟩,hf.1⟩
theorem rl_bf {r u f g:List Int} (hpos:0 < r.length) (h60:r.length≤60) (hf:f.length=r.length) (hg:g.length=r.length):bfP (renO (r,u) f) (renO (r,u) g)=true∧bfB (renO (r,u) f) (renO (r,u) g)=decide (cmpO (renO (r,u) f) (renO (r,u) g) < 0):=by
 have h1:=qmv (r,u) f
 have h2:=qmv (r,u) g
 refine ⟨?_,bfB_cmp (by rw [h1.1,h2.1,hf,hg]) (by rw [h1.2,h2.2,hf,hg])⟩
 simp only [bfP,Bool.and_eq_true,decide_eq_true_eq]
 rw [h1.1,h1.2,h2.1,h2.2]
 omega
abbrev rlPol:Nat→Bool:=fun d=>d == 1000006
theorem rl_loop {r u:List Int} (hC:Cn r.length (r,u)) {m k c:Nat} {a:VF} {σ:VSt} {A:Option Ob} {u2:Nat} {f:List Int} (hk:r.length < k)
  (h1:a 1 = .ptr 1 0 0) (h2:a 2 = .ptr 2 u2 0) (h4:a 4=vL f) (h5:a 5=vI ((0+1:Nat):Int)) (s1:σ 1=some ⟨0,0,0,[.fz r.length 1 (li r),.fz r.length 1 (li u)]⟩) (s2:σ 2=A) (hf:labK (r,u) (0+1)=some (renO (r,u) f,f)) (hP:Pn r.length f) :
  ∃ x a' σ' c',loopV (evVC Tryz.prog (callOf rlT) rlPol m rlC) k a σ c=some (x,a',σ',c')∧x = .exit 0∧a' 1 = .ptr 1 0 0∧a' 2 = .ptr 2 u2 0∧σ' 1=some ⟨0,0,0,[.fz r.length 1 (li r),.fz r.length 1 (li u)]⟩∧σ' 2=A∧∃ f,a' 4=vL f∧labK (r,u) r.length=some (renO (r,u) f,f)∧Pn r.length f:=by
 have hpos:=hC.pos
 have h60:=hC.le
 have hul:u.length=r.length:=hC.u.pn.1
 have di:drawI (regOps (atC [1,1,0,1,0,0,1,0,0,1,0] ((Tryz.f66.body).getD .skip))) (Region.before (regOps (atC [1,1,0,1,0,0,1,0,0,1,0] ((Tryz.f66.body).getD .skip))))=true:=by kernel_rfl
 simp only [Tryz.f66,Option.getD_some,atC,regOps] at di
 refine qc2 (r.length - 1) (fun i a σ _=>a 1 = .ptr 1 0 0∧a 2 = .ptr 2 u2 0∧a 5=vI ((i+1:Nat):Int)∧σ 1=some ⟨0,0,0,[.fz r.length 1 (li r),.fz r.length 1 (li u)]⟩∧σ 2=A∧∃ f,a 4=vL f∧labK (r,u) (i+1)=some (renO (r,u) f,f)∧Pn r.length f) _ ?_ ?_ (by omega) ⟨h1,h2,h5,s1,s2,f,h4,hf,hP⟩
 ·intro i a σ c hi ⟨h1,h2,h5,s1,s2,f,h4,hf,hP⟩
  left
  have c1:((i+1:Nat):Int) < (r.length:Int):=by omega
  have e3:IntKind.i64.wrap (((i+1:Nat):Int)+1)=((i+1+1:Nat):Int):=by rw [wr64 (by omega) (by omega)];omega
  obtain ⟨np,ri,rp,hg⟩:=rl_at hC (x:=i+1) (by omega)
  have rp2:renP (r,u) f=true:=by
   simp only [renP,Bool.and_eq_true,decide_eq_true_eq]
   exact ⟨⟨Co_Po (o:=(r,u)) (Co_Cn.2 hC),hP.2⟩,hP.1⟩
  obtain ⟨bp,be⟩:=rl_bf (u:=u) hpos h60 hg.1 hP.1
  have hs:=qgd (r,u) (i+1)
  rw [hf] at hs
  unfold lpick at hs
  simp only at hs
  have p6:rlPol (1000000+6)=true:=rfl
  have p17:rlPol 17=false:=rfl
  have p20:rlPol 20=false:=rfl
  have p23:rlPol 23=false:=rfl
  rw [show rlC=atC [1,1,0,1,0,0] ((Tryz.f66.body).getD .skip) from rfl]
  generalize hG:numL (r,u) ((i+1:Nat):Int)=G at *
  by_cases hlt:cmpO (renO (r,u) G) (renO (r,u) f) < 0
  ·rw [if_pos hlt] at hs
   have bt:bfB (renO (r,u) G) (renO (r,u) f)=true:=by rw [be];exact decide_eq_true hlt
   rcases hX:renO (r,u) G with ⟨x1,x2⟩
   rcases hY:renO (r,u) f with ⟨y1,y2⟩
   rw [hX,hY] at bp bt
   simp (disch:=omega) only [Tryz.f66,Option.getD_some,atC,qaw,qao,qah,qc4,qax,qau,qay,qa7,qat,qal,qa4,qbi,qa3,qa0,qb9,qaa,qab,qac,qcu,qam,↓qaa,↓qab,↓qac,↓qam,qaq,qag,qap,qa5,qav,qai,qa1,qa2,qae,qaj,qad,↓qae,↓qaj,↓qad,qbz,qbf,qb6,qbm,pk_sc,pk_fz,pk_st,qcp,vcall,qfo,qpi,qsy,qb4,qez,qd6,qas,qfz,qhf,qe9,qeg,List.flatMap_cons,List.flatMap_nil,List.append_nil,↓reduceIte,Nat.reduceEqDiff,Nat.succ_ne_self,Nat.zero_add,List.map_cons,List.map_nil,decide_true,beq_self_eq_true,qaf,qar,↓qaf,↓qar,Bool.and_true,Bool.and_false,bne_1,Option.getD_some,sp1,sp2,qak,↓qak,dec_L,dec_I,dec_O,sl_fz,qa8,ldN_2,qb5 aO zO,List.length_cons,List.length_nil,Nat.reduceAdd,Nat.le_refl,List.drop_zero,qe7,qef,rdC_t,qhu,qf7,qc8,qeb,qhw,qec,qes,Option.isSome_some,Bool.or_true,di,hX,hY,p17,h1,h4,h5,s1,c1,np,ri,rp,rp2,bp,bt,e3]
   refine ⟨_,_,_,rfl,?_⟩
   exact ⟨h1,h2,rfl,s1,s2,G,rfl,hs,hg⟩
  ·rw [if_neg hlt] at hs
   have bt:bfB (renO (r,u) G) (renO (r,u) f)=false:=by rw [be];exact decide_eq_false hlt
   rcases hX:renO (r,u) G with ⟨x1,x2⟩
   rcases hY:renO (r,u) f with ⟨y1,y2⟩
   rw [hX,hY] at bp bt
   simp (disch:=omega) only [Tryz.f66,Option.getD_some,atC,qaw,qao,qah,qc4,qax,qau,qay,qa7,qat,qal,qa4,qbi,qa3,qa0,qb9,qaa,qab,qac,qcu,qam,qan,↓qaa,↓qab,↓qac,↓qam,↓qan,qaq,qag,qap,qa5,qav,qai,qa1,qa2,qae,qaj,qad,↓qae,↓qaj,↓qad,qbz,qbf,qb6,qbm,pk_sc,pk_fz,pk_st,qcp,vcall,qfo,qpi,qsy,qb4,qez,qd6,qas,qfz,qhf,qe9,qeg,List.flatMap_cons,List.flatMap_nil,List.append_nil,↓reduceIte,Nat.reduceEqDiff,Nat.succ_ne_self,Nat.zero_add,List.map_cons,List.map_nil,decide_true,beq_self_eq_true,qaf,qar,↓qaf,↓qar,Bool.and_true,Bool.and_false,bne_1,Option.getD_some,sp1,sp2,qak,↓qak,dec_L,dec_I,dec_O,sl_fz,qa8,ldN_2,qb5 aO zO,List.length_cons,List.length_nil,Nat.reduceAdd,Nat.le_refl,List.drop_zero,qe7,qef,rdC_t,qhu,qf7,qc8,qeb,qhw,qec,qes,Option.isSome_some,Bool.or_true,di,hX,hY,p17,h1,h4,h5,s1,c1,np,ri,rp,rp2,bp,bt,e3]
   refine ⟨_,_,_,rfl,?_⟩
   exact ⟨h1,h2,rfl,s1,s2,f,h4,hs,hP⟩
 ·intro a σ c ⟨h1,h2,h5,s1,s2,f,h4,hf,hP⟩
  have e1:r.length - 1+1=r.length:=by omega
  rw [e1] at h5 hf
  have c1:¬ ((r.length:Int) < (r.length:Int)):=by omega
  rw [show rlC=atC [1,1,0,1,0,0] ((Tryz.f66.body).getD .skip) from rfl]
  simp (disch:=omega) only [Tryz.f66,Option.getD_some,atC,qaw,qao,qah,qax,qau,qda,qat,qa4,qbi,qa3,qa0,qaa,qab,qac,qb0,qan,↓qaa,↓qab,↓qac,↓qb0,↓qan,qaq,qag,qap,qa5,qai,qa1,qa2,qae,qaj,qad,↓qae,↓qaj,↓qad,qbz,qbf,qb6,qbm,pk_st,qcp,vcall,qb4,qas,↓reduceIte,Nat.reduceEqDiff,Nat.zero_add,List.map_cons,List.map_nil,decide_false,qaf,↓qaf,Option.getD_some,sp1,qak,↓qak,dec_O,sl_fz,qa8,ldN_2,qb5 aO zO,List.length_cons,List.length_nil,Nat.reduceAdd,Nat.le_refl,List.drop_zero,h1,h5,s1,c1]
  refine ⟨_,_,_,_,rfl,?_⟩
  exact ⟨by simp,rfl,h1,h2,s1,s2,f,h4,hf,hP⟩
abbrev rlabS:VSpec:=spec1 cO Co (fun o=>.tup [encO (labO o).1,vL (labO o).2]) false
theorem rlab_ok:OK 1000005 66 rlabS:=by
 refine OK.of1 (F:=1000004) (tb:=rlT) (pol:=rlPol) ?_ (x:=(Tryz.f66.body).getD .skip) (Nat.le_of_ble_eq_true rfl) Tryz.func66 rfl (ok_fn (by rfl) Tryz.func66 rfl) (by kernel_rfl) (by intros;rfl) fun n hn o hc=>?_
 ·intro y hy
  simp only [rlT,List.mem_cons,List.not_mem_nil,or_false] at hy
  rcases hy with rfl | rfl | rfl | rfl
  ·exact rsz_ok.mono (by omega)
  ·exact fr_ok
  ·exact rren_ok.mono (by omega)
  ·exact bf_ok.mono (by omega)
 obtain ⟨r,u⟩:=o
 have hC:Cn r.length (r,u):=Co_Cn.1 hc
 have hpos:=hC.pos
 have h60:=hC.le
 have hul:u.length=r.length:=hC.u.pn.1
 obtain ⟨np,ri,rp,hg⟩:=rl_at hC (x:=0) hpos
 have hf0:labK (r,u) (0+1)=some (renO (r,u) (numL (r,u) ((0:Nat):Int)),numL (r,u) ((0:Nat):Int)):=by rw [qgd];rfl
 have key:=fun (a:VF) (σ:VSt) (c u2:Nat) (A:Option Ob)=>rl_loop (m:=n) (k:=n) (c:=c) (a:=a) (σ:=σ) (A:=A) (u2:=u2) (f:=numL (r,u) ((0:Nat):Int)) hC (by omega)
 rw [show rlC=atC [1,1,0,1,0,0] ((Tryz.f66.body).getD .skip) from rfl] at key
 simp only [Tryz.f66,Option.getD_some,atC] at key
 replace np:numP (r,u) 0=true:=np
 replace ri:rinvL (ordL (r,u) 0)=numL (r,u) 0:=ri
 have p8:rlPol 8=false:=rfl
 have p28:rlPol 28=false:=rfl
 simp (disch:=omega) only [Tryz.f66,Option.getD_some,qaw,qao,qah,qax,qay,qdj,qbv,qat,qal,qcv,qa4,qc1,qbi,qaa,qab,qac,↓qaa,↓qab,↓qac,qaq,qbg,qag,qap,qa5,qav,qfn,qai,qcn,qa1,qa2,qae,qaj,qad,↓qae,↓qaj,↓qad,qa6,qbz,qbf,qb6,qbm,pk_sc,pk_st,qcp,vcall,qd6,qas,frV_0,qfz,qe9,qeg,List.flatMap_cons,List.flatMap_nil,List.append_nil,↓reduceIte,Nat.reduceEqDiff,Nat.zero_add,List.map_cons,List.map_nil,qaf,qar,↓qaf,↓qar,Bool.and_true,Bool.and_false,bne_1,Option.getD_some,sp2,enc_O,qak,↓qak,dec_I,dec_O,sv_st,sl_fz,qa8,ldN_2,qdy iO,qb5 aO zO,List.length_cons,List.length_nil,Nat.reduceAdd,Nat.le_refl,List.drop_zero,np,ri,p8]
 generalize hA:updV _ 5 _=B
 generalize hS:updV _ 2 _=τ
 have a2:τ 2=some ⟨1,0,0,[.nl,.nl]⟩:=by subst hS;rfl
 obtain ⟨x',a',σ',c',e,rfl,n1,n2,q1,q2,f,n4,hf,hPf⟩:=key B τ _ _ _ (by subst hA;rfl) (by subst hA;rfl) (by subst hA;rfl) (by subst hA;rfl) (by subst hS;show some (⟨0,0,0,[.fz r.length 1 (li r),.fz u.length 1 (li u)]⟩:Ob)=_;rw [hul]) a2 hf0 hg
 have rp2:renP (r,u) f=true:=by
  simp only [renP,Bool.and_eq_true,decide_eq_true_eq]
  exact ⟨⟨Co_Po (o:=(r,u)) hc,hPf.2⟩,hPf.1⟩
 have hL:labO (r,u)=(renO (r,u) f,f):=by unfold labO;rw [show (r,u).1.length=r.length from rfl,hf];rfl
 rw [hL,e]
 rcases hX:renO (r,u) f with ⟨x1,x2⟩
 simp (disch:=omega) only [qaa,qab,qac,qdp,↓qaa,↓qab,↓qac,qaq,qcm,qag,qa1,qa2,qae,qaj,qad,↓qae,↓qaj,↓qad,qb6,qbm,pk_fz,pk_st,qcp,qez,qbw,qb8,qev,tmpV_fz,fv_r,pv_2,fsh_2,qhf,qe9,qeg,List.flatMap_cons,List.flatMap_nil,List.append_nil,↓reduceIte,Nat.reduceEqDiff,Nat.zero_add,qaf,↓qaf,sp2,qak,↓qak,dec_L,dec_O,st_W zO,qed,sv_st,qde,qc6,sl_fz,qa8,ldN_2,qb5 aO zO,List.set_cons_zero,List.set_cons_succ,List.length_cons,List.length_nil,Nat.reduceAdd,Nat.le_refl,List.drop_zero,n1,n2,n4,q1,q2,rp2,hX]
end Go.Proofs.YtmdnofcphdjieaaGreatDoor
namespace Go.Proofs.YtmdnofcphdjieaaGreatDoor
open Go Go.Abs
set_option maxRecDepth 10000
attribute [local congr] qba qbb qbc qbd qbn qbe qbo qbp qbq qbr qbt qbu qcc qby qbs qbl qb7 qb1
theorem rl7_ok:OK 1000006 28 olabS:=by
 refine OK.of1 (F:=1000005) (tb:=[(66,rlabS)]) (pol:=fun _=>false) ?_ (x:=(Tryz.f28.body).getD .skip) (Nat.le_of_ble_eq_true rfl) Tryz.func28 rfl (ok_fn (by rfl) Tryz.func28 rfl) (by kernel_rfl) (by intros;rfl) fun n hn o hc=>?_
 ·intro y hy
  simp only [List.mem_singleton] at hy
  subst hy
  exact rlab_ok
 obtain ⟨r,u⟩:=o
 rcases hX:labO (r,u) with ⟨⟨x1,x2⟩,g⟩
 have hY:lab1 (r,u)=(x1,x2):=by unfold lab1;rw [hX]
 simp (disch:=omega) only [Tryz.f28,Option.getD_some,qaw,qao,qah,qax,qbv,qat,qal,qcv,qa4,qc1,vs_ext,qbi,qaa,qab,qac,↓qaa,↓qab,↓qac,qaq,qbg,qag,qap,qa5,qai,qcn,qa1,qa2,qae,qaj,qad,↓qae,↓qaj,↓qad,qa6,qbz,qbf,qb6,qbm,pk_st,qcp,vcall,qph,qas,frV_0,qe9,qeg,List.flatMap_cons,List.flatMap_nil,List.append_nil,↓reduceIte,Nat.reduceEqDiff,Nat.zero_add,List.map_cons,List.map_nil,qaf,↓qaf,Option.getD_some,sp1,enc_O,qak,↓qak,dec_O,st_W zO,qed,sv_st,sl_fz,qa8,ldN_2,qdy iO,qb5 aO zO,List.length_cons,List.length_nil,Nat.reduceAdd,Nat.le_refl,List.drop_zero,hc,hX,hY,encO]
 rfl
end Go.Proofs.YtmdnofcphdjieaaGreatDoor
namespace Go.Proofs.YtmdnofcphdjieaaGreatDoor
open Go Go.Abs
set_option maxRecDepth 10000
attribute [local congr] qba qbb qbc qbd qbn qbe qbo qbp qbq qbr qbt qbu qcc qby qbs qbl qb7 qb1 qpx
theorem aw_ok:OK 1 9 (spec0 (.sc (.bool true)) false):=by
 intro n hn args r fresh hs
 unfold spec0 at hs
 split at hs
 case h_2=>cases hs
 injection hs with hs
 injection hs with h1 h2
 subst h1;subst h2
 have h:=tab_fit (sp:=awkS) (g:=9) («ays»:=[]) (args:=[]) (r:=.sc (.bool true)) (v:=.bool true) (bs:=[]) (by unfold awkS;rw [if_pos rfl]) rfl rfl (fun Z H vs _ hA=>by simp only [RepCL] at hA;subst hA;rfl)
 refine AnsAt.x (fun Z H vs hw hA=>?_) (fun cs e=>by cases e)
 obtain ⟨v,H',q1,q2⟩:=h Z H vs hw hA
 exact ⟨v,H',qkn (by exact q1),q2⟩
end Go.Proofs.YtmdnofcphdjieaaGreatDoor
namespace Go.Proofs.YtmdnofcphdjieaaGreatDoor
open Go Go.Abs
set_option maxRecDepth 10000
attribute [local congr] qba qbb qbc qbd qbn qbe qbo qbp qbq qbr qbt qbu qcc qby qbs qbl qb7 qb1
def actW (l:List UInt8) (o:Og):Og:=l.foldr (fun b o=>letO o (b.toNat:Int)) o
theorem Vo.act {n:Nat} {o:Og} (h:Vo n o):∀ (l:List UInt8),Vo n (actW l o)
 | []=>h
 | b::l=>Vo.letter (Vo.act h l) _
theorem Vo.size {n:Nat} {o:Og} (h:Vo n o):o.1.length=n:=h.r.pn.1
theorem Vo.Vb {n:Nat} {o:Og} (h:Vo n o):Vb o=true:=Vb_iff.2 (by rw [h.size];exact h)
abbrev bxO (v:Nat) (o:Og):Option Ob:=some ⟨v,0,0,[vL o.1,vL o.2]⟩
noncomputable def actC:Code:=atC [1,1,1,0,1,0,0] ((Tryz.f22.body).getD .skip)
abbrev actT:List (Nat×VSpec):=[(60,checkS),(12,cwS),(61,lettS),(62,copdS)]
theorem act_loop {s:ByteArray} {o:Og} (hs:s.size≤1000000) {nn:Nat} (hV:Vo nn o) {mm k c v:Nat} {a:VF} {σ:VSt} (hk:s.size < k)
  (h1:a 1 = .sc (.string s)) (h2:a 2 = .ptr 2 v 0) (h4:a 4 = .ptr 4 (v+1) 0) (hi0:a 8=vI ((s.size:Int) - 1)) (s2:σ 2=bxO v o) (s4:σ 4=some ⟨v+1,0,0,[.nl,.nl]⟩) :
  ∃ x a' σ' c',loopV (evVC Tryz.prog (callOf actT) (polD 10) mm actC) k a σ c=some (x,a',σ',c')∧x = .exit 0∧a' 2 = .ptr 2 v 0∧a' 4 = .ptr 4 (v+1) 0∧σ' 2=bxO v (actW (bts s) o)∧σ' 4=some ⟨v+1,0,0,[.nl,.nl]⟩:=by
 have p1:polD 10 (1000000+10)=true:=rfl
 have p2:polD 10 32=false:=rfl
 have di:drawI (regOps (atC [1,1,1,0,1,0,0,1,0,0] ((Tryz.f22.body).getD .skip))) (Region.before (regOps (atC [1,1,1,0,1,0,0,1,0,0] ((Tryz.f22.body).getD .skip))))=true:=by kernel_rfl
 simp only [Tryz.f22,Option.getD_some,atC,regOps] at di
 have hlen:=qiy s
 refine qc2 s.size (fun j a σ _=>a 1 = .sc (.string s)∧a 2 = .ptr 2 v 0∧a 4 = .ptr 4 (v+1) 0∧a 8=vI ((s.size:Int) - 1 - j)∧σ 2=bxO v (actW ((bts s).drop (s.size - j)) o)∧σ 4=some ⟨v+1,0,0,[.nl,.nl]⟩) _ ?_ ?_ hk ⟨h1,h2,h4,by rw [hi0];simp,by rw [s2,Nat.sub_zero,← hlen,List.drop_length];rfl,s4⟩
 ·intro j a σ c hj ⟨h1,h2,h4,hi,s2,s4⟩
  left
  have ei:((s.size:Int) - 1 - (j:Int))=((s.size - 1 - j:Nat):Int):=by omega
  rw [ei] at hi
  have e3:IntKind.i64.wrap (((s.size - 1 - j:Nat):Int) - 1)=(s.size:Int) - 1 - ((j+1:Nat):Int):=by rw [wr64 (by omega) (by omega)];omega
  obtain ⟨b,hb⟩:∃ b,(bts s)[s.size - 1 - j]?=some b:=⟨_,List.getElem?_eq_getElem (by omega)⟩
  have hx:=fun r (σ:VSt) (c:Nat)=>qrh (s:=s) (k:=s.size - 1 - j) (b:=b) (σ:=σ) (c:=c) hb (r:=r)
  have hdr:(bts s).drop (s.size - (j+1))=b::(bts s).drop (s.size - j):=by
   obtain ⟨hi',e⟩:=List.getElem?_eq_some_iff.1 hb
   rw [show s.size - (j+1)=s.size - 1 - j from by omega,List.drop_eq_getElem_cons hi',e,show s.size - 1 - j+1=s.size - j from by omega]
  have hVb:=(Vo.act hV ((bts s).drop (s.size - j))).Vb
  have hact:actW ((bts s).drop (s.size - (j+1))) o=letO (actW ((bts s).drop (s.size - j)) o) (b.toNat:Int):=by rw [hdr];rfl
  generalize ho:actW ((bts s).drop (s.size - j)) o=w at *
  obtain ⟨w1,w2⟩:=w
  rw [show actC=atC [1,1,1,0,1,0,0] ((Tryz.f22.body).getD .skip) from rfl]
  simp (disch:=omega) only [Tryz.f22,Option.getD_some,atC,qaw,qao,qah,qc4,qax,qau,qay,qa7,qat,qal,qa4,qc1,qbi,qa3,qel,qf9,qaa,qab,qac,qcu,qam,↓qaa,↓qab,↓qac,↓qam,qaq,qcm,qag,qap,qa5,qav,qai,qcn,qa1,qa2,qae,qaj,qad,↓qae,↓qaj,↓qad,qbz,qbf,qb6,qbm,pk_sc,pk_st,qcp,vcall,qfo,qsy,qez,qas,qfz,qe9,qeg,List.flatMap_cons,List.flatMap_nil,List.append_nil,↓reduceIte,Nat.reduceEqDiff,Nat.succ_ne_self,Nat.zero_add,Int.natCast_nonneg,List.map_cons,List.map_nil,decide_true,beq_self_eq_true,qaf,↓qaf,Bool.and_true,Bool.and_false,Option.getD_some,sp2,qak,↓qak,dec_Y,dec_O,qd7,st_W zO,qed,sv_st,qde,qc6,sl_fz,qa8,ldN_2,qb5 aO zO,List.set_cons_zero,List.set_cons_succ,List.length_cons,List.length_nil,Nat.reduceAdd,Nat.le_refl,List.drop_zero,qe7,qef,rdC_t,qhu,qfe,ro_index,qf7,qc8,qeb,qhw,qec,co_index,qes,qff,Option.isSome_some,Bool.or_true,qee uS9,qfp,hx,h1,h2,hi,s2,di,hVb,e3]
  refine ⟨_,_,_,rfl,?_⟩
  exact ⟨h1,h2,h4,rfl,by rw [hact];rfl,s4⟩
 ·intro a σ c ⟨h1,h2,h4,hi,s2,s4⟩
  have ei:((s.size:Int) - 1 - (s.size:Int))=-1:=by omega
  rw [ei] at hi
  have c1:¬ ((0:Int)≤-1):=by omega
  rw [show actC=atC [1,1,1,0,1,0,0] ((Tryz.f22.body).getD .skip) from rfl]
  simp (disch:=omega) only [Tryz.f22,Option.getD_some,atC,qaw,qao,qah,qax,qau,qda,qat,qa3,qel,qaa,qab,qac,qb0,qan,↓qaa,↓qab,↓qac,↓qb0,↓qan,qag,qap,qav,qai,↓reduceIte,decide_false,Option.getD_some,hi,c1]
  refine ⟨_,_,_,_,rfl,?_⟩
  rw [Nat.sub_self,List.drop_zero] at s2
  exact ⟨by simp,rfl,h2,h4,s2,s4⟩
def actR (o:Og) (s:ByteArray):VV:=if checkE o≠0 then .tup [.st [.nl,.nl],vI (checkE o)] else if chkW (bts s)≠0 then .tup [.st [.nl,.nl],vI (chkW (bts s))] else .tup [encO (actW (bts s) o),vI 0]
abbrev actS:VSpec:=spec2 cO cS (fun o s=>lgO o && decide (s.size < 1000000)) actR false
theorem act_ok:OK 1000000000006 22 actS:=by
 refine OK.of2 (F:=1000000000005) (tb:=actT) (pol:=polD 10) ?_ (x:=(Tryz.f22.body).getD .skip) (Nat.le_of_ble_eq_true rfl) Tryz.func22 rfl (ok_fn (by rfl) Tryz.func22 rfl) (by kernel_rfl) (by intros;rfl) fun n hn o s hc=>?_
 ·intro y hy
  simp only [actT,List.mem_cons,List.not_mem_nil,or_false] at hy
  rcases hy with rfl | rfl | rfl | rfl
  ·exact check_ok.mono (by omega)
  ·exact cw_ok.mono (by omega)
  ·exact actd_ok
  ·exact copd_ok.mono (by omega)
 replace hc:(lgO o && decide (s.size < 1000000))=true:=hc
 rw [Bool.and_eq_true,decide_eq_true_eq] at hc
 obtain ⟨hg,hsz⟩:=hc
 have hgl:(decide (o.1.length≤1000000) && decide (o.2.length≤1000000))=true:=hg
 have hs1:decide (s.size < 1000000)=true:=decide_eq_true hsz
 unfold actR
 obtain ⟨r,u⟩:=o
 by_cases h0:checkE (r,u)=0
 ·rw [if_neg (by rw [h0];simp)]
  by_cases hw:chkW (bts s)=0
  ·rw [if_neg (by rw [hw];simp)]
   have hV:=qh5 h0
   have key:=fun (a:VF) (σ:VSt) (c v:Nat)=>act_loop (s:=s) (by omega) hV (mm:=n) (k:=n) (a:=a) (σ:=σ) (c:=c) (v:=v) (by omega)
   rw [show actC=atC [1,1,1,0,1,0,0] ((Tryz.f22.body).getD .skip) from rfl] at key
   simp only [Tryz.f22,Option.getD_some,atC] at key
   have e8:IntKind.i64.wrap ((s.size:Int) - 1)=(s.size:Int) - 1:=by rw [wr64 (by omega) (by omega)]
   have t0:(checkE (r,u)=0)=True:=eq_true h0
   have tw:(chkW (bts s)=0)=True:=eq_true hw
   simp (disch:=omega) only [Tryz.f22,Option.getD_some,qaw,qao,qah,qax,qau,qay,qdj,qa7,qbv,qat,qal,qcv,qa4,qc1,qbi,qa3,qch,qf9,qaa,qab,qac,qan,↓qaa,↓qab,↓qac,↓qan,qaq,qbg,qag,qap,qa5,qav,qai,qcn,qa1,qa2,qae,qaj,qad,↓qae,↓qaj,↓qad,qa6,qbz,qbf,qb6,qbm,pk_sc,pk_st,qcp,vcall,qb4,qas,frV_0,frV_1,List.flatMap_cons,List.flatMap_nil,List.append_nil,↓reduceIte,Nat.reduceEqDiff,Nat.succ_ne_self,Nat.zero_add,List.map_cons,List.map_nil,decide_true,Bool.not_true,qaf,↓qaf,Option.getD_some,sp1,enc_S,enc_O,qak,↓qak,dec_S,dec_O,sv_st,sl_fz,qa8,ldN_2,qdy iO,qb5 aO zO,List.length_cons,List.length_nil,Nat.reduceAdd,Nat.le_refl,List.drop_zero,qd4 uS9,slenV,hgl,hs1,t0,tw,e8]
   generalize hA:updV _ 8 _=B
   generalize hS:updV _ 4 _=τ
   obtain ⟨x,a',σ',c',e,rfl,w2,w4,q2,q4⟩:=key B τ _ _ (by subst hA;rfl) (by subst hA;rfl) (by subst hA;rfl) (by subst hA;rfl) (by subst hS;rfl) (by subst hS;rfl)
   rw [e]
   have hVb:=(Vo.act hV (bts s)).Vb
   generalize actW (bts s) (r,u)=w at *
   obtain ⟨w1,w2'⟩:=w
   simp (disch:=omega) only [qaa,qab,qac,qdp,↓qaa,↓qab,↓qac,qaq,qcm,qag,qa1,qa2,qae,qaj,qad,↓qae,↓qaj,↓qad,qb6,qbm,pk_st,qcp,qez,qbw,qb8,qev,qbx,fv_r,pv_2,fsh_2,qe9,qeg,List.flatMap_cons,List.flatMap_nil,List.append_nil,↓reduceIte,Nat.reduceEqDiff,Nat.zero_add,qaf,↓qaf,sp1,qak,↓qak,dec_O,st_W zO,qed,sv_st,qde,qc6,sl_fz,qa8,ldN_2,qb5 aO zO,List.set_cons_zero,List.set_cons_succ,List.length_cons,List.length_nil,Nat.reduceAdd,Nat.le_refl,List.drop_zero,w2,w4,q2,q4,hVb]
  ·have fw:(chkW (bts s)=0)=False:=eq_false hw
   have t0:(checkE (r,u)=0)=True:=eq_true h0
   rw [if_pos hw]
   simp (disch:=omega) only [Tryz.f22,Option.getD_some,qaw,qao,qah,qax,qau,qa7,qbv,qat,qal,qcv,qex,qa4,qc1,qbi,qa3,qch,qaa,qab,qac,qaz,qam,qan,↓qaa,↓qab,↓qac,↓qaz,↓qam,↓qan,qaq,qcm,qbg,qag,qap,qa5,qav,qai,qcn,qa1,qa2,qae,qaj,qad,↓qae,↓qaj,↓qad,qa6,qbz,qbf,qb6,qbm,pk_sc,pk_st,pk1_nl,qcp,vcall,qb4,qas,qbw,qb8,qev,qbx,fv_r,pv_2,fsh_2,frV_0,frV_1,↓reduceIte,Nat.reduceEqDiff,Nat.zero_add,List.map_cons,List.map_nil,decide_true,decide_false,Bool.not_true,Bool.not_false,qaf,↓qaf,Option.getD_some,sp1,enc_S,enc_O,qak,↓qak,dec_S,dec_O,st_W zO,qed,sv_st,qde,qc6,sl_nl,sl_fz,qa8,ldN_2,qdy iO,qb5 aO zO,List.set_cons_zero,List.set_cons_succ,List.length_cons,List.length_nil,Nat.reduceAdd,Nat.le_refl,List.drop_zero,hgl,hs1,t0,fw,bO0]
 ·have f0:(checkE (r,u)=0)=False:=eq_false h0
  rw [if_pos h0]
  simp (disch:=omega) only [Tryz.f22,Option.getD_some,qaw,qao,qah,qax,qau,qbv,qat,qal,qcv,qex,qa4,qc1,qbi,qa3,qch,qaa,qab,qac,qaz,qam,↓qaa,↓qab,↓qac,↓qaz,↓qam,qaq,qcm,qbg,qag,qap,qa5,qav,qai,qcn,qa1,qa2,qae,qaj,qad,↓qae,↓qaj,↓qad,qa6,qbz,qbf,qb6,qbm,pk_st,pk1_nl,qcp,vcall,qb4,qas,qbw,qb8,qev,qbx,fv_r,pv_2,fsh_2,frV_0,↓reduceIte,Nat.reduceEqDiff,Nat.zero_add,List.map_cons,List.map_nil,decide_false,Bool.not_false,qaf,↓qaf,Option.getD_some,sp1,enc_S,enc_O,qak,↓qak,dec_O,st_W zO,qed,sv_st,qde,qc6,sl_nl,sl_fz,qa8,ldN_2,qdy iO,qb5 aO zO,List.set_cons_zero,List.set_cons_succ,List.length_cons,List.length_nil,Nat.reduceAdd,Nat.le_refl,List.drop_zero,hgl,f0,bO0]
end Go.Proofs.YtmdnofcphdjieaaGreatDoor
namespace Go.Proofs.YtmdnofcphdjieaaGreatDoor
open Go Go.Abs
set_option maxRecDepth 10000
structure PG (n:Nat) where
 val:List Int
 ok:Pm n val
namespace PG
variable {n:Nat}
theorem ext' {a b:PG n} (h:∀ i,i < n→stp a.val i=stp b.val i):a=b:=by
 obtain ⟨a,ha⟩:=a
 obtain ⟨b,hb⟩:=b
 obtain rfl:a=b:=qru ha hb h
 rfl
instance:Mul (PG n):=⟨fun a b=>⟨afterL a.val b.val,a.ok.after b.ok⟩⟩
instance:Inv (PG n):=⟨fun a=>⟨invL a.val,a.ok.inv⟩⟩
instance:One (PG n):=⟨⟨idL n,Pm.id n⟩⟩
theorem inv_val (a:PG n):(a⁻¹).val=invL a.val:=rfl
theorem mul_at (a b:PG n) {i:Nat} (hi:i < n):stp (a*b).val i=stp b.val (stp a.val i):=qgf a.ok hi
theorem lt (a:PG n) {i:Nat} (hi:i < n):stp a.val i < n:=a.ok.lt hi
theorem mul_assoc (a b c:PG n):a*b*c=a*(b*c):=ext' fun i hi=>by
 rw [mul_at _ _ hi,mul_at _ _ hi,mul_at _ _ hi,mul_at _ _ (a.lt hi)]
theorem one_mul (a:PG n):1*a=a:=ext' fun i hi=>by
 rw [mul_at _ _ hi];exact congrArg _ (ql4 hi)
theorem mul_one (a:PG n):a*1=a:=ext' fun i hi=>by
 rw [mul_at _ _ hi];exact ql4 (a.lt hi)
theorem mul_inv (a:PG n):a*a⁻¹=1:=ext' fun i hi=>by
 rw [mul_at _ _ hi,inv_val,a.ok.inv_at hi];exact (ql4 hi).symm
theorem inv_mul (a:PG n):a⁻¹*a=1:=ext' fun i hi=>by
 rw [mul_at _ _ hi,inv_val,a.ok.at_inv hi];exact (ql4 hi).symm
theorem mul_inv_l (a b:PG n):a*(a⁻¹*b)=b:=by rw [← mul_assoc,mul_inv,one_mul]
theorem inv_mul_l (a b:PG n):a⁻¹*(a*b)=b:=by rw [← mul_assoc,inv_mul,one_mul]
theorem inv_eq {a b:PG n} (h:a*b=1):a⁻¹=b:=by
 rw [← mul_one (a⁻¹),← h,inv_mul_l]
theorem inv_inv (a:PG n):a⁻¹⁻¹=a:=inv_eq (inv_mul a)
theorem mul_inv_rev (a b:PG n):(a*b)⁻¹=b⁻¹*a⁻¹:=inv_eq (by rw [mul_assoc,mul_inv_l,mul_inv])
end PG
abbrev P2 (n:Nat):=PG n×PG n
variable {n:Nat}
def renG (f:PG n) (x:P2 n):P2 n:=(f⁻¹*x.1*f,f⁻¹*x.2*f)
def letG (x:P2 n) (c:Int):P2 n:=if c=83 then (x.2⁻¹,x.1) else if c=115 then (x.2,x.1⁻¹) else if c=84 then (x.1,x.2*x.1⁻¹) else (x.1,x.2*x.1)
def valG (x:P2 n):Og:=(x.1.val,x.2.val)
theorem ren_val (f l:PG n):(f⁻¹*l*f).val=renL f.val l.val:=by
 refine qru (f⁻¹*l*f).ok (f.ok.ren l.ok) fun i hi=>?_
 obtain ⟨x,hx,rfl⟩:=f.ok.onto hi
 rw [qp2 f.ok hx,PG.mul_at _ _ hi,PG.mul_at _ _ hi,PG.inv_val,f.ok.inv_at hx]
theorem qkc (f:PG n) (x:P2 n):valG (renG f x)=renO (valG x) f.val:=by
 unfold valG renG renO
 rw [ren_val,ren_val]
theorem valG_let (x:P2 n) (c:Int):valG (letG x c)=letO (valG x) c:=by
 unfold valG letG letO
 split
 ·rfl
 ·split
  ·rfl
  ·split<;>rfl
def actG (l:List UInt8) (x:P2 n):P2 n:=l.foldr (fun b x=>letG x (b.toNat:Int)) x
theorem qg4 (x:P2 n):∀ l:List UInt8,valG (actG l x)=actW l (valG x)
 | []=>rfl
 | b::l=>by
   show valG (letG (actG l x) _)=letO (actW l (valG x)) _
   rw [valG_let,qg4 x l]
theorem Vo.toG {o:Og} (h:Vo n o):∃ x:P2 n,valG x=o:=⟨(⟨o.1,h.r⟩,⟨o.2,h.u⟩),rfl⟩
theorem letG_ren (f:PG n) (x:P2 n) (c:Int):letG (renG f x) c=renG f (letG x c):=by
 unfold letG renG
 split
 ·simp only [PG.mul_assoc,PG.mul_inv_rev,PG.inv_inv]
 ·split
  ·simp only [PG.mul_assoc,PG.mul_inv_rev,PG.inv_inv]
  ·split<;>simp only [PG.mul_assoc,PG.mul_inv_rev,PG.inv_inv,PG.mul_inv_l]
theorem qrw (f:PG n) (x:P2 n):∀ l:List UInt8,actG l (renG f x)=renG f (actG l x)
 | []=>rfl
 | b::l=>by
   show letG (actG l (renG f x)) _=renG f (letG (actG l x) _)
   rw [qrw f x l,letG_ren]
theorem qkd (x:P2 n) (l m:List UInt8):actG (l++m) x=actG l (actG m x):=List.foldr_append
theorem renG_ren (f g:PG n) (x:P2 n):renG g (renG f x)=renG (f*g) x:=by
 unfold renG
 simp only [PG.mul_assoc,PG.mul_inv_rev]
def rels:List (List UInt8):=[[83,83,83,83],[83,84,83,84,83,84,115,115],[83,84,83,84,83,84,83,84,83,84,83,84],[83,83,84,115,115,116]]
theorem lG_S (x:P2 n):letG x ((83:UInt8).toNat:Int)=(x.2⁻¹,x.1):=rfl
theorem lG_s (x:P2 n):letG x ((115:UInt8).toNat:Int)=(x.2,x.1⁻¹):=rfl
theorem lG_T (x:P2 n):letG x ((84:UInt8).toNat:Int)=(x.1,x.2*x.1⁻¹):=rfl
theorem lG_t (x:P2 n):letG x ((116:UInt8).toNat:Int)=(x.1,x.2*x.1):=rfl
theorem rels_ren (x:P2 n):∀ l∈rels,∃ g,actG l x=renG g x:=by
 obtain ⟨r,u⟩:=x
 intro l hl
 simp only [rels,List.mem_cons,List.not_mem_nil,or_false] at hl
 rcases hl with rfl | rfl | rfl | rfl
 ·refine ⟨1,?_⟩
  simp only [actG,List.foldr_cons,List.foldr_nil,lG_S,renG,PG.inv_inv,PG.mul_one]
  rw [PG.inv_eq (PG.mul_one (1:PG n)),PG.one_mul,PG.one_mul]
 ·refine ⟨u⁻¹*r,?_⟩
  simp only [actG,List.foldr_cons,List.foldr_nil,lG_S,lG_s,lG_T,renG,PG.inv_inv,PG.mul_assoc,PG.mul_inv_rev,PG.mul_inv_l]
 ·refine ⟨u⁻¹*r*u*r⁻¹,?_⟩
  simp only [actG,List.foldr_cons,List.foldr_nil,lG_S,lG_T,renG,PG.inv_inv,PG.mul_assoc,PG.mul_inv_rev,PG.mul_inv_l,PG.inv_mul_l]
 ·refine ⟨r,?_⟩
  simp only [actG,List.foldr_cons,List.foldr_nil,lG_S,lG_s,lG_T,lG_t,renG,PG.inv_inv,PG.mul_assoc,PG.mul_inv_rev,PG.inv_mul,PG.one_mul]
def bkL (b:UInt8):UInt8:=if b=83 then 115 else if b=115 then 83 else if b=84 then 116 else 84
def backW (l:List UInt8):List UInt8:=l.reverse.map bkL
theorem bk_let (x:P2 n) (b:UInt8) (h:isLt b=true):letG (letG x (b.toNat:Int)) ((bkL b).toNat:Int)=x:=by
 obtain ⟨r,u⟩:=x
 rw [qj9] at h
 have e:b=83∨b=115∨b=84∨b=116:=by
  rcases h with h | h | h | h
  ·exact .inl (UInt8.toNat_inj.1 (Int.ofNat_inj.1 h))
  ·exact .inr (.inl (UInt8.toNat_inj.1 (Int.ofNat_inj.1 h)))
  ·exact .inr (.inr (.inl (UInt8.toNat_inj.1 (Int.ofNat_inj.1 h))))
  ·exact .inr (.inr (.inr (UInt8.toNat_inj.1 (Int.ofNat_inj.1 h))))
 rcases e with rfl | rfl | rfl | rfl
 ·rw [show bkL 83=115 from rfl,lG_S,lG_s,PG.inv_inv]
 ·rw [show bkL 115=83 from rfl,lG_s,lG_S,PG.inv_inv]
 ·rw [show bkL 84=116 from rfl,lG_T,lG_t,PG.mul_assoc,PG.inv_mul,PG.mul_one]
 ·rw [show bkL 116=84 from rfl,lG_t,lG_T,PG.mul_assoc,PG.mul_inv,PG.mul_one]
theorem qrx (x:P2 n):∀ l:List UInt8,l.all isLt=true→actG (backW l) (actG l x)=x
 | [],_=>rfl
 | b::l,h=>by
   rw [List.all_cons,Bool.and_eq_true] at h
   have e:backW (b::l)=backW l++[bkL b]:=by simp [backW]
   rw [e,qkd]
   show actG (backW l) (letG (letG (actG l x) (b.toNat:Int)) ((bkL b).toNat:Int))=x
   rw [bk_let _ _ h.1,qrx x l h.2]
end Go.Proofs.YtmdnofcphdjieaaGreatDoor
namespace Go.Proofs.YtmdnofcphdjieaaGreatDoor
open Go Go.Abs
set_option maxRecDepth 10000
theorem cmpZ_anti (x y:Int):cmpZ y x=- cmpZ x y:=by unfold cmpZ;split<;>split<;>(try split)<;>omega
theorem qkv:∀ (l m:List Int),cmpL m l=- cmpL l m
 | [],[]=>rfl
 | [],_::_=>rfl
 | _::_,[]=>rfl
 | x::a,y::b=>by
   rw [qft,qft,cmpZ_anti x y,qkv a b]
   by_cases e:cmpZ x y=0
   ·rw [if_neg (by omega),if_neg (by omega)]
   ·rw [if_pos (by omega),if_pos (by omega)]
theorem qek:∀ {l m:List Int},cmpL l m=0↔l=m
 | [],[]=>by simp [cmpL]
 | [],_::_=>by simp [cmpL]
 | _::_,[]=>by simp [cmpL]
 | x::a,y::b=>by
   rw [qft]
   by_cases e:x=y
   ·subst e
    rw [if_neg (by rw [qgj];simp),qek]
    simp
   ·rw [if_pos (qfh e)]
    constructor
    ·exact fun h=>absurd h (qfh e)
    ·exact fun h=>absurd (List.cons.inj h).1 e
theorem qi0:∀ {a b c:List Int},cmpL a b < 0→cmpL b c < 0→cmpL a c < 0
 | [],[],_,h,_=>by simp [cmpL] at h
 | _::_,[],_,h,_=>by simp [cmpL] at h
 | _,_::_,[],_,h=>by simp [cmpL] at h
 | [],_::_,_::_,_,_=>by simp [cmpL]
 | x::a,y::b,z::c,h,k=>by
   rw [qft] at h k ⊢
   by_cases e:x=y
   ·subst e
    rw [if_neg (by rw [qgj];simp)] at h
    by_cases e2:x=z
    ·subst e2
     rw [if_neg (by rw [qgj];simp)] at k ⊢
     exact qi0 h k
    ·rw [if_pos (qfh e2)] at k ⊢
     exact k
   ·rw [if_pos (qfh e),qiz e] at h
    by_cases e2:y=z
    ·subst e2
     rw [if_pos (qfh e),qiz e];exact h
    ·rw [if_pos (qfh e2),qiz e2] at k
     have e3:x≠z:=by omega
     rw [if_pos (qfh e3),qiz e3];omega
theorem qm0 {a b:Og}:cmpO a b < 0↔cmpL a.1 b.1 < 0∨a.1=b.1∧cmpL a.2 b.2 < 0:=by
 unfold cmpO
 by_cases e:cmpL a.1 b.1=0
 ·rw [if_neg (by omega)]
  have:=qek.1 e
  constructor
  ·exact fun h=>.inr ⟨this,h⟩
  ·rintro (h | h)
   ·omega
   ·exact h.2
 ·rw [if_pos e]
  constructor
  ·exact fun h=>.inl h
  ·rintro (h | h)
   ·exact h
   ·exact absurd (qek.2 h.1) e
theorem qtj {a b c:Og} (h:cmpO a b < 0) (k:cmpO b c < 0):cmpO a c < 0:=by
 rw [qm0] at *
 rcases h with h | ⟨h1,h2⟩
 ·rcases k with k | ⟨k1,k2⟩
  ·exact .inl (qi0 h k)
  ·rw [← k1];exact .inl h
 ·rcases k with k | ⟨k1,k2⟩
  ·rw [h1];exact .inl k
  ·exact .inr ⟨h1.trans k1,qi0 h2 k2⟩
theorem cmpO_tri {a b:Og} (h:¬ cmpO a b < 0) (k:¬ cmpO b a < 0):a=b:=by
 rw [qm0] at h k
 have e1:=qkv a.1 b.1
 have e2:=qkv a.2 b.2
 have z1:a.1=b.1:=by
  apply qek.1
  have h1:¬ cmpL a.1 b.1 < 0:=fun x=>h (.inl x)
  have k1:¬ cmpL b.1 a.1 < 0:=fun x=>k (.inl x)
  omega
 have z2:a.2=b.2:=by
  apply qek.1
  have h1:¬ cmpL a.2 b.2 < 0:=fun x=>h (.inr ⟨z1,x⟩)
  have k1:¬ cmpL b.2 a.2 < 0:=fun x=>k (.inr ⟨z1.symm,x⟩)
  omega
 exact Prod.ext z1 z2
abbrev candO (o:Og) (s:Nat):Og:=renO o (numL o (s:Int))
theorem labK_min {o:Og}:∀ {i:Nat} {y:Og×List Int},labK o i=some y→∀ s,s < i→¬ cmpO (candO o s) y.1 < 0:=by
 intro i
 induction i with
 | zero=>intro y h;cases h
 | succ i ih =>
   intro y h s hs
   rw [qgd] at h
   unfold lpick at h
   split at h
   ·rename_i hn
    injection h with h
    subst h
    by_cases e:s=i
    ·subst e;rw [qm0];rintro (h | ⟨_,h⟩)
     ·rw [qek.2 rfl] at h;omega
     ·rw [qek.2 rfl] at h;omega
    ·exfalso
     obtain ⟨z,hz⟩:∃ z,labK o i=some z:=qkq (by omega)
     rw [hz] at hn;cases hn
   ·rename_i b z hz
    split at h
    ·rename_i hlt
     injection h with h
     subst h
     by_cases e:s=i
     ·subst e;rw [qm0];rintro (h | ⟨_,h⟩)
      ·rw [qek.2 rfl] at h;omega
      ·rw [qek.2 rfl] at h;omega
     ·exact fun hh=>ih hz s (by omega) (qtj hh hlt)
    ·rename_i hlt
     injection h with h
     subst h
     by_cases e:s=i
     ·subst e;exact hlt
     ·exact ih hz s (by omega)
theorem qry {o:Og} (hn:0 < o.1.length) {s:Nat} (hs:s < o.1.length):¬ cmpO (candO o s) (lab1 o) < 0:=by
 obtain ⟨y,hy⟩:=qkq (o:=o) hn
 have:=labK_min hy s hs
 unfold lab1 labO
 rw [hy]
 exact this
theorem qoi {o:Og} (hn:0 < o.1.length):∃ s,s < o.1.length∧lab1 o=candO o s:=by
 obtain ⟨s,hs,e⟩:=qrs hn
 exact ⟨s,hs,by unfold lab1;rw [e]⟩
theorem lab1_same {o o':Og} (hn:0 < o.1.length) (hn':0 < o'.1.length) (h1:∀ s,s < o.1.length→∃ t,t < o'.1.length∧candO o s=candO o' t) (h2:∀ s,s < o'.1.length→∃ t,t < o.1.length∧candO o' s=candO o t):lab1 o=lab1 o':=by
 obtain ⟨s,hs,e⟩:=qoi hn
 obtain ⟨s',hs',e'⟩:=qoi hn'
 obtain ⟨t,ht,et⟩:=h1 s hs
 obtain ⟨t',ht',et'⟩:=h2 s' hs'
 refine cmpO_tri ?_ ?_
 ·rw [e,et];exact qry hn' ht
 ·rw [e',et'];exact qry hn ht'
structure NR (n:Nat) (f:List Int) (s s':NSt):Prop where
 num:∀ y,y < n→s'.1.getD (stp f y) 0=s.1.getD y 0
 len:s'.2.length=s.2.length
 ord:∀ k,k < s.2.length→s'.2.getD k 0=(stp f (s.2.getD k 0).toNat:Int)
theorem NR.vis {n:Nat} {f:List Int} (hf:Pm n f) {s s':NSt} (hs:NOk n s) (hs':NOk n s') (h:NR n f s s') {z:Int} (h0:0≤z) (h1:z.toNat < n):NR n f (visit s z) (visit s' (stp f z.toNat:Int)):=by
 have hlt:=hf.lt h1
 have e:=h.num z.toNat h1
 unfold visit
 rw [Int.toNat_natCast,e]
 split
 ·refine ⟨fun y hy=>?_,?_,fun k hk=>?_⟩
  ·simp only
   rw [qdk (by rw [hs'.len];exact hlt),qdk (by rw [hs.len];exact h1),h.len]
   by_cases ey:z.toNat=y
   ·subst ey;rw [if_pos rfl,if_pos rfl]
   ·rw [if_neg ey,if_neg (fun hh=>ey (hf.inj' h1 hy hh)),h.num y hy]
  ·simp only [List.length_append,h.len,List.length_cons,List.length_nil]
  ·simp only [List.length_append,List.length_cons,List.length_nil] at hk ⊢
   by_cases ek:k < s.2.length
   ·rw [qf1 ek,qf1 (by rw [h.len];exact ek),h.ord k ek]
   ·obtain rfl:k=s.2.length:=by omega
    have e1:(s.2++[z]).getD s.2.length 0=z:=by
     rw [List.getD_eq_getElem?_getD,List.getElem?_append_right (Nat.le_refl _),Nat.sub_self];rfl
    have e2:(s'.2++[(stp f z.toNat:Int)]).getD s.2.length 0=(stp f z.toNat:Int):=by
     rw [← h.len,List.getD_eq_getElem?_getD,List.getElem?_append_right (Nat.le_refl _),Nat.sub_self];rfl
    rw [e1,e2]
 ·exact h
theorem NR.loop {n:Nat} {f:List Int} (hf:Pm n f) {o:Og} (hr:Pm n o.1) (hu:Pm n o.2):∀ {m k:Nat} {s s':NSt},NOk n s→NOk n s'→NR n f s s'→NR n f (nloop o m k s) (nloop (renO o f) m k s')
 | 0,_,_,_,_,_,h=>h
 | m+1,k,s,s',hs,hs',h=>by
   rw [nloop,nloop,h.len]
   split
   ·rename_i hk
    have hk':k < s'.2.length:=by rw [h.len];exact hk
    have hx:=qbh hs.ord hk
    have hx':=qbh hs'.ord hk'
    have ox:=h.ord k hk
    have hxn:(s.2.getD k 0).toNat < n:=by omega
    have hra:=qbh hr.pn.2 (i:=(s.2.getD k 0).toNat) (by rw [hr.pn.1];exact hxn)
    have hua:=qbh hu.pn.2 (i:=(s.2.getD k 0).toNat) (by rw [hu.pn.1];exact hxn)
    have hrn:(o.1.getD (s.2.getD k 0).toNat 0).toNat < n:=by omega
    have hun:(o.2.getD (s.2.getD k 0).toNat 0).toNat < n:=by omega
    have g1:(renO o f).1.getD (stp f (s.2.getD k 0).toNat) 0=(stp f (o.1.getD (s.2.getD k 0).toNat 0).toNat:Int):=by
     rw [show (renO o f).1=renL f o.1 from rfl,qmw hf hxn,hf.eq (hr.lt hxn)];rfl
    have g2:(renO o f).2.getD (stp f (s.2.getD k 0).toNat) 0=(stp f (o.2.getD (s.2.getD k 0).toNat 0).toNat:Int):=by
     rw [show (renO o f).2=renL f o.2 from rfl,qmw hf hxn,hf.eq (hu.lt hxn)];rfl
    have l1:=hf.lt hrn
    have l2:=hf.lt hun
    have v1:=hs.visit (y:=o.1.getD (s.2.getD k 0).toNat 0) hra.1 hra.2
    have v1':=hs'.visit (y:=(stp f (o.1.getD (s.2.getD k 0).toNat 0).toNat:Int)) (by omega) (by omega)
    have n1:=NR.vis hf hs hs' h hra.1 hrn
    have n2:=NR.vis hf v1 v1' n1 hua.1 hun
    have v2:=v1.visit (y:=o.2.getD (s.2.getD k 0).toNat 0) hua.1 hua.2
    have v2':=v1'.visit (y:=(stp f (o.2.getD (s.2.getD k 0).toNat 0).toNat:Int)) (by omega) (by omega)
    have es:nstep (renO o f) s' k=visit (visit s' (stp f (o.1.getD (s.2.getD k 0).toNat 0).toNat:Int)) (stp f (o.2.getD (s.2.getD k 0).toNat 0).toNat:Int):=by
     unfold nstep
     rw [ox,Int.toNat_natCast,g1,g2]
    rw [es]
    exact NR.loop hf hr hu v2 v2' n2
   ·exact h
theorem num_ren {o:Og} (h:Cn o.1.length o) {f:List Int} (hf:Pm o.1.length f) {x:Nat} (hx:x < o.1.length):∀ y,y < o.1.length→(numL (renO o f) (stp f x:Int)).getD (stp f y) 0=(numL o (x:Int)).getD y 0:=by
 have hlt:=hf.lt hx
 have hst:=NOk.start (n:=o.1.length) (x:=(x:Int)) (by omega) (by omega)
 have hst':=NOk.start (n:=o.1.length) (x:=(stp f x:Int)) (by omega) (by omega)
 have h0:NR o.1.length f (nstart o.1.length (x:Int)) (nstart o.1.length (stp f x:Int)):=by
  refine ⟨fun y hy=>?_,rfl,fun k hk=>?_⟩
  ·show ((List.replicate o.1.length (-1:Int)).set ((stp f x:Int)).toNat 0).getD (stp f y) 0=((List.replicate o.1.length (-1:Int)).set ((x:Int)).toNat 0).getD y 0
   rw [Int.toNat_natCast,Int.toNat_natCast,qdk (by simp;omega),qdk (by simp;omega)]
   by_cases e:x=y
   ·subst e;rw [if_pos rfl,if_pos rfl]
   ·rw [if_neg e,if_neg (fun hh=>e (hf.inj' hx hy hh))]
    have hy':=hf.lt hy
    simp [hy,hy']
  ·have hk:k < 1:=hk
   have:k=0:=by omega
   subst this
   show (stp f x:Int)=(stp f ((x:Int)).toNat:Int)
   rw [Int.toNat_natCast]
 have:=NR.loop hf h.r h.u (m:=o.1.length+1) (k:=0) hst hst' h0
 intro y hy
 unfold numL
 rw [qfs hf]
 exact this.num y hy
theorem qrz {o:Og} (h:Cn o.1.length o) {f:List Int} (hf:Pm o.1.length f) {x:Nat} (hx:x < o.1.length):candO (renO o f) (stp f x)=candO o x:=by
 have hC:Cn (renO o f).1.length (renO o f):=by rw [qfs hf];exact h.ren hf
 have hlt:=hf.lt hx
 have hN:=(qog h hx).1
 have hN':=(qog hC (x:=stp f x) (by rw [qfs hf];exact hlt)).1
 rw [qfs hf] at hN'
 obtain ⟨X,hX⟩:=h.toVo.toG
 have e:(⟨f,hf⟩:PG o.1.length)*⟨_,hN'⟩=⟨_,hN⟩:=PG.ext' fun i hi=>by
  rw [PG.mul_at _ _ hi]
  unfold stp
  exact congrArg Int.toNat (num_ren h hf hx i hi)
 unfold candO
 have a1:renO o f=valG (renG ⟨f,hf⟩ X):=by rw [qkc,hX]
 have a2:renO o (numL o (x:Int))=valG (renG ⟨_,hN⟩ X):=by rw [qkc,hX]
 rw [a2,← e,← renG_ren,qkc,← a1]
theorem lab1_ren {o:Og} (h:Cn o.1.length o) {f:List Int} (hf:Pm o.1.length f):lab1 (renO o f)=lab1 o:=by
 have hs:=qfs (o:=o) hf
 refine lab1_same (by rw [hs];exact h.pos) h.pos (fun s hs'=>?_) (fun s hs'=>?_)
 ·rw [hs] at hs'
  obtain ⟨x,hx,rfl⟩:=hf.onto hs'
  exact ⟨x,hx,qrz h hf hx⟩
 ·exact ⟨stp f s,by rw [hs];exact hf.lt hs',(qrz h hf hs').symm⟩
end Go.Proofs.YtmdnofcphdjieaaGreatDoor
namespace Go.Proofs.YtmdnofcphdjieaaGreatDoor
open Go Go.Abs
set_option maxRecDepth 10000
attribute [local congr] qba qbb qbc qbd qbn qbe qbo qbp qbq qbr qbt qbu qcc qby qbs qbl qb7 qb1
theorem mk_of (s:ByteArray):∃ l,s=mkS l:=⟨bts s,by apply ByteArray.ext;simp [bts]⟩
theorem qjl (l:List UInt8):bts (mkS l)=l:=by simp [bts]
noncomputable def bkC:Code:=atC [1,1,0,1,0,0] ((Tryz.f29.body).getD .skip)
theorem bk_loop {l:List UInt8} (hl:l.length≤1000) (hlt:l.all isLt=true) {call:VCall} {pol:Nat→Bool} {m k c:Nat} {a:VF} {σ:VSt} (hk:l.length < k) (h0:a 0 = .sc (.string (mkS l))) (h3:a 3 = .sc (.string (mkS []))) (h4:a 4=vI ((l.length:Int) - 1)) :
  ∃ x a' σ' c',loopV (evVC Tryz.prog call pol m bkC) k a σ c=some (x,a',σ',c')∧x = .exit 0∧a' 3 = .sc (.string (mkS (backW l))):=by
 refine qc2 l.length (fun j a σ _=>a 0 = .sc (.string (mkS l))∧a 3 = .sc (.string (mkS (backW (l.drop (l.length - j)))))∧a 4=vI ((l.length:Int) - 1 - j)) _ ?_ ?_ hk ⟨h0,by rw [h3,Nat.sub_zero,List.drop_length];rfl,by rw [h4];simp⟩
 ·intro j a σ c hj ⟨h0,h3,h4⟩
  left
  have ei:((l.length:Int) - 1 - (j:Int))=((l.length - 1 - j:Nat):Int):=by omega
  rw [ei] at h4
  have e3:IntKind.i64.wrap (((l.length - 1 - j:Nat):Int) - 1)=(l.length:Int) - 1 - ((j+1:Nat):Int):=by rw [wr64 (by omega) (by omega)];omega
  have hb:(bts (mkS l))[l.length - 1 - j]?=some l[l.length - 1 - j]:=by rw [qjl];exact List.getElem?_eq_getElem (by omega)
  have hx:=fun r (σ:VSt) (c:Nat)=>qrh (s:=mkS l) (k:=l.length - 1 - j) (b:=l[l.length - 1 - j]) (σ:=σ) (c:=c) hb (r:=r)
  have hdr:l.drop (l.length - (j+1))=l[l.length - 1 - j]::l.drop (l.length - j):=by
   rw [show l.length - (j+1)=l.length - 1 - j from by omega,List.drop_eq_getElem_cons (by omega),show l.length - 1 - j+1=l.length - j from by omega]
  have hbw:backW (l.drop (l.length - (j+1)))=backW (l.drop (l.length - j))++[bkL l[l.length - 1 - j]]:=by rw [hdr];simp [backW]
  have hL:isLt l[l.length - 1 - j]=true:=List.all_eq_true.1 hlt _ (List.getElem_mem _)
  have hsz:(backW (l.drop (l.length - j))).length≤1000:=by simp only [backW,List.length_map,List.length_reverse,List.length_drop];omega
  generalize hB:l[l.length - 1 - j]=b at *
  generalize hW:backW (l.drop (l.length - j))=w at *
  have hap:=fun r (v:UInt8)=>qri (σ:=σ) (c:=c) (r:=r) (l:=w) (m:=[v]) (by simp;omega)
  rw [show bkC=atC [1,1,0,1,0,0] ((Tryz.f29.body).getD .skip) from rfl]
  have key:∀ v:UInt8,bkL b=v→∀ {a':VF},a' 0 = .sc (.string (mkS l))→a' 3 = .sc (.string (mkS (w++[v])))→a' 4=vI ((l.length:Int) - 1 - ((j+1:Nat):Int))→a' 0 = .sc (.string (mkS l))∧a' 3 = .sc (.string (mkS (backW (l.drop (l.length - (j+1))))))∧a' 4=vI ((l.length:Int) - 1 - ((j+1:Nat):Int)):=by
   intro v hv a' q0 q3 q4
   exact ⟨q0,by rw [q3,hbw,hv],q4⟩
  rcases qj9.1 hL with c1 | c1 | c1 | c1
  ·have d1:((b.toNat:Int)=83)=True:=eq_true c1
   have hv:bkL b=115:=by rw [show b=83 from UInt8.toNat_inj.1 (Int.ofNat_inj.1 c1)];rfl
   simp (disch:=omega) only [Tryz.f29,Option.getD_some,atC,qaw,qao,qah,qax,qau,qay,qa7,qat,qal,qa3,qel,qf9,qfg,qaa,qab,qac,qcu,qam,↓qaa,↓qab,↓qac,↓qam,qag,qap,qav,qgz,qai,↓reduceIte,Nat.reduceEqDiff,Nat.succ_ne_self,Int.natCast_nonneg,decide_true,Option.getD_some,qd7,qee uS9,qfp,hx,h0,h3,h4,d1,↓hap,e3]
   refine ⟨_,_,_,rfl,key 115 hv h0 rfl rfl⟩
  ·have d1:((b.toNat:Int)=83)=False:=eq_false (by omega)
   have d2:((b.toNat:Int)=115)=True:=eq_true c1
   have hv:bkL b=83:=by rw [show b=115 from UInt8.toNat_inj.1 (Int.ofNat_inj.1 c1)];rfl
   simp (disch:=omega) only [Tryz.f29,Option.getD_some,atC,qaw,qao,qah,qax,qau,qay,qa7,qat,qal,qa3,qel,qf9,qfg,qaa,qab,qac,qcu,qam,qan,↓qaa,↓qab,↓qac,↓qam,↓qan,qag,qap,qav,qgz,qai,↓reduceIte,Nat.reduceEqDiff,Nat.succ_ne_self,Int.natCast_nonneg,decide_true,decide_false,Option.getD_some,qd7,qee uS9,qfp,hx,h0,h3,h4,d1,d2,↓hap,e3]
   refine ⟨_,_,_,rfl,key 83 hv h0 rfl rfl⟩
  ·have d1:((b.toNat:Int)=83)=False:=eq_false (by omega)
   have d2:((b.toNat:Int)=115)=False:=eq_false (by omega)
   have d3:((b.toNat:Int)=84)=True:=eq_true c1
   have hv:bkL b=116:=by rw [show b=84 from UInt8.toNat_inj.1 (Int.ofNat_inj.1 c1)];rfl
   simp (disch:=omega) only [Tryz.f29,Option.getD_some,atC,qaw,qao,qah,qax,qau,qay,qa7,qat,qal,qa3,qel,qf9,qfg,qaa,qab,qac,qcu,qam,qan,↓qaa,↓qab,↓qac,↓qam,↓qan,qag,qap,qav,qgz,qai,↓reduceIte,Nat.reduceEqDiff,Nat.succ_ne_self,Int.natCast_nonneg,decide_true,decide_false,Option.getD_some,qd7,qee uS9,qfp,hx,h0,h3,h4,d1,d2,d3,↓hap,e3]
   refine ⟨_,_,_,rfl,key 116 hv h0 rfl rfl⟩
  ·have d1:((b.toNat:Int)=83)=False:=eq_false (by omega)
   have d2:((b.toNat:Int)=115)=False:=eq_false (by omega)
   have d3:((b.toNat:Int)=84)=False:=eq_false (by omega)
   have d4:((b.toNat:Int)=116)=True:=eq_true c1
   have hv:bkL b=84:=by rw [show b=116 from UInt8.toNat_inj.1 (Int.ofNat_inj.1 c1)];rfl
   simp (disch:=omega) only [Tryz.f29,Option.getD_some,atC,qaw,qao,qah,qax,qau,qay,qa7,qat,qal,qa3,qel,qf9,qfg,qaa,qab,qac,qcu,qam,qan,↓qaa,↓qab,↓qac,↓qam,↓qan,qag,qap,qav,qgz,qai,↓reduceIte,Nat.reduceEqDiff,Nat.succ_ne_self,Int.natCast_nonneg,decide_true,decide_false,Option.getD_some,qd7,qee uS9,qfp,hx,h0,h3,h4,d1,d2,d3,d4,↓hap,e3]
   refine ⟨_,_,_,rfl,key 84 hv h0 rfl rfl⟩
 ·intro a σ c ⟨h0,h3,h4⟩
  have ei:((l.length:Int) - 1 - (l.length:Int))=-1:=by omega
  rw [ei] at h4
  have c1:¬ ((0:Int)≤-1):=by omega
  rw [show bkC=atC [1,1,0,1,0,0] ((Tryz.f29.body).getD .skip) from rfl]
  simp (disch:=omega) only [Tryz.f29,Option.getD_some,atC,qaw,qao,qah,qax,qau,qda,qat,qa3,qel,qaa,qab,qac,qb0,qan,↓qaa,↓qab,↓qac,↓qb0,↓qan,qag,qap,qav,qai,↓reduceIte,decide_false,Option.getD_some,h4,c1]
  refine ⟨_,_,_,_,rfl,?_⟩
  rw [Nat.sub_self,List.drop_zero] at h3
  exact ⟨by simp,rfl,h3⟩
abbrev bkP (s:ByteArray):Bool:=decide (s.size≤1000) && (bts s).all isLt
abbrev bkS:VSpec:=spec1 cS bkP (fun s=>.sc (.string (mkS (backW (bts s))))) false
theorem bk_ok:OK 1002 29 bkS:=by
 refine OK.of1 (F:=1001) (tb:=[]) (pol:=fun _=>false) (by simp) (x:=(Tryz.f29.body).getD .skip) (Nat.le_of_ble_eq_true rfl) Tryz.func29 rfl (ok_fn (by rfl) Tryz.func29 rfl) (by kernel_rfl) (by intros;rfl) fun n hn s hc=>?_
 obtain ⟨l,rfl⟩:=mk_of s
 simp only [bkP,Bool.and_eq_true,decide_eq_true_eq,qjl,qfa] at hc
 obtain ⟨hl,hlt⟩:=hc
 have key:=fun (a:VF) (σ:VSt) (c:Nat)=>bk_loop hl hlt (call:=callOf []) (pol:=fun _=>false) (m:=n) (k:=n) (a:=a) (σ:=σ) (c:=c) (by omega)
 rw [show bkC=atC [1,1,0,1,0,0] ((Tryz.f29.body).getD .skip) from rfl] at key
 simp only [Tryz.f29,Option.getD_some,atC] at key
 have e3:IntKind.i64.wrap ((l.length:Int) - 1)=(l.length:Int) - 1:=wr64 (by omega) (by omega)
 rw [qjl]
 simp (disch:=omega) only [Tryz.f29,Option.getD_some,qaw,qao,qah,qax,qay,qdj,qbv,qat,qal,qa3,qf9,qaa,qab,qac,↓qaa,↓qab,↓qac,qag,qap,qav,qgz,qai,frV_0,↓reduceIte,Nat.reduceEqDiff,Option.getD_some,enc_S,qd4 uS9,slenV,qfa,e3]
 generalize hA:updV _ 4 _=B
 obtain ⟨x,a',σ',c',e,rfl,h3⟩:=key B _ _ (by subst hA;rfl) (by subst hA;rfl) (by subst hA;rfl)
 rw [e]
 simp (disch:=omega) only [qac,qdp,↓qac,qag,qad,↓qad,qbw,qb8,qbx,fv_r,pv_1,fsh_1,qbk,↓reduceIte,h3]
end Go.Proofs.YtmdnofcphdjieaaGreatDoor
namespace Go.Proofs.YtmdnofcphdjieaaGreatDoor
open Go Go.Abs
set_option maxRecDepth 10000
theorem Cn.letter {n:Nat} {o:Og} (h:Cn n o) (c:Int):Cn n (letO o c):=by
 refine ⟨h.toVo.letter c,fun S hS z hz hz1 y hy=>?_⟩
 refine h.all S ?_ z hz hz1 y hy
 unfold letO at hS
 split at hS
 ·refine ⟨hS.2,fun x hx hh=>?_⟩
  refine h.u.inv.back (S:=S) hS.1 (h.u.lt hx) ?_
  rw [h.u.inv_at hx];exact hh
 ·split at hS
  ·refine ⟨fun x hx hh=>?_,hS.1⟩
   refine h.r.inv.back (S:=S) hS.2 (h.r.lt hx) ?_
   rw [h.r.inv_at hx];exact hh
  ·split at hS
   ·refine ⟨hS.1,fun x hx hh=>?_⟩
    refine h.r.inv.back (S:=S) (keep_inv h.r hS.1) (h.u.lt hx) ?_
    have:=hS.2 x hx hh
    rw [show stp (o.1,afterL o.2 (invL o.1)).2 x=stp (invL o.1) (stp o.2 x) from qgf h.u hx] at this
    exact this
   ·refine ⟨hS.1,fun x hx hh=>?_⟩
    refine h.r.back (S:=S) hS.1 (h.u.lt hx) ?_
    have:=hS.2 x hx hh
    rw [show stp (o.1,afterL o.2 o.1).2 x=stp o.1 (stp o.2 x) from qgf h.u hx] at this
    exact this
theorem Cn.act {n:Nat} {o:Og} (h:Cn n o):∀ l:List UInt8,Cn n (actW l o)
 | []=>h
 | b::l=>Cn.letter (Cn.act h l) _
theorem act_app (o:Og) (l m:List UInt8):actW (l++m) o=actW l (actW m o):=List.foldr_append
theorem rel_law {o:Og} (h:Cn o.1.length o) {rel:List UInt8} (hr:rel∈rels) (a:List UInt8) (k:Nat):lab1 (actW (a.take k++rel++a.drop k) o)=lab1 (actW a o):=by
 obtain ⟨x,hx⟩:=h.toVo.toG
 obtain ⟨g,hg⟩:=rels_ren (actG (a.drop k) x) rel hr
 have e:actG (a.take k++rel++a.drop k) x=renG g (actG a x):=by
  rw [qkd,qkd,hg,qrw,← qkd,List.take_append_drop]
 have hC:=h.act a
 have hs:(actW a o).1.length=o.1.length:=hC.toVo.size
 rw [← hx,← qg4,e,qkc,← qg4]
 have e2:valG (actG a x)=actW a o:=by rw [qg4,hx]
 rw [e2]
 exact lab1_ren (by rw [hs];exact hC) (by rw [hs];exact g.ok)
theorem back_law {o:Og} (h:Vo o.1.length o) {a:List UInt8} (ha:a.all isLt=true):actW (backW a) (actW a o)=o:=by
 obtain ⟨x,hx⟩:=h.toG
 rw [← hx,← qg4,← qg4,qrx x a ha]
theorem qoj {l:List UInt8}:chkW l=0↔l.length≤200∧l.all isLt=true:=by
 unfold chkW
 split
 ·constructor
  ·intro h;cases h
  ·intro h;omega
 ·split
  ·rename_i h1 h2
   exact ⟨fun _=>⟨by omega,h2⟩,fun _=>rfl⟩
  ·rename_i h1 h2
   constructor
   ·intro h;cases h
   ·intro h;exact absurd h.2 h2
theorem back_lt {l:List UInt8} (h:l.all isLt=true):(backW l).all isLt=true:=by
 rw [List.all_eq_true] at h ⊢
 intro b hb
 simp only [backW,List.mem_map,List.mem_reverse] at hb
 obtain ⟨x,hx,rfl⟩:=hb
 unfold bkL
 split
 ·rfl
 ·split
  ·rfl
  ·split<;>rfl
theorem rels_lt:∀ l∈rels,l.all isLt=true∧l.length≤12:=by
 intro l hl
 simp only [rels,List.mem_cons,List.not_mem_nil,or_false] at hl
 rcases hl with rfl | rfl | rfl | rfl<;>exact ⟨rfl,by decide⟩
structure RelOk (o:Og) (a b rel:List UInt8) (k:Nat):Prop where
 x:actR o (mkS (a.take k++rel++a.drop k)) = .tup [encO (actW (a.take k++rel++a.drop k) o),vI 0]
 y:actR o (mkS a) = .tup [encO (actW a o),vI 0]
 z:actR (actW a o) (mkS b) = .tup [encO (actW (b++a) o),vI 0]
 w:actR o (mkS (b++a)) = .tup [encO (actW (b++a) o),vI 0]
 u:actR (actW a o) (mkS (backW a)) = .tup [encO o,vI 0]
 len:(actW (a.take k++rel++a.drop k) o).1.length=o.1.length
 cx:ckOne (actW (a.take k++rel++a.drop k) o)=0
 cy:ckOne (actW a o)=0
 lx:Co (actW (a.take k++rel++a.drop k) o)=true
 ly:Co (actW a o)=true
 lab:lab1 (actW (a.take k++rel++a.drop k) o)=lab1 (actW a o)
theorem qkw {o:Og} {n:Nat} (h:Vo n o) {l:List UInt8} (hl:l.length≤200) (ha:l.all isLt=true):actR o (mkS l) = .tup [encO (actW l o),vI 0]:=by
 unfold actR
 have h0:checkE o=0:=h.check
 have hc:chkW (bts (mkS l))=0:=by rw [qjl];exact qoj.2 ⟨hl,ha⟩
 rw [if_neg (by rw [h0];simp),if_neg (by rw [hc];simp),qjl]
theorem rel_ok {o:Og} (h:Cn o.1.length o) {a b rel:List UInt8} {k:Nat} (hr:rel∈rels) (la:a.length≤60) (lb:b.length≤60) (ha:a.all isLt=true) (hb:b.all isLt=true):RelOk o a b rel k:=by
 obtain ⟨r1,r2⟩:=rels_lt rel hr
 have hw:(a.take k++rel++a.drop k).all isLt=true:=by
  rw [List.all_append,List.all_append,r1,Bool.and_true]
  rw [← List.all_append,List.take_append_drop];exact ha
 have hwl:(a.take k++rel++a.drop k).length≤200:=by
  simp only [List.length_append,List.length_take,List.length_drop];omega
 have hX:=h.act (a.take k++rel++a.drop k)
 have hY:=h.act a
 have sX:(actW (a.take k++rel++a.drop k) o).1.length=o.1.length:=hX.toVo.size
 have sY:(actW a o).1.length=o.1.length:=hY.toVo.size
 have hba:(b++a).all isLt=true:=by rw [List.all_append,ha,hb];rfl
 have hbal:(b++a).length≤200:=by simp only [List.length_append];omega
 refine ⟨qkw h.toVo hwl hw,qkw h.toVo (by omega) ha,?_,qkw h.toVo hbal hba,?_,sX,qmz.2 (by rw [sX];exact hX),qmz.2 (by rw [sY];exact hY),Co_Cn.2 (by rw [sX];exact hX),Co_Cn.2 (by rw [sY];exact hY),rel_law h hr a k⟩
 ·rw [qkw hY.toVo (by omega) hb,act_app]
 ·rw [qkw hY.toVo (by simp [backW];omega) (back_lt ha),back_law h.toVo ha]
end Go.Proofs.YtmdnofcphdjieaaGreatDoor
namespace Go.Proofs.YtmdnofcphdjieaaGreatDoor
open Go Go.Abs
open Go.RowKit in
theorem law_D {F f:Nat} {s:VSpec} (h:OK F f s) {shs:List Sh} {w:World} {args:List Value} (ha:All2 (ArgSh w) shs args) (hs:∀ As,All2 ShArg shs As→∃ fr,s As=some (.sc (.bool true),fr)) (hb:∀ vs H,bC (.func (.func f) #[] #[]) vs H=none) :
  Calls Tryz.prog f ⟨args⟩ w fun e w'=>e = .returned (.bool true)∧Below w.heap.size w w':=by
 obtain ⟨m,H,As,us,_,b,o,r,k⟩:=args_rep ha (bears_nil w)
 obtain ⟨fr,hA⟩:=hs As o
 have h1:AnsAt (evB Tryz.prog bC (F+1)) f As (.sc (.bool true)) fr:=h (F+1) (by omega) As _ _ hA
 obtain ⟨v,H',e,h2,_⟩:=h1 TT H us b.wf r
 obtain ⟨rfl,_⟩:=qdv.1 h2
 rw [qsz (hb us H)] at e
 have s3:=body_calls hmix (qr7 hmix bC_ok bC_grow F) (qih bC_grow F) e b.rel (args':=⟨args⟩) k
 have hno:∀ g,¬ Owned m H g:=by
  rintro g ⟨c,x,l,q1,q2,q3,_⟩
  rw [b.own c x q1] at q3;cases q3
 refine fun cs=>?_
 obtain ⟨e,w2,fr,⟨m',v',rfl,s1,s2⟩,h2⟩:=s3 cs
 obtain rfl:=s2.plain rfl
 exact ⟨_,_,fr,⟨rfl,s1.keep.os,s1.keep.tape,s1.keep.output,s1.keep.size,fun k hk=>s1.keep.block k hk (hno k)⟩,h2⟩
end Go.Proofs.YtmdnofcphdjieaaGreatDoor
namespace Go.Proofs.YtmdnofcphdjieaaGreatDoor
open Go Go.Abs
set_option maxRecDepth 10000
attribute [local congr] qba qbb qbc qbd qbn qbe qbo qbp qbq qbr qbt qbu qcc qby qbs qbl qb7 qb1
theorem fewB_lg {o:Og} {n:Int} (h:fewB o n=true) (hn:n≤1000000):lgO o=true:=by
 unfold fewB at h
 simp only [Bool.and_eq_true,decide_eq_true_eq] at h
 simp only [lgO,Bool.and_eq_true,decide_eq_true_eq]
 omega
end Go.Proofs.YtmdnofcphdjieaaGreatDoor
namespace Go.Proofs.YtmdnofcphdjieaaGreatDoor
open Go Go.Abs
set_option maxRecDepth 10000
attribute [local congr] qba qbb qbc qbd qbn qbe qbo qbp qbq qbr qbt qbu qcc qby qbs qbl qb7 qb1
theorem uS2:Tryz.prog.underlying 54=some (.array 2 9):=by kernel_rfl
theorem uY2:Tryz.prog.underlying 55=some (.array 2 5):=by kernel_rfl
theorem uS4:Tryz.prog.underlying 56=some (.array 4 9):=by kernel_rfl
theorem zS9:sizeT Tryz.prog 9=some 1:=by kernel_rfl
theorem aS9:isAggT Tryz.prog 9=some false:=by kernel_rfl
theorem zY5:sizeT Tryz.prog 5=some 1:=by kernel_rfl
theorem aY5:isAggT Tryz.prog 5=some false:=by kernel_rfl
theorem uY5:Tryz.prog.underlying 5=some (.int .u8):=by kernel_rfl
theorem uI3:Tryz.prog.underlying 3=some (.int .i64):=by kernel_rfl
theorem iS4:zeroV Tryz.prog 56=some [.sc (.string ⟨#[]⟩),.sc (.string ⟨#[]⟩),.sc (.string ⟨#[]⟩),.sc (.string ⟨#[]⟩)]:=by kernel_rfl
theorem bS4 {σ:VSt} {a b c d:Value}:buildV Tryz.prog σ 56 [(0,.sc a),(1,.sc b),(2,.sc c),(3,.sc d)]=some (.st [.sc a,.sc b,.sc c,.sc d]):=by
 unfold buildV
 rw [iS4,uS4]
 simp only [zS9,fillV,scalV,List.length_cons,List.length_nil]
 rfl
theorem ad_S0 {σ:VSt} {id ver j:Nat} {kk:IntKind}:addrV Tryz.prog 54 σ (.ptr id ver j) (.sc (.int kk 0))=optG (getO σ id ver) fun _=>some (.ptr id ver j):=by
 rw [qs9 uS2 zS9];rfl
theorem ad_S1 {σ:VSt} {id ver j:Nat} {kk:IntKind}:addrV Tryz.prog 54 σ (.ptr id ver j) (.sc (.int kk 1))=optG (getO σ id ver) fun _=>some (.ptr id ver (j+1)):=by
 rw [qs9 uS2 zS9];rfl
theorem ad_Y0 {σ:VSt} {id ver j:Nat} {kk:IntKind}:addrV Tryz.prog 55 σ (.ptr id ver j) (.sc (.int kk 0))=optG (getO σ id ver) fun _=>some (.ptr id ver j):=by
 rw [qs9 uY2 zY5];rfl
theorem ad_Y1 {σ:VSt} {id ver j:Nat} {kk:IntKind}:addrV Tryz.prog 55 σ (.ptr id ver j) (.sc (.int kk 1))=optG (getO σ id ver) fun _=>some (.ptr id ver (j+1)):=by
 rw [qs9 uY2 zY5];rfl
theorem rel_at {q:Int} (h0:0≤q):(0≤q.tmod 4∧q.tmod 4 < ((4:Nat):Int))∧∃ rel,rel∈rels∧([VV.sc (.string ⟨#[83,83,83,83]⟩),.sc (.string ⟨#[83,84,83,84,83,84,115,115]⟩),.sc (.string ⟨#[83,84,83,84,83,84,83,84,83,84,83,84]⟩),.sc (.string ⟨#[83,83,84,115,115,116]⟩)]:List VV)[(q.tmod 4).toNat]?=some (.sc (.string (mkS rel))):=by
 rw [Int.tmod_eq_emod_of_nonneg h0]
 have hz:q % 4=0∨q % 4=1∨q % 4=2∨q % 4=3:=by omega
 refine ⟨by omega,?_⟩
 rcases hz with e | e | e | e<;>rw [e]
 ·exact ⟨_,List.mem_cons_self ..,rfl⟩
 ·exact ⟨_,List.mem_cons_of_mem _ (List.mem_cons_self ..),rfl⟩
 ·exact ⟨_,List.mem_cons_of_mem _ (List.mem_cons_of_mem _ (List.mem_cons_self ..)),rfl⟩
 ·exact ⟨_,List.mem_cons_of_mem _ (List.mem_cons_of_mem _ (List.mem_cons_of_mem _ (List.mem_cons_self ..))),rfl⟩
abbrev orT:List (Nat×VSpec):=[(9,spec0 (.sc (.bool true)) false),(21,spec2 cO cI (fun _ _=>true) (fun o n=>vB (fewB o n)) false),(27,ckoS),(13,cwS),(22,actS),(28,olabS),(25,sameS),(29,bkS)]
abbrev orPol:Nat→Bool:=fun d=>d == 1000003 || d == 1000008 || d == 1000010 || d == 1000014
theorem or_law_ok:OK 1000000000007 6 (spec3 cO cSS cYY (fun _ _ y=>decide (0≤y.1) && decide (y.1≤255) && (decide (0≤y.2) && decide (y.2≤255))) (fun _ _ _=>.sc (.bool true)) false):=by
 refine OK.of3 (F:=1000000000006) (tb:=orT) (pol:=orPol) ?_ (x:=(Tryz.f6.body).getD .skip) (Nat.le_of_ble_eq_true rfl) Tryz.func6 rfl (ok_fn (by rfl) Tryz.func6 rfl) (by kernel_rfl) (by intros;rfl) fun n hn o s y hc=>?_
 ·intro y hy
  simp only [orT,List.mem_cons,List.not_mem_nil,or_false] at hy
  rcases hy with rfl | rfl | rfl | rfl | rfl | rfl | rfl | rfl
  ·exact aw_ok.mono (by omega)
  ·exact few_ok.mono (by omega)
  ·exact cko_ok.mono (by omega)
  ·exact rcw_ok.mono (by omega)
  ·exact act_ok
  ·exact rl7_ok.mono (by omega)
  ·exact rsm_ok.mono (by omega)
  ·exact bk_ok.mono (by omega)
 obtain ⟨r,u⟩:=o
 obtain ⟨s1,s2⟩:=s
 obtain ⟨p,q⟩:=y
 obtain ⟨a,rfl⟩:=mk_of s1
 obtain ⟨b,rfl⟩:=mk_of s2
 simp only [Bool.and_eq_true,decide_eq_true_eq] at hc
 obtain ⟨⟨p0,p1⟩,q0,q1⟩:=hc
 have d3:drawI (regOps (atC [1,1,0] ((Tryz.f6.body).getD .skip))) (Region.before (regOps (atC [1,1,0] ((Tryz.f6.body).getD .skip))))=true:=by kernel_rfl
 simp only [Tryz.f6,Option.getD_some,atC,regOps] at d3
 have d8:drawI (regOps (atC [1,1,1,1,1,1,0] ((Tryz.f6.body).getD .skip))) (Region.before (regOps (atC [1,1,1,1,1,1,0] ((Tryz.f6.body).getD .skip))))=true:=by kernel_rfl
 simp only [Tryz.f6,Option.getD_some,atC,regOps] at d8
 have d10:drawI (regOps (atC [1,1,1,1,1,1,1,1,0,0] ((Tryz.f6.body).getD .skip))) (Region.before (regOps (atC [1,1,1,1,1,1,1,1,0,0] ((Tryz.f6.body).getD .skip))))=true:=by kernel_rfl
 simp only [Tryz.f6,Option.getD_some,atC,regOps] at d10
 have d14:drawI (regOps (atC [1,1,1,1,1,1,1,1,1,1,1,0] ((Tryz.f6.body).getD .skip))) (Region.before (regOps (atC [1,1,1,1,1,1,1,1,1,1,1,0] ((Tryz.f6.body).getD .skip))))=true:=by kernel_rfl
 simp only [Tryz.f6,Option.getD_some,atC,regOps] at d14
 have w3:orPol (1000000+3)=true:=rfl
 have w8:orPol (1000000+8)=true:=rfl
 have w10:orPol (1000000+10)=true:=rfl
 have w14:orPol (1000000+14)=true:=rfl
 cases hf:fewB (r,u) 12 with
 | false =>
   simp (maxSteps:=400000) (disch:=omega) only [Tryz.f6,Option.getD_some,qaw,List.getElem?_toArray,qao,qce,qbj,gdV_b,qah,qc4,qax,qau,qa7,qbv,qat,qal,qcx,qcv,qa4,qcd,qbi,qjt,qju,qaa,qab,qac,qaz,qam,qan,qdq,qcw,↓qaa,↓qab,↓qac,↓qaz,↓qam,↓qan,↓qdq,↓qcw,qaq,qbg,qag,qap,qa5,qav,qcs,qai,qa1,qa2,qae,qaj,qad,↓qae,↓qaj,↓qad,qc3,qa6,qbz,qbf,qb6,qbm,pk_sc,pk_st,qcp,vcall,qb4,qas,qbw,qb8,qbx,fv_r,pv_1,fsh_1,qbk,frV_0,frV_1,frV_2,↓reduceIte,Nat.reduceEqDiff,Nat.zero_add,List.map_cons,List.map_nil,Bool.not_true,Bool.not_false,List.getElem?_cons_zero,List.getElem?_cons_succ,b_tf,qaf,↓qaf,Bool.and_true,Option.getD_some,sp0,sp2,enc_O,qak,↓qak,dec_I,dec_O,sv_st,sl_fz,qa8,ldN_2,qb5 aO zO,List.length_cons,List.length_nil,Nat.reduceAdd,Nat.le_refl,List.drop_zero,qe7,qef,rdC_t,qfx,qhv,qc8,qeb,qe8,qec,qhx,Option.isSome_some,Bool.or_true,qmq,qmr,ad_S0,ad_S1,qco aS9,d3,w3,hf]
 | true =>
   have hlg:=fewB_lg hf (by decide)
   have hgl:(decide (r.length≤1000000) && decide (u.length≤1000000))=true:=hlg
   have hck:ckoP (r,u)=true:=qmy hlg
   by_cases h0:ckOne (r,u)=0
   ·have t0:(ckOne (r,u)=0)=True:=eq_true h0
    have hC:Cn (r,u).1.length (r,u):=qmz.1 h0
    by_cases la:(60:Int) < (a.length:Int)
    ·simp (maxSteps:=400000) (disch:=omega) only [Tryz.f6,Option.getD_some,qaw,List.getElem?_toArray,qao,qce,qbj,gdV_b,qah,qc4,qax,qau,qa7,qbv,qat,qal,qcx,qcv,qa4,qcd,qbi,qa3,qjt,qdi,qch,qju,qaa,qab,qac,qaz,qam,qan,qcr,qdq,qcw,qcb,↓qaa,↓qab,↓qac,↓qaz,↓qam,↓qan,↓qcr,↓qdq,↓qcw,↓qcb,qaq,qbg,qag,qap,qa5,qav,qcs,qai,qa1,qa2,qae,qaj,qad,↓qae,↓qaj,↓qad,qc3,qa6,qbz,qbf,qb6,qbm,pk_sc,pk_st,qcp,vcall,qb4,qas,qbw,qb8,qbx,fv_r,pv_1,fsh_1,qbk,frV_0,frV_1,frV_2,↓reduceIte,Nat.reduceEqDiff,Nat.zero_add,List.map_cons,List.map_nil,decide_true,Bool.not_true,List.getElem?_cons_zero,List.getElem?_cons_succ,beq_self_eq_true,b_tf,qaf,↓qaf,Bool.and_true,Option.getD_some,sp0,sp1,sp2,enc_O,qak,↓qak,dec_I,dec_O,sv_st,sl_fz,qa8,ldN_2,qb5 aO zO,List.length_cons,List.length_nil,Nat.reduceAdd,Nat.le_refl,List.drop_zero,qe7,qef,rdC_t,qfx,qhv,qc8,qeb,qe8,qec,qhx,Option.isSome_some,Bool.or_true,qmq,qmr,ad_S0,ad_S1,qco aS9,d3,w3,hf,qd4 uS9,slenV,qfa,hck,t0,la]
    ·by_cases lb:(60:Int) < (b.length:Int)
     ·simp (maxSteps:=400000) (disch:=omega) only [Tryz.f6,Option.getD_some,qaw,List.getElem?_toArray,qao,qce,qbj,gdV_b,qah,qc4,qax,qau,qa7,qbv,qat,qal,qcx,qcv,qa4,qcd,qbi,qa3,qjt,qdi,qch,qju,qaa,qab,qac,qaz,qam,qan,qcr,qdq,qcw,qcb,↓qaa,↓qab,↓qac,↓qaz,↓qam,↓qan,↓qcr,↓qdq,↓qcw,↓qcb,qaq,qbg,qag,qap,qa5,qav,qcs,qai,qa1,qa2,qae,qaj,qad,↓qae,↓qaj,↓qad,qc3,qa6,qbz,qbf,qb6,qbm,pk_sc,pk_st,qcp,vcall,qb4,qas,qbw,qb8,qbx,fv_r,pv_1,fsh_1,qbk,frV_0,frV_1,frV_2,↓reduceIte,Nat.reduceEqDiff,Nat.zero_add,List.map_cons,List.map_nil,decide_true,decide_false,Bool.not_true,List.getElem?_cons_zero,List.getElem?_cons_succ,beq_self_eq_true,b_tf,qaf,↓qaf,Bool.and_true,Option.getD_some,sp0,sp1,sp2,enc_O,qak,↓qak,dec_I,dec_O,sv_st,sl_fz,qa8,ldN_2,qb5 aO zO,List.length_cons,List.length_nil,Nat.reduceAdd,Nat.le_refl,List.drop_zero,qe7,qef,rdC_t,qfx,qhv,qc8,qeb,qe8,qec,qhx,Option.isSome_some,Bool.or_true,qmq,qmr,ad_S0,ad_S1,qco aS9,d3,w3,hf,qd4 uS9,slenV,qfa,hck,t0,la,lb]
     ·have sab:decide ((a++b).length < 1000000)=true:=decide_eq_true (by rw [List.length_append];omega)
      by_cases hw:chkW (a++b)=0
      ·have tw:(chkW (a++b)=0)=True:=eq_true hw
       have hall:=(qoj.1 hw).2
       rw [List.all_append,Bool.and_eq_true] at hall
       obtain ⟨ha,hb⟩:=hall
       have e1:IntKind.i64.wrap ((a.length:Int)+1)=(a.length:Int)+1:=wr64 (by omega) (by omega)
       have e2:IntKind.i64.wrap p=p:=wr64 (by omega) (by omega)
       obtain ⟨k,hk,hkl⟩:∃ k:Nat,p.tmod ((a.length:Int)+1)=(k:Int)∧k≤a.length:=by
        have h1:0≤p % ((a.length:Int)+1):=Int.emod_nonneg _ (by omega)
        have h2:p % ((a.length:Int)+1) < (a.length:Int)+1:=Int.emod_lt_of_pos _ (by omega)
        exact ⟨(p % ((a.length:Int)+1)).toNat,by rw [Int.tmod_eq_emod_of_nonneg p0];omega,by omega⟩
       obtain ⟨hq,rel,hrel,hat⟩:=rel_at q0
       have rl:=(rels_lt rel hrel).2
       have c1:(a.take k).length≤60:=by rw [List.length_take];omega
       have c2:(a.drop k).length≤60:=by rw [List.length_drop];omega
       have c3:(a.take k++rel).length≤72:=by rw [List.length_append];omega
       have c4:decide ((a.take k++rel++a.drop k).length < 1000000)=true:=decide_eq_true (by rw [List.length_append];omega)
       have c5:decide (a.length < 1000000)=true:=decide_eq_true (by omega)
       have c6:decide (b.length < 1000000)=true:=decide_eq_true (by omega)
       have c7:decide ((b++a).length < 1000000)=true:=decide_eq_true (by rw [List.length_append];omega)
       have c8:decide ((backW a).length < 1000000)=true:=decide_eq_true (by simp only [backW,List.length_map,List.length_reverse];omega)
       have bp:bkP (mkS a)=true:=by simp only [bkP,qfa,qjl,ha,Bool.and_true];exact decide_eq_true (by omega)
       obtain ⟨Rx,Ry,Rz,Rw,Ru,Rl,Rcx,Rcy,Rlx,Rly,Rlab⟩:=rel_ok hC (k:=k) hrel (by omega:a.length≤60) (by omega:b.length≤60) ha hb
       rcases hX:actW (a.take k++rel++a.drop k) (r,u) with ⟨x1,x2⟩
       rcases hY:actW a (r,u) with ⟨y1,y2⟩
       rcases hZ:actW (b++a) (r,u) with ⟨z1,z2⟩
       rw [hX] at Rx Rl Rcx Rlx Rlab
       rw [hY] at Ry Rz Ru Rcy Rly Rlab
       rw [hZ] at Rz Rw
       have gx:(decide (x1.length≤1000000) && decide (x2.length≤1000000))=true:=(qod.1 Rlx).1
       have gy:(decide (y1.length≤1000000) && decide (y2.length≤1000000))=true:=(qod.1 Rly).1
       have kx:ckoP (x1,x2)=true:=qmy gx
       have ky:ckoP (y1,y2)=true:=qmy gy
       have tx:(ckOne (x1,x2)=0)=True:=eq_true Rcx
       have ty:(ckOne (y1,y2)=0)=True:=eq_true Rcy
       have tl:((x1.length:Int)=(r.length:Int))=True:=eq_true (by have:x1.length=r.length:=Rl;omega)
       rcases hl:lab1 (y1,y2) with ⟨l1,l2⟩
       rw [hl] at Rlab
       have gl:(decide (l1.length≤1000000) && decide (l2.length≤1000000))=true:=by
        have:=Co_lab Rly
        rw [hl] at this
        exact (qod.1 this).1
       have gz:(decide (z1.length≤1000000) && decide (z2.length≤1000000))=true:=by
        have hz:=hC.act (b++a)
        rw [hZ] at hz
        exact (qod.1 (Co_Cn.2 (show Cn (z1,z2).1.length (z1,z2) by rw [hz.toVo.size];exact hz))).1
       have sl:sameP (l1,l2) (l1,l2)=true:=by unfold sameP;rw [show lgO (l1,l2)=true from gl];rfl
       have sz:sameP (z1,z2) (z1,z2)=true:=by unfold sameP;rw [show lgO (z1,z2)=true from gz];rfl
       have so:sameP (r,u) (r,u)=true:=by unfold sameP;rw [hlg];rfl
       simp (maxSteps:=400000) (disch:=omega) only [Tryz.f6,Option.getD_some,qaw,List.getElem?_toArray,qao,qce,qbj,gdV_b,qah,qc4,qax,qau,qa7,qbv,qat,qal,qcx,qcv,qex,qa4,qc1,vs_slice,qcl,qcd,vs_ext,qbi,qcg uL,qa3,qjt,qdi,qdf,qch,qb9,qnr,qju,qaa,qab,qac,qan,qcr,qcw,qcb,↓qaa,↓qab,↓qac,↓qan,↓qcr,↓qcw,↓qcb,qaq,qcm,qbg,qag,qap,qa5,qav,qcs,qgz,qai,qcn,qa1,qa2,qae,qaj,qad,↓qae,↓qaj,↓qad,qc3,qdn,ln_fz,qa6,qbz,qbf,qb6,qbm,pk_sc,pk_st,qcp,vcall,qfo,qpi,qsy,ipF_tup,qb4,qez,qph,qas,qbw,qb8,qbx,fv_r,pv_1,fsh_1,qbk,frV_0,frV_1,frV_2,qfz,qe9,qeg,List.flatMap_cons,List.flatMap_nil,List.append_nil,Option.map_some,Option.map_none,↓reduceIte,Nat.reduceEqDiff,Nat.succ_ne_self,Nat.zero_add,Nat.add_zero,and_self,List.map_cons,List.map_nil,decide_true,decide_false,Bool.not_true,List.getElem?_cons_zero,List.getElem?_cons_succ,beq_self_eq_true,qaf,↓qaf,Bool.and_true,Bool.and_false,Option.getD_some,sp0,sp1,sp2,enc_O,qak,↓qak,dec_I,dec_S,dec_O,qd7,qrf,st_W zO,qed,sv_st,qde,qc6,sl_fz,qa8,ldN_2,qdy iO,qco aL,qcf fO0,qb5 aO zO,List.set_cons_zero,List.set_cons_succ,List.length_cons,List.length_nil,Nat.reduceAdd,Nat.le_refl,List.drop_zero,qe7,qef,vi_consG,rdC_t,qhu,qfx,ro_pick,ro_bin,ro_un,qfe,qss,ro_slice,qhb,qhv,ro_ext,qf7,qc8,qeb,qhw,qe8,co_pick,co_bin,co_un,qec,qf8,qhx,co_ext,co_slice,qes,co_len,qff,qst,Option.isSome_some,Bool.or_true,qmq,qmr,ad_S0,ad_S1,ad_Y0,ad_Y1,qco aS9,qco aY5,d3,w3,hf,qd4 uS9,slenV,qfa,qjl,↓qri,hck,t0,la,lb,sab,tw,cnv_y,vs_conv uY5 uI3,e1,e2,hk,binY_rem,bS4,ix_1 uS4 aS9 zS9,hq,hat,slc_to uS9,slc_from uS9,c4,c5,c6,c7,c8,bp,Rx,Ry,Rz,Rw,Ru,extV_tup,d8,d10,d14,w8,w10,w14,hlg,gy,kx,ky,tx,ty,tl,Rlx,Rly,Rlab,hl,sl,sz,so,eq_self]
      ·have fw:(chkW (a++b)=0)=False:=eq_false hw
       simp (maxSteps:=400000) (disch:=omega) only [Tryz.f6,Option.getD_some,qaw,List.getElem?_toArray,qao,qce,qbj,gdV_b,qah,qc4,qax,qau,qa7,qbv,qat,qal,qcx,qcv,qa4,qcd,qbi,qa3,qjt,qdi,qch,qju,qaa,qab,qac,qaz,qam,qan,qcr,qcb,↓qaa,↓qab,↓qac,↓qaz,↓qam,↓qan,↓qcr,↓qcb,qaq,qbg,qag,qap,qa5,qav,qcs,qai,qa1,qa2,qae,qaj,qad,↓qae,↓qaj,↓qad,qc3,qa6,qbz,qbf,qb6,qbm,pk_sc,pk_st,qcp,vcall,qb4,qas,qbw,qb8,qbx,fv_r,pv_1,fsh_1,qbk,frV_0,frV_1,frV_2,↓reduceIte,Nat.reduceEqDiff,Nat.zero_add,List.map_cons,List.map_nil,decide_true,decide_false,Bool.not_true,Bool.not_false,List.getElem?_cons_zero,List.getElem?_cons_succ,beq_self_eq_true,qaf,↓qaf,Bool.and_true,Option.getD_some,sp0,sp1,sp2,enc_O,qak,↓qak,dec_I,dec_S,dec_O,sv_st,sl_fz,qa8,ldN_2,qb5 aO zO,List.length_cons,List.length_nil,Nat.reduceAdd,Nat.le_refl,List.drop_zero,qe7,qef,rdC_t,qfx,qhv,qc8,qeb,qe8,qec,qhx,Option.isSome_some,Bool.or_true,qmq,qmr,ad_S0,ad_S1,qco aS9,d3,w3,hf,qd4 uS9,slenV,qfa,qjl,↓qri,hck,t0,la,lb,sab,fw]
   ·have f0:(ckOne (r,u)=0)=False:=eq_false h0
    simp (maxSteps:=400000) (disch:=omega) only [Tryz.f6,Option.getD_some,qaw,List.getElem?_toArray,qao,qce,qbj,gdV_b,qah,qc4,qax,qau,qa7,qbv,qat,qal,qcx,qcv,qa4,qcd,qbi,qa3,qjt,qch,qju,qaa,qab,qac,qaz,qam,qan,qcr,qdq,qcw,qcb,↓qaa,↓qab,↓qac,↓qaz,↓qam,↓qan,↓qcr,↓qdq,↓qcw,↓qcb,qaq,qbg,qag,qap,qa5,qav,qcs,qai,qa1,qa2,qae,qaj,qad,↓qae,↓qaj,↓qad,qc3,qa6,qbz,qbf,qb6,qbm,pk_sc,pk_st,qcp,vcall,qb4,qas,qbw,qb8,qbx,fv_r,pv_1,fsh_1,qbk,frV_0,frV_1,frV_2,↓reduceIte,Nat.reduceEqDiff,Nat.zero_add,List.map_cons,List.map_nil,decide_false,Bool.not_true,Bool.not_false,List.getElem?_cons_zero,List.getElem?_cons_succ,beq_self_eq_true,b_tf,qaf,↓qaf,Bool.and_true,Option.getD_some,sp0,sp1,sp2,enc_O,qak,↓qak,dec_I,dec_O,sv_st,sl_fz,qa8,ldN_2,qb5 aO zO,List.length_cons,List.length_nil,Nat.reduceAdd,Nat.le_refl,List.drop_zero,qe7,qef,rdC_t,qfx,qhv,qc8,qeb,qe8,qec,qhx,Option.isSome_some,Bool.or_true,qmq,qmr,ad_S0,ad_S1,qco aS9,d3,w3,hf,hck,f0]
open Go.RowKit in
theorem qhg {W:World} {v0 v1 v2:Value} (w0:ArgSh W shO v0) (w1:ArgSh W shS2 v1) (w2:ArgSh W shY2 v2):Calls Tryz.prog 6 #[v0,v1,v2] W fun e w'=>e = .returned (.bool true)∧Below W.heap.size W w' :=
 law_D or_law_ok (.cons w0 (.cons w1 (.cons w2 .nil))) (fun As h=>by
  cases h with
  | cons h1 h2 =>
    cases h2 with
    | cons h2 h3 =>
      cases h3 with
      | cons h3 h4 =>
        cases h4
        obtain ⟨o,ho⟩:=sh_O h1
        obtain ⟨s,hs⟩:=sh_S2 h2
        obtain ⟨y,hy,⟨y0,y1⟩,y2,y3⟩:=sh_Y2 h3
        have hp:(decide (0≤y.1) && decide (y.1≤255) && (decide (0≤y.2) && decide (y.2≤255)))=true:=by
         rw [decide_eq_true y0,decide_eq_true y1,decide_eq_true y2,decide_eq_true y3];rfl
        refine ⟨false,?_⟩
        rw [sp3,ho,hs,hy]
        simp only [qak,hp,qaf]) (fun _ _=>rfl)
end Go.Proofs.YtmdnofcphdjieaaGreatDoor
