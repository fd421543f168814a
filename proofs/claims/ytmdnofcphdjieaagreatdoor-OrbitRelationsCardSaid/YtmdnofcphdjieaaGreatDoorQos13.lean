/- Of the law: texts of its proof, joined (part 13). -/
import Derived.Test.YtmdnofcphdjieaaGreatDoorQos12
import Derived.Test.YtmdnofcphdjieaaGreatDoorQos3
import Derived.Test.YtmdnofcphdjieaaGreatDoorQos4
import Derived.Test.YtmdnofcphdjieaaGreatDoorQos5
import Derived.Test.YtmdnofcphdjieaaGreatDoorQos7
import Derived.Test.YtmdnofcphdjieaaGreatDoorQos8
set_option linter.all false
namespace Go.Proofs.YtmdnofcphdjieaaGreatDoor
open Go Go.Abs
theorem uL:Tryz.prog.underlying 43=some (.slice 3):=by kernel_rfl
theorem eL:sliceElem Tryz.prog 43=some (3,1):=by kernel_rfl
theorem aI:isAggT Tryz.prog 3=some false:=by kernel_rfl
theorem zI:sizeT Tryz.prog 3=some 1:=by kernel_rfl
theorem yI:bytesT Tryz.prog 3=some 8:=by kernel_rfl
theorem oI:zeros Tryz.prog 3 1 1=some [vi 0]:=by kernel_rfl
theorem nI:zeros Tryz.prog 3 1 0=some []:=by kernel_rfl
theorem pVI:okApp Tryz.prog 3 1=true:=by kernel_rfl
theorem qn8 {P:Program} {e:TypeId} {z:Value} (h:zeros P e 1 1=some [z]) (n:Nat):zeros P e 1 n=some (List.replicate n z):=by
 unfold zeros at h ⊢
 split at h
 ·rename_i w hw
  split at h
  ·rename_i hl
   rw [if_pos hl]
   injection h with h
   simp only [repl,List.append_nil] at h
   rw [h]
   congr 1
   induction n with
   | zero=>rfl
   | succ n ih=>rw [repl,ih];rfl
  ·cases h
 ·cases h
theorem li_rep (n:Nat):(List.replicate n (vi 0)).map vcst1=li (List.replicate n 0):=by
 unfold li
 rw [List.map_replicate,List.map_replicate];rfl
theorem mk_I {d:Option Nat} {σ:VSt} {c:Nat} {k1 k2:IntKind} {n m:Int}:makeV Tryz.prog d 43 (.sc (.int k1 n)) (.sc (.int k2 m)) σ c=if 0≤n∧n≤m∧m≤1048576 then mkOwn d n.toNat 1 (li (List.replicate n.toNat 0)) σ c else none:=by
 rw [mk_sl eL yI ⟨by decide,by decide⟩,qn8 oI]
 simp only [li_rep]
theorem bs_I1 {pol:Nat→Bool} {d:Option Nat} {σ:VSt} {c:Nat} {w:Value}:buildSliceV Tryz.prog pol d 43 1 [(0,.sc w)] σ c=iteB (pol (d.getD 0)) (mkOwn d 1 1 [.sc w] σ c) (some (.fz 1 1 [.sc w],σ,c)):=by
 rw [bs_eq eL ⟨by decide,by unfold maxA;decide⟩ (r:=[.sc w])]
 ·simp only [List.map_cons,List.map_nil,List.flatMap_cons,List.flatMap_nil,qfz,List.append_nil,qll]
 ·simp only [List.map_cons,List.map_nil,qbf,qbz,pk_sc,optP,optL,bsV,oI]
  rfl
theorem bs_I0 {pol:Nat→Bool} {d:Option Nat} {σ:VSt} {c:Nat}:buildSliceV Tryz.prog pol d 43 0 [] σ c=iteB (pol (d.getD 0)) (mkOwn d 0 1 [] σ c) (some (.fz 0 1 [],σ,c)):=by
 rw [bs_eq eL ⟨by decide,by unfold maxA;decide⟩ (r:=[])]
 ·simp only [List.map_nil,List.flatMap_nil,qll]
 ·simp only [List.map_nil,qbz,bsV,nI]
  rfl
theorem bne_1:((1:Nat) != 0)=true:=(rfl)
theorem b_ft:(false == true)=false:=(rfl)
theorem b_tf:(true == false)=false:=(rfl)
theorem ok_fn {f:Nat} {fn:Func} {c:Code} (ho:okN f=true) (hf:Tryz.prog.funcs[f]?=some fn) (hb:fn.body=some c):funcOk fn c=true:=hF f fn c ho hf hb
theorem ansB {m g:Nat} {args:List VV} {r:VV} {fresh:Bool} (h:AnsAt (evBody Tryz.prog (evB Tryz.prog bC m) m) g args r fresh) (hb:∀ vs H,bC (.func (.func g) #[] #[]) vs H=none:=by intros;rfl):AnsAt (evB Tryz.prog bC (m+1)) g args r fresh:=by
 intro Z H vs hw hA
 obtain ⟨v,H',h1,h2⟩:=h Z H vs hw hA
 exact ⟨v,H',by rw [qsz (hb vs H)];exact h1,h2⟩
def OK (F f:Nat) (s:VSpec):Prop:=∀ n,F≤n→VSpecOK (evB Tryz.prog bC n) f s
theorem OK.mono {F F' f:Nat} {s:VSpec} (h:OK F f s) (hf:F≤F'):OK F' f s:=fun n hn=>h n (by omega)
theorem packV_rp {l:List VV} {cs:List VV} (h:packV l = .rp cs):l=[.rp cs]:=by
 unfold packV at h
 split at h
 ·subst h;rfl
 ·cases h
theorem peek_rp {σ:VSt} {A:VV} {cs:List VV} (h:peek σ A=some (.rp cs)):False:=by
 cases A with
 | st l=>simp only [peek] at h;split at h<;>cases h
 | tup l=>simp only [peek] at h;split at h<;>cases h
 | own id ver =>
   simp only [peek,peek1] at h
   split at h
   ·split at h<;>cases h
   ·cases h
 | _=>cases h
theorem resV_rp {σ:VSt} {a:VF} {rs:List ResultVar} {cs:List VV} (h:resV Tryz.prog σ a rs=some [.rp cs]):False:=by
 cases rs with
 | nil=>cases h
 | cons r rs =>
   cases r with
   | tmp t =>
     simp only [resV] at h
     split at h
     ·rename_i q1 q2 q3 h1 h2 h3
      injection h with h;injection h with e1 e2;subst e1
      exact peek_rp (by assumption)
     ·cases h
   | cell t ty =>
     simp only [resV] at h
     split at h
     ·rename_i q1 q2 h1 h2
      injection h with h;injection h with e1 e2;subst e1
      cases hl:loadV Tryz.prog ty σ (a t) with
      | none=>rw [hl] at h1;cases h1
      | some B=>rw [hl] at h1;exact peek_rp h1
     ·cases h
theorem fin_rp {rs:List ResultVar} {x:Option (X×VF×VSt×Nat)} {r:VV} {fresh:Bool} (h:finV Tryz.prog rs x=some (r,fresh)):∀ cs,r≠.rp cs:=by
 rintro cs rfl
 unfold finV at h
 have key:∀ {A' σ'},(resV Tryz.prog σ' A' rs).map (fun vs=>(packV vs,freshV A' rs))=some (VV.rp cs,fresh)→False:=by
  intro A' σ' h2
  cases hr:resV Tryz.prog σ' A' rs with
  | none=>rw [hr] at h2;cases h2
  | some l =>
    rw [hr] at h2
    injection h2 with h2;injection h2 with e1 _
    rw [packV_rp e1] at hr
    exact resV_rp hr
 split at h
 ·exact key h
 ·exact key h
 ·cases h
theorem OK.of {F g:Nat} {s:VSpec} {fn:Func} {x:Code} {tb:List (Nat×VSpec)} {pol:Nat→Bool} (htb:∀ y∈tb,OK F y.1 y.2) (hfn:Tryz.prog.funcs[g]?=some fn) (hb:fn.body=some x) (hok:funcOk fn x=true) (hd:drawsOk (fun id=>pol (1000000+id)) x=true)
  (hbc:∀ vs H,bC (.func (.func g) #[] #[]) vs H=none)
  (h:∀ n,F≤n→∀ args r fresh,s args=some (r,fresh)→∃ args',(∀ Z H vs,RepCL Z H args vs→RepCL Z H args' vs)∧args'.length≤fn.ntmps∧finV Tryz.prog fn.results.toList (evVC Tryz.prog (callOf tb) pol n x (frV args') (fun _=>none) 0)=some (r,fresh)):OK (F+1) g s:=by
 intro n hn args r fresh hs
 obtain ⟨m,rfl⟩:∃ m,n=m+1:=⟨n - 1,by omega⟩
 obtain ⟨args',h1,h2,h3⟩:=h m (by omega) args r fresh hs
 exact (AnsAt.args (args':=args') (ansB (qsr (qlk fun y hy=>htb y hy m (by omega)) hfn hb hok hd h2 h3) hbc) h1).x (fin_rp h3)
section
variable {α β γ:Type} {F g:Nat} {fn:Func} {x:Code} {tb:List (Nat×VSpec)} {pol:Nat→Bool} {fr:Bool}
theorem OK.of1 {c:Cod α} {p:α→Bool} {gg:α→VV} (htb:∀ y∈tb,OK F y.1 y.2) (hl:1≤fn.ntmps) (hfn:Tryz.prog.funcs[g]?=some fn) (hb:fn.body=some x) (hok:funcOk fn x=true) (hd:drawsOk (fun id=>pol (1000000+id)) x=true)
  (hbc:∀ vs H,bC (.func (.func g) #[] #[]) vs H=none)
  (h:∀ n,F≤n→∀ y,p y=true→finV Tryz.prog fn.results.toList (evVC Tryz.prog (callOf tb) pol n x (frV [c.enc y]) (fun _=>none) 0)=some (gg y,fr)):OK (F+1) g (spec1 c p gg fr):=by
 refine OK.of (tb:=tb) (pol:=pol) htb hfn hb hok hd hbc fun n hn args r fresh hs=>?_
 obtain ⟨y,h1,rfl,rfl,h2⟩:=qpk hs
 exact ⟨_,h2,hl,h n hn y h1⟩
theorem OK.of2 {c:Cod α} {d:Cod β} {p:α→β→Bool} {gg:α→β→VV} (htb:∀ y∈tb,OK F y.1 y.2) (hl:2≤fn.ntmps) (hfn:Tryz.prog.funcs[g]?=some fn) (hb:fn.body=some x) (hok:funcOk fn x=true) (hd:drawsOk (fun id=>pol (1000000+id)) x=true)
  (hbc:∀ vs H,bC (.func (.func g) #[] #[]) vs H=none)
  (h:∀ n,F≤n→∀ y z,p y z=true→finV Tryz.prog fn.results.toList (evVC Tryz.prog (callOf tb) pol n x (frV [c.enc y,d.enc z]) (fun _=>none) 0)=some (gg y z,fr)):OK (F+1) g (spec2 c d p gg fr):=by
 refine OK.of (tb:=tb) (pol:=pol) htb hfn hb hok hd hbc fun n hn args r fresh hs=>?_
 obtain ⟨y,z,h1,rfl,rfl,h2⟩:=qlo hs
 exact ⟨_,h2,hl,h n hn y z h1⟩
theorem OK.of3 {c:Cod α} {d:Cod β} {e:Cod γ} {p:α→β→γ→Bool} {gg:α→β→γ→VV} (htb:∀ y∈tb,OK F y.1 y.2) (hl:3≤fn.ntmps) (hfn:Tryz.prog.funcs[g]?=some fn) (hb:fn.body=some x) (hok:funcOk fn x=true) (hd:drawsOk (fun id=>pol (1000000+id)) x=true)
  (hbc:∀ vs H,bC (.func (.func g) #[] #[]) vs H=none)
  (h:∀ n,F≤n→∀ y z t,p y z t=true→finV Tryz.prog fn.results.toList (evVC Tryz.prog (callOf tb) pol n x (frV [c.enc y,d.enc z,e.enc t]) (fun _=>none) 0)=some (gg y z t,fr)):OK (F+1) g (spec3 c d e p gg fr):=by
 refine OK.of (tb:=tb) (pol:=pol) htb hfn hb hok hd hbc fun n hn args r fresh hs=>?_
 obtain ⟨y,z,t,h1,rfl,rfl,h2⟩:=spec3_inv hs
 exact ⟨_,h2,hl,h n hn y z t h1⟩
end
end Go.Proofs.YtmdnofcphdjieaaGreatDoor
namespace Go.Proofs.YtmdnofcphdjieaaGreatDoor
open Go Go.Abs
set_option maxRecDepth 10000
attribute [local congr] qba qbb qbc qbd qbn qbe qbo qbp qbq qbr qcc qby qbs qbl
def rangeB (l:List Int):Bool:=l.all fun z=>decide (0≤z) && decide (z < l.length)
def invK (l:List Int) (i:Nat):List Int:=(List.range i).foldl (fun (o:List Int) (j:Nat)=>o.set (l.getD j 0).toNat (j:Int)) (List.replicate l.length 0)
theorem qh1 (l:List Int) (i:Nat):invK l (i+1)=(invK l i).set (l.getD i 0).toNat (i:Int):=by simp [invK,List.range_succ]
theorem qej (l:List Int) (i:Nat):(invK l i).length=l.length:=by
 induction i with
 | zero=>simp [invK]
 | succ i ih=>rw [qh1,List.length_set,ih]
def invL (l:List Int):List Int:=invK l l.length
abbrev invP (l:List Int):Bool:=rangeB l && decide (l.length≤1000)
abbrev invS:VSpec:=spec1 cL invP (fun l=>vL (invL l)) true
theorem qte {l:List Int} (h:rangeB l=true) {i:Nat} (hi:i < l.length):0≤l.getD i 0∧l.getD i 0 < l.length:=by
 unfold rangeB at h
 have:=List.all_eq_true.1 h (l.getD i 0) (by rw [List.getD_eq_getElem?_getD,List.getElem?_eq_getElem hi];exact List.getElem_mem hi)
 simpa using this
noncomputable def invC:Code:=atC [1,1,0,1,0,0] ((Tryz.f98.body).getD .skip)
theorem inv_loop {l:List Int} (hp:rangeB l=true) (hl:l.length≤1000) {call:VCall} {pol:Nat→Bool} {m k c u:Nat} {a:VF} {σ:VSt} (hk:l.length < k)
  (h9:a 9=vL l) (h10:a 10=vI l.length) (h11:a 11=vI ((0:Nat):Int)) (h3:a 3 = .own 8 u) (hs:σ 8=some ⟨u,l.length,1,li (List.replicate l.length 0)⟩) :
  ∃ x a' σ' c',loopV (evVC Tryz.prog call pol m invC) k a σ c=some (x,a',σ',c')∧x = .exit 0∧a' 3 = .own 8 u∧σ' 8=some ⟨u,l.length,1,li (invL l)⟩:=by
 refine qc2 l.length (fun i a σ _=>a 9=vL l∧a 10=vI l.length∧a 11=vI i∧a 3 = .own 8 u∧σ 8=some ⟨u,l.length,1,li (invK l i)⟩) _ ?_ ?_ hk ⟨h9,h10,h11,h3,hs⟩
 ·intro i a σ c hi ⟨h9,h10,h11,h3,hs⟩
  left
  obtain ⟨r0,r1⟩:=qte hp hi
  have c1:(i:Int) < (l.length:Int):=by omega
  have hlen:=qej l i
  have e3:IntKind.i64.wrap ((i:Int)+1)=((i+1:Nat):Int):=by rw [wr64 (by omega) (by omega)];omega
  have c2:(l.getD i 0).toNat < l.length:=by omega
  rw [show invC=atC [1,1,0,1,0,0] ((Tryz.f98.body).getD .skip) from rfl]
  simp (disch:=omega) only [Tryz.f98,Option.getD_some,atC,qaw,qao,qah,qax,qau,qay,qa7,qat,qal,qa4,qc1,qcd,qa3,qa0,qb9,qaa,qab,qac,qcu,qam,↓qaa,↓qab,↓qac,↓qam,qaq,qcm,qag,qap,qav,qai,qcn,qa1,qa2,qae,↓qae,qew eL,ad_fz eL,ld_rp aI,qc3,st_sc zI,qdm,qsx,qjv,List.getElem?_drop,↓reduceIte,Nat.reduceEqDiff,Nat.add_zero,Nat.mul_one,Int.toNat_natCast,Int.natCast_nonneg,and_self,decide_true,Option.getD_some,h9,h10,h11,h3,hs,c1,r0,r1,hlen,c2,e3]
  exact ⟨_,_,_,rfl,by simp only [qag,↓reduceIte,Nat.reduceEqDiff,h9],by simp only [qag,↓reduceIte,Nat.reduceEqDiff,h10],by simp only [qag,↓reduceIte],by simp only [qag,↓reduceIte,Nat.reduceEqDiff,h3],by simp only [qag,↓reduceIte,qh1]⟩
 ·intro a σ c ⟨h9,h10,h11,h3,hs⟩
  have c1:¬ ((l.length:Int) < (l.length:Int)):=by omega
  rw [show invC=atC [1,1,0,1,0,0] ((Tryz.f98.body).getD .skip) from rfl]
  simp only [Tryz.f98,Option.getD_some,atC,qaw,qao,qah,qax,qau,qda,qa3,qa0,qaa,qab,qac,qb0,qan,↓qaa,↓qab,↓qac,↓qb0,↓qan,qag,qap,qai,↓reduceIte,decide_false,Option.getD_some,h10,h11,c1]
  exact ⟨_,_,_,_,rfl,by simp,rfl,by simp only [qag,↓reduceIte,Nat.reduceEqDiff,h3],hs⟩
theorem inv_ok:OK 1002 98 invS:=by
 refine OK.of1 (F:=1001) (tb:=[]) (pol:=fun _=>false) (by simp) (x:=(Tryz.f98.body).getD .skip) (Nat.le_of_ble_eq_true rfl) Tryz.func98 rfl (ok_fn (by rfl) Tryz.func98 rfl) (by kernel_rfl) (by intros;rfl) fun n hn l hc=>?_
 simp only [invP,Bool.and_eq_true,decide_eq_true_eq] at hc
 have key:=fun (a:VF) (σ:VSt) (c u:Nat)=>inv_loop hc.1 hc.2 (call:=callOf []) (pol:=fun _=>false) (m:=n) (k:=n) (a:=a) (σ:=σ) (c:=c) (u:=u) (by omega)
 rw [show invC=atC [1,1,0,1,0,0] ((Tryz.f98.body).getD .skip) from rfl] at key
 simp only [Tryz.f98,Option.getD_some,atC] at key
 have c1:(0:Int)≤(l.length:Int):=by omega
 have c2:(l.length:Int)≤1048576:=by omega
 simp (disch:=omega) only [Tryz.f98,qaw,qao,qah,qax,qay,qdj,qbv,qat,qal,qhy,qcg uL,qaa,qab,qac,↓qaa,↓qab,↓qac,qaq,qag,qap,qav,qfn,qai,ln_fz,qc5,mk_I,frV_0,Option.map_some,↓reduceIte,Nat.reduceEqDiff,Nat.zero_add,Int.toNat_natCast,and_self,Option.getD_some,enc_L,c1,c2,Int.le_refl]
 generalize hA:updV _ 11 _=B
 generalize hS:updV _ 8 _=τ
 obtain ⟨x,a',σ',c',e,rfl,w3,w8⟩:=key B τ _ _ (by subst hA;rfl) (by subst hA;rfl) (by subst hA;rfl) (by subst hA;rfl) (by subst hS;rfl)
 rw [e]
 simp (disch:=omega) only [qac,qdp,↓qac,qag,qa1,qa2,qae,qad,↓qae,↓qad,qbw,qb8,qe0,fv_r,pv_1,fsh_1,qem,↓reduceIte,Nat.succ_ne_self,w3,w8]
 rw [show vL (invL l)=VV.fz (invL l).length 1 (li (invL l)) from rfl,show (invL l).length=l.length from qej l l.length]
def fillK (f:Nat→Int) (n i:Nat):List Int:=(List.range i).map f++List.replicate (n - i) 0
theorem qn9 (f:Nat→Int) {n i:Nat} (h:i≤n):(fillK f n i).length=n:=by simp [fillK];omega
theorem qlz (f:Nat→Int) (n:Nat):fillK f n 0=List.replicate n 0:=by simp [fillK]
theorem qoa (f:Nat→Int) (n:Nat):fillK f n n=(List.range n).map f:=by simp [fillK]
theorem ql0 (f:Nat→Int) {n i:Nat} (h:i < n):(fillK f n i).set i (f i)=fillK f n (i+1):=by
 unfold fillK
 rw [List.set_append_right _ _ (by simp),List.length_map,List.length_range,Nat.sub_self]
 obtain ⟨k,hk⟩:∃ k,n - i=k+1:=⟨n - i - 1,by omega⟩
 rw [hk,List.replicate_succ,List.set_cons_zero,show n - (i+1)=k from by omega,List.range_succ,List.map_append,List.append_assoc]
 rfl
def afterF (p q:List Int) (i:Nat):Int:=q.getD (p.getD i 0).toNat 0
def afterL (p q:List Int):List Int:=(List.range p.length).map (afterF p q)
theorem qg3 (p q:List Int):(afterL p q).length=p.length:=by simp [afterL]
def inB (p:List Int) (n:Nat):Bool:=p.all fun z=>decide (0≤z) && decide (z < n)
theorem qbh {l:List Int} {n:Nat} (h:inB l n=true) {i:Nat} (hi:i < l.length):0≤l.getD i 0∧l.getD i 0 < n:=by
 unfold inB at h
 have:=List.all_eq_true.1 h (l.getD i 0) (by rw [List.getD_eq_getElem?_getD,List.getElem?_eq_getElem hi];exact List.getElem_mem hi)
 simpa using this
noncomputable def thenC:Code:=atC [1,1,0,1,0,0] ((Tryz.f132.body).getD .skip)
theorem then_loop {p q:List Int} (hp:inB p q.length=true) (hl:p.length≤1000) {call:VCall} {pol:Nat→Bool} {m k c u:Nat} {a:VF} {σ:VSt} (hk:p.length < k)
  (h11:a 11=vL p) (h12:a 12=vI p.length) (h13:a 13=vI ((0:Nat):Int)) (h5:a 5 = .own 10 u) (h1:a 1=vL q) (hs:σ 10=some ⟨u,p.length,1,li (List.replicate p.length 0)⟩) :
  ∃ x a' σ' c',loopV (evVC Tryz.prog call pol m thenC) k a σ c=some (x,a',σ',c')∧x = .exit 0∧a' 5 = .own 10 u∧σ' 10=some ⟨u,p.length,1,li (afterL p q)⟩:=by
 refine qc2 p.length (fun i a σ _=>a 11=vL p∧a 12=vI p.length∧a 13=vI i∧a 5 = .own 10 u∧a 1=vL q∧σ 10=some ⟨u,p.length,1,li (fillK (afterF p q) p.length i)⟩) _ ?_ ?_ hk ⟨h11,h12,h13,h5,h1,by rw [qlz];exact hs⟩
 ·intro i a σ c hi ⟨h11,h12,h13,h5,h1,hs⟩
  left
  obtain ⟨r0,r1⟩:=qbh hp hi
  have c1:(i:Int) < (p.length:Int):=by omega
  have hlen:=qn9 (afterF p q) (n:=p.length) (i:=i) (by omega)
  have e3:IntKind.i64.wrap ((i:Int)+1)=((i+1:Nat):Int):=by rw [wr64 (by omega) (by omega)];omega
  have c2:(p.getD i 0).toNat < q.length:=by omega
  rw [show thenC=atC [1,1,0,1,0,0] ((Tryz.f132.body).getD .skip) from rfl]
  simp (disch:=omega) only [Tryz.f132,Option.getD_some,atC,qaw,qao,qah,qax,qau,qay,qa7,qat,qal,qa4,qc1,qcd,qa3,qa0,qb9,qaa,qab,qac,qcu,qam,↓qaa,↓qab,↓qac,↓qam,qaq,qcm,qag,qap,qav,qai,qcn,qa1,qa2,qae,↓qae,qew eL,ad_fz eL,ld_rp aI,qc3,st_sc zI,qdm,qsx,qjv,List.getElem?_drop,↓reduceIte,Nat.reduceEqDiff,Nat.add_zero,Nat.mul_one,Int.toNat_natCast,Int.natCast_nonneg,and_self,decide_true,Option.getD_some,h11,h12,h13,h5,h1,hs,c1,r0,r1,hlen,e3,hi]
  refine ⟨_,_,_,rfl,by simp only [qag,↓reduceIte,Nat.reduceEqDiff,h11],by simp only [qag,↓reduceIte,Nat.reduceEqDiff,h12],by simp only [qag,↓reduceIte],by simp only [qag,↓reduceIte,Nat.reduceEqDiff,h5],by simp only [qag,↓reduceIte,Nat.reduceEqDiff,h1],?_⟩
  simp only [qag,↓reduceIte]
  rw [← ql0 _ hi]
  rfl
 ·intro a σ c ⟨h11,h12,h13,h5,h1,hs⟩
  have c1:¬ ((p.length:Int) < (p.length:Int)):=by omega
  rw [show thenC=atC [1,1,0,1,0,0] ((Tryz.f132.body).getD .skip) from rfl]
  simp only [Tryz.f132,Option.getD_some,atC,qaw,qao,qah,qax,qau,qda,qa3,qa0,qaa,qab,qac,qb0,qan,↓qaa,↓qab,↓qac,↓qb0,↓qan,qag,qap,qai,↓reduceIte,decide_false,Option.getD_some,h12,h13,c1]
  exact ⟨_,_,_,_,rfl,by simp,rfl,by simp only [qag,↓reduceIte,Nat.reduceEqDiff,h5],by rw [hs,qoa];rfl⟩
abbrev thenP (p q:List Int):Bool:=inB p q.length && decide (p.length≤1000)
abbrev thenS:VSpec:=spec2 cL cL thenP (fun p q=>vL (afterL p q)) true
theorem then_ok:OK 1002 132 thenS:=by
 refine OK.of2 (F:=1001) (tb:=[]) (pol:=fun _=>false) (by simp) (x:=(Tryz.f132.body).getD .skip) (Nat.le_of_ble_eq_true rfl) Tryz.func132 rfl (ok_fn (by rfl) Tryz.func132 rfl) (by kernel_rfl) (by intros;rfl) fun n hn p q hc=>?_
 simp only [thenP,Bool.and_eq_true,decide_eq_true_eq] at hc
 have key:=fun (a:VF) (σ:VSt) (c u:Nat)=>then_loop hc.1 hc.2 (call:=callOf []) (pol:=fun _=>false) (m:=n) (k:=n) (a:=a) (σ:=σ) (c:=c) (u:=u) (by omega)
 rw [show thenC=atC [1,1,0,1,0,0] ((Tryz.f132.body).getD .skip) from rfl] at key
 simp only [Tryz.f132,Option.getD_some,atC] at key
 have c1:(0:Int)≤(p.length:Int):=by omega
 have c2:(p.length:Int)≤1048576:=by omega
 simp (disch:=omega) only [Tryz.f132,qaw,qao,qah,qax,qay,qdj,qbv,qat,qal,qhy,qcg uL,qaa,qab,qac,↓qaa,↓qab,↓qac,qaq,qag,qap,qav,qfn,qai,ln_fz,qc5,mk_I,frV_0,Option.map_some,↓reduceIte,Nat.reduceEqDiff,Nat.zero_add,Int.toNat_natCast,and_self,Option.getD_some,enc_L,c1,c2,Int.le_refl]
 generalize hA:updV _ 13 _=B
 generalize hS:updV _ 10 _=τ
 obtain ⟨x,a',σ',c',e,rfl,w3,w8⟩:=key B τ _ _ (by subst hA;rfl) (by subst hA;rfl) (by subst hA;rfl) (by subst hA;rfl) (by subst hA;rfl) (by subst hS;rfl)
 rw [e]
 simp (disch:=omega) only [qac,qdp,↓qac,qag,qa1,qa2,qae,qad,↓qae,↓qad,qbw,qb8,qe0,fv_r,pv_1,fsh_1,qem,↓reduceIte,Nat.succ_ne_self,w3,w8]
 rw [show vL (afterL p q)=VV.fz (afterL p q).length 1 (li (afterL p q)) from rfl,qg3]
end Go.Proofs.YtmdnofcphdjieaaGreatDoor
namespace Go.Proofs.YtmdnofcphdjieaaGreatDoor
open Go Go.Abs
set_option maxRecDepth 10000
attribute [local congr] qba qbb qbc qbd qbn qbe qbo qbp qbq qbr qbt qcc qby qbs qbl
def idL (n:Nat):List Int:=(List.range n).map fun (i:Nat)=>(i:Int)
theorem idL_len (n:Nat):(idL n).length=n:=by simp [idL]
def Pn (n:Nat) (p:List Int):Prop:=p.length=n∧inB p n=true
theorem qrk {p:List Int} {n:Nat} (h:∀ i,i < p.length→0≤p.getD i 0∧p.getD i 0 < n):inB p n=true:=by
 unfold inB
 rw [List.all_eq_true]
 intro z hz
 obtain ⟨i,hi,e⟩:=List.getElem_of_mem hz
 have:=h i hi
 rw [List.getD_eq_getElem?_getD,List.getElem?_eq_getElem hi,Option.getD_some,e] at this
 simpa using this
theorem qtf {p q:List Int} {i:Nat} (hi:i < p.length):(afterL p q).getD i 0=q.getD (p.getD i 0).toNat 0:=by
 unfold afterL
 rw [List.getD_eq_getElem?_getD,List.getElem?_map,List.getElem?_range hi]
 rfl
theorem Pn.after {n:Nat} {p q:List Int} (hp:Pn n p) (hq:Pn n q):Pn n (afterL p q):=by
 refine ⟨by rw [qg3];exact hp.1,qrk fun i hi=>?_⟩
 rw [qg3] at hi
 rw [qtf hi]
 have:=qbh hp.2 hi
 exact qbh hq.2 (by rw [hq.1];omega)
theorem Pn.id (n:Nat):Pn n (idL n):=by
 refine ⟨idL_len n,qrk fun i hi=>?_⟩
 rw [idL_len] at hi
 unfold idL
 rw [List.getD_eq_getElem?_getD,List.getElem?_map,List.getElem?_range hi]
 simp;omega
theorem invK_in (l:List Int) {n:Nat} (h:l.length=n) (hn:0 < n) (i:Nat) (hi:i≤n):inB (invK l i) n=true:=by
 induction i with
 | zero =>
   refine qrk fun j hj=>?_
   rw [qej] at hj
   have e:invK l 0=List.replicate l.length 0:=rfl
   rw [e,List.getD_eq_getElem?_getD,List.getElem?_replicate,if_pos hj]
   simp;omega
 | succ i ih =>
   rw [qh1]
   refine qrk fun j hj=>?_
   rw [List.length_set,qej] at hj
   rw [List.getD_eq_getElem?_getD,List.getElem?_set]
   split
   ·split
    ·simp;omega
    ·rename_i h1 h2;exact absurd (by rw [qej];omega) h2
   ·have:=qbh (ih (by omega)) (i:=j) (by rw [qej];exact hj)
    rw [List.getD_eq_getElem?_getD] at this
    exact this
theorem Pn.inv {n:Nat} {l:List Int} (h:l.length=n):Pn n (invL l):=by
 refine ⟨by unfold invL;rw [qej];exact h,?_⟩
 by_cases hn:0 < n
 ·exact invK_in l h hn _ (by omega)
 ·have:invL l=[]:=List.length_eq_zero_iff.1 (by unfold invL;rw [qej];omega)
  rw [this];rfl
def bp (out p:List Int) (k:Nat):List Int:=if h:k=0 then out else bp (if k % 2=1 then afterL out p else out) (afterL p p) (k / 2)
termination_by k
decreasing_by omega
theorem qms (out p:List Int):bp out p 0=out:=by rw [bp];rfl
theorem qrl {out p:List Int} {k:Nat} (h:k≠0) (h1:k % 2=1):bp out p k=bp (afterL out p) (afterL p p) (k / 2):=by rw [bp,dif_neg h,if_pos h1]
theorem qkm {out p:List Int} {k:Nat} (h:k≠0) (h1:k % 2≠1):bp out p k=bp out (afterL p p) (k / 2):=by rw [bp,dif_neg h,if_neg h1]
noncomputable def repA:Code:=atC [1,1,1,0,1,0,0] ((Tryz.f100.body).getD .skip)
theorem repA_loop {N:Nat} (hN:N≤1000) {call:VCall} {pol:Nat→Bool} {m k c u:Nat} {a:VF} {σ:VSt} (hk:N < k) {A B:VV}
  (h0:a 0=A) (h1:a 1=B) (h17:a 17=vI N) (h18:a 18=vI ((0:Nat):Int)) (h5:a 5 = .own 15 u) (hs:σ 15=some ⟨u,N,1,li (List.replicate N 0)⟩) :
  ∃ x a' σ' c',loopV (evVC Tryz.prog call pol m repA) k a σ c=some (x,a',σ',c')∧x = .exit 0∧a' 0=A∧a' 1=B∧a' 5 = .own 15 u∧σ' 15=some ⟨u,N,1,li (idL N)⟩:=by
 refine qc2 N (fun i a σ _=>a 0=A∧a 1=B∧a 17=vI N∧a 18=vI i∧a 5 = .own 15 u∧σ 15=some ⟨u,N,1,li (fillK (fun j=>(j:Int)) N i)⟩) _ ?_ ?_ hk ⟨h0,h1,h17,h18,h5,by rw [qlz];exact hs⟩
 ·intro i a σ c hi ⟨h0,h1,h17,h18,h5,hs⟩
  left
  have c1:(i:Int) < (N:Int):=by omega
  have hlen:=qn9 (fun j=>(j:Int)) (n:=N) (i:=i) (by omega)
  have e3:IntKind.i64.wrap ((i:Int)+1)=((i+1:Nat):Int):=by rw [wr64 (by omega) (by omega)];omega
  rw [show repA=atC [1,1,1,0,1,0,0] ((Tryz.f100.body).getD .skip) from rfl]
  simp (disch:=omega) only [Tryz.f100,Option.getD_some,atC,qaw,qao,qah,qax,qau,qay,qa7,qat,qal,qc1,qcd,qa3,qa0,qb9,qaa,qab,qac,qcu,qam,↓qaa,↓qab,↓qac,↓qam,qaq,qcm,qag,qap,qav,qai,qcn,qa1,qa2,qae,↓qae,qew eL,st_sc zI,qsx,qjv,↓reduceIte,Nat.reduceEqDiff,Nat.mul_one,Int.toNat_natCast,Int.natCast_nonneg,and_self,decide_true,Option.getD_some,h17,h18,h5,hs,c1,hlen,e3,hi]
  refine ⟨_,_,_,rfl,by simp only [qag,↓reduceIte,Nat.reduceEqDiff,h0],by simp only [qag,↓reduceIte,Nat.reduceEqDiff,h1],by simp only [qag,↓reduceIte,Nat.reduceEqDiff,h17],by simp only [qag,↓reduceIte],by simp only [qag,↓reduceIte,Nat.reduceEqDiff,h5],?_⟩
  simp only [qag,↓reduceIte]
  rw [← ql0 _ hi]
 ·intro a σ c ⟨h0,h1,h17,h18,h5,hs⟩
  have c1:¬ ((N:Int) < (N:Int)):=by omega
  rw [show repA=atC [1,1,1,0,1,0,0] ((Tryz.f100.body).getD .skip) from rfl]
  simp only [Tryz.f100,Option.getD_some,atC,qaw,qao,qah,qax,qau,qda,qa3,qa0,qaa,qab,qac,qb0,qan,↓qaa,↓qab,↓qac,↓qb0,↓qan,qag,qap,qai,↓reduceIte,decide_false,Option.getD_some,h17,h18,c1]
  exact ⟨_,_,_,_,rfl,by simp,rfl,by simp only [qag,↓reduceIte,Nat.reduceEqDiff,h0],by simp only [qag,↓reduceIte,Nat.reduceEqDiff,h1],by simp only [qag,↓reduceIte,Nat.reduceEqDiff,h5],by rw [hs,qoa];rfl⟩
noncomputable def repB:Code:=atC [1,1,1,1,0,0,0] ((Tryz.f100.body).getD .skip)
abbrev repT:List (Nat×VSpec):=[(98,invS),(132,thenS)]
abbrev repPol:Nat→Bool:=fun d=>d == 35
theorem repB_loop {N:Nat} (hN:N≤1000) {R:List Int} {m k c K:Nat} (hK:K≤9223372036854775807) {a:VF} {σ:VSt} (hk:K < k) {out p:List Int} (ho:Pn N out) (hp:Pn N p) (hR:bp out p K=R)
  (h0:a 0 = .fz N 1 (li p)) (h1:a 1=vI K) (h5:∃ id u,(id=15∨id=35)∧a 5 = .own id u∧σ id=some ⟨u,N,1,li out⟩) :
  ∃ x a' σ' c',loopV (evVC Tryz.prog (callOf repT) repPol m repB) k a σ c=some (x,a',σ',c')∧x = .exit 2∧∃ id u,a' 5 = .own id u∧σ' id=some ⟨u,N,1,li R⟩:=by
 refine qns (fun K a σ _=>K≤9223372036854775807∧∃ out p,Pn N out∧Pn N p∧bp out p K=R∧a 0 = .fz N 1 (li p)∧a 1=vI K∧∃ id u,(id=15∨id=35)∧a 5 = .own id u∧σ id=some ⟨u,N,1,li out⟩) _ ?_ k K a σ c hk ⟨hK,out,p,ho,hp,hR,h0,h1,h5⟩
 intro K a σ c ⟨hK,out,p,ho,hp,hR,h0,h1,id,u,hid,h5,hs⟩
 rw [show repB=atC [1,1,1,1,0,0,0] ((Tryz.f100.body).getD .skip) from rfl]
 by_cases hz:K=0
 ·right
  subst hz
  have c1:¬ ((0:Int) < ((0:Nat):Int)):=by omega
  simp only [Tryz.f100,Option.getD_some,atC,qaw,qao,qah,qax,qau,qda,qat,qa3,qdi,qaa,qab,qac,qb0,qan,↓qaa,↓qab,↓qac,↓qb0,↓qan,qag,qap,qav,qai,↓reduceIte,decide_false,Option.getD_some,h1,c1]
  rw [qms] at hR
  subst hR
  exact ⟨_,_,_,_,rfl,by simp,rfl,id,u,by simp only [qag,↓reduceIte,Nat.reduceEqDiff,h5],hs⟩
 ·left
  have c1:(0:Int) < (K:Int):=by omega
  have e2:((K:Nat):Int).tmod 2=((K % 2:Nat):Int):=by rw [Int.tmod_eq_emod_of_nonneg (by omega)];omega
  have e3:IntKind.i64.wrap (((K:Nat):Int).tdiv 2)=((K / 2:Nat):Int):=by rw [Int.tdiv_eq_ediv_of_nonneg (by omega),wr64 (by omega) (by omega)];omega
  have hpp:thenP p p=true:=by unfold thenP;rw [Bool.and_eq_true,decide_eq_true_eq,hp.1];exact ⟨hp.2,hN⟩
  have hop:thenP out p=true:=by unfold thenP;rw [Bool.and_eq_true,decide_eq_true_eq,ho.1,hp.1];exact ⟨ho.2,hN⟩
  have p35:repPol 35=true:=rfl
  have p38:repPol 38=false:=rfl
  by_cases hodd:K % 2=1
  ·have c2:(((K % 2:Nat):Int)=1):=by omega
   rcases hid with rfl | rfl
   all_goals
    simp (disch:=omega) only [Tryz.f100,Option.getD_some,atC,qaw,qao,qah,qax,qau,qay,qa7,qat,qal,qbi,qa3,qdi,qdf,qsv,qnr,qaa,qab,qac,qcu,qam,↓qaa,↓qab,↓qac,↓qam,qag,qap,qa5,qav,qai,qa1,qa2,qae,qaj,qad,↓qae,↓qaj,↓qad,qc5,qbz,qbf,pk_fz,qln,vcall,qas,↓reduceIte,Nat.reduceEqDiff,Nat.succ_ne_self,List.map_cons,List.map_nil,decide_true,beq_self_eq_true,qaf,qar,↓qaf,↓qar,Bool.and_true,bne_1,Option.getD_some,sp2,qak,↓qak,dec_L,qq5 qnv,h0,h1,h5,hs,c1,e2,e3,c2,hpp,hop,p38]
    refine ⟨_,_,_,rfl,K / 2,by omega,by omega,afterL out p,afterL p p,ho.after hp,hp.after hp,by rw [← qrl hz hodd];exact hR,?_,?_,35,c,.inr rfl,?_,?_⟩
    ·simp only [qag,↓reduceIte,Nat.reduceEqDiff];rw [(hp.after hp).1]
    ·simp only [qag,↓reduceIte]
    ·simp only [qag,↓reduceIte,Nat.reduceEqDiff]
    ·simp only [qag,↓reduceIte];rw [(ho.after hp).1]
  ·have c2:¬ (((K % 2:Nat):Int)=1):=by omega
   rcases hid with rfl | rfl
   all_goals
    simp (disch:=omega) only [Tryz.f100,Option.getD_some,atC,qaw,qao,qah,qax,qau,qay,qa7,qat,qal,qbi,qa3,qdi,qdf,qsv,qnr,qaa,qab,qac,qcu,qam,qan,↓qaa,↓qab,↓qac,↓qam,↓qan,qag,qap,qa5,qav,qai,qaj,qad,↓qaj,↓qad,qbz,qbf,pk_fz,vcall,qas,↓reduceIte,Nat.reduceEqDiff,Nat.succ_ne_self,List.map_cons,List.map_nil,decide_true,decide_false,qaf,qar,↓qaf,↓qar,Bool.and_true,bne_1,Option.getD_some,sp2,qak,↓qak,dec_L,qq5 qnv,h0,h1,c1,e2,e3,c2,hpp,p38]
   ·exact ⟨_,_,_,rfl,K / 2,by omega,by omega,out,afterL p p,ho,hp.after hp,by rw [← qkm hz hodd];exact hR,by simp only [qag,↓reduceIte,Nat.reduceEqDiff];rw [(hp.after hp).1],by simp only [qag,↓reduceIte],15,u,.inl rfl,by simp only [qag,↓reduceIte,Nat.reduceEqDiff,h5],hs⟩
   ·exact ⟨_,_,_,rfl,K / 2,by omega,by omega,out,afterL p p,ho,hp.after hp,by rw [← qkm hz hodd];exact hR,by simp only [qag,↓reduceIte,Nat.reduceEqDiff];rw [(hp.after hp).1],by simp only [qag,↓reduceIte],35,u,.inr rfl,by simp only [qag,↓reduceIte,Nat.reduceEqDiff,h5],hs⟩
def repL (p:List Int) (z:Int):List Int:=bp (idL p.length) (if z < 0 then invL p else p) z.natAbs
theorem bp_Pn {n:Nat}:∀ (k:Nat) {out p:List Int},Pn n out→Pn n p→Pn n (bp out p k):=by
 intro k
 induction k using Nat.strongRecOn with
 | ind k ih =>
   intro out p ho hp
   by_cases h:k=0
   ·subst h;rw [qms];exact ho
   ·by_cases h1:k % 2=1
    ·rw [qrl h h1];exact ih _ (by omega) (ho.after hp) (hp.after hp)
    ·rw [qkm h h1];exact ih _ (by omega) ho (hp.after hp)
theorem repL_Pn {p:List Int} {n:Nat} (hp:Pn n p) (z:Int):Pn n (repL p z):=by
 unfold repL
 rw [hp.1]
 split
 ·exact bp_Pn _ (.id n) (.inv hp.1)
 ·exact bp_Pn _ (.id n) hp
abbrev repP (p:List Int) (z:Int):Bool:=inB p p.length && decide (p.length≤1000) && decide (z.natAbs≤1000000000000)
abbrev repS:VSpec:=spec2 cL cI repP (fun p z=>vL (repL p z)) true
theorem rep_ok:OK 1000000000003 100 repS:=by
 refine OK.of2 (F:=1000000000002) (tb:=repT) (pol:=repPol) ?_ (x:=(Tryz.f100.body).getD .skip) (Nat.le_of_ble_eq_true rfl) Tryz.func100 rfl (ok_fn (by rfl) Tryz.func100 rfl) (by kernel_rfl) (by intros;rfl) fun n hn p z hc=>?_
 ·intro y hy
  simp only [repT,List.mem_cons,List.not_mem_nil,or_false] at hy
  rcases hy with rfl | rfl
  ·exact inv_ok.mono (by omega)
  ·exact then_ok.mono (by omega)
 simp only [repP,Bool.and_eq_true,decide_eq_true_eq] at hc
 obtain ⟨⟨hb,hl⟩,hz⟩:=hc
 obtain ⟨N,hN⟩:∃ N,N=p.length:=⟨_,rfl⟩
 have hPn:Pn N p:=⟨hN.symm,by rw [hN];exact hb⟩
 have hip:invP p=true:=by unfold invP;rw [Bool.and_eq_true,decide_eq_true_eq];exact ⟨hb,hl⟩
 have keyA:=fun (a:VF) (σ:VSt) (c u:Nat) (A B:VV)=>repA_loop (N:=N) (by omega) (call:=callOf repT) (pol:=repPol) (m:=n) (k:=n) (a:=a) (σ:=σ) (c:=c) (u:=u) (A:=A) (B:=B) (by omega)
 have keyB:=fun (a:VF) (σ:VSt) (c K:Nat) (hK:K≤1000000000000) (q:List Int) (hq:Pn N q)=>repB_loop (N:=N) (by omega) (R:=bp (idL N) q K) (m:=n) (k:=n) (a:=a) (σ:=σ) (c:=c) (K:=K) (by omega) (by omega) (.id N) hq rfl
 rw [show repA=atC [1,1,1,0,1,0,0] ((Tryz.f100.body).getD .skip) from rfl] at keyA
 rw [show repB=atC [1,1,1,1,0,0,0] ((Tryz.f100.body).getD .skip) from rfl] at keyB
 simp only [Tryz.f100,Option.getD_some,atC] at keyA keyB
 have c1:(0:Int)≤(N:Int):=by omega
 have c2:(N:Int)≤1048576:=by omega
 have p10:repPol 10=false:=rfl
 have fin:∀ (q:List Int) (K:Nat),Pn N q→K≤1000000000000→repL p z=bp (idL N) q K→(repL p z).length=N:=fun q K hq _ e=>by rw [e];exact (bp_Pn K (.id N) hq).1
 by_cases hneg:z < 0
 ·have e1:IntKind.i64.wrap (0 - z)=((z.natAbs:Nat):Int):=by rw [wr64 (by omega) (by omega)];omega
  have hR:repL p z=bp (idL N) (invL p) z.natAbs:=by unfold repL;rw [if_pos hneg,hN]
  have hil:(invL p).length=N:=by rw [hN];exact qej p p.length
  simp (disch:=omega) only [Tryz.f100,qaw,qao,qah,qax,qau,qay,qdj,qbv,qat,qal,qhy,qbi,qcg uL,qa3,qa0,vs_neg,negV_i,qaa,qab,qac,qam,↓qaa,↓qab,↓qac,↓qam,qaq,qag,qap,qa5,qav,qfn,qai,qa1,qa2,qae,qaj,qad,↓qae,↓qaj,↓qad,ln_fz,qlm,qc5,mk_I,qbz,qbf,pk_fz,vcall,qd6,qas,frV_0,frV_1,qhf,List.flatMap_cons,List.flatMap_nil,List.append_nil,Option.map_some,↓reduceIte,Nat.reduceEqDiff,Nat.succ_ne_self,Nat.zero_add,Int.toNat_natCast,and_self,List.map_cons,List.map_nil,decide_true,qaf,qar,↓qaf,↓qar,Bool.and_true,Bool.and_false,bne_1,Option.getD_some,sp1,enc_L,enc_I,qak,↓qak,dec_L,hneg,hip,p10,e1,hil,c1,c2,Int.le_refl]
  generalize hA:updV _ 18 _=B
  generalize hS:updV _ 15 _=τ
  obtain ⟨x,a',σ',c',e,rfl,w0,w1,w5,w8⟩:=keyA B τ _ _ _ _ (by subst hA;rfl) (by subst hA;rfl) (by subst hA;rfl) (by subst hA;rfl) (by subst hA;rfl) (by subst hS;rfl)
  rw [e]
  simp (disch:=omega) only [qac,qdp,↓qac,↓reduceIte]
  obtain ⟨x,a2,σ2,c3,e,rfl,id,u,w6,w7⟩:=keyB a' σ' c' z.natAbs hz (invL p) (.inv hN.symm) w0 w1 ⟨15,_,.inl rfl,w5,w8⟩
  rw [e]
  simp (disch:=omega) only [qac,qdp,↓qac,qag,qa1,qa2,qae,qad,↓qae,↓qad,qbw,qb8,qe0,fv_r,pv_1,fsh_1,qem,↓reduceIte,Nat.succ_ne_self,w6,w7]
  rw [show vL (repL p z)=VV.fz (repL p z).length 1 (li (repL p z)) from rfl,fin _ _ (.inv hN.symm) hz hR,hR]
 ·have hR:repL p z=bp (idL N) p z.natAbs:=by unfold repL;rw [if_neg hneg,hN]
  have e1:z=((z.natAbs:Nat):Int):=by omega
  simp (disch:=omega) only [Tryz.f100,qaw,qao,qah,qax,qau,qay,qdj,qa7,qbv,qat,qal,qhy,qcg uL,qa3,qa0,qaa,qab,qac,qan,↓qaa,↓qab,↓qac,↓qan,qaq,qag,qap,qav,qfn,qai,qa1,qa2,qae,↓qae,ln_fz,qlm,qc5,mk_I,frV_0,frV_1,Option.map_some,↓reduceIte,Nat.reduceEqDiff,Nat.succ_ne_self,Nat.zero_add,Int.toNat_natCast,and_self,decide_false,Option.getD_some,enc_L,enc_I,hneg,← hN,c1,c2,Int.le_refl]
  generalize hA:updV _ 18 _=B
  generalize hS:updV _ 15 _=τ
  obtain ⟨x,a',σ',c',e,rfl,w0,w1,w5,w8⟩:=keyA B τ _ _ (.fz N 1 (li p)) (vI z) (by subst hA;simp only [qag,↓reduceIte,Nat.reduceEqDiff,frV_0,hN]) (by subst hA;rfl) (by subst hA;rfl) (by subst hA;rfl) (by subst hA;rfl) (by subst hS;rfl)
  rw [e]
  simp (disch:=omega) only [qac,qdp,↓qac,↓reduceIte]
  rw [e1] at w1
  obtain ⟨x,a2,σ2,c3,e,rfl,id,u,w6,w7⟩:=keyB a' σ' c' z.natAbs hz p hPn w0 w1 ⟨15,_,.inl rfl,w5,w8⟩
  rw [e]
  simp (disch:=omega) only [qac,qdp,↓qac,qag,qa1,qa2,qae,qad,↓qae,↓qad,qbw,qb8,qe0,fv_r,pv_1,fsh_1,qem,↓reduceIte,Nat.succ_ne_self,w6,w7]
  rw [show vL (repL p z)=VV.fz (repL p z).length 1 (li (repL p z)) from rfl,fin _ _ hPn hz hR,hR]
end Go.Proofs.YtmdnofcphdjieaaGreatDoor
namespace Go.Proofs.YtmdnofcphdjieaaGreatDoor
open Go Go.Abs
noncomputable def sfs (t:TypeId):Array Field:=match Tryz.prog.underlying t with
 | some (.struct fs)=>fs
 | _=>#[]
theorem aL:isAggT Tryz.prog 43=some false:=by kernel_rfl
theorem zL:sizeT Tryz.prog 43=some 1:=by kernel_rfl
theorem aO:isAggT Tryz.prog 45=some true:=by kernel_rfl
theorem zO:sizeT Tryz.prog 45=some 2:=by kernel_rfl
theorem fO0:fieldOff Tryz.prog 45 0=some 0:=by kernel_rfl
theorem fO1:fieldOff Tryz.prog 45 1=some 1:=by kernel_rfl
theorem uO:Tryz.prog.underlying 45=some (.struct (sfs 45)):=by kernel_rfl
theorem oO:sizesOf Tryz.prog (sfs 45).toList=some [(0,1),(1,1)]:=by kernel_rfl
theorem iO:zeroV Tryz.prog 45=some [.nl,.nl]:=by kernel_rfl
theorem bO {σ:VSt} {A B:VV}:buildV Tryz.prog σ 45 [(0,A),(1,B)]=opt1 (scalV σ A) fun x=>opt1 (scalV σ B) fun y=>some (.st [x,y]):=build_2 iO uO oO
end Go.Proofs.YtmdnofcphdjieaaGreatDoor
namespace Go.Proofs.YtmdnofcphdjieaaGreatDoor
open Go Go.Abs
set_option maxRecDepth 10000
attribute [local congr] qba qbb qbc qbd qbn qbe qbo qbp qbq qbr qbt qbu qcc qby qbs qbl qb7
def Po (o:List Int×List Int):Bool:=inB o.1 o.1.length && inB o.2 o.1.length && decide (o.2.length=o.1.length) && decide (o.1.length≤1000)
theorem qfc {o:List Int×List Int}:Po o=true↔Pn o.1.length o.1∧Pn o.1.length o.2∧o.1.length≤1000:=by
 unfold Po Pn
 simp only [Bool.and_eq_true,decide_eq_true_eq,true_and]
 constructor
 ·rintro ⟨⟨⟨h1,h2⟩,h3⟩,h4⟩;exact ⟨h1,⟨h3,h2⟩,h4⟩
 ·rintro ⟨h1,⟨h2,h3⟩,h4⟩;exact ⟨⟨⟨h1,h3⟩,h2⟩,h4⟩
def turnO (o:List Int×List Int):List Int×List Int:=(invL o.2,o.1)
abbrev encO (o:List Int×List Int):VV:=vO o.1 o.2
abbrev turnS:VSpec:=spec1 cO Po (fun o=>encO (turnO o)) false
theorem inv_in {F:Nat} (h:1002≤F):∀ y∈[((98:Nat),invS)],OK F y.1 y.2:=by
 intro y hy
 simp only [List.mem_singleton] at hy
 subst hy
 exact inv_ok.mono h
abbrev polD (i:Nat):Nat→Bool:=fun d=>d == 1000000+i
theorem turn_ok:OK 1003 97 turnS:=by
 refine OK.of1 (F:=1002) (tb:=[(98,invS)]) (pol:=polD 1) (inv_in (by omega)) (x:=(Tryz.f97.body).getD .skip) (Nat.le_of_ble_eq_true rfl) Tryz.func97 rfl (ok_fn (by rfl) Tryz.func97 rfl) (by kernel_rfl) (by intros;rfl) fun n hn o hc=>?_
 obtain ⟨r,u⟩:=o
 obtain ⟨h1,h2,h3⟩:=qfc.1 hc
 have hi:invP u=true:=by unfold invP;rw [Bool.and_eq_true,decide_eq_true_eq,show rangeB u=inB u u.length from rfl,h2.1];exact ⟨h2.2,h3⟩
 have p1:polD 1 (1000000+1)=true:=rfl
 have p5:polD 1 5=false:=rfl
 have di:drawI (regOps (atC [1,0] ((Tryz.f97.body).getD .skip))) (Region.before (regOps (atC [1,0] ((Tryz.f97.body).getD .skip))))=true:=by kernel_rfl
 simp only [Tryz.f97,Option.getD_some,atC,regOps] at di
 simp (disch:=omega) only [Tryz.f97,Option.getD_some,qaw,qao,qah,qc4,qax,qbv,qcv,qex,qa4,qc1,qcl,qbi,qaa,qab,qac,↓qaa,↓qab,↓qac,qaq,qcm,qbg,qag,qap,qa5,qai,qcn,qa1,qa2,qae,qaj,qad,↓qae,↓qaj,↓qad,qdn,qa6,qbz,qbf,qb6,qbm,pk_fz,pk_st,qcp,vcall,qfo,qpj,qd6,qas,qbw,qev,fv_r,pv_1,fsh_c,frV_0,qhf,List.flatMap_cons,List.flatMap_nil,List.append_nil,↓reduceIte,Nat.reduceEqDiff,Nat.zero_add,Nat.add_zero,List.map_cons,List.map_nil,List.getElem?_cons_zero,List.getElem?_cons_succ,beq_self_eq_true,qaf,qar,↓qaf,↓qar,Bool.and_true,Bool.and_false,bne_1,Option.getD_some,sp1,enc_O,qak,↓qak,dec_L,st_W zO,qed,sv_st,sv_fz,qde,qc6,sl_fz,qa8,ldN_2,qdu,↓qdu,qdy iO,qco aL,qcf fO0,qcf fO1,qb5 aO zO,bO,List.set_cons_zero,List.set_cons_succ,List.length_cons,List.length_nil,Nat.reduceAdd,Nat.le_refl,List.drop_zero,qe7,qef,rdC_t,qir,qfe,qhb,qf7,qc8,qeb,qis,qec,qf8,qes,qff,Option.isSome_some,Bool.or_true,hi,p5,di]
 rfl
def shearO (o:List Int×List Int) (z:Int):List Int×List Int:=(o.1,afterL o.2 (repL o.1 (-z)))
abbrev shearP (o:List Int×List Int) (z:Int):Bool:=Po o && decide (z.natAbs≤1000000000000)
abbrev shearS:VSpec:=spec2 cO cI shearP (fun o z=>encO (shearO o z)) false
abbrev shT:List (Nat×VSpec):=[(100,repS),(132,thenS)]
theorem shear_ok:OK 1000000000004 99 shearS:=by
 refine OK.of2 (F:=1000000000003) (tb:=shT) (pol:=polD 1) ?_ (x:=(Tryz.f99.body).getD .skip) (Nat.le_of_ble_eq_true rfl) Tryz.func99 rfl (ok_fn (by rfl) Tryz.func99 rfl) (by kernel_rfl) (by intros;rfl) fun n hn o z hc=>?_
 ·intro y hy
  simp only [shT,List.mem_cons,List.not_mem_nil,or_false] at hy
  rcases hy with rfl | rfl
  ·exact rep_ok.mono (by omega)
  ·exact then_ok.mono (by omega)
 obtain ⟨r,u⟩:=o
 simp only [shearP,Bool.and_eq_true,decide_eq_true_eq] at hc
 obtain ⟨hc,hz⟩:=hc
 obtain ⟨h1,h2,h3⟩:=qfc.1 hc
 have e1:IntKind.i64.wrap (0 - z)=-z:=by rw [wr64 (by omega) (by omega)];omega
 have hr:repP r (-z)=true:=by
  simp only [repP,Bool.and_eq_true,decide_eq_true_eq]
  exact ⟨⟨h1.2,h3⟩,by omega⟩
 have hR:=repL_Pn h1 (-z)
 have ht:thenP u (repL r (-z))=true:=by
  unfold thenP
  rw [Bool.and_eq_true,decide_eq_true_eq,hR.1,h2.1]
  exact ⟨h2.2,h3⟩
 have p1:polD 1 (1000000+1)=true:=rfl
 have p13:polD 1 13=false:=rfl
 have p14:polD 1 14=false:=rfl
 have di:drawI (regOps (atC [1,0] ((Tryz.f99.body).getD .skip))) (Region.before (regOps (atC [1,0] ((Tryz.f99.body).getD .skip))))=true:=by kernel_rfl
 simp only [Tryz.f99,Option.getD_some,atC,regOps] at di
 simp (disch:=omega) only [Tryz.f99,Option.getD_some,qaw,qao,qah,qc4,qax,qbv,qat,qcv,qex,qa4,qc1,qcl,qbi,vs_neg,negV_i,qaa,qab,qac,↓qaa,↓qab,↓qac,qaq,qcm,qbg,qag,qap,qa5,qai,qcn,qa1,qa2,qae,qaj,qad,↓qae,↓qaj,↓qad,qdn,qa6,qbz,qbf,qb6,qbm,pk_sc,pk_fz,pk_st,qcp,vcall,qfo,qpj,qd6,qas,qbw,qev,fv_r,pv_1,fsh_c,frV_0,frV_1,qfz,qhf,List.flatMap_cons,List.flatMap_nil,List.append_nil,↓reduceIte,Nat.reduceEqDiff,Nat.zero_add,Nat.add_zero,List.map_cons,List.map_nil,List.getElem?_cons_zero,List.getElem?_cons_succ,beq_self_eq_true,qaf,qar,↓qaf,↓qar,Bool.and_true,Bool.and_false,bne_1,Option.getD_some,sp2,enc_I,enc_O,qak,↓qak,dec_L,dec_I,st_W zO,qed,sv_st,sv_fz,qde,qc6,sl_fz,qa8,ldN_2,qdu,↓qdu,qdy iO,qco aL,qcf fO0,qcf fO1,qb5 aO zO,bO,List.set_cons_zero,List.set_cons_succ,List.length_cons,List.length_nil,Nat.reduceAdd,Nat.le_refl,List.drop_zero,qe7,qef,rdC_t,qhu,ro_un,qir,qfe,qhb,qf7,qc8,qeb,qhw,co_un,qis,qec,qf8,qes,qff,Option.isSome_some,Bool.or_true,hr,ht,p13,p14,di,e1]
 rfl
end Go.Proofs.YtmdnofcphdjieaaGreatDoor
namespace Go.Proofs.YtmdnofcphdjieaaGreatDoor
open Go Go.Abs
set_option maxRecDepth 10000
attribute [local congr] qba qbb qbc qbd qbn qbe qbo qbp qbq qbr qbt qbu qcc qby qbs qbl qb7
abbrev cmpZ (x y:Int):Int:=if x < y then -1 else if y < x then 1 else 0
def cmpL:List Int→List Int→Int
 | [],[]=>0
 | [],_::_=>-1
 | _::_,[]=>1
 | x::l,y::m=>if cmpZ x y≠0 then cmpZ x y else cmpL l m
end Go.Proofs.YtmdnofcphdjieaaGreatDoor
namespace Go.Proofs.YtmdnofcphdjieaaGreatDoor
open Go Go.Abs
set_option maxRecDepth 10000
attribute [local congr] qba qbb qbc qbd qbn qbe qbo qbp qbq qbr qbt qbu qcc qby qbs qbl qb7
noncomputable def orC:Code:=atC [1,1,0,1,0,0] ((Tryz.f155.body).getD .skip)
def cmpO (a b:List Int×List Int):Int:=if cmpL a.1 b.1≠0 then cmpL a.1 b.1 else cmpL a.2 b.2
end Go.Proofs.YtmdnofcphdjieaaGreatDoor
namespace Go.Proofs.YtmdnofcphdjieaaGreatDoor
open Go Go.Abs
set_option maxRecDepth 10000
attribute [local congr] qba qbb qbc qbd qbn qbe qbo qbp qbq qbr qbt qbu qcc qby qbs qbl qb7 qb1
theorem qh2 {l:List Int} {i:Nat} (h:i < l.length):l.drop i=l.getD i 0::l.drop (i+1):=by
 rw [List.drop_eq_getElem_cons h]
 simp [h]
noncomputable def intsC:Code:=atC [1,1,0,1,0,0] ((Tryz.f40.body).getD .skip)
theorem ints_loop {l m:List Int} (he:l.length=m.length) (hb:l.length≤1000000) {call:VCall} {mm k c:Nat} {a:VF} {σ:VSt} (hk:l.length < k)
  (h0:a 0=vL l) (h1:a 1=vL m) (h5:a 5=vI ((0:Nat):Int)) :
  ∃ x a' σ' c',loopV (evVC Tryz.prog call (fun _=>false) mm intsC) k a σ c=some (x,a',σ',c')∧((x = .exit 0∧l=m)∨(x = .ret∧a' 4=vB false∧l≠m)):=by
 refine qc2 l.length (fun i a σ _=>a 0=vL l∧a 1=vL m∧a 5=vI i∧(l=m↔l.drop i=m.drop i)) _ ?_ ?_ hk ⟨h0,h1,h5,Iff.rfl⟩
 ·intro i a σ c hi ⟨h0,h1,h5,hd⟩
  have c1:(i:Int) < (l.length:Int):=by omega
  have c2:(i:Int) < (m.length:Int):=by omega
  have hi2:i < m.length:=by omega
  have e3:IntKind.i64.wrap ((i:Int)+1)=((i+1:Nat):Int):=by rw [wr64 (by omega) (by omega)];omega
  rw [qh2 hi,qh2 hi2] at hd
  rw [show intsC=atC [1,1,0,1,0,0] ((Tryz.f40.body).getD .skip) from rfl]
  by_cases h:l.getD i 0=m.getD i 0
  ·left
   have hT:(l.getD i 0=m.getD i 0)=True:=eq_true h
   simp (disch:=omega) only [Tryz.f40,Option.getD_some,atC,qaw,qao,qah,qc4,qax,qau,qay,qa7,qat,qal,qa4,qcd,qcg uL,qa3,qa0,qch,qb9,qaa,qab,qac,qcu,qam,qan,↓qaa,↓qab,↓qac,↓qam,↓qan,qaq,qag,qap,qav,qai,ad_fz eL,ld_rp aI,qc3,ln_fz,qdm,List.getElem?_drop,Option.map_some,↓reduceIte,Nat.reduceEqDiff,Nat.add_zero,Nat.mul_one,Int.toNat_natCast,Int.natCast_nonneg,and_self,decide_true,Bool.not_true,qar,↓qar,Option.getD_some,h0,h1,h5,c1,c2,hT,e3]
   refine ⟨_,_,_,rfl,?_⟩
   exact ⟨h0,h1,rfl,hd.trans ⟨fun e=>(List.cons.inj e).2,fun e=>by rw [h,e]⟩⟩
  ·right
   have hF:(l.getD i 0=m.getD i 0)=False:=eq_false h
   simp (disch:=omega) only [Tryz.f40,Option.getD_some,atC,qaw,qao,qah,qc4,qax,qau,qay,qa7,qbv,qat,qal,qa4,qcd,qcg uL,qa3,qa0,qch,qaa,qab,qac,qaz,qdx,qam,↓qaa,↓qab,↓qac,↓qaz,↓qam,qaq,qag,qap,qcs,qai,ad_fz eL,ld_rp aI,qc3,ln_fz,qdm,List.getElem?_drop,Option.map_some,↓reduceIte,Nat.reduceEqDiff,Nat.add_zero,Nat.mul_one,Int.toNat_natCast,Int.natCast_nonneg,and_self,decide_true,decide_false,Bool.not_false,qar,↓qar,Option.getD_some,h0,h1,h5,c1,c2,hF]
   refine ⟨_,_,_,_,rfl,?_⟩
   exact ⟨by simp,.inr ⟨rfl,rfl,fun e=>h (List.cons.inj (hd.1 e)).1⟩⟩
 ·intro a σ c ⟨h0,h1,h5,hd⟩
  have c1:¬ ((l.length:Int) < (l.length:Int)):=by omega
  rw [show intsC=atC [1,1,0,1,0,0] ((Tryz.f40.body).getD .skip) from rfl]
  simp only [Tryz.f40,Option.getD_some,atC,qaw,qao,qah,qax,qau,qda,qat,qcg uL,qa3,qa0,qaa,qab,qac,qb0,qan,↓qaa,↓qab,↓qac,↓qb0,↓qan,qaq,qag,qap,qai,ln_fz,Option.map_some,↓reduceIte,Nat.reduceEqDiff,decide_false,Option.getD_some,h0,h5,c1]
  refine ⟨_,_,_,_,rfl,?_⟩
  refine ⟨by simp,.inl ⟨rfl,hd.2 ?_⟩⟩
  rw [List.drop_length,he,List.drop_length]
abbrev intsP (l m:List Int):Bool:=decide (l.length≤1000000) && decide (m.length≤1000000)
abbrev intsS:VSpec:=spec2 cL cL intsP (fun l m=>vB (decide (l=m))) false
theorem ints_okV:OK 1000002 40 intsS:=by
 refine OK.of2 (F:=1000001) (tb:=[]) (pol:=fun _=>false) (by simp) (x:=(Tryz.f40.body).getD .skip) (Nat.le_of_ble_eq_true rfl) Tryz.func40 rfl (ok_fn (by rfl) Tryz.func40 rfl) (by kernel_rfl) (by intros;rfl) fun n hn l m hc=>?_
 simp only [intsP,Bool.and_eq_true,decide_eq_true_eq] at hc
 by_cases he:l.length=m.length
 ·have key:=fun (a:VF) (σ:VSt) (c:Nat)=>ints_loop he hc.1 (call:=callOf []) (mm:=n) (k:=n) (a:=a) (σ:=σ) (c:=c) (by omega)
  rw [show intsC=atC [1,1,0,1,0,0] ((Tryz.f40.body).getD .skip) from rfl] at key
  simp only [Tryz.f40,Option.getD_some,atC] at key
  have hT:((l.length:Int)=(m.length:Int))=True:=eq_true (by omega)
  simp (disch:=omega) only [Tryz.f40,qaw,qao,qah,qax,qau,qay,qdj,qa7,qbv,qat,qal,qcg uL,qa3,qch,qaa,qab,qac,qan,↓qaa,↓qab,↓qac,↓qan,qaq,qag,qap,qav,qcs,qai,ln_fz,frV_0,frV_1,Option.map_some,↓reduceIte,Nat.reduceEqDiff,decide_true,Bool.not_true,Option.getD_some,enc_L,hT]
  generalize hA:updV _ 5 _=B
  obtain ⟨x,a',σ',c',e,⟨rfl,h⟩ | ⟨rfl,h4,h⟩⟩:=key B _ _ (by subst hA;rfl) (by subst hA;rfl) (by subst hA;rfl)
  ·rw [e,decide_eq_true h]
   simp (disch:=omega) only [qac,qdp,↓qac,qag,qad,↓qad,qbw,qb8,qbx,fv_r,pv_1,fsh_1,qbk,↓reduceIte]
  ·rw [e,decide_eq_false h]
   simp (disch:=omega) only [qaz,qdx,↓qaz,qad,↓qad,qbw,qb8,qbx,fv_r,pv_1,fsh_1,qbk,h4]
 ·have hF:((l.length:Int)=(m.length:Int))=False:=eq_false (by omega)
  rw [decide_eq_false (fun h=>he (by rw [h]))]
  simp (disch:=omega) only [Tryz.f40,qaw,qao,qah,qax,qau,qbv,qat,qal,qcg uL,qa3,qch,qaa,qab,qac,qaz,qam,↓qaa,↓qab,↓qac,↓qaz,↓qam,qaq,qag,qap,qcs,qai,qad,↓qad,ln_fz,qbw,qb8,qbx,fv_r,pv_1,fsh_1,qbk,frV_0,frV_1,Option.map_some,↓reduceIte,Nat.reduceEqDiff,decide_false,Bool.not_false,Option.getD_some,enc_L,hF]
abbrev cpyS:VSpec:=spec1 cL (fun l=>decide (0 < l.length) && decide (l.length≤1000)) (fun l=>vL l) true
theorem cpy_ok:OK 1000 102 cpyS:=by
 refine OK.of1 (F:=999) (tb:=[]) (pol:=fun d=>d == 3) (by simp) (x:=(Tryz.f102.body).getD .skip) (Nat.le_of_ble_eq_true rfl) Tryz.func102 rfl (ok_fn (by rfl) Tryz.func102 rfl) (by kernel_rfl) (by intros;rfl) fun n hn l hc=>?_
 simp only [Bool.and_eq_true,decide_eq_true_eq] at hc
 obtain ⟨x,r,rfl⟩:∃ x r,l=x::r:=by cases l with | nil=>exact absurd hc.1 (by simp) | cons x r=>exact ⟨x,r,rfl⟩
 have hm:r.length+1≤maxA:=by have:=hc.2;rw [List.length_cons] at this;unfold maxA;omega
 have p3:((3:Nat) == 3)=true:=rfl
 have hv:vL (x::r) = .fz (r.length+1) 1 (li (x::r)):=rfl
 simp (disch:=omega) only [Tryz.f102,Option.getD_some,qaw,qao,qah,qax,qbv,qat,qal,qgy,qaa,qab,qac,↓qaa,↓qab,↓qac,qag,qap,qfn,qai,qa1,qa2,qae,qad,↓qae,↓qad,qjw eL pVI,qc5,bs_I0,qc0,qbw,qb8,qe0,fv_r,pv_1,fsh_1,qem,frV_0,List.nil_append,↓reduceIte,Nat.reduceEqDiff,Nat.succ_ne_self,Nat.zero_add,Nat.mul_one,and_self,List.map_nil,beq_self_eq_true,qaf,↓qaf,Option.getD_some,enc_L,hv,hm,List.take_nil,List.nil_append]
def atG (l:List Int) (z:Int):Nat→Nat→Int
 | 0,_=>-1
 | n+1,i=>if l.getD i 0=z then (i:Int) else atG l z n (i+1)
def atL (l:List Int) (z:Int):Int:=atG l z l.length 0
noncomputable def ratC:Code:=atC [1,0,1,0,0] ((Tryz.f133.body).getD .skip)
theorem rat_loop {l:List Int} {z:Int} (hb:l.length≤1000000) {call:VCall} {pol:Nat→Bool} {mm k c:Nat} {a:VF} {σ:VSt} (hk:l.length < k)
  (h0:a 0=vL l) (h1:a 1=vI z) (h5:a 5=vI ((0:Nat):Int)) :
  ∃ x a' σ' c',loopV (evVC Tryz.prog call pol mm ratC) k a σ c=some (x,a',σ',c')∧((x = .exit 0∧atL l z=-1)∨(x = .ret∧a' 4=vI (atL l z))):=by
 refine qc2 l.length (fun i a σ _=>a 0=vL l∧a 1=vI z∧a 5=vI i∧atL l z=atG l z (l.length - i) i) _ ?_ ?_ hk ⟨h0,h1,h5,rfl⟩
 ·intro i a σ c hi ⟨h0,h1,h5,hd⟩
  have c1:(i:Int) < (l.length:Int):=by omega
  have e3:IntKind.i64.wrap ((i:Int)+1)=((i+1:Nat):Int):=by rw [wr64 (by omega) (by omega)];omega
  rw [show l.length - i=(l.length - (i+1))+1 from by omega,atG] at hd
  rw [show ratC=atC [1,0,1,0,0] ((Tryz.f133.body).getD .skip) from rfl]
  by_cases h:l.getD i 0=z
  ·right
   have hT:(l.getD i 0=z)=True:=eq_true h
   rw [if_pos h] at hd
   simp (disch:=omega) only [Tryz.f133,Option.getD_some,atC,qaw,qao,qah,qax,qau,qay,qa7,qbv,qat,qal,qa4,qcd,qcg uL,qa3,qa0,qdf,qaa,qab,qac,qaz,qdx,qam,↓qaa,↓qab,↓qac,↓qaz,↓qam,qaq,qag,qap,qai,ad_fz eL,ld_rp aI,qc3,ln_fz,qdm,List.getElem?_drop,Option.map_some,↓reduceIte,Nat.reduceEqDiff,Nat.add_zero,Nat.mul_one,Int.toNat_natCast,Int.natCast_nonneg,and_self,decide_true,Option.getD_some,h0,h1,h5,c1,hT]
   refine ⟨_,_,_,_,rfl,?_⟩
   exact ⟨by simp,.inr ⟨rfl,by rw [hd];rfl⟩⟩
  ·left
   have hF:(l.getD i 0=z)=False:=eq_false h
   rw [if_neg h] at hd
   simp (disch:=omega) only [Tryz.f133,Option.getD_some,atC,qaw,qao,qah,qax,qau,qay,qa7,qat,qal,qa4,qcd,qcg uL,qa3,qa0,qdf,qb9,qaa,qab,qac,qcu,qam,qan,↓qaa,↓qab,↓qac,↓qam,↓qan,qaq,qag,qap,qav,qai,ad_fz eL,ld_rp aI,qc3,ln_fz,qdm,List.getElem?_drop,Option.map_some,↓reduceIte,Nat.reduceEqDiff,Nat.add_zero,Nat.mul_one,Int.toNat_natCast,Int.natCast_nonneg,and_self,decide_true,decide_false,Option.getD_some,h0,h1,h5,c1,hF,e3]
   refine ⟨_,_,_,rfl,?_⟩
   exact ⟨h0,h1,rfl,hd⟩
 ·intro a σ c ⟨h0,h1,h5,hd⟩
  have c1:¬ ((l.length:Int) < (l.length:Int)):=by omega
  rw [Nat.sub_self,atG] at hd
  rw [show ratC=atC [1,0,1,0,0] ((Tryz.f133.body).getD .skip) from rfl]
  simp only [Tryz.f133,Option.getD_some,atC,qaw,qao,qah,qax,qau,qda,qat,qcg uL,qa3,qa0,qaa,qab,qac,qb0,qan,↓qaa,↓qab,↓qac,↓qb0,↓qan,qaq,qag,qap,qai,ln_fz,Option.map_some,↓reduceIte,Nat.reduceEqDiff,decide_false,Option.getD_some,h0,h5,c1]
  refine ⟨_,_,_,_,rfl,?_⟩
  exact ⟨by simp,.inl ⟨rfl,hd⟩⟩
abbrev ratS:VSpec:=spec2 cL cI (fun l _=>decide (l.length≤1000000)) (fun l z=>vI (atL l z)) false
theorem rat_ok:OK 1000002 133 ratS:=by
 refine OK.of2 (F:=1000001) (tb:=[]) (pol:=fun _=>false) (by simp) (x:=(Tryz.f133.body).getD .skip) (Nat.le_of_ble_eq_true rfl) Tryz.func133 rfl (ok_fn (by rfl) Tryz.func133 rfl) (by kernel_rfl) (by intros;rfl) fun n hn l z hc=>?_
 simp only [decide_eq_true_eq] at hc
 have key:=fun (a:VF) (σ:VSt) (c:Nat)=>rat_loop (z:=z) hc (call:=callOf []) (pol:=fun _=>false) (mm:=n) (k:=n) (a:=a) (σ:=σ) (c:=c) (by omega)
 rw [show ratC=atC [1,0,1,0,0] ((Tryz.f133.body).getD .skip) from rfl] at key
 simp only [Tryz.f133,Option.getD_some,atC] at key
 simp (disch:=omega) only [Tryz.f133,qaw,qao,qah,qax,qay,qdj,qbv,qal,qaa,qab,qac,↓qaa,↓qab,↓qac,qav,qai,Option.getD_some,enc_L,enc_I]
 generalize hA:updV _ 5 _=B
 obtain ⟨x,a',σ',c',e,⟨rfl,h⟩ | ⟨rfl,h4⟩⟩:=key B _ _ (by subst hA;rfl) (by subst hA;rfl) (by subst hA;rfl)
 ·rw [e,h]
  simp (disch:=omega) only [qac,qdp,↓qac,qag,qad,↓qad,qbw,qb8,qbx,fv_r,pv_1,fsh_1,qbk,↓reduceIte]
 ·rw [e]
  simp (disch:=omega) only [qaz,qdx,↓qaz,qad,↓qad,qbw,qb8,qbx,fv_r,pv_1,fsh_1,qbk,h4]
def GrowR (id:Nat) (l:List Int) (A:VV) (o:Option Ob):Prop:=(l=[]∧A = .nl)∨∃ w,A = .own id w∧o=some ⟨w,l.length,1,li l⟩
def rinvL (l:List Int):List Int:=(List.range l.length).map fun (i:Nat)=>atL l (i:Int)
noncomputable def rinC:Code:=atC [1,1,0,1,0,0] ((Tryz.f101.body).getD .skip)
abbrev rinT:List (Nat×VSpec):=[(133,ratS)]
abbrev rinPol:Nat→Bool:=fun d=>d == 16
theorem qhd {f:Nat→Int} {i:Nat}:(List.range (i+1)).map f=(List.range i).map f++[f i]:=by rw [List.range_succ,List.map_append];rfl
theorem rin_loop {l:List Int} (hb:l.length≤1000) {mm k c:Nat} {a:VF} {σ:VSt} (hk:l.length < k)
  (h0:a 0=vL l) (h3:a 3 = .nl) (h4:a 4=vI ((0:Nat):Int)) :
  ∃ x a' σ' c',loopV (evVC Tryz.prog (callOf rinT) rinPol mm rinC) k a σ c=some (x,a',σ',c')∧x = .exit 0∧GrowR 16 (rinvL l) (a' 3) (σ' 16):=by
 refine qc2 l.length (fun i a σ _=>a 0=vL l∧a 4=vI i∧GrowR 16 ((List.range i).map fun (i:Nat)=>atL l (i:Int)) (a 3) (σ 16)) _ ?_ ?_ hk ⟨h0,h4,.inl ⟨rfl,h3⟩⟩
 ·intro i a σ c hi ⟨h0,h4,hg⟩
  left
  have c1:(i:Int) < (l.length:Int):=by omega
  have e3:IntKind.i64.wrap ((i:Int)+1)=((i+1:Nat):Int):=by rw [wr64 (by omega) (by omega)];omega
  have hl:decide (l.length≤1000000)=true:=decide_eq_true (by omega)
  have p15:rinPol 15=false:=rfl
  have p16:rinPol 16=true:=rfl
  rw [show rinC=atC [1,1,0,1,0,0] ((Tryz.f101.body).getD .skip) from rfl]
  rcases hg with ⟨hg,h3⟩ | ⟨w,h3,hs⟩
  ·have h1m:0+1≤maxA:=by decide
   simp (disch:=omega) only [Tryz.f101,Option.getD_some,atC,qaw,qao,qah,qax,qau,qay,qa7,qat,qal,qbi,qgy,qcg uL,qa3,qa0,qb9,qaa,qab,qac,qcu,qam,↓qaa,↓qab,↓qac,↓qam,qaq,qag,qap,qa5,qav,qai,qaj,qad,↓qaj,↓qad,ln_fz,ap_nl eL pVI,qc5,bs_I1,qc0,qbz,qbf,pk_sc,pk_fz,vcall,qb4,qas,Option.map_some,↓reduceIte,Nat.reduceEqDiff,Nat.succ_ne_self,Nat.zero_add,List.map_cons,List.map_nil,decide_true,qaf,qar,↓qaf,↓qar,Option.getD_some,sp2,qak,↓qak,dec_L,dec_I,h0,h3,h4,c1,hl,e3,p15]
   refine ⟨_,_,_,rfl,?_⟩
   refine ⟨h0,rfl,.inr ⟨_,rfl,?_⟩⟩
   rw [qhd,hg]
   rfl
  ·have hlen:((List.range i).map fun (i:Nat)=>atL l (i:Int)).length=i:=by simp
   have hm:i+(0+1)≤maxA:=by unfold maxA;omega
   simp (disch:=omega) only [Tryz.f101,Option.getD_some,atC,qaw,qao,qah,qax,qau,qay,qa7,qat,qal,qbi,qgy,qcg uL,qa3,qa0,qb9,qaa,qab,qac,qcu,qam,↓qaa,↓qab,↓qac,↓qam,qaq,qag,qap,qa5,qav,qai,qa1,qa2,qae,qaj,qad,↓qae,↓qaj,↓qad,ln_fz,qjw eL pVI,bs_I1,qc0,qbz,qbf,pk_sc,pk_fz,vcall,qb4,qas,Option.map_some,↓reduceIte,Nat.reduceEqDiff,Nat.succ_ne_self,Nat.zero_add,Nat.mul_one,and_self,List.map_cons,List.map_nil,decide_true,qaf,qar,↓qaf,↓qar,Option.getD_some,sp2,qak,↓qak,dec_L,dec_I,h0,h3,h4,hs,c1,hl,e3,p15,hlen,hm]
   refine ⟨_,_,_,rfl,?_⟩
   refine ⟨h0,rfl,.inr ⟨_,rfl,?_⟩⟩
   rw [qhd]
   simp only [qag,↓reduceIte,List.length_append,hlen,List.length_cons,List.length_nil]
   rw [← qjg,List.take_of_length_le (by rw [qjv,hlen];omega)]
 ·intro a σ c ⟨h0,h4,hg⟩
  have c1:¬ ((l.length:Int) < (l.length:Int)):=by omega
  rw [show rinC=atC [1,1,0,1,0,0] ((Tryz.f101.body).getD .skip) from rfl]
  simp only [Tryz.f101,Option.getD_some,atC,qaw,qao,qah,qax,qau,qda,qat,qcg uL,qa3,qa0,qaa,qab,qac,qb0,qan,↓qaa,↓qab,↓qac,↓qb0,↓qan,qaq,qag,qap,qai,ln_fz,Option.map_some,↓reduceIte,Nat.reduceEqDiff,decide_false,Option.getD_some,h0,h4,c1]
  refine ⟨_,_,_,_,rfl,?_⟩
  exact ⟨by simp,rfl,hg⟩
abbrev rinS:VSpec:=spec1 cL (fun l=>decide (0 < l.length) && decide (l.length≤1000)) (fun l=>vL (rinvL l)) true
theorem rin_ok:OK 1000003 101 rinS:=by
 refine OK.of1 (F:=1000002) (tb:=rinT) (pol:=rinPol) ?_ (x:=(Tryz.f101.body).getD .skip) (Nat.le_of_ble_eq_true rfl) Tryz.func101 rfl (ok_fn (by rfl) Tryz.func101 rfl) (by kernel_rfl) (by intros;rfl) fun n hn l hc=>?_
 ·intro y hy
  simp only [rinT,List.mem_singleton] at hy
  subst hy
  exact rat_ok
 simp only [Bool.and_eq_true,decide_eq_true_eq] at hc
 have key:=fun (a:VF) (σ:VSt) (c:Nat)=>rin_loop hc.2 (mm:=n) (k:=n) (a:=a) (σ:=σ) (c:=c) (by omega)
 rw [show rinC=atC [1,1,0,1,0,0] ((Tryz.f101.body).getD .skip) from rfl] at key
 simp only [Tryz.f101,Option.getD_some,atC] at key
 simp (disch:=omega) only [Tryz.f101,qaw,qao,qah,qax,qay,qdj,qbv,qat,qal,qaa,qab,qac,↓qaa,↓qab,↓qac,qag,qap,qav,qfn,qai,↓reduceIte,Option.getD_some,enc_L]
 generalize hA:updV _ 4 _=B
 obtain ⟨x,a',σ',c',e,rfl,hg⟩:=key B _ _ (by subst hA;rfl) (by subst hA;rfl) (by subst hA;rfl)
 rw [e]
 rcases hg with ⟨h,_⟩ | ⟨w,w3,ws⟩
 ·exfalso
  have:=congrArg List.length h
  simp only [rinvL,List.length_map,List.length_range,List.length_nil] at this
  omega
 ·simp (disch:=omega) only [qac,qdp,↓qac,qag,qa1,qa2,qae,qad,↓qae,↓qad,qbw,qb8,qe0,fv_r,pv_1,fsh_1,qem,↓reduceIte,Nat.succ_ne_self,w3,ws]
end Go.Proofs.YtmdnofcphdjieaaGreatDoor
namespace Go.Proofs.YtmdnofcphdjieaaGreatDoor
open Go Go.Abs
set_option maxRecDepth 10000
attribute [local congr] qba qbb qbc qbd qbn qbe qbo qbp qbq qbr qbt qbu qcc qby qbs qbl qb7 qb1
abbrev NSt:=List Int×List Int
def visit (s:NSt) (y:Int):NSt:=if s.1.getD y.toNat 0 < 0 then (s.1.set y.toNat (s.2.length:Int),s.2++[y]) else s
def nstep (o:List Int×List Int) (s:NSt) (k:Nat):NSt:=visit (visit s (o.1.getD (s.2.getD k 0).toNat 0)) (o.2.getD (s.2.getD k 0).toNat 0)
def nloop (o:List Int×List Int):Nat→Nat→NSt→NSt
 | 0,_,s=>s
 | f+1,k,s=>if k < s.2.length then nloop o f (k+1) (nstep o s k) else s
def nstart (n:Nat) (x:Int):NSt:=((List.replicate n (-1)).set x.toNat 0,[x])
def numL (o:List Int×List Int) (x:Int):List Int:=(nloop o (o.1.length+1) 0 (nstart o.1.length x)).1
def cntN (l:List Int):Nat:=l.countP fun z=>decide (0≤z)
structure NOk (n:Nat) (s:NSt):Prop where
 len:s.1.length=n
 ord:inB s.2 n=true
 cnt:cntN s.1=s.2.length
 low:∀ i,i < n→-1≤s.1.getD i 0∧s.1.getD i 0≤n
theorem NOk.le {n:Nat} {s:NSt} (h:NOk n s):s.2.length≤n:=by
 rw [← h.cnt,← h.len]
 exact List.countP_le_length
theorem cnt_set {l:List Int} {i:Nat} (hi:i < l.length) (hn:l.getD i 0 < 0) {z:Int} (hz:0≤z):cntN (l.set i z)=cntN l+1:=by
 induction l generalizing i with
 | nil=>simp at hi
 | cons x l ih =>
   cases i with
   | zero =>
     have hx:¬ (0≤x):=by simpa using hn
     simp only [List.set_cons_zero,cntN,List.countP_cons,decide_eq_true_eq]
     rw [if_pos hz,if_neg hx]
   | succ i =>
     have:=ih (i:=i) (by simpa using hi) (by simpa using hn)
     simp only [List.set_cons_succ,cntN,List.countP_cons] at this ⊢
     omega
theorem NOk.visit {n:Nat} {s:NSt} (h:NOk n s) {y:Int} (h0:0≤y) (h1:y < n):NOk n (visit s y):=by
 unfold YtmdnofcphdjieaaGreatDoor.visit
 split
 ·rename_i hy
  have hle:=h.le
  have hyl:y.toNat < s.1.length:=by rw [h.len];omega
  have hc:=cnt_set hyl hy (z:=(s.2.length:Int)) (by omega)
  refine ⟨by rw [List.length_set];exact h.len,?_,?_,fun i hi=>?_⟩
  ·unfold inB
   rw [List.all_append]
   have:=h.ord
   unfold inB at this
   rw [this]
   simp [h0,h1]
  ·show cntN (s.1.set y.toNat (s.2.length:Int))=(s.2++[y]).length
   rw [hc,h.cnt];simp
  ·have hl:cntN (s.1.set y.toNat (s.2.length:Int))≤n:=by
    have:cntN (s.1.set y.toNat (s.2.length:Int))≤(s.1.set y.toNat (s.2.length:Int)).length:=List.countP_le_length
    rw [List.length_set,h.len] at this;exact this
   rw [hc,h.cnt] at hl
   show -1≤(s.1.set y.toNat (s.2.length:Int)).getD i 0∧_
   rw [List.getD_eq_getElem?_getD,List.getElem?_set]
   split
   ·simp;omega
   ·have:=h.low i hi
    rw [List.getD_eq_getElem?_getD] at this
    exact this
 ·exact h
theorem NOk.start {n:Nat} {x:Int} (h0:0≤x) (h1:x < n):NOk n (nstart n x):=by
 have hr:cntN (List.replicate n (-1))=0:=by
  unfold cntN
  rw [List.countP_eq_zero]
  intro a ha
  rw [List.eq_of_mem_replicate ha];simp
 have hx:(List.replicate n (-1:Int)).getD x.toNat 0=-1:=by
  rw [List.getD_eq_getElem?_getD,List.getElem?_replicate,if_pos (by omega)];rfl
 refine ⟨by simp [nstart],by simp [nstart,inB,h0,h1],?_,?_⟩
 ·show cntN ((List.replicate n (-1)).set x.toNat 0)=1
  rw [cnt_set (by simp;omega) (by rw [hx];omega) (Int.le_refl 0),hr]
 ·show ∀ i,i < n→-1≤((List.replicate n (-1:Int)).set x.toNat 0).getD i 0∧((List.replicate n (-1:Int)).set x.toNat 0).getD i 0≤n
  intro i hi
  rw [List.getD_eq_getElem?_getD,List.getElem?_set]
  split
  ·rw [if_pos (by simp;omega)];simp
  ·rw [List.getElem?_replicate,if_pos hi];simp
theorem NOk.step {n:Nat} {o:List Int×List Int} {s:NSt} (h:NOk n s) (h1:Pn n o.1) (h2:Pn n o.2) {k:Nat} (hk:k < s.2.length):NOk n (nstep o s k):=by
 have hx:=qbh h.ord hk
 have ha:=qbh h1.2 (i:=(s.2.getD k 0).toNat) (by rw [h1.1];omega)
 have hb:=qbh h2.2 (i:=(s.2.getD k 0).toNat) (by rw [h2.1];omega)
 exact (h.visit ha.1 ha.2).visit hb.1 hb.2
theorem qdt (s:NSt) (y:Int):s.2.length≤(visit s y).2.length:=by
 unfold visit
 split
 ·simp
 ·exact Nat.le_refl _
abbrev numP (o:List Int×List Int) (x:Int):Bool:=Po o && decide (o.1.length≤100) && decide (0≤x) && decide (x < o.1.length)
theorem qkn {f n:Nat} {args:List Value} {H:Heap} {r:Value×Heap} (h:bC (.func (.func f) #[] #[]) args H=some r):evB Tryz.prog bC n (.func (.func f) #[] #[]) args H=some r:=by
 cases n with
 | zero=>exact h
 | succ n =>
   show (match bC (.func (.func f) #[] #[]) args H with | some r=>some r | none=>_)=_
   rw [h]
end Go.Proofs.YtmdnofcphdjieaaGreatDoor
namespace Go.Proofs.YtmdnofcphdjieaaGreatDoor
open Go Go.Abs
theorem eB:sliceElem Tryz.prog 152=some (4,1):=by kernel_rfl
theorem aB:isAggT Tryz.prog 4=some false:=by kernel_rfl
theorem zB:sizeT Tryz.prog 4=some 1:=by kernel_rfl
theorem yB:bytesT Tryz.prog 4=some 1:=by kernel_rfl
theorem oB:zeros Tryz.prog 4 1 1=some [.bool false]:=by kernel_rfl
def lb (l:List Bool):List VV:=l.map fun z=>.sc (.bool z)
theorem lb_len (l:List Bool):(lb l).length=l.length:=List.length_map ..
theorem lb_get {l:List Bool} {i:Nat} (h:i < l.length):(lb l)[i]?=some (vB (l.getD i false)):=by simp [lb,h]
theorem lb_set (l:List Bool) (i:Nat) (z:Bool):(lb l).set i (vB z)=lb (l.set i z):=by unfold lb;rw [List.map_set]
theorem lb_rep (n:Nat):(List.replicate n (Value.bool false)).map vcst1=lb (List.replicate n false):=by
 unfold lb
 rw [List.map_replicate,List.map_replicate];rfl
theorem mk_B {d:Option Nat} {σ:VSt} {c:Nat} {k1 k2:IntKind} {n m:Int}:makeV Tryz.prog d 152 (.sc (.int k1 n)) (.sc (.int k2 m)) σ c=if 0≤n∧n≤m∧m≤1048576 then mkOwn d n.toNat 1 (lb (List.replicate n.toNat false)) σ c else none:=by
 rw [mk_sl eB yB ⟨by decide,by decide⟩,qn8 oB]
 simp only [lb_rep]
theorem uAL:Tryz.prog.underlying 143=some (.array 2 43):=by kernel_rfl
theorem iAL:zeroV Tryz.prog 143=some [.nl,.nl]:=by kernel_rfl
theorem bAL {σ:VSt} {A B:VV}:buildV Tryz.prog σ 143 [(0,A),(1,B)]=opt1 (scalV σ A) fun x=>opt1 (scalV σ B) fun y=>some (.st [x,y]):=build_A2 iAL uAL zL
end Go.Proofs.YtmdnofcphdjieaaGreatDoor
namespace Go.Proofs.YtmdnofcphdjieaaGreatDoor
open Go Go.Abs
set_option maxRecDepth 10000
attribute [local congr] qba qbb qbc qbd qbn qbe qbo qbp qbq qbr qbt qbu qcc qby qbs qbl qb7 qb1
def seenK (p:List Int) (i:Nat):List Bool:=(List.range i).foldl (fun (o:List Bool) (j:Nat)=>o.set (p.getD j 0).toNat true) (List.replicate p.length false)
theorem qix (p:List Int) (i:Nat):seenK p (i+1)=(seenK p i).set (p.getD i 0).toNat true:=by simp [seenK,List.range_succ]
theorem qob (p:List Int) (i:Nat):(seenK p i).length=p.length:=by
 induction i with
 | zero=>simp [seenK]
 | succ i ih=>rw [qix,List.length_set,ih]
def dupK (p:List Int) (i:Nat):Bool:=(List.range i).any fun j=>(seenK p j).getD (p.getD j 0).toNat false
theorem dupK_succ (p:List Int) (i:Nat):dupK p (i+1)=(dupK p i || (seenK p i).getD (p.getD i 0).toNat false):=by simp [dupK,List.range_succ]
def permE (p:List Int):Int:=if inB p p.length then (if dupK p p.length then 3 else 0) else 2
abbrev permS:VSpec:=spec1 cL (fun p=>decide (p.length≤1000)) (fun p=>vI (permE p)) false
noncomputable def pmC:Code:=atC [1,0,1,0,0] ((Tryz.f96.body).getD .skip)
noncomputable def pmD:Code:=atC [1,1,1,0,1,0,0] ((Tryz.f96.body).getD .skip)
theorem qrm {p:List Int} {n i:Nat} (h:inB (p.take i) n=true) (hi:i < p.length) (h0:0≤p.getD i 0) (h1:p.getD i 0 < n):inB (p.take (i+1)) n=true:=by
 unfold inB at h ⊢
 rw [List.take_add_one,List.all_append,h,List.getElem?_eq_getElem hi]
 have:p.getD i 0=p[i]:=by simp [hi]
 rw [this] at h0 h1
 simp [h0,h1]
theorem qmt {p:List Int} {n i:Nat} (hi:i < p.length) (h:¬ (0≤p.getD i 0∧p.getD i 0 < n)):inB p n=false:=by
 cases hh:inB p n with
 | false=>rfl
 | true=>exact absurd (qbh hh hi) h
theorem pm_loop1 {p:List Int} (hl:p.length≤1000) {call:VCall} {pol:Nat→Bool} {m k c:Nat} {a:VF} {σ:VSt} (hk:p.length < k)
  (h8:a 8=vL p) (h0:a 0=vL p) (h9:a 9=vI p.length) (h10:a 10=vI ((0:Nat):Int)) :
  ∃ x a' σ' c',loopV (evVC Tryz.prog call pol m pmC) k a σ c=some (x,a',σ',c')∧σ'=σ∧c'=c∧a' 0=vL p∧((x = .exit 0∧inB p p.length=true)∨(x = .ret∧inB p p.length=false∧a' 2=vI 2)):=by
 refine qc2 p.length (fun i a σ' c'=>σ'=σ∧c'=c∧inB (p.take i) p.length=true∧a 8=vL p∧a 0=vL p∧a 9=vI p.length∧a 10=vI i) _ ?_ ?_ hk ⟨rfl,rfl,rfl,h8,h0,h9,h10⟩
 ·intro i a _ _ hi ⟨hs,hc,hb,h8,h0,h9,h10⟩
  subst hs;subst hc
  have c1:(i:Int) < (p.length:Int):=by omega
  have e3:IntKind.i64.wrap ((i:Int)+1)=((i+1:Nat):Int):=by rw [wr64 (by omega) (by omega)];omega
  by_cases x0:p.getD i 0 < 0
  ·right
   rw [show pmC=atC [1,0,1,0,0] ((Tryz.f96.body).getD .skip) from rfl]
   simp (disch:=omega) only [Tryz.f96,Option.getD_some,atC,qaw,List.getElem?_toArray,qao,qce,qbj,gdV_b,qah,qax,qau,qay,qa7,qbv,qat,qal,qcx,qa4,qcd,qa3,qa0,qaa,qab,qac,qaz,qdx,qam,qdq,qcw,↓qaa,↓qab,↓qac,↓qaz,↓qam,↓qdq,↓qcw,qaq,qag,qap,qav,qcs,qai,ad_fz eL,ld_rp aI,qc3,qdm,List.getElem?_drop,↓reduceIte,Nat.reduceEqDiff,Nat.add_zero,Nat.mul_one,Int.toNat_natCast,Int.natCast_nonneg,and_self,decide_true,List.getElem?_cons_zero,List.getElem?_cons_succ,b_tf,Option.getD_some,h8,h9,h10,c1,x0]
   exact ⟨_,_,_,_,rfl,by simp,rfl,rfl,by simp only [qag,↓reduceIte,Nat.reduceEqDiff,h0],.inr ⟨rfl,qmt hi (by omega),by simp only [qag,↓reduceIte]⟩⟩
  ·by_cases x1:(p.length:Int)≤p.getD i 0
   ·right
    rw [show pmC=atC [1,0,1,0,0] ((Tryz.f96.body).getD .skip) from rfl]
    simp (disch:=omega) only [Tryz.f96,Option.getD_some,atC,qaw,List.getElem?_toArray,qao,qce,qbj,gdV_b,qah,qax,qau,qay,qa7,qbv,qat,qal,qcx,qa4,qcd,qcg uL,qa3,qa0,qel,qaa,qab,qac,qaz,qdx,qam,qcr,qcb,↓qaa,↓qab,↓qac,↓qaz,↓qam,↓qcr,↓qcb,qaq,qag,qap,qav,qai,ad_fz eL,ld_rp aI,qc3,ln_fz,qdm,List.getElem?_drop,Option.map_some,↓reduceIte,Nat.reduceEqDiff,Nat.add_zero,Nat.mul_one,Int.toNat_natCast,Int.natCast_nonneg,and_self,decide_true,decide_false,List.getElem?_cons_zero,List.getElem?_cons_succ,beq_self_eq_true,Option.getD_some,h8,h0,h9,h10,c1,x0,x1]
    exact ⟨_,_,_,_,rfl,by simp,rfl,rfl,by simp only [qag,↓reduceIte,Nat.reduceEqDiff,h0],.inr ⟨rfl,qmt hi (by omega),by simp only [qag,↓reduceIte]⟩⟩
   ·left
    rw [show pmC=atC [1,0,1,0,0] ((Tryz.f96.body).getD .skip) from rfl]
    simp (disch:=omega) only [Tryz.f96,Option.getD_some,atC,qaw,List.getElem?_toArray,qao,qce,qbj,gdV_b,qah,qax,qau,qay,qa7,qat,qal,qcx,qa4,qcd,qcg uL,qa3,qa0,qel,qb9,qaa,qab,qac,qcu,qam,qan,qcr,qcb,↓qaa,↓qab,↓qac,↓qam,↓qan,↓qcr,↓qcb,qaq,qag,qap,qav,qai,ad_fz eL,ld_rp aI,qc3,ln_fz,qdm,List.getElem?_drop,Option.map_some,↓reduceIte,Nat.reduceEqDiff,Nat.add_zero,Nat.mul_one,Int.toNat_natCast,Int.natCast_nonneg,and_self,decide_true,decide_false,List.getElem?_cons_zero,List.getElem?_cons_succ,beq_self_eq_true,Option.getD_some,h8,h0,h9,h10,c1,x0,x1,e3]
    exact ⟨_,_,_,rfl,rfl,rfl,qrm hb hi (by omega) (by omega),by simp only [qag,↓reduceIte,Nat.reduceEqDiff,h8],by simp only [qag,↓reduceIte,Nat.reduceEqDiff,h0],by simp only [qag,↓reduceIte,Nat.reduceEqDiff,h9],by simp only [qag,↓reduceIte]⟩
 ·intro a _ _ ⟨hs,hc,hb,h8,h0,h9,h10⟩
  subst hs;subst hc
  have c1:¬ ((p.length:Int) < (p.length:Int)):=by omega
  rw [show pmC=atC [1,0,1,0,0] ((Tryz.f96.body).getD .skip) from rfl]
  simp only [Tryz.f96,Option.getD_some,atC,qaw,qao,qah,qax,qau,qda,qa3,qa0,qaa,qab,qac,qb0,qan,↓qaa,↓qab,↓qac,↓qb0,↓qan,qag,qap,qai,↓reduceIte,decide_false,Option.getD_some,h9,h10,c1]
  rw [List.take_length] at hb
  exact ⟨_,_,_,_,rfl,by simp,rfl,rfl,by simp only [qag,↓reduceIte,Nat.reduceEqDiff,h0],.inl ⟨rfl,hb⟩⟩
theorem pm_loop2 {p:List Int} (hl:p.length≤1000) (hb:inB p p.length=true) {call:VCall} {pol:Nat→Bool} {m k c u:Nat} {a:VF} {σ:VSt} (hk:p.length < k)
  (h26:a 26=vL p) (h27:a 27=vI p.length) (h28:a 28=vI ((0:Nat):Int)) (h5:a 5 = .own 25 u) (s25:σ 25=some ⟨u,p.length,1,lb (seenK p 0)⟩) :
  ∃ x a' σ' c',loopV (evVC Tryz.prog call pol m pmD) k a σ c=some (x,a',σ',c')∧((x = .exit 2∧dupK p p.length=false)∨(x = .ret∧dupK p p.length=true∧a' 2=vI 3)):=by
 refine qc2 p.length (fun i a σ _=>dupK p i=false∧a 26=vL p∧a 27=vI p.length∧a 28=vI i∧a 5 = .own 25 u∧σ 25=some ⟨u,p.length,1,lb (seenK p i)⟩) _ ?_ ?_ hk ⟨rfl,h26,h27,h28,h5,s25⟩
 ·intro i a σ c hi ⟨hd,h26,h27,h28,h5,s25⟩
  have c1:(i:Int) < (p.length:Int):=by omega
  have e3:IntKind.i64.wrap ((i:Int)+1)=((i+1:Nat):Int):=by rw [wr64 (by omega) (by omega)];omega
  obtain ⟨x0,x1⟩:=qbh hb hi
  have c2:(p.getD i 0).toNat < p.length:=by omega
  have hsl:=qob p i
  have hg:=lb_get (l:=seenK p i) (i:=(p.getD i 0).toNat) (by omega)
  by_cases hx:(seenK p i).getD (p.getD i 0).toNat false=true
  ·right
   rw [hx] at hg
   have hD:dupK p p.length=true:=by
    unfold dupK
    rw [List.any_eq_true]
    exact ⟨i,List.mem_range.2 hi,hx⟩
   rw [show pmD=atC [1,1,1,0,1,0,0] ((Tryz.f96.body).getD .skip) from rfl]
   simp (disch:=omega) only [Tryz.f96,Option.getD_some,atC,qaw,qao,qah,qax,qau,qay,qa7,qbv,qat,qal,qa4,qcd,qa3,qa0,qaa,qab,qac,qaz,qdx,qam,↓qaa,↓qab,↓qac,↓qaz,↓qam,qaq,qag,qap,qav,qai,qa1,qa2,qae,↓qae,ad_fz eL,ld_rp aI,qc3,qdm,List.getElem?_drop,↓reduceIte,Nat.reduceEqDiff,Nat.add_zero,Nat.mul_one,Int.toNat_natCast,Int.natCast_nonneg,and_self,decide_true,Option.getD_some,h26,h27,h28,h5,s25,c1,x0,x1,qew eB,qco aB,hg]
   exact ⟨_,_,_,_,rfl,by simp,.inr ⟨rfl,hD,by simp only [qag,↓reduceIte]⟩⟩
  ·left
   have hx':(seenK p i).getD (p.getD i 0).toNat false=false:=by simpa using hx
   rw [hx'] at hg
   rw [show pmD=atC [1,1,1,0,1,0,0] ((Tryz.f96.body).getD .skip) from rfl]
   simp (disch:=omega) only [Tryz.f96,Option.getD_some,atC,qaw,qao,qah,qax,qau,qay,qa7,qat,qal,qa4,qc1,qcd,qa3,qa0,qb9,qaa,qab,qac,qcu,qam,qan,↓qaa,↓qab,↓qac,↓qam,↓qan,qaq,qcm,qag,qap,qav,qcs,qai,qcn,qa1,qa2,qae,↓qae,ad_fz eL,ld_rp aI,qc3,qdm,List.getElem?_drop,↓reduceIte,Nat.reduceEqDiff,Nat.add_zero,Nat.mul_one,Int.toNat_natCast,Int.natCast_nonneg,and_self,decide_true,Option.getD_some,h26,h27,h28,h5,s25,c1,x0,x1,c2,qew eB,qco aB,st_sc zB,hg,lb_len,hsl,e3]
   refine ⟨_,_,_,rfl,by rw [dupK_succ,hd,hx'];rfl,by simp only [qag,↓reduceIte,Nat.reduceEqDiff,h26],by simp only [qag,↓reduceIte,Nat.reduceEqDiff,h27],by simp only [qag,↓reduceIte],by simp only [qag,↓reduceIte,Nat.reduceEqDiff,h5],?_⟩
   simp only [qag,↓reduceIte,qix,lb_set]
 ·intro a σ c ⟨hd,h26,h27,h28,h5,s25⟩
  have c1:¬ ((p.length:Int) < (p.length:Int)):=by omega
  rw [show pmD=atC [1,1,1,0,1,0,0] ((Tryz.f96.body).getD .skip) from rfl]
  simp only [Tryz.f96,Option.getD_some,atC,qaw,qao,qah,qax,qau,qda,qa3,qa0,qaa,qab,qac,qb0,qan,↓qaa,↓qab,↓qac,↓qb0,↓qan,qag,qap,qai,↓reduceIte,decide_false,Option.getD_some,h27,h28,c1]
  exact ⟨_,_,_,_,rfl,by simp,.inl ⟨rfl,hd⟩⟩
theorem perm_ok:OK 1002 96 permS:=by
 refine OK.of1 (F:=1001) (tb:=[]) (pol:=fun _=>false) (by simp) (x:=(Tryz.f96.body).getD .skip) (Nat.le_of_ble_eq_true rfl) Tryz.func96 rfl (ok_fn (by rfl) Tryz.func96 rfl) (by kernel_rfl) (by intros;rfl) fun n hn p hc=>?_
 simp only [decide_eq_true_eq] at hc
 have key1:=fun (a:VF) (σ:VSt) (c:Nat)=>pm_loop1 hc (call:=callOf []) (pol:=fun _=>false) (m:=n) (k:=n) (a:=a) (σ:=σ) (c:=c) (by omega)
 rw [show pmC=atC [1,0,1,0,0] ((Tryz.f96.body).getD .skip) from rfl] at key1
 have key2:=fun (hb:inB p p.length=true) (a:VF) (σ:VSt) (c u:Nat)=>pm_loop2 hc hb (call:=callOf []) (pol:=fun _=>false) (m:=n) (k:=n) (a:=a) (σ:=σ) (c:=c) (u:=u) (by omega)
 rw [show pmD=atC [1,1,1,0,1,0,0] ((Tryz.f96.body).getD .skip) from rfl] at key2
 simp only [Tryz.f96,Option.getD_some,atC] at key1 key2
 have c1:(0:Int)≤(p.length:Int):=by omega
 have c2:(p.length:Int)≤1048576:=by omega
 simp (disch:=omega) only [Tryz.f96,Option.getD_some,qaw,qao,qah,qax,qay,qdj,qbv,qat,qal,qhy,qcg uL,qaa,qab,qac,↓qaa,↓qab,↓qac,qaq,qag,qap,qav,qai,ln_fz,frV_0,Option.map_some,↓reduceIte,Nat.reduceEqDiff,Option.getD_some,enc_L]
 generalize hA:updV _ 10 _=B
 obtain ⟨x,a',σ',c',e,rfl,rfl,n0,h⟩:=key1 B _ _ (by subst hA;rfl) (by subst hA;rfl) (by subst hA;rfl) (by subst hA;rfl)
 rw [e]
 rcases h with ⟨rfl,hb⟩ | ⟨rfl,hb,n2⟩
 ·simp (disch:=omega) only [qaa,qab,qac,qdp,↓qaa,↓qab,↓qac,qaq,qag,ln_fz,qc5,Option.map_some,↓reduceIte,Nat.reduceEqDiff,Nat.zero_add,Int.toNat_natCast,and_self,n0,mk_B,c1,c2,Int.le_refl]
  generalize hA2:updV _ 28 _=B2
  generalize hσ2:updV _ 25 _=S2
  obtain ⟨x,a2,σ2,c2',e2,h2⟩:=key2 hb B2 S2 _ 0 (by subst hA2;simp only [qag,↓reduceIte,Nat.reduceEqDiff]) (by subst hA2;rfl) (by subst hA2;rfl) (by subst hA2;rfl) (by subst hσ2;rfl)
  rw [e2]
  rcases h2 with ⟨rfl,hd⟩ | ⟨rfl,hd,n2⟩
  ·simp (disch:=omega) only [qac,qdp,↓qac,qag,qad,↓qad,qbw,qb8,qbx,fv_r,pv_1,fsh_1,qbk,↓reduceIte]
   unfold permE
   rw [if_pos hb,hd];rfl
  ·simp (disch:=omega) only [qaz,qdx,↓qaz,qad,↓qad,qbw,qb8,qbx,fv_r,pv_1,fsh_1,qbk,n2]
   unfold permE
   rw [if_pos hb,if_pos hd]
 ·simp (disch:=omega) only [qaz,qdx,↓qaz,qad,↓qad,qbw,qb8,qbx,fv_r,pv_1,fsh_1,qbk,n2]
  unfold permE
  rw [if_neg (by rw [hb];simp)]
end Go.Proofs.YtmdnofcphdjieaaGreatDoor
namespace Go.Proofs.YtmdnofcphdjieaaGreatDoor
open Go Go.Abs
set_option maxRecDepth 10000
attribute [local congr] qba qbb qbc qbd qbn qbe qbo qbp qbq qbr qbt qbu qcc qby qbs qbl qb7 qb1
def checkE (o:List Int×List Int):Int:=if o.1.length≠o.2.length∨o.1.length=0 then 10 else if 60 < o.1.length then 8 else if permE o.1≠0 then permE o.1 else permE o.2
abbrev checkS:VSpec:=spec1 cO (fun o=>decide (o.1.length≤1000000) && decide (o.2.length≤1000000)) (fun o=>vI (checkE o)) false
noncomputable def ckC:Code:=atC [1,1,1,0,1,0,0] ((Tryz.f60.body).getD .skip)
abbrev ckT:List (Nat×VSpec):=[(96,permS)]
theorem ck_loop {r v:List Int} (h1:r.length≤1000) (h2:v.length≤1000) {pol:Nat→Bool} {m k c:Nat} {a:VF} {σ:VSt} (hk:2 < k)
  (h27:a 27 = .st [vL r,vL v]) (h28:a 28=vI ((0:Nat):Int)) :
  ∃ x a' σ' c',loopV (evVC Tryz.prog (callOf ckT) pol m ckC) k a σ c=some (x,a',σ',c')∧((x = .exit 0∧permE r=0∧permE v=0)∨(x = .ret∧a' 2=vI (if permE r≠0 then permE r else permE v))):=by
 refine qc2 2 (fun i a σ _=>a 27 = .st [vL r,vL v]∧a 28=vI i∧(1≤i→permE r=0)∧(2≤i→permE v=0)) _ ?_ ?_ hk ⟨h27,h28,by omega,by omega⟩
 ·intro i a σ c hi ⟨h27,h28,k1,k2⟩
  have c1:(i:Int) < 2:=by omega
  have e3:IntKind.i64.wrap ((i:Int)+1)=((i+1:Nat):Int):=by rw [wr64 (by omega) (by omega)];omega
  have kk2:((2:Nat):Int)=2:=rfl
  have hi2:i=0∨i=1:=by omega
  rw [show ckC=atC [1,1,1,0,1,0,0] ((Tryz.f60.body).getD .skip) from rfl]
  have main:∀ p:List Int,p.length≤1000→([vL r,vL v]:List VV)[i]?=some (vL p)→(permE p=0→(1≤i+1→permE r=0)∧(2≤i+1→permE v=0))→(permE p≠0→permE p=if permE r≠0 then permE r else permE v) →
    (∃ a' σ' c',evVC Tryz.prog (callOf ckT) pol m (atC [1,1,1,0,1,0,0] ((Tryz.f60.body).getD .skip)) a σ c=some (.normal,a',σ',c')∧a' 27 = .st [vL r,vL v]∧a' 28=vI ((i+1:Nat):Int)∧(1≤i+1→permE r=0)∧(2≤i+1→permE v=0)) ∨
    (∃ x a' σ' c',evVC Tryz.prog (callOf ckT) pol m (atC [1,1,1,0,1,0,0] ((Tryz.f60.body).getD .skip)) a σ c=some (x,a',σ',c')∧x≠.normal∧((x = .exit 0∧permE r=0∧permE v=0)∨(x = .ret∧a' 2=vI (if permE r≠0 then permE r else permE v)))):=by
   intro p hp hg g1 g2
   have hp':decide (p.length≤1000)=true:=decide_eq_true hp
   by_cases he:permE p=0
   ·left
    simp (disch:=omega) only [Tryz.f60,Option.getD_some,atC,qaw,qao,qah,qax,qau,qay,qa7,qat,qal,qbi,qa3,qa0,qch,qb9,qaa,qab,qac,qcu,qam,qan,↓qaa,↓qab,↓qac,↓qam,↓qan,qaq,qag,qap,qa5,qav,qai,qaj,qad,↓qaj,↓qad,qbz,qbf,pk_fz,vcall,qb4,qas,↓reduceIte,Nat.reduceEqDiff,Int.toNat_natCast,Int.natCast_nonneg,and_self,List.map_cons,List.map_nil,decide_true,Bool.not_true,qaf,↓qaf,Option.getD_some,sp1,qak,↓qak,dec_L,qd7,qrf,Nat.reduceLeDiff,h27,h28,c1,kk2,ix_1 uAL aL zL,hg,hp',he,e3]
    exact ⟨_,_,_,rfl,by simp only [qag,↓reduceIte,Nat.reduceEqDiff,h27],by simp only [qag,↓reduceIte],fun _=>(g1 he).1 (by omega),fun hh=>(g1 he).2 (by omega)⟩
   ·right
    have hne:(permE p=0)=False:=eq_false he
    simp (disch:=omega) only [Tryz.f60,Option.getD_some,atC,qaw,qao,qah,qax,qau,qay,qa7,qbv,qat,qal,qbi,qa3,qa0,qch,qaa,qab,qac,qaz,qdx,qam,↓qaa,↓qab,↓qac,↓qaz,↓qam,qaq,qag,qap,qa5,qav,qai,qaj,qad,↓qaj,↓qad,qbz,qbf,pk_fz,vcall,qb4,qas,↓reduceIte,Nat.reduceEqDiff,Int.toNat_natCast,Int.natCast_nonneg,and_self,List.map_cons,List.map_nil,decide_true,decide_false,Bool.not_false,qaf,↓qaf,Option.getD_some,sp1,qak,↓qak,dec_L,qd7,qrf,h27,h28,c1,kk2,ix_1 uAL aL zL,hg,hp',hne]
    exact ⟨_,_,_,_,rfl,by simp,.inr ⟨rfl,by rw [← g2 he];simp only [qag,↓reduceIte]⟩⟩
  rcases hi2 with rfl | rfl
  ·exact main r h1 rfl (fun h=>⟨fun _=>h,fun hh=>by omega⟩) (fun h=>by rw [if_pos h])
  ·exact main v h2 rfl (fun h=>⟨fun _=>k1 (by omega),fun _=>h⟩) (fun h=>by rw [if_neg (by rw [k1 (by omega)];simp)])
 ·intro a σ c ⟨h27,h28,k1,k2⟩
  have kk2:((2:Nat):Int)=2:=rfl
  have c1:¬ ((2:Int) < 2):=by omega
  rw [show ckC=atC [1,1,1,0,1,0,0] ((Tryz.f60.body).getD .skip) from rfl]
  simp only [Tryz.f60,Option.getD_some,atC,qaw,qao,qah,qax,qau,qda,qa3,qa0,qaa,qab,qac,qb0,qan,↓qaa,↓qab,↓qac,↓qb0,↓qan,qag,qap,qav,qai,↓reduceIte,decide_false,Option.getD_some,h28,kk2,c1]
  exact ⟨_,_,_,_,rfl,by simp,.inl ⟨rfl,k1 (by omega),k2 (by omega)⟩⟩
theorem check_ok:OK 1003 60 checkS:=by
 refine OK.of1 (F:=1002) (tb:=ckT) (pol:=fun _=>false) ?_ (x:=(Tryz.f60.body).getD .skip) (Nat.le_of_ble_eq_true rfl) Tryz.func60 rfl (ok_fn (by rfl) Tryz.func60 rfl) (by kernel_rfl) (by intros;rfl) fun n hn o hc=>?_
 ·intro y hy
  simp only [ckT,List.mem_singleton] at hy
  subst hy
  exact perm_ok
 obtain ⟨r,v⟩:=o
 simp only [Bool.and_eq_true,decide_eq_true_eq] at hc
 by_cases hl:r.length=v.length
 ·by_cases h0:r.length=0
  ·have hE:checkE (r,v)=10:=by unfold checkE;rw [if_pos (.inr h0)]
   have hv0:v.length=0:=by omega
   have d1:((r.length:Nat):Int)=0:=by omega
   have d2:((v.length:Nat):Int)=0:=by omega
   simp (disch:=omega) only [Tryz.f60,Option.getD_some,qaw,List.getElem?_toArray,qao,qce,qbj,gdV_b,qah,qax,qau,qbv,qat,qal,qcx,qcv,qa4,qcl,qcg uL,qa3,qdf,qch,qaa,qab,qac,qaz,qam,qcr,qcb,↓qaa,↓qab,↓qac,↓qaz,↓qam,↓qcr,↓qcb,qaq,qbg,qag,qap,qav,qai,qa1,qa2,qae,qad,↓qae,↓qad,qdn,ln_fz,qa6,qbw,qb8,qbx,fv_r,pv_1,fsh_1,qbk,frV_0,Option.map_some,↓reduceIte,Nat.reduceEqDiff,Nat.zero_add,Nat.add_zero,decide_true,Bool.not_true,List.getElem?_cons_zero,List.getElem?_cons_succ,beq_self_eq_true,Option.getD_some,enc_O,sv_st,qco aL,qcf fO0,qcf fO1,d1,d2,hE]
  ·have d1:(((v.length:Nat):Int)=0)=False:=eq_false (by omega)
   have hlI:((r.length:Nat):Int)=((v.length:Nat):Int):=by omega
   by_cases h6:60 < r.length
   ·have hE:checkE (r,v)=8:=by unfold checkE;rw [if_neg (by intro hh;rcases hh with hh | hh;exact hh hl;exact h0 hh),if_pos h6]
    have d2:(60:Int) < ((v.length:Nat):Int):=by omega
    simp (disch:=omega) only [Tryz.f60,Option.getD_some,qaw,List.getElem?_toArray,qao,qce,qbj,gdV_b,qah,qax,qau,qa7,qbv,qat,qal,qcx,qcv,qa4,qcl,qcg uL,qa3,qdi,qdf,qch,qaa,qab,qac,qaz,qam,qan,qcr,qcb,↓qaa,↓qab,↓qac,↓qaz,↓qam,↓qan,↓qcr,↓qcb,qaq,qbg,qag,qap,qav,qai,qa1,qa2,qae,qad,↓qae,↓qad,qdn,ln_fz,qa6,qbw,qb8,qbx,fv_r,pv_1,fsh_1,qbk,frV_0,Option.map_some,↓reduceIte,Nat.reduceEqDiff,Nat.zero_add,Nat.add_zero,decide_true,decide_false,Bool.not_true,List.getElem?_cons_zero,List.getElem?_cons_succ,beq_self_eq_true,Option.getD_some,enc_O,sv_st,qco aL,qcf fO0,qcf fO1,hlI,d1,d2,hE]
   ·have hE:checkE (r,v)=if permE r≠0 then permE r else permE v:=by unfold checkE;rw [if_neg (by intro hh;rcases hh with hh | hh;exact hh hl;exact h0 hh),if_neg h6]
    have d2:¬ ((60:Int) < ((v.length:Nat):Int)):=by omega
    have key:=fun (a:VF) (σ:VSt) (c:Nat)=>ck_loop (r:=r) (v:=v) (by omega) (by omega) (pol:=fun _=>false) (m:=n) (k:=n) (a:=a) (σ:=σ) (c:=c) (by omega)
    rw [show ckC=atC [1,1,1,0,1,0,0] ((Tryz.f60.body).getD .skip) from rfl] at key
    simp only [Tryz.f60,Option.getD_some,atC] at key
    simp (disch:=omega) only [Tryz.f60,Option.getD_some,qaw,List.getElem?_toArray,qao,qce,qbj,gdV_b,qah,qax,qau,qay,qdj,qa7,qbv,qat,qal,qcx,qcv,qex,qa4,qcl,qcg uL,qa3,qdi,qdf,qch,qaa,qab,qac,qan,qcr,qcb,↓qaa,↓qab,↓qac,↓qan,↓qcr,↓qcb,qaq,qbg,qag,qap,qav,qai,qa1,qa2,qae,↓qae,qdn,ln_fz,qa6,frV_0,Option.map_some,↓reduceIte,Nat.reduceEqDiff,Nat.zero_add,Nat.add_zero,List.map_cons,List.map_nil,decide_true,decide_false,Bool.not_true,List.getElem?_cons_zero,List.getElem?_cons_succ,beq_self_eq_true,Option.getD_some,enc_O,sv_st,sv_fz,qdu,↓qdu,qco aL,qcf fO0,qcf fO1,hlI,d1,d2,bAL,hE]
    generalize hA:updV _ 28 _=B
    obtain ⟨x,a',σ',c',e,h⟩:=key B _ _ (by subst hA;rfl) (by subst hA;rfl)
    rw [e]
    rcases h with ⟨rfl,e1,e2⟩ | ⟨rfl,e1⟩
    ·simp (disch:=omega) only [qac,qdp,↓qac,qag,qad,↓qad,qbw,qb8,qbx,fv_r,pv_1,fsh_1,qbk,↓reduceIte,e1,e2]
     rfl
    ·simp (disch:=omega) only [qaz,qdx,↓qaz,qad,↓qad,qbw,qb8,qbx,fv_r,pv_1,fsh_1,qbk,e1]
 ·have hE:checkE (r,v)=10:=by unfold checkE;rw [if_pos (.inl hl)]
  have d1:(((r.length:Nat):Int)=((v.length:Nat):Int))=False:=eq_false (by omega)
  simp (disch:=omega) only [Tryz.f60,Option.getD_some,qaw,List.getElem?_toArray,qao,qce,qbj,gdV_b,qah,qax,qau,qbv,qat,qal,qcx,qcv,qa4,qcl,qcg uL,qa3,qch,qaa,qab,qac,qaz,qam,qdq,qcw,↓qaa,↓qab,↓qac,↓qaz,↓qam,↓qdq,↓qcw,qaq,qbg,qag,qap,qav,qcs,qai,qa1,qa2,qae,qad,↓qae,↓qad,qdn,ln_fz,qa6,qbw,qb8,qbx,fv_r,pv_1,fsh_1,qbk,frV_0,Option.map_some,↓reduceIte,Nat.reduceEqDiff,Nat.zero_add,Nat.add_zero,decide_false,Bool.not_false,List.getElem?_cons_zero,List.getElem?_cons_succ,b_tf,Option.getD_some,enc_O,sv_st,qco aL,qcf fO0,qcf fO1,d1,hE]
end Go.Proofs.YtmdnofcphdjieaaGreatDoor
namespace Go.Proofs.YtmdnofcphdjieaaGreatDoor
open Go Go.Abs
set_option maxRecDepth 10000
attribute [local congr] qba qbb qbc qbd qbn qbe qbo qbp qbq qbr qbt qbu qcc qby qbs qbl qb7 qb1
abbrev CSt:=List Bool×List Int
def cvis (s:CSt) (y:Int):CSt:=if s.1.getD y.toNat false then s else (s.1.set y.toNat true,s.2++[y])
def cstp (o:List Int×List Int) (s:CSt) (k:Nat):CSt:=cvis (cvis s (o.1.getD (s.2.getD k 0).toNat 0)) (o.2.getD (s.2.getD k 0).toNat 0)
def cloop (o:List Int×List Int):Nat→Nat→CSt→CSt
 | 0,_,s=>s
 | f+1,k,s=>if k < s.2.length then cloop o f (k+1) (cstp o s k) else s
def cntB (l:List Bool):Nat:=l.countP fun z=>z
structure COk (n:Nat) (s:CSt):Prop where
 len:s.1.length=n
 ord:inB s.2 n=true
 cnt:s.2.length≤cntB s.1
theorem cntB_le (l:List Bool):cntB l≤l.length:=List.countP_le_length
theorem COk.le {n:Nat} {s:CSt} (h:COk n s):s.2.length≤n:=by
 have:=cntB_le s.1
 have:=h.cnt
 have:=h.len
 omega
theorem cntB_set {l:List Bool} {i:Nat} (hi:i < l.length) (hn:l.getD i false=false):cntB (l.set i true)=cntB l+1:=by
 induction l generalizing i with
 | nil=>simp at hi
 | cons x l ih =>
   cases i with
   | zero =>
     have hx:x=false:=by simpa using hn
     subst hx
     simp [cntB]
   | succ i =>
     have:=ih (i:=i) (by simpa using hi) (by simpa using hn)
     simp only [List.set_cons_succ,cntB,List.countP_cons] at this ⊢
     omega
theorem COk.vis {n:Nat} {s:CSt} (h:COk n s) {y:Int} (h0:0≤y) (h1:y < n):COk n (cvis s y):=by
 unfold cvis
 split
 ·exact h
 ·rename_i hy
  have hy:s.1.getD y.toNat false=false:=by simpa using hy
  have hyl:y.toNat < s.1.length:=by rw [h.len];omega
  refine ⟨by rw [List.length_set];exact h.len,?_,?_⟩
  ·unfold inB
   rw [List.all_append]
   have:=h.ord
   unfold inB at this
   rw [this]
   simp [h0,h1]
  ·show (s.2++[y]).length≤cntB (s.1.set y.toNat true)
   rw [cntB_set hyl hy,List.length_append]
   have:=h.cnt
   simp only [List.length_cons,List.length_nil]
   omega
theorem COk.stp {n:Nat} {o:List Int×List Int} {s:CSt} (h:COk n s) (h1:Pn n o.1) (h2:Pn n o.2) {k:Nat} (hk:k < s.2.length):COk n (cstp o s k):=by
 have hx:=qbh h.ord hk
 have ha:=qbh h1.2 (i:=(s.2.getD k 0).toNat) (by rw [h1.1];omega)
 have hb:=qbh h2.2 (i:=(s.2.getD k 0).toNat) (by rw [h2.1];omega)
 exact (h.vis ha.1 ha.2).vis hb.1 hb.2
theorem qj5 (s:CSt) (y:Int):s.2.length≤(cvis s y).2.length:=by
 unfold cvis
 split
 ·exact Nat.le_refl _
 ·simp
theorem uLL:Tryz.prog.underlying 62=some (.slice 43):=by kernel_rfl
theorem eLL:sliceElem Tryz.prog 62=some (43,1):=by kernel_rfl
theorem oLL:zeros Tryz.prog 43 1 1=some [.slice none 0 0]:=by kernel_rfl
theorem pVLL:okApp Tryz.prog 43 1=true:=by kernel_rfl
def ostep (o:List Int×List Int) (t:List Bool×List (List Int)) (i:Nat):List Bool×List (List Int) :=
 if t.1.getD i false then t else ((cloop o (o.1.length+1) 0 (t.1.set i true,[(i:Int)])).1,t.2++[sortI (cloop o (o.1.length+1) 0 (t.1.set i true,[(i:Int)])).2])
def oloop (o:List Int×List Int) (i:Nat):List Bool×List (List Int):=(List.range i).foldl (ostep o) (List.replicate o.1.length false,[])
theorem qe1 (o:List Int×List Int) (i:Nat):oloop o (i+1)=ostep o (oloop o i) i:=by simp [oloop,List.range_succ]
def comps (o:List Int×List Int):List (List Int):=(oloop o o.1.length).2
theorem COk.one {n:Nat} {l:List Bool} (hl:l.length=n) {i:Nat} (hi:i < n):COk n (l.set i true,[(i:Int)]):=by
 refine ⟨by rw [List.length_set];exact hl,by simp [inB];omega,?_⟩
 show 1≤cntB (l.set i true)
 unfold cntB
 have:true∈l.set i true:=List.mem_of_getElem? (i:=i) (by rw [List.getElem?_set,if_pos rfl,if_pos (by omega)])
 exact List.countP_pos_iff.2 ⟨true,this,rfl⟩
abbrev compsP (o:List Int×List Int):Bool:=Po o && decide (0 < o.1.length)
end Go.Proofs.YtmdnofcphdjieaaGreatDoor
namespace Go.Proofs.YtmdnofcphdjieaaGreatDoor
open Go Go.Abs
set_option maxRecDepth 10000
attribute [local congr] qba qbb qbc qbd qbn qbe qbo qbp qbq qbr qbt qbu qcc qby qbs qbl qb7 qb1
abbrev Og:=List Int×List Int
def ckF (l:List Og) (i:Nat):Int:=(l.take i).foldl (fun e o=>if e=0 then checkE o else e) 0
theorem qrn {l:List Og} {i:Nat} (hi:i < l.length):ckF l (i+1)=if ckF l i=0 then checkE (l.getD i ([],[])) else ckF l i:=by
 unfold ckF
 rw [List.take_add_one,List.getElem?_eq_getElem hi,List.foldl_append]
 simp [hi]
def splitF (l:List Og) (i:Nat):Bool:=(List.range i).any fun j=>decide (1 < (comps (l.getD j ([],[]))).length)
theorem qko (l:List Og) (i:Nat):splitF l (i+1)=(splitF l i || decide (1 < (comps (l.getD i ([],[]))).length)):=by simp [splitF,List.range_succ]
def conE (l:List Og):Int:=if ckF l l.length≠0 then ckF l l.length else if splitF l l.length then 16 else 0
theorem qj6 {p:List Int} (h:permE p=0):inB p p.length=true:=by
 unfold permE at h
 split at h
 ·assumption
 ·cases h
theorem qro {r u:List Int} (h:checkE (r,u)=0):compsP (r,u)=true∧r.length≤60:=by
 unfold checkE at h
 split at h
 ·cases h
 rename_i h1
 split at h
 ·cases h
 rename_i h2
 have h3:permE r=0∧permE u=0:=by
  by_cases hp:permE r=0
  ·rw [if_neg (by simpa using hp)] at h;exact ⟨hp,h⟩
  ·rw [if_pos hp] at h;exact absurd h hp
 have hl:r.length=u.length:=by
  by_cases e:r.length=u.length
  ·exact e
  ·exact absurd (.inl e) h1
 have hz:r.length≠0:=fun e=>h1 (.inr e)
 have h60:r.length≤60:=Nat.le_of_not_lt h2
 have q1:=qj6 h3.1
 have q2:=qj6 h3.2
 rw [← hl] at q2
 refine ⟨?_,h60⟩
 simp only [compsP,Bool.and_eq_true,decide_eq_true_eq]
 exact ⟨qfc.2 ⟨⟨rfl,q1⟩,⟨hl.symm,q2⟩,by show r.length≤1000;omega⟩,Nat.pos_of_ne_zero hz⟩
theorem lls_len (l:List (List Int)):(lls l).length=l.length:=List.length_map ..
end Go.Proofs.YtmdnofcphdjieaaGreatDoor
namespace Go.Proofs.YtmdnofcphdjieaaGreatDoor
open Go Go.Abs
theorem qkp {p:List Int} (hp:inB p p.length=true):∀ {j:Nat},j≤p.length→∀ {x:Nat},x < p.length→((seenK p j).getD x false=true↔∃ i,i < j∧(p.getD i 0).toNat=x):=by
 intro j
 induction j with
 | zero=>intro _ x hx;simp [seenK,List.getD_eq_getElem?_getD,hx]
 | succ j ih =>
   intro hj x hx
   have:=ih (by omega) hx
   have hb:=qbh hp (i:=j) (by omega)
   rw [qix,List.getD_eq_getElem?_getD,List.getElem?_set]
   by_cases e:(p.getD j 0).toNat=x
   ·rw [if_pos e,if_pos (by rw [qob];omega)]
    simp only [Option.getD_some,true_iff]
    exact ⟨j,by omega,e⟩
   ·rw [if_neg e,← List.getD_eq_getElem?_getD,this]
    constructor
    ·rintro ⟨i,h1,h2⟩;exact ⟨i,by omega,h2⟩
    ·rintro ⟨i,h1,h2⟩
     rcases Nat.lt_or_ge i j with h | h
     ·exact ⟨i,h,h2⟩
     ·have:i=j:=by omega
      subst this;exact absurd h2 e
theorem qmu {p:List Int} (h:permE p=0) {i j:Nat} (hi:i < p.length) (hj:j < p.length) (e:p.getD i 0=p.getD j 0):i=j:=by
 have hb:=qj6 h
 have hd:dupK p p.length=false:=by
  unfold permE at h
  rw [if_pos hb] at h
  cases hd:dupK p p.length with
  | false=>rfl
  | true=>rw [hd] at h;cases h
 have key:∀ a b,a < b→b < p.length→p.getD a 0≠p.getD b 0:=by
  intro a b hab hbl e
  have hq:=qbh hb hbl
  have:(seenK p b).getD (p.getD b 0).toNat false=true:=(qkp hb (by omega) (by omega)).2 ⟨a,hab,by rw [e]⟩
  have ht:dupK p p.length=true:=by
   unfold dupK
   rw [List.any_eq_true]
   exact ⟨b,List.mem_range.2 hbl,this⟩
  rw [hd] at ht;cases ht
 rcases Nat.lt_trichotomy i j with h | h | h
 ·exact absurd e (key i j h hj)
 ·exact h
 ·exact absurd e.symm (key j i h hi)
theorem nd_le:∀ {l m:List Nat},l.Nodup→(∀ x∈l,x∈m)→l.length≤m.length:=by
 intro l
 induction l with
 | nil=>intro m _ _;simp
 | cons a l ih =>
   intro m h hs
   rw [List.nodup_cons] at h
   have ha:=hs a (by simp)
   have:=ih (m:=m.erase a) h.2 fun x hx=>by
    have hne:x≠a:=fun e=>h.1 (e▸hx)
    exact (List.mem_erase_of_ne hne).2 (hs x (by simp [hx]))
   rw [List.length_erase_of_mem ha] at this
   have hp:0 < m.length:=List.length_pos_of_mem ha
   simp only [List.length_cons]
   omega
theorem qp1 {n:Nat} {g:Nat→Nat} (hg:∀ i,i < n→g i < n) (hinj:∀ i j,i < n→j < n→g i=g j→i=j) {S:Nat→Bool} (hS:∀ i,i < n→S i=true→S (g i)=true) {x:Nat} (hx:x < n) (h:S (g x)=true):S x=true:=by
 have hnd:((List.range n).filter S).Nodup:=List.Pairwise.filter S List.nodup_range
 have hmap:(((List.range n).filter S).map g).Nodup:=by
  unfold List.Nodup
  rw [List.pairwise_map]
  refine List.Pairwise.imp_of_mem ?_ hnd
  intro a b ha hb hab e
  rw [List.mem_filter,List.mem_range] at ha hb
  exact hab (hinj a b ha.1 hb.1 e)
 have hmem:g x∈(List.range n).filter S:=by rw [List.mem_filter,List.mem_range];exact ⟨hg x hx,h⟩
 cases hsx:S x with
 | true=>rfl
 | false =>
   exfalso
   have:=nd_le (m:=((List.range n).filter S).erase (g x)) hmap fun y hy=>by
    obtain ⟨a,ha,rfl⟩:=List.mem_map.1 hy
    rw [List.mem_filter,List.mem_range] at ha
    have hne:g a≠g x:=fun e=>by
     have:=hinj a x ha.1 hx e
     subst this
     rw [hsx] at ha;exact absurd ha.2 (by simp)
    refine (List.mem_erase_of_ne hne).2 ?_
    rw [List.mem_filter,List.mem_range]
    exact ⟨hg a ha.1,hS a ha.1 ha.2⟩
   rw [List.length_erase_of_mem hmem,List.length_map] at this
   have hp:0 < ((List.range n).filter S).length:=List.length_pos_of_mem hmem
   omega
def hasN (s:NSt) (y:Nat):Bool:=decide (0≤s.1.getD y 0)
structure NCl (n:Nat) (o:Og) (K:Nat) (s:NSt):Prop where
 mem:∀ y,y < n→hasN s y=true→∃ k,k < s.2.length∧s.2.getD k 0=(y:Int)
 cl:∀ k,k < K→hasN s (o.1.getD (s.2.getD k 0).toNat 0).toNat=true∧hasN s (o.2.getD (s.2.getD k 0).toNat 0).toNat=true
 lt:∀ y,y < n→s.1.getD y 0 < s.2.length
theorem qdk {l:List Int} {i j:Nat} {z:Int} (hi:i < l.length):(l.set i z).getD j 0=if i=j then z else l.getD j 0:=by
 rw [List.getD_eq_getElem?_getD,List.getElem?_set]
 by_cases e:i=j
 ·rw [if_pos e,if_pos hi,if_pos e];rfl
 ·rw [if_neg e,if_neg e,List.getD_eq_getElem?_getD]
theorem qf1 {l:List Int} {z:Int} {k:Nat} (h:k < l.length):(l++[z]).getD k 0=l.getD k 0:=by
 rw [List.getD_eq_getElem?_getD,List.getElem?_append_left h,List.getD_eq_getElem?_getD]
theorem qfq {s:NSt} {z:Int} {k:Nat} (h:k < s.2.length):(visit s z).2.getD k 0=s.2.getD k 0:=by
 unfold visit
 split
 ·exact qf1 h
 ·rfl
theorem qfr {n:Nat} {s:NSt} (hs:NOk n s) {z:Int} (h1:z.toNat < n) {y:Nat} (h:hasN s y=true):hasN (visit s z) y=true:=by
 unfold visit
 split
 ·unfold hasN at h ⊢
  show decide (0≤(s.1.set z.toNat (s.2.length:Int)).getD y 0)=true
  rw [qdk (by rw [hs.len];exact h1)]
  split
  ·exact decide_eq_true (by omega)
  ·exact h
 ·exact h
theorem ql1 {n:Nat} {s:NSt} (hs:NOk n s) {z:Int} (h1:z.toNat < n):hasN (visit s z) z.toNat=true:=by
 unfold visit
 split
 ·unfold hasN
  show decide (0≤(s.1.set z.toNat (s.2.length:Int)).getD z.toNat 0)=true
  rw [qdk (by rw [hs.len];exact h1),if_pos rfl]
  exact decide_eq_true (by omega)
 ·rename_i hn
  unfold hasN
  exact decide_eq_true (by omega)
theorem NCl.visit {n:Nat} {o:Og} {K:Nat} {s:NSt} (hs:NOk n s) (h:NCl n o K s) (hK:K≤s.2.length) {z:Int} (h0:0≤z) (h1:z.toNat < n):NCl n o K (YtmdnofcphdjieaaGreatDoor.visit s z):=by
 refine ⟨fun y hy hh=>?_,fun k hk=>?_,fun y hy=>?_⟩
 ·by_cases e:hasN s y=true
  ·obtain ⟨k,hk,hke⟩:=h.mem y hy e
   refine ⟨k,Nat.lt_of_lt_of_le hk (qdt _ _),by rw [qfq hk,hke]⟩
  ·unfold YtmdnofcphdjieaaGreatDoor.visit at hh ⊢
   split at hh
   ·rename_i hz
    rw [if_pos hz]
    unfold hasN at hh e
    have hh:decide (0≤(s.1.set z.toNat (s.2.length:Int)).getD y 0)=true:=hh
    rw [qdk (by rw [hs.len];exact h1)] at hh
    split at hh
    ·rename_i hzy
     refine ⟨s.2.length,by simp,?_⟩
     rw [List.getD_eq_getElem?_getD,List.getElem?_append_right (Nat.le_refl _),Nat.sub_self]
     show z=(y:Int)
     omega
    ·exact absurd hh e
   ·exact absurd hh e
 ·rw [qfq (by omega)]
  exact ⟨qfr hs h1 (h.cl k hk).1,qfr hs h1 (h.cl k hk).2⟩
 ·have hl:=qdt s z
  have hb:=h.lt y hy
  unfold YtmdnofcphdjieaaGreatDoor.visit at hl ⊢
  split
  ·show (s.1.set z.toNat (s.2.length:Int)).getD y 0 < ((s.2++[z]).length:Int)
   rw [qdk (by rw [hs.len];exact h1),List.length_append]
   split
   ·simp only [List.length_cons,List.length_nil];omega
   ·simp only [List.length_cons,List.length_nil];omega
  ·exact hb
theorem NCl.step {n:Nat} {o:Og} {s:NSt} (h1:Pn n o.1) (h2:Pn n o.2) {K:Nat} (hs:NOk n s) (h:NCl n o K s) (hK:K < s.2.length):NCl n o (K+1) (nstep o s K):=by
 have hx:=qbh hs.ord hK
 have ha:=qbh h1.2 (i:=(s.2.getD K 0).toNat) (by rw [h1.1];omega)
 have hb:=qbh h2.2 (i:=(s.2.getD K 0).toNat) (by rw [h2.1];omega)
 have q1:=h.visit hs (by omega) ha.1 (by omega)
 have o1:=hs.visit ha.1 ha.2
 have q2:=q1.visit o1 (Nat.le_trans (Nat.le_of_lt hK) (qdt _ _)) hb.1 (by omega)
 have hl1:=qdt s (o.1.getD (s.2.getD K 0).toNat 0)
 refine ⟨q2.mem,fun k hk=>?_,q2.lt⟩
 rcases Nat.lt_or_ge k K with hlt | hge
 ·exact q2.cl k hlt
 ·have:k=K:=by omega
  subst this
  unfold nstep
  rw [qfq (by omega),qfq hK]
  exact ⟨qfr o1 (by omega) (ql1 hs (by omega)),ql1 o1 (by omega)⟩
theorem NCl.loop {n:Nat} {o:Og} (h1:Pn n o.1) (h2:Pn n o.2):∀ {f K:Nat} {s:NSt},NOk n s→NCl n o K s→K≤s.2.length→n+1≤f+K→NCl n o (nloop o f K s).2.length (nloop o f K s)∧NOk n (nloop o f K s)
 | 0,K,s,hs,h,hK,hf=>by
   have:=hs.le
   exact absurd hf (by omega)
 | f+1,K,s,hs,h,hK,hf=>by
   rw [nloop]
   split
   ·rename_i hlt
    refine NCl.loop h1 h2 (hs.step h1 h2 hlt) (h.step h1 h2 hs hlt) ?_ (by omega)
    have l1:=qdt s (o.1.getD (s.2.getD K 0).toNat 0)
    have l2:=qdt (YtmdnofcphdjieaaGreatDoor.visit s (o.1.getD (s.2.getD K 0).toNat 0)) (o.2.getD (s.2.getD K 0).toNat 0)
    unfold nstep
    omega
   ·rename_i hge
    have:K=s.2.length:=by omega
    subst this
    exact ⟨h,hs⟩
theorem ql2 {n:Nat} {o:Og} (h1:Pn n o.1) (h2:Pn n o.2):∀ {f K:Nat} {s:NSt},NOk n s→∀ {y:Nat},hasN s y=true→hasN (nloop o f K s) y=true
 | 0,_,_,_,_,h=>h
 | f+1,K,s,hs,y,h=>by
   rw [nloop]
   split
   ·rename_i hK
    have hx:=qbh hs.ord hK
    have ha:=qbh h1.2 (i:=(s.2.getD K 0).toNat) (by rw [h1.1];omega)
    have hb:=qbh h2.2 (i:=(s.2.getD K 0).toNat) (by rw [h2.1];omega)
    exact ql2 h1 h2 (hs.step h1 h2 hK) (qfr (hs.visit ha.1 ha.2) (by omega) (qfr hs (by omega) h))
   ·exact h
theorem NCl.start {n:Nat} {o:Og} {x:Int} (h0:0≤x) (h1:x < n):NCl n o 0 (nstart n x):=by
 have hg:∀ y,y < n→(nstart n x).1.getD y 0=if x.toNat=y then 0 else -1:=by
  intro y hy
  show ((List.replicate n (-1:Int)).set x.toNat 0).getD y 0=_
  rw [qdk (by simp;omega)]
  split
  ·rfl
  ·rw [List.getD_eq_getElem?_getD,List.getElem?_replicate,if_pos hy];rfl
 refine ⟨fun y hy hh=>⟨0,by simp [nstart],?_⟩,fun k hk=>absurd hk (by omega),fun y hy=>?_⟩
 ·unfold hasN at hh
  rw [hg y hy] at hh
  split at hh
  ·show x=(y:Int)
   omega
  ·exact absurd hh (by decide)
 ·rw [hg y hy]
  show _ < ((1:Nat):Int)
  split<;>omega
inductive Rch (o:Og):Nat→Prop
 | zero:Rch o 0
 | right {x:Nat}:Rch o x→Rch o (o.1.getD x 0).toNat
 | up {x:Nat}:Rch o x→Rch o (o.2.getD x 0).toNat
structure CRe (n:Nat) (o:Og) (s:CSt):Prop where
 seen:∀ y,y < n→s.1.getD y false=true→Rch o y
 part:∀ k,k < s.2.length→Rch o (s.2.getD k 0).toNat
theorem qdr {l:List Bool} {i j:Nat} {z:Bool} (hi:i < l.length):(l.set i z).getD j false=if i=j then z else l.getD j false:=by
 rw [List.getD_eq_getElem?_getD,List.getElem?_set]
 by_cases e:i=j
 ·rw [if_pos e,if_pos hi,if_pos e];rfl
 ·rw [if_neg e,if_neg e,List.getD_eq_getElem?_getD]
theorem CRe.vis {n:Nat} {o:Og} {s:CSt} (hs:COk n s) (h:CRe n o s) {z:Int} (h1:z.toNat < n) (hz:Rch o z.toNat):CRe n o (cvis s z):=by
 unfold cvis
 split
 ·exact h
 ·refine ⟨fun y hy hh=>?_,fun k hk=>?_⟩
  ·have hh:(s.1.set z.toNat true).getD y false=true:=hh
   rw [qdr (by rw [hs.len];exact h1)] at hh
   split at hh
   ·rename_i e;rw [← e];exact hz
   ·exact h.seen y hy hh
  ·show Rch o ((s.2++[z]).getD k 0).toNat
   rcases Nat.lt_or_ge k s.2.length with hl | hl
   ·rw [qf1 hl];exact h.part k hl
   ·have hk:k < (s.2++[z]).length:=hk
    rw [List.length_append] at hk
    simp only [List.length_cons,List.length_nil] at hk
    have:k=s.2.length:=by omega
    subst this
    rw [List.getD_eq_getElem?_getD,List.getElem?_append_right (Nat.le_refl _),Nat.sub_self]
    exact hz
theorem qj7 {s:CSt} {z:Int} {k:Nat} (h:k < s.2.length):(cvis s z).2.getD k 0=s.2.getD k 0:=by
 unfold cvis
 split
 ·rfl
 ·exact qf1 h
theorem CRe.loop {n:Nat} {o:Og} (h1:Pn n o.1) (h2:Pn n o.2):∀ {f K:Nat} {s:CSt},COk n s→CRe n o s→CRe n o (cloop o f K s)
 | 0,_,_,_,h=>h
 | f+1,K,s,hs,h=>by
   rw [cloop]
   split
   ·rename_i hK
    have hx:=qbh hs.ord hK
    have ha:=qbh h1.2 (i:=(s.2.getD K 0).toNat) (by rw [h1.1];omega)
    have hb:=qbh h2.2 (i:=(s.2.getD K 0).toNat) (by rw [h2.1];omega)
    exact CRe.loop h1 h2 (hs.stp h1 h2 hK) ((h.vis hs (by omega) (h.part K hK).right).vis (hs.vis ha.1 ha.2) (by omega) (h.part K hK).up)
   ·exact h
theorem qoc {o:Og} (h1:Pn o.1.length o.1) (h2:Pn o.1.length o.2) (hn:0 < o.1.length) (hc:(comps o).length≤1) {y:Nat} (hy:y < o.1.length):Rch o y:=by
 have hlen0:(List.replicate o.1.length false).length=o.1.length:=by simp
 have hst:ostep o (List.replicate o.1.length false,[]) 0=((cloop o (o.1.length+1) 0 ((List.replicate o.1.length false).set 0 true,[((0:Nat):Int)])).1,[]++[sortI (cloop o (o.1.length+1) 0 ((List.replicate o.1.length false).set 0 true,[((0:Nat):Int)])).2]):=by
  unfold ostep
  rw [if_neg]
  show ¬ (List.replicate o.1.length false).getD 0 false=true
  rw [List.getD_eq_getElem?_getD,List.getElem?_replicate,if_pos hn];simp
 have hre:CRe o.1.length o (cloop o (o.1.length+1) 0 ((List.replicate o.1.length false).set 0 true,[((0:Nat):Int)])):=by
  refine CRe.loop h1 h2 (COk.one hlen0 hn) ⟨fun z hz hh=>?_,fun k hk=>?_⟩
  ·have hh:((List.replicate o.1.length false).set 0 true).getD z false=true:=hh
   rw [qdr (by rw [hlen0];exact hn)] at hh
   split at hh
   ·rename_i e;rw [← e];exact .zero
   ·rw [List.getD_eq_getElem?_getD,List.getElem?_replicate,if_pos hz] at hh;cases hh
  ·have hk:k < 1:=hk
   have:k=0:=by omega
   subst this
   exact .zero
 generalize hR:cloop o (o.1.length+1) 0 ((List.replicate o.1.length false).set 0 true,[((0:Nat):Int)])=R at hst hre
 -- the list only grows
 have grow:∀ i j,i≤j→(oloop o i).2.length≤(oloop o j).2.length:=by
  intro i j hij
  induction j with
  | zero=>have:i=0:=by omega
          subst this;exact Nat.le_refl _
  | succ j ih =>
    rcases Nat.lt_or_ge j i with h | h
    ·have:i=j+1:=by omega
     subst this;exact Nat.le_refl _
    ·refine Nat.le_trans (ih h) ?_
     rw [qe1]
     unfold ostep
     split
     ·exact Nat.le_refl _
     ·simp
 have same:∀ i,1≤i→i≤o.1.length→(oloop o i).1=R.1∧(oloop o i).2.length=1:=by
  intro i
  induction i with
  | zero=>intro h;omega
  | succ i ih =>
    intro _ hi
    rcases Nat.eq_zero_or_pos i with rfl | hp
    ·rw [qe1]
     show (ostep o (List.replicate o.1.length false,[]) 0).1=R.1∧_
     rw [show ostep o (oloop o 0) 0=ostep o (List.replicate o.1.length false,[]) 0 from rfl,hst]
     exact ⟨rfl,rfl⟩
    ·obtain ⟨q1,q2⟩:=ih hp (by omega)
     have g:=grow (i+1) o.1.length hi
     rw [qe1] at g ⊢
     unfold ostep at g ⊢
     split
     ·exact ⟨q1,q2⟩
     ·rename_i hne
      rw [if_neg hne] at g
      have hc':(oloop o o.1.length).2.length≤1:=hc
      simp only [List.length_append,List.length_cons,List.length_nil,q2] at g
      omega
 rcases Nat.eq_zero_or_pos y with rfl | hp
 ·exact .zero
 ·obtain ⟨q1,q2⟩:=same y hp (by omega)
  obtain ⟨q3,q4⟩:=same (y+1) (by omega) (by omega)
  have hs:(oloop o y).1.getD y false=true:=by
   cases hb:(oloop o y).1.getD y false with
   | true=>rfl
   | false =>
     rw [qe1] at q4
     unfold ostep at q4
     rw [if_neg (by rw [hb];simp)] at q4
     simp only [List.length_append,List.length_cons,List.length_nil,q2] at q4
     omega
  rw [q1] at hs
  exact hre.seen y hy hs
theorem Rch.lt {o:Og} (h1:Pn o.1.length o.1) (h2:Pn o.1.length o.2) (hn:0 < o.1.length) {y:Nat} (h:Rch o y):y < o.1.length:=by
 induction h with
 | zero=>exact hn
 | right _ ih=>have:=qbh h1.2 (i:=_) ih;omega
 | up _ ih =>
   have:=qbh h2.2 (i:=_) (by rw [h2.1];exact ih)
   omega
theorem num_all {o:Og} (hck:checkE o=0) (hc:(comps o).length≤1) {x:Int} (h0:0≤x) (hx:x < o.1.length):inB (numL o x) o.1.length=true∧(numL o x).length=o.1.length:=by
 obtain ⟨r,u⟩:=o
 obtain ⟨hP,h60⟩:=qro hck
 simp only [compsP,Bool.and_eq_true,decide_eq_true_eq] at hP
 obtain ⟨hP,hn⟩:=hP
 obtain ⟨h1,h2,_⟩:=qfc.1 hP
 replace h1:Pn r.length r:=h1
 replace h2:Pn r.length u:=h2
 replace hn:0 < r.length:=hn
 replace hx:x < (r.length:Int):=hx
 have hp:permE r=0∧permE u=0:=by
  unfold checkE at hck
  split at hck
  ·cases hck
  split at hck
  ·cases hck
  by_cases hp:permE r=0
  ·rw [if_neg (by simpa using hp)] at hck;exact ⟨hp,hck⟩
  ·rw [if_pos hp] at hck;exact absurd hck hp
 obtain ⟨hcl,hok⟩:=NCl.loop (o:=(r,u)) h1 h2 (NOk.start (n:=r.length) h0 hx) (NCl.start h0 hx) (Nat.zero_le _) (f:=r.length+1) (by omega)
 have hnum:(numL (r,u) x)=(nloop (r,u) (r.length+1) 0 (nstart r.length x)).1:=rfl
 have hself:hasN (nloop (r,u) (r.length+1) 0 (nstart r.length x)) x.toNat=true:=by
  refine ql2 h1 h2 (NOk.start (n:=r.length) h0 hx) ?_
  unfold hasN
  show decide (0≤((List.replicate r.length (-1:Int)).set x.toNat 0).getD x.toNat 0)=true
  rw [qdk (by simp;omega),if_pos rfl]
  rfl
 generalize nloop (r,u) (r.length+1) 0 (nstart r.length x)=R at hcl hok hnum hself
 have hr:∀ i,i < r.length→(r.getD i 0).toNat < r.length:=fun i hi=>by have:=qbh h1.2 hi;omega
 have hu:∀ i,i < r.length→(u.getD i 0).toNat < r.length:=fun i hi=>by have:=qbh h2.2 (i:=i) (by rw [h2.1];exact hi);omega
 have ir:∀ i j,i < r.length→j < r.length→(r.getD i 0).toNat=(r.getD j 0).toNat→i=j:=fun i j hi hj e=>by
  have a:=qbh h1.2 hi
  have b:=qbh h1.2 hj
  exact qmu hp.1 hi hj (by omega)
 have iu:∀ i j,i < r.length→j < r.length→(u.getD i 0).toNat=(u.getD j 0).toNat→i=j:=fun i j hi hj e=>by
  have a:=qbh h2.2 (i:=i) (by rw [h2.1];exact hi)
  have b:=qbh h2.2 (i:=j) (by rw [h2.1];exact hj)
  exact qmu hp.2 (by rw [h2.1];exact hi) (by rw [h2.1];exact hj) (by omega)
 have Sr:∀ i,i < r.length→hasN R i=true→hasN R (r.getD i 0).toNat=true:=fun i hi hh=>by
  obtain ⟨k,hk,e⟩:=hcl.mem i hi hh
  have:=(hcl.cl k hk).1
  rw [e,Int.toNat_natCast] at this
  exact this
 have Su:∀ i,i < r.length→hasN R i=true→hasN R (u.getD i 0).toNat=true:=fun i hi hh=>by
  obtain ⟨k,hk,e⟩:=hcl.mem i hi hh
  have:=(hcl.cl k hk).2
  rw [e,Int.toNat_natCast] at this
  exact this
 have hrch:∀ y,y < r.length→Rch (r,u) y:=fun y hy=>qoc (o:=(r,u)) h1 h2 hn hc hy
 have hRl:∀ {y},Rch (r,u) y→y < r.length:=fun h=>Rch.lt (o:=(r,u)) h1 h2 hn h
 have back:∀ y,Rch (r,u) y→hasN R y=true→hasN R 0=true:=by
  intro y h
  induction h with
  | zero=>exact id
  | right h ih=>exact fun hh=>ih (qp1 hr ir Sr (hRl h) hh)
  | up h ih=>exact fun hh=>ih (qp1 hu iu Su (hRl h) hh)
 -- the square itself has a number
 have hx0:hasN R 0=true:=back _ (hrch _ (by omega)) hself
 have fwd:∀ y,Rch (r,u) y→hasN R y=true:=by
  intro y h
  induction h with
  | zero=>exact hx0
  | right h ih=>exact Sr _ (hRl h) ih
  | up h ih=>exact Su _ (hRl h) ih
 rw [hnum]
 refine ⟨?_,hok.len⟩
 unfold inB
 rw [List.all_eq_true]
 intro z hz
 obtain ⟨i,hi,rfl⟩:=List.getElem_of_mem hz
 have hi':i < r.length:=by rw [hok.len] at hi;exact hi
 have a:=fwd i (hrch i hi')
 have b:=hcl.lt i hi'
 have c:=hok.le
 have e:R.1.getD i 0=R.1[i]:=by simp [hi]
 unfold hasN at a
 rw [e] at a b
 simp only [Bool.and_eq_true,decide_eq_true_eq] at a ⊢
 show 0≤R.1[i]∧R.1[i] < (r.length:Int)
 omega
end Go.Proofs.YtmdnofcphdjieaaGreatDoor
namespace Go.Proofs.YtmdnofcphdjieaaGreatDoor
open Go Go.Abs
set_option maxRecDepth 10000
attribute [local congr] qba qbb qbc qbd qbn qbe qbo qbp qbq qbr qbt qbu qcc qby qbs qbl qb7 qb1
def renF (f l:List Int) (j:Nat):Int:=f.getD (l.getD j 0).toNat 0
def renK (f l:List Int) (i:Nat):List Int:=(List.range i).foldl (fun (o:List Int) (j:Nat)=>o.set (f.getD j 0).toNat (renF f l j)) (List.replicate f.length 0)
theorem qh3 (f l:List Int) (i:Nat):renK f l (i+1)=(renK f l i).set (f.getD i 0).toNat (renF f l i):=by simp [renK,List.range_succ]
theorem qj8 (f l:List Int) (i:Nat):(renK f l i).length=f.length:=by
 induction i with
 | zero=>simp [renK]
 | succ i ih=>rw [qh3,List.length_set,ih]
def renL (f l:List Int):List Int:=renK f l f.length
theorem qh4 (f l:List Int):(renL f l).length=f.length:=qj8 f l _
def renO (o:List Int×List Int) (f:List Int):List Int×List Int:=(renL f o.1,renL f o.2)
abbrev renP (o:List Int×List Int) (f:List Int):Bool:=Po o && inB f o.1.length && decide (f.length=o.1.length)
abbrev renS:VSpec:=spec2 cO cL renP (fun o f=>encO (renO o f)) false
end Go.Proofs.YtmdnofcphdjieaaGreatDoor
namespace Go.Proofs.YtmdnofcphdjieaaGreatDoor
open Go Go.Abs
set_option maxRecDepth 10000
attribute [local congr] qba qbb qbc qbd qbn qbe qbo qbp qbq qbr qbt qbu qcc qby qbs qbl qb7 qb1
abbrev LSt:=Option (Og×List Int)
def lpick (o:Og) (b:LSt) (s:Nat):LSt:=match b with
 | none=>some (renO o (numL o (s:Int)),numL o (s:Int))
 | some y=>if cmpO (renO o (numL o (s:Int))) y.1 < 0 then some (renO o (numL o (s:Int)),numL o (s:Int)) else some y
def labK (o:Og) (i:Nat):LSt:=(List.range i).foldl (lpick o) none
theorem qgd (o:Og) (i:Nat):labK o (i+1)=lpick o (labK o i) i:=by simp [labK,List.range_succ]
def labO (o:Og):Og×List Int:=(labK o o.1.length).getD (([],[]),[])
def lab1 (o:Og):Og:=(labO o).1
theorem qmv (o:Og) (f:List Int):(renO o f).1.length=f.length∧(renO o f).2.length=f.length:=⟨qh4 _ _,qh4 _ _⟩
theorem bO0 {σ:VSt}:buildV Tryz.prog σ 45 []=some (.st [.nl,.nl]):=by
 unfold buildV
 rw [iO,uO]
 simp only [oO,fillV,Option.map_some]
abbrev lgO (o:Og):Bool:=decide (o.1.length≤1000000) && decide (o.2.length≤1000000)
theorem qrp {o:Og} (h:conE [o]=0):checkE o=0∧(comps o).length≤1:=by
 unfold conE at h
 split at h
 ·rename_i hn;exact absurd h hn
 rename_i hz
 have hz:ckF [o] 1=0:=by simpa using hz
 split at h
 ·cases h
 rename_i hs
 have h1:checkE o=0:=by
  have:=qrn (l:=[o]) (i:=0) (by simp)
  rw [if_pos (by rfl)] at this
  rw [hz] at this
  exact this.symm
 refine ⟨h1,?_⟩
 have:splitF [o] 1=false:=by simpa using hs
 rw [qko] at this
 simp only [Bool.or_eq_false_iff,decide_eq_false_iff_not] at this
 have h2:=this.2
 have:¬ (1 < (comps o).length):=h2
 omega
theorem qkq {o:Og} {i:Nat} (h:0 < i):∃ y,labK o i=some y:=by
 obtain ⟨j,rfl⟩:∃ j,i=j+1:=⟨i - 1,by omega⟩
 rw [qgd]
 unfold lpick
 split
 ·exact ⟨_,rfl⟩
 ·split
  ·exact ⟨_,rfl⟩
  ·exact ⟨_,rfl⟩
end Go.Proofs.YtmdnofcphdjieaaGreatDoor
namespace Go.Proofs.YtmdnofcphdjieaaGreatDoor
open Go Go.Abs
set_option maxRecDepth 10000
attribute [local congr] qba qbb qbc qbd qbn qbe qbo qbp qbq qbr qbt qbu qcc qby qbs qbl qb7 qb1
def Co (o:Og):Bool:=lgO o && decide (conE [o]=0)
theorem qod {o:Og}:Co o=true↔lgO o=true∧conE [o]=0:=by unfold Co;simp only [Bool.and_eq_true,decide_eq_true_eq]
abbrev olabS:VSpec:=spec1 cO Co (fun o=>encO (lab1 o)) false
end Go.Proofs.YtmdnofcphdjieaaGreatDoor
namespace Go.Proofs.YtmdnofcphdjieaaGreatDoor
open Go Go.Abs
structure Pm (n:Nat) (p:List Int):Prop where
 pn:Pn n p
 inj:∀ i j,i < n→j < n→p.getD i 0=p.getD j 0→i=j
def stp (p:List Int) (i:Nat):Nat:=(p.getD i 0).toNat
theorem Pm.lt {n:Nat} {p:List Int} (h:Pm n p) {i:Nat} (hi:i < n):stp p i < n:=by
 have:=qbh h.pn.2 (i:=i) (by rw [h.pn.1];exact hi)
 unfold stp;omega
theorem Pm.eq {n:Nat} {p:List Int} (h:Pm n p) {i:Nat} (hi:i < n):p.getD i 0=(stp p i:Int):=by
 have:=qbh h.pn.2 (i:=i) (by rw [h.pn.1];exact hi)
 unfold stp;omega
theorem Pm.inj' {n:Nat} {p:List Int} (h:Pm n p) {i j:Nat} (hi:i < n) (hj:j < n) (e:stp p i=stp p j):i=j :=
 h.inj i j hi hj (by rw [h.eq hi,h.eq hj,e])
theorem Pm.back {n:Nat} {p:List Int} (h:Pm n p) {S:Nat→Bool} (hS:∀ i,i < n→S i=true→S (stp p i)=true) {x:Nat} (hx:x < n) (hh:S (stp p x)=true):S x=true :=
 qp1 (g:=stp p) (fun _ hi=>h.lt hi) (fun _ _ hi hj e=>h.inj' hi hj e) hS hx hh
theorem Pm.onto {n:Nat} {p:List Int} (h:Pm n p) {y:Nat} (hy:y < n):∃ x,x < n∧stp p x=y:=by
 have hnd:(List.range n).Nodup:=List.nodup_range
 have hmap:((List.range n).map (stp p)).Nodup:=by
  unfold List.Nodup
  rw [List.pairwise_map]
  refine List.Pairwise.imp_of_mem ?_ hnd
  intro a b ha hb hab e
  rw [List.mem_range] at ha hb
  exact hab (h.inj' ha hb e)
 by_cases hm:y∈(List.range n).map (stp p)
 ·obtain ⟨x,hx,e⟩:=List.mem_map.1 hm
  exact ⟨x,List.mem_range.1 hx,e⟩
 ·exfalso
  have:=nd_le (m:=(List.range n).erase y) hmap fun z hz=>by
   obtain ⟨a,ha,rfl⟩:=List.mem_map.1 hz
   rw [List.mem_range] at ha
   have hne:stp p a≠y:=fun e=>hm (by rw [← e];exact hz)
   exact (List.mem_erase_of_ne hne).2 (List.mem_range.2 (h.lt ha))
  rw [List.length_erase_of_mem (List.mem_range.2 hy),List.length_map,List.length_range] at this
  omega
theorem perm_of {p:List Int} (h:Pm p.length p):permE p=0:=by
 unfold permE
 rw [if_pos h.pn.2]
 have hd:dupK p p.length=false:=by
  cases hb:dupK p p.length with
  | false=>rfl
  | true =>
    exfalso
    unfold dupK at hb
    rw [List.any_eq_true] at hb
    obtain ⟨j,hj,hs⟩:=hb
    rw [List.mem_range] at hj
    obtain ⟨i,hi,e⟩:=(qkp h.pn.2 (by omega) (h.lt hj)).1 hs
    have:=h.inj' (i:=i) (j:=j) (by omega) hj e
    omega
 rw [if_neg (by rw [hd];simp)]
theorem qrq {p:List Int} (h:permE p=0):Pm p.length p:=⟨⟨rfl,qj6 h⟩,fun _ _ hi hj e=>qmu h hi hj e⟩
structure Vo (n:Nat) (o:Og):Prop where
 r:Pm n o.1
 u:Pm n o.2
 pos:0 < n
 le:n≤60
theorem qh5 {o:Og} (h:checkE o=0):Vo o.1.length o:=by
 obtain ⟨r,u⟩:=o
 obtain ⟨hP,h60⟩:=qro h
 simp only [compsP,Bool.and_eq_true,decide_eq_true_eq] at hP
 have hl:=(qfc.1 hP.1).2.1.1
 have hp:permE r=0∧permE u=0:=by
  unfold checkE at h
  split at h
  ·cases h
  split at h
  ·cases h
  by_cases hp:permE r=0
  ·rw [if_neg (by simpa using hp)] at h;exact ⟨hp,h⟩
  ·rw [if_pos hp] at h;exact absurd h hp
 refine ⟨qrq hp.1,?_,hP.2,h60⟩
 have:=qrq hp.2
 rwa [show u.length=r.length from hl] at this
theorem Vo.check {n:Nat} {o:Og} (h:Vo n o):checkE o=0:=by
 have h1:=h.r.pn.1
 have h2:=h.u.pn.1
 have:=h.pos
 have:=h.le
 unfold checkE
 rw [if_neg (by omega),if_neg (by omega)]
 have e1:permE o.1=0:=perm_of (by rw [h1];exact h.r)
 have e2:permE o.2=0:=perm_of (by rw [h2];exact h.u)
 rw [if_neg (by simp [e1])]
 exact e2
def Keeps (n:Nat) (o:Og) (S:Nat→Bool):Prop:=(∀ x,x < n→S x=true→S (stp o.1 x)=true)∧∀ x,x < n→S x=true→S (stp o.2 x)=true
structure Cn (n:Nat) (o:Og):Prop extends Vo n o where
 all:∀ S:Nat→Bool,Keeps n o S→∀ z,z < n→S z=true→∀ y,y < n→S y=true
theorem Vo.not {n:Nat} {o:Og} (h:Vo n o) {S:Nat→Bool} (hS:Keeps n o S):Keeps n o fun x=>!S x:=by
 refine ⟨fun x hx hh=>?_,fun x hx hh=>?_⟩
 ·cases hb:S (stp o.1 x) with
  | false=>simp [hb]
  | true=>have:=h.r.back hS.1 hx hb;simp [this] at hh
 ·cases hb:S (stp o.2 x) with
  | false=>simp [hb]
  | true=>have:=h.u.back hS.2 hx hb;simp [this] at hh
theorem Cn.of0 {n:Nat} {o:Og} (h:Vo n o) (h0:∀ S:Nat→Bool,Keeps n o S→S 0=true→∀ y,y < n→S y=true):Cn n o:=by
 refine ⟨h,fun S hS z hz hSz y hy=>?_⟩
 cases hb:S 0 with
 | true=>exact h0 S hS hb y hy
 | false =>
   have:=h0 (fun x=>!S x) (h.not hS) (by simp [hb]) z hz
   simp [hSz] at this
theorem con_Cn {o:Og} (h:conE [o]=0):Cn o.1.length o:=by
 obtain ⟨h1,h2⟩:=qrp h
 have hv:=qh5 h1
 refine .of0 hv fun S hS h0 y hy=>?_
 have hr:=qoc hv.r.pn (hv.u.pn) hv.pos h2 hy
 have hlt:∀ {z},Rch o z→z < o.1.length:=fun h=>Rch.lt hv.r.pn hv.u.pn hv.pos h
 induction hr with
 | zero=>exact h0
 | right h ih=>exact hS.1 _ (hlt h) (ih (hlt h))
 | up h ih=>exact hS.2 _ (hlt h) (ih (hlt h))
structure CCl (n:Nat) (o:Og) (K:Nat) (s:CSt):Prop where
 mem:∀ y,y < n→s.1.getD y false=true→∃ k,k < s.2.length∧s.2.getD k 0=(y:Int)
 cl:∀ k,k < K→s.1.getD (stp o.1 (s.2.getD k 0).toNat) false=true∧s.1.getD (stp o.2 (s.2.getD k 0).toNat) false=true
theorem qge {n:Nat} {s:CSt} (hs:COk n s) {z:Int} (h1:z.toNat < n) {y:Nat} (h:s.1.getD y false=true):(cvis s z).1.getD y false=true:=by
 unfold cvis
 split
 ·exact h
 ·show (s.1.set z.toNat true).getD y false=true
  rw [qdr (by rw [hs.len];exact h1)]
  split
  ·rfl
  ·exact h
theorem qoe {n:Nat} {s:CSt} (hs:COk n s) {z:Int} (h1:z.toNat < n):(cvis s z).1.getD z.toNat false=true:=by
 unfold cvis
 split
 ·assumption
 ·show (s.1.set z.toNat true).getD z.toNat false=true
  rw [qdr (by rw [hs.len];exact h1),if_pos rfl]
theorem CCl.vis {n:Nat} {o:Og} {K:Nat} {s:CSt} (hs:COk n s) (h:CCl n o K s) (hK:K≤s.2.length) {z:Int} (h0:0≤z) (h1:z.toNat < n):CCl n o K (cvis s z):=by
 refine ⟨fun y hy hh=>?_,fun k hk=>?_⟩
 ·by_cases e:s.1.getD y false=true
  ·obtain ⟨k,hk,hke⟩:=h.mem y hy e
   exact ⟨k,Nat.lt_of_lt_of_le hk (qj5 _ _),by rw [qj7 hk,hke]⟩
  ·unfold cvis at hh ⊢
   split at hh
   ·exact absurd hh e
   ·rename_i hz
    rw [if_neg hz]
    have hh:(s.1.set z.toNat true).getD y false=true:=hh
    rw [qdr (by rw [hs.len];exact h1)] at hh
    split at hh
    ·rename_i hzy
     refine ⟨s.2.length,by simp,?_⟩
     rw [List.getD_eq_getElem?_getD,List.getElem?_append_right (Nat.le_refl _),Nat.sub_self]
     show z=(y:Int)
     omega
    ·exact absurd hh e
 ·rw [qj7 (by omega)]
  exact ⟨qge hs h1 (h.cl k hk).1,qge hs h1 (h.cl k hk).2⟩
theorem CCl.loop {n:Nat} {o:Og} (h1:Pn n o.1) (h2:Pn n o.2):∀ {f K:Nat} {s:CSt},COk n s→CCl n o K s→K≤s.2.length→n+1≤f+K→CCl n o (cloop o f K s).2.length (cloop o f K s)
 | 0,K,s,hs,h,hK,hf=>by
   have:=hs.le
   exact absurd hf (by omega)
 | f+1,K,s,hs,h,hK,hf=>by
   rw [cloop]
   split
   ·rename_i hlt
    have hx:=qbh hs.ord hlt
    have ha:=qbh h1.2 (i:=(s.2.getD K 0).toNat) (by rw [h1.1];omega)
    have hb:=qbh h2.2 (i:=(s.2.getD K 0).toNat) (by rw [h2.1];omega)
    have q1:=h.vis hs (by omega) ha.1 (by omega)
    have o1:=hs.vis ha.1 ha.2
    have q2:=q1.vis o1 (Nat.le_trans (Nat.le_of_lt hlt) (qj5 _ _)) hb.1 (by omega)
    have l1:=qj5 s (o.1.getD (s.2.getD K 0).toNat 0)
    have l2:=qj5 (cvis s (o.1.getD (s.2.getD K 0).toNat 0)) (o.2.getD (s.2.getD K 0).toNat 0)
    refine CCl.loop h1 h2 (hs.stp h1 h2 hlt) ⟨q2.mem,fun k hk=>?_⟩ (by unfold cstp;omega) (by omega)
    rcases Nat.lt_or_ge k K with hh | hh
    ·exact q2.cl k hh
    ·have:k=K:=by omega
     subst this
     unfold cstp
     rw [qj7 (by omega),qj7 hlt]
     exact ⟨qge o1 (by omega) (qoe hs (by omega)),qoe o1 (by omega)⟩
   ·have:K=s.2.length:=by omega
    subst this
    exact h
theorem ql3 {n:Nat} {o:Og} (h1:Pn n o.1) (h2:Pn n o.2):∀ {f K:Nat} {s:CSt},COk n s→∀ {y:Nat},s.1.getD y false=true→(cloop o f K s).1.getD y false=true
 | 0,_,_,_,_,h=>h
 | f+1,K,s,hs,y,h=>by
   rw [cloop]
   split
   ·rename_i hK
    have hx:=qbh hs.ord hK
    have ha:=qbh h1.2 (i:=(s.2.getD K 0).toNat) (by rw [h1.1];omega)
    have hb:=qbh h2.2 (i:=(s.2.getD K 0).toNat) (by rw [h2.1];omega)
    exact ql3 h1 h2 (hs.stp h1 h2 hK) (qge (hs.vis ha.1 ha.2) (by omega) (qge hs (by omega) h))
   ·exact h
theorem Cn.con {o:Og} (h:Cn o.1.length o):conE [o]=0:=by
 have hck:=h.toVo.check
 have hn:=h.pos
 have hlen0:(List.replicate o.1.length false).length=o.1.length:=by simp
 have hC:=COk.one hlen0 hn
 have hcl:=CCl.loop h.r.pn h.u.pn hC (K:=0) (f:=o.1.length+1) ⟨fun y hy hh=>⟨0,by simp,?_⟩,fun k hk=>absurd hk (by omega)⟩ (by simp) (by omega)
 ·have hm0:(cloop o (o.1.length+1) 0 ((List.replicate o.1.length false).set 0 true,[((0:Nat):Int)])).1.getD 0 false=true:=ql3 h.r.pn h.u.pn hC (by
   show ((List.replicate o.1.length false).set 0 true).getD 0 false=true
   rw [qdr (by rw [hlen0];exact hn),if_pos rfl])
  generalize hR:cloop o (o.1.length+1) 0 ((List.replicate o.1.length false).set 0 true,[((0:Nat):Int)])=R at *
  have hall:∀ y,y < o.1.length→R.1.getD y false=true:=fun y hy=>h.all (fun x=>R.1.getD x false) ⟨fun x hx hh=>by
   obtain ⟨k,hk,e⟩:=hcl.mem x hx hh
   have:=(hcl.cl k hk).1
   rw [e,Int.toNat_natCast] at this
   exact this,fun x hx hh=>by
   obtain ⟨k,hk,e⟩:=hcl.mem x hx hh
   have:=(hcl.cl k hk).2
   rw [e,Int.toNat_natCast] at this
   exact this⟩ 0 hn hm0 y hy
  have hst:oloop o 1=(R.1,[sortI R.2]):=by
   rw [qe1]
   show ostep o (List.replicate o.1.length false,[]) 0=_
   unfold ostep
   rw [if_neg]
   ·show ((cloop o (o.1.length+1) 0 ((List.replicate o.1.length false).set 0 true,[((0:Nat):Int)])).1,[]++[sortI (cloop o (o.1.length+1) 0 ((List.replicate o.1.length false).set 0 true,[((0:Nat):Int)])).2])=_
    rw [hR];rfl
   ·show ¬ (List.replicate o.1.length false).getD 0 false=true
    rw [List.getD_eq_getElem?_getD,List.getElem?_replicate,if_pos hn];simp
  have same:∀ i,1≤i→i≤o.1.length→oloop o i=(R.1,[sortI R.2]):=by
   intro i
   induction i with
   | zero=>intro h;omega
   | succ i ih =>
     intro _ hi
     rcases Nat.eq_zero_or_pos i with rfl | hp
     ·exact hst
     ·rw [qe1,ih hp (by omega)]
      unfold ostep
      rw [if_pos (hall i (by omega))]
  have hcomp:(comps o).length=1:=by
   unfold comps
   rw [same o.1.length hn (Nat.le_refl _)];rfl
  unfold conE
  have hz:ckF [o] 1=0:=by
   rw [qrn (by simp),if_pos (by rfl)];exact hck
  rw [if_neg (by simpa using hz)]
  have hs:splitF [o] 1=false:=by
   rw [qko]
   show (splitF [o] 0 || decide (1 < (comps o).length))=false
   rw [hcomp];rfl
  rw [if_neg (by simpa using hs)]
 ·have hh:((List.replicate o.1.length false).set 0 true).getD y false=true:=hh
  rw [qdr (by rw [hlen0];exact hn)] at hh
  split at hh
  ·rename_i e;subst e;rfl
  ·rw [List.getD_eq_getElem?_getD,List.getElem?_replicate,if_pos hy] at hh;cases hh
theorem Co_Cn {o:Og}:Co o=true↔Cn o.1.length o:=by
 rw [qod]
 constructor
 ·exact fun h=>con_Cn h.2
 ·intro h
  refine ⟨?_,h.con⟩
  have:=h.r.pn.1
  have:=h.u.pn.1
  have:=h.le
  simp only [lgO,Bool.and_eq_true,decide_eq_true_eq]
  omega
end Go.Proofs.YtmdnofcphdjieaaGreatDoor
namespace Go.Proofs.YtmdnofcphdjieaaGreatDoor
open Go Go.Abs
theorem qdz {p:List Int} {i:Nat} {z:Int} (h:p.getD i 0=z):stp p i=z.toNat:=by unfold stp;rw [h]
theorem qrr {n:Nat} {p:List Int} (h:Pm n p):∀ {j:Nat},j≤n→∀ {i:Nat},i < j→(invK p j).getD (stp p i) 0=(i:Int):=by
 intro j
 induction j with
 | zero=>intro _ i hi;omega
 | succ j ih =>
   intro hj i hi
   rw [qh1]
   have hlen:(invK p j).length=n:=by rw [qej];exact h.pn.1
   have hjl:stp p j < n:=h.lt (by omega)
   show ((invK p j).set (stp p j) (j:Int)).getD (stp p i) 0=_
   rw [qdk (by omega)]
   rcases Nat.lt_or_ge i j with hl | hg
   ·rw [if_neg (fun e=>by have:=h.inj' (i:=j) (j:=i) (by omega) (by omega) e;omega)]
    exact ih (by omega) hl
   ·have:i=j:=by omega
    subst this
    rw [if_pos rfl]
theorem Pm.inv_at {n:Nat} {p:List Int} (h:Pm n p) {i:Nat} (hi:i < n):stp (invL p) (stp p i)=i:=by
 have:=qrr h (Nat.le_refl n) hi
 rw [qdz (z:=(i:Int)) (by unfold invL;rw [h.pn.1];exact this)]
 exact Int.toNat_natCast i
theorem Pm.inv_get {n:Nat} {p:List Int} (h:Pm n p) {i:Nat} (hi:i < n):(invL p).getD (stp p i) 0=(i:Int):=by
 unfold invL;rw [h.pn.1];exact qrr h (Nat.le_refl n) hi
theorem Pm.of {n:Nat} {p:List Int} (hl:p.length=n) (f:Nat→Nat) (hf:∀ i,i < n→p.getD i 0=(f i:Int)) (hlt:∀ i,i < n→f i < n) (hinj:∀ i j,i < n→j < n→f i=f j→i=j):Pm n p:=by
 refine ⟨⟨hl,?_⟩,fun i j hi hj e=>hinj i j hi hj (by rw [hf i hi,hf j hj] at e;omega)⟩
 unfold inB
 rw [List.all_eq_true]
 intro z hz
 obtain ⟨i,hi,rfl⟩:=List.getElem_of_mem hz
 have e:p.getD i 0=p[i]:=by simp [hi]
 have h1:=hf i (by omega)
 have h2:=hlt i (by omega)
 rw [e] at h1
 simp only [Bool.and_eq_true,decide_eq_true_eq]
 omega
theorem Pm.inv {n:Nat} {p:List Int} (h:Pm n p):Pm n (invL p):=by
 have hl:(invL p).length=n:=by rw [show (invL p).length=p.length from qej p p.length];exact h.pn.1
 have key:∀ y,y < n→∃ x,x < n∧stp p x=y∧(invL p).getD y 0=(x:Int):=fun y hy=>by
  obtain ⟨x,hx,e⟩:=h.onto hy
  exact ⟨x,hx,e,by rw [← e];exact h.inv_get hx⟩
 refine .of hl (stp (invL p)) (fun i hi=>?_) (fun i hi=>?_) (fun i j hi hj e=>?_)
 ·obtain ⟨x,hx,_,e⟩:=key i hi
  rw [e,qdz e,Int.toNat_natCast]
 ·obtain ⟨x,hx,_,e⟩:=key i hi
  rw [qdz e,Int.toNat_natCast];exact hx
 ·obtain ⟨x,hx,a,e1⟩:=key i hi
  obtain ⟨y,hy,b,e2⟩:=key j hj
  rw [qdz e1,qdz e2,Int.toNat_natCast,Int.toNat_natCast] at e
  rw [← a,← b,e]
theorem Pm.at_inv {n:Nat} {p:List Int} (h:Pm n p) {y:Nat} (hy:y < n):stp p (stp (invL p) y)=y:=by
 obtain ⟨x,hx,e⟩:=h.onto hy
 rw [← e,h.inv_at hx]
theorem qof {p q:List Int} {i:Nat} (hi:i < p.length):(afterL p q).getD i 0=q.getD (stp p i) 0:=by
 unfold afterL
 rw [List.getD_eq_getElem?_getD,List.getElem?_map,List.getElem?_range hi]
 rfl
theorem qgf {n:Nat} {p q:List Int} (h:Pm n p) {i:Nat} (hi:i < n):stp (afterL p q) i=stp q (stp p i):=by
 unfold stp
 rw [qof (by rw [h.pn.1];exact hi)]
 rfl
theorem Pm.after {n:Nat} {p q:List Int} (h:Pm n p) (k:Pm n q):Pm n (afterL p q) :=
 .of (by rw [qg3];exact h.pn.1) (fun i=>stp q (stp p i)) (fun i hi=>by rw [qof (by rw [h.pn.1];exact hi),k.eq (h.lt hi)]) (fun i hi=>k.lt (h.lt hi)) fun i j hi hj e=>h.inj' hi hj (k.inj' (h.lt hi) (h.lt hj) e)
theorem Pm.id (n:Nat):Pm n (idL n) :=
 .of (by simp [idL]) (fun i=>i) (fun i hi=>by simp [idL,hi]) (fun i hi=>hi) fun i j _ _ e=>e
def KeepP (n:Nat) (S:Nat→Bool) (p:List Int):Prop:=∀ x,x < n→S x=true→S (stp p x)=true
theorem keep_inv {n:Nat} {S:Nat→Bool} {p:List Int} (h:Pm n p) (hp:KeepP n S p):KeepP n S (invL p):=fun x hx hh =>
 h.back hp (h.inv.lt hx) (by rw [h.at_inv hx];exact hh)
theorem bp_Pm {n:Nat}:∀ (k:Nat) {a p:List Int},Pm n a→Pm n p→Pm n (bp a p k):=by
 intro k
 induction k using Nat.strongRecOn with
 | ind k ih =>
   intro a p ha hp
   by_cases h:k=0
   ·subst h;rw [qms];exact ha
   ·by_cases h1:k % 2=1
    ·rw [qrl h h1];exact ih _ (by omega) (ha.after hp) (hp.after hp)
    ·rw [qkm h h1];exact ih _ (by omega) ha (hp.after hp)
theorem Pm.rep {n:Nat} {p:List Int} (h:Pm n p) (z:Int):Pm n (repL p z):=by
 unfold repL
 rw [h.pn.1]
 split
 ·exact bp_Pm _ (.id n) h.inv
 ·exact bp_Pm _ (.id n) h
def itr (f:Nat→Nat):Nat→Nat→Nat
 | 0,x=>x
 | k+1,x=>itr f k (f x)
theorem itr_two {n:Nat} {p:List Int} (h:Pm n p):∀ (k:Nat) {x:Nat},x < n→itr (stp (afterL p p)) k x=itr (stp p) (2*k) x:=by
 intro k
 induction k with
 | zero=>intro x _;rfl
 | succ k ih =>
   intro x hx
   show itr (stp (afterL p p)) k (stp (afterL p p) x)=_
   rw [qgf h hx,ih (h.lt (h.lt hx)),show 2*(k+1)=2*k+1+1 by omega]
   rfl
theorem bp_itr {n:Nat}:∀ (k:Nat) {a p:List Int},Pm n a→Pm n p→∀ {i:Nat},i < n→stp (bp a p k) i=itr (stp p) k (stp a i):=by
 intro k
 induction k using Nat.strongRecOn with
 | ind k ih =>
   intro a p ha hp i hi
   by_cases h:k=0
   ·subst h;rw [qms];rfl
   ·by_cases h1:k % 2=1
    ·rw [qrl h h1,ih _ (by omega) (ha.after hp) (hp.after hp) hi,qgf ha hi,itr_two hp _ (hp.lt (ha.lt hi))]
     have:k=2*(k / 2)+1:=by omega
     conv=>rhs;rw [this]
     rfl
    ·rw [qkm h h1,ih _ (by omega) ha (hp.after hp) hi,itr_two hp _ (ha.lt hi)]
     have:k=2*(k / 2):=by omega
     conv=>rhs;rw [this]
theorem ql4 {n i:Nat} (hi:i < n):stp (idL n) i=i:=by
 rw [qdz (z:=(i:Int)) (by simp [idL,hi])];exact Int.toNat_natCast i
theorem rep_itr {n:Nat} {p:List Int} (h:Pm n p) (z:Int) {i:Nat} (hi:i < n):stp (repL p z) i=itr (stp (if z < 0 then invL p else p)) z.natAbs i:=by
 unfold repL
 rw [h.pn.1]
 split
 ·rw [bp_itr _ (.id n) h.inv hi,ql4 hi]
 ·rw [bp_itr _ (.id n) h hi,ql4 hi]
theorem renK_get {n:Nat} {f l:List Int} (hf:Pm n f):∀ {j:Nat},j≤n→∀ {i:Nat},i < j→(renK f l j).getD (stp f i) 0=renF f l i:=by
 intro j
 induction j with
 | zero=>intro _ i hi;omega
 | succ j ih =>
   intro hj i hi
   rw [qh3]
   have hlen:(renK f l j).length=n:=by rw [qj8];exact hf.pn.1
   have hjl:stp f j < n:=hf.lt (by omega)
   show ((renK f l j).set (stp f j) (renF f l j)).getD (stp f i) 0=_
   rw [qdk (by omega)]
   rcases Nat.lt_or_ge i j with hl | hg
   ·rw [if_neg (fun e=>by have:=hf.inj' (i:=j) (j:=i) (by omega) (by omega) e;omega)]
    exact ih (by omega) hl
   ·have:i=j:=by omega
    subst this
    rw [if_pos rfl]
theorem qmw {n:Nat} {f l:List Int} (hf:Pm n f) {i:Nat} (hi:i < n):(renL f l).getD (stp f i) 0=f.getD (stp l i) 0:=by
 unfold renL;rw [hf.pn.1];exact renK_get hf (Nat.le_refl n) hi
theorem qp2 {n:Nat} {f l:List Int} (hf:Pm n f) {i:Nat} (hi:i < n):stp (renL f l) (stp f i)=stp f (stp l i):=qdz (qmw hf hi)
theorem Pm.ren {n:Nat} {f l:List Int} (hf:Pm n f) (hl:Pm n l):Pm n (renL f l):=by
 have hlen:(renL f l).length=n:=by rw [qh4];exact hf.pn.1
 have key:∀ y,y < n→∃ x,x < n∧stp f x=y∧(renL f l).getD y 0=(stp f (stp l x):Int):=fun y hy=>by
  obtain ⟨x,hx,e⟩:=hf.onto hy
  exact ⟨x,hx,e,by rw [← e,qmw hf hx,hf.eq (hl.lt hx)]⟩
 refine .of hlen (stp (renL f l)) (fun i hi=>?_) (fun i hi=>?_) (fun i j hi hj e=>?_)
 ·obtain ⟨x,hx,_,e⟩:=key i hi
  rw [e,qdz e,Int.toNat_natCast]
 ·obtain ⟨x,hx,_,e⟩:=key i hi
  rw [qdz e,Int.toNat_natCast];exact hf.lt (hl.lt hx)
 ·obtain ⟨x,hx,a,e1⟩:=key i hi
  obtain ⟨y,hy,b,e2⟩:=key j hj
  rw [qdz e1,qdz e2,Int.toNat_natCast,Int.toNat_natCast] at e
  have:=hl.inj' hx hy (hf.inj' (hl.lt hx) (hl.lt hy) e)
  rw [← a,← b,this]
theorem Vo.ren {n:Nat} {o:Og} (h:Vo n o) {f:List Int} (hf:Pm n f):Vo n (renO o f):=⟨hf.ren h.r,hf.ren h.u,h.pos,h.le⟩
theorem Cn.ren {n:Nat} {o:Og} (h:Cn n o) {f:List Int} (hf:Pm n f):Cn n (renO o f):=by
 refine ⟨h.toVo.ren hf,fun S hS z hz hz1 y hy=>?_⟩
 obtain ⟨x,hx,ex⟩:=hf.onto hz
 obtain ⟨w,hw,ew⟩:=hf.onto hy
 have:=h.all (fun i=>S (stp f i)) ⟨fun i hi hh=>?_,fun i hi hh=>?_⟩ x hx (by rw [ex];exact hz1) w hw
 ·rw [ew] at this;exact this
 ·have:=hS.1 (stp f i) (hf.lt hi) hh
  rw [show stp (renO o f).1 (stp f i)=stp f (stp o.1 i) from qp2 hf hi] at this
  exact this
 ·have:=hS.2 (stp f i) (hf.lt hi) hh
  rw [show stp (renO o f).2 (stp f i)=stp f (stp o.2 i) from qp2 hf hi] at this
  exact this
end Go.Proofs.YtmdnofcphdjieaaGreatDoor
namespace Go.Proofs.YtmdnofcphdjieaaGreatDoor
open Go Go.Abs
def NAt (s:NSt):Prop:=∀ k,k < s.2.length→s.1.getD (s.2.getD k 0).toNat 0=(k:Int)
theorem NAt.vis {n:Nat} {s:NSt} (hs:NOk n s) (h:NAt s) {z:Int} (h0:0≤z) (h1:z.toNat < n):NAt (visit s z):=by
 intro k hk
 unfold visit at hk ⊢
 split at hk
 ·rename_i hz
  rw [if_pos hz]
  have hk:k < (s.2++[z]).length:=hk
  rw [List.length_append] at hk
  simp only [List.length_cons,List.length_nil] at hk
  show (s.1.set z.toNat (s.2.length:Int)).getD ((s.2++[z]).getD k 0).toNat 0=(k:Int)
  rcases Nat.lt_or_ge k s.2.length with hl | hl
  ·rw [qf1 hl,qdk (by rw [hs.len];exact h1)]
   have:=h k hl
   rw [if_neg (fun e=>by rw [← e] at this;omega)]
   exact this
  ·have:k=s.2.length:=by omega
   subst this
   have e:(s.2++[z]).getD s.2.length 0=z:=by
    rw [List.getD_eq_getElem?_getD,List.getElem?_append_right (Nat.le_refl _),Nat.sub_self];rfl
   rw [e,qdk (by rw [hs.len];exact h1),if_pos rfl]
 ·rename_i hz
  rw [if_neg hz]
  exact h k hk
theorem NAt.loop {n:Nat} {o:Og} (h1:Pn n o.1) (h2:Pn n o.2):∀ {f K:Nat} {s:NSt},NOk n s→NAt s→NAt (nloop o f K s)
 | 0,_,_,_,h=>h
 | f+1,K,s,hs,h=>by
   rw [nloop]
   split
   ·rename_i hK
    have hx:=qbh hs.ord hK
    have ha:=qbh h1.2 (i:=(s.2.getD K 0).toNat) (by rw [h1.1];omega)
    have hb:=qbh h2.2 (i:=(s.2.getD K 0).toNat) (by rw [h2.1];omega)
    exact NAt.loop h1 h2 (hs.step h1 h2 hK) ((h.vis hs ha.1 (by omega)).vis (hs.visit ha.1 ha.2) hb.1 (by omega))
   ·exact h
theorem qog {o:Og} (h:Cn o.1.length o) {x:Nat} (hx:x < o.1.length):Pm o.1.length (numL o (x:Int))∧(numL o (x:Int)).getD x 0=0:=by
 have hE:=h.con
 obtain ⟨q1,q2⟩:=qrp hE
 obtain ⟨a1,a2⟩:=num_all q1 q2 (x:=(x:Int)) (by omega) (by omega)
 have hst:=NOk.start (n:=o.1.length) (x:=(x:Int)) (by omega) (by omega)
 obtain ⟨hcl,hok⟩:=NCl.loop (o:=o) h.r.pn h.u.pn hst (NCl.start (by omega) (by omega)) (Nat.zero_le _) (f:=o.1.length+1) (by omega)
 have g0:(nstart o.1.length (x:Int)).1.getD x 0=0:=by
  show ((List.replicate o.1.length (-1:Int)).set ((x:Int)).toNat 0).getD x 0=0
  rw [qdk (by simp;omega),if_pos (by simp)]
 have hat0:NAt (nstart o.1.length (x:Int)):=by
  intro k hk
  have hk:k < 1:=hk
  have:k=0:=by omega
  subst this
  show (nstart o.1.length (x:Int)).1.getD ((x:Int)).toNat 0=_
  rw [Int.toNat_natCast,g0];rfl
 have hat:=NAt.loop (f:=o.1.length+1) (K:=0) h.r.pn h.u.pn hst hat0
 -- the first square stays the first
 have first:∀ {f K:Nat} {s:NSt},NOk o.1.length s→0 < s.2.length→(nloop o f K s).2.getD 0 0=s.2.getD 0 0∧0 < (nloop o f K s).2.length:=by
  intro f
  induction f with
  | zero=>intro K s _ hp;exact ⟨rfl,hp⟩
  | succ f ih =>
    intro K s hs hp
    rw [nloop]
    split
    ·rename_i hK
     have hn:=hs.step h.r.pn h.u.pn hK
     have l1:=qdt s (o.1.getD (s.2.getD K 0).toNat 0)
     have l2:=qdt (visit s (o.1.getD (s.2.getD K 0).toNat 0)) (o.2.getD (s.2.getD K 0).toNat 0)
     obtain ⟨e1,e2⟩:=ih (K:=K+1) hn (by unfold nstep;omega)
     refine ⟨?_,e2⟩
     rw [e1]
     unfold nstep
     rw [qfq (by omega),qfq hp]
    ·exact ⟨rfl,hp⟩
 obtain ⟨f1,f2⟩:=first (f:=o.1.length+1) (K:=0) hst (by show 0 < 1;omega)
 have hnum:numL o (x:Int)=(nloop o (o.1.length+1) 0 (nstart o.1.length (x:Int))).1:=rfl
 generalize nloop o (o.1.length+1) 0 (nstart o.1.length (x:Int))=R at *
 have f1:R.2.getD 0 0=(x:Int):=f1
 rw [hnum] at a1 a2 ⊢
 have key:∀ i,i < o.1.length→∃ k,k < R.2.length∧R.2.getD k 0=(i:Int)∧R.1.getD i 0=(k:Int):=fun i hi=>by
  have hb:=qbh a1 (i:=i) (by rw [a2];exact hi)
  obtain ⟨k,hk,e⟩:=hcl.mem i hi (by unfold hasN;exact decide_eq_true hb.1)
  refine ⟨k,hk,e,?_⟩
  have:=hat k hk
  rw [e,Int.toNat_natCast] at this
  exact this
 refine ⟨⟨⟨a2,a1⟩,fun i j hi hj e=>?_⟩,?_⟩
 ·obtain ⟨k,hk,e1,e2⟩:=key i hi
  obtain ⟨l,hl,e3,e4⟩:=key j hj
  rw [e2,e4] at e
  have:k=l:=by omega
  subst this
  rw [e1] at e3
  omega
 ·have:=hat 0 f2
  rw [f1,Int.toNat_natCast] at this
  exact this
theorem labK_from {o:Og}:∀ {i:Nat} {y:Og×List Int},labK o i=some y→∃ s,s < i∧y=(renO o (numL o (s:Int)),numL o (s:Int)):=by
 intro i
 induction i with
 | zero=>intro y h;cases h
 | succ i ih =>
   intro y h
   rw [qgd] at h
   unfold lpick at h
   split at h
   ·injection h with h;exact ⟨i,by omega,h.symm⟩
   ·rename_i b z hz
    split at h
    ·injection h with h;exact ⟨i,by omega,h.symm⟩
    ·injection h with h;subst h
     obtain ⟨s,hs,e⟩:=ih hz
     exact ⟨s,by omega,e⟩
theorem qrs {o:Og} (hn:0 < o.1.length):∃ s,s < o.1.length∧labO o=(renO o (numL o (s:Int)),numL o (s:Int)):=by
 obtain ⟨y,hy⟩:=qkq (o:=o) hn
 obtain ⟨s,hs,e⟩:=labK_from hy
 exact ⟨s,hs,by unfold labO;rw [hy,← e];rfl⟩
theorem qfs {o:Og} {n:Nat} {f:List Int} (hf:Pm n f):(renO o f).1.length=n:=by rw [(qmv o f).1];exact hf.pn.1
theorem lab1_Cn {o:Og} (h:Cn o.1.length o):Cn o.1.length (lab1 o)∧(lab1 o).1.length=o.1.length:=by
 obtain ⟨s,hs,e⟩:=qrs h.pos
 have hP:=(qog h hs).1
 have:lab1 o=renO o (numL o (s:Int)):=by unfold lab1;rw [e]
 rw [this]
 exact ⟨h.ren hP,qfs hP⟩
theorem Co_lab {o:Og} (h:Co o=true):Co (lab1 o)=true:=by
 obtain ⟨h1,h2⟩:=lab1_Cn (Co_Cn.1 h)
 exact Co_Cn.2 (by rw [h2];exact h1)
theorem Co_Po {o:Og} (h:Co o=true):Po o=true:=by
 have h:=Co_Cn.1 h
 have:=h.le
 exact qfc.2 ⟨h.r.pn,h.u.pn,by omega⟩
end Go.Proofs.YtmdnofcphdjieaaGreatDoor
namespace Go.Proofs.YtmdnofcphdjieaaGreatDoor
open Go Go.Abs
set_option maxRecDepth 10000
attribute [local congr] qba qbb qbc qbd qbn qbe qbo qbp qbq qbr qbt qbu qcc qby qbs qbl qb7 qb1
abbrev sameP (a b:Og):Bool:=lgO a && lgO b
abbrev sameS:VSpec:=spec2 cO cO sameP (fun a b=>vB (decide (a.1=b.1) && decide (a.2=b.2))) false
theorem rsm_ok:OK 1000003 25 sameS:=by
 refine OK.of2 (F:=1000002) (tb:=[(40,intsS)]) (pol:=fun _=>false) ?_ (x:=(Tryz.f25.body).getD .skip) (Nat.le_of_ble_eq_true rfl) Tryz.func25 rfl (ok_fn (by rfl) Tryz.func25 rfl) (by kernel_rfl) (by intros;rfl) fun n hn o w hc=>?_
 ·intro y hy
  simp only [List.mem_singleton] at hy
  subst hy
  exact ints_okV
 obtain ⟨a,b⟩:=o
 obtain ⟨c,d⟩:=w
 simp only [sameP,lgO,Bool.and_eq_true,decide_eq_true_eq] at hc
 obtain ⟨⟨h1,h2⟩,h3,h4⟩:=hc
 have g1:intsP a c=true:=by simp [intsP,h1,h3]
 have g2:intsP b d=true:=by simp [intsP,h2,h4]
 by_cases e1:a=c
 ·have t1:decide (a=c)=true:=decide_eq_true e1
  simp (disch:=omega) only [Tryz.f25,Option.getD_some,qaw,List.getElem?_toArray,qao,qce,qbj,gdV_b,qah,qax,qbv,qat,qal,qcx,qcv,qa4,qcl,qbi,qaa,qab,qac,qcr,qcw,↓qaa,↓qab,↓qac,↓qcr,↓qcw,qaq,qbg,qag,qap,qa5,qcs,qai,qa1,qa2,qae,qaj,qad,↓qae,↓qaj,↓qad,qdn,qa6,qbz,qbf,pk_fz,vcall,qb4,qas,qbw,qb8,qbx,fv_r,pv_1,fsh_1,qbk,frV_0,frV_1,↓reduceIte,Nat.reduceEqDiff,Nat.zero_add,Nat.add_zero,List.map_cons,List.map_nil,List.getElem?_cons_zero,List.getElem?_cons_succ,beq_self_eq_true,qaf,↓qaf,Bool.true_and,Option.getD_some,sp2,enc_O,qak,↓qak,dec_L,sv_st,qco aL,qcf fO0,qcf fO1,Nat.reduceAdd,g1,g2,t1]
 ·have t1:decide (a=c)=false:=decide_eq_false e1
  simp (disch:=omega) only [Tryz.f25,Option.getD_some,qaw,List.getElem?_toArray,qao,qce,qbj,gdV_b,qah,qax,qbv,qat,qal,qcx,qcv,qa4,qcl,qbi,qaa,qab,qac,qdq,qcb,↓qaa,↓qab,↓qac,↓qdq,↓qcb,qaq,qbg,qag,qap,qa5,qcs,qai,qa1,qa2,qae,qaj,qad,↓qae,↓qaj,↓qad,qdn,qa6,qbz,qbf,pk_fz,vcall,qb4,qas,qbw,qb8,qbx,fv_r,pv_1,fsh_1,qbk,frV_0,frV_1,↓reduceIte,Nat.reduceEqDiff,Nat.zero_add,Nat.add_zero,List.map_cons,List.map_nil,List.getElem?_cons_zero,List.getElem?_cons_succ,b_ft,qaf,↓qaf,Bool.false_and,Option.getD_some,sp2,enc_O,qak,↓qak,dec_L,sv_st,qco aL,qcf fO0,Nat.reduceAdd,g1,t1]
def fewB (o:Og) (n:Int):Bool:=decide ((o.1.length:Int)≤n) && decide ((o.2.length:Int)≤n)
theorem few_ok:OK 1 21 (spec2 cO cI (fun _ _=>true) (fun o n=>vB (fewB o n)) false):=by
 refine OK.of2 (F:=0) (tb:=[]) (pol:=fun _=>false) (by simp) (x:=(Tryz.f21.body).getD .skip) (Nat.le_of_ble_eq_true rfl) Tryz.func21 rfl (ok_fn (by rfl) Tryz.func21 rfl) (by kernel_rfl) (by intros;rfl) fun n hn o z hc=>?_
 obtain ⟨a,b⟩:=o
 unfold fewB
 by_cases h1:(a.length:Int)≤z
 ·simp (disch:=omega) only [Tryz.f21,Option.getD_some,qaw,List.getElem?_toArray,qao,qce,qbj,gdV_b,qah,qax,qbv,qat,qal,qcx,qcv,qa4,qcl,qcg uL,qa3,qsu,qaa,qab,qac,qcr,qcw,↓qaa,↓qab,↓qac,↓qcr,↓qcw,qaq,qbg,qag,qap,qcs,qai,qa1,qa2,qae,qad,↓qae,↓qad,qdn,ln_fz,qa6,qbw,qb8,qbx,fv_r,pv_1,fsh_1,qbk,frV_0,frV_1,Option.map_some,↓reduceIte,Nat.reduceEqDiff,Nat.zero_add,Nat.add_zero,decide_true,List.getElem?_cons_zero,List.getElem?_cons_succ,beq_self_eq_true,Bool.true_and,Option.getD_some,enc_I,enc_O,sv_st,qco aL,qcf fO0,qcf fO1,h1]
 ·simp (disch:=omega) only [Tryz.f21,Option.getD_some,qaw,List.getElem?_toArray,qao,qce,qbj,gdV_b,qah,qax,qbv,qat,qal,qcx,qcv,qa4,qcl,qcg uL,qa3,qsu,qaa,qab,qac,qdq,qcb,↓qaa,↓qab,↓qac,↓qdq,↓qcb,qaq,qbg,qag,qap,qcs,qai,qa1,qa2,qae,qad,↓qae,↓qad,qdn,ln_fz,qa6,qbw,qb8,qbx,fv_r,pv_1,fsh_1,qbk,frV_0,frV_1,Option.map_some,↓reduceIte,Nat.reduceEqDiff,Nat.zero_add,Nat.add_zero,decide_false,List.getElem?_cons_zero,List.getElem?_cons_succ,b_ft,Bool.false_and,Option.getD_some,enc_I,enc_O,sv_st,qco aL,qcf fO0,h1]
noncomputable def clA:Code:=atC [1,0,1,0,0] ((Tryz.f63.body).getD .skip)
noncomputable def clB:Code:=atC [1,1,0,1,0,0] ((Tryz.f63.body).getD .skip)
noncomputable def clC:Code:=atC [1,1,0,1,0,0,1,0,0,1,0,0] ((Tryz.f63.body).getD .skip)
theorem cl_loop1 {p:List Int} (hl:p.length≤1000) {call:VCall} {pol:Nat→Bool} {m k c:Nat} {a:VF} {σ:VSt} (hk:p.length < k)
  (h0:a 0=vL p) (h1:a 1=vI p.length) (h5:a 5=vI ((0:Nat):Int)) :
  ∃ x a' σ' c',loopV (evVC Tryz.prog call pol m clA) k a σ c=some (x,a',σ',c')∧a' 0=vL p∧((x = .exit 0∧inB p p.length=true)∨(x = .ret∧inB p p.length=false∧a' 4=vI 2)):=by
 refine qc2 p.length (fun i a _ _=>inB (p.take i) p.length=true∧a 0=vL p∧a 1=vI p.length∧a 5=vI i) _ ?_ ?_ hk ⟨rfl,h0,h1,h5⟩
 ·intro i a σ c hi ⟨hb,h0,h1,h5⟩
  have c1:(i:Int) < (p.length:Int):=by omega
  have e3:IntKind.i64.wrap ((i:Int)+1)=((i+1:Nat):Int):=by rw [wr64 (by omega) (by omega)];omega
  rw [show clA=atC [1,0,1,0,0] ((Tryz.f63.body).getD .skip) from rfl]
  by_cases x0:p.getD i 0 < 0
  ·right
   simp (disch:=omega) only [Tryz.f63,Option.getD_some,atC,qaw,List.getElem?_toArray,qao,qce,qbj,gdV_b,qah,qax,qau,qay,qa7,qbv,qat,qal,qcx,qa4,qcd,qcg uL,qa3,qa0,qaa,qab,qac,qaz,qdx,qam,qdq,qcw,↓qaa,↓qab,↓qac,↓qaz,↓qam,↓qdq,↓qcw,qaq,qag,qap,qav,qcs,qai,ad_fz eL,ld_rp aI,qc3,ln_fz,qdm,List.getElem?_drop,Option.map_some,↓reduceIte,Nat.reduceEqDiff,Nat.add_zero,Nat.mul_one,Int.toNat_natCast,Int.natCast_nonneg,and_self,decide_true,List.getElem?_cons_zero,List.getElem?_cons_succ,b_tf,Option.getD_some,h0,h5,c1,x0]
   refine ⟨_,_,_,_,rfl,?_⟩
   exact ⟨by simp,h0,.inr ⟨rfl,qmt hi (by omega),rfl⟩⟩
  ·by_cases x1:(p.length:Int)≤p.getD i 0
   ·right
    simp (disch:=omega) only [Tryz.f63,Option.getD_some,atC,qaw,List.getElem?_toArray,qao,qce,qbj,gdV_b,qah,qax,qau,qay,qa7,qbv,qat,qal,qcx,qa4,qcd,qcg uL,qa3,qa0,qel,qaa,qab,qac,qaz,qdx,qam,qcr,qcb,↓qaa,↓qab,↓qac,↓qaz,↓qam,↓qcr,↓qcb,qaq,qag,qap,qav,qai,ad_fz eL,ld_rp aI,qc3,ln_fz,qdm,List.getElem?_drop,Option.map_some,↓reduceIte,Nat.reduceEqDiff,Nat.add_zero,Nat.mul_one,Int.toNat_natCast,Int.natCast_nonneg,and_self,decide_true,decide_false,List.getElem?_cons_zero,List.getElem?_cons_succ,beq_self_eq_true,Option.getD_some,h0,h1,h5,c1,x0,x1]
    refine ⟨_,_,_,_,rfl,?_⟩
    exact ⟨by simp,h0,.inr ⟨rfl,qmt hi (by omega),rfl⟩⟩
   ·left
    simp (disch:=omega) only [Tryz.f63,Option.getD_some,atC,qaw,List.getElem?_toArray,qao,qce,qbj,gdV_b,qah,qax,qau,qay,qa7,qat,qal,qcx,qa4,qcd,qcg uL,qa3,qa0,qel,qb9,qaa,qab,qac,qcu,qam,qan,qcr,qcb,↓qaa,↓qab,↓qac,↓qam,↓qan,↓qcr,↓qcb,qaq,qag,qap,qav,qai,ad_fz eL,ld_rp aI,qc3,ln_fz,qdm,List.getElem?_drop,Option.map_some,↓reduceIte,Nat.reduceEqDiff,Nat.add_zero,Nat.mul_one,Int.toNat_natCast,Int.natCast_nonneg,and_self,decide_true,decide_false,List.getElem?_cons_zero,List.getElem?_cons_succ,beq_self_eq_true,Option.getD_some,h0,h1,h5,c1,x0,x1,e3]
    refine ⟨_,_,_,rfl,?_⟩
    exact ⟨qrm hb hi (by omega) (by omega),h0,h1,rfl⟩
 ·intro a σ c ⟨hb,h0,h1,h5⟩
  have c1:¬ ((p.length:Int) < (p.length:Int)):=by omega
  rw [show clA=atC [1,0,1,0,0] ((Tryz.f63.body).getD .skip) from rfl]
  simp only [Tryz.f63,Option.getD_some,atC,qaw,qao,qah,qax,qau,qda,qat,qcg uL,qa3,qa0,qaa,qab,qac,qb0,qan,↓qaa,↓qab,↓qac,↓qb0,↓qan,qaq,qag,qap,qai,ln_fz,Option.map_some,↓reduceIte,Nat.reduceEqDiff,decide_false,Option.getD_some,h0,h5,c1]
  rw [List.take_length] at hb
  refine ⟨_,_,_,_,rfl,?_⟩
  exact ⟨by simp,h0,.inl ⟨rfl,hb⟩⟩
def NoDup (p:List Int) (i:Nat):Prop:=∀ x y,x < i→y < x→p.getD x 0≠p.getD y 0
theorem cl_loop3 {p:List Int} (hl:p.length≤1000) {i:Nat} (hi:i < p.length) {call:VCall} {m k c:Nat} {a:VF} {σ:VSt} (hk:i < k)
  (h0:a 0=vL p) (h6:a 6=vI i) (h7:a 7=vI ((0:Nat):Int)) :
  ∃ x a' σ' c',loopV (evVC Tryz.prog call (fun _=>false) m clC) k a σ c=some (x,a',σ',c')∧a' 0=vL p∧a' 6=vI i∧((x = .exit 4∧∀ y,y < i→p.getD i 0≠p.getD y 0)∨(x = .ret∧(∃ y,y < i∧p.getD i 0=p.getD y 0)∧a' 4=vI 3)):=by
 refine qc2 i (fun j a _ _=>(∀ y,y < j→p.getD i 0≠p.getD y 0)∧a 0=vL p∧a 6=vI i∧a 7=vI j) _ ?_ ?_ hk ⟨fun y h=>by omega,h0,h6,h7⟩
 ·intro j a σ c hj ⟨hb,h0,h6,h7⟩
  have hjl:j < p.length:=by omega
  have c1:(j:Int) < (i:Int):=by omega
  have c2:(i:Int) < (p.length:Int):=by omega
  have c3:(j:Int) < (p.length:Int):=by omega
  have e3:IntKind.i64.wrap ((j:Int)+1)=((j+1:Nat):Int):=by rw [wr64 (by omega) (by omega)];omega
  rw [show clC=atC [1,1,0,1,0,0,1,0,0,1,0,0] ((Tryz.f63.body).getD .skip) from rfl]
  by_cases h:p.getD i 0=p.getD j 0
  ·right
   have hT:(p.getD i 0=p.getD j 0)=True:=eq_true h
   simp (disch:=omega) only [Tryz.f63,Option.getD_some,atC,qaw,qao,qah,qc4,qax,qau,qay,qa7,qbv,qat,qal,qa4,qcd,qa3,qa0,qdf,qaa,qab,qac,qaz,qdx,qam,↓qaa,↓qab,↓qac,↓qaz,↓qam,qaq,qag,qap,qav,qai,ad_fz eL,ld_rp aI,qc3,qdm,List.getElem?_drop,↓reduceIte,Nat.reduceEqDiff,Nat.add_zero,Nat.mul_one,Int.toNat_natCast,Int.natCast_nonneg,and_self,decide_true,qar,↓qar,Option.getD_some,h0,h6,h7,c1,c2,c3,hT]
   refine ⟨_,_,_,_,rfl,?_⟩
   exact ⟨by simp,h0,h6,.inr ⟨rfl,⟨j,hj,h⟩,rfl⟩⟩
  ·left
   have hF:(p.getD i 0=p.getD j 0)=False:=eq_false h
   simp (disch:=omega) only [Tryz.f63,Option.getD_some,atC,qaw,qao,qah,qc4,qax,qau,qay,qa7,qat,qal,qa4,qcd,qa3,qa0,qdf,qb9,qaa,qab,qac,qcu,qam,qan,↓qaa,↓qab,↓qac,↓qam,↓qan,qaq,qag,qap,qav,qai,ad_fz eL,ld_rp aI,qc3,qdm,List.getElem?_drop,↓reduceIte,Nat.reduceEqDiff,Nat.add_zero,Nat.mul_one,Int.toNat_natCast,Int.natCast_nonneg,and_self,decide_true,decide_false,qar,↓qar,Option.getD_some,h0,h6,h7,c1,c2,c3,hF,e3]
   refine ⟨_,_,_,rfl,?_⟩
   refine ⟨fun y hy=>?_,h0,h6,rfl⟩
   by_cases hyj:y=j
   ·subst hyj;exact h
   ·exact hb y (by omega)
 ·intro a σ c ⟨hb,h0,h6,h7⟩
  have c1:¬ ((i:Int) < (i:Int)):=by omega
  rw [show clC=atC [1,1,0,1,0,0,1,0,0,1,0,0] ((Tryz.f63.body).getD .skip) from rfl]
  simp only [Tryz.f63,Option.getD_some,atC,qaw,qao,qah,qax,qau,qda,qat,qa3,qa0,qaa,qab,qac,qb0,qan,↓qaa,↓qab,↓qac,↓qb0,↓qan,qag,qap,qai,↓reduceIte,Nat.reduceEqDiff,decide_false,Option.getD_some,h6,h7,c1]
  refine ⟨_,_,_,_,rfl,?_⟩
  exact ⟨by simp,h0,h6,.inl ⟨rfl,hb⟩⟩
theorem cl_loop2 {p:List Int} (hl:p.length≤1000) {call:VCall} {m k c:Nat} {a:VF} {σ:VSt} (hk:p.length < k) (hm:p.length < m)
  (h0:a 0=vL p) (h6:a 6=vI ((0:Nat):Int)) :
  ∃ x a' σ' c',loopV (evVC Tryz.prog call (fun _=>false) m clB) k a σ c=some (x,a',σ',c')∧((x = .exit 2∧NoDup p p.length)∨(x = .ret∧¬ NoDup p p.length∧a' 4=vI 3)):=by
 refine qc2 p.length (fun i a _ _=>NoDup p i∧a 0=vL p∧a 6=vI i) _ ?_ ?_ hk ⟨fun x y h=>by omega,h0,h6⟩
 ·intro i a σ c hi ⟨hb,h0,h6⟩
  have c1:(i:Int) < (p.length:Int):=by omega
  have e3:IntKind.i64.wrap ((i:Int)+1)=((i+1:Nat):Int):=by rw [wr64 (by omega) (by omega)];omega
  have key:=fun (a:VF) (σ:VSt) (c:Nat)=>cl_loop3 hl hi (call:=call) (m:=m) (k:=m) (a:=a) (σ:=σ) (c:=c) (by omega)
  rw [show clC=atC [1,1,0,1,0,0,1,0,0,1,0,0] ((Tryz.f63.body).getD .skip) from rfl] at key
  simp only [Tryz.f63,Option.getD_some,atC] at key
  rw [show clB=atC [1,1,0,1,0,0] ((Tryz.f63.body).getD .skip) from rfl]
  simp (disch:=omega) only [Tryz.f63,Option.getD_some,atC,qaw,qao,qah,qax,qau,qay,qdj,qa7,qat,qal,qcg uL,qa3,qa0,qaa,qab,qac,qam,↓qaa,↓qab,↓qac,↓qam,qaq,qag,qap,qav,qai,ln_fz,Option.map_some,↓reduceIte,Nat.reduceEqDiff,decide_true,Option.getD_some,h0,h6,c1]
  generalize hA:updV _ 7 _=B
  obtain ⟨x,a',σ',c',e,w0,w6,⟨rfl,h⟩ | ⟨rfl,⟨y,hy,h⟩,w4⟩⟩:=key B σ c (by subst hA;exact h0) (by subst hA;exact h6) (by subst hA;rfl)
  ·left
   rw [e]
   simp (disch:=omega) only [qb9,qaa,qab,qac,qcu,qdp,↓qaa,↓qab,↓qac,↓reduceIte,w6,e3]
   refine ⟨_,_,_,rfl,?_⟩
   refine ⟨fun x y hx hy=>?_,w0,rfl⟩
   by_cases hxi:x=i
   ·subst hxi;exact h y hy
   ·exact hb x y (by omega) hy
  ·right
   rw [e]
   simp (disch:=omega) only [qaz,qdx,↓qaz]
   refine ⟨_,_,_,_,rfl,?_⟩
   exact ⟨by simp,.inr ⟨rfl,fun hn=>hn i y hi hy h,w4⟩⟩
 ·intro a σ c ⟨hb,h0,h6⟩
  have c1:¬ ((p.length:Int) < (p.length:Int)):=by omega
  rw [show clB=atC [1,1,0,1,0,0] ((Tryz.f63.body).getD .skip) from rfl]
  simp only [Tryz.f63,Option.getD_some,atC,qaw,qao,qah,qax,qau,qda,qat,qcg uL,qa3,qa0,qaa,qab,qac,qb0,qan,↓qaa,↓qab,↓qac,↓qb0,↓qan,qaq,qag,qap,qai,ln_fz,Option.map_some,↓reduceIte,Nat.reduceEqDiff,decide_false,Option.getD_some,h0,h6,c1]
  refine ⟨_,_,_,_,rfl,?_⟩
  exact ⟨by simp,.inl ⟨rfl,hb⟩⟩
theorem dup_iff {p:List Int} (hp:inB p p.length=true):dupK p p.length=false↔NoDup p p.length:=by
 have key:∀ j,j < p.length→((seenK p j).getD (p.getD j 0).toNat false=true↔∃ i,i < j∧p.getD j 0=p.getD i 0):=by
  intro j hj
  obtain ⟨x0,x1⟩:=qbh hp hj
  rw [qkp hp (by omega) (by omega)]
  constructor
  ·rintro ⟨i,hi,e⟩
   obtain ⟨y0,y1⟩:=qbh hp (by omega:i < p.length)
   exact ⟨i,hi,by omega⟩
  ·rintro ⟨i,hi,e⟩
   exact ⟨i,hi,by rw [e]⟩
 constructor
 ·intro h x y hx hy e
  have hk:=(key x hx).2 ⟨y,hy,e⟩
  have:dupK p p.length=true:=by
   unfold dupK
   rw [List.any_eq_true]
   exact ⟨x,List.mem_range.2 hx,hk⟩
  rw [h] at this;cases this
 ·intro h
  cases hd:dupK p p.length with
  | false=>rfl
  | true =>
    unfold dupK at hd
    rw [List.any_eq_true] at hd
    obtain ⟨x,hx,hk⟩:=hd
    have hx:=List.mem_range.1 hx
    obtain ⟨y,hy,e⟩:=(key x hx).1 hk
    exact absurd e (h x y hx hy)
abbrev rclS:VSpec:=spec2 cL cI (fun p n=>decide (p.length≤1000) && decide (n=p.length)) (fun p _=>vI (permE p)) false
theorem rcl_ok:OK 1002 63 rclS:=by
 refine OK.of2 (F:=1001) (tb:=[]) (pol:=fun _=>false) (by simp) (x:=(Tryz.f63.body).getD .skip) (Nat.le_of_ble_eq_true rfl) Tryz.func63 rfl (ok_fn (by rfl) Tryz.func63 rfl) (by kernel_rfl) (by intros;rfl) fun n hn p z hc=>?_
 simp only [Bool.and_eq_true,decide_eq_true_eq] at hc
 obtain ⟨hl,rfl⟩:=hc
 have key:=fun (a:VF) (σ:VSt) (c:Nat)=>cl_loop1 hl (call:=callOf []) (pol:=fun _=>false) (m:=n) (k:=n) (a:=a) (σ:=σ) (c:=c) (by omega)
 rw [show clA=atC [1,0,1,0,0] ((Tryz.f63.body).getD .skip) from rfl] at key
 simp only [Tryz.f63,Option.getD_some,atC] at key
 have key2:=fun (a:VF) (σ:VSt) (c:Nat)=>cl_loop2 hl (call:=callOf []) (m:=n) (k:=n) (a:=a) (σ:=σ) (c:=c) (by omega) (by omega)
 rw [show clB=atC [1,1,0,1,0,0] ((Tryz.f63.body).getD .skip) from rfl] at key2
 simp only [Tryz.f63,Option.getD_some,atC] at key2
 unfold permE
 simp (disch:=omega) only [Tryz.f63,qaw,qao,qah,qax,qay,qdj,qbv,qal,qaa,qab,qac,↓qaa,↓qab,↓qac,qav,qai,Option.getD_some,enc_L,enc_I]
 generalize hA:updV _ 5 _=B
 obtain ⟨x,a',σ',c',e,w0,⟨rfl,h⟩ | ⟨rfl,h,w4⟩⟩:=key B _ _ (by subst hA;rfl) (by subst hA;rfl) (by subst hA;rfl)
 ·rw [e,if_pos h]
  simp (disch:=omega) only [qac,qdp,↓qac,↓reduceIte]
  generalize hA2:updV a' 6 _=B2
  obtain ⟨x,a2,σ2,c2,e2,⟨rfl,h2⟩ | ⟨rfl,h2,v4⟩⟩:=key2 B2 σ' c' (by subst hA2;exact w0) (by subst hA2;rfl)
  ·rw [e2,(dup_iff h).2 h2]
   simp (disch:=omega) only [qac,qdp,↓qac,qag,qad,↓qad,qbw,qb8,qbx,fv_r,pv_1,fsh_1,qbk,↓reduceIte,Bool.false_eq_true]
  ·have:dupK p p.length=true:=by
    cases hd:dupK p p.length with
    | true=>rfl
    | false=>exact absurd ((dup_iff h).1 hd) h2
   rw [e2,this]
   simp (disch:=omega) only [qaz,qdx,↓qaz,qad,↓qad,qbw,qb8,qbx,fv_r,pv_1,fsh_1,qbk,↓reduceIte,v4]
 ·rw [e,if_neg (by rw [h];simp)]
  simp (disch:=omega) only [qaz,qdx,↓qaz,qad,↓qad,qbw,qb8,qbx,fv_r,pv_1,fsh_1,qbk,w4]
theorem rck_ok:OK 1003 23 checkS:=by
 refine OK.of1 (F:=1002) (tb:=[(63,rclS)]) (pol:=fun _=>false) ?_ (x:=(Tryz.f23.body).getD .skip) (Nat.le_of_ble_eq_true rfl) Tryz.func23 rfl (ok_fn (by rfl) Tryz.func23 rfl) (by kernel_rfl) (by intros;rfl) fun n hn o hc=>?_
 ·intro y hy
  simp only [List.mem_singleton] at hy
  subst hy
  exact rcl_ok
 obtain ⟨r,v⟩:=o
 simp only [Bool.and_eq_true,decide_eq_true_eq] at hc
 by_cases hl:r.length=v.length
 ·have hlI:(((r.length:Nat):Int)=((v.length:Nat):Int))=True:=eq_true (by omega)
  by_cases h0:r.length=0
  ·have hE:checkE (r,v)=10:=by unfold checkE;rw [if_pos (.inr h0)]
   have d1:(((r.length:Nat):Int)=0)=True:=eq_true (by omega)
   simp (disch:=omega) only [Tryz.f23,Option.getD_some,qaw,List.getElem?_toArray,qao,qce,qbj,gdV_b,qah,qax,qau,qbv,qat,qal,qcx,qcv,qa4,qcl,qcg uL,qa3,qdf,qch,qaa,qab,qac,qaz,qam,qcr,qcb,↓qaa,↓qab,↓qac,↓qaz,↓qam,↓qcr,↓qcb,qaq,qbg,qag,qap,qav,qai,qa1,qa2,qae,qad,↓qae,↓qad,qdn,ln_fz,qa6,qbw,qb8,qbx,fv_r,pv_1,fsh_1,qbk,frV_0,Option.map_some,↓reduceIte,Nat.reduceEqDiff,Nat.zero_add,Nat.add_zero,decide_true,Bool.not_true,List.getElem?_cons_zero,List.getElem?_cons_succ,beq_self_eq_true,Option.getD_some,enc_O,sv_st,qco aL,qcf fO0,qcf fO1,hlI,d1,hE]
  ·have d1:(((r.length:Nat):Int)=0)=False:=eq_false (by omega)
   by_cases h6:60 < r.length
   ·have hE:checkE (r,v)=8:=by unfold checkE;rw [if_neg (by intro hh;rcases hh with hh | hh;exact hh hl;exact h0 hh),if_pos h6]
    have d2:(60:Int) < ((r.length:Nat):Int):=by omega
    simp (disch:=omega) only [Tryz.f23,Option.getD_some,qaw,List.getElem?_toArray,qao,qce,qbj,gdV_b,qah,qax,qau,qa7,qbv,qat,qal,qcx,qcv,qa4,qcl,qcg uL,qa3,qdi,qdf,qch,qaa,qab,qac,qaz,qam,qan,qcr,qcb,↓qaa,↓qab,↓qac,↓qaz,↓qam,↓qan,↓qcr,↓qcb,qaq,qbg,qag,qap,qav,qai,qa1,qa2,qae,qad,↓qae,↓qad,qdn,ln_fz,qa6,qbw,qb8,qbx,fv_r,pv_1,fsh_1,qbk,frV_0,Option.map_some,↓reduceIte,Nat.reduceEqDiff,Nat.zero_add,Nat.add_zero,decide_true,decide_false,Bool.not_true,List.getElem?_cons_zero,List.getElem?_cons_succ,beq_self_eq_true,Option.getD_some,enc_O,sv_st,qco aL,qcf fO0,qcf fO1,hlI,d1,d2,hE]
   ·have hE:checkE (r,v)=if permE r≠0 then permE r else permE v:=by unfold checkE;rw [if_neg (by intro hh;rcases hh with hh | hh;exact hh hl;exact h0 hh),if_neg h6]
    have d2:¬ ((60:Int) < ((r.length:Nat):Int)):=by omega
    have b1:decide (r.length≤1000)=true:=decide_eq_true (by omega)
    have b2:decide (v.length≤1000)=true:=decide_eq_true (by omega)
    have b3:decide ((r.length:Int)=(r.length:Int))=true:=decide_eq_true rfl
    have b4:decide ((r.length:Int)=(v.length:Int))=true:=decide_eq_true (by omega)
    rw [hE]
    by_cases hp:permE r=0
    ·have hT:(permE r=0)=True:=eq_true hp
     rw [if_neg (by rw [hp];simp)]
     simp (disch:=omega) only [Tryz.f23,Option.getD_some,qaw,List.getElem?_toArray,qao,qce,qbj,gdV_b,qah,qax,qau,qa7,qbv,qat,qal,qcx,qcv,qa4,qcl,qbi,qcg uL,qa3,qdi,qdf,qch,qaa,qab,qac,qan,qcr,qcb,↓qaa,↓qab,↓qac,↓qan,↓qcr,↓qcb,qaq,qbg,qag,qap,qa5,qav,qai,qa1,qa2,qae,qaj,qad,↓qae,↓qaj,↓qad,qdn,ln_fz,qa6,qbz,qbf,pk_sc,pk_fz,vcall,qb4,qas,qbw,qb8,qbx,fv_r,pv_1,fsh_1,qbk,frV_0,Option.map_some,↓reduceIte,Nat.reduceEqDiff,Nat.zero_add,Nat.add_zero,List.map_cons,List.map_nil,decide_true,decide_false,Bool.not_true,List.getElem?_cons_zero,List.getElem?_cons_succ,beq_self_eq_true,qaf,↓qaf,Bool.and_true,Option.getD_some,sp2,enc_O,qak,↓qak,dec_L,dec_I,sv_st,qco aL,qcf fO0,qcf fO1,hlI,d1,d2,b1,b2,hT]
    ·have hF:(permE r=0)=False:=eq_false hp
     rw [if_pos hp]
     simp (disch:=omega) only [Tryz.f23,Option.getD_some,qaw,List.getElem?_toArray,qao,qce,qbj,gdV_b,qah,qax,qau,qa7,qbv,qat,qal,qcx,qcv,qa4,qcl,qbi,qcg uL,qa3,qdi,qdf,qch,qaa,qab,qac,qaz,qam,qan,qcr,qcb,↓qaa,↓qab,↓qac,↓qaz,↓qam,↓qan,↓qcr,↓qcb,qaq,qbg,qag,qap,qa5,qav,qai,qa1,qa2,qae,qaj,qad,↓qae,↓qaj,↓qad,qdn,ln_fz,qa6,qbz,qbf,pk_sc,pk_fz,vcall,qb4,qas,qbw,qb8,qbx,fv_r,pv_1,fsh_1,qbk,frV_0,Option.map_some,↓reduceIte,Nat.reduceEqDiff,Nat.zero_add,Nat.add_zero,List.map_cons,List.map_nil,decide_true,decide_false,Bool.not_true,Bool.not_false,List.getElem?_cons_zero,List.getElem?_cons_succ,beq_self_eq_true,qaf,↓qaf,Bool.and_true,Option.getD_some,sp2,enc_O,qak,↓qak,dec_L,dec_I,sv_st,qco aL,qcf fO0,qcf fO1,hlI,d1,d2,b1,hF]
 ·have hE:checkE (r,v)=10:=by unfold checkE;rw [if_pos (.inl hl)]
  have d1:(((r.length:Nat):Int)=((v.length:Nat):Int))=False:=eq_false (by omega)
  simp (disch:=omega) only [Tryz.f23,Option.getD_some,qaw,List.getElem?_toArray,qao,qce,qbj,gdV_b,qah,qax,qau,qbv,qat,qal,qcx,qcv,qa4,qcl,qcg uL,qa3,qch,qaa,qab,qac,qaz,qam,qdq,qcw,↓qaa,↓qab,↓qac,↓qaz,↓qam,↓qdq,↓qcw,qaq,qbg,qag,qap,qav,qcs,qai,qa1,qa2,qae,qad,↓qae,↓qad,qdn,ln_fz,qa6,qbw,qb8,qbx,fv_r,pv_1,fsh_1,qbk,frV_0,Option.map_some,↓reduceIte,Nat.reduceEqDiff,Nat.zero_add,Nat.add_zero,decide_false,Bool.not_false,List.getElem?_cons_zero,List.getElem?_cons_succ,b_tf,Option.getD_some,enc_O,sv_st,qco aL,qcf fO0,qcf fO1,d1,hE]
end Go.Proofs.YtmdnofcphdjieaaGreatDoor
namespace Go.Proofs.YtmdnofcphdjieaaGreatDoor
open Go Go.Abs
set_option maxRecDepth 10000
attribute [local congr] qba qbb qbc qbd qbn qbe qbo qbp qbq qbr qbt qbu qcc qby qbs qbl qb7 qb1
abbrev rszS:VSpec:=spec1 cO (fun _=>true) (fun o=>vI (o.1.length:Int)) false
theorem rsz_ok:OK 1 106 rszS:=by
 refine OK.of1 (F:=0) (tb:=[]) (pol:=fun _=>false) (by simp) (x:=(Tryz.f106.body).getD .skip) (Nat.le_of_ble_eq_true rfl) Tryz.func106 rfl (ok_fn (by rfl) Tryz.func106 rfl) (by kernel_rfl) (by intros;rfl) fun n hn o hc=>?_
 obtain ⟨r,u⟩:=o
 simp (disch:=omega) only [Tryz.f106,Option.getD_some,qaw,qao,qah,qax,qbv,qal,qcv,qa4,qcl,qcg uL,qaa,qab,qac,↓qaa,↓qab,↓qac,qaq,qbg,qag,qap,qav,qai,qa1,qa2,qae,qad,↓qae,↓qad,qdn,ln_fz,qa6,qbw,qb8,qbx,fv_r,pv_1,fsh_1,qbk,frV_0,Option.map_some,↓reduceIte,Nat.reduceEqDiff,Nat.zero_add,Nat.add_zero,List.getElem?_cons_zero,Option.getD_some,enc_O,sv_st,qco aL,qcf fO0]
def cpx (o:Og) (l:List Bool) (x:Nat):List Bool:=if l.getD x false then (l.set (o.1.getD x 0).toNat true).set (o.2.getD x 0).toNat true else l
def cpr (o:Og) (l:List Bool) (i:Nat):List Bool:=(List.range i).foldl (cpx o) l
theorem qh6 (o:Og) (l:List Bool) (i:Nat):cpr o l (i+1)=cpx o (cpr o l i) i:=by simp [cpr,List.range_succ]
theorem cpx_len (o:Og) (l:List Bool) (x:Nat):(cpx o l x).length=l.length:=by unfold cpx;split<;>simp
theorem qkr (o:Og) (l:List Bool) (i:Nat):(cpr o l i).length=l.length:=by
 induction i with
 | zero=>rfl
 | succ i ih=>rw [qh6,cpx_len,ih]
def cpK (o:Og) (l:List Bool):Nat→List Bool
 | 0=>l
 | k+1=>cpr o (cpK o l k) o.1.length
theorem qgg (o:Og) (l:List Bool) (k:Nat):(cpK o l k).length=l.length:=by
 induction k with
 | zero=>rfl
 | succ k ih=>rw [cpK,qkr,ih]
def cst (n s:Nat):List Bool:=(List.replicate n false).set s true
def cin (o:Og) (s:Nat):List Bool:=cpK o (cst o.1.length s) o.1.length
def colK (l:List Bool) (i:Nat):List Int:=((List.range i).filter fun x=>l.getD x false).map fun (x:Nat)=>(x:Int)
theorem qks (l:List Bool) (i:Nat):colK l (i+1)=if l.getD i false then colK l i++[(i:Int)] else colK l i:=by
 unfold colK
 rw [List.range_succ,List.filter_append,List.map_append]
 cases h:l.getD i false with
 | true =>
   rw [show [i].filter (fun x=>l.getD x false)=[i] from by simp only [List.filter_cons,List.filter_nil,h,if_true]]
   rfl
 | false =>
   rw [show [i].filter (fun x=>l.getD x false)=[] from by simp only [List.filter_cons,List.filter_nil,h,Bool.false_eq_true,if_false]]
   simp
theorem colK_len (l:List Bool) (i:Nat):(colK l i).length≤i:=by
 unfold colK
 rw [List.length_map]
 exact Nat.le_trans (List.length_filter_le _ _) (by simp)
def rcmL (o:Og) (s:Nat):List Int:=colK (cin o s) o.1.length
noncomputable def cpA:Code:=atC [1,1,1,0,1,0,0] ((Tryz.f134.body).getD .skip)
noncomputable def cpB:Code:=atC [1,1,1,0,1,0,0,1,0,0,1,0,0] ((Tryz.f134.body).getD .skip)
noncomputable def cpC:Code:=atC [1,1,1,1,1,0,1,0,0] ((Tryz.f134.body).getD .skip)
abbrev cpT:List (Nat×VSpec):=[(106,rszS)]
abbrev cpPol:Nat→Bool:=fun d=>d == 12 || d == 59
abbrev bx0 (v:Nat) (r u:List Int):Option Ob:=some ⟨v,0,0,[vL r,vL u]⟩
theorem cp_loop1 {r u:List Int} (hr:inB r r.length=true) (hu:inB u r.length=true) (hul:u.length=r.length) (hl:r.length≤1000) {l:List Bool} (hll:l.length=r.length) {m k c v w:Nat} {a:VF} {σ:VSt} (hk:r.length < k)
  (h2:a 2 = .ptr 2 v 0) (h5:a 5 = .own 12 w) (h6:∃ z,a 6=vI z) (h7:a 7=vI ((0:Nat):Int)) (s2:σ 2=bx0 v r u) (s12:σ 12=some ⟨w,r.length,1,lb l⟩) :
  ∃ x a' σ' c',loopV (evVC Tryz.prog (callOf cpT) cpPol m cpB) k a σ c=some (x,a',σ',c')∧x = .exit 2∧a' 2 = .ptr 2 v 0∧a' 5 = .own 12 w∧a' 6=a 6∧σ' 2=bx0 v r u∧σ' 12=some ⟨w,r.length,1,lb (cpr (r,u) l r.length)⟩:=by
 have p10:cpPol (1000000+10)=false:=rfl
 refine qc2 r.length (fun i a' σ _=>a' 2 = .ptr 2 v 0∧a' 5 = .own 12 w∧a' 6=a 6∧a' 7=vI i∧σ 2=bx0 v r u∧σ 12=some ⟨w,r.length,1,lb (cpr (r,u) l i)⟩) _ ?_ ?_ hk ⟨h2,h5,rfl,h7,s2,s12⟩
 ·intro i a' σ c hi ⟨h2,h5,h6,h7,s2,s12⟩
  left
  have hlen:(cpr (r,u) l i).length=r.length:=by rw [qkr,hll]
  have c1:(i:Int) < (r.length:Int):=by omega
  have c2:(i:Int) < (u.length:Int):=by omega
  have hi2:i < u.length:=by omega
  have hil:i < (cpr (r,u) l i).length:=by omega
  have e3:IntKind.i64.wrap ((i:Int)+1)=((i+1:Nat):Int):=by rw [wr64 (by omega) (by omega)];omega
  obtain ⟨x0,x1⟩:=qbh hr hi
  obtain ⟨y0,y1⟩:=qbh hu hi2
  have x2:(r.getD i 0).toNat < r.length:=by omega
  have y2:(u.getD i 0).toNat < r.length:=by omega
  have hg:=lb_get hil
  have hstep:cpr (r,u) l (i+1)=cpx (r,u) (cpr (r,u) l i) i:=qh6 _ _ _
  rw [show cpB=atC [1,1,1,0,1,0,0,1,0,0,1,0,0] ((Tryz.f134.body).getD .skip) from rfl]
  cases hx:(cpr (r,u) l i).getD i false with
  | true =>
    rw [hx] at hg
    unfold cpx at hstep
    rw [if_pos hx] at hstep
    simp (disch:=omega) only [Tryz.f134,Option.getD_some,atC,qaw,qao,qah,qc4,qax,qau,qay,qa7,qat,qal,qa4,qc1,qcl,qcd,qbi,qa3,qa0,qb9,qaa,qab,qac,qcu,qam,↓qaa,↓qab,↓qac,↓qam,qaq,qcm,qag,qap,qa5,qav,qcs,qai,qcn,qa1,qa2,qae,qaj,qad,↓qae,↓qaj,↓qad,ad_fz eL,ld_rp aI,qc3,qdn,qbz,qbf,qb6,qbm,pk_st,qcp,vcall,qb4,qas,qdm,List.getElem?_drop,↓reduceIte,Nat.reduceEqDiff,Nat.zero_add,Nat.add_zero,Nat.mul_one,Int.toNat_natCast,Int.natCast_nonneg,and_self,List.map_cons,List.map_nil,decide_true,List.getElem?_cons_zero,List.getElem?_cons_succ,qaf,qar,↓qaf,↓qar,Option.getD_some,sp1,qak,↓qak,dec_O,sl_fz,qa8,ldN_2,qco aL,qcf fO0,qcf fO1,qb5 aO zO,List.length_cons,List.length_nil,Nat.reduceAdd,Nat.le_refl,List.drop_zero,p10,h2,h5,h7,s2,s12,c1,c2,x0,x1,x2,y0,y1,y2,qew eB,qco aB,st_sc zB,hg,lb_len,lb_set,hlen,List.length_set,e3]
    refine ⟨_,_,_,rfl,?_⟩
    refine ⟨h2,h5,h6,rfl,s2,?_⟩
    rw [hstep]
    rfl
  | false =>
    rw [hx] at hg
    unfold cpx at hstep
    rw [if_neg (by rw [hx];simp)] at hstep
    simp (disch:=omega) only [Tryz.f134,Option.getD_some,atC,qaw,qao,qah,qax,qau,qay,qa7,qat,qal,qa4,qcd,qbi,qa3,qa0,qb9,qaa,qab,qac,qcu,qam,qan,↓qaa,↓qab,↓qac,↓qam,↓qan,qaq,qag,qap,qa5,qav,qai,qa1,qa2,qae,qaj,qad,↓qae,↓qaj,↓qad,qc3,qbz,qbf,qb6,qbm,pk_st,qcp,vcall,qb4,qas,↓reduceIte,Nat.reduceEqDiff,Nat.zero_add,Nat.mul_one,Int.toNat_natCast,Int.natCast_nonneg,and_self,List.map_cons,List.map_nil,decide_true,qaf,↓qaf,Option.getD_some,sp1,qak,↓qak,dec_O,sl_fz,qa8,ldN_2,qb5 aO zO,List.length_cons,List.length_nil,Nat.reduceAdd,Nat.le_refl,List.drop_zero,h2,h5,h7,s2,s12,c1,qew eB,qco aB,hg,e3]
    refine ⟨_,_,_,rfl,?_⟩
    refine ⟨h2,h5,h6,rfl,s2,?_⟩
    rw [hstep]
    exact s12
 ·intro a' σ c ⟨h2,h5,h6,h7,s2,s12⟩
  have c1:¬ ((r.length:Int) < (r.length:Int)):=by omega
  rw [show cpB=atC [1,1,1,0,1,0,0,1,0,0,1,0,0] ((Tryz.f134.body).getD .skip) from rfl]
  simp (disch:=omega) only [Tryz.f134,Option.getD_some,atC,qaw,qao,qah,qax,qau,qda,qat,qa4,qbi,qa3,qa0,qaa,qab,qac,qb0,qan,↓qaa,↓qab,↓qac,↓qb0,↓qan,qaq,qag,qap,qa5,qai,qa1,qa2,qae,qaj,qad,↓qae,↓qaj,↓qad,qbz,qbf,qb6,qbm,pk_st,qcp,vcall,qb4,qas,↓reduceIte,Nat.reduceEqDiff,Nat.zero_add,List.map_cons,List.map_nil,decide_false,qaf,↓qaf,Option.getD_some,sp1,qak,↓qak,dec_O,sl_fz,qa8,ldN_2,qb5 aO zO,List.length_cons,List.length_nil,Nat.reduceAdd,Nat.le_refl,List.drop_zero,h2,h7,s2,c1]
  refine ⟨_,_,_,_,rfl,?_⟩
  exact ⟨by simp,rfl,h2,h5,h6,s2,s12⟩
theorem cp_loop2 {r u:List Int} (hr:inB r r.length=true) (hu:inB u r.length=true) (hul:u.length=r.length) (hl:r.length≤1000) {l:List Bool} (hll:l.length=r.length) {m k c v w:Nat} {a:VF} {σ:VSt} (hk:r.length < k) (hm:r.length < m)
  (h2:a 2 = .ptr 2 v 0) (h5:a 5 = .own 12 w) (h6:a 6=vI ((0:Nat):Int)) (s2:σ 2=bx0 v r u) (s12:σ 12=some ⟨w,r.length,1,lb l⟩) :
  ∃ x a' σ' c',loopV (evVC Tryz.prog (callOf cpT) cpPol m cpA) k a σ c=some (x,a',σ',c')∧x = .exit 0∧a' 2 = .ptr 2 v 0∧a' 5 = .own 12 w∧σ' 2=bx0 v r u∧σ' 12=some ⟨w,r.length,1,lb (cpK (r,u) l r.length)⟩:=by
 refine qc2 r.length (fun i a σ _=>a 2 = .ptr 2 v 0∧a 5 = .own 12 w∧a 6=vI i∧σ 2=bx0 v r u∧σ 12=some ⟨w,r.length,1,lb (cpK (r,u) l i)⟩) _ ?_ ?_ hk ⟨h2,h5,h6,s2,s12⟩
 ·intro i a σ c hi ⟨h2,h5,h6,s2,s12⟩
  left
  have c1:(i:Int) < (r.length:Int):=by omega
  have e3:IntKind.i64.wrap ((i:Int)+1)=((i+1:Nat):Int):=by rw [wr64 (by omega) (by omega)];omega
  have key:=fun (a:VF) (σ:VSt) (c v w:Nat)=>cp_loop1 hr hu hul hl (l:=cpK (r,u) l i) (by rw [qgg,hll]) (m:=m) (k:=m) (a:=a) (σ:=σ) (c:=c) (v:=v) (w:=w) hm
  rw [show cpB=atC [1,1,1,0,1,0,0,1,0,0,1,0,0] ((Tryz.f134.body).getD .skip) from rfl] at key
  simp only [Tryz.f134,Option.getD_some,atC] at key
  rw [show cpA=atC [1,1,1,0,1,0,0] ((Tryz.f134.body).getD .skip) from rfl]
  simp (disch:=omega) only [Tryz.f134,Option.getD_some,atC,qaw,qao,qah,qax,qau,qay,qdj,qa7,qat,qal,qa4,qbi,qa3,qa0,qaa,qab,qac,qam,↓qaa,↓qab,↓qac,↓qam,qaq,qag,qap,qa5,qav,qai,qa1,qa2,qae,qaj,qad,↓qae,↓qaj,↓qad,qbz,qbf,qb6,qbm,pk_st,qcp,vcall,qb4,qas,↓reduceIte,Nat.reduceEqDiff,Nat.zero_add,List.map_cons,List.map_nil,decide_true,qaf,↓qaf,Option.getD_some,sp1,qak,↓qak,dec_O,sl_fz,qa8,ldN_2,qb5 aO zO,List.length_cons,List.length_nil,Nat.reduceAdd,Nat.le_refl,List.drop_zero,h2,h6,s2,c1]
  generalize hA:updV _ 7 _=B
  obtain ⟨x,a',σ',c',e,rfl,w2,w5,w6,q2,q12⟩:=key B σ _ _ _ (by subst hA;exact h2) (by subst hA;exact h5) (by subst hA;exact ⟨_,h6⟩) (by subst hA;rfl) s2 s12
  have w6':a' 6=vI i:=by rw [w6];subst hA;exact h6
  rw [e]
  simp (disch:=omega) only [qb9,qaa,qab,qac,qcu,qdp,↓qaa,↓qab,↓qac,↓reduceIte,w6',e3]
  refine ⟨_,_,_,rfl,?_⟩
  exact ⟨w2,w5,rfl,q2,q12⟩
 ·intro a σ c ⟨h2,h5,h6,s2,s12⟩
  have c1:¬ ((r.length:Int) < (r.length:Int)):=by omega
  rw [show cpA=atC [1,1,1,0,1,0,0] ((Tryz.f134.body).getD .skip) from rfl]
  simp (disch:=omega) only [Tryz.f134,Option.getD_some,atC,qaw,qao,qah,qax,qau,qda,qat,qa4,qbi,qa3,qa0,qaa,qab,qac,qb0,qan,↓qaa,↓qab,↓qac,↓qb0,↓qan,qaq,qag,qap,qa5,qai,qa1,qa2,qae,qaj,qad,↓qae,↓qaj,↓qad,qbz,qbf,qb6,qbm,pk_st,qcp,vcall,qb4,qas,↓reduceIte,Nat.reduceEqDiff,Nat.zero_add,List.map_cons,List.map_nil,decide_false,qaf,↓qaf,Option.getD_some,sp1,qak,↓qak,dec_O,sl_fz,qa8,ldN_2,qb5 aO zO,List.length_cons,List.length_nil,Nat.reduceAdd,Nat.le_refl,List.drop_zero,h2,h6,s2,c1]
  refine ⟨_,_,_,_,rfl,?_⟩
  exact ⟨by simp,rfl,h2,h5,s2,s12⟩
theorem cp_loop3 {r u:List Int} (hl:r.length≤1000) {l:List Bool} (hll:l.length=r.length) {m k c v w:Nat} {a:VF} {σ:VSt} (hk:r.length < k)
  (h2:a 2 = .ptr 2 v 0) (h5:a 5 = .own 12 w) (h8:a 8 = .nl) (h9:a 9=vI ((0:Nat):Int)) (s2:σ 2=bx0 v r u) (s12:σ 12=some ⟨w,r.length,1,lb l⟩) :
  ∃ x a' σ' c',loopV (evVC Tryz.prog (callOf cpT) cpPol m cpC) k a σ c=some (x,a',σ',c')∧x = .exit 4∧GrowR 59 (colK l r.length) (a' 8) (σ' 59):=by
 refine qc2 r.length (fun i a σ _=>a 2 = .ptr 2 v 0∧a 5 = .own 12 w∧a 9=vI i∧σ 2=bx0 v r u∧σ 12=some ⟨w,r.length,1,lb l⟩∧GrowR 59 (colK l i) (a 8) (σ 59)) _ ?_ ?_ hk ⟨h2,h5,h9,s2,s12,.inl ⟨rfl,h8⟩⟩
 ·intro i a σ c hi ⟨h2,h5,h9,s2,s12,hg⟩
  left
  have c1:(i:Int) < (r.length:Int):=by omega
  have e3:IntKind.i64.wrap ((i:Int)+1)=((i+1:Nat):Int):=by rw [wr64 (by omega) (by omega)];omega
  have hgt:=lb_get (l:=l) (i:=i) (by omega)
  have hcl:=colK_len l i
  have hcs:=qks l i
  have p58:cpPol 58=false:=rfl
  have p59:cpPol 59=true:=rfl
  rw [show cpC=atC [1,1,1,1,1,0,1,0,0] ((Tryz.f134.body).getD .skip) from rfl]
  cases hx:l.getD i false with
  | false =>
    rw [hx] at hgt hcs
    simp (disch:=omega) only [Tryz.f134,Option.getD_some,atC,qaw,qao,qah,qax,qau,qay,qa7,qat,qal,qa4,qcd,qbi,qa3,qa0,qb9,qaa,qab,qac,qcu,qam,qan,↓qaa,↓qab,↓qac,↓qam,↓qan,qaq,qag,qap,qa5,qav,qai,qa1,qa2,qae,qaj,qad,↓qae,↓qaj,↓qad,qc3,qbz,qbf,qb6,qbm,pk_st,qcp,vcall,qb4,qas,↓reduceIte,Nat.reduceEqDiff,Nat.zero_add,Nat.mul_one,Int.toNat_natCast,Int.natCast_nonneg,and_self,List.map_cons,List.map_nil,decide_true,qaf,↓qaf,Option.getD_some,sp1,qak,↓qak,dec_O,sl_fz,qa8,ldN_2,qb5 aO zO,List.length_cons,List.length_nil,Nat.reduceAdd,Nat.le_refl,List.drop_zero,h2,h5,h9,s2,s12,c1,qew eB,qco aB,hgt,e3]
    refine ⟨_,_,_,rfl,?_⟩
    refine ⟨h2,h5,rfl,s2,s12,?_⟩
    rw [hcs]
    exact hg
  | true =>
    rw [hx] at hgt hcs
    rw [if_pos rfl] at hcs
    rcases hg with ⟨hg,h8⟩ | ⟨w8,h8,hs⟩
    ·have h1m:0+1≤maxA:=by decide
     simp (disch:=omega) only [Tryz.f134,Option.getD_some,atC,qaw,qao,qah,qax,qau,qay,qa7,qat,qal,qa4,qcd,qbi,qgy,qa3,qa0,qb9,qaa,qab,qac,qcu,qam,↓qaa,↓qab,↓qac,↓qam,qaq,qag,qap,qa5,qav,qai,qa1,qa2,qae,qaj,qad,↓qae,↓qaj,↓qad,qc3,ap_nl eL pVI,qc5,bs_I1,qc0,qbz,qbf,qb6,qbm,pk_st,qcp,vcall,qb4,qas,↓reduceIte,Nat.reduceEqDiff,Nat.succ_ne_self,Nat.zero_add,Nat.mul_one,Int.toNat_natCast,Int.natCast_nonneg,and_self,List.map_cons,List.map_nil,decide_true,qaf,qar,↓qaf,↓qar,Option.getD_some,sp1,qak,↓qak,dec_O,sl_fz,qa8,ldN_2,qb5 aO zO,List.length_cons,List.length_nil,Nat.reduceAdd,Nat.le_refl,List.drop_zero,h2,h5,h8,h9,s2,s12,c1,qew eB,qco aB,hgt,p58,e3]
     refine ⟨_,_,_,rfl,?_⟩
     refine ⟨h2,h5,rfl,s2,s12,.inr ⟨_,rfl,?_⟩⟩
     rw [hcs,hg]
     rfl
    ·have hm:(colK l i).length+(0+1)≤maxA:=by unfold maxA;omega
     simp (disch:=omega) only [Tryz.f134,Option.getD_some,atC,qaw,qao,qah,qax,qau,qay,qa7,qat,qal,qa4,qcd,qbi,qgy,qa3,qa0,qb9,qaa,qab,qac,qcu,qam,↓qaa,↓qab,↓qac,↓qam,qaq,qag,qap,qa5,qav,qai,qa1,qa2,qae,qaj,qad,↓qae,↓qaj,↓qad,qc3,qjw eL pVI,bs_I1,qc0,qbz,qbf,qb6,qbm,pk_st,qcp,vcall,qb4,qas,qiu,qjg,↓reduceIte,Nat.reduceEqDiff,Nat.succ_ne_self,Nat.zero_add,Nat.mul_one,Int.toNat_natCast,Int.natCast_nonneg,and_self,List.map_cons,List.map_nil,decide_true,qaf,qar,↓qaf,↓qar,Option.getD_some,sp1,qak,↓qak,dec_O,sl_fz,qa8,ldN_2,qb5 aO zO,List.length_cons,List.length_nil,Nat.reduceAdd,Nat.le_refl,List.drop_zero,h2,h5,h8,h9,s2,s12,hs,c1,qew eB,qco aB,hgt,p58,hm,e3]
     refine ⟨_,_,_,rfl,?_⟩
     refine ⟨h2,h5,rfl,s2,s12,.inr ⟨_,rfl,?_⟩⟩
     rw [hcs]
     simp only [qag,↓reduceIte,List.length_append,List.length_cons,List.length_nil]
 ·intro a σ c ⟨h2,h5,h9,s2,s12,hg⟩
  have c1:¬ ((r.length:Int) < (r.length:Int)):=by omega
  rw [show cpC=atC [1,1,1,1,1,0,1,0,0] ((Tryz.f134.body).getD .skip) from rfl]
  simp (disch:=omega) only [Tryz.f134,Option.getD_some,atC,qaw,qao,qah,qax,qau,qda,qat,qa4,qbi,qa3,qa0,qaa,qab,qac,qb0,qan,↓qaa,↓qab,↓qac,↓qb0,↓qan,qaq,qag,qap,qa5,qai,qa1,qa2,qae,qaj,qad,↓qae,↓qaj,↓qad,qbz,qbf,qb6,qbm,pk_st,qcp,vcall,qb4,qas,↓reduceIte,Nat.reduceEqDiff,Nat.zero_add,List.map_cons,List.map_nil,decide_false,qaf,↓qaf,Option.getD_some,sp1,qak,↓qak,dec_O,sl_fz,qa8,ldN_2,qb5 aO zO,List.length_cons,List.length_nil,Nat.reduceAdd,Nat.le_refl,List.drop_zero,h2,h9,s2,c1]
  refine ⟨_,_,_,_,rfl,?_⟩
  exact ⟨by simp,rfl,hg⟩
abbrev cpP (o:Og) (s:Int):Bool:=Po o && (decide (0≤s) && (decide (s < o.1.length) && decide (0 < (rcmL o s.toNat).length)))
abbrev cpS:VSpec:=spec2 cO cI cpP (fun o s=>vL (rcmL o s.toNat)) true
theorem cp_ok:OK 1003 134 cpS:=by
 refine OK.of2 (F:=1002) (tb:=cpT) (pol:=cpPol) ?_ (x:=(Tryz.f134.body).getD .skip) (Nat.le_of_ble_eq_true rfl) Tryz.func134 rfl (ok_fn (by rfl) Tryz.func134 rfl) (by kernel_rfl) (by intros;rfl) fun n hn o z hc=>?_
 ·intro y hy
  simp only [cpT,List.mem_singleton] at hy
  subst hy
  exact rsz_ok.mono (by omega)
 obtain ⟨r,u⟩:=o
 simp only [cpP,Bool.and_eq_true,decide_eq_true_eq] at hc
 obtain ⟨hP,z0,z1,hpos⟩:=hc
 obtain ⟨s,rfl⟩:∃ s:Nat,z=s:=⟨z.toNat,by omega⟩
 rw [Int.toNat_natCast] at hpos ⊢
 obtain ⟨h1,h2,h3⟩:=qfc.1 hP
 replace h3:r.length≤1000:=h3
 have hr:inB r r.length=true:=h1.2
 have hu:inB u r.length=true:=h2.2
 have hul:u.length=r.length:=h2.1
 have hs:s < r.length:=by have:(s:Int) < (r.length:Int):=z1;omega
 have c2:((r.length:Nat):Int)≤1048576:=by omega
 have c0:(0:Int)≤((r.length:Nat):Int):=by omega
 have zs:(s:Int) < (r.length:Int):=by omega
 have key1:=fun (a:VF) (σ:VSt) (c v w:Nat)=>cp_loop2 hr hu hul h3 (l:=cst r.length s) (by unfold cst;rw [List.length_set,List.length_replicate]) (m:=n) (k:=n) (a:=a) (σ:=σ) (c:=c) (v:=v) (w:=w) (by omega) (by omega)
 rw [show cpA=atC [1,1,1,0,1,0,0] ((Tryz.f134.body).getD .skip) from rfl] at key1
 simp only [Tryz.f134,Option.getD_some,atC] at key1
 have key3:=fun (a:VF) (σ:VSt) (c v w:Nat)=>cp_loop3 (r:=r) (u:=u) h3 (l:=cin (r,u) s) (by unfold cin cst;rw [qgg,List.length_set,List.length_replicate]) (m:=n) (k:=n) (a:=a) (σ:=σ) (c:=c) (v:=v) (w:=w) (by omega)
 rw [show cpC=atC [1,1,1,1,1,0,1,0,0] ((Tryz.f134.body).getD .skip) from rfl] at key3
 simp only [Tryz.f134,Option.getD_some,atC] at key3
 have lr:(List.replicate r.length false).length=r.length:=List.length_replicate
 simp (disch:=omega) only [Tryz.f134,Option.getD_some,qaw,qao,qah,qax,qay,qdj,qbv,qat,qal,qcv,qa4,qc1,qhy,qcd,qbi,qaa,qab,qac,↓qaa,↓qab,↓qac,qaq,qcm,qbg,qag,qap,qa5,qav,qcs,qfn,qai,qcn,qa1,qa2,qae,qaj,qad,↓qae,↓qaj,↓qad,qc5,qa6,qbz,qbf,qb6,qbm,pk_st,qcp,vcall,qb4,qas,frV_0,frV_1,↓reduceIte,Nat.reduceEqDiff,Nat.zero_add,Nat.mul_one,Int.toNat_natCast,Int.natCast_nonneg,and_self,List.map_cons,List.map_nil,qaf,↓qaf,Option.getD_some,sp1,enc_I,enc_O,qak,↓qak,dec_O,sv_st,sl_fz,qa8,ldN_2,qb5 aO zO,List.length_cons,List.length_nil,Nat.reduceAdd,Nat.le_refl,List.drop_zero,mk_B,c0,c2,Int.le_refl,zs,hs,qew eB,st_sc zB,lb_len,lb_set,lr]
 generalize hA:updV _ 6 _=B
 generalize hS:updV _ 12 _=τ
 obtain ⟨x,a',σ',c',e,rfl,w2,w5,q2,q12⟩:=key1 B τ _ _ _ (by subst hA;rfl) (by subst hA;rfl) (by subst hA;rfl) (by subst hS;rfl) (by subst hS;rfl)
 rw [e]
 simp (disch:=omega) only [qac,qdp,↓qac,↓reduceIte]
 generalize hA2:updV _ 9 _=B2
 obtain ⟨x,a2,σ2,c2',e2,rfl,hg⟩:=key3 B2 σ' c' _ _ (by subst hA2;exact w2) (by subst hA2;exact w5) (by subst hA2;rfl) (by subst hA2;rfl) q2 q12
 rw [e2]
 rcases hg with ⟨h,_⟩ | ⟨w,w8,ws⟩
 ·exfalso
  unfold rcmL at hpos
  rw [show colK (cin (r,u) s) (r,u).1.length=[] from h] at hpos
  simp at hpos
 ·simp (disch:=omega) only [qac,qdp,↓qac,qag,qa1,qa2,qae,qad,↓qae,↓qad,qbw,qb8,qe0,fv_r,pv_1,fsh_1,qem,↓reduceIte,Nat.succ_ne_self,w8,ws]
  rfl
end Go.Proofs.YtmdnofcphdjieaaGreatDoor
namespace Go.Proofs.YtmdnofcphdjieaaGreatDoor
open Go Go.Abs
set_option maxRecDepth 10000
attribute [local congr] qba qbb qbc qbd qbn qbe qbo qbp qbq qbr qbt qbu qcc qby qbs qbl qb7 qb1
theorem bs_LL1 {pol:Nat→Bool} {d:Option Nat} {σ:VSt} {c n s:Nat} {cs:List VV}:buildSliceV Tryz.prog pol d 62 1 [(0,.fz n s cs)] σ c=iteB (pol (d.getD 0)) (mkOwn d 1 1 [.fz n s cs] σ c) (some (.fz 1 1 [.fz n s cs],σ,c)):=by
 rw [bs_eq eLL ⟨by decide,by unfold maxA;decide⟩ (r:=[.fz n s cs])]
 ·simp only [List.map_cons,List.map_nil,List.flatMap_cons,List.flatMap_nil,qhf,List.append_nil,qll]
 ·simp only [List.map_cons,List.map_nil,qbf,qbz,pk_fz,optP,optL,bsV,oLL]
  rfl
def GrowL (id:Nat) (l:List (List Int)) (A:VV) (o:Option Ob):Prop:=(l=[]∧A = .nl)∨∃ w,A = .own id w∧o=some ⟨w,l.length,1,lls l⟩
theorem lls_snoc (l:List (List Int)) (x:List Int):lls l++[vL x]=lls (l++[x]):=by unfold lls;rw [List.map_append];rfl
def cpsX (o:Og) (l:List (List Int)) (x:Nat):List (List Int):=if (rcmL o x).getD 0 0=(x:Int) then l++[rcmL o x] else l
def cpsK (o:Og) (i:Nat):List (List Int):=(List.range i).foldl (cpsX o) []
theorem qgh (o:Og) (i:Nat):cpsK o (i+1)=cpsX o (cpsK o i) i:=by simp [cpsK,List.range_succ]
theorem cpsK_len (o:Og) (i:Nat):(cpsK o i).length≤i:=by
 induction i with
 | zero=>simp [cpsK]
 | succ i ih =>
   rw [qgh]
   unfold cpsX
   split
   ·rw [List.length_append];simp;omega
   ·omega
noncomputable def csC:Code:=atC [1,1,0,1,0,0] ((Tryz.f104.body).getD .skip)
abbrev csT:List (Nat×VSpec):=[(106,rszS),(134,cpS)]
abbrev csPol:Nat→Bool:=fun d=>d == 23
theorem cs_loop {r u:List Int} (hP:Po (r,u)=true) (hc:∀ x,x < r.length→0 < (rcmL (r,u) x).length) {m k c v:Nat} {a:VF} {σ:VSt} (hk:r.length < k)
  (h1:a 1 = .ptr 1 v 0) (h3:a 3 = .nl) (h4:a 4=vI ((0:Nat):Int)) (s1:σ 1=bx0 v r u) :
  ∃ x a' σ' c',loopV (evVC Tryz.prog (callOf csT) csPol m csC) k a σ c=some (x,a',σ',c')∧x = .exit 0∧GrowL 23 (cpsK (r,u) r.length) (a' 3) (σ' 23):=by
 obtain ⟨_,hu2,hl⟩:=qfc.1 hP
 replace hl:r.length≤1000:=hl
 refine qc2 r.length (fun i a σ _=>a 1 = .ptr 1 v 0∧a 4=vI i∧σ 1=bx0 v r u∧GrowL 23 (cpsK (r,u) i) (a 3) (σ 23)) _ ?_ ?_ hk ⟨h1,h4,s1,.inl ⟨rfl,h3⟩⟩
 ·intro i a σ c hi ⟨h1,h4,s1,hg⟩
  left
  have c1:(i:Int) < (r.length:Int):=by omega
  have e3:IntKind.i64.wrap ((i:Int)+1)=((i+1:Nat):Int):=by rw [wr64 (by omega) (by omega)];omega
  have hci:=hc i hi
  have t1:decide (0 < (rcmL (r,u) i).length)=true:=decide_eq_true hci
  have t0:decide ((0:Int)≤(i:Int))=true:=decide_eq_true (by omega)
  have t2:decide ((i:Int) < (r.length:Int))=true:=decide_eq_true c1
  have c3:(0:Int) < ((rcmL (r,u) i).length:Int):=by omega
  have hq:cpP (r,u) (i:Int)=true:=by
   show (Po (r,u) && (decide ((0:Int)≤i) && (decide ((i:Int) < r.length) && decide (0 < (rcmL (r,u) ((i:Int)).toNat).length))))=true
   rw [Int.toNat_natCast,hP,t0,t2,t1];rfl
  have z0:(0:Int).toNat=0:=rfl
  have hst:=qgh (r,u) i
  have hcl:=cpsK_len (r,u) i
  have p14:csPol 14=false:=rfl
  have p22:csPol 22=false:=rfl
  have p23:csPol 23=true:=rfl
  unfold cpsX at hst
  rw [show csC=atC [1,1,0,1,0,0] ((Tryz.f104.body).getD .skip) from rfl]
  by_cases hx:(rcmL (r,u) i).getD 0 0=(i:Int)
  ·have hT:((rcmL (r,u) i).getD 0 0=(i:Int))=True:=eq_true hx
   rw [if_pos hx] at hst
   rcases hg with ⟨hg,h3⟩ | ⟨w,h3,hs⟩
   ·have h1m:0+1≤maxA:=by decide
    have hmx:(0+1)*1≤maxA:=by decide
    simp (disch:=first | omega | exact hmx) only [Tryz.f104,Option.getD_some,atC,qaw,qao,qah,qax,qau,qay,qa7,qat,qal,qa4,qcd,qbi,qgy,qa3,qa0,qdf,qb9,qaa,qab,qac,qcu,qam,↓qaa,↓qab,↓qac,↓qam,qaq,qag,qap,qa5,qav,qai,qa1,qa2,qae,qaj,qad,↓qae,↓qaj,↓qad,ad_fz eL,ld_rp aI,qc3,qc5,qc0,qbz,qbf,qb6,qbm,pk_sc,pk_st,qcp,vcall,qb4,qd6,qas,qdm,qfz,qe9,qeg,List.flatMap_cons,List.flatMap_nil,List.append_nil,↓reduceIte,Nat.reduceEqDiff,Nat.succ_ne_self,Nat.zero_add,Nat.mul_one,Int.toNat_natCast,and_self,List.map_cons,List.map_nil,decide_true,qaf,qar,↓qaf,↓qar,Bool.and_true,Bool.and_false,bne_1,Option.getD_some,sp1,sp2,qak,↓qak,dec_I,dec_O,sl_fz,qa8,ldN_2,qb5 aO zO,List.length_cons,List.length_nil,Nat.reduceAdd,Nat.le_refl,List.drop_zero,h1,h3,h4,s1,hq,c1,c3,z0,Int.le_refl,hT,p14,p22,bs_LL1,ap_nl eLL pVLL,e3]
    refine ⟨_,_,_,rfl,?_⟩
    refine ⟨h1,rfl,s1,.inr ⟨_,rfl,?_⟩⟩
    rw [hst,hg]
    rfl
   ·have hm:(cpsK (r,u) i).length+(0+1)≤maxA:=by unfold maxA;omega
    simp (disch:=omega) only [Tryz.f104,Option.getD_some,atC,qaw,qao,qah,qax,qau,qay,qa7,qat,qal,qa4,qcd,qbi,qgy,qa3,qa0,qdf,qb9,qaa,qab,qac,qcu,qam,↓qaa,↓qab,↓qac,↓qam,qaq,qag,qap,qa5,qav,qai,qa1,qa2,qae,qaj,qad,↓qae,↓qaj,↓qad,ad_fz eL,ld_rp aI,qc3,qc0,qbz,qbf,qb6,qbm,pk_sc,pk_st,qcp,vcall,qb4,qd6,qas,qdm,qfz,qe9,qeg,List.flatMap_cons,List.flatMap_nil,List.append_nil,↓reduceIte,Nat.reduceEqDiff,Nat.succ_ne_self,Nat.zero_add,Nat.mul_one,Int.toNat_natCast,and_self,List.map_cons,List.map_nil,decide_true,qaf,qar,↓qaf,↓qar,Bool.and_true,Bool.and_false,bne_1,Option.getD_some,sp1,sp2,qak,↓qak,dec_I,dec_O,sl_fz,qa8,ldN_2,qb5 aO zO,List.length_cons,List.length_nil,Nat.reduceAdd,Nat.le_refl,List.drop_zero,h1,h3,h4,s1,hs,hq,c1,c3,z0,Int.le_refl,hT,p14,p22,bs_LL1,qjw eLL pVLL,hm,e3]
    refine ⟨_,_,_,rfl,?_⟩
    refine ⟨h1,rfl,s1,.inr ⟨_,rfl,?_⟩⟩
    rw [hst]
    simp only [qag,↓reduceIte,List.length_append,List.length_cons,List.length_nil]
    rw [List.take_of_length_le (by rw [lls_len];omega),← lls_snoc]
  ·have hF:((rcmL (r,u) i).getD 0 0=(i:Int))=False:=eq_false hx
   rw [if_neg hx] at hst
   simp (disch:=omega) only [Tryz.f104,Option.getD_some,atC,qaw,qao,qah,qax,qau,qay,qa7,qat,qal,qa4,qcd,qbi,qa3,qa0,qdf,qb9,qaa,qab,qac,qcu,qam,qan,↓qaa,↓qab,↓qac,↓qam,↓qan,qaq,qag,qap,qa5,qav,qai,qa1,qa2,qae,qaj,qad,↓qae,↓qaj,↓qad,ad_fz eL,ld_rp aI,qc3,qbz,qbf,qb6,qbm,pk_sc,pk_st,qcp,vcall,qb4,qd6,qas,qdm,qfz,qe9,qeg,List.flatMap_cons,List.flatMap_nil,List.append_nil,↓reduceIte,Nat.reduceEqDiff,Nat.zero_add,Nat.mul_one,Int.toNat_natCast,and_self,List.map_cons,List.map_nil,decide_true,decide_false,qaf,qar,↓qaf,↓qar,Bool.and_true,Bool.and_false,bne_1,Option.getD_some,sp1,sp2,qak,↓qak,dec_I,dec_O,sl_fz,qa8,ldN_2,qb5 aO zO,List.length_cons,List.length_nil,Nat.reduceAdd,Nat.le_refl,List.drop_zero,h1,h4,s1,hq,c1,c3,z0,Int.le_refl,hF,p14,e3]
   refine ⟨_,_,_,rfl,?_⟩
   refine ⟨h1,rfl,s1,?_⟩
   rw [hst]
   exact hg
 ·intro a σ c ⟨h1,h4,s1,hg⟩
  have c1:¬ ((r.length:Int) < (r.length:Int)):=by omega
  rw [show csC=atC [1,1,0,1,0,0] ((Tryz.f104.body).getD .skip) from rfl]
  simp (disch:=omega) only [Tryz.f104,Option.getD_some,atC,qaw,qao,qah,qax,qau,qda,qat,qa4,qbi,qa3,qa0,qaa,qab,qac,qb0,qan,↓qaa,↓qab,↓qac,↓qb0,↓qan,qaq,qag,qap,qa5,qai,qa1,qa2,qae,qaj,qad,↓qae,↓qaj,↓qad,qbz,qbf,qb6,qbm,pk_st,qcp,vcall,qb4,qas,↓reduceIte,Nat.reduceEqDiff,Nat.zero_add,List.map_cons,List.map_nil,decide_false,qaf,↓qaf,Option.getD_some,sp1,qak,↓qak,dec_O,sl_fz,qa8,ldN_2,qb5 aO zO,List.length_cons,List.length_nil,Nat.reduceAdd,Nat.le_refl,List.drop_zero,h1,h4,s1,c1]
  refine ⟨_,_,_,_,rfl,?_⟩
  exact ⟨by simp,rfl,hg⟩
def rcpB (o:Og):Bool:=(List.range o.1.length).all fun x=>decide (0 < (rcmL o x).length)
def rcps (o:Og):List (List Int):=cpsK o o.1.length
abbrev csP (o:Og):Bool:=Po o && (rcpB o && decide (0 < (rcps o).length))
abbrev csS:VSpec:=spec1 cO csP (fun o=>vLL (rcps o)) true
theorem cs_ok:OK 1004 104 csS:=by
 refine OK.of1 (F:=1003) (tb:=csT) (pol:=csPol) ?_ (x:=(Tryz.f104.body).getD .skip) (Nat.le_of_ble_eq_true rfl) Tryz.func104 rfl (ok_fn (by rfl) Tryz.func104 rfl) (by kernel_rfl) (by intros;rfl) fun n hn o hc=>?_
 ·intro y hy
  simp only [csT,List.mem_cons,List.not_mem_nil,or_false] at hy
  rcases hy with rfl | rfl
  ·exact rsz_ok.mono (by omega)
  ·exact cp_ok
 obtain ⟨r,u⟩:=o
 simp only [csP,Bool.and_eq_true,decide_eq_true_eq] at hc
 obtain ⟨hP,hB,hpos⟩:=hc
 obtain ⟨_,_,h3⟩:=qfc.1 hP
 replace h3:r.length≤1000:=h3
 have hc:∀ x,x < r.length→0 < (rcmL (r,u) x).length:=fun x hx=>by
  have:=List.all_eq_true.1 hB x (List.mem_range.2 hx)
  simpa using this
 have key:=fun (a:VF) (σ:VSt) (c v:Nat)=>cs_loop hP hc (m:=n) (k:=n) (a:=a) (σ:=σ) (c:=c) (v:=v) (by omega)
 rw [show csC=atC [1,1,0,1,0,0] ((Tryz.f104.body).getD .skip) from rfl] at key
 simp only [Tryz.f104,Option.getD_some,atC] at key
 simp (disch:=omega) only [Tryz.f104,Option.getD_some,qaw,qao,qah,qax,qay,qdj,qbv,qat,qal,qcv,qaa,qab,qac,↓qaa,↓qab,↓qac,qbg,qag,qap,qav,qfn,qai,qa6,frV_0,↓reduceIte,Nat.zero_add,Option.getD_some,enc_O,sv_st]
 generalize hA:updV _ 4 _=B
 generalize hS:updV _ 1 _=τ
 obtain ⟨x,a',σ',c',e,rfl,hg⟩:=key B τ _ _ (by subst hA;rfl) (by subst hA;rfl) (by subst hA;rfl) (by subst hS;rfl)
 rw [e]
 rcases hg with ⟨h,_⟩ | ⟨w,w3,ws⟩
 ·exfalso
  have:rcps (r,u)=[]:=h
  rw [this] at hpos
  simp at hpos
 ·simp (disch:=omega) only [qac,qdp,↓qac,qag,qa1,qa2,qae,qad,↓qae,↓qad,qbw,qb8,qe0,fv_r,pv_1,fsh_1,qem,↓reduceIte,Nat.succ_ne_self,w3,ws]
  rfl
abbrev rcnS:VSpec:=spec1 cO csP (fun o=>vB (decide ((rcps o).length=1))) false
theorem rcn_ok:OK 1005 65 rcnS:=by
 refine OK.of1 (F:=1004) (tb:=[(104,csS)]) (pol:=fun _=>false) ?_ (x:=(Tryz.f65.body).getD .skip) (Nat.le_of_ble_eq_true rfl) Tryz.func65 rfl (ok_fn (by rfl) Tryz.func65 rfl) (by kernel_rfl) (by intros;rfl) fun n hn o hc=>?_
 ·intro y hy
  simp only [List.mem_singleton] at hy
  subst hy
  exact cs_ok
 replace hc:csP o=true:=hc
 obtain ⟨r,u⟩:=o
 have hl:((((rcps (r,u)).length:Nat):Int)=1)=((rcps (r,u)).length=1):=propext ⟨fun h=>by omega,fun h=>by omega⟩
 simp (disch:=omega) only [Tryz.f65,Option.getD_some,qaw,qao,qah,qax,qbv,qal,qcv,qa4,qbi,qa3,qdf,qaa,qab,qac,↓qaa,↓qab,↓qac,qaq,qbg,qag,qap,qa5,qav,qcs,qai,qa1,qa2,qae,qaj,qad,↓qae,↓qaj,↓qad,ln_fz,qa6,qbz,qbf,qb6,qbm,pk_st,qcp,vcall,qd6,qas,qbw,qb8,qbx,fv_r,pv_1,fsh_1,qbk,frV_0,qe9,qeg,List.flatMap_cons,List.flatMap_nil,List.append_nil,Option.map_some,↓reduceIte,Nat.reduceEqDiff,Nat.zero_add,List.map_cons,List.map_nil,qaf,qar,↓qaf,↓qar,Bool.and_true,Bool.and_false,bne_1,Option.getD_some,sp1,enc_O,qak,↓qak,dec_O,sv_st,sl_fz,qa8,ldN_2,qb5 aO zO,List.length_cons,List.length_nil,Nat.reduceAdd,Nat.le_refl,List.drop_zero,qcg uLL,hc,hl]
def ckOne (o:Og):Int:=if checkE o≠0 then checkE o else if (rcps o).length=1 then 0 else 16
abbrev ckoP (o:Og):Bool:=lgO o && (decide (checkE o≠0) || csP o)
abbrev ckoS:VSpec:=spec1 cO ckoP (fun o=>vI (ckOne o)) false
theorem cko_ok:OK 1006 27 ckoS:=by
 refine OK.of1 (F:=1005) (tb:=[(23,checkS),(65,rcnS)]) (pol:=fun _=>false) ?_ (x:=(Tryz.f27.body).getD .skip) (Nat.le_of_ble_eq_true rfl) Tryz.func27 rfl (ok_fn (by rfl) Tryz.func27 rfl) (by kernel_rfl) (by intros;rfl) fun n hn o hc=>?_
 ·intro y hy
  simp only [List.mem_cons,List.not_mem_nil,or_false] at hy
  rcases hy with rfl | rfl
  ·exact rck_ok.mono (by omega)
  ·exact rcn_ok
 replace hc:(lgO o && (decide (checkE o≠0) || csP o))=true:=hc
 rw [Bool.and_eq_true,Bool.or_eq_true] at hc
 obtain ⟨hg,hc⟩:=hc
 have hgl:(decide (o.1.length≤1000000) && decide (o.2.length≤1000000))=true:=hg
 obtain ⟨r,u⟩:=o
 unfold ckOne
 by_cases h0:checkE (r,u)=0
 ·have t0:(checkE (r,u)=0)=True:=eq_true h0
  have hP:csP (r,u)=true:=by
   rcases hc with hc | hc
   ·exact absurd h0 (by simpa using hc)
   ·exact hc
  rw [if_neg (by rw [h0];simp)]
  by_cases h1:(rcps (r,u)).length=1
  ·have d1:decide ((rcps (r,u)).length=1)=true:=decide_eq_true h1
   rw [if_pos h1]
   simp (disch:=omega) only [Tryz.f27,Option.getD_some,qaw,qao,qah,qax,qau,qa7,qbv,qat,qal,qcv,qa4,qbi,qa3,qjt,qch,qju,qaa,qab,qac,qan,↓qaa,↓qab,↓qac,↓qan,qaq,qbg,qag,qap,qa5,qav,qai,qa1,qa2,qae,qaj,qad,↓qae,↓qaj,↓qad,qa6,qbz,qbf,qb6,qbm,pk_st,qcp,vcall,qb4,qas,qbw,qb8,qbx,fv_r,pv_1,fsh_1,qbk,frV_0,↓reduceIte,Nat.reduceEqDiff,Nat.zero_add,List.map_cons,List.map_nil,decide_true,Bool.not_true,qaf,↓qaf,Option.getD_some,sp1,enc_O,qak,↓qak,dec_O,sv_st,sl_fz,qa8,ldN_2,qb5 aO zO,List.length_cons,List.length_nil,Nat.reduceAdd,Nat.le_refl,List.drop_zero,hgl,t0,hP,d1]
  ·have d1:decide ((rcps (r,u)).length=1)=false:=decide_eq_false h1
   rw [if_neg h1]
   simp (disch:=omega) only [Tryz.f27,Option.getD_some,qaw,qao,qah,qax,qau,qa7,qbv,qat,qal,qcv,qa4,qbi,qa3,qjt,qch,qju,qaa,qab,qac,qaz,qam,qan,↓qaa,↓qab,↓qac,↓qaz,↓qam,↓qan,qaq,qbg,qag,qap,qa5,qav,qai,qa1,qa2,qae,qaj,qad,↓qae,↓qaj,↓qad,qa6,qbz,qbf,qb6,qbm,pk_st,qcp,vcall,qb4,qas,qbw,qb8,qbx,fv_r,pv_1,fsh_1,qbk,frV_0,↓reduceIte,Nat.reduceEqDiff,Nat.zero_add,List.map_cons,List.map_nil,decide_true,Bool.not_true,Bool.not_false,qaf,↓qaf,Option.getD_some,sp1,enc_O,qak,↓qak,dec_O,sv_st,sl_fz,qa8,ldN_2,qb5 aO zO,List.length_cons,List.length_nil,Nat.reduceAdd,Nat.le_refl,List.drop_zero,hgl,t0,hP,d1]
 ·have f0:(checkE (r,u)=0)=False:=eq_false h0
  rw [if_pos h0]
  simp (disch:=omega) only [Tryz.f27,Option.getD_some,qaw,qao,qah,qax,qau,qbv,qat,qal,qcv,qa4,qbi,qa3,qch,qaa,qab,qac,qaz,qam,↓qaa,↓qab,↓qac,↓qaz,↓qam,qaq,qbg,qag,qap,qa5,qav,qai,qa1,qa2,qae,qaj,qad,↓qae,↓qaj,↓qad,qa6,qbz,qbf,qb6,qbm,pk_st,qcp,vcall,qb4,qas,qbw,qb8,qbx,fv_r,pv_1,fsh_1,qbk,frV_0,↓reduceIte,Nat.reduceEqDiff,Nat.zero_add,List.map_cons,List.map_nil,decide_false,Bool.not_false,qaf,↓qaf,Option.getD_some,sp1,enc_O,qak,↓qak,dec_O,sv_st,sl_fz,qa8,ldN_2,qb5 aO zO,List.length_cons,List.length_nil,Nat.reduceAdd,Nat.le_refl,List.drop_zero,hgl,f0]
end Go.Proofs.YtmdnofcphdjieaaGreatDoor
namespace Go.Proofs.YtmdnofcphdjieaaGreatDoor
open Go Go.Abs
set_option maxRecDepth 10000
attribute [local congr] qba qbb qbc qbd qbn qbe qbo qbp qbq qbr qbt qbu qcc qby qbs qbl qb7 qb1
def small (z:Int):Bool:=decide (-1000000≤z) && decide (z≤1000000)
abbrev Un:=Int×Int×Int×Int
end Go.Proofs.YtmdnofcphdjieaaGreatDoor
namespace Go.Proofs.YtmdnofcphdjieaaGreatDoor
open Go Go.Abs
set_option maxRecDepth 10000
attribute [local congr] qba qbb qbc qbd qbn qbe qbo qbp qbq qbr qbt qbu qcc qby qbs qbl qb7 qb1
theorem uS9:Tryz.prog.underlying 9=some .string:=by kernel_rfl
abbrev bts (s:ByteArray):List UInt8:=s.data.toList
theorem qiy (s:ByteArray):(bts s).length=s.size:=by rw [Array.length_toList];rfl
def letS:ByteArray:=⟨#[83,84,115,116]⟩
def isLt (b:UInt8):Bool:=(bts letS).contains b
def chkW (l:List UInt8):Int:=if 200 < l.length then 8 else if l.all isLt then 0 else 7
theorem dropW_all {α:Type} {p:α→Bool}:∀ {l:List α},l.all p=true→l.dropWhile p=[]:=by
 intro l
 induction l with
 | nil=>intro _;rfl
 | cons x l ih=>intro h;rw [List.all_cons,Bool.and_eq_true] at h;rw [List.dropWhile_cons,if_pos h.1];exact ih h.2
theorem ql5 {α:Type} {p:α→Bool}:∀ {l:List α},l.all p=false→∃ x r,l.dropWhile p=x::r∧p x=false:=by
 intro l
 induction l with
 | nil=>intro h;cases h
 | cons x l ih =>
   intro h
   rw [List.dropWhile_cons]
   cases hp:p x with
   | false=>exact ⟨x,l,by simp,hp⟩
   | true =>
     rw [if_pos rfl]
     refine ih ?_
     rw [List.all_cons,hp,Bool.true_and] at h
     exact h
theorem qrt {l cs:List UInt8}:(Lib.trimS l cs=[])↔l.all (cs.contains ·)=true:=by
 constructor
 ·intro h
  cases ha:l.all (cs.contains ·) with
  | true=>rfl
  | false =>
    have hr:l.reverse.all (cs.contains ·)=false:=by rw [List.all_reverse];exact ha
    obtain ⟨x,r,e1,e2⟩:=ql5 hr
    exfalso
    unfold Lib.trimS Lib.trimRightS Lib.trimLeftS at h
    rw [e1] at h
    have h3:(x::r).reverse.all (cs.contains ·)=false:=by rw [List.all_reverse,List.all_cons,e2,Bool.false_and]
    obtain ⟨y,q,e3,_⟩:=ql5 h3
    rw [e3] at h
    cases h
 ·intro h
  unfold Lib.trimS Lib.trimRightS Lib.trimLeftS
  have hr:l.reverse.all (cs.contains ·)=true:=by rw [List.all_reverse];exact h
  rw [dropW_all hr]
  rfl
abbrev trmV:VSpec:=spec2 cS cS (fun s t=>decide (s.size < 1000000) && decide (t.size < 1000000) && ascii t) (fun s t=>.sc (.string ⟨(Lib.trimS (bts s) (bts t)).toArray⟩)) false
theorem trm_ok:OK 1 49 trmV:=by
 intro n hn args r fresh hs
 obtain ⟨s,t,hp,rfl,rfl,hA⟩:=qlo hs
 simp only [Bool.and_eq_true,decide_eq_true_eq] at hp
 obtain ⟨⟨h1,h2⟩,h3⟩:=hp
 have h:AnsAt (evB Tryz.prog bC n) 49 [.sc (.string s),.sc (.string t)] (.sc (.string ⟨(Lib.trimS (bts s) (bts t)).toArray⟩)) false:=by
  intro Z H vs hw hA
  simp only [RepCL] at hA
  obtain ⟨v1,ws,rfl,q1,v2,ws2,rfl,q2,rfl⟩:=hA
  obtain ⟨rfl,_⟩:=qdv.1 q1
  obtain ⟨rfl,_⟩:=qdv.1 q2
  refine ⟨_,H,qkn (r:=(.string ⟨(Lib.trimS (bts s) (bts t)).toArray⟩,H)) ?_,qdv.2 ⟨rfl,rfl⟩,Old.refl _ _,hw,fun e=>by cases e⟩
  show trimC 49 (.func (.func 49) #[] #[]) [.string s,.string t] H=_
  unfold trimC
  simp only
  rw [if_pos ⟨trivial,h1,h2,h3,rfl⟩]
 exact (h.args hA).x (fun cs e=>by cases e)
abbrev cwT:List (Nat×VSpec):=[(49,trmV)]
theorem asc_let:ascii letS=true:=by kernel_rfl
theorem str_empty {l:List UInt8}:((⟨l.toArray⟩:ByteArray).toList == (⟨#[]⟩:ByteArray).toList)=decide (l=[]):=by
 rw [ByteArray.toList_eq,ByteArray.toList_eq]
 cases l<;>simp
theorem cw_ok:OK 2 12 (spec1 cS (fun s=>decide (s.size < 1000000)) (fun s=>vI (chkW (bts s))) false):=by
 refine OK.of1 (F:=1) (tb:=cwT) (pol:=fun _=>false) ?_ (x:=(Tryz.f12.body).getD .skip) (Nat.le_of_ble_eq_true rfl) Tryz.func12 rfl (ok_fn (by rfl) Tryz.func12 rfl) (by kernel_rfl) (by intros;rfl) fun n hn s hc=>?_
 ·intro y hy
  simp only [cwT,List.mem_singleton] at hy
  subst hy
  exact trm_ok
 have hs:s.size < 1000000:=by simpa using hc
 have hs':decide (s.size < 1000000)=true:=by simpa using hc
 have h4:decide ((⟨#[83,84,115,116]⟩:ByteArray).size < 1000000)=true:=by kernel_rfl
 have ha:ascii ⟨#[83,84,115,116]⟩=true:=asc_let
 unfold chkW
 by_cases h2:200 < s.size
 ·have e2:(200:Int) < (s.size:Int):=by omega
  simp (disch:=omega) only [Tryz.f12,Option.getD_some,qaw,qao,qah,qax,qau,qbv,qat,qal,qa3,qdi,qaa,qab,qac,qaz,qam,↓qaa,↓qab,↓qac,↓qaz,↓qam,qag,qap,qav,qai,qad,↓qad,qbw,qb8,qbx,fv_r,pv_1,fsh_1,qbk,frV_0,↓reduceIte,Nat.reduceEqDiff,decide_true,Option.getD_some,enc_S,qd4 uS9,slenV,e2]
  rw [if_pos (by rw [qiy];exact h2)]
 ·have e2:¬ (200:Int) < (s.size:Int):=by omega
  rw [if_neg (by rw [qiy];exact h2)]
  cases h3:(bts s).all isLt with
  | true =>
    have e3:Lib.trimS (bts s) (bts ⟨#[83,84,115,116]⟩)=[]:=qrt.2 h3
    simp (disch:=omega) only [Tryz.f12,Option.getD_some,qaw,qao,qah,qax,qau,qa7,qbv,qat,qal,qbi,qa3,qdi,qsw,qaa,qab,qac,qan,↓qaa,↓qab,↓qac,↓qan,qag,qap,qa5,qav,qgz,qai,qaj,qad,↓qaj,↓qad,qbz,qbf,pk_sc,vcall,qb4,qas,qbw,qb8,qbx,fv_r,pv_1,fsh_1,qbk,frV_0,↓reduceIte,Nat.reduceEqDiff,List.map_cons,List.map_nil,decide_false,Bool.not_true,beq_self_eq_true,qaf,↓qaf,Bool.and_true,Option.getD_some,sp2,enc_S,qak,↓qak,dec_S,qd4 uS9,slenV,e2,hs',h4,ha,e3]
  | false =>
    have e3:¬ Lib.trimS (bts s) (bts ⟨#[83,84,115,116]⟩)=[]:=fun h=>by
     have:=qrt.1 h
     have e:((bts s).all fun x=>(bts ⟨#[83,84,115,116]⟩).contains x)=(bts s).all isLt:=rfl
     rw [e,h3] at this;cases this
    simp (disch:=omega) only [Tryz.f12,Option.getD_some,qaw,qao,qah,qax,qau,qa7,qbv,qat,qal,qbi,qa3,qdi,qsw,qaa,qab,qac,qaz,qam,qan,↓qaa,↓qab,↓qac,↓qaz,↓qam,↓qan,qag,qap,qa5,qav,qgz,qai,qaj,qad,↓qaj,↓qad,qbz,qbf,pk_sc,vcall,qb4,qas,qbw,qb8,qbx,fv_r,pv_1,fsh_1,qbk,frV_0,↓reduceIte,Nat.reduceEqDiff,List.map_cons,List.map_nil,decide_false,Bool.not_false,Bool.false_eq_true,qaf,↓qaf,Bool.and_true,Option.getD_some,sp2,enc_S,qak,↓qak,dec_S,qd4 uS9,slenV,e2,hs',h4,ha,str_empty,e3]
end Go.Proofs.YtmdnofcphdjieaaGreatDoor
namespace Go.Proofs.YtmdnofcphdjieaaGreatDoor
open Go Go.Abs
set_option maxRecDepth 10000
attribute [local congr] qba qbb qbc qbd qbn qbe qbo qbp qbq qbr qbt qbu qcc qby qbs qbl qb7 qb1
def ofL (b:Int):Un:=if b=83 then (0,-1,1,0) else if b=115 then (0,1,-1,0) else if b=84 then (1,1,0,1) else (1,-1,0,1)
end Go.Proofs.YtmdnofcphdjieaaGreatDoor
namespace Go.Proofs.YtmdnofcphdjieaaGreatDoor
open Go Go.Abs
set_option maxRecDepth 10000
section
attribute [local congr] qqn qqo qqp qqq qbl
end
end Go.Proofs.YtmdnofcphdjieaaGreatDoor
namespace Go.Proofs.YtmdnofcphdjieaaGreatDoor
open Go Go.Abs
set_option maxRecDepth 10000
attribute [local congr] qba qbb qbc qbd qbn qbe qbo qbp qbq qbr qbt qbu qcc qby qbs qbl qb7 qb1 qpx
def wide (z:Int):Bool:=decide (-9000000000000000000≤z) && decide (z≤9000000000000000000)
theorem qj9 {b:UInt8}:isLt b=true↔((b.toNat:Int)=83∨(b.toNat:Int)=115∨(b.toNat:Int)=84∨(b.toNat:Int)=116):=by
 have e:∀ k:UInt8,(b=k)↔(b.toNat:Int)=k.toNat:=fun k=>by
  constructor
  ·rintro rfl;rfl
  ·intro h;exact UInt8.toNat_inj.1 (by omega)
 unfold isLt bts letS
 simp only [List.contains_cons,List.contains_nil,Bool.or_false,Bool.or_eq_true,beq_iff_eq]
 rw [e 83,e 84,e 115,e 116]
 constructor
 ·rintro (h | h | h | h)
  ·exact .inl h
  ·exact .inr (.inr (.inl h))
  ·exact .inr (.inl h)
  ·exact .inr (.inr (.inr h))
 ·rintro (h | h | h | h)
  ·exact .inl h
  ·exact .inr (.inr (.inl h))
  ·exact .inr (.inl h)
  ·exact .inr (.inr (.inr h))
noncomputable def rcwC:Code:=atC [1,1,0,1,0,0] ((Tryz.f13.body).getD .skip)
theorem rcw_loop {s:ByteArray} (hl:s.size≤200) {call:VCall} {pol:Nat→Bool} {m k c:Nat} {a:VF} {σ:VSt} (hk:s.size < k) (h0:a 0 = .sc (.string s)) (h3:a 3=vI ((0:Nat):Int)) :
  ∃ x a' σ' c',loopV (evVC Tryz.prog call pol m rcwC) k a σ c=some (x,a',σ',c')∧((x = .exit 0∧(bts s).all isLt=true)∨(x = .ret∧a' 2=vI 7∧(bts s).all isLt=false)):=by
 have hlen:=qiy s
 refine qc2 s.size (fun i a σ _=>a 0 = .sc (.string s)∧a 3=vI i∧((bts s).take i).all isLt=true) _ ?_ ?_ hk ⟨h0,h3,rfl⟩
 ·intro i a σ c hi ⟨h0,h3,ha⟩
  have c1:(i:Int) < (s.size:Int):=by omega
  have e3:IntKind.i64.wrap ((i:Int)+1)=((i+1:Nat):Int):=by rw [wr64 (by omega) (by omega)];omega
  obtain ⟨b,hb⟩:∃ b,(bts s)[i]?=some b:=⟨_,List.getElem?_eq_getElem (by omega)⟩
  have hx:=fun r=>qrh (s:=s) (k:=i) (b:=b) (σ:=σ) (c:=c) hb (r:=r)
  rw [show rcwC=atC [1,1,0,1,0,0] ((Tryz.f13.body).getD .skip) from rfl]
  have hall:((bts s).take (i+1)).all isLt=isLt b:=by
   rw [List.take_add_one,hb,List.all_append,ha]
   simp
  cases hl:isLt b with
  | true =>
    left
    have hor:=qj9.1 hl
    have out:((bts s).take (i+1)).all isLt=true:=by rw [hall,hl]
    by_cases g1:(b.toNat:Int)=83
    ·simp (disch:=omega) only [Tryz.f13,Option.getD_some,atC,qaw,List.getElem?_toArray,qao,qce,qbj,gdV_b,qah,qax,qau,qay,qa7,qat,qal,qcx,qa3,qa0,qb9,qit,qaa,qab,qac,qcu,qam,qan,qdq,qcb,↓qaa,↓qab,↓qac,↓qam,↓qan,↓qdq,↓qcb,qag,qap,qav,qcs,qai,↓reduceIte,Nat.reduceEqDiff,decide_true,Bool.not_true,List.getElem?_cons_zero,List.getElem?_cons_succ,b_ft,Option.getD_some,qd7,qd4 uS9,slenV,qee uS9,qfp,hx,h0,h3,c1,g1,e3]
     exact ⟨_,_,_,rfl,by simp only [qag,↓reduceIte,Nat.reduceEqDiff,h0],by simp only [qag,↓reduceIte],out⟩
    ·by_cases g2:(b.toNat:Int)=115
     ·replace g2:=eq_true g2
      simp (disch:=omega) only [Tryz.f13,Option.getD_some,atC,qaw,List.getElem?_toArray,qao,qce,qbj,gdV_b,qah,qax,qau,qay,qa7,qat,qal,qcx,qa3,qa0,qb9,qit,qaa,qab,qac,qcu,qam,qan,qcr,qdq,qcw,qcb,↓qaa,↓qab,↓qac,↓qam,↓qan,↓qcr,↓qdq,↓qcw,↓qcb,qag,qap,qav,qcs,qai,↓reduceIte,Nat.reduceEqDiff,decide_true,decide_false,Bool.not_true,Bool.not_false,List.getElem?_cons_zero,List.getElem?_cons_succ,beq_self_eq_true,b_ft,Option.getD_some,qd7,qd4 uS9,slenV,qee uS9,qfp,hx,h0,h3,c1,g1,g2,e3]
      exact ⟨_,_,_,rfl,by simp only [qag,↓reduceIte,Nat.reduceEqDiff,h0],by simp only [qag,↓reduceIte],out⟩
     ·by_cases g3:(b.toNat:Int)=84
      ·replace g3:=eq_true g3
       simp (disch:=omega) only [Tryz.f13,Option.getD_some,atC,qaw,List.getElem?_toArray,qao,qce,qbj,gdV_b,qah,qax,qau,qay,qa7,qat,qal,qcx,qa3,qa0,qb9,qit,qaa,qab,qac,qcu,qam,qan,qcr,qdq,qcw,qcb,↓qaa,↓qab,↓qac,↓qam,↓qan,↓qcr,↓qdq,↓qcw,↓qcb,qag,qap,qav,qcs,qai,↓reduceIte,Nat.reduceEqDiff,decide_true,decide_false,Bool.not_true,Bool.not_false,List.getElem?_cons_zero,List.getElem?_cons_succ,beq_self_eq_true,b_ft,Option.getD_some,qd7,qd4 uS9,slenV,qee uS9,qfp,hx,h0,h3,c1,g1,g2,g3,e3]
       exact ⟨_,_,_,rfl,by simp only [qag,↓reduceIte,Nat.reduceEqDiff,h0],by simp only [qag,↓reduceIte],out⟩
      ·have g4:((b.toNat:Int)=116)=True:=eq_true (by omega)
       simp (disch:=omega) only [Tryz.f13,Option.getD_some,atC,qaw,List.getElem?_toArray,qao,qce,qbj,gdV_b,qah,qax,qau,qay,qa7,qat,qal,qcx,qa3,qa0,qb9,qit,qaa,qab,qac,qcu,qam,qan,qcr,qcw,↓qaa,↓qab,↓qac,↓qam,↓qan,↓qcr,↓qcw,qag,qap,qav,qai,↓reduceIte,Nat.reduceEqDiff,decide_true,decide_false,Bool.not_true,Bool.not_false,List.getElem?_cons_zero,List.getElem?_cons_succ,beq_self_eq_true,Option.getD_some,qd7,qd4 uS9,slenV,qee uS9,qfp,hx,h0,h3,c1,g1,g2,g3,g4,e3]
       exact ⟨_,_,_,rfl,by simp only [qag,↓reduceIte,Nat.reduceEqDiff,h0],by simp only [qag,↓reduceIte],out⟩
  | false =>
    right
    have hno:¬ ((b.toNat:Int)=83∨(b.toNat:Int)=115∨(b.toNat:Int)=84∨(b.toNat:Int)=116):=fun h=>by rw [qj9.2 h] at hl;cases hl
    have g1:¬ (b.toNat:Int)=83:=fun h=>hno (.inl h)
    have g2:¬ (b.toNat:Int)=115:=fun h=>hno (.inr (.inl h))
    have g3:¬ (b.toNat:Int)=84:=fun h=>hno (.inr (.inr (.inl h)))
    have g4:¬ (b.toNat:Int)=116:=fun h=>hno (.inr (.inr (.inr h)))
    simp (disch:=omega) only [Tryz.f13,Option.getD_some,atC,qaw,List.getElem?_toArray,qao,qce,qbj,gdV_b,qah,qax,qau,qay,qa7,qbv,qat,qal,qcx,qa3,qa0,qit,qaa,qab,qac,qaz,qdx,qam,qcr,qcw,↓qaa,↓qab,↓qac,↓qaz,↓qam,↓qcr,↓qcw,qag,qap,qav,qai,↓reduceIte,Nat.reduceEqDiff,decide_true,decide_false,Bool.not_false,List.getElem?_cons_zero,List.getElem?_cons_succ,beq_self_eq_true,Option.getD_some,qd7,qd4 uS9,slenV,qee uS9,qfp,hx,h0,h3,c1,g1,g2,g3,g4]
    refine ⟨_,_,_,_,rfl,by simp,.inr ⟨rfl,by simp only [qag,↓reduceIte],?_⟩⟩
    cases hc:(bts s).all isLt with
    | false=>rfl
    | true =>
      have:=List.all_eq_true.1 hc b (List.mem_of_getElem? hb)
      rw [hl] at this;cases this
 ·intro a σ c ⟨h0,h3,ha⟩
  have c1:¬ ((s.size:Int) < (s.size:Int)):=by omega
  rw [show rcwC=atC [1,1,0,1,0,0] ((Tryz.f13.body).getD .skip) from rfl]
  simp only [Tryz.f13,Option.getD_some,atC,qaw,qao,qah,qax,qau,qda,qat,qa3,qa0,qaa,qab,qac,qb0,qan,↓qaa,↓qab,↓qac,↓qb0,↓qan,qag,qap,qai,↓reduceIte,Nat.reduceEqDiff,decide_false,Option.getD_some,qd4 uS9,slenV,h0,h3,c1]
  refine ⟨_,_,_,_,rfl,by simp,.inl ⟨rfl,?_⟩⟩
  rw [← hlen,List.take_length] at ha
  exact ha
abbrev cwS:VSpec:=spec1 cS (fun s=>decide (s.size < 1000000)) (fun s=>vI (chkW (bts s))) false
theorem rcw_ok:OK 1000 13 cwS:=by
 refine OK.of1 (F:=999) (tb:=[]) (pol:=fun _=>false) (by simp) (x:=(Tryz.f13.body).getD .skip) (Nat.le_of_ble_eq_true rfl) Tryz.func13 rfl (ok_fn (by rfl) Tryz.func13 rfl) (by kernel_rfl) (by intros;rfl) fun n hn s hc=>?_
 have key:=fun (hl:s.size≤200) (a:VF) (σ:VSt) (c:Nat)=>rcw_loop hl (call:=callOf []) (pol:=fun _=>false) (m:=n) (k:=n) (a:=a) (σ:=σ) (c:=c) (by omega)
 rw [show rcwC=atC [1,1,0,1,0,0] ((Tryz.f13.body).getD .skip) from rfl] at key
 simp only [Tryz.f13,Option.getD_some,atC] at key
 unfold chkW
 by_cases h2:200 < s.size
 ·have e2:(200:Int) < (s.size:Int):=by omega
  simp (disch:=omega) only [Tryz.f13,Option.getD_some,qaw,qao,qah,qax,qau,qbv,qat,qal,qa3,qdi,qaa,qab,qac,qaz,qam,↓qaa,↓qab,↓qac,↓qaz,↓qam,qag,qap,qav,qai,qad,↓qad,qbw,qb8,qbx,fv_r,pv_1,fsh_1,qbk,frV_0,↓reduceIte,Nat.reduceEqDiff,decide_true,Option.getD_some,enc_S,qd4 uS9,slenV,e2]
  rw [if_pos (by rw [qiy];exact h2)]
 ·have e2:¬ (200:Int) < (s.size:Int):=by omega
  rw [if_neg (by rw [qiy];exact h2)]
  simp (disch:=omega) only [Tryz.f13,Option.getD_some,qaw,qao,qah,qax,qau,qay,qdj,qa7,qbv,qat,qal,qa3,qdi,qaa,qab,qac,qan,↓qaa,↓qab,↓qac,↓qan,qag,qap,qav,qai,frV_0,↓reduceIte,Nat.reduceEqDiff,decide_false,Option.getD_some,enc_S,qd4 uS9,slenV,e2]
  generalize hA:updV _ 3 _=B
  obtain ⟨x,a',σ',c',e,⟨rfl,h⟩ | ⟨rfl,h7,h⟩⟩:=key (by omega) B (fun _=>none) _ (by subst hA;rfl) (by subst hA;rfl)
  ·rw [e]
   simp (disch:=omega) only [qac,qdp,↓qac,qag,qad,↓qad,qbw,qb8,qbx,fv_r,pv_1,fsh_1,qbk,↓reduceIte,h]
  ·rw [e]
   simp (disch:=omega) only [qaz,qdx,↓qaz,qad,↓qad,qbw,qb8,qbx,fv_r,pv_1,fsh_1,qbk,↓reduceIte,Bool.false_eq_true,h7,h]
end Go.Proofs.YtmdnofcphdjieaaGreatDoor
namespace Go.Proofs.YtmdnofcphdjieaaGreatDoor
open Go Go.Abs
set_option maxRecDepth 10000
attribute [local congr] qba qbb qbc qbd qbn qbe qbo qbp qbq qbr qbt qbu qcc qby qbs qbl qb7 qb1
theorem qru {n:Nat} {p q:List Int} (h:Pm n p) (k:Pm n q) (he:∀ i,i < n→stp p i=stp q i):p=q:=by
 refine List.ext_getElem (by rw [h.pn.1,k.pn.1]) fun i h1 h2=>?_
 have hi:i < n:=by rw [← h.pn.1];exact h1
 have e1:=h.eq hi
 have e2:=k.eq hi
 rw [he i hi,← e2] at e1
 simpa [h1,h2] using e1
theorem qp3 {n:Nat} {p:List Int} (h:Pm n p):repL p 1=p:=by
 refine qru (h.rep 1) h fun i hi=>?_
 rw [rep_itr h 1 hi,if_neg (by omega)]
 rfl
theorem rep_neg {n:Nat} {p:List Int} (h:Pm n p):repL p (-1)=invL p:=by
 refine qru (h.rep (-1)) h.inv fun i hi=>?_
 rw [rep_itr h (-1) hi,if_pos (by omega)]
 rfl
theorem atG_at {l:List Int} {z:Int}:∀ {m i j:Nat},i≤j→j < i+m→(∀ k,i≤k→k < j→l.getD k 0≠z)→l.getD j 0=z→atG l z m i=(j:Int):=by
 intro m
 induction m with
 | zero=>intro i j h1 h2;omega
 | succ m ih =>
   intro i j h1 h2 h3 h4
   rw [atG]
   by_cases h:i=j
   ·subst h
    rw [if_pos h4]
   ·rw [if_neg (h3 i (Nat.le_refl _) (by omega))]
    exact ih (by omega) (by omega) (fun k hk hj=>h3 k (by omega) hj) h4
theorem atL_at {l:List Int} {z:Int} {j:Nat} (hj:j < l.length) (h1:∀ k,k < j→l.getD k 0≠z) (h2:l.getD j 0=z):atL l z=(j:Int) :=
 atG_at (Nat.zero_le _) (by omega) (fun k _ hk=>h1 k hk) h2
def letO (o:Og) (c:Int):Og:=if c=83 then (invL o.2,o.1) else if c=115 then (o.2,invL o.1) else if c=84 then (o.1,afterL o.2 (invL o.1)) else (o.1,afterL o.2 o.1)
theorem Vo.letter {n:Nat} {o:Og} (h:Vo n o) (c:Int):Vo n (letO o c):=by
 unfold letO
 split
 ·exact ⟨h.u.inv,h.r,h.pos,h.le⟩
 ·split
  ·exact ⟨h.u,h.r.inv,h.pos,h.le⟩
  ·split
   ·exact ⟨h.r,h.u.after h.r.inv,h.pos,h.le⟩
   ·exact ⟨h.r,h.u.after h.r,h.pos,h.le⟩
def Vb (o:Og):Bool:=lgO o && decide (checkE o=0)
theorem Vb_iff {o:Og}:Vb o=true↔Vo o.1.length o:=by
 unfold Vb
 rw [Bool.and_eq_true,decide_eq_true_eq]
 constructor
 ·rintro ⟨_,h⟩;exact qh5 h
 ·intro h
  refine ⟨?_,h.check⟩
  have h1:=h.r.pn.1
  have h2:=h.u.pn.1
  have h3:=h.le
  simp only [lgO,Bool.and_eq_true,decide_eq_true_eq]
  omega
theorem Vo.Po {n:Nat} {o:Og} (h:Vo n o):Po o=true:=by
 have h1:=h.r.pn.1
 refine qfc.2 ⟨by rw [h1];exact h.r.pn,by rw [h1];exact h.u.pn,?_⟩
 have:=h.le
 omega
abbrev lettP (o:Og) (_:Int):Bool:=Vb o
abbrev lettS:VSpec:=spec2 cO cY lettP (fun o c=>encO (letO o c)) false
abbrev actdT:List (Nat×VSpec):=[(97,turnS),(98,invS),(99,shearS)]
theorem actd_ok:OK 1000000000005 61 lettS:=by
 refine OK.of2 (F:=1000000000004) (tb:=actdT) (pol:=polD 5) ?_ (x:=(Tryz.f61.body).getD .skip) (Nat.le_of_ble_eq_true rfl) Tryz.func61 rfl (ok_fn (by rfl) Tryz.func61 rfl) (by kernel_rfl) (by intros;rfl) fun n hn o c hc=>?_
 ·intro y hy
  simp only [actdT,List.mem_cons,List.not_mem_nil,or_false] at hy
  rcases hy with rfl | rfl | rfl
  ·exact turn_ok.mono (by omega)
  ·exact inv_ok.mono (by omega)
  ·exact shear_ok.mono (by omega)
 have hV:=Vb_iff.1 hc
 have hP:=hV.Po
 obtain ⟨r,u⟩:=o
 obtain ⟨h1,h2,h3⟩:=qfc.1 hP
 have hi:invP r=true:=by unfold invP;rw [Bool.and_eq_true,decide_eq_true_eq,show rangeB r=inB r r.length from rfl];exact ⟨h1.2,h3⟩
 have s1:shearP (r,u) 1=true:=by unfold shearP;rw [hP];rfl
 have s2:shearP (r,u) (-1)=true:=by unfold shearP;rw [hP];rfl
 have p5:polD 5 (1000000+5)=true:=rfl
 have p16:polD 5 16=false:=rfl
 have di:drawI (regOps (atC [1,0,1,0,1,1,1,0,0] ((Tryz.f61.body).getD .skip))) (Region.before (regOps (atC [1,0,1,0,1,1,1,0,0] ((Tryz.f61.body).getD .skip))))=true:=by kernel_rfl
 simp only [Tryz.f61,Option.getD_some,atC,regOps] at di
 unfold letO
 by_cases c1:c=83
 ·replace c1:=eq_true c1
  simp (disch:=omega) only [Tryz.f61,Option.getD_some,qaw,qao,qah,qax,qau,qay,qbv,qat,qal,qcv,qa4,qc1,qbi,qa3,qfg,qaa,qab,qac,qaz,qdx,qam,↓qaa,↓qab,↓qac,↓qaz,↓qam,qaq,qcm,qbg,qag,qap,qa5,qav,qai,qcn,qa1,qa2,qae,qaj,qad,↓qae,↓qaj,↓qad,qa6,qbz,qbf,qb6,qbm,pk_st,qcp,vcall,qez,qas,qbw,qev,fv_r,pv_1,fsh_c,frV_0,frV_1,qe9,qeg,List.flatMap_cons,List.flatMap_nil,List.append_nil,↓reduceIte,Nat.reduceEqDiff,Nat.zero_add,List.map_cons,List.map_nil,decide_true,qaf,↓qaf,Option.getD_some,sp1,enc_Y,enc_O,qak,↓qak,dec_O,st_W zO,qed,sv_st,qde,qc6,sl_fz,qa8,ldN_2,qdy iO,qb5 aO zO,List.set_cons_zero,List.set_cons_succ,List.length_cons,List.length_nil,Nat.reduceAdd,Nat.le_refl,List.drop_zero,hP,c1]
  rfl
 ·by_cases c2:c=115
  ·replace c2:=eq_true c2
   simp (disch:=omega) only [Tryz.f61,Option.getD_some,qaw,qao,qah,qc4,qax,qau,qay,qbv,qat,qal,qcv,qex,qa4,qc1,qcl,qbi,qa3,qfg,qaa,qab,qac,qaz,qdx,qam,qan,↓qaa,↓qab,↓qac,↓qaz,↓qam,↓qan,qaq,qcm,qbg,qag,qap,qa5,qav,qai,qcn,qa1,qa2,qae,qaj,qad,↓qae,↓qaj,↓qad,qdn,qa6,qbz,qbf,qb6,qbm,pk_fz,pk_st,qcp,vcall,qfo,qpj,qd6,qas,qbw,qev,fv_r,pv_1,fsh_c,frV_0,frV_1,qhf,List.flatMap_cons,List.flatMap_nil,List.append_nil,↓reduceIte,Nat.reduceEqDiff,Nat.succ_ne_self,Nat.zero_add,Nat.add_zero,List.map_cons,List.map_nil,decide_true,decide_false,List.getElem?_cons_zero,List.getElem?_cons_succ,beq_self_eq_true,qaf,qar,↓qaf,↓qar,Bool.and_true,Bool.and_false,bne_1,Option.getD_some,sp1,enc_Y,enc_O,qak,↓qak,dec_L,st_W zO,qed,sv_st,sv_fz,qde,qc6,sl_fz,qa8,ldN_2,qdu,↓qdu,qdy iO,qco aL,qcf fO0,qcf fO1,qb5 aO zO,bO,List.set_cons_zero,List.set_cons_succ,List.length_cons,List.length_nil,Nat.reduceAdd,Nat.le_refl,List.drop_zero,qe7,qef,rdC_t,qir,qfe,qhb,qf7,qc8,qeb,qis,qec,qf8,qes,qff,Option.isSome_some,Bool.or_true,hi,p16,di,c1,c2]
  ·by_cases c3:c=84
   ·replace c3:=eq_true c3
    simp (disch:=omega) only [Tryz.f61,Option.getD_some,qaw,qao,qah,qax,qau,qay,qbv,qat,qal,qcv,qa4,qc1,qbi,qa3,qfg,qaa,qab,qac,qaz,qdx,qam,qan,↓qaa,↓qab,↓qac,↓qaz,↓qam,↓qan,qaq,qcm,qbg,qag,qap,qa5,qav,qai,qcn,qa1,qa2,qae,qaj,qad,↓qae,↓qaj,↓qad,qa6,qbz,qbf,qb6,qbm,pk_sc,pk_st,qcp,vcall,qez,qas,qbw,qev,fv_r,pv_1,fsh_c,frV_0,frV_1,qfz,qe9,qeg,List.flatMap_cons,List.flatMap_nil,List.append_nil,↓reduceIte,Nat.reduceEqDiff,Nat.succ_ne_self,Nat.zero_add,List.map_cons,List.map_nil,decide_true,decide_false,qaf,↓qaf,Option.getD_some,sp2,enc_Y,enc_O,qak,↓qak,dec_I,dec_O,st_W zO,qed,sv_st,qde,qc6,sl_fz,qa8,ldN_2,qdy iO,qb5 aO zO,List.set_cons_zero,List.set_cons_succ,List.length_cons,List.length_nil,Nat.reduceAdd,Nat.le_refl,List.drop_zero,s1,c1,c2,c3]
    rw [show shearO (r,u) 1=(r,afterL u (repL r (-1))) from rfl,rep_neg hV.r]
   ·simp (disch:=omega) only [Tryz.f61,Option.getD_some,qaw,qao,qah,qax,qau,qay,qa7,qbv,qat,qal,qcv,qa4,qc1,qbi,qa3,qfg,qaa,qab,qac,qcu,qan,↓qaa,↓qab,↓qac,↓qan,qaq,qcm,qbg,qag,qap,qa5,qav,qai,qcn,qa1,qa2,qae,qaj,qad,↓qae,↓qaj,↓qad,qa6,qbz,qbf,qb6,qbm,pk_sc,pk_st,qcp,vcall,qez,qas,qbw,qev,fv_r,pv_1,fsh_c,frV_0,frV_1,qfz,qe9,qeg,List.flatMap_cons,List.flatMap_nil,List.append_nil,↓reduceIte,Nat.reduceEqDiff,Nat.succ_ne_self,Nat.zero_add,List.map_cons,List.map_nil,decide_false,qaf,↓qaf,Option.getD_some,sp2,enc_Y,enc_O,qak,↓qak,dec_I,dec_O,st_W zO,qed,sv_st,qde,qc6,sl_fz,qa8,ldN_2,qdy iO,qb5 aO zO,List.set_cons_zero,List.set_cons_succ,List.length_cons,List.length_nil,Nat.reduceAdd,Nat.le_refl,List.drop_zero,s2,c1,c2,c3]
    rw [show shearO (r,u) (-1)=(r,afterL u (repL r 1)) from rfl,qp3 hV.r]
abbrev copdS:VSpec:=spec1 cO Vb (fun o=>encO o) false
theorem copd_ok:OK 1000000000004 62 copdS:=by
 refine OK.of1 (F:=1000000000003) (tb:=[(100,repS)]) (pol:=polD 2) ?_ (x:=(Tryz.f62.body).getD .skip) (Nat.le_of_ble_eq_true rfl) Tryz.func62 rfl (ok_fn (by rfl) Tryz.func62 rfl) (by kernel_rfl) (by intros;rfl) fun n hn o hc=>?_
 ·intro y hy
  simp only [List.mem_singleton] at hy
  subst hy
  exact rep_ok
 have hV:=Vb_iff.1 hc
 have hP:=hV.Po
 obtain ⟨r,u⟩:=o
 obtain ⟨h1,h2,h3⟩:=qfc.1 hP
 have hpos:=hV.pos
 have q1:repP r 1=true:=by simp only [repP,Bool.and_eq_true,decide_eq_true_eq];exact ⟨⟨h1.2,h3⟩,by decide⟩
 have q2:repP u 1=true:=by simp only [repP,Bool.and_eq_true,decide_eq_true_eq];rw [h2.1];exact ⟨⟨h2.2,h3⟩,by decide⟩
 have hm:(1:Int) < (r.length:Int)∨(r.length:Int)=1:=by have:0 < r.length:=hpos;omega
 have hm:(if (1:Int) < (r.length:Int) then (1:Int) else (r.length:Int))=1:=by rcases hm with h | h;rw [if_pos h];rw [if_neg (by omega),h]
 have p2:polD 2 (1000000+2)=true:=rfl
 have p11:polD 2 11=false:=rfl
 have p16:polD 2 16=false:=rfl
 have di:drawI (regOps (atC [1,1,0] ((Tryz.f62.body).getD .skip))) (Region.before (regOps (atC [1,1,0] ((Tryz.f62.body).getD .skip))))=true:=by kernel_rfl
 simp only [Tryz.f62,Option.getD_some,atC,regOps] at di
 simp (disch:=omega) only [Tryz.f62,Option.getD_some,qaw,qao,qah,qc4,qax,qbv,qat,qal,qcv,qex,qa4,qc1,qcl,qbi,qcg uL,qaa,qab,qac,↓qaa,↓qab,↓qac,qaq,qcm,qbg,qag,qap,qa5,qav,qai,qcn,qa1,qa2,qae,qaj,qad,↓qae,↓qaj,↓qad,qdn,ln_fz,qa6,qbz,qbf,qb6,qbm,pk_sc,pk_fz,pk_st,qcp,vcall,qfo,qpj,qd6,qas,qbw,qev,fv_r,pv_1,fsh_c,frV_0,qfz,qhf,List.flatMap_cons,List.flatMap_nil,List.append_nil,Option.map_some,↓reduceIte,Nat.reduceEqDiff,Nat.zero_add,Nat.add_zero,List.map_cons,List.map_nil,List.getElem?_cons_zero,List.getElem?_cons_succ,beq_self_eq_true,qaf,qar,↓qaf,↓qar,Bool.true_and,Bool.and_true,Bool.false_and,Bool.and_false,bne_1,Option.getD_some,sp2,enc_O,qak,↓qak,dec_L,dec_I,st_W zO,qed,sv_st,sv_fz,qde,qc6,sl_fz,qa8,ldN_2,qdu,↓qdu,qdy iO,qco aL,qcf fO0,qcf fO1,qb5 aO zO,bO,List.set_cons_zero,List.set_cons_succ,List.length_cons,List.length_nil,Nat.reduceAdd,Nat.le_refl,List.drop_zero,qe7,qef,rdC_t,qhu,qir,qfe,qhb,qf7,qc8,qeb,qhw,qis,qec,qf8,qes,qff,Option.isSome_some,Bool.or_true,vs_min,minV_i,q1,q2,p11,p16,di,hm]
 rw [qp3 hV.r,qp3 hV.u]
end Go.Proofs.YtmdnofcphdjieaaGreatDoor
namespace Go.Proofs.YtmdnofcphdjieaaGreatDoor
open Go Go.Abs
theorem cnt_le:∀ {l m:List Bool},l.length=m.length→(∀ i,l.getD i false=true→m.getD i false=true)→cntB l≤cntB m∧(cntB l=cntB m→l=m):=by
 intro l
 induction l with
 | nil=>intro m h _;cases m with | nil=>exact ⟨Nat.le_refl _,fun _=>rfl⟩ | cons _ _=>cases h
 | cons x l ih =>
   intro m h hi
   cases m with
   | nil=>cases h
   | cons y m =>
     obtain ⟨h1,h2⟩:=ih (m:=m) (by simpa using h) (fun i hh=>by simpa using hi (i+1) (by simpa using hh))
     have h0:=hi 0
     unfold cntB at h1 h2 ⊢
     rw [List.countP_cons,List.countP_cons]
     cases x<;>cases y<;>simp at h0 ⊢
     ·exact ⟨h1,h2⟩
     ·exact ⟨by omega,fun e=>by omega⟩
     ·exact ⟨h1,h2⟩
theorem cnt_len (l:List Bool):cntB l≤l.length:=by unfold cntB;exact List.countP_le_length
section
variable {n:Nat} {o:Og}
theorem cpx_mono (h:Vo n o) {l:List Bool} (hl:l.length=n) {x:Nat} (hx:x < n) {y:Nat} (hy:l.getD y false=true):(cpx o l x).getD y false=true:=by
 unfold cpx
 split
 ·have h1:=h.r.lt hx
  have h2:=h.u.lt hx
  unfold stp at h1 h2
  rw [qdr (by rw [List.length_set];omega),qdr (by omega)]
  split
  ·rfl
  ·split
   ·rfl
   ·exact hy
 ·exact hy
theorem cpx_hit (h:Vo n o) {l:List Bool} (hl:l.length=n) {x:Nat} (hx:x < n) (hy:l.getD x false=true):(cpx o l x).getD (stp o.1 x) false=true∧(cpx o l x).getD (stp o.2 x) false=true:=by
 have h1:=h.r.lt hx
 have h2:=h.u.lt hx
 unfold cpx
 rw [if_pos hy]
 unfold stp at h1 h2 ⊢
 rw [qdr (by rw [List.length_set];omega),qdr (by omega),qdr (by rw [List.length_set];omega)]
 exact ⟨by split<;>simp,by simp⟩
theorem cpx_inv (h:Vo n o) {S:Nat→Bool} (hS:Keeps n o S) {l:List Bool} (hl:l.length=n) {x:Nat} (hx:x < n) (hi:∀ y,l.getD y false=true→S y=true):∀ y,(cpx o l x).getD y false=true→S y=true:=by
 intro y hy
 unfold cpx at hy
 split at hy
 ·rename_i hlx
  have h1:=h.r.lt hx
  have h2:=h.u.lt hx
  have k1:=hS.1 x hx (hi x hlx)
  have k2:=hS.2 x hx (hi x hlx)
  unfold stp at h1 h2 k1 k2
  rw [qdr (by rw [List.length_set];omega),qdr (by omega)] at hy
  split at hy
  ·rename_i e;subst e;exact k2
  ·split at hy
   ·rename_i e;subst e;exact k1
   ·exact hi y hy
 ·exact hi y hy
theorem qka (h:Vo n o) {l:List Bool} (hl:l.length=n):∀ {i:Nat},i≤n→∀ {j:Nat},j≤i→∀ {y:Nat},(cpr o l j).getD y false=true→(cpr o l i).getD y false=true:=by
 intro i
 induction i with
 | zero=>intro _ j hj y hy;rw [show j=0 from by omega] at hy;exact hy
 | succ i ih =>
   intro hi j hj y hy
   by_cases e:j=i+1
   ·subst e;exact hy
   ·rw [qh6]
    exact cpx_mono h (by rw [qkr,hl]) (by omega) (ih (by omega) (by omega) hy)
theorem cpr_inv (h:Vo n o) {S:Nat→Bool} (hS:Keeps n o S) {l:List Bool} (hl:l.length=n) (hi:∀ y,l.getD y false=true→S y=true):∀ {i:Nat},i≤n→∀ y,(cpr o l i).getD y false=true→S y=true:=by
 intro i
 induction i with
 | zero=>intro _;exact hi
 | succ i ih =>
   intro hin
   rw [qh6]
   exact cpx_inv h hS (by rw [qkr,hl]) (by omega) (ih (by omega))
theorem cpK_inv (h:Vo n o) {S:Nat→Bool} (hS:Keeps n o S) {l:List Bool} (hl:l.length=n) (hi:∀ y,l.getD y false=true→S y=true):∀ (k:Nat) (y:Nat),(cpK o l k).getD y false=true→S y=true:=by
 intro k
 induction k with
 | zero=>exact hi
 | succ k ih =>
   rw [cpK]
   exact cpr_inv h hS (by rw [qgg,hl]) ih (by rw [h.r.pn.1];exact Nat.le_refl _)
theorem qoh (h:Vo n o) {l:List Bool} (hl:l.length=n) (k:Nat) {y:Nat} (hy:(cpK o l k).getD y false=true):(cpK o l (k+1)).getD y false=true:=by
 rw [cpK]
 exact qka h (by rw [qgg,hl]) (by rw [h.r.pn.1];exact Nat.le_refl _) (Nat.zero_le _) hy
theorem cpK_mono (h:Vo n o) {l:List Bool} (hl:l.length=n) (k:Nat) {y:Nat} (hy:l.getD y false=true):(cpK o l k).getD y false=true:=by
 induction k with
 | zero=>exact hy
 | succ k ih=>exact qoh h hl k ih
theorem qtg (h:Vo n o) {l:List Bool} (hl:l.length=n) (e:cpr o l o.1.length=l):Keeps n o fun y=>l.getD y false:=by
 have hn:=h.r.pn.1
 rw [hn] at e
 have key:∀ x,x < n→l.getD x false=true→l.getD (stp o.1 x) false=true∧l.getD (stp o.2 x) false=true:=by
  intro x hx hl1
  have h1:(cpr o l x).getD x false=true:=qka h hl (by omega) (Nat.zero_le _) hl1
  obtain ⟨q1,q2⟩:=cpx_hit h (l:=cpr o l x) (by rw [qkr,hl]) hx h1
  rw [← qh6] at q1 q2
  have q3:=qka h hl (Nat.le_refl n) (show x+1≤n from hx) q1
  have q4:=qka h hl (Nat.le_refl n) (show x+1≤n from hx) q2
  rw [e] at q3 q4
  exact ⟨q3,q4⟩
 exact ⟨fun x hx hh=>(key x hx hh).1,fun x hx hh=>(key x hx hh).2⟩
theorem qth {l:List Bool} {j:Nat} (e:cpr o (cpK o l j) o.1.length=cpK o l j):∀ i,cpK o l (j+i)=cpK o l j:=by
 intro i
 induction i with
 | zero=>rfl
 | succ i ih=>rw [← Nat.add_assoc,cpK,ih,e]
theorem qti (h:Vo n o) {l:List Bool} (hl:l.length=n) (h1:1≤cntB l):Keeps n o fun y=>(cpK o l n).getD y false:=by
 have hn:=h.r.pn.1
 have grow:∀ k,k≤n→(∃ j,j < k∧cpr o (cpK o l j) o.1.length=cpK o l j)∨1+k≤cntB (cpK o l k):=by
  intro k
  induction k with
  | zero=>intro _;exact .inr h1
  | succ k ih =>
    intro hk
    rcases ih (by omega) with ⟨j,hj,e⟩ | hc
    ·exact .inl ⟨j,by omega,e⟩
    ·by_cases e:cpr o (cpK o l k) o.1.length=cpK o l k
     ·exact .inl ⟨k,by omega,e⟩
     ·right
      obtain ⟨q1,q2⟩:=cnt_le (l:=cpK o l k) (m:=cpK o l (k+1)) (by rw [qgg,qgg]) (fun y hy=>qoh h hl k hy)
      have:cntB (cpK o l k)≠cntB (cpK o l (k+1)):=fun hh=>e (q2 hh).symm
      omega
 rcases grow n (Nat.le_refl _) with ⟨j,hj,e⟩ | hc
 ·have hs:=qth e (n - j)
  rw [show j+(n - j)=n from by omega] at hs
  rw [hs]
  exact qtg h (by rw [qgg,hl]) e
 ·have:=cnt_len (cpK o l n)
  rw [qgg,hl] at this
  omega
theorem cst_get {s y:Nat} (hs:s < n):(cst n s).getD y false=decide (s=y):=by
 unfold cst
 rw [qdr (by rw [List.length_replicate];exact hs)]
 by_cases e:s=y
 ·rw [if_pos e,decide_eq_true e]
 ·rw [if_neg e,decide_eq_false e]
  rw [List.getD_eq_getElem?_getD,List.getElem?_replicate]
  split<;>rfl
theorem qh7 (h:Vo n o) {s:Nat} (hs:s < n):(Keeps n o fun y=>(cin o s).getD y false)∧(cin o s).getD s false=true∧∀ S:Nat→Bool,Keeps n o S→S s=true→∀ y,(cin o s).getD y false=true→S y=true:=by
 have hn:=h.r.pn.1
 have hl:(cst n s).length=n:=by unfold cst;rw [List.length_set,List.length_replicate]
 have hs1:(cst n s).getD s false=true:=by rw [cst_get hs];simp
 unfold cin
 rw [hn]
 refine ⟨qti h hl ?_,cpK_mono h hl n hs1,fun S hS hSs=>cpK_inv h hS hl (fun y hy=>?_) n⟩
 ·unfold cntB
  refine List.countP_pos_iff.2 ⟨true,?_,rfl⟩
  unfold cst
  exact List.mem_of_getElem? (i:=s) (by rw [List.getElem?_set,if_pos rfl,if_pos (by rw [List.length_replicate];exact hs)])
 ·rw [cst_get hs] at hy
  have:=of_decide_eq_true hy
  subst this;exact hSs
theorem colK_head {l:List Bool} {y:Nat} (hy:l.getD y false=true) (hlt:∀ z,z < y→l.getD z false=false):∀ {i:Nat},y < i→∃ r,colK l i=(y:Int)::r:=by
 have h0:∀ i,i≤y→colK l i=[]:=by
  intro i
  induction i with
  | zero=>intro _;rfl
  | succ i ih =>
    intro hi
    rw [qks,hlt i (by omega),if_neg (by simp)]
    exact ih (by omega)
 intro i
 induction i with
 | zero=>intro h;omega
 | succ i ih =>
   intro hi
   rw [qks]
   by_cases e:y=i
   ·subst e
    rw [hy,if_pos rfl,h0 y (Nat.le_refl _)]
    exact ⟨[],rfl⟩
   ·obtain ⟨r,hr⟩:=ih (by omega)
    rw [hr]
    split
    ·exact ⟨r++[(i:Int)],rfl⟩
    ·exact ⟨r,rfl⟩
theorem qkb (h:Vo n o) {s y:Nat} (hy:(cin o s).getD y false=true) (hyn:y < n) (hlt:∀ z,z < y→(cin o s).getD z false=false):(rcmL o s).getD 0 0=(y:Int)∧0 < (rcmL o s).length:=by
 unfold rcmL
 rw [h.r.pn.1]
 obtain ⟨r,hr⟩:=colK_head hy hlt hyn
 rw [hr]
 exact ⟨rfl,by simp⟩
theorem qgi {p:Nat→Bool}:∀ {y:Nat},p y=true→∃ z,z≤y∧p z=true∧∀ x,x < z→p x=false:=by
 intro y
 induction y using Nat.strongRecOn with
 | _ y ih =>
   intro hy
   by_cases h:∃ x,x < y∧p x=true
   ·obtain ⟨x,hx,hp⟩:=h
    obtain ⟨z,hz,h1,h2⟩:=ih x hx hp
    exact ⟨z,by omega,h1,h2⟩
   ·refine ⟨y,Nat.le_refl _,hy,fun x hx=>?_⟩
    cases hp:p x with
    | false=>rfl
    | true=>exact absurd ⟨x,hx,hp⟩ h
theorem rcm_pos (h:Vo n o) {s:Nat} (hs:s < n):0 < (rcmL o s).length:=by
 obtain ⟨_,h2,_⟩:=qh7 h hs
 obtain ⟨z,hz,h3,h4⟩:=qgi (p:=fun y=>(cin o s).getD y false) h2
 exact (qkb h h3 (by omega) h4).2
theorem qmx (h:Vo n o):(rcmL o 0).getD 0 0=((0:Nat):Int) :=
 (qkb h (qh7 h h.pos).2.1 h.pos (fun z hz=>by omega)).1
theorem qrv (o:Og) (h0:(rcmL o 0).getD 0 0=((0:Nat):Int)):∀ {i:Nat},0 < i→1≤(cpsK o i).length:=by
 intro i
 induction i with
 | zero=>intro h;omega
 | succ i ih =>
   intro _
   rw [qgh]
   unfold cpsX
   by_cases e:i=0
   ·subst e
    rw [if_pos h0,List.length_append]
    simp
   ·have:=ih (by omega)
    split
    ·rw [List.length_append];omega
    ·exact this
theorem cpsK_all (o:Og) (h0:(rcmL o 0).getD 0 0=((0:Nat):Int)):∀ {i:Nat},0 < i→(∀ x,0 < x→x < i→(rcmL o x).getD 0 0≠(x:Int))→(cpsK o i).length=1:=by
 intro i
 induction i with
 | zero=>intro h;omega
 | succ i ih =>
   intro _ hx
   rw [qgh]
   unfold cpsX
   by_cases e:i=0
   ·subst e
    rw [if_pos h0]
    rfl
   ·rw [if_neg (hx i (by omega) (by omega))]
    exact ih (by omega) fun x h1 h2=>hx x h1 (by omega)
theorem cpsK_two (o:Og) (h0:(rcmL o 0).getD 0 0=((0:Nat):Int)) {y:Nat} (hy:0 < y) (hq:(rcmL o y).getD 0 0=(y:Int)):∀ {i:Nat},y < i→2≤(cpsK o i).length:=by
 intro i
 induction i with
 | zero=>intro h;omega
 | succ i ih =>
   intro hi
   rw [qgh]
   unfold cpsX
   by_cases e:i=y
   ·subst e
    rw [if_pos hq,List.length_append]
    have:=qrv o h0 hy
    simp;omega
   ·have:=ih (by omega)
    split
    ·rw [List.length_append];omega
    ·exact this
theorem rcps_Cn (h:Vo n o):(rcps o).length=1↔Cn n o:=by
 unfold rcps
 rw [h.r.pn.1]
 constructor
 ·intro h1
  refine Cn.of0 h fun S hS hS0 y hy=>?_
  cases hSy:S y with
  | true=>rfl
  | false =>
    exfalso
    obtain ⟨z,hz,h3,h4⟩:=qgi (p:=fun y=>!S y) (y:=y) (by simp [hSy])
    have hzn:z < n:=by omega
    have hz0:0 < z:=by
     apply Nat.pos_of_ne_zero
     intro e
     subst e
     rw [hS0] at h3;cases h3
    obtain ⟨_,q2,q3⟩:=qh7 h hzn
    have hnot:=h.not hS
    have hsub:=q3 _ hnot h3
    have:=(qkb h q2 hzn (fun x hx=>by
     cases hc:(cin o z).getD x false with
     | false=>rfl
     | true =>
       have:=hsub x hc
       rw [h4 x hx] at this;cases this)).1
    have:=cpsK_two o (qmx h) hz0 this hzn
    omega
 ·intro hC
  refine cpsK_all o (qmx h) h.pos fun x hx0 hxn=>?_
  obtain ⟨q1,q2,_⟩:=qh7 h hxn
  have h0:(cin o x).getD 0 false=true:=hC.all _ q1 x hxn q2 0 h.pos
  rw [(qkb h h0 h.pos (fun z hz=>by omega)).1]
  intro e
  omega
theorem Vo.csP (h:Vo n o):csP o=true:=by
 have h1:rcpB o=true:=by
  unfold rcpB
  rw [h.r.pn.1]
  exact List.all_eq_true.2 fun x hx=>decide_eq_true (rcm_pos h (List.mem_range.1 hx))
 have h2:0 < (rcps o).length:=by
  unfold rcps
  rw [h.r.pn.1]
  have:=qrv o (qmx h) h.pos
  omega
 unfold YtmdnofcphdjieaaGreatDoor.csP
 rw [h.Po,h1,decide_eq_true h2]
 rfl
end
theorem qmy {o:Og} (h:lgO o=true):ckoP o=true:=by
 unfold ckoP
 rw [h,Bool.true_and,Bool.or_eq_true]
 by_cases h0:checkE o=0
 ·exact .inr (qh5 h0).csP
 ·exact .inl (decide_eq_true h0)
theorem ckOne_eq {o:Og}:ckOne o=conE [o]:=by
 unfold ckOne
 by_cases h0:checkE o=0
 ·rw [if_neg (by rw [h0];simp)]
  have hV:=qh5 h0
  by_cases h1:(rcps o).length=1
  ·rw [if_pos h1]
   exact (((rcps_Cn hV).1 h1).con).symm
  ·rw [if_neg h1]
   have hne:conE [o]≠0:=fun h=>h1 ((rcps_Cn hV).2 (con_Cn h))
   unfold conE at hne ⊢
   have hk:ckF [o] [o].length=0:=by simp [ckF,h0]
   rw [hk] at hne ⊢
   simp only [ne_eq,not_true_eq_false,if_false] at hne ⊢
   split
   ·rfl
   ·rename_i hs
    rw [if_neg hs] at hne
    exact absurd rfl hne
 ·rw [if_pos h0]
  unfold conE
  have hk:ckF [o] [o].length=checkE o:=by simp [ckF]
  rw [hk,if_pos h0]
theorem qmz {o:Og}:ckOne o=0↔Cn o.1.length o:=by
 rw [ckOne_eq]
 exact ⟨con_Cn,fun h=>h.con⟩
end Go.Proofs.YtmdnofcphdjieaaGreatDoor
