/- Of the law: texts of its proof, joined (part 3). -/
import Derived.KernelRfl
import Derived.Below
import Derived.Test.YtmdnofcphdjieaaGreatDoorQos2
set_option linter.all false
namespace Go.Abs
inductive Topo (ops:Array Oper):(Nat→Bool)→List Nat→Prop
 | nil (L:Nat→Bool):(∀ i,i < ops.size→L i=true)→Topo ops L []
 | cons (L:Nat→Bool) (i:Nat) (l:List Nat):i < ops.size→L i=false→(∀ p∈preds (ops.getD i default),L p=true)→Topo ops (fun j=>decide (j=i) || L j) l→Topo ops L (i::l)
def cnt (n:Nat) (L:Nat→Bool):Nat:=((List.range n).filter fun i=>!L i).length
theorem cnt_zero {n:Nat} {L:Nat→Bool} (h:cnt n L=0):∀ i,i < n→L i=true:=by
 intro i hi
 unfold cnt at h
 have h1:=List.eq_nil_of_length_eq_zero h
 cases hL:L i with
 | true=>rfl
 | false =>
   have:i∈(List.range n).filter fun i=>!L i:=by simp [hi,hL]
   rw [h1] at this
   cases this
theorem filter_set (L:Nat→Bool) (i:Nat):∀ (l:List Nat),l.Nodup→i∈l→L i=false→(l.filter fun j=>!(decide (j=i) || L j)).length+1=(l.filter fun j=>!L j).length:=by
 intro l
 induction l with
 | nil=>intro _ h;cases h
 | cons x l ih =>
   intro hnd hmem hL
   rw [List.nodup_cons] at hnd
   by_cases hx:x=i
   ·subst hx
    have hnot:∀ j∈l,j≠x:=fun j hj e=>hnd.1 (e▸hj)
    have:(l.filter fun j=>!(decide (j=x) || L j))=l.filter fun j=>!L j:=List.filter_congr fun j hj=>by simp [hnot j hj]
    rw [List.filter_cons,List.filter_cons,this]
    simp [hL]
   ·have hmem':i∈l:=by
     rcases List.mem_cons.1 hmem with e | e
     ·exact absurd e.symm hx
     ·exact e
    have:=ih hnd.2 hmem' hL
    simp only [List.filter_cons,show decide (x=i)=false from by simp [hx],Bool.false_or]
    split
    ·simp only [List.length_cons];omega
    ·exact this
theorem cnt_set {n:Nat} {L:Nat→Bool} {i:Nat} (hi:i < n) (hL:L i=false):cnt n (fun j=>decide (j=i) || L j)+1=cnt n L :=
 filter_set L i (List.range n) List.nodup_range (by simpa using hi) hL
theorem least {n:Nat} {L:Nat→Bool}:∀ i,i < n→L i=false→∃ j,j < n∧L j=false∧∀ k,k < j→L k=true:=by
 intro i
 induction i using Nat.strongRecOn with
 | _ i ih =>
   intro hi hL
   by_cases h:∃ k,k < i∧L k=false
   ·obtain ⟨k,hk,hLk⟩:=h
    exact ih k hk (by omega) hLk
   ·refine ⟨i,hi,hL,fun k hk=>?_⟩
    cases hLk:L k with
    | true=>rfl
    | false=>exact absurd ⟨k,hk,hLk⟩ h
theorem qid {o:Oper} {i:Nat}:i∈preds o↔∃ e∈o.after.toList,Region.binds .any e=true∧e.on=i:=by
 simp only [preds,List.mem_map,List.mem_filter]
 exact ⟨fun ⟨e,⟨h1,h2⟩,h3⟩=>⟨e,h1,h2,h3⟩,fun ⟨e,h1,h2,h3⟩=>⟨e,⟨h1,h2⟩,h3⟩⟩
theorem go_topo {ops:Array Oper} (hp:∀ j,j < ops.size→∀ i∈preds (ops.getD j default),i < j):∀ (fuel t:Nat) (listed:Array Bool) (acc:List Nat),listed.size=ops.size→cnt ops.size (fun i=>listed.getD i false)≤fuel →
  ∃ l,Region.linearise.go .any ops fuel t listed acc=acc.reverse++l∧Topo ops (fun i=>listed.getD i false) l:=by
 intro fuel
 induction fuel with
 | zero =>
   intro t listed acc hs hc
   exact ⟨[],by simp [Region.linearise.go],.nil _ (cnt_zero (by omega))⟩
 | succ fuel ih =>
   intro t listed acc hs hc
   rw [Region.linearise.go]
   generalize hrs:((List.range ops.size).filter fun i=>!listed.getD i true && ((ops[i]?).map (·.after.all fun e=>!Region.binds .any e || listed.getD e.on false)).getD false)=rs
   have hmem:∀ i,i∈rs↔i < ops.size∧listed.getD i false=false∧∀ p∈preds (ops.getD i default),listed.getD p false=true:=by
    intro i
    rw [← hrs]
    simp only [List.mem_filter,List.mem_range,Bool.and_eq_true,Bool.not_eq_true']
    constructor
    ·rintro ⟨hi,h1,h2⟩
     have hget:ops[i]?=some (ops.getD i default):=by rw [Array.getElem?_eq_getElem hi];simp [Array.getD,hi]
     rw [hget] at h2
     simp only [Option.map_some,Option.getD_some,Array.all_eq_true_iff_forall_mem] at h2
     refine ⟨hi,by simpa [Array.getD,show i < listed.size by omega] using h1,fun p hpp=>?_⟩
     obtain ⟨e,he1,he2,rfl⟩:=qid.1 hpp
     have:=h2 e (by simpa using he1)
     simpa [he2] using this
    ·rintro ⟨hi,h1,h2⟩
     have hget:ops[i]?=some (ops.getD i default):=by rw [Array.getElem?_eq_getElem hi];simp [Array.getD,hi]
     refine ⟨hi,by simpa [Array.getD,show i < listed.size by omega] using h1,?_⟩
     rw [hget]
     simp only [Option.map_some,Option.getD_some,Array.all_eq_true_iff_forall_mem]
     intro e he
     cases hb:Region.binds .any e with
     | false=>simp
     | true=>simpa [hb] using h2 e.on (qid.2 ⟨e,by simpa using he,hb,rfl⟩)
   cases hn:rs[t % rs.length]? with
   | none =>
     refine ⟨[],by simp,.nil _ fun i hi=>?_⟩
     cases hL:listed.getD i false with
     | true=>rfl
     | false =>
       obtain ⟨j,hj,hLj,hlow⟩:=least (L:=fun i=>listed.getD i false) i hi hL
       have hjr:j∈rs:=(hmem j).2 ⟨hj,hLj,fun p hpp=>hlow p (hp j hj p hpp)⟩
       have hpos:0 < rs.length:=List.length_pos_of_mem hjr
       have hlt:t % rs.length < rs.length:=Nat.mod_lt _ hpos
       rw [List.getElem?_eq_getElem hlt] at hn
       cases hn
   | some i =>
     have hir:i∈rs:=List.mem_of_getElem? hn
     obtain ⟨hi,hL,hpr⟩:=(hmem i).1 hir
     simp only
     have hfun:(fun j=>(listed.setIfInBounds i true).getD j false)=fun j=>decide (j=i) || listed.getD j false:=by
      funext j
      rw [Array.getD_eq_getD_getElem?,Array.getD_eq_getD_getElem?,Array.getElem?_setIfInBounds]
      by_cases hji:j=i
      ·subst hji;simp [show j < listed.size by omega]
      ·rw [if_neg (fun e=>hji e.symm)];simp [hji]
     have hc':=cnt_set (L:=fun j=>listed.getD j false) hi hL
     obtain ⟨l,h1,h2⟩:=ih (t / rs.length) (listed.setIfInBounds i true) (i::acc) (by simp [hs]) (by rw [hfun];omega)
     refine ⟨i::l,by rw [h1];simp,.cons _ i l hi hL hpr ?_⟩
     rw [hfun] at h2
     exact h2
theorem qhe {ops:Array Oper} (hp:∀ j,j < ops.size→∀ i∈preds (ops.getD j default),i < j) (t:Nat):Topo ops (fun _=>false) (Region.linearise .any ops t):=by
 have hf:(fun i=>(Array.replicate ops.size false).getD i false)=fun _=>false:=by
  funext i;rw [Array.getD_eq_getD_getElem?,Array.getElem?_replicate];split<;>rfl
 obtain ⟨l,h1,h2⟩:=go_topo hp ops.size t (Array.replicate ops.size false) [] (by simp) (by
  unfold cnt;exact Nat.le_trans (List.length_filter_le _ _) (by simp))
 rw [hf] at h2
 unfold Region.linearise
 rw [h1]
 exact h2
theorem fold_bit (acc:Array Nat) (i:Nat):∀ (l:List Edge) (s:Nat),(l.foldl (fun s e=>if Region.binds .any e then s ||| 2 ^ e.on ||| acc.getD e.on 0 else s) s).testBit i=true ↔
  s.testBit i=true∨∃ e∈l,Region.binds .any e=true∧(e.on=i∨(acc.getD e.on 0).testBit i=true):=by
 intro l
 induction l with
 | nil=>intro s;simp
 | cons e l ih =>
   intro s
   rw [List.foldl_cons,ih]
   cases hb:Region.binds .any e with
   | false=>simp [hb]
   | true =>
     simp only [if_true,Nat.testBit_or,Bool.or_eq_true,Nat.testBit_two_pow,decide_eq_true_eq,List.mem_cons,exists_eq_or_imp,hb,true_and]
     constructor
     ·rintro (((h | h) | h) | h)
      ·exact .inl h
      ·exact .inr (.inl (.inl h))
      ·exact .inr (.inl (.inr h))
      ·exact .inr (.inr h)
     ·rintro (h | (h | h) | h)
      ·exact .inl (.inl (.inl h))
      ·exact .inl (.inl (.inr h))
      ·exact .inl (.inr h)
      ·exact .inr h
def befOf (acc:Array Nat) (o:Oper):Nat:=o.after.foldl (fun s e=>if Region.binds .any e then s ||| 2 ^ e.on ||| acc.getD e.on 0 else s) 0
theorem qqa (l:List Oper):∀ (acc:Array Nat),(∀ j,j < l.length→∀ i∈preds (l.getD j default),i < acc.size+j) →
  ∃ B:Array Nat,l.foldl (fun acc o=>acc.push (befOf acc o)) acc=B∧B.size=acc.size+l.length∧(∀ j,j < acc.size→B.getD j 0=acc.getD j 0) ∧
    ∀ j,j < l.length→∀ i,(B.getD (acc.size+j) 0).testBit i=true↔∃ p∈preds (l.getD j default),p=i∨(B.getD p 0).testBit i=true:=by
 induction l with
 | nil=>intro acc _;exact ⟨acc,rfl,by simp,fun _ _=>rfl,fun j hj=>by simp at hj⟩
 | cons o l ih =>
   intro acc hp
   obtain ⟨B,h1,h2,h3,h4⟩:=ih (acc.push (befOf acc o)) (fun j hj i hi=>by
    have:=hp (j+1) (by simpa using hj) i (by simpa using hi)
    simp;omega)
   simp only [Array.size_push] at h2 h3 h4
   refine ⟨B,by rw [List.foldl_cons];exact h1,by simp;omega,fun j hj=>?_,fun j hj i=>?_⟩
   ·rw [h3 j (by omega),Array.getD_eq_getD_getElem?,Array.getElem?_push,if_neg (by omega),← Array.getD_eq_getD_getElem?]
   ·cases j with
    | zero =>
      have hB:B.getD acc.size 0=befOf acc o:=by
       rw [h3 acc.size (by omega),Array.getD_eq_getD_getElem?,Array.getElem?_push,if_pos rfl];rfl
      rw [Nat.add_zero,hB]
      unfold befOf
      rw [← Array.foldl_toList,fold_bit]
      simp only [Nat.zero_testBit,Bool.false_eq_true,false_or,List.getD_cons_zero]
      constructor
      ·rintro ⟨e,he,hb,h⟩
       have hpm:e.on∈preds o:=qid.2 ⟨e,he,hb,rfl⟩
       have hlt:=hp 0 (by simp) e.on (by simpa using hpm)
       refine ⟨e.on,hpm,?_⟩
       rcases h with h | h
       ·exact .inl h
       ·refine .inr ?_
        rw [h3 _ (by omega),Array.getD_eq_getD_getElem?,Array.getElem?_push,if_neg (by omega),← Array.getD_eq_getD_getElem?]
        exact h
      ·rintro ⟨p,hpm,h⟩
       obtain ⟨e,he,hb,rfl⟩:=qid.1 hpm
       have hlt:=hp 0 (by simp) e.on (by simpa using hpm)
       refine ⟨e,he,hb,?_⟩
       rcases h with h | h
       ·exact .inl h
       ·refine .inr ?_
        rw [h3 _ (by omega),Array.getD_eq_getD_getElem?,Array.getElem?_push,if_neg (by omega),← Array.getD_eq_getD_getElem?] at h
        exact h
    | succ j =>
      have:=h4 j (by simpa using hj) i
      rw [show acc.size+(j+1)=acc.size+1+j from by omega]
      simpa using this
theorem qqb {ops:Array Oper} (hp:∀ j,j < ops.size→∀ i∈preds (ops.getD j default),i < j):∀ j,j < ops.size→∀ i,((Region.before ops).getD j 0).testBit i=true↔∃ p∈preds (ops.getD j default),p=i∨((Region.before ops).getD p 0).testBit i=true:=by
 have hgd:∀ j,ops.getD j default=ops.toList.getD j default:=fun j=>by simp [Array.getD_eq_getD_getElem?]
 obtain ⟨B,h1,_,_,h4⟩:=qqa ops.toList #[] (fun j hj i hi=>by
  have:=hp j (by simpa using hj) i (by rw [hgd];exact hi)
  simpa using this)
 have hB:Region.before ops=B:=by
  unfold Region.before
  rw [← Array.foldl_toList]
  exact h1
 intro j hj i
 rw [hB,hgd]
 have:=h4 j (by simpa using hj) i
 simpa using this
end Go.Abs
namespace Go.Abs
theorem fnEq_sound {a b:Fn} (h:fnEq a b=true):a=b:=by
 unfold fnEq at h
 split at h
 ·rw [eq_of_beq h]
 ·rw [eq_of_beq h]
 ·cases h
theorem qot:∀ {l:List Value} {p:List Addr},ptrsOf l=some p→l=p.map fun a=>.pointer (some a):=by
 intro l
 induction l with
 | nil=>intro p h;cases h;rfl
 | cons v l ih =>
   intro p h
   unfold ptrsOf at h
   split at h
   ·rename_i e;cases e
   ·rename_i a k e
    injection e with e1 e2
    subst e1;subst e2
    cases hk:ptrsOf l with
    | none=>rw [hk] at h;cases h
    | some q=>rw [hk] at h;cases h;rw [ih hk];rfl
   ·cases h
theorem qgp {v u:Value} (h:sEq v u=true):v=u:=by
 cases v<;>cases u<;>first | (simp [sEq] at h;done) | skip
 ·simp only [sEq,beq_iff_eq] at h;rw [h]
 ·simp only [sEq,Bool.and_eq_true,beq_iff_eq] at h;rw [h.1,h.2]
 ·simp only [sEq,ql7] at h;rw [h]
 ·simp only [sEq,beq_iff_eq] at h;rw [h]
 ·simp only [sEq,Bool.and_eq_true,beq_iff_eq] at h;rw [h.1.1,h.1.2,h.2]
 ·simp only [sEq,beq_iff_eq] at h;rw [h]
 ·rename_i a x c b y d
  simp only [sEq,Bool.and_eq_true,Array.isEmpty_iff] at h
  obtain ⟨⟨⟨h1,rfl⟩,rfl⟩,h2⟩:=h
  obtain rfl:=fnEq_sound h1
  split at h2
  ·rename_i p q hp hq
   obtain rfl:=eq_of_beq h2
   have:=(qot hp).trans (qot hq).symm
   rw [Array.toList_inj.1 this]
  ·cases h2
 ·rfl
 ·rfl
theorem qjq:∀ {l k:List Value},listEq l k=true→l=k:=by
 intro l
 induction l with
 | nil=>intro k h;cases k with | nil=>rfl | cons _ _=>simp [listEq] at h
 | cons x l ih =>
   intro k h
   cases k with
   | nil=>simp [listEq] at h
   | cons y k=>simp only [listEq,Bool.and_eq_true] at h;rw [qgp h.1,ih h.2]
theorem vEq_sound {v u:Value} (h:vEq v u=true):v=u:=by
 unfold vEq at h
 split at h
 ·rename_i a b
  have:=qjq h
  rw [Array.toList_inj.1 this]
 ·rename_i a b
  have:=qjq h
  rw [Array.toList_inj.1 this]
 ·exact qgp h
section
variable {P:Program} {call:CallF} {a b:Fr} {H:Heap}
theorem qc9 {α:Type} {x:Option α} {v:α} {H H':Heap} (h:x.map (·,H)=some (v,H')):x=some v∧H'=H:=by
 cases x with
 | none=>cases h
 | some y=>simp only [Option.map_some] at h;injection h with h;injection h with h1 h2;exact ⟨by rw [h1],h2.symm⟩
theorem qfu {o:Oper} (hc:cls o.op = .pure_) {v:Value} {H':Heap} (h:aexec P a o H=some (v,H')):H'=H∧∀ G,aexec P a o G=some (v,G):=by
 obtain ⟨dst,op,type,pos,after,guard⟩:=o
 cases op
 case move x=>simp only [aexec] at h ⊢;injection h with h;injection h with h1 h2;exact ⟨h2.symm,fun G=>by rw [h1]⟩
 case assign x=>simp only [aexec] at h ⊢;injection h with h;injection h with h1 h2;exact ⟨h2.symm,fun G=>by rw [h1]⟩
 case pick c x y =>
  simp only [aexec] at h ⊢
  split at h
  ·injection h with h;injection h with h1 h2;exact ⟨h2.symm,fun G=>by rw [h1]⟩
  ·cases h
 case build t parts=>simp only [aexec] at h ⊢;obtain ⟨h1,h2⟩:=qc9 h;exact ⟨h2,fun G=>by rw [h1];rfl⟩
 case nilCheck x =>
  simp only [aexec] at h ⊢
  split at h
  ·rename_i hp;injection h with h;injection h with h1 h2;exact ⟨h2.symm,fun G=>by rw [if_pos hp,h1]⟩
  ·cases h
 case binOp op t x y yt =>
  cases op
  case eql =>
   simp only [aexec] at h ⊢
   split at h
   ·injection h with h;injection h with h1 h2;exact ⟨h2.symm,fun G=>by rw [h1]⟩
   ·obtain ⟨h1,h2⟩:=qc9 h;exact ⟨h2,fun G=>by rw [h1];rfl⟩
  case neq =>
   simp only [aexec] at h ⊢
   split at h
   ·injection h with h;injection h with h1 h2;exact ⟨h2.symm,fun G=>by rw [h1]⟩
   ·obtain ⟨h1,h2⟩:=qc9 h;exact ⟨h2,fun G=>by rw [h1];rfl⟩
  all_goals (simp only [aexec] at h ⊢;obtain ⟨h1,h2⟩:=qc9 h;exact ⟨h2,fun G=>by rw [h1];rfl⟩)
 case unOp op t x=>simp only [aexec] at h ⊢;obtain ⟨h1,h2⟩:=qc9 h;exact ⟨h2,fun G=>by rw [h1];rfl⟩
 case makeFunc fn first captured =>
  cases fn
  case func f =>
   simp only [aexec] at h ⊢
   split at h
   ·rename_i hp;injection h with h;injection h with h1 h2;exact ⟨h2.symm,fun G=>by rw [if_pos hp,h1]⟩
   ·cases h
  all_goals (simp only [aexec] at h;cases h)
 case slice t x lo hi mx =>
  simp only [aexec] at h ⊢
  split at h
  ·cases h
  ·rename_i hp;obtain ⟨h1,h2⟩:=qc9 h;exact ⟨h2,fun G=>by rw [if_neg hp,h1];rfl⟩
 case fieldAddr t x i=>simp only [aexec] at h ⊢;obtain ⟨h1,h2⟩:=qc9 h;exact ⟨h2,fun G=>by rw [h1];rfl⟩
 case field t x i=>simp only [aexec] at h ⊢;obtain ⟨h1,h2⟩:=qc9 h;exact ⟨h2,fun G=>by rw [h1];rfl⟩
 case indexAddr t x i=>simp only [aexec] at h ⊢;obtain ⟨h1,h2⟩:=qc9 h;exact ⟨h2,fun G=>by rw [h1];rfl⟩
 case index t x i =>
  simp only [aexec] at h ⊢
  split at h
  ·rename_i r hr;injection h with h;injection h with h1 h2;exact ⟨h2.symm,fun G=>by rw [h1]⟩
  ·obtain ⟨h1,h2⟩:=qc9 h;exact ⟨h2,fun G=>by rw [h1];rfl⟩
 case extract x i =>
  simp only [aexec] at h ⊢
  split at h
  ·obtain ⟨h1,h2⟩:=qc9 h;exact ⟨h2,fun G=>by rw [h1];rfl⟩
  ·cases h
 case call c =>
  obtain ⟨callee,args,ts⟩:=c
  cases callee
  case builtin bi =>
   simp only [aexec] at h ⊢
   unfold builtinA at h ⊢
   cases bi<;>first | (simp [cls] at hc;done) | skip
   all_goals
    revert h
    generalize args.toList.map (ev a)=ays
    generalize ts.toList=tl
    intro h
    simp only at h ⊢
    first
     | (obtain ⟨h1,h2⟩:=qc9 h;exact ⟨h2,fun G=>by rw [h1];rfl⟩)
     | (split at h<;>first | contradiction | (obtain ⟨h1,h2⟩:=qc9 h;exact ⟨h2,fun G=>by rw [h1];rfl⟩) | (cases h;done) | (
      rename_i t _
      cases he:sliceElem P t with
      | none=>rw [he] at h;cases h
      | some es=>rw [he] at h;simp only [Option.map_some] at h;injection h with h;injection h with h1 h2;exact ⟨h2.symm,fun G=>by simp [← h1]⟩))
  all_goals (simp [cls] at hc)
 all_goals first | (simp [cls] at hc;done) | (simp only [aexec] at h;cases h)
def Sub (G H:Heap):Prop:=∀ (b:Nat) x,G[b]?=some x→H[b]?=some x
theorem Sub.cell {G H:Heap} (h:Sub G H) {b o:Nat} {v:Value} (hc:G.cell b o=some v):H.cell b o=some v:=by
 unfold Heap.cell at hc ⊢
 split at hc
 ·rename_i hb;rw [h _ _ hb];exact hc
 ·cases hc
theorem Sub.cellsAt {G H:Heap} (h:Sub G H) {b o n:Nat} {v:List Value} (hc:G.cellsAt b o n=some v):H.cellsAt b o n=some v:=by
 unfold Heap.cellsAt at hc ⊢
 split at hc
 ·rename_i hb;rw [h _ _ hb];exact hc
 ·cases hc
theorem qqc {s d:TypeId} {x:Value} (h:plain x=true):textA P s d x H=none:=by
 unfold textA
 cases x<;>first | rfl | cases h
theorem readA_sub {n:Nat} {x:Value} {cs:List Value} {G H:Heap} (hs:Sub G H) (hr:readA G n x=some cs):readA H n x=some cs:=by
 unfold readA at hr ⊢
 split at hr
 ·exact hr
 ·exact hs.cellsAt hr
 ·exact hr
 ·cases hr
theorem textA_sub {s d:TypeId} {x v:Value} {G H:Heap} (hs:Sub G H) (h:textA P s d x G=some v):textA P s d x H=some v:=by
 unfold textA at h ⊢
 split at h
 case h_2=>cases h
 split at h
 case h_2=>cases h
 split at h
 case h_2=>cases h
 rename_i he hr
 simp only [readA_sub hs hr,he]
 exact h
theorem qk6 {o:Oper} {v:Value} (h:plainA P a o=some v):∀ z∈o.op.operands.toList,plain (ev a z)=true:=by
 unfold plainA at h
 split at h
 ·rename_i hall;exact List.all_eq_true.1 hall
 ·cases h
theorem qi5 {o:Oper} (hc:cls o.op = .read) {v:Value} {G G':Heap} (h:aexec P a o G=some (v,G')) (hs:Sub G H):aexec P a o H=some (v,H):=by
 obtain ⟨dst,op,type,pos,after,guard⟩:=o
 cases op<;>first | (simp [cls] at hc;done) | skip
 case load t x =>
  simp only [aexec] at h ⊢
  obtain ⟨h1,h2⟩:=qc9 h
  have:loadA P t (ev a x) H=some v:=by
   unfold loadA at h1 ⊢
   split at h1
   ·split at h1
    ·split at h1
     ·split at h1
      ·rename_i hcs
       rw [hs.cellsAt hcs];exact h1
      ·cases h1
     ·cases h1
    ·exact hs.cell h1
    ·cases h1
   ·cases h1
  rw [this];rfl
 case lookup t x k ok =>
  simp only [aexec] at h ⊢
  obtain ⟨h1,h2⟩:=qc9 h
  have:lookupA P t (ev a x) (ev a k) ok H=some v:=by
   unfold lookupA at h1 ⊢
   split at h1
   ·split at h1
    ·split at h1
     ·rename_i hb
      rw [hs _ _ hb];exact h1
     ·cases h1
    ·cases h1
   ·cases h1
  rw [this];rfl
 case convert s d x =>
  simp only [aexec] at h ⊢
  split at h
  ·rename_i u hu
   injection h with h;injection h with h1 h2;subst h1
   rw [textA_sub hs hu]
  ·obtain ⟨h1,h2⟩:=qc9 h
   rw [qqc (qk6 h1 x (by simp [Op.operands])),h1]
   rfl
 case call c =>
  exfalso
  obtain ⟨callee,args,ts⟩:=c
  cases callee
  case builtin bi=>cases bi<;>simp [cls] at hc
  all_goals simp [cls] at hc
theorem qou {o:Oper} (hc:cls o.op = .read) {v:Value} {H':Heap} (h:aexec P a o H=some (v,H')):H'=H:=by
 have:=qi5 (H:=H) hc h (fun _ _ h=>h)
 rw [h] at this
 injection this with this
 injection this
end
end Go.Abs
namespace Go.Abs
def Makes (P:Program) (M:Mp) (G:Heap) (w:World) (s:Sem Next) (v:Value) (G':Heap):Prop :=
 ∃ B obj N v',G'=G++[B]∧B.owned=true∧s.run P w = .ok (.value v') { w with heap:=w.heap.push obj }∧(∀ M',Ext M M'→M' G.length=some ⟨w.heap.size,0,N⟩→VR M' v v') ∧
   ∀ (M':Mp) (w':World),Ext M M'→w'.heap[w.heap.size]?=some obj→BR M' w' ⟨w.heap.size,0,N⟩ B
section
variable {P:Program} {M:Mp} {G G':Heap} {w:World} {nt:Nat} {a:Fr} {tmps:Array Value}
theorem Makes.cells {s:Sem Value} {v v':Value} {el:TypeId} {cs:List Value} {C:Array Value} (hrun:s.run P w = .ok v' { w with heap:=w.heap.push (.cells C el) }) (hv:∀ M',Ext M M'→M' G.length=some ⟨w.heap.size,0,C.size⟩→VR M' v v')
  (hcs:∀ (i:Nat) (u:Value),cs[i]?=some u→∃ u',C[i]?=some u'∧SR M u u'):Makes P M G w (do pure (.value (← s))) v (G++[.cells G.length true cs]) :=
 ⟨_,_,C.size,v',rfl,rfl,by simp [hrun],hv,fun M' w' hM hw=>⟨C,el,(0,0),hw,rfl,fun _=>rfl,fun i u hu=>by
  obtain ⟨u',h1,h2⟩:=hcs i u hu
  exact ⟨u',by simpa using h1,h2.mono hM⟩⟩⟩
theorem qov {v v':Value} {cs:List Value} {el:TypeId} (hs:scal v=some cs) (hv:VR M v v'):Makes P M G w (do pure (.value (← Instr.box el v'))) (ptrA G.length 0) (G++[.cells G.length true cs]):=by
 obtain ⟨h1,_⟩:=qfd hs hv
 exact Makes.cells (C:=v'.cells) (el:=el) (v':=.pointer (some ⟨w.heap.size,0,none⟩)) (by simp [Instr.box,newVar,newRow,newObj,Sem.run]) (fun M' hM hl=>.a (.s (.ptr _ 0 _ hl))) (fun i u hu=>by simpa using h1.get i u hu)
theorem makes_bld {v:Value} {cs:List Value} {t:TypeId} (hs:scal v=some cs) (hv:VR M v v) (hb:bldZ cs=true):Makes P M G w (do pure (.value (← Instr.box t v))) (ptrA G.length 0) (G++[.bld t none 0]):=by
 obtain ⟨h1,_⟩:=qfd hs hv
 obtain rfl:=bldZ_eq hb
 have hc:=qoo h1
 exact ⟨_,.cells v.cells t,2,.pointer (some ⟨w.heap.size,0,none⟩),rfl,rfl,by simp [Instr.box,newVar,newRow,newObj,Sem.run],fun M' hM hl=>.a (.s (.ptr _ 0 _ hl)),fun M' w' hM hw=>⟨rfl,.pointer none,.slice none 0 0,by rw [hw,hc],.inl rfl,rfl,rfl⟩⟩
theorem qma {o:Oper} (hv:∀ z∈o.op.operands.toList,VR M (ev a z) (evC tmps z)) (hc:cls o.op = .all_) {v:Value} (h:aexec P a o G=some (v,G')):Makes P M G w (execOp (evC tmps) o) v G':=by
 obtain ⟨dst,op,type,pos,after,guard⟩:=o
 cases op<;>first | (simp [cls] at hc;done) | skip
 case alloc t =>
  simp only [aexec] at h
  split at h
  ·rename_i z hz
   split at h
   ·rename_i cs hcs
    injection h with h;injection h with h1 h2;subst h1;subst h2
    obtain ⟨hz1,hz2⟩:=qer hz w
    have hb:Makes P M G w (do pure (.value (← Instr.box t z))) (ptrA G.length 0) (G++[if bldZ cs then .bld t none 0 else .cells G.length true cs]):=by
     cases hb:bldZ cs
     ·exact qov (P:=P) (G:=G) (w:=w) (el:=t) hcs (.a (.of_const M hz2))
     ·exact makes_bld (P:=P) (G:=G) (w:=w) (t:=t) hcs (.a (.of_const M hz2)) hb
    obtain ⟨B,obj,N,v',q1,q2,q3,q4,q5⟩:=hb
    refine ⟨B,obj,N,v',q1,q2,?_,q4,q5⟩
    simp only [Instr.box,Sem.run_bind,Sem.run_pure] at q3
    simp only [execOp,Instr.alloc,Sem.run_bind,hz1,Result.andThen_ok,Sem.run_pure]
    exact q3
   ·cases h
  ·cases h
 case box t x =>
  simp only [aexec] at h
  split at h
  ·rename_i cs hcs
   injection h with h;injection h with h1 h2;subst h1;subst h2
   exact qov hcs (hv x (by simp [Op.operands]))
  ·cases h
 case buildSlice t len parts =>
  simp only [aexec] at h
  have hp:=partsOf (parts:=parts) fun p hp=>hv _ (by simp only [Op.operands,List.mem_toArray,Array.toList_map];simp;exact ⟨p.1,by simpa using hp⟩)
  unfold buildSliceA at h
  split at h
  ·rename_i e size he
   obtain ⟨hu,hs⟩:=qct he
   split at h
   ·rename_i hsz
    split at h
    ·rename_i zs hz
     split at h
     ·rename_i cells hc
      injection h with h
      injection h with h1 h2
      subst h1;subst h2
      obtain ⟨z,hz1,hz2,hz3,hz4⟩:=qgk (m:=M) hz (Nat.le_refl len)
      have hC:All2 (SR M) zs ((Array.range (len*size)).map (z.cells[· % z.cells.size]!)).toList :=
       .of_get (by simp [hz3]) fun i x y hx hy=>by
        obtain ⟨v',h1,h2⟩:=hz4 i x hx
        have hy':((Array.range (len*size)).map (z.cells[· % z.cells.size]!))[i]?=some y:=by rw [← Array.getElem?_toList];exact hy
        rw [h1] at hy'
        injection hy' with hy'
        rw [← hy'];exact h2
      obtain ⟨R,hR1,hr⟩:=qg6 hp hc hC
      have hlim:¬ (len*size > 2 ^ 24):=by unfold maxA at hsz;omega
      have h6:=qjm hc
      have h7:=hr.length
      simp only [Array.length_toList] at h7
      have hfit:0+0+len*size≤R.size:=by omega
      refine Makes.cells (C:=R) (el:=e) (v':=.slice (some ⟨w.heap.size,0,none⟩) len len) ?_ (fun M' hM hl=>?_) (fun i u hu=>?_)
      ·exact qlx hu hs hlim hz1 hR1
      ·exact .a (.s (.slice _ 0 len size len _ hl (Nat.le_refl _) hfit))
      ·simpa using hr.get i u hu
     ·cases h
    ·cases h
   ·cases h
  ·cases h
 case makeMap t r =>
  simp only [aexec] at h
  split at h
  ·rename_i k e hu
   split at h
   ·rename_i hc
    injection h with h;injection h with h1 h2;subst h1;subst h2
    refine ⟨.map [],.map #[] 0,0,.map (some w.heap.size),rfl,rfl,?_,fun M' hM hl=>.a (.s (.map _ _ hl)),fun M' w' hM hw=>⟨#[],0,hw,.nil,ql8⟩⟩
    cases r with
    | none=>simp [execOp,Instr.makeMap,newObj,Sem.run]
    | some x =>
      cases x with
      | const c =>
        cases c<;>first | (simp [constInt] at hc;done) | skip
        simp [execOp,Instr.makeMap,newObj,Sem.run,run_underlying hu,evC,asInt,asIntOf]
      | _=>simp [constInt] at hc
   ·cases h
  ·cases h
 case makeSlice t l c =>
  simp only [aexec] at h
  split at h
  ·rename_i e size bytes k n k' cc he hb hl hc'
   split at h
   ·rename_i hcond
    obtain ⟨h0,h1,h2,h3,h4⟩:=hcond
    split at h
    ·rename_i zs hz
     injection h with h;injection h with e1 e2;subst e1;subst e2
     obtain ⟨n',rfl⟩:=Int.eq_ofNat_of_zero_le h0
     obtain ⟨c',rfl⟩:=Int.eq_ofNat_of_zero_le (Int.le_trans h0 h1)
     rw [he] at hb
     simp only [Option.getD_some] at hb
     have hl':=hv l (by simp [Op.operands])
     have hcc:=hv c (by simp [Op.operands])
     rw [hl] at hl'
     rw [hc'] at hcc
     have hl2:=hl'.int_
     have hc2:=hcc.int_
     simp only [Int.toNat_natCast] at hz
     obtain ⟨z,hz1,hz2,hz3,hz4⟩:=qgk (m:=M) (c:=c') hz (by omega)
     have hrun:=qh9 (P:=P) (w:=w) (c:=c') he hb (by omega) (by omega) h4 hz1 hz2 (n:=n') k k'
     refine Makes.cells (s:=Instr.makeSlice t (evC tmps l) (evC tmps c)) (C:=(Array.range (c'*size)).map (z.cells[· % z.cells.size]!)) (el:=e) (by rw [hl2,hc2];exact hrun) (fun M' hM hl=>?_) hz4
     simp only [Int.toNat_natCast]
     exact .a (.s (.slice _ 0 n' size c' _ hl (by omega) (by simp)))
    ·cases h
   ·cases h
  ·cases h
 case call c =>
  exfalso
  obtain ⟨callee,args,ts⟩:=c
  cases callee
  case builtin bi=>cases bi<;>simp [cls] at hc
  all_goals simp [cls] at hc
end
end Go.Abs
namespace Go.Abs
section
variable (P:Program) (call:CallF) (ops:Array Oper) (a:Fr) (H:Heap)
def dStep (j:Nat) (s:Fr×Heap):Value×(Fr×Heap) :=
 match ops[j]? with
 | none=>(undef,s)
 | some o =>
   if Region.wanted o (yieldedA ops s.1) then
    match cls o.op with
    | .eff=>match stepA P call s.1 o s.2 with
      | some (v,H')=>(v,putA s.1 o.dst v,H')
      | none=>(undef,s)
    | .all_=>match aexec P s.1 o s.2 with
      | some (v,H')=>(v,putA s.1 o.dst v,H')
      | none=>(undef,s)
    | _=>match aexec P s.1 o s.2 with
      | some (v,_)=>(v,putA s.1 o.dst v,s.2)
      | none=>(undef,s)
   else (undef,putA s.1 o.dst undef,s.2)
def tr:Nat→Fr×Heap
 | 0=>(a,H)
 | j+1=>(dStep P call ops j (tr j)).2
def trA (j:Nat):Fr:=(tr P call ops a H j).1
def trH (j:Nat):Heap:=(tr P call ops a H j).2
def trV (j:Nat):Value:=(dStep P call ops j (tr P call ops a H j)).1
def opAt (j:Nat):Oper:=ops.getD j default
def trW (j:Nat):Bool:=Region.wanted (opAt ops j) (yieldedA ops (trA P call ops a H j))
def isE (j:Nat):Prop:=trW P call ops a H j=true∧cls (opAt ops j).op = .eff
instance (j:Nat):Decidable (isE P call ops a H j):=by unfold isE;infer_instance
def trS:Nat→List (Option Nat×Heap)
 | 0=>[(none,H)]
 | j+1=>if isE P call ops a H j then (some j,trH P call ops a H (j+1))::trS j else trS j
def trP (bef:Array Nat):Nat→Pend
 | 0=>[]
 | j+1=>if isE P call ops a H j then (trP bef j).filter (fun p=>!(bef.getD j 0).testBit p.1)
   else if trW P call ops a H j=true∧cls (opAt ops j).op = .read then (j,trA P call ops a H j,opAt ops j,trV P call ops a H j)::trP bef j
   else trP bef j
structure StepOk (bef:Array Nat) (j:Nat):Prop where
 eff:isE P call ops a H j→stepA P call (trA P call ops a H j) (opAt ops j) (trH P call ops a H j)=some (trV P call ops a H j,trH P call ops a H (j+1)) ∧
  ∀ p∈trP P call ops a H bef (j+1),stillReads P (trH P call ops a H (j+1)) p.2.1 p.2.2.1 p.2.2.2=true
 alloc:trW P call ops a H j=true→cls (opAt ops j).op = .all_→aexec P (trA P call ops a H j) (opAt ops j) (trH P call ops a H j)=some (trV P call ops a H j,trH P call ops a H (j+1))
 read:trW P call ops a H j=true→cls (opAt ops j).op = .read→∀ G∈window (bef.getD j 0) (trS P call ops a H j),stillReads P G (trA P call ops a H j) (opAt ops j) (trV P call ops a H j)=true
 quiet:trW P call ops a H j=true→cls (opAt ops j).op = .pure_∨cls (opAt ops j).op = .read→∃ G,aexec P (trA P call ops a H j) (opAt ops j) (trH P call ops a H j)=some (trV P call ops a H j,G)
 still:¬ isE P call ops a H j→¬ (trW P call ops a H j=true∧cls (opAt ops j).op = .all_)→trH P call ops a H (j+1)=trH P call ops a H j
 not:trW P call ops a H j=false→trV P call ops a H j=undef
 next:trA P call ops a H (j+1)=putA (trA P call ops a H j) (opAt ops j).dst (trV P call ops a H j)
variable {P call ops a H}
theorem qg7 {j:Nat} (hj:j < ops.size):ops[j]?=some (opAt ops j):=by
 rw [Array.getElem?_eq_getElem hj];simp [opAt,Array.getD,hj]
theorem trace {bef:Array Nat} {a':Fr} {H':Heap}:∀ (k i:Nat),i+k=ops.size→evDraw P call ops bef (List.range' i k) (trA P call ops a H i) (trH P call ops a H i) (trS P call ops a H i) (trP P call ops a H bef i)=some (a',H') →
  (trA P call ops a H ops.size=a'∧trH P call ops a H ops.size=H')∧∀ j,i≤j→j < ops.size→StepOk P call ops a H bef j:=by
 intro k
 induction k with
 | zero =>
   intro i hi h
   simp only [List.range'_zero,evDraw] at h
   injection h with h
   injection h with h1 h2
   obtain rfl:i=ops.size:=by omega
   exact ⟨⟨h1,h2⟩,fun j h1 h2=>by omega⟩
 | succ k ih =>
   intro i hi h
   have hlt:i < ops.size:=by omega
   have hget:=qg7 (ops:=ops) hlt
   rw [List.range'_succ] at h
   simp only [evDraw,hget] at h
   have hd:dStep P call ops i (tr P call ops a H i)=(trV P call ops a H i,(trA P call ops a H (i+1),trH P call ops a H (i+1))):=rfl
   have hd0:=hd
   unfold dStep at hd
   rw [hget] at hd
   simp only at hd
   have hwd:Region.wanted (opAt ops i) (yieldedA ops (tr P call ops a H i).1)=trW P call ops a H i:=rfl
   have hA:(tr P call ops a H i).1=trA P call ops a H i:=rfl
   have hH:(tr P call ops a H i).2=trH P call ops a H i:=rfl
   rw [hwd] at hd
   rw [hA,hH] at hd
   have hwd':Region.wanted (opAt ops i) (yieldedA ops (trA P call ops a H i))=trW P call ops a H i:=rfl
   rw [hwd'] at h
   have finish:∀ (hS:trS P call ops a H (i+1)=trS P call ops a H (i+1)),StepOk P call ops a H bef i→evDraw P call ops bef (List.range' (i+1) k) (trA P call ops a H (i+1)) (trH P call ops a H (i+1)) (trS P call ops a H (i+1)) (trP P call ops a H bef (i+1))=some (a',H') →
     (trA P call ops a H ops.size=a'∧trH P call ops a H ops.size=H')∧∀ j,i≤j→j < ops.size→StepOk P call ops a H bef j:=by
    intro _ hok hrest
    obtain ⟨h1,h2⟩:=ih (i+1) (by omega) hrest
    refine ⟨h1,fun j hj1 hj2=>?_⟩
    rcases Nat.eq_or_lt_of_le hj1 with e | e
    ·rw [← e];exact hok
    ·exact h2 j e hj2
   cases hw:trW P call ops a H i with
   | false =>
     rw [hw] at h hd
     simp only [Bool.false_eq_true,if_false] at h hd
     injection hd with hd1 hd2
     injection hd2 with hd2 hd3
     have hnE:¬ isE P call ops a H i:=fun e=>by have e1:=e.1;rw [hw] at e1;cases e1
     have hSn:trS P call ops a H (i+1)=trS P call ops a H i:=by simp only [trS];rw [if_neg hnE]
     have hPn:trP P call ops a H bef (i+1)=trP P call ops a H bef i:=by simp only [trP];rw [if_neg hnE,if_neg (fun e=>by rw [hw] at e;cases e.1)]
     refine finish rfl ⟨fun e=>absurd e hnE,fun e=>?_,fun e=>?_,fun e=>?_,fun _ _=>hd3.symm,fun _=>hd1.symm,by rw [← hd2,← hd1]⟩ ?_
     ·rw [hw] at e;cases e
     ·rw [hw] at e;cases e
     ·rw [hw] at e;cases e
     ·rw [hSn,hPn,← hd2,← hd3];exact h
   | true =>
     rw [hw] at h hd
     simp only [if_true] at h hd
     cases hc:cls (opAt ops i).op with
     | eff =>
       have hE:isE P call ops a H i:=⟨hw,hc⟩
       rw [hc] at h hd
       simp only at h hd
       cases hs:stepA P call (trA P call ops a H i) (opAt ops i) (trH P call ops a H i) with
       | none=>rw [hs] at h;cases h
       | some r =>
         obtain ⟨v,H1⟩:=r
         rw [hs] at h hd
         simp only at h hd
         injection hd with hd1 hd2
         injection hd2 with hd2 hd3
         have hSn:trS P call ops a H (i+1)=(some i,trH P call ops a H (i+1))::trS P call ops a H i:=by simp only [trS];rw [if_pos hE]
         have hPn:trP P call ops a H bef (i+1)=(trP P call ops a H bef i).filter (fun p=>!(bef.getD i 0).testBit p.1):=by simp only [trP];rw [if_pos hE]
         split at h
         ·rename_i hall
          refine finish rfl ⟨fun _=>⟨by rw [← hd1,← hd3];exact hs,fun p hp=>?_⟩,fun _ e=>?_,fun _ e=>?_,fun _ e=>?_,fun e=>absurd hE e,fun e=>?_,by rw [← hd2,← hd1]⟩ ?_
          ·rw [hPn] at hp
           rw [← hd3]
           exact List.all_eq_true.1 hall p hp
          ·rw [hc] at e;cases e
          ·rw [hc] at e;cases e
          ·rw [hc] at e;rcases e with e | e<;>cases e
          ·rw [hw] at e;cases e
          ·rw [hSn,hPn,← hd2,← hd3];exact h
         ·cases h
     | all_ =>
       have hnE:¬ isE P call ops a H i:=fun e=>by have e2:=e.2;rw [hc] at e2;cases e2
       rw [hc] at h hd
       simp only at h hd
       cases hs:aexec P (trA P call ops a H i) (opAt ops i) (trH P call ops a H i) with
       | none=>rw [hs] at h;cases h
       | some r =>
         obtain ⟨v,H1⟩:=r
         rw [hs] at h hd
         simp only at h hd
         injection hd with hd1 hd2
         injection hd2 with hd2 hd3
         have hSn:trS P call ops a H (i+1)=trS P call ops a H i:=by simp only [trS];rw [if_neg hnE]
         have hPn:trP P call ops a H bef (i+1)=trP P call ops a H bef i:=by simp only [trP];rw [if_neg hnE,if_neg (fun e=>by have e2:=e.2;rw [hc] at e2;cases e2)]
         refine finish rfl ⟨fun e=>absurd e hnE,fun _ _=>by rw [← hd1,← hd3];exact hs,fun _ e=>?_,fun _ e=>?_,fun _ e=>absurd ⟨hw,hc⟩ e,fun e=>?_,by rw [← hd2,← hd1]⟩ ?_
         ·rw [hc] at e;cases e
         ·rw [hc] at e;rcases e with e | e<;>cases e
         ·rw [hw] at e;cases e
         ·rw [hSn,hPn,← hd2,← hd3];exact h
     | read =>
       have hnE:¬ isE P call ops a H i:=fun e=>by have e2:=e.2;rw [hc] at e2;cases e2
       rw [hc] at h hd
       simp only at h hd
       cases hs:aexec P (trA P call ops a H i) (opAt ops i) (trH P call ops a H i) with
       | none=>rw [hs] at h;cases h
       | some r =>
         obtain ⟨v,H1⟩:=r
         rw [hs] at h hd
         simp only at h hd
         injection hd with hd1 hd2
         injection hd2 with hd2 hd3
         have hSn:trS P call ops a H (i+1)=trS P call ops a H i:=by simp only [trS];rw [if_neg hnE]
         have hPn:trP P call ops a H bef (i+1)=(i,trA P call ops a H i,opAt ops i,trV P call ops a H i)::trP P call ops a H bef i:=by simp only [trP];rw [if_neg hnE,if_pos ⟨hw,hc⟩]
         split at h
         ·rename_i hall
          refine finish rfl ⟨fun e=>absurd e hnE,fun _ e=>?_,fun _ _ G hG=>?_,fun _ _=>⟨H1,by rw [← hd1];exact hs⟩,fun _ _=>hd3.symm,fun e=>?_,by rw [← hd2,← hd1]⟩ ?_
          ·rw [hc] at e;cases e
          ·rw [← hd1];exact List.all_eq_true.1 hall G hG
          ·rw [hw] at e;cases e
          ·rw [hSn,hPn,← hd2,← hd3,← hd1];exact h
         ·cases h
     | pure_ =>
       have hnE:¬ isE P call ops a H i:=fun e=>by have e2:=e.2;rw [hc] at e2;cases e2
       rw [hc] at h hd
       simp only at h hd
       cases hs:aexec P (trA P call ops a H i) (opAt ops i) (trH P call ops a H i) with
       | none=>rw [hs] at h;cases h
       | some r =>
         obtain ⟨v,H1⟩:=r
         rw [hs] at h hd
         simp only at h hd
         injection hd with hd1 hd2
         injection hd2 with hd2 hd3
         have hSn:trS P call ops a H (i+1)=trS P call ops a H i:=by simp only [trS];rw [if_neg hnE]
         have hPn:trP P call ops a H bef (i+1)=trP P call ops a H bef i:=by simp only [trP];rw [if_neg hnE,if_neg (fun e=>by have e2:=e.2;rw [hc] at e2;cases e2)]
         refine finish rfl ⟨fun e=>absurd e hnE,fun _ e=>?_,fun _ e=>?_,fun _ _=>⟨H1,by rw [← hd1];exact hs⟩,fun _ _=>hd3.symm,fun e=>?_,by rw [← hd2,← hd1]⟩ ?_
         ·rw [hc] at e;cases e
         ·rw [hc] at e;cases e
         ·rw [hw] at e;cases e
         ·rw [hSn,hPn,← hd2,← hd3];exact h
theorem win (m:Nat):∀ j,(∀ e,e < j→isE P call ops a H e→(∀ e',e < e'→e' < j→isE P call ops a H e'→m.testBit e'=false)→trH P call ops a H (e+1)∈window m (trS P call ops a H j)) ∧
  ((∀ e',e' < j→isE P call ops a H e'→m.testBit e'=false)→H∈window m (trS P call ops a H j)):=by
 intro j
 induction j with
 | zero=>exact ⟨fun e he=>by omega,fun _=>by simp [trS,window]⟩
 | succ j ih =>
   by_cases hE:isE P call ops a H j
   ·have hS:trS P call ops a H (j+1)=(some j,trH P call ops a H (j+1))::trS P call ops a H j:=by simp only [trS];rw [if_pos hE]
    rw [hS]
    refine ⟨fun e he hEe hno=>?_,fun hno=>?_⟩
    ·rcases Nat.eq_or_lt_of_le (Nat.le_of_lt_succ he) with e1 | e1
     ·subst e1
      simp only [window]
      split<;>simp
     ·have:=hno j e1 (by omega) hE
      simp only [window,this,Bool.false_eq_true,if_false]
      exact List.mem_cons_of_mem _ (ih.1 e e1 hEe fun e' h1 h2 h3=>hno e' h1 (by omega) h3)
    ·have:=hno j (by omega) hE
     simp only [window,this,Bool.false_eq_true,if_false]
     exact List.mem_cons_of_mem _ (ih.2 fun e' h1 h2=>hno e' (by omega) h2)
   ·have hS:trS P call ops a H (j+1)=trS P call ops a H j:=by simp only [trS];rw [if_neg hE]
    rw [hS]
    refine ⟨fun e he hEe hno=>?_,fun hno=>?_⟩
    ·rcases Nat.eq_or_lt_of_le (Nat.le_of_lt_succ he) with e1 | e1
     ·subst e1;exact absurd hEe hE
     ·exact ih.1 e e1 hEe fun e' h1 h2 h3=>hno e' h1 (by omega) h3
    ·exact ih.2 fun e' h1 h2=>hno e' (by omega) h2
theorem pnd (bef:Array Nat) {x:Nat} (hW:trW P call ops a H x=true) (hc:cls (opAt ops x).op = .read):∀ j,x < j→(∀ e,x < e→e < j→isE P call ops a H e→(bef.getD e 0).testBit x=false)→(x,trA P call ops a H x,opAt ops x,trV P call ops a H x)∈trP P call ops a H bef j:=by
 intro j
 induction j with
 | zero=>intro h;omega
 | succ j ih =>
   intro hx hno
   simp only [trP]
   rcases Nat.eq_or_lt_of_le (Nat.le_of_lt_succ hx) with e1 | e1
   ·subst e1
    rw [if_neg (fun e=>by have e2:=e.2;rw [hc] at e2;cases e2),if_pos ⟨hW,hc⟩]
    exact List.mem_cons_self ..
   ·have:=ih e1 fun e h1 h2 h3=>hno e h1 (by omega) h3
    split
    ·rename_i hE
     exact List.mem_filter.2 ⟨this,by rw [hno j e1 (by omega) hE];rfl⟩
    ·split
     ·exact List.mem_cons_of_mem _ this
     ·exact this
theorem stable {bef:Array Nat} (hok:∀ j,j < ops.size→StepOk P call ops a H bef j) {x c:Nat} (hx:x < ops.size) (hW:trW P call ops a H x=true) (hc:cls (opAt ops x).op = .read) (hcn:c≤ops.size) (hbd:c=0∨∃ e,c=e+1∧isE P call ops a H e)
  (h1:∀ e,e < ops.size→isE P call ops a H e→c≤e→(bef.getD x 0).testBit e=false) (h2:∀ e,e < c→isE P call ops a H e→(bef.getD e 0).testBit x=false) :
  ∃ G,aexec P (trA P call ops a H x) (opAt ops x) (trH P call ops a H c)=some (trV P call ops a H x,G):=by
 have key:stillReads P (trH P call ops a H c) (trA P call ops a H x) (opAt ops x) (trV P call ops a H x)=true:=by
  rcases Nat.lt_or_ge x c with hxc | hxc
  ·rcases hbd with e | ⟨e,rfl,hE⟩
   ·omega
   ·have hne:e≠x:=fun h=>by have e2:=hE.2;rw [h,hc] at e2;cases e2
    exact ((hok e (by omega)).eff hE).2 _ (pnd bef hW hc (e+1) (by omega) fun e' q1 q2 q3=>h2 e' q2 q3)
  ·refine (hok x hx).read hW hc _ ?_
   rcases hbd with rfl | ⟨e,rfl,hE⟩
   ·exact (win _ x).2 fun e' q1 q2=>h1 e' (by omega) q2 (by omega)
   ·exact (win _ x).1 e (by omega) hE fun e' q1 q2 q3=>h1 e' (by omega) q3 (by omega)
 unfold stillReads at key
 split at key
 ·rename_i v' G hs
  exact ⟨G,by rw [hs,vEq_sound key]⟩
 ·cases key
end
end Go.Abs
namespace Go.Abs
section
variable {P:Program} {call:CallF} {a:Fr} {H:Heap}
def CallGrow (call:CallF):Prop:=∀ fv args H v H',call fv args H=some (v,H')→H.length≤H'.length
theorem qow {b o:Nat} {vs:List Value} {H':Heap} (h:H.write b o vs=some H'):H'.length=H.length:=by
 unfold Heap.write at h
 split at h
 ·split at h
  ·injection h with h;subst h;simp
  ·cases h
 ·cases h
theorem qk7 {P:Program} {t:TypeId} {s x v:Value} {H H':Heap} (h:appendA P t s x H=some (v,H')):H.length≤H'.length:=by
 unfold appendA at h
 split at h
 ·split at h
  ·split at h
   ·split at h
    ·split at h
     ·injection h with h;injection h with h1 h2;subst h2;exact Nat.le_refl _
     ·cases h
    ·split at h
     ·split at h
      ·injection h with h;injection h with h1 h2;subst h2;simp
      ·cases h
     ·split at h
      ·split at h
       ·injection h with h;injection h with h1 h2;subst h2;simp
       ·cases h
      ·cases h
     ·cases h
   ·cases h
  ·cases h
 ·cases h
theorem qqd {s x v:Value} {H H':Heap} (h:rebaseA s x H=some (v,H')):H.length≤H'.length:=by
 unfold rebaseA at h
 split at h
 case h_2=>cases h
 split at h
 case h_2=>cases h
 split at h
 case h_2=>cases h
 split at h
 case isFalse=>cases h
 injection h with h;injection h with h1 h2;subst h2;simp
theorem qqe {P:Program} {t:TypeId} {s x v:Value} {H H':Heap} (h:appendX P t s x H=some (v,H')):H.length≤H'.length:=by
 unfold appendX at h
 split at h
 ·rename_i hr
  exact Nat.le_trans (qqd hr) (qk7 h)
 ·exact qk7 h
theorem qi6 {o:Oper} {v:Value} {H':Heap} (h:aexec P a o H=some (v,H')):H.length≤H'.length:=by
 cases hc:cls o.op with
 | pure_=>obtain ⟨rfl,_⟩:=qfu hc h;exact Nat.le_refl _
 | read=>have:=qou hc h;subst this;exact Nat.le_refl _
 | all_ =>
   obtain ⟨dst,op,type,pos,after,guard⟩:=o
   cases op<;>first | (simp [cls] at hc;done) | skip
   case alloc t =>
    simp only [aexec] at h
    split at h
    ·split at h
     ·injection h with h;injection h with h1 h2;subst h2;simp
     ·cases h
    ·cases h
   case box t x =>
    simp only [aexec] at h
    split at h
    ·injection h with h;injection h with h1 h2;subst h2;simp
    ·cases h
   case buildSlice t len parts =>
    simp only [aexec,buildSliceA] at h
    split at h
    ·split at h
     ·split at h
      ·split at h
       ·injection h with h;injection h with h1 h2;subst h2;simp
       ·cases h
      ·cases h
     ·cases h
    ·cases h
   case makeMap t r =>
    simp only [aexec] at h
    split at h
    ·split at h
     ·injection h with h;injection h with h1 h2;subst h2;simp
     ·cases h
    ·cases h
   case makeSlice t l c =>
    simp only [aexec] at h
    split at h
    ·split at h
     ·split at h
      ·injection h with h;injection h with h1 h2;subst h2;simp
      ·cases h
     ·cases h
    ·cases h
   case call c =>
    exfalso
    obtain ⟨callee,args,ts⟩:=c
    cases callee
    case builtin bi=>cases bi<;>simp [cls] at hc
    all_goals simp [cls] at hc
 | eff =>
   obtain ⟨dst,op,type,pos,after,guard⟩:=o
   cases op<;>first | (simp [cls] at hc;done) | skip
   case store t x y =>
    simp only [aexec] at h
    cases hb:storeA P t (ev a x) (ev a y) H with
    | none=>rw [hb] at h;cases h
    | some H1 =>
      rw [hb] at h
      simp only [Option.map_some] at h
      injection h with h;injection h with h1 h2;subst h2
      unfold storeA at hb
      split at hb
      ·split at hb
       ·exact Nat.le_of_eq (qow hb).symm
       ·cases hb
      ·cases hb
   case mapUpdate t x k v =>
    simp only [aexec] at h
    cases hb:mapUpdateA P t (ev a x) (ev a k) (ev a v) H with
    | none=>rw [hb] at h;cases h
    | some H1 =>
      rw [hb] at h
      simp only [Option.map_some] at h
      injection h with h;injection h with h1 h2;subst h2
      unfold mapUpdateA at hb
      split at hb
      ·split at hb
       ·split at hb
        ·split at hb
         ·injection hb with hb;subst hb;simp
         ·cases hb
        ·cases hb
       ·cases hb
      ·cases hb
   case insert t x k v =>
    simp only [aexec] at h
    cases hb:mapUpdateA P t (ev a x) (ev a k) (ev a v) H with
    | none=>rw [hb] at h;cases h
    | some H1 =>
      rw [hb] at h
      simp only [Option.map_some] at h
      injection h with h;injection h with h1 h2;subst h2
      unfold mapUpdateA at hb
      split at hb
      ·split at hb
       ·split at hb
        ·split at hb
         ·injection hb with hb;subst hb;simp
         ·cases hb
        ·cases hb
       ·cases hb
      ·cases hb
   case call c =>
    obtain ⟨callee,args,ts⟩:=c
    cases callee
    case builtin bi =>
     simp only [aexec] at h
     unfold builtinA at h
     split at h
     ·obtain ⟨_,h2⟩:=qc9 h;subst h2;exact Nat.le_refl _
     ·split at h
      ·exact qqe h
      ·unfold appendIntA at h
       split at h
       ·split at h
        ·split at h
         ·injection h with h;injection h with h1 h2;subst h2;simp
         ·cases h
        ·cases h
       ·cases h
     ·unfold copyA at h
      split at h
      ·split at h
       ·injection h with h;injection h with h1 h2;subst h2;exact Nat.le_refl _
       ·split at h
        ·split at h
         ·rename_i hw
          injection h with h;injection h with h1 h2;subst h2
          exact Nat.le_of_eq (qow hw).symm
         ·cases h
        ·cases h
      ·cases h
     ·rename_i t _ _
      cases he:sliceElem P t with
      | none=>rw [he] at h;cases h
      | some es=>rw [he] at h;simp only [Option.map_some] at h;injection h with h;injection h with h1 h2;subst h2;exact Nat.le_refl _
     ·obtain ⟨_,h2⟩:=qc9 h;subst h2;exact Nat.le_refl _
     ·obtain ⟨_,h2⟩:=qc9 h;subst h2;exact Nat.le_refl _
     ·cases h
    all_goals (simp only [aexec] at h;cases h)
variable (hg:CallGrow call)
include hg
theorem qi7 {o:Oper} {v:Value} {H':Heap} (h:stepA P call a o H=some (v,H')):H.length≤H'.length:=by
 unfold stepA at h
 split at h
 ·exact hg _ _ _ _ _ h
 ·exact qi6 h
theorem evOps_grow {ops:Array Oper}:∀ {l:List Oper} {a a':Fr} {H H':Heap},evOps P call ops l a H=some (a',H')→H.length≤H'.length:=by
 intro l
 induction l with
 | nil=>intro a a' H H' h;simp only [evOps] at h;injection h with h;injection h with h1 h2;subst h2;exact Nat.le_refl _
 | cons o l ih =>
   intro a a' H H' h
   simp only [evOps] at h
   split at h
   ·split at h
    ·rename_i hs;exact Nat.le_trans (qi7 hg hs) (ih h)
    ·cases h
   ·exact ih h
theorem qqf {ops:Array Oper} {bef:Array Nat}:∀ {l:List Nat} {a a':Fr} {H H':Heap} {st:List (Option Nat×Heap)} {pd:Pend},evDraw P call ops bef l a H st pd=some (a',H')→H.length≤H'.length:=by
 intro l
 induction l with
 | nil=>intro a a' H H' st pd h;simp only [evDraw] at h;injection h with h;injection h with h1 h2;subst h2;exact Nat.le_refl _
 | cons j l ih =>
   intro a a' H H' st pd h
   simp only [evDraw] at h
   split at h
   ·cases h
   ·split at h
    ·split at h
     ·split at h
      ·rename_i hs
       split at h
       ·exact Nat.le_trans (qi7 hg hs) (ih h)
       ·cases h
      ·cases h
     ·split at h
      ·rename_i hs;exact Nat.le_trans (qi6 hs) (ih h)
      ·cases h
     ·split at h
      ·split at h
       ·exact ih h
       ·cases h
      ·cases h
     ·split at h
      ·exact ih h
      ·cases h
    ·exact ih h
omit hg in
theorem loopN_grow {f:Fr→Heap→Option (X×Fr×Heap)} (hf:∀ a H x a' H',f a H=some (x,a',H')→H.length≤H'.length):∀ n {a a':Fr} {H H':Heap} {x:X},loopN f n a H=some (x,a',H')→H.length≤H'.length:=by
 intro n
 induction n with
 | zero=>intro a a' H H' x h;simp [loopN] at h
 | succ n ih =>
   intro a a' H H' x h
   rw [loopN] at h
   split at h
   ·rename_i h1;exact Nat.le_trans (hf _ _ _ _ _ h1) (ih h)
   ·exact hf _ _ _ _ _ h
theorem qen {k nt:Nat} {rd:Option Nat}:∀ {c:Code} {a a':Fr} {H H':Heap} {x:X},evCode P call k nt rd c a H=some (x,a',H')→H.length≤H'.length:=by
 intro c
 induction c with
 | region id ops draw =>
   intro a a' H H' x h
   cases draw with
   | false =>
     simp only [evCode] at h
     split at h
     ·rename_i h1;injection h with h;injection h with h2 h3;injection h3 with h3 h4;subst h4;exact evOps_grow hg h1
     ·cases h
   | true =>
     simp only [evCode] at h
     split at h
     ·rename_i h1;injection h with h;injection h with h2 h3;injection h3 with h3 h4;subst h4;exact qqf hg h1
     ·cases h
 | seq c d ihc ihd =>
   intro a a' H H' x h
   simp only [evCode] at h
   split at h
   ·rename_i h1;exact Nat.le_trans (ihc h1) (ihd h)
   ·exact ihc h
 | cond c x y ihx ihy =>
   intro a a' H H' x h
   simp only [evCode] at h
   split at h
   ·exact ihx h
   ·exact ihy h
   ·cases h
 | block id c ih =>
   intro a a' H H' x h
   simp only [evCode] at h
   split at h
   ·rename_i h1
    split at h
    ·injection h with h;injection h with h2 h3;injection h3 with h3 h4;subst h4;exact ih h1
    ·injection h with h;injection h with h2 h3;injection h3 with h3 h4;subst h4;exact ih h1
   ·exact ih h
 | loop c ih =>
   intro a a' H H' x h
   simp only [evCode] at h
   exact loopN_grow (fun _ _ _ _ _ h=>ih h) k h
 | rangeFunc f params assign body _ _ =>
   intro a a' H H' x h
   simp only [evCode] at h
   split at h
   ·split at h
    ·rename_i hc
     split at h
     ·split at h
      ·cases h
      ·split at h
       ·injection h with h;injection h with h2 h3;injection h3 with h3 h4;subst h4
        have:=hg _ _ _ _ _ hc
        simp at this ⊢
        omega
       ·cases h
     ·cases h
    ·cases h
   ·cases h
 | scope c _=>intro a a' H H' x h;simp [evCode] at h
 | goto l=>intro a a' H H' x h;simp [evCode] at h
 | refuse s=>intro a a' H H' x h;simp [evCode] at h
 | _=>intro a a' H H' x h;simp only [evCode] at h;injection h with h;injection h with h2 h3;injection h3 with h3 h4;subst h4;exact Nat.le_refl _
end
end Go.Abs
namespace Go.Abs
def rst (M:Mp) (k:Nat):Mp:=fun b=>if b < k then M b else none
theorem qdh {M:Mp} {k b:Nat} {l:Loc}:rst M k b=some l↔b < k∧M b=some l:=by
 unfold rst;split
 ·simp [*]
 ·simp;omega
theorem qdc {M M':Mp} (h:Ext M M') {k k':Nat} (hk:k≤k'):Ext (rst M k) (rst M' k'):=fun b l hb=>by
 rw [qdh] at hb ⊢;exact ⟨by omega,h _ _ hb.2⟩
theorem qr1 {M:Mp} {k:Nat} (h:∀ b l,M b=some l→b < k):rst M k=M:=by
 funext b;unfold rst;split
 ·rfl
 ·cases hb:M b with
  | none=>rfl
  | some l=>exact absurd (h b l hb) (by assumption)
theorem Rel.dead {m:Mp} {G:Heap} {w:World} (h:Rel m G w) (j:Nat):Rel m (G++List.replicate j .dead) w:=by
 have old:∀ (b:Nat) x,b < G.length→(G++List.replicate j Blk.dead)[b]?=some x→G[b]?=some x:=fun b x hb hx=>by
  rwa [List.getElem?_append_left hb] at hx
 refine ⟨fun b l hb=>by have:=h.len b l hb;simp;omega,fun b x hx hlv=>?_,h.bnd,fun b x l hx hl=>h.blk b x l (old b x (h.len b l hl) hx) hl,
  fun b c x y l k hbc hx hy hl hk=>h.sep b c x y l k hbc (old b x (h.len b l hl) hx) (old c y (h.len c k hk) hy) hl hk⟩
 rcases Nat.lt_or_ge b G.length with hlt | hge
 ·exact h.has b x (old b x hlt hx) hlv
 ·rw [List.getElem?_append_right hge] at hx
  have:=List.mem_of_getElem? hx
  rw [List.mem_replicate] at this
  rw [this.2] at hlv
  cases hlv
theorem Sim.dead {m0 m:Mp} {H0 G:Heap} {w0 w:World} (h:Sim m0 H0 w0 m G w) (j:Nat):Sim m0 H0 w0 m (G++List.replicate j .dead) w where
 ext:=h.ext
 rel:=h.rel.dead j
 keep:=h.keep
 fresh:=fun g ⟨b,x,l,h1,h2,h3,h4⟩=>h.fresh g ⟨b,x,l,by rwa [List.getElem?_append_left (h.rel.len b l h2)] at h1,h2,h3,h4⟩
 grow:=by have:=h.grow;simp;omega
 img:=h.img
theorem Sim.snoc {m0 M:Mp} {H0 G:Heap} {w0 w:World} {B:Blk} {l:Loc} (h:Sim m0 H0 w0 (rst M G.length) G w) (hl:M G.length=some l) (hbr:BR (rst M (G.length+1)) w l B) (ho:B.owned=true) (hlt:l.g < w.heap.size)
  (hge:w0.heap.size≤l.g) (hap:∀ b k,b≠G.length→M b=some k→k.g≠l.g):Sim m0 H0 w0 (rst M (G.length+1)) (G++[B]) w:=by
 have hE:Ext (rst M G.length) (rst M (G.length+1)):=qdc (.refl M) (by omega)
 have cases_:∀ b k,rst M (G.length+1) b=some k→(b < G.length∧rst M G.length b=some k)∨(b=G.length∧k=l):=fun b k hb=>by
  rw [qdh] at hb
  rcases Nat.lt_or_ge b G.length with h1 | h1
  ·exact .inl ⟨h1,qdh.2 ⟨h1,hb.2⟩⟩
  ·obtain rfl:b=G.length:=by omega
   rw [hl] at hb
   exact .inr ⟨rfl,by injection hb.2 with e;exact e.symm⟩
 have at_:∀ (b:Nat) x,b < G.length→(G++[B])[b]?=some x→G[b]?=some x:=fun b x hb hx=>by rwa [List.getElem?_append_left hb] at hx
 have last:∀ x,(G++[B])[G.length]?=some x→x=B:=fun x hx=>by
  rw [List.getElem?_append_right (Nat.le_refl _)] at hx;simp at hx;exact hx.symm
 refine ⟨h.ext.trans hE,⟨fun b k hb=>by rw [qdh] at hb;simp;exact hb.1,fun b x hx hlv=>?_,fun b k hb=>?_,fun b x k hx hk=>?_,fun b c x y k j hbc hx hy hk hj hox hlv hg=>?_⟩,h.keep,fun g ⟨b,x,k,h1,h2,h3,h4⟩=>?_,by have:=h.grow;simp;omega,fun b k hb=>?_⟩
 ·rcases Nat.lt_or_ge b G.length with hlt' | hge'
  ·obtain ⟨k,hk⟩:=h.rel.has b x (at_ b x hlt' hx) hlv
   exact ⟨k,hE _ _ hk⟩
  ·have:=qa9 hx
   simp at this
   obtain rfl:b=G.length:=by omega
   exact ⟨l,qdh.2 ⟨by omega,hl⟩⟩
 ·rcases cases_ b k hb with ⟨_,h1⟩ | ⟨_,rfl⟩
  ·exact h.rel.bnd b k h1
  ·exact hlt
 ·rcases cases_ b k hk with ⟨h0,h1⟩ | ⟨rfl,rfl⟩
  ·exact (h.rel.blk b x k (at_ b x h0 hx) h1).keep hE fun _=>rfl
  ·rw [last x hx];exact hbr
 ·rcases cases_ b k hk with ⟨h0,h1⟩ | ⟨rfl,rfl⟩
  ·rcases cases_ c j hj with ⟨h2,h3⟩ | ⟨rfl,rfl⟩
   ·exact h.rel.sep b c x y k j hbc (at_ b x h0 hx) (at_ c y h2 hy) h1 h3 hox hlv hg
   ·exact absurd hg (hap b k hbc (qdh.1 h1).2)
  ·rcases cases_ c j hj with ⟨h2,h3⟩ | ⟨rfl,rfl⟩
   ·exact absurd hg.symm (hap c j (fun e=>hbc e.symm) (qdh.1 h3).2)
   ·exact absurd rfl hbc
 ·rcases cases_ b k h2 with ⟨h5,h6⟩ | ⟨rfl,rfl⟩
  ·exact h.fresh g ⟨b,x,k,at_ b x h5 h1,h6,h3,h4⟩
  ·exact .inr (by omega)
 ·rcases cases_ b k hb with ⟨_,h6⟩ | ⟨_,rfl⟩
  ·exact h.img b k h6
  ·exact .inr hge
theorem Sim.junk {m:Mp} {H:Heap} {w:World} (hR:Rel m H w) (o:Obj):Sim m H w m H { w with heap:=w.heap.push o } :=
 ⟨.refl m,hR.world fun _ h=>qdo w o h,⟨rfl,rfl,rfl,by simp,fun g h _=>qdo w o h⟩,fun g h=>.inl h,Nat.le_refl _,fun b l h=>.inl ⟨b,l,h,rfl⟩⟩
section
variable {P:Program} {call:CallF} {ops:Array Oper} {a:Fr} {H:Heap} {nt:Nat}
def bit (ops:Array Oper) (j i:Nat):Bool:=((Region.before ops).getD j 0).testBit i
structure DrawF (ops:Array Oper):Prop where
 pre:∀ j,j < ops.size→∀ i∈preds (opAt ops j),i < j
 clash:∀ i j,i < j→j < ops.size→Abs.clash (opAt ops i) (opAt ops j)=true→bit ops j i=true
 effs:∀ i j,i < j→j < ops.size→cls (opAt ops i).op = .eff→cls (opAt ops j).op = .eff→bit ops j i=true
 dst:∀ i j t,i < j→j < ops.size→(opAt ops i).dst=some t→(opAt ops j).dst≠some t
 alloc:∀ i e,i < e→e < ops.size→cls (opAt ops i).op = .all_→cls (opAt ops e).op = .eff→bit ops e i=true
 guard:∀ j i p,j < ops.size→(opAt ops j).guard=some (i,p)→i < j∧bit ops j i=true∧(opAt ops i).dst.isSome=true
theorem qk8 {n i j:Nat} (h:i < j) (hj:j < n):(i,j)∈pairs n:=by
 simp only [pairs,List.mem_flatMap,List.mem_range,List.mem_map]
 exact ⟨j,hj,i,h,rfl⟩
theorem DrawF.of (h:drawOk ops (Region.before ops) (Abs.effs ops)=true):DrawF ops:=by
 unfold drawOk at h
 simp only [Bool.and_eq_true] at h
 obtain ⟨⟨⟨⟨h1,h2⟩,h3⟩,h4⟩,h5⟩:=h
 refine ⟨fun j hj i hi=>?_,fun i j hij hj hc=>?_,fun i j hij hj hc hc'=>?_,fun i j t hij hj ht ht'=>?_,fun i e hie he hc hc'=>?_,fun j i p hj hg=>?_⟩
 ·have:=List.all_eq_true.1 h1 j (by simpa using hj)
  simpa using List.all_eq_true.1 this i hi
 ·have:=List.all_eq_true.1 h2 _ (qk8 hij hj)
  simp only [Bool.and_eq_true,Bool.or_eq_true,Bool.not_eq_true'] at this
  rcases this.1 with e | e
  ·unfold opAt at hc;rw [hc] at e;cases e
  ·exact e
 ·have:=List.all_eq_true.1 h2 _ (qk8 hij hj)
  simp only [Bool.and_eq_true,Bool.or_eq_true,Bool.not_eq_true'] at this
  rcases this.2 with e | e
  ·unfold opAt at hc hc';rw [hc,hc'] at e;cases e
  ·exact e
 ·have:=List.all_eq_true.1 h3 _ (qk8 hij hj)
  unfold opAt at ht ht'
  simp only [ht,ht'] at this
  simp at this
 ·have:=List.all_eq_true.1 h4 i (by simp;omega)
  simp only [Bool.or_eq_true,Bool.not_eq_true'] at this
  rcases this with e1 | e1
  ·unfold opAt at hc;rw [hc] at e1;cases e1
  ·have hmem:e∈Abs.effs ops:=by
    unfold Abs.effs
    rw [List.mem_filter]
    refine ⟨by simpa using he,?_⟩
    unfold opAt at hc';rw [hc'];rfl
   have:=List.all_eq_true.1 e1 e hmem
   simp only [Bool.or_eq_true,Bool.not_eq_true',decide_eq_false_iff_not] at this
   rcases this with e | e
   ·exact absurd hie e
   ·exact e
 ·have:=List.all_eq_true.1 h5 j (by simpa using hj)
  unfold opAt at hg
  rw [hg] at this
  simp only [Bool.and_eq_true,decide_eq_true_eq] at this
  exact ⟨this.1.1,this.1.2,this.2⟩
theorem bit_iff (hD:DrawF ops) {j i:Nat} (hj:j < ops.size):bit ops j i=true↔∃ p∈preds (opAt ops j),p=i∨bit ops p i=true :=
 qqb hD.pre j hj i
def Down (ops:Array Oper) (L:Nat→Bool):Prop:=∀ j,j < ops.size→L j=true→∀ i,bit ops j i=true→L i=true
theorem Down.bits (hD:DrawF ops) {L:Nat→Bool} (hL:Down ops L) {x:Nat} (hx:x < ops.size) (hp:∀ p∈preds (opAt ops x),L p=true):∀ i,bit ops x i=true→L i=true:=by
 intro i hb
 obtain ⟨p,hpm,h⟩:=(bit_iff hD hx).1 hb
 have hlt:=hD.pre x hx p hpm
 rcases h with rfl | h
 ·exact hp p hpm
 ·exact hL p (by omega) (hp p hpm) i h
theorem Down.add (hD:DrawF ops) {L:Nat→Bool} (hL:Down ops L) {x:Nat} (hx:x < ops.size) (hp:∀ p∈preds (opAt ops x),L p=true):Down ops fun j=>decide (j=x) || L j:=by
 intro j hj hLj i hb
 simp only [Bool.or_eq_true,decide_eq_true_eq] at hLj ⊢
 rcases hLj with rfl | hLj
 ·exact .inr (hL.bits hD hx hp i hb)
 ·exact .inr (hL j hj hLj i hb)
variable (P call ops a H) in
abbrev hl (j:Nat):Nat:=(trH P call ops a H j).length
variable (P call ops a H) in
def mkAt (j:Nat):Prop:=trW P call ops a H j=true∧cls (opAt ops j).op = .all_
theorem qnb (hg:CallGrow call) {bef:Array Nat} (hok:∀ j,j < ops.size→StepOk P call ops a H bef j) {j:Nat} (hj:j < ops.size):hl P call ops a H j≤hl P call ops a H (j+1):=by
 by_cases hE:isE P call ops a H j
 ·exact qi7 hg ((hok j hj).eff hE).1
 ·by_cases hm:trW P call ops a H j=true∧cls (opAt ops j).op = .all_
  ·exact qi6 ((hok j hj).alloc hm.1 hm.2)
  ·unfold hl;rw [(hok j hj).still hE hm];exact Nat.le_refl _
theorem qdd (hg:CallGrow call) {bef:Array Nat} (hok:∀ j,j < ops.size→StepOk P call ops a H bef j) {i:Nat}:∀ {j:Nat},i≤j→j≤ops.size→hl P call ops a H i≤hl P call ops a H j:=by
 intro j
 induction j with
 | zero=>intro h _;obtain rfl:i=0:=by omega
         exact Nat.le_refl _
 | succ j ih =>
   intro h hj
   rcases Nat.eq_or_lt_of_le h with e | e
   ·rw [e];exact Nat.le_refl _
   ·exact Nat.le_trans (ih (by omega) (by omega)) (qnb hg hok (by omega))
theorem trA_no {bef:Array Nat} (hok:∀ j,j < ops.size→StepOk P call ops a H bef j) {t:Nat}:∀ x,x≤ops.size→(∀ y,y < x→(opAt ops y).dst≠some t)→trA P call ops a H x t=a t:=by
 intro x
 induction x with
 | zero=>intro _ _;rfl
 | succ x ih =>
   intro hx hno
   rw [(hok x (by omega)).next]
   have h1:=hno x (by omega)
   cases hd:(opAt ops x).dst with
   | none=>simp only [putA];exact ih (by omega) fun y hy=>hno y (by omega)
   | some d =>
     have:t≠d:=fun e=>h1 (by rw [hd,e])
     simp only [putA,upd,if_neg this]
     exact ih (by omega) fun y hy=>hno y (by omega)
theorem qr2 (hD:DrawF ops) {bef:Array Nat} (hok:∀ j,j < ops.size→StepOk P call ops a H bef j) {t y:Nat} (hy:(opAt ops y).dst=some t):∀ x,x≤ops.size→y < x→trA P call ops a H x t=trV P call ops a H y:=by
 intro x
 induction x with
 | zero=>intro _ h;omega
 | succ x ih =>
   intro hx hlt
   rw [(hok x (by omega)).next]
   rcases Nat.eq_or_lt_of_le (Nat.le_of_lt_succ hlt) with e | e
   ·subst e
    rw [hy];simp [putA,upd]
   ·have h1:=hD.dst y x t e (by omega) hy
    cases hd:(opAt ops x).dst with
    | none=>simp only [putA];exact ih (by omega) e
    | some d =>
      have:t≠d:=fun e=>h1 (by rw [hd,e])
      simp only [putA,upd,if_neg this]
      exact ih (by omega) e
variable (P call ops a H) in
structure Inv (nt:Nat) (m0:Mp) (w0:World) (L:Nat→Bool) (M:Mp) (w:World) (tmps:Array Value) (c:Nat):Prop where
 le:c≤ops.size
 at_:c=0∨∃ e,c=e+1∧isE P call ops a H e
 eff:∀ e,e < ops.size→isE P call ops a H e→(L e=true↔e < c)
 down:Down ops L
 base:Sim m0 H w0 (rst M (hl P call ops a H c)) (trH P call ops a H c) w
 early:∀ x,x < ops.size→c≤x→L x=true→mkAt P call ops a H x→∃ l B,M (hl P call ops a H x)=some l∧trH P call ops a H (x+1)=trH P call ops a H x++[B]∧B.owned=true ∧
  BR (rst M (hl P call ops a H (x+1))) w l B∧l.g < w.heap.size∧w0.heap.size≤l.g∧∀ b k,b≠hl P call ops a H x→M b=some k→k.g≠l.g
 dom:∀ b l,M b=some l→b < hl P call ops a H c∨∃ x,x < ops.size∧c≤x∧L x=true∧mkAt P call ops a H x∧b=hl P call ops a H x
 size:tmps.size=nt
 frame:∀ t,t < nt→∃ v',tmps[t]?=some v'∧((∃ y,y < ops.size∧L y=true∧(opAt ops y).dst=some t∧VR (rst M (hl P call ops a H (max (y+1) c))) (trV P call ops a H y) v') ∨
  ((∀ y,y < ops.size→L y=true→(opAt ops y).dst≠some t)∧VR (rst M (hl P call ops a H c)) (a t) v'))
variable {m0:Mp} {w0 w:World} {L:Nat→Bool} {M:Mp} {tmps:Array Value} {c:Nat}
theorem mk_hl {bef:Array Nat} (hok:∀ j,j < ops.size→StepOk P call ops a H bef j) {nt:Nat} (hI:Inv P call ops a H nt m0 w0 L M w tmps c) {x:Nat} (hx:x < ops.size) (hc:c≤x) (hL:L x=true) (hm:mkAt P call ops a H x):hl P call ops a H (x+1)=hl P call ops a H x+1:=by
 obtain ⟨l,B,_,h,_⟩:=hI.early x hx hc hL hm
 unfold hl;rw [h];simp
theorem qie (hg:CallGrow call) {bef:Array Nat} (hok:∀ j,j < ops.size→StepOk P call ops a H bef j) (hI:Inv P call ops a H nt m0 w0 L M w tmps c) {j:Nat} (hj:j < ops.size) (hcj:c≤j) (hno:¬ (L j=true∧mkAt P call ops a H j)) {b:Nat}
  (h1:hl P call ops a H j≤b) (h2:b < hl P call ops a H (j+1)):M b=none:=by
 cases hb:M b with
 | none=>rfl
 | some l =>
   exfalso
   rcases hI.dom b l hb with h | ⟨x,hx,hcx,hLx,hm,rfl⟩
   ·have:=qdd hg hok hcj (by omega)
    omega
   ·rcases Nat.lt_trichotomy x j with h | h | h
    ·have e1:=mk_hl hok hI hx hcx hLx hm
     have:=qdd hg hok (show x+1≤j by omega) (by omega)
     omega
    ·subst h;exact hno ⟨hLx,hm⟩
    ·have:=qdd hg hok (show j+1≤x by omega) (by omega)
     omega
theorem layers (hg:CallGrow call) {bef:Array Nat} (hok:∀ j,j < ops.size→StepOk P call ops a H bef j) (hI:Inv P call ops a H nt m0 w0 L M w tmps c):∀ k,c+k≤ops.size→∃ G,Sim m0 H w0 (rst M (hl P call ops a H (c+k))) G w∧G.length=hl P call ops a H (c+k)∧Sub (trH P call ops a H c) G ∧
  ((∀ j,c≤j→j < c+k→¬ isE P call ops a H j∧(mkAt P call ops a H j→L j=true))→G=trH P call ops a H (c+k)):=by
 intro k
 induction k with
 | zero=>intro _;exact ⟨_,hI.base,rfl,fun _ _ h=>h,fun _=>rfl⟩
 | succ k ih =>
   intro hk
   obtain ⟨G,h1,h2,h3,h4⟩:=ih (by omega)
   have hj:c+k < ops.size:=by omega
   have hsub:∀ r,Sub (trH P call ops a H c) (G++r):=fun r b x hb=>by
    have:=h3 b x hb
    rw [List.getElem?_append_left (qa9 this)];exact this
   by_cases hm:L (c+k)=true∧mkAt P call ops a H (c+k)
   ·obtain ⟨l,B,e1,e2,e3,e4,e5,e6,e7⟩:=hI.early _ hj (by omega) hm.1 hm.2
    have e0:hl P call ops a H (c+k+1)=G.length+1:=by rw [h2];exact mk_hl hok hI hj (by omega) hm.1 hm.2
    refine ⟨G++[B],?_,by rw [List.length_append,show c+(k+1)=c+k+1 from rfl,e0];rfl,hsub _,fun hall=>?_⟩
    ·rw [show c+(k+1)=c+k+1 from rfl,e0]
     rw [← h2] at h1 e1 e7
     rw [e0] at e4
     exact h1.snoc e1 e4 e3 e5 e6 e7
    ·rw [h4 fun j h5 h6=>hall j h5 (by omega),show c+(k+1)=c+k+1 from rfl,e2]
   ·have hle:=qnb hg hok hj
    refine ⟨G++List.replicate (hl P call ops a H (c+k+1) - G.length) .dead,?_,by rw [List.length_append,List.length_replicate];rw [← h2] at hle;rw [show c+(k+1)=c+k+1 from rfl];exact Nat.add_sub_cancel' hle,hsub _,fun hall=>?_⟩
    ·have:rst M (hl P call ops a H (c+(k+1)))=rst M (hl P call ops a H (c+k)):=by
      funext b
      unfold rst
      rw [show c+(k+1)=c+k+1 from rfl]
      rcases Nat.lt_or_ge b (hl P call ops a H (c+k)) with hb | hb
      ·rw [if_pos hb,if_pos (Nat.lt_of_lt_of_le hb hle)]
      ·rw [if_neg (Nat.not_lt.2 hb)]
       split
       ·rename_i hb2
        exact qie hg hok hI hj (by omega) hm hb hb2
       ·rfl
     rw [this]
     exact h1.dead _
    ·have hq:=hall (c+k) (by omega) (by omega)
     have hst:=(hok _ hj).still hq.1 fun e=>hm ⟨hq.2 e,e⟩
     have he:G=trH P call ops a H (c+k):=h4 fun j h5 h6=>hall j h5 (by omega)
     have:hl P call ops a H (c+k+1) - G.length=0:=by unfold hl;rw [hst,he];omega
     rw [this,show c+(k+1)=c+k+1 from rfl,hst,he]
     simp
theorem Inv.opnd (hg:CallGrow call) (hD:DrawF ops) {bef:Array Nat} (hok:∀ j,j < ops.size→StepOk P call ops a H bef j) (hI:Inv P call ops a H nt m0 w0 L M w tmps c) {x:Nat} (hx:x < ops.size) (hLx:L x=false) (hbits:∀ i,bit ops x i=true→L i=true)
  {z:Operand} (hz:z∈(opAt ops x).op.operands.toList) (hzo:opndOk nt z=true):VR (rst M (hl P call ops a H (max x c))) (ev (trA P call ops a H x) z) (evC tmps z):=by
 cases z with
 | tmp t =>
   have ht:t < nt:=by simpa [opndOk] using hzo
   obtain ⟨v',h1,h2⟩:=hI.frame t ht
   have hname:t∈namesOf (opAt ops x):=by
    unfold namesOf
    rw [List.mem_append,List.mem_filterMap]
    exact .inr ⟨_,hz,rfl⟩
   have hev:evC tmps (.tmp t)=v':=by simp [evC,h1]
   rw [hev]
   simp only [ev]
   have hle:max x c≤ops.size:=by have:=hI.le;omega
   rcases h2 with ⟨y,hy,hLy,hd,hv⟩ | ⟨hno,hv⟩
   ·have hyx:y < x:=by
     rcases Nat.lt_trichotomy y x with h | h | h
     ·exact h
     ·subst h;rw [hLx] at hLy;cases hLy
     ·have hc:clash (opAt ops x) (opAt ops y)=true:=by
       unfold clash;rw [hd];simp [hname]
      have:=hI.down y hy hLy x (hD.clash x y h hy hc)
      rw [hLx] at this;cases this
    rw [qr2 hD hok hd x (by omega) hyx]
    exact hv.mono (qdc (.refl M) (qdd hg hok (by omega) hle))
   ·have:trA P call ops a H x t=a t:=trA_no hok x (by omega) fun y hy hd=>by
     have hc:clash (opAt ops y) (opAt ops x)=true:=by
      unfold clash;rw [hd];simp [hname]
     exact hno y (by omega) (hbits y (hD.clash y x hy hx hc)) hd
    rw [this]
    exact hv.mono (qdc (.refl M) (qdd hg hok (by omega) hle))
 | const v =>
   have hc:constAgg v=true:=by simpa [opndOk] using hzo
   exact (VR.a (AR.of_const _ hc):VR _ v v)
 | func f=>exact .a (.s (.func f #[] #[] .nil))
 | global g=>simp [opndOk] at hzo
theorem Inv.wanted (hg:CallGrow call) (hD:DrawF ops) {bef:Array Nat} (hok:∀ j,j < ops.size→StepOk P call ops a H bef j) (hops:∀ o∈ops.toList,operOk nt o=true) (hI:Inv P call ops a H nt m0 w0 L M w tmps c) {x:Nat} (hx:x < ops.size) (hbits:∀ i,bit ops x i=true→L i=true) :
  Region.wanted (opAt ops x) (yielded ops tmps)=trW P call ops a H x:=by
 unfold trW Region.wanted
 cases hgd:(opAt ops x).guard with
 | none=>rfl
 | some gp =>
   obtain ⟨i,p⟩:=gp
   obtain ⟨g1,g2,g3⟩:=hD.guard x i p hx hgd
   have hLi:=hbits i g2
   have key:yielded ops tmps i=yieldedA ops (trA P call ops a H x) i:=by
    unfold yielded yieldedA
    rw [qg7 (by omega:i < ops.size)]
    cases hd:(opAt ops i).dst with
    | none=>rw [hd] at g3;cases g3
    | some t =>
      have ht:t < nt:=by
       have h1:=hops _ (List.mem_of_getElem? (by simpa using qg7 (by omega:i < ops.size):ops.toList[i]?=some (opAt ops i)))
       unfold operOk at h1
       rw [hd] at h1
       simp only [Bool.and_eq_true] at h1
       simpa using h1.2
      obtain ⟨v',h1,h2⟩:=hI.frame t ht
      simp only [Option.bind_some,hd,h1]
      rcases h2 with ⟨y,hy,hLy,hd',hv⟩ | ⟨hno,hv⟩
      ·have:y=i:=by
        rcases Nat.lt_trichotomy y i with h | h | h
        ·exact absurd hd (hD.dst y i t h (by omega) hd')
        ·exact h
        ·exact absurd hd' (hD.dst i y t h (by omega) hd)
       subst this
       rw [qr2 hD hok hd x (by omega) g1]
       generalize trV P call ops a H y=u at hv
       cases u with
       | bool b=>rw [hv.bool_]
       | _ =>
         split
         ·rename_i c hc
          injection hc with hc
          subst hc
          cases hv.bool_right
         ·rfl
      ·exact absurd hd (hno i (by omega) hLi)
   simp only [key]
end
end Go.Abs
namespace Go.Abs
def DrawOK (P:Program) (call:CallF) (nt:Nat):Prop:=∀ ops:Array Oper,(∀ o∈ops.toList,operOk nt o=true)→drawOk ops (Region.before ops) (effs ops)=true→∀ a H a' H',evDraw P call ops (Region.before ops) (List.range ops.size) a H [(none,H)] []=some (a',H') →
 ∀ m w tmps (t:Nat),Rel m H w→FR m nt a tmps→∀ b ds k cs,∃ m' w' tmps',Sim m H w m' H' w'∧FR m' nt a' tmps'∧Steps P (lone (onF b tmps ds (.inRegion ops (Region.schedule (P.follows .mixedOrders) ops t)::k)) cs w) (lone (onF b tmps' ds k) cs w')
section
variable {P:Program} {call:CallF} {ops:Array Oper} {a:Fr} {H:Heap} {nt:Nat} {m0:Mp} {w0 w:World} {L:Nat→Bool} {M:Mp} {tmps:Array Value} {c:Nat}
theorem qif {o:Oper} (h:cls o.op≠.eff):stepA P call a o H=aexec P a o H:=by
 unfold stepA
 split
 ·rename_i hop
  rw [hop] at h
  simp [cls] at h
 ·rfl
theorem qgq {L:Nat→Bool} {M M':Mp} {tmps:Array Value} {c c':Nat} {x:Nat} {v':Value} (hx:x < ops.size) (hD:DrawF ops)
  (hf:∀ t,t < nt→∃ v',tmps[t]?=some v'∧((∃ y,y < ops.size∧L y=true∧(opAt ops y).dst=some t∧VR (rst M (hl P call ops a H (max (y+1) c))) (trV P call ops a H y) v') ∨
   ((∀ y,y < ops.size→L y=true→(opAt ops y).dst≠some t)∧VR (rst M (hl P call ops a H c)) (a t) v')))
  (hs:tmps.size=nt) (h1:∀ y,y < ops.size→Ext (rst M (hl P call ops a H (max (y+1) c))) (rst M' (hl P call ops a H (max (y+1) c')))) (h2:Ext (rst M (hl P call ops a H c)) (rst M' (hl P call ops a H c')))
  (hv:VR (rst M' (hl P call ops a H (max (x+1) c'))) (trV P call ops a H x) v') :
  ∀ t,t < nt→∃ u',(putC tmps (opAt ops x).dst v')[t]?=some u'∧((∃ y,y < ops.size∧(decide (y=x) || L y)=true∧(opAt ops y).dst=some t∧VR (rst M' (hl P call ops a H (max (y+1) c'))) (trV P call ops a H y) u') ∨
    ((∀ y,y < ops.size→(decide (y=x) || L y)=true→(opAt ops y).dst≠some t)∧VR (rst M' (hl P call ops a H c')) (a t) u')):=by
 intro t ht
 by_cases hd:(opAt ops x).dst=some t
 ·refine ⟨v',?_,.inl ⟨x,hx,by simp,hd,hv⟩⟩
  rw [hd]
  simp only [putC]
  rw [Array.getElem?_setIfInBounds,if_pos rfl,if_pos (by omega)]
 ·obtain ⟨u',h3,h4⟩:=hf t ht
  refine ⟨u',?_,?_⟩
  ·cases hdx:(opAt ops x).dst with
   | none=>exact h3
   | some d =>
     simp only [putC]
     rw [Array.getElem?_setIfInBounds,if_neg (fun e=>hd (by rw [hdx,e]))]
     exact h3
  ·rcases h4 with ⟨y,hy,hLy,hyd,hyv⟩ | ⟨hno,hv0⟩
   ·exact .inl ⟨y,hy,by simp [hLy],hyd,hyv.mono (h1 y hy)⟩
   ·refine .inr ⟨fun y hy hLy=>?_,hv0.mono h2⟩
    simp only [Bool.or_eq_true,decide_eq_true_eq] at hLy
    rcases hLy with rfl | hLy
    ·exact hd
    ·exact hno y hy hLy
theorem qgr (tmps:Array Value) (d:Option Nat) (v:Value):(putC tmps d v).size=tmps.size:=by cases d<;>simp [putC]
theorem Inv.quiet {bef:Array Nat} (hg:CallGrow call) (hok:∀ j,j < ops.size→StepOk P call ops a H bef j) (hD:DrawF ops) (hI:Inv P call ops a H nt m0 w0 L M w tmps c) {x:Nat} (hx:x < ops.size) (hp:∀ p∈preds (opAt ops x),L p=true) (hE:¬ isE P call ops a H x) (hm:¬ mkAt P call ops a H x)
  {v':Value} (hv:VR (rst M (hl P call ops a H (max (x+1) c))) (trV P call ops a H x) v'):Inv P call ops a H nt m0 w0 (fun j=>decide (j=x) || L j) M w (putC tmps (opAt ops x).dst v') c where
 le:=hI.le
 at_:=hI.at_
 eff:=fun e he hEe=>by
  have:e≠x:=fun h=>hE (h▸hEe)
  simpa [this] using hI.eff e he hEe
 down:=hI.down.add hD hx hp
 base:=hI.base
 early:=fun y hy hc hL hmy=>by
  have:y≠x:=fun h=>hm (h▸hmy)
  exact hI.early y hy hc (by simpa [this] using hL) hmy
 dom:=fun b l hb=>(hI.dom b l hb).imp id fun ⟨y,hy,hc,hL,h⟩=>⟨y,hy,hc,by simp [hL],h⟩
 size:=by rw [qgr];exact hI.size
 frame:=qgq hx hD hI.frame hI.size (fun _ _=>.refl _) (.refl _) hv
variable (hcall:CallOK P call) (hg:CallGrow call) (hD:DrawF ops) (hok:∀ j,j < ops.size→StepOk P call ops a H (Region.before ops) j) (hops:∀ o∈ops.toList,operOk nt o=true)
include hcall hg hD hok hops
theorem inv_step (hI:Inv P call ops a H nt m0 w0 L M w tmps c) {x:Nat} (hx:x < ops.size) (hLx:L x=false) (hp:∀ p∈preds (opAt ops x),L p=true) :
  ∀ b ds rest k cs,∃ M' w' tmps' c',Inv P call ops a H nt m0 w0 (fun j=>decide (j=x) || L j) M' w' tmps' c'∧Steps P (lone (onF b tmps ds (.inRegion ops (x::rest)::k)) cs w) (lone (onF b tmps' ds (.inRegion ops rest::k)) cs w'):=by
 intro b ds rest k cs
 have hbits:=hI.down.bits hD hx hp
 have hwant:=hI.wanted hg hD hok hops hx hbits
 have hget:=qg7 hx
 have hopok:=hops _ (List.mem_of_getElem? (by simpa using hget:ops.toList[x]?=some (opAt ops x)))
 have hopnd:∀ z∈(opAt ops x).op.operands.toList,VR (rst M (hl P call ops a H (max x c))) (ev (trA P call ops a H x) z) (evC tmps z):=fun z hz=>hI.opnd hg hD hok hx hLx hbits hz (qgn hopok z hz)
 have hcn:=hI.le
 have hle1:hl P call ops a H (max x c)≤hl P call ops a H (max (x+1) c):=qdd hg hok (by omega) (by omega)
 cases hw:trW P call ops a H x with
 | false =>
   have hE:¬ isE P call ops a H x:=fun h=>by have h1:=h.1;rw [hw] at h1;cases h1
   have hm:¬ mkAt P call ops a H x:=fun h=>by have h1:=h.1;rw [hw] at h1;cases h1
   refine ⟨M,w,_,c,hI.quiet hg hok hD hx hp hE hm (v':=undef) (by rw [(hok x hx).not hw];exact .undef _),.one (qjp hget (by rw [hwant,hw]))⟩
 | true =>
   rw [hw] at hwant
   have quietly:cls (opAt ops x).op = .pure_∨cls (opAt ops x).op = .read→(∀ G,Sub (trH P call ops a H c) G→∃ G',aexec P (trA P call ops a H x) (opAt ops x) G=some (trV P call ops a H x,G')) →
     ∃ M' w' tmps' c',Inv P call ops a H nt m0 w0 (fun j=>decide (j=x) || L j) M' w' tmps' c'∧Steps P (lone (onF b tmps ds (.inRegion ops (x::rest)::k)) cs w) (lone (onF b tmps' ds (.inRegion ops rest::k)) cs w'):=by
    intro hcl hrun
    have hE:¬ isE P call ops a H x:=fun h=>by have h2:=h.2;rw [h2] at hcl;rcases hcl with e | e<;>cases e
    have hm:¬ mkAt P call ops a H x:=fun h=>by have h2:=h.2;rw [h2] at hcl;rcases hcl with e | e<;>cases e
    obtain ⟨G,g1,g2,g3,_⟩:=layers hg hok hI (max x c - c) (by omega)
    rw [show c+(max x c - c)=max x c from by omega] at g1 g2
    obtain ⟨G',hG'⟩:=hrun G g3
    have hstep:stepA P call (trA P call ops a H x) (opAt ops x) G=some (trV P call ops a H x,G'):=by
     rw [qif (fun e=>by rw [e] at hcl;rcases hcl with e | e<;>cases e)];exact hG'
    obtain ⟨m',w',v',_,s2,s3,s4⟩:=qos hcall g1.rel hget hopnd hwant hstep b ds rest k cs
    obtain ⟨rfl,rfl⟩:=s4 hcl
    exact ⟨M,w',_,c,hI.quiet hg hok hD hx hp hE hm (s2.mono (qdc (.refl M) hle1)),s3⟩
   cases hcl:cls (opAt ops x).op with
   | pure_ =>
     obtain ⟨G,hG⟩:=(hok x hx).quiet hw (.inl hcl)
     exact quietly (.inl hcl) fun G' _=>⟨G',(qfu hcl hG).2 G'⟩
   | read =>
     obtain ⟨G,hG⟩:=stable hok hx hw hcl hcn hI.at_ (fun e he hEe hce=>by
      cases hb:((Region.before ops).getD x 0).testBit e with
      | false=>rfl
      | true =>
        have:=(hI.eff e he hEe).1 (hbits e hb)
        omega) (fun e hec hEe=>by
      cases hb:((Region.before ops).getD e 0).testBit x with
      | false=>rfl
      | true =>
        have:=hI.down e (by omega) ((hI.eff e (by omega) hEe).2 hec) x hb
        rw [hLx] at this;cases this)
     exact quietly (.inr hcl) fun G' hS=>⟨G',qi5 hcl hG hS⟩
   | all_ =>
     have hm:mkAt P call ops a H x:=⟨hw,hcl⟩
     have hE:¬ isE P call ops a H x:=fun h=>by have h2:=h.2;rw [hcl] at h2;cases h2
     have hcx:c≤x:=by
      rcases hI.at_ with e | ⟨e,rfl,hEe⟩
      ·omega
      ·rcases Nat.lt_trichotomy x e with h | h | h
       ·have:=hI.down e (by omega) ((hI.eff e (by omega) hEe).2 (by omega)) x (hD.alloc x e h (by omega) hcl hEe.2)
        rw [hLx] at this;cases this
       ·subst h;exact absurd hEe hE
       ·omega
     have hmax:max x c=x:=by omega
     rw [hmax] at hopnd
     have hal:=(hok x hx).alloc hw hcl
     obtain ⟨B,obj,N,v',q1,q2,q3,q4,q5⟩:=qma (w:=w) hopnd hcl hal
     have hhl:hl P call ops a H (x+1)=hl P call ops a H x+1:=by unfold hl;rw [q1];simp
     have hfree:M (hl P call ops a H x)=none:=qie hg hok hI hx hcx (by rw [hLx];simp) (Nat.le_refl _) (by omega)
     have hE':Ext M (psh M (hl P call ops a H x) ⟨w.heap.size,0,N⟩):=.push _ hfree
     have hEr:Ext (rst M (hl P call ops a H x)) (rst (psh M (hl P call ops a H x) ⟨w.heap.size,0,N⟩) (hl P call ops a H (x+1))):=qdc hE' (by omega)
     have hnew:rst (psh M (hl P call ops a H x) ⟨w.heap.size,0,N⟩) (hl P call ops a H (x+1)) (hl P call ops a H x)=some ⟨w.heap.size,0,N⟩:=qdh.2 ⟨by omega,qcq ..⟩
     have hbaseM:rst (psh M (hl P call ops a H x) ⟨w.heap.size,0,N⟩) (hl P call ops a H c)=rst M (hl P call ops a H c):=by
      have h1:=qdd hg hok hcx (by omega)
      funext b
      unfold rst
      split
      ·rw [qci _ (by omega)]
      ·rfl
     have hMlt:∀ b k,M b=some k→k.g < w.heap.size:=fun b k hb=>by
      rcases hI.dom b k hb with h | ⟨y,hy,hcy,hLy,hmy,rfl⟩
      ·exact hI.base.rel.bnd b k (qdh.2 ⟨h,hb⟩)
      ·obtain ⟨l,B',e1,_,_,_,e5,_⟩:=hI.early y hy hcy hLy hmy
       rw [e1] at hb;injection hb with hb;rw [← hb];exact e5
     refine ⟨psh M (hl P call ops a H x) ⟨w.heap.size,0,N⟩,{ w with heap:=w.heap.push obj },_,c,⟨hcn,hI.at_,fun e he hEe=>?_,hI.down.add hD hx hp,?_,fun y hy hcy hLy hmy=>?_,fun b l hb=>?_,by rw [qgr];exact hI.size,?_⟩,.one (qna hget hwant (qfk (call:=call) (by rw [qif (by rw [hcl];simp)];exact hal)) q3 rfl)⟩
     ·have:e≠x:=fun h=>hE (h▸hEe)
      simpa [this] using hI.eff e he hEe
     ·rw [hbaseM]
      exact hI.base.trans (Sim.junk hI.base.rel obj)
     ·by_cases hyx:y=x
      ·subst hyx
       refine ⟨⟨w.heap.size,0,N⟩,B,qcq ..,q1,q2,q5 _ _ hEr (qd0 w obj),by simp,hI.base.keep.size,fun b k hb hk=>?_⟩
       rw [qci _ hb] at hk
       have:=hMlt b k hk
       simp;omega
      ·obtain ⟨l,B',e1,e2,e3,e4,e5,e6,e7⟩:=hI.early y hy hcy (by simpa [hyx] using hLy) hmy
       refine ⟨l,B',hE' _ _ e1,e2,e3,e4.keep (qdc hE' (Nat.le_refl _)) fun _=>qdo w obj e5,by simp;omega,e6,fun b k hb hk=>?_⟩
       by_cases hbx:b=hl P call ops a H x
       ·subst hbx
        rw [qcq] at hk
        injection hk with hk
        subst hk
        simp;omega
       ·rw [qci _ hbx] at hk
        exact e7 b k hb hk
     ·by_cases hbx:b=hl P call ops a H x
      ·exact .inr ⟨x,hx,hcx,by simp,hm,hbx⟩
      ·rw [qci _ hbx] at hb
       exact (hI.dom b l hb).imp id fun ⟨y,hy,hc,hL,h⟩=>⟨y,hy,hc,by simp [hL],h⟩
     ·refine qgq hx hD hI.frame hI.size (fun _ _=>qdc hE' (Nat.le_refl _)) (qdc hE' (Nat.le_refl _)) ?_
      rw [show max (x+1) c=x+1 from by omega]
      exact q4 _ hEr hnew
   | eff =>
     have hE:isE P call ops a H x:=⟨hw,hcl⟩
     have hm:¬ mkAt P call ops a H x:=fun h=>by have h2:=h.2;rw [hcl] at h2;cases h2
     have hcx:c≤x:=by
      rcases Nat.lt_or_ge x c with h | h
      ·have:=(hI.eff x hx hE).2 h
       rw [hLx] at this;cases this
      ·exact h
     have hmax:max x c=x:=by omega
     rw [hmax] at hopnd
     have hnoE:∀ e,c≤e→e < x→¬ isE P call ops a H e:=fun e h1 h2 hEe=>by
      have:=(hI.eff e (by omega) hEe).1 (hbits e (hD.effs e x h2 hx hEe.2 hcl))
      omega
     obtain ⟨G,g1,g2,_,g4⟩:=layers hg hok hI (x - c) (by omega)
     rw [show c+(x - c)=x from by omega] at g1 g2 g4
     have hG:=g4 fun j h1 h2=>⟨hnoE j h1 h2,fun hmj=>hbits j (hD.alloc j x h2 hx hmj.2 hcl)⟩
     subst hG
     have hstep:=((hok x hx).eff hE).1
     obtain ⟨m',w',v',s1,s2,s3,_⟩:=qos hcall g1.rel hget hopnd hwant hstep b ds rest k cs
     have hstp:=qnb hg hok hx
     let M':Mp:=fun b=>if b < hl P call ops a H (x+1) then m' b else M b
     have hMlo:∀ {b},b < hl P call ops a H (x+1)→M' b=m' b:=fun h=>if_pos h
     have hMhi:∀ {b},hl P call ops a H (x+1)≤b→M' b=M b:=fun h=>if_neg (by omega)
     have hExt:Ext M M':=fun b l hb=>by
      rcases Nat.lt_or_ge b (hl P call ops a H (x+1)) with h | h
      ·rw [hMlo h]
       rcases Nat.lt_or_ge b (hl P call ops a H x) with h1 | h1
       ·exact s1.ext _ _ (qdh.2 ⟨h1,hb⟩)
       ·rw [qie hg hok hI hx hcx (by rw [hLx];simp) h1 h] at hb;cases hb
      ·rw [hMhi h];exact hb
     have hM':rst M' (hl P call ops a H (x+1))=m':=by
      funext b
      unfold rst
      split
      ·exact hMlo (by assumption)
      ·cases hb:m' b with
       | none=>rfl
       | some l=>exact absurd (s1.rel.len b l hb) (by assumption)
     have hyx:∀ y,y < ops.size→x+1≤y→hl P call ops a H (x+1)≤hl P call ops a H y:=fun y hy h=>qdd hg hok h (by omega)
     refine ⟨M',w',_,x+1,⟨by omega,.inr ⟨x,rfl,hE⟩,fun e he hEe=>?_,hI.down.add hD hx hp,?_,fun y hy hcy hLy hmy=>?_,fun b l hb=>?_,by rw [qgr];exact hI.size,?_⟩,s3⟩
     ·simp only [Bool.or_eq_true,decide_eq_true_eq]
      rw [hI.eff e he hEe]
      constructor
      ·intro h;omega
      ·intro h
       rcases Nat.lt_or_ge e x with h1 | h1
       ·rcases Nat.lt_or_ge e c with h2 | h2
        ·exact .inr h2
        ·exact absurd hEe (hnoE e h2 h1)
       ·exact .inl (by omega)
     ·rw [hM'];exact g1.trans s1
     ·have hne:y≠x:=by omega
      obtain ⟨l,B',e1,e2,e3,e4,e5,e6,e7⟩:=hI.early y hy (by omega) (by simpa [hne] using hLy) hmy
      have hhy:=hyx y hy hcy
      have hnot:¬ Owned (rst M (hl P call ops a H x)) (trH P call ops a H x) l.g:=fun ⟨b,_,k,_,k2,_,k4⟩=>by
       rw [qdh] at k2
       exact e7 b k (fun e=>by omega) k2.2 k4
      refine ⟨l,B',by rw [hMhi hhy];exact e1,e2,e3,e4.keep (qdc hExt (Nat.le_refl _)) fun _=>s1.keep.block _ e5 hnot,Nat.lt_of_lt_of_le e5 s1.keep.size,e6,fun b k hb hk=>?_⟩
      rcases Nat.lt_or_ge b (hl P call ops a H (x+1)) with h | h
      ·rw [hMlo h] at hk
       rcases s1.img b k hk with ⟨c0,k0,h1,h2⟩ | h1
       ·rw [qdh] at h1
        rw [← h2]
        exact e7 c0 k0 (fun e=>by omega) h1.2
       ·omega
      ·rw [hMhi h] at hk
       exact e7 b k hb hk
     ·rcases Nat.lt_or_ge b (hl P call ops a H (x+1)) with h | h
      ·exact .inl h
      ·rw [hMhi h] at hb
       rcases hI.dom b l hb with h1 | ⟨y,hy,hcy,hLy,hmy,rfl⟩
       ·have:=qdd hg hok (show c≤x+1 by omega) (by omega)
        omega
       ·refine .inr ⟨y,hy,?_,by simp [hLy],hmy,rfl⟩
        rcases Nat.lt_or_ge y (x+1) with h2 | h2
        ·have e1:=mk_hl hok hI hy hcy hLy hmy
         have:=qdd hg hok (show y+1≤x+1 by omega) (by omega)
         omega
        ·exact h2
     ·refine qgq hx hD hI.frame hI.size (fun y hy=>qdc hExt (qdd hg hok (by omega) (by omega))) (qdc hExt (qdd hg hok (by omega) (by omega))) ?_
      rw [show max (x+1) (x+1)=x+1 from by omega,hM']
      exact s2
theorem inv_run:∀ {l:List Nat} {L:Nat→Bool},Topo ops L l→∀ {M:Mp} {w:World} {tmps:Array Value} {c:Nat},Inv P call ops a H nt m0 w0 L M w tmps c →
  ∀ b ds k cs,∃ m' w' tmps',Sim m0 H w0 m' (trH P call ops a H ops.size) w'∧FR m' nt (trA P call ops a H ops.size) tmps'∧Steps P (lone (onF b tmps ds (.inRegion ops l::k)) cs w) (lone (onF b tmps' ds k) cs w'):=by
 intro l L hT
 induction hT with
 | nil L hall =>
   intro M w tmps c hI b ds k cs
   have hcn:=hI.le
   obtain ⟨G,g1,g2,_,g4⟩:=layers hg hok hI (ops.size - c) (by omega)
   rw [show c+(ops.size - c)=ops.size from by omega] at g1 g2 g4
   have hG:=g4 fun j h1 h2=>⟨fun hE=>by
    have:=(hI.eff j h2 hE).1 (hall j h2)
    omega,fun _=>hall j h2⟩
   subst hG
   refine ⟨_,w,tmps,g1,⟨hI.size,fun t ht=>?_⟩,.one qgo⟩
   obtain ⟨v',h1,h2⟩:=hI.frame t ht
   refine ⟨v',h1,?_⟩
   rcases h2 with ⟨y,hy,hLy,hd,hv⟩ | ⟨hno,hv⟩
   ·rw [qr2 hD hok hd _ (Nat.le_refl _) hy]
    exact hv.mono (qdc (.refl M) (qdd hg hok (by omega) (Nat.le_refl _)))
   ·rw [trA_no hok _ (Nat.le_refl _) fun y hy=>hno y hy (hall y hy)]
    exact hv.mono (qdc (.refl M) (qdd hg hok hcn (Nat.le_refl _)))
 | cons L x l hx hLx hp _ ih =>
   intro M w tmps c hI b ds k cs
   obtain ⟨M',w',t',c',hI',hs⟩:=inv_step hcall hg hD hok hops hI hx hLx hp b ds l k cs
   obtain ⟨m2,w2,t2,r1,r2,r3⟩:=ih hI' b ds k cs
   exact ⟨m2,w2,t2,r1,r2,hs.trans r3⟩
end
theorem drawOK {P:Program} (hmix:P.follows .mixedOrders=true) {call:CallF} (hcall:CallOK P call) (hg:CallGrow call) (nt:Nat):DrawOK P call nt:=by
 intro ops hops hdr a H a' H' h m w tmps t hR hf
 have hD:=DrawF.of hdr
 rw [List.range_eq_range'] at h
 obtain ⟨⟨rfl,rfl⟩,hok⟩:=trace (P:=P) (call:=call) (ops:=ops) (a:=a) (H:=H) (bef:=Region.before ops) ops.size 0 (by omega) h
 have hI:Inv P call ops a H nt m w (fun _=>false) m w tmps 0:=by
  have hself:rst m (hl P call ops a H 0)=m:=qr1 hR.len
  refine ⟨Nat.zero_le _,.inl rfl,fun e _ _=>by simp,fun j _ hj=>by simp at hj,?_,fun x _ _ hL=>by simp at hL,fun b l hb=>.inl (hR.len b l hb),hf.1,fun t ht=>?_⟩
  ·rw [hself];exact .refl hR
  ·obtain ⟨v',h1,h2⟩:=hf.2 t ht
   exact ⟨v',h1,.inr ⟨fun _ _ hL=>by simp at hL,by rw [hself];exact h2⟩⟩
 rw [hmix]
 have:Region.schedule true ops t=Region.linearise .any ops t:=by simp [Region.schedule]
 rw [this]
 exact inv_run hcall hg hD (fun j hj=>hok j (Nat.zero_le _) hj) hops (qhe hD.pre t) hI
end Go.Abs
namespace Go.Abs
def mark (r:Nat):Deferred:={ target:=.collected r,args:=#[] }
inductive Marks (lo:Nat) (m:Mp) (H:Heap) (w:World):List Deferred→Prop
 | nil:lo≤w.heap.size→Marks lo m H w []
 | cons (r:Nat) (ds:List Deferred):lo≤r→w.heap[r]?=some (.deferred (some []))→¬ Owned m H r→mark r ∉ ds→Marks lo m H w ds→Marks lo m H w (mark r::ds)
theorem Marks.le {lo:Nat} {m:Mp} {H:Heap} {w:World} {ds:List Deferred} (h:Marks lo m H w ds):lo≤w.heap.size:=by
 induction h with
 | nil h=>exact h
 | cons _ _ _ _ _ _ _ ih=>exact ih
theorem Marks.sim {lo:Nat} {m m':Mp} {H H':Heap} {w w':World} {ds:List Deferred} (h:Marks lo m H w ds) (hs:Sim m H w m' H' w'):Marks lo m' H' w' ds:=by
 induction h with
 | nil h=>exact .nil (Nat.le_trans h hs.keep.size)
 | cons r ds h0 h1 h2 h3 _ ih =>
   have hlt:r < w.heap.size:=by
    rcases Nat.lt_or_ge r w.heap.size with hlt | hge
    ·exact hlt
    ·rw [Array.getElem?_eq_none hge] at h1;cases h1
   refine .cons r ds h0 ((hs.keep.block r hlt h2).trans h1) (fun ho=>?_) h3 ih
   rcases hs.fresh r ho with ho | ho
   ·exact h2 ho
   ·omega
def RdR (m:Mp) (b:Frame):Option Nat→Prop
 | none=>b.roundOf=none
 | some L=>∃ l,m L=some l∧b.roundOf=some l.g
theorem RdR.mono {m m':Mp} (hm:Ext m m') {b:Frame} {rd:Option Nat} (h:RdR m b rd):RdR m' b rd:=by
 cases rd with
 | none=>exact h
 | some L=>obtain ⟨l,h1,h2⟩:=h;exact ⟨l,hm _ _ h1,h2⟩
def Arrive (P:Program) (b:Frame) (tmps:Array Value) (ds:List Deferred) (c:Code) (k:List Item) (cs:List Frame) (w:World) (x:X) (tmps':Array Value) (ds':List Deferred) (w':World):Prop :=
 match x with
 | .normal=>Steps P (lone (onF b tmps ds (.code c::k)) cs w) (lone (onF b tmps' ds' k) cs w')
 | .exit id=>∃ k',exitTo id k'=exitTo id k∧Steps P (lone (onF b tmps ds (.code c::k)) cs w) (lone (onF b tmps' ds' (.code (.exit id)::k')) cs w')
 | .ret=>∃ k',Steps P (lone (onF b tmps ds (.code c::k)) cs w) (lone (onF b tmps' ds' (.code .ret::k')) cs w')
section
variable {P:Program} {call:CallF} {nt lo:Nat}
theorem Owned.lt {m:Mp} {H:Heap} {w:World} (hR:Rel m H w) {g:Nat} (h:Owned m H g):g < w.heap.size:=by
 obtain ⟨b,x,l,h1,h2,h3,rfl⟩:=h
 exact (hR.blk b x l h1 h2).lt (by cases x<;>first | rfl | cases h3)
def OutC (P:Program) (nt lo:Nat) (b:Frame) (rd:Option Nat) (c:Code) (m:Mp) (H:Heap) (w:World) (tmps:Array Value) (ds:List Deferred) (x:X) (a':Fr) (H':Heap):Prop :=
 ∀ k cs,∃ m' w' tmps' ds',Sim m H w m' H' w'∧FR m' nt a' tmps'∧Marks lo m' H' w' ds'∧(rd≠none→ds'=[])∧Arrive P b tmps ds c k cs w x tmps' ds' w'
theorem range_sim (hcall:CallOK P call) (b:Frame) (rd:Option Nat) {f:Operand} {params:Array Tmp} {assign body:Code} (hok:codeOk nt (.rangeFunc f params assign body)=true) {kk:Nat} {a a':Fr} {H H':Heap} {x:X}
  (h:evCode P call kk nt rd (.rangeFunc f params assign body) a H=some (x,a',H')) {m:Mp} {w:World} {tmps:Array Value} {ds:List Deferred} (hR:Rel m H w) (hf:FR m nt a tmps) (hM:Marks lo m H w ds) (hrd:RdR m b rd) (hds:rd≠none→ds=[]) :
  OutC P nt lo b rd (.rangeFunc f params assign body) m H w tmps ds x a' H':=by
 intro k cs
 simp only [codeOk,Bool.and_eq_true] at hok
 obtain ⟨⟨⟨hokf,hokp⟩,hoka⟩,hokb⟩:=hok
 simp only [evCode] at h
 split at h
 case isFalse=>cases h
 rename_i hrdok
 split at h
 case h_2=>cases h
 rename_i v H2 hc
 split at h
 case h_2=>cases h
 rename_i st pend nt2 t2 p2 a2 b2 hloop
 split at h
 ·cases h
 rename_i hst
 split at h
 case h_2=>cases h
 rename_i xx hj
 injection h with h;injection h with h1 h2;injection h2 with h2 h3
 subst h1;subst h2;subst h3
 -- the loop's block is laid
 have lay:∃ (w1:World) (dr g:Nat) (mk:List Deferred),(Instr.enterLoop b.fn tmps params assign body b.roundOf).run P w = .ok (g,mk) w1∧Sim m H w (psh m H.length ⟨g,0,0⟩) (H++[.loop .ready none nt a params.toList assign body]) w1 ∧
   Marks lo (psh m H.length ⟨g,0,0⟩) (H++[.loop .ready none nt a params.toList assign body]) w1 (mk++ds)∧(rd≠none→mk=[]):=by
  cases rd with
  | none =>
    have hb:b.roundOf=none:=hrd
    have s1:=Sim.junk hR (.deferred (some []))
    have hf1:=hf.mono s1.ext
    have s2:=Sim.push s1.rel (.loop { state:=.ready,pending:=none,fn:=b.fn,tmps:=tmps,params:=params,assign:=assign,body:=body,defers:=w.heap.size }) (.loop .ready none nt a params.toList assign body)
     ⟨(w.heap.push (.deferred (some []))).size,0,0⟩ rfl rfl ⟨b.fn,w.heap.size,tmps,by simp only;rw [Array.getElem?_push,if_pos rfl],hf.mono (.push _ hR.free),hoka,hokb,by simpa using hokp⟩
    refine ⟨_,w.heap.size,_,[mark w.heap.size],?_,s1.trans s2,?_,fun h=>absurd rfl h⟩
    ·rw [hb];rfl
    ·have hM2:=hM.sim (s1.trans s2)
     refine .cons _ _ hM.le ?_ ?_ ?_ hM2
     ·simp only
      rw [Array.getElem?_push,if_neg (by simp),qd0]
     ·rintro ⟨c,y,l,q1,q2,q3,q4⟩
      by_cases hcl:c=H.length
      ·subst hcl
       rw [qcq] at q2
       injection q2 with q2
       subst q2
       simp at q4
      ·have hlt:c < H.length:=by have:=qa9 q1;simp at this;omega
       rw [List.getElem?_append_left hlt] at q1
       rw [qci _ hcl] at q2
       have:=Owned.lt hR ⟨c,y,l,q1,q2,q3,q4⟩
       omega
     ·intro hin
      have:∀ ds,Marks lo m H w ds→mark w.heap.size ∉ ds:=by
       intro ds hM
       induction hM with
       | nil _=>simp
       | cons r ds h0 h1 h2 h3 h4 ih =>
         intro hin
         rcases List.mem_cons.1 hin with e | e
         ·have:w.heap.size=r:=by unfold mark at e;injection e with e _;injection e
          rw [← this] at h1
          simp at h1
         ·exact ih e
      exact this ds hM hin
  | some L =>
    obtain ⟨l,hl,hb⟩:=hrd
    unfold rdOk at hrdok
    simp only at hrdok
    split at hrdok
    ·rename_i st0 pd0 nt0 tm0 pr0 as0 bd0 hL
     obtain ⟨fn0,dd,tt,q1,_⟩:=hR.blk L _ l hL hl
     have s2:=Sim.push hR (.loop { state:=.ready,pending:=none,fn:=b.fn,tmps:=tmps,params:=params,assign:=assign,body:=body,defers:=dd }) (.loop .ready none nt a params.toList assign body)
      ⟨w.heap.size,0,0⟩ rfl rfl ⟨b.fn,dd,tmps,by simp only;rw [Array.getElem?_push,if_pos rfl],hf.mono (.push _ hR.free),hoka,hokb,by simpa using hokp⟩
     refine ⟨_,0,_,[],?_,s2,hM.sim s2,fun _=>rfl⟩
     simp [Instr.enterLoop,hb,Instr.getLoop,getObj,newObj,Sem.run,q1]
    ·cases hrdok
 obtain ⟨w1,_,g,mk,hrun,hs1,hM1,hmk⟩:=lay
 have hloc:psh m H.length ⟨g,0,0⟩ H.length=some (⟨g,0,0⟩:Loc):=qd2 hR _
 have hfv:=(hf.mono hs1.ext).opnd (x:=f) hokf
 obtain ⟨nx,sf,c1,c2,c3⟩:=hcall _ _ _ _ _ hc (psh m H.length ⟨g,0,0⟩) w1 (evC tmps f) #[.func (.yield g) #[] #[]] hs1.rel hfv (.cons (.a (.s (.yield _ _ hloc))) .nil)
 obtain ⟨m2,w2,v',c3,c4,c5⟩:=c3 (onF b tmps (mk++ds) (.inRangeFunc g::k)) cs
 have hloc2:=c3.ext _ _ hloc
 obtain ⟨fn2,dd2,tm2,e1,_⟩:=c3.rel.blk H.length _ _ hloop hloc2
 have hs3:=Sim.setObj (o:=.loop { state:=.exhausted,pending:=pend,fn:=fn2,tmps:=tm2,params:=p2.toArray,assign:=a2,body:=b2,defers:=dd2 }) c3.rel hloop hloc2 rfl (.dead _) (fun _ _ _ e=>by cases e) trivial
 have hsim:=(hs1.trans c3).trans hs3
 refine ⟨m2,_,tmps,mk++ds,hsim,hf.mono hsim.ext,(hM1.sim c3).sim hs3,fun h=>by rw [hmk h,hds h];rfl,?_⟩
 -- the steps
 have step1:step P (lone (onF b tmps ds (.code (.rangeFunc f params assign body)::k)) cs w) = .next (lone sf (onF b tmps (mk++ds) (.inRangeFunc g::k)::cs) w1):=by
  refine step_lone_go ?_
  have hev:=qm9 b tmps (mk++ds) (.inRangeFunc g::k)
  simp only [onF] at hev
  have hinv:(do let d ← resolve (evC tmps) { callee:=.value f,args:=#[.const (.func (.yield g) #[] #[])],argTypes:=#[] } 0;invoke d.target d.args:Sem Next).run P w1 = .ok nx w1:=by
   simpa [resolve,evC] using c1
  simp only [stepG,stepG.exec,onF,Sem.runT_eq,hrun,GStep.bare_after,hev]
  cases c2 with
  | enter f' args'=>simp [stepG.apply,hinv]
  | round l' f' t' a' b'=>simp [stepG.apply,hinv]
 have hfin:(onF b tmps (mk++ds) (.inRangeFunc g::k)).finish v'=onF b tmps (mk++ds) (.endRangeFunc g::k):=rfl
 have step2:step P (lone (onF b tmps (mk++ds) (.endRangeFunc g::k)) cs w2) = .next (lone (onF b tmps (mk++ds) ((pend.map Item.code).toList++k)) cs
   { w2 with heap:=w2.heap.setIfInBounds g (.loop { state:=.exhausted,pending:=pend,fn:=fn2,tmps:=tm2,params:=p2.toArray,assign:=a2,body:=b2,defers:=dd2 }) }):=by
  refine step_lone_go ?_
  have hend:(Instr.endLoop g).run P w2 = .ok pend { w2 with heap:=w2.heap.setIfInBounds g (.loop { state:=.exhausted,pending:=pend,fn:=fn2,tmps:=tm2,params:=p2.toArray,assign:=a2,body:=b2,defers:=dd2 }) }:=by
   simp only at e1
   simp [Instr.endLoop,Instr.getLoop,getObj,setObj,Sem.run,e1]
   exact fun e=>absurd e hst
  simp only [stepG,stepG.exec,onF,Sem.runT_eq,hend,GStep.bare_after]
  rfl
 have steps:Steps P (lone (onF b tmps ds (.code (.rangeFunc f params assign body)::k)) cs w) (lone (onF b tmps (mk++ds) ((pend.map Item.code).toList++k)) cs _) :=
  .head step1 (c5.trans (by rw [hfin];exact .one step2))
 cases pend with
 | none=>simp only [jumpX] at hj;injection hj with hj;subst hj;exact steps
 | some j =>
   cases j<;>first | (simp only [jumpX] at hj;cases hj;done) | skip
   ·simp only [jumpX] at hj;injection hj with hj;subst hj;exact ⟨k,rfl,steps⟩
   ·simp only [jumpX] at hj;injection hj with hj;subst hj;exact ⟨k,steps⟩
theorem qhk {id:Nat} {x:Item} {k:List Item} (hx:x.plain=true):exitTo id (x::k)=exitTo id k:=by cases x<;>first | rfl | cases hx
theorem loop_sim (b:Frame) (rd:Option Nat) {c:Code} {f:Fr→Heap→Option (X×Fr×Heap)} (hc:∀ {a a':Fr} {H H':Heap} {x:X} {m:Mp} {w:World} {tmps:Array Value} {ds:List Deferred},f a H=some (x,a',H')→Rel m H w→FR m nt a tmps→Marks lo m H w ds→RdR m b rd →
  (rd≠none→ds=[])→OutC P nt lo b rd c m H w tmps ds x a' H'):∀ (n:Nat) {a a':Fr} {H H':Heap} {x:X} {m:Mp} {w:World} {tmps:Array Value} {ds:List Deferred},loopN f n a H=some (x,a',H')→Rel m H w→FR m nt a tmps→Marks lo m H w ds→RdR m b rd →
  (rd≠none→ds=[])→∀ k cs,∃ m' w' tmps' ds',Sim m H w m' H' w'∧FR m' nt a' tmps'∧Marks lo m' H' w' ds'∧(rd≠none→ds'=[])∧match x with
   | .normal=>False
   | .exit id=>∃ k',exitTo id k'=exitTo id k∧Steps P (lone (onF b tmps ds (.code c::.inLoop c::k)) cs w) (lone (onF b tmps' ds' (.code (.exit id)::k')) cs w')
   | .ret=>∃ k',Steps P (lone (onF b tmps ds (.code c::.inLoop c::k)) cs w) (lone (onF b tmps' ds' (.code .ret::k')) cs w'):=by
 intro n
 induction n with
 | zero=>intro a a' H H' x m w tmps ds h;simp [loopN] at h
 | succ n ih =>
   intro a a' H H' x m w tmps ds h hR hf hM hrd hds k cs
   rw [loopN] at h
   split at h
   ·rename_i a1 H1 h1
    obtain ⟨m1,w1,t1,d1,s1,s2,s3,s4,s5⟩:=hc h1 hR hf hM hrd hds (.inLoop c::k) cs
    obtain ⟨m2,w2,t2,d2,q1,q2,q3,q4,q5⟩:=ih h s1.rel s2 s3 (hrd.mono s1.ext) s4 k cs
    refine ⟨m2,w2,t2,d2,s1.trans q1,q2,q3,q4,?_⟩
    have hs:=s5
    simp only [Arrive] at hs
    have hq:=q5
    have hs':=hs.trans (.one st_inLoop)
    cases x with
    | normal=>exact hq
    | exit id=>obtain ⟨k',e1,e2⟩:=hq;exact ⟨k',e1,hs'.trans e2⟩
    | ret=>obtain ⟨k',e2⟩:=hq;exact ⟨k',hs'.trans e2⟩
   ·rename_i hne
    obtain ⟨m1,w1,t1,d1,s1,s2,s3,s4,s5⟩:=hc h hR hf hM hrd hds (.inLoop c::k) cs
    refine ⟨m1,w1,t1,d1,s1,s2,s3,s4,?_⟩
    have hs:=s5
    cases x with
    | normal=>exact hne _ _ h
    | exit id=>obtain ⟨k',e1,e2⟩:=hs;exact ⟨k',by rw [e1,qhk rfl],e2⟩
    | ret=>obtain ⟨k',e2⟩:=hs;exact ⟨k',e2⟩
theorem qkf (hcall:CallOK P call) (hdraw:DrawOK P call nt) (b:Frame) (rd:Option Nat) (kk:Nat):∀ (c:Code),codeOk nt c=true→∀ {a a':Fr} {H H':Heap} {x:X} {m:Mp} {w:World} {tmps:Array Value} {ds:List Deferred},
  evCode P call kk nt rd c a H=some (x,a',H')→Rel m H w→FR m nt a tmps→Marks lo m H w ds→RdR m b rd→(rd≠none→ds=[])→OutC P nt lo b rd c m H w tmps ds x a' H':=by
 intro c
 induction c with
 | skip =>
   intro _ a a' H H' x m w tmps ds h hR hf hM hrd hds k cs
   simp only [evCode] at h
   injection h with h;injection h with h1 h2;injection h2 with h2 h3;subst h1;subst h2;subst h3
   exact ⟨m,w,tmps,ds,.refl hR,hf,hM,hds,Steps.one st_skip⟩
 | label l =>
   intro _ a a' H H' x m w tmps ds h hR hf hM hrd hds k cs
   simp only [evCode] at h
   injection h with h;injection h with h1 h2;injection h2 with h2 h3;subst h1;subst h2;subst h3
   exact ⟨m,w,tmps,ds,.refl hR,hf,hM,hds,Steps.one st_label⟩
 | region id ops draw =>
   intro hok a a' H H' x m w tmps ds h hR hf hM hrd hds k cs
   simp only [codeOk,Bool.and_eq_true] at hok
   have hops:∀ o∈ops.toList,operOk nt o=true:=List.all_eq_true.1 hok.1
   cases draw with
   | false =>
     simp only [evCode] at h
     split at h
     ·rename_i a1 H1 h1
      injection h with h;injection h with h1 h2;injection h2 with h2 h3;subst h1;subst h2;subst h3
      obtain ⟨m1,w1,t1,s1,s2,s3⟩:=ops_sim hcall hops ops.toList 0 rfl hR hf h1 b ds k cs
      refine ⟨m1,w1,t1,ds,s1,s2,hM.sim s1,hds,?_⟩
      refine .head st_region ?_
      have:=s3
      rw [List.range_eq_range']
      simpa using this
     ·cases h
   | true =>
     simp only [evCode] at h
     split at h
     ·rename_i a1 H1 h1
      injection h with h;injection h with h1 h2;injection h2 with h2 h3;subst h1;subst h2;subst h3
      have hj:Sim m H w m H { w with drawn:=w.drawn+1 }:=⟨.refl m,hR.world fun _ _=>rfl,⟨rfl,rfl,rfl,Nat.le_refl _,fun _ _ _=>rfl⟩,fun _ h=>.inl h,Nat.le_refl _,fun b l h=>.inl ⟨b,l,h,rfl⟩⟩
      obtain ⟨m1,w1,t1,s1,s2,s3⟩:=hdraw ops hops (by simpa using hok.2) _ _ _ _ h1 m { w with drawn:=w.drawn+1 } tmps (w.tape w.drawn (.order b.fn id)) hj.rel hf b ds k cs
      exact ⟨m1,w1,t1,ds,hj.trans s1,s2,hM.sim (hj.trans s1),hds,Steps.head st_draw s3⟩
     ·cases h
 | seq c d ihc ihd =>
   intro hok a a' H H' x m w tmps ds h hR hf hM hrd hds k cs
   simp only [codeOk,Bool.and_eq_true] at hok
   simp only [evCode] at h
   split at h
   ·rename_i a1 H1 h1
    obtain ⟨m1,w1,t1,d1,s1,s2,s3,s4,s5⟩:=ihc hok.1 h1 hR hf hM hrd hds (.code d::k) cs
    obtain ⟨m2,w2,t2,d2,q1,q2,q3,q4,q5⟩:=ihd hok.2 h s1.rel s2 s3 (hrd.mono s1.ext) s4 k cs
    refine ⟨m2,w2,t2,d2,s1.trans q1,q2,q3,q4,?_⟩
    have hs:Steps P _ _:=s5
    have hs':=Steps.head (ql9 (P:=P)) hs
    have hq:=q5
    cases x with
    | normal=>exact hs'.trans hq
    | exit id=>obtain ⟨k',e1,e2⟩:=hq;exact ⟨k',e1,hs'.trans e2⟩
    | ret=>obtain ⟨k',e2⟩:=hq;exact ⟨k',hs'.trans e2⟩
   ·rename_i hne
    obtain ⟨m1,w1,t1,d1,s1,s2,s3,s4,s5⟩:=ihc hok.1 h hR hf hM hrd hds (.code d::k) cs
    refine ⟨m1,w1,t1,d1,s1,s2,s3,s4,?_⟩
    have hs:=s5
    cases x with
    | normal=>exact absurd h (hne _ _)
    | exit id=>obtain ⟨k',e1,e2⟩:=hs;exact ⟨k',by rw [e1,qhk rfl],.head ql9 e2⟩
    | ret=>obtain ⟨k',e2⟩:=hs;exact ⟨k',.head ql9 e2⟩
 | cond c x y ihx ihy =>
   intro hok a a' H H' xx m w tmps ds h hR hf hM hrd hds k cs
   simp only [codeOk,Bool.and_eq_true] at hok
   simp only [evCode] at h
   have hc:=hf.opnd (x:=c) hok.1.1
   split at h
   ·rename_i hb
    rw [hb] at hc
    obtain ⟨m1,w1,t1,d1,s1,s2,s3,s4,s5⟩:=ihx hok.1.2 h hR hf hM hrd hds k cs
    refine ⟨m1,w1,t1,d1,s1,s2,s3,s4,?_⟩
    have hs:=s5
    have hst:=st_cond (P:=P) (b:=b) (ds:=ds) (k:=k) (cs:=cs) (w:=w) (x:=x) (y:=y) hc.bool_
    cases xx with
    | normal=>exact .head hst hs
    | exit id=>obtain ⟨k',e1,e2⟩:=hs;exact ⟨k',e1,.head hst e2⟩
    | ret=>obtain ⟨k',e2⟩:=hs;exact ⟨k',.head hst e2⟩
   ·rename_i hb
    rw [hb] at hc
    obtain ⟨m1,w1,t1,d1,s1,s2,s3,s4,s5⟩:=ihy hok.2 h hR hf hM hrd hds k cs
    refine ⟨m1,w1,t1,d1,s1,s2,s3,s4,?_⟩
    have hs:=s5
    have hst:=st_cond (P:=P) (b:=b) (ds:=ds) (k:=k) (cs:=cs) (w:=w) (x:=x) (y:=y) hc.bool_
    cases xx with
    | normal=>exact .head hst hs
    | exit id=>obtain ⟨k',e1,e2⟩:=hs;exact ⟨k',e1,.head hst e2⟩
    | ret=>obtain ⟨k',e2⟩:=hs;exact ⟨k',.head hst e2⟩
   ·cases h
 | block id c ih =>
   intro hok a a' H H' x m w tmps ds h hR hf hM hrd hds k cs
   simp only [codeOk] at hok
   simp only [evCode] at h
   split at h
   ·rename_i i a1 H1 h1
    obtain ⟨m1,w1,t1,d1,s1,s2,s3,s4,s5⟩:=ih hok h1 hR hf hM hrd hds (.inBlock id::k) cs
    split at h
    ·rename_i hi
     subst hi
     injection h with h;injection h with h1 h2;injection h2 with h2 h3;subst h1;subst h2;subst h3
     refine ⟨m1,w1,t1,d1,s1,s2,s3,s4,?_⟩
     obtain ⟨k',e1,e2⟩:=s5
     have e3:exitTo i k'=some k:=by rw [e1];simp [exitTo]
     exact .head qke (e2.trans (.one (st_exit e3)))
    ·rename_i hi
     injection h with h;injection h with h1 h2;injection h2 with h2 h3;subst h1;subst h2;subst h3
     refine ⟨m1,w1,t1,d1,s1,s2,s3,s4,?_⟩
     obtain ⟨k',e1,e2⟩:=s5
     refine ⟨k',?_,.head qke e2⟩
     rw [e1]
     have:(id == i)=false:=by simp;exact fun e=>hi e.symm
     simp [exitTo,this]
   ·rename_i hne
    obtain ⟨m1,w1,t1,d1,s1,s2,s3,s4,s5⟩:=ih hok h hR hf hM hrd hds (.inBlock id::k) cs
    refine ⟨m1,w1,t1,d1,s1,s2,s3,s4,?_⟩
    have hs:=s5
    cases x with
    | normal=>exact .head qke (Steps.trans hs (.one qto))
    | exit id'=>exact absurd h (hne _ _ _)
    | ret=>obtain ⟨k',e2⟩:=hs;exact ⟨k',.head qke e2⟩
 | loop c ih =>
   intro hok a a' H H' x m w tmps ds h hR hf hM hrd hds k cs
   simp only [codeOk] at hok
   simp only [evCode] at h
   obtain ⟨m1,w1,t1,d1,s1,s2,s3,s4,s5⟩:=loop_sim (P:=P) (nt:=nt) b rd (c:=c) (fun h hR hf hM hrd hds=>ih hok h hR hf hM hrd hds) kk h hR hf hM hrd hds k cs
   refine ⟨m1,w1,t1,d1,s1,s2,s3,s4,?_⟩
   have hs:=s5
   cases x with
   | normal=>exact hs.elim
   | exit id=>obtain ⟨k',e1,e2⟩:=hs;exact ⟨k',e1,.head st_loop e2⟩
   | ret=>obtain ⟨k',e2⟩:=hs;exact ⟨k',.head st_loop e2⟩
 | rangeFunc f params assign body _ _ =>
   intro hok a a' H H' x m w tmps ds h hR hf hM hrd hds k cs
   exact range_sim hcall b rd hok h hR hf hM hrd hds k cs
 | exit id =>
   intro _ a a' H H' x m w tmps ds h hR hf hM hrd hds k cs
   simp only [evCode] at h
   injection h with h;injection h with h1 h2;injection h2 with h2 h3;subst h1;subst h2;subst h3
   exact ⟨m,w,tmps,ds,.refl hR,hf,hM,hds,⟨k,rfl,.refl _ _⟩⟩
 | ret =>
   intro _ a a' H H' x m w tmps ds h hR hf hM hrd hds k cs
   simp only [evCode] at h
   injection h with h;injection h with h1 h2;injection h2 with h2 h3;subst h1;subst h2;subst h3
   exact ⟨m,w,tmps,ds,.refl hR,hf,hM,hds,⟨k,.refl _ _⟩⟩
 | scope c _=>intro _ a a' H H' x m w tmps ds h;simp [evCode] at h
 | goto l=>intro _ a a' H H' x m w tmps ds h;simp [evCode] at h
 | refuse s=>intro _ a a' H H' x m w tmps ds h;simp [evCode] at h
end
end Go.Abs
namespace Go.Abs
section
variable {P:Program}
theorem qqg {b:Frame} {tmps:Array Value} {r:Nat} {ds:List Deferred} {todo:List Item} {cs:List Frame} {w:World} (h:w.heap[r]?=some (.deferred (some []))) :
  step P (lone { onF b tmps (mark r::ds) todo with mode:=.returning } cs w) = .next (lone { onF b tmps ds todo with mode:=.returning } cs { w with heap:=w.heap.setIfInBounds r (.deferred none) }):=by
 refine step_lone_go ?_
 have hrun:(Instr.takeDeferred r).run P w = .ok [] { w with heap:=w.heap.setIfInBounds r (.deferred none) }:=by simp [Instr.takeDeferred,getObj,setObj,Sem.run,h]
 simp [stepG,unwind,onF,mark,hrun]
theorem BR.obj {m:Mp} {w:World} {l:Loc} {x:Blk} (h:BR m w l x) (hl:x.live=true) {ds:Option (List Deferred)}:w.heap[l.g]?≠some (.deferred ds):=by
 intro hd
 cases x with
 | dead=>cases hl
 | cells f own cs=>obtain ⟨C,el,fr,h,_⟩:=h;rw [hd] at h;injection h with h;cases h
 | map es=>obtain ⟨es',ck,h,_⟩:=h;rw [hd] at h;injection h with h;cases h
 | loop st pend nt tmps params assign body=>obtain ⟨fn,ds,tmps',h,_⟩:=h;rw [hd] at h;injection h with h;cases h
 | bld el hb n=>obtain ⟨_,p,v,h,_⟩:=h;rw [hd] at h;injection h with h;cases h
 | held s=>obtain ⟨cur,fz,h,_⟩:=h;rw [hd] at h;injection h with h;cases h
theorem qmb {lo:Nat} {m:Mp} {H:Heap}:∀ (ds:List Deferred) {w:World},Marks lo m H w ds→Rel m H w →
  ∃ w',(∀ (b:Frame) (tmps:Array Value) (todo:List Item) cs,Steps P (lone { onF b tmps ds todo with mode:=.returning } cs w) (lone { onF b tmps [] todo with mode:=.returning } cs w'))∧Rel m H w'∧w'.os=w.os∧w'.tape=w.tape∧w'.output=w.output∧w'.heap.size=w.heap.size ∧
    (∀ g,g < lo→w'.heap[g]?=w.heap[g]?)∧w'.drawn=w.drawn:=by
 intro ds
 induction ds with
 | nil=>intro w _ hR;exact ⟨w,fun _ _ _ cs=>.refl _ _,hR,rfl,rfl,rfl,rfl,fun _ _=>rfl,rfl⟩
 | cons d ds ih =>
   intro w hM hR
   cases hM with
   | cons r _ h0 h1 h2 h3 hM =>
     let w1:World:={ w with heap:=w.heap.setIfInBounds r (.deferred none) }
     have hget:∀ g,g≠r→w1.heap[g]?=w.heap[g]? := fun g hg=>by simp only [w1];rw [Array.getElem?_setIfInBounds,if_neg (fun e=>hg e.symm)]
     have hR1:Rel m H w1:=⟨hR.len,hR.has,fun c l hc=>by simpa [w1] using hR.bnd c l hc,fun c x l hx hl=>(hR.blk c x l hx hl).keep (.refl m) fun hlv=>hget _ fun e=>(hR.blk c x l hx hl).obj hlv (by rw [e];exact h1),hR.sep⟩
     have hM1:Marks lo m H w1 ds:=by
      have:∀ ds',mark r ∉ ds'→Marks lo m H w ds'→Marks lo m H w1 ds':=by
       intro ds' hn hM'
       induction hM' with
       | nil h=>exact .nil (by simpa [w1] using h)
       | cons q es g0 g1 g2 g3 _ ih' =>
         have hq:q≠r:=fun e=>hn (by rw [e];exact List.mem_cons_self ..)
         exact .cons q es g0 ((hget q hq).trans g1) g2 g3 (ih' fun h=>hn (List.mem_cons_of_mem _ h))
      exact this ds h3 hM
     obtain ⟨w',k1,k2,k3,k4,k5,k6,k7,k8⟩:=ih hM1 hR1
     refine ⟨w',fun b t td cs=>.head (qqg h1) (k1 b t td cs),k2,k3,k4,k5,by rw [k6];simp [w1],fun g hg=>(k7 g hg).trans (hget g (by omega)),k8⟩
theorem st_end {b:Frame} {tmps:Array Value} {ds:List Deferred} {cs:List Frame} {w:World} (hb:b.roundOf=none):step P (lone (onF b tmps ds []) cs w) = .next (lone { onF b tmps ds [] with mode:=.returning } cs w) :=
 step_lone_go (by simp [stepG,stepG.exec,onF,hb])
theorem st_ret {b:Frame} {tmps:Array Value} {ds:List Deferred} {k:List Item} {cs:List Frame} {w:World} (hb:b.roundOf=none):step P (lone (onF b tmps ds (.code .ret::k)) cs w) = .next (lone { onF b tmps ds (.code .ret::k) with mode:=.returning } cs w) :=
 step_lone_go (by simp [stepG,stepG.exec,onF,hb])
def resOne (tmps:Array Value):ResultVar→Sem Value
 | .tmp t=>pure (tmps.getD t undef)
 | .cell c t=>do loadVar t (← asAddr (tmps.getD c undef))
theorem results_eq (fn:Func) (tmps:Array Value):results fn tmps=(do let vs ← fn.results.mapM (resOne tmps);pure (if h:vs.size=1 then vs[0] else .tuple vs)):=by
 unfold results
 congr 2
theorem qnc {m:Mp} {H:Heap} {w:World} {nt:Nat} {a:Fr} {tmps:Array Value} (hR:Rel m H w) (hf:FR m nt a tmps):∀ {rs:List ResultVar} {vs:List Value},rs.all (resOk nt)=true→resList P a H rs=some vs →
  ∃ vs',(rs.mapM (resOne tmps)).run P w = .ok vs' w∧All2 (AR m) vs vs':=by
 intro rs
 induction rs with
 | nil=>intro vs _ h;simp only [resList] at h;injection h with h;subst h;exact ⟨[],rfl,.nil⟩
 | cons r rs ih =>
   intro vs hok h
   simp only [List.all_cons,Bool.and_eq_true] at hok
   have one:∀ {v':Value} {vs':List Value},(resOne tmps r).run P w = .ok v' w→(rs.mapM (resOne tmps)).run P w = .ok vs' w→((r::rs).mapM (resOne tmps)).run P w = .ok (v'::vs') w:=by
    intro v' vs' h1 h2
    simp only [List.mapM_cons,Sem.run_bind,h1,Result.andThen_ok,h2,Sem.run_pure]
   cases r with
   | tmp t =>
     simp only [resList] at h
     split at h
     ·rename_i cs hs
      cases hr:resList P a H rs with
      | none=>rw [hr] at h;cases h
      | some us =>
        rw [hr] at h
        simp only [Option.map_some] at h
        injection h with h
        subst h
        obtain ⟨vs',h1,h2⟩:=ih hok.2 hr
        have ht:t < nt:=by simpa [resOk] using hok.1
        exact ⟨tmps.getD t undef::vs',one rfl h1,.cons (qfd hs (hf.tmp ht)).2 h2⟩
     ·cases h
   | cell t ty =>
     simp only [resList] at h
     split at h
     ·rename_i v us hv hr
      injection h with h
      subst h
      obtain ⟨vs',h1,h2⟩:=ih hok.2 hr
      have ht:t < nt:=by simpa [resOk] using hok.1
      obtain ⟨r',h3,h4⟩:=qkz (P:=P) hR hv (hf.tmp ht)
      refine ⟨r'::vs',one ?_ h1,.cons h4 h2⟩
      have hp:∃ ad,tmps.getD t undef = .pointer (some ad):=by
       have hx:=hf.tmp ht
       unfold loadA at hv
       split at hv
       ·rename_i b o hat
        rw [hat] at hx
        obtain ⟨l,_,e⟩:=hx.ptr_
        exact ⟨_,e⟩
       ·cases hv
      obtain ⟨ad,hp⟩:=hp
      rw [hp] at h3
      simp only [Instr.loadAt,Instr.sureAddr,Sem.run_bind,Sem.run_pure,Result.andThen_ok] at h3
      simp only [resOne,Sem.run_bind,hp,asAddr,Sem.run_pure,Result.andThen_ok,h3]
     ·cases h
theorem pack_sound {m:Mp} {vs vs':List Value} (h:All2 (AR m) vs vs'):VR m (pack vs) (if h:vs'.toArray.size=1 then vs'.toArray[0] else .tuple vs'.toArray):=by
 cases h with
 | nil=>exact .tuple .nil
 | cons h t =>
   cases t with
   | nil=>exact .a h
   | cons h' t=>simp [pack];exact .tuple (.cons h (.cons h' t))
theorem qig {m:Mp} {H:Heap} {w:World} {nt:Nat} {a:Fr} {tmps:Array Value} {fn:Func} {vs:List Value} (hR:Rel m H w) (hf:FR m nt a tmps) (hok:fn.results.toList.all (resOk nt)=true) (h:resList P a H fn.results.toList=some vs) :
  ∃ v',(results fn tmps).run P w = .ok v' w∧VR m (pack vs) v':=by
 obtain ⟨vs',h1,h2⟩:=qnc hR hf hok h
 refine ⟨_,?_,pack_sound h2⟩
 have:(fn.results.mapM (resOne tmps)).run P w = .ok vs'.toArray w:=by
  rw [Array.mapM_eq_mapM_toList,← bind_pure_comp,Sem.run_bind,h1]
  rfl
 rw [results_eq]
 simp only [Sem.run_bind,this,Result.andThen_ok,Sem.run_pure]
theorem qr3 (vs:List Value):∀ (t:Nat),frOf vs t=vs.getD t undef:=by
 induction vs with
 | nil=>intro t;simp [frOf]
 | cons v vs ih=>intro t;cases t with | zero=>simp [frOf] | succ t=>simp [frOf,ih]
theorem qr4 {m:Mp} {vs vs':List Value} {nt:Nat} (h:All2 (VR m) vs vs') (hle:vs.length≤nt):FR m nt (frOf vs) (vs'.toArray++Array.replicate (nt - vs'.length) undef):=by
 have hl:=h.length
 refine ⟨by simp;omega,fun t ht=>?_⟩
 rw [qr3]
 by_cases h1:t < vs.length
 ·obtain ⟨y,h2,h3⟩:=h.get t _ (List.getElem?_eq_getElem h1)
  refine ⟨y,?_,?_⟩
  ·rw [Array.getElem?_append_left (by simp;omega)]
   simpa using h2
  ·rw [List.getD_eq_getElem?_getD,List.getElem?_eq_getElem h1];exact h3
 ·refine ⟨undef,?_,?_⟩
  ·rw [Array.getElem?_append_right (by simp;omega),Array.getElem?_replicate,if_pos (by simp;omega)]
  ·rw [List.getD_eq_getElem?_getD,List.getElem?_eq_none (by omega)];exact .undef m
theorem cap_rel {m:Mp} {l l':List Value} (h:All2 (PR m) l l'):All2 (VR m) l l':=h.mono fun _ _ h=>by cases h with | ptr b o l hl=>exact .a (.s (.ptr b o l hl))
theorem qr5 {call:CallF} {n:Nat} (hcall:CallOK P call) (hdraw:∀ nt,DrawOK P call nt) {f:FuncId} {fn:Func} {c:Code} (hfn:P.funcs[f]?=some fn) (hbody:fn.body=some c) (hok:funcOk fn c=true) {vs vs':List Value} (hle:vs.length≤fn.ntmps)
  {H H':Heap} {a:Fr} {x:X} (hx:x = .normal∨x = .ret) {rs:List Value} (hev:evCode P call n fn.ntmps none c (frOf vs) H=some (x,a,H')) (hres:resList P a H' fn.results.toList=some rs) {m:Mp} {w:World} (hR:Rel m H w) (hvs:All2 (VR m) vs vs') :
  Calls P f vs'.toArray w fun e w2=>∃ m' v',e = .returned v'∧Sim m H w m' H' w2∧VR m' (pack rs) v':=by
 intro cs
 unfold funcOk at hok
 simp only [Bool.and_eq_true] at hok
 let b:Frame:={ (default:Frame) with fn:=f,kind:=.normal,roundOf:=none }
 have hf:=qr4 hvs hle
 obtain ⟨m1,w1,t1,d1,s1,s2,s3,_,s5⟩:=qkf (lo:=w.heap.size) hcall (hdraw fn.ntmps) b none n c hok.1.1 hev hR hf (.nil (Nat.le_refl _)) rfl (fun h=>absurd rfl h) [] cs
 have enter:∀ cs,lone (Frame.enter P f vs'.toArray .normal) cs w=lone (onF b (vs'.toArray++Array.replicate (fn.ntmps - vs'.length) undef) [] [.code c]) cs w:=by
  intro cs
  simp [Frame.enter,hfn,hbody,onF,b]
 have leave:∃ todo,Steps P (lone (Frame.enter P f vs'.toArray .normal) cs w) (lone { onF b t1 d1 todo with mode:=.returning } cs w1):=by
  rcases hx with rfl | rfl
  ·exact ⟨[],by rw [enter];exact Steps.trans s5 (.one (st_end rfl))⟩
  ·obtain ⟨k',hk⟩:=s5
   exact ⟨_,by rw [enter];exact Steps.trans hk (.one (st_ret rfl))⟩
 obtain ⟨w2,k1,k2,k3,k4,k5,k6,k7,k8⟩:=qmb (P:=P) d1 s3 s1.rel
 have hsim:Sim m H w m1 H' w2:=⟨s1.ext,k2,⟨k3.trans s1.keep.os,k4.trans s1.keep.tape,k5.trans s1.keep.output,by rw [k6];exact s1.keep.size,fun g hg hn=>(k7 g hg).trans (s1.keep.block g hg hn)⟩,s1.fresh,s1.grow,s1.img⟩
 obtain ⟨v',r1,r2⟩:=qig (P:=P) k2 s2 hok.1.2 hres
 obtain ⟨todo,hs⟩:=leave
 exact ⟨.returned v',w2,_,⟨m1,v',rfl,hsim,r2⟩,hs.trans (k1 b t1 todo cs),rfl,rfl,rfl,rfl,fn,hfn,r1⟩
theorem putAll_rel {m:Mp} {nt:Nat}:∀ {ps:List Nat} {vs vs':List Value} {a:Fr} {tmps:Array Value},All2 (VR m) vs vs'→FR m nt a tmps→FR m nt (putAll a ps vs) ((ps.zip vs').foldl (fun tmps (p:Nat×Value)=>tmps.setIfInBounds p.1 p.2) tmps):=by
 intro ps
 induction ps with
 | nil=>intro vs vs' a tmps _ hf;cases vs<;>exact hf
 | cons p ps ih =>
   intro vs vs' a tmps hv hf
   cases hv with
   | nil=>exact hf
   | cons h t=>exact ih t (hf.put h p)
theorem st_begin {b:Frame} {tmps:Array Value} {ds:List Deferred} {k:List Item} {cs:List Frame} {w w':World} {g:Nat} (hb:b.roundOf=some g) (hr:(Instr.beginRound g).run P w = .ok () w') :
  step P (lone (onF b tmps ds (.beginRound::k)) cs w) = .next (lone (onF b tmps ds k) cs w') :=
 step_lone_go (by simp [stepG,stepG.exec,onF,hb,stepG.apply,hr,Frame.finish])
theorem qhl {b:Frame} {tmps:Array Value} {ds:List Deferred} {todo:List Item} {fr:Frame} {cs:List Frame} {w w':World} {g:Nat} {v:Value} (jump:Option Code) (hb:b.roundOf=some g) (hk:b.kind = .normal)
  (htodo:(todo=[]∧jump=none)∨(∃ k,todo = .code .ret::k∧jump=some .ret)∨(∃ id k,todo = .code (.exit id)::k∧exitTo id k=none∧jump=some (.exit id)))
  (hr:(Instr.endRound g jump).run P w = .ok v w'):step P (lone (onF b tmps ds todo) (fr::cs) w) = .next (lone (fr.finish v) cs w'):=by
 refine step_lone_go ?_
 rcases htodo with ⟨rfl,rfl⟩ | ⟨k,rfl,rfl⟩ | ⟨id,k,rfl,he,rfl⟩
 ·simp [stepG,stepG.exec,onF,hb,hr,doReturn,hk]
 ·simp [stepG,stepG.exec,onF,hb,hr,doReturn,hk]
 ·simp [stepG,stepG.exec,onF,hb,hr,doReturn,hk,he]
theorem round_sim {call:CallF} {n:Nat} (hcall:CallOK P call) (hdraw:∀ nt,DrawOK P call nt) {l nt:Nat} {assign body:Code} {H H1 H2:Heap} {a1 a2:Fr} {x:X} {loc:Loc} {m:Mp} {w:World} {a:Fr} {tmps:Array Value}
  (hoka:codeOk nt assign=true) (hokb:codeOk nt body=true) (f:FuncId)
  {st2:LoopState} {pd1 pd2:Option Code} {nt1 nt2:Nat} {tm1 tm2:Fr} {pr1 pr2:List Nat} {as1 as2 bd1 bd2:Code}
  (hR:Rel m H w) (hf:FR m nt a tmps) (hl:m l=some loc)
  (h1:evCode P call n nt (some l) assign a H=some (.normal,a1,H1)) (hl1:H1[l]?=some (.loop .ready pd1 nt1 tm1 pr1 as1 bd1))
  (h2:evCode P call n nt (some l) body a1 (H1.set l (.loop .busy pd1 nt1 tm1 pr1 as1 bd1))=some (x,a2,H2)) (hl2:H2[l]?=some (.loop st2 pd2 nt2 tm2 pr2 as2 bd2)) :
  ∀ fr cs,∃ m' w',Sim m H w m' (H2.set l (.loop (xState x) (xJump x) nt2 tm2 pr2 as2 bd2)) w' ∧
    Steps P (lone (Frame.round loc.g f tmps assign body .normal) (fr::cs) w) (lone (fr.finish (.bool (xBool x))) cs w'):=by
 intro fr cs
 have busySet:∀ {mm:Mp} {HH:Heap} {ww:World} {st pd nn tm pr ays bd},Rel mm HH ww→mm l=some loc→HH[l]?=some (.loop st pd nn tm pr ays bd)→∀ st' pd',∃ fn ds tm',ww.heap[loc.g]?=some (.loop { state:=st,pending:=pd,fn:=fn,tmps:=tm',params:=pr.toArray,assign:=ays,body:=bd,defers:=ds }) ∧
   Sim mm HH ww mm (HH.set l (.loop st' pd' nn tm pr ays bd)) { ww with heap:=ww.heap.setIfInBounds loc.g (.loop { state:=st',pending:=pd',fn:=fn,tmps:=tm',params:=pr.toArray,assign:=ays,body:=bd,defers:=ds }) }:=by
  intro mm HH ww st pd nn tm pr ays bd hRR hll hb st' pd'
  obtain ⟨fn,ds,tm',e1,e2⟩:=hRR.blk l _ loc hb hll
  refine ⟨fn,ds,tm',e1,Sim.setObj hRR hb hll rfl (.loop ..) (fun _ _ _ e=>by cases e) ⟨fn,ds,tm',?_,e2⟩⟩
  have hlt:loc.g < ww.heap.size:=by
   rcases Nat.lt_or_ge loc.g ww.heap.size with hlt | hge
   ·exact hlt
   ·rw [Array.getElem?_eq_none hge] at e1;cases e1
  simp only
  rw [Array.getElem?_setIfInBounds,if_pos rfl,if_pos hlt]
 let b:Frame:={ (default:Frame) with fn:=f,kind:=.normal,roundOf:=some loc.g }
 -- the assignment to the loop's variables
 obtain ⟨m1,w1,t1,d1,s1,s2,s3,s4,s5⟩:=qkf (lo:=0) hcall (hdraw nt) b (some l) n assign hoka h1 hR hf (.nil (Nat.zero_le _)) ⟨loc,hl,rfl⟩ (fun _=>rfl) [.beginRound,.code body] (fr::cs)
 obtain rfl:d1=[]:=s4 (by simp)
 obtain ⟨fn1,ds1,tm1',e1,q1⟩:=busySet s1.rel (s1.ext _ _ hl) hl1 .busy pd1
 obtain ⟨m2,w2,t2,d2,r1,r2,r3,r4,r5⟩:=qkf (lo:=0) hcall (hdraw nt) b (some l) n body hokb h2 q1.rel s2 (.nil (Nat.zero_le _)) ⟨loc,s1.ext _ _ hl,rfl⟩ (fun _=>rfl) [] (fr::cs)
 obtain rfl:d2=[]:=r4 (by simp)
 have hl2':=r1.ext _ _ (s1.ext _ _ hl)
 obtain ⟨fn2,ds2,tm2',e2,q2⟩:=busySet r1.rel hl2' hl2 (xState x) (xJump x)
 refine ⟨m2,_,((s1.trans q1).trans r1).trans q2,?_⟩
 have start:Frame.round loc.g f tmps assign body .normal=onF b tmps [] (.code assign::[.beginRound,.code body]):=rfl
 rw [start]
 have hbegin:(Instr.beginRound loc.g).run P w1 = .ok () { w1 with heap:=w1.heap.setIfInBounds loc.g (.loop { state:=.busy,pending:=pd1,fn:=fn1,tmps:=tm1',params:=pr1.toArray,assign:=as1,body:=bd1,defers:=ds1 }) }:=by
  simp [Instr.beginRound,Instr.getLoop,getObj,setObj,Sem.run,e1]
 have hend:∀ jump:Option Code,(Instr.endRound loc.g jump).run P w2 = .ok (.bool jump.isNone) { w2 with heap:=w2.heap.setIfInBounds loc.g (.loop { state:=if jump.isNone then .ready else .done,pending:=jump,fn:=fn2,tmps:=tm2',params:=pr2.toArray,assign:=as2,body:=bd2,defers:=ds2 }) }:=by
  intro jump
  simp [Instr.endRound,Instr.getLoop,getObj,setObj,Sem.run,e2]
 refine Steps.trans s5 (.head (st_begin rfl hbegin) ?_)
 have hlast:=r5
 cases x with
 | normal=>exact Steps.trans hlast (.one (qhl none rfl rfl (.inl ⟨rfl,rfl⟩) (hend none)))
 | exit id =>
   obtain ⟨k',g1,g2⟩:=hlast
   exact Steps.trans g2 (.one (qhl (some (.exit id)) rfl rfl (.inr (.inr ⟨id,k',rfl,by rw [g1];rfl,rfl⟩)) (hend (some (.exit id)))))
 | ret =>
   obtain ⟨k',g2⟩:=hlast
   exact Steps.trans g2 (.one (qhl (some .ret) rfl rfl (.inr (.inl ⟨k',rfl,rfl⟩)) (hend (some .ret))))
end
end Go.Abs
namespace Go.Abs
def evBody (P:Program) (call:CallF) (n:Nat):CallF:=fun fv args H =>
 match fv with
 | .func (.func f) first captured =>
   match P.funcs[f]? with
   | some fn=>match fn.body with
     | some c =>
       if funcOk fn c∧first.isEmpty∧(args++captured.toList).length≤fn.ntmps then
        match evCode P (call) n fn.ntmps none c (frOf (args++captured.toList)) H with
        | some (.normal,a,H')=>(resList P a H' fn.results.toList).map fun vs=>(pack vs,H')
        | some (.ret,a,H')=>(resList P a H' fn.results.toList).map fun vs=>(pack vs,H')
        | _=>none
       else none
     | none=>none
   | none=>none
 | .func (.yield l) _ _ =>
   match H[l]? with
   | some (.loop .ready _ nt tmps params assign body) =>
     if args.length=params.length then
      match evCode P (call) n nt (some l) assign (putAll tmps params args) H with
      | some (.normal,a,H1) =>
        match H1[l]? with
        | some (.loop .ready p1 nt1 tm1 pr1 as1 bd1) =>
          match evCode P (call) n nt (some l) body a (H1.set l (.loop .busy p1 nt1 tm1 pr1 as1 bd1)) with
          | some (x,_,H2) =>
            match H2[l]? with
            | some (.loop _ _ nt2 tm2 pr2 as2 bd2)=>some (.bool (xBool x),H2.set l (.loop (xState x) (xJump x) nt2 tm2 pr2 as2 bd2))
            | _=>none
          | none=>none
        | _=>none
      | _=>none
     else none
   | _=>none
 | _=>none
section
variable {P:Program}
theorem body_grow {call:CallF} (hg:CallGrow call) (n:Nat):CallGrow (evBody P call n):=by
 intro fv args H v H' h
 unfold evBody at h
 split at h
 ·split at h
  case h_2=>cases h
  split at h
  case h_2=>cases h
  split at h
  case isFalse=>cases h
  split at h
  ·rename_i a1 H1 hev
   have h2:H'=H1:=(fun {o:Option (List Value)} (h:o.map (fun vs=>(pack vs,H1))=some (v,H'))=>by
    cases o with
    | none=>cases h
    | some vs=>simp only [Option.map_some] at h;injection h with h;injection h with h1 h2;exact h2.symm) h
   subst h2
   exact qen hg hev
  ·rename_i a1 H1 hev
   have h2:H'=H1:=(fun {o:Option (List Value)} (h:o.map (fun vs=>(pack vs,H1))=some (v,H'))=>by
    cases o with
    | none=>cases h
    | some vs=>simp only [Option.map_some] at h;injection h with h;injection h with h1 h2;exact h2.symm) h
   subst h2
   exact qen hg hev
  ·cases h
 ·split at h
  case h_2=>cases h
  split at h
  case isFalse=>cases h
  split at h
  case h_2=>cases h
  rename_i hev1
  split at h
  case h_2=>cases h
  split at h
  case h_2=>cases h
  rename_i hev2
  split at h
  case h_2=>cases h
  injection h with h;injection h with h1 h2;subst h2
  have e1:=qen hg hev1
  have e2:=qen hg hev2
  simp at e2 ⊢
  omega
 ·cases h
theorem body_sim (hmix:P.follows .mixedOrders=true) {call:CallF} (hcall:CallOK P call) (hg:CallGrow call) (n:Nat):CallOK P (evBody P call n):=by
 intro fv args H v H' h m w fv' args' hR hfv hargs
 have hd:=fun nt=>drawOK hmix hcall hg nt
 unfold evBody at h
 split at h
 ·rename_i f first captured
  split at h
  case h_2=>cases h
  rename_i fn hfn
  split at h
  case h_2=>cases h
  rename_i c hbody
  split at h
  case isFalse=>cases h
  rename_i hcond
  obtain ⟨hok,hfirst,hle⟩:=hcond
  have hfv':∃ cap',fv' = .func (.func f) #[] cap'∧All2 (PR m) captured.toList cap'.toList:=by
   cases hfv with
   | a h=>cases h with
     | s h=>cases h with
       | func f cap cap' hc=>exact ⟨cap',rfl,hc⟩
  obtain ⟨cap',rfl,hcap⟩:=hfv'
  have hvs:All2 (VR m) (args++captured.toList) (args'.toList++cap'.toList):=hargs.append (cap_rel hcap)
  have fin:∀ (x:X) (a:Fr) (H1:Heap) rs,(x = .normal∨x = .ret)→evCode P call n fn.ntmps none c (frOf (args++captured.toList)) H=some (x,a,H1)→resList P a H1 fn.results.toList=some rs→v=pack rs→H'=H1 →
    ∃ nx sf,(do let d ← Deferred.ofValue (.func (.func f) #[] cap') args';invoke d.target d.args).run P w = .ok nx w∧Starts P nx sf∧∀ fr cs,∃ m' w' v',Sim m H w m' H' w'∧VR m' v v'∧Steps P (lone sf (fr::cs) w) (lone (fr.finish v') cs w'):=by
   rintro x a H1 rs hx hev hres rfl rfl
   have s3:=qr5 hcall hd hfn hbody hok hle hx hev hres hR hvs
   refine ⟨.enter f (args'++cap'),Frame.enter P f (args'++cap') .normal,?_,.enter _ _,fun fr cs=>?_⟩
   ·have hname:¬ fn.name = "runtime.NumGoroutine" := by
     unfold funcOk at hok
     simp only [Bool.and_eq_true,bne_iff_ne,ne_eq] at hok
     exact hok.2
    simp [Deferred.ofValue,invoke,callFunc,program,Sem.run,hfn,hname,hbody]
   ·obtain ⟨e,w2,fr2,⟨m',v',rfl,s1,s2⟩,k1,_,k2⟩:=s3 (fr::cs)
    have:(args'.toList++cap'.toList).toArray=args'++cap':=by simp
    rw [this] at k1
    exact ⟨m',w2,v',s1,s2,Steps.trans k1 (.one (step_leave_returned k2))⟩
  split at h
  ·rename_i a H1 hev
   cases hr:resList P a H1 fn.results.toList with
   | none=>rw [hr] at h;cases h
   | some rs =>
     rw [hr] at h
     simp only [Option.map_some] at h
     injection h with h;injection h with h1 h2
     exact fin _ a H1 rs (.inl rfl) hev hr h1.symm h2.symm
  ·rename_i a H1 hev
   cases hr:resList P a H1 fn.results.toList with
   | none=>rw [hr] at h;cases h
   | some rs =>
     rw [hr] at h
     simp only [Option.map_some] at h
     injection h with h;injection h with h1 h2
     exact fin _ a H1 rs (.inr rfl) hev hr h1.symm h2.symm
  ·cases h
 ·rename_i l fi ca
  split at h
  case h_2=>cases h
  rename_i pd0 nt tm0 pr0 as0 bd0 hl0
  split at h
  case isFalse=>cases h
  rename_i hlen
  split at h
  case h_2=>cases h
  rename_i a1 H1 hev1
  split at h
  case h_2=>cases h
  rename_i pd1 nt1 tm1 pr1 as1 bd1 hl1
  split at h
  case h_2=>cases h
  rename_i x a2 H2 hev2
  split at h
  case h_2=>cases h
  rename_i st2 pd2 nt2 tm2 pr2 as2 bd2 hl2
  injection h with h;injection h with e1 e2
  subst e1;subst e2
  have hfv':∃ loc,m l=some loc∧fv' = .func (.yield loc.g) #[] #[]:=by
   cases hfv with
   | a h=>cases h with
     | s h=>cases h with
       | yield b loc hl=>exact ⟨loc,hl,rfl⟩
  obtain ⟨loc,hl,rfl⟩:=hfv'
  obtain ⟨f,ds,tmps',hobj,hf0,hoka,hokb,hokp⟩:=hR.blk l _ loc hl0 hl
  have hf:=putAll_rel (ps:=pr0) hargs hf0
  have s1:=round_sim hcall hd (l:=l) (nt:=nt) hoka hokb f hR hf hl hev1 hl1 hev2 hl2
  refine ⟨.round loc.g f ((pr0.zip args'.toList).foldl (fun tmps (p:Nat×Value)=>tmps.setIfInBounds p.1 p.2) tmps') as0 bd0,_,?_,.round _ _ _ _ _,fun fr cs=>(s1 fr cs).elim fun m' h=>h.elim fun w' h=>⟨m',w',.bool (xBool x),h.1,.a (.s (.bool _)),h.2⟩⟩
  have hsz:args'.size=pr0.length:=by have:=hargs.length;simp at this;omega
  have hfold:(pr0.toArray.zip args').foldl (fun tmps (p:Nat×Value)=>tmps.setIfInBounds p.1 p.2) tmps'=(pr0.zip args'.toList).foldl (fun tmps (p:Nat×Value)=>tmps.setIfInBounds p.1 p.2) tmps':=by
   rw [← Array.foldl_toList,Array.toList_zip]
  simp only [Deferred.ofValue,invoke,Instr.yield,Instr.getLoop,getObj,Sem.run_bind,Sem.run_pure,Result.andThen_ok,Sem.run,hobj]
  have hz:(pr0.toArray.zip args').size=pr0.length:=by simp [hsz]
  simp [hsz]
  rw [← hz]
  exact hfold
 ·cases h
def orC (f g:CallF):CallF:=fun fv args H=>match f fv args H with
 | some r=>some r
 | none=>g fv args H
theorem orC_ok {f g:CallF} (hf:CallOK P f) (hg:CallOK P g):CallOK P (orC f g):=by
 intro fv args H v H' h
 unfold orC at h
 split at h
 ·rename_i r hr
  cases h
  exact hf fv args H v H' hr
 ·exact hg fv args H v H' h
theorem qr6 {f g:CallF} (hf:CallGrow f) (hg:CallGrow g):CallGrow (orC f g):=by
 intro fv args H v H' h
 unfold orC at h
 split at h
 ·rename_i r hr
  cases h
  exact hf fv args H v H' hr
 ·exact hg fv args H v H' h
def noC:CallF:=fun _ _ _=>none
theorem noC_ok:CallOK P noC:=fun _ _ _ _ _ h=>by cases h
theorem qnd:CallGrow noC:=fun _ _ _ _ _ h=>by cases h
def evB (P:Program) (base:CallF):Nat→CallF
 | 0=>base
 | n+1=>orC base (evBody P (evB P base n) n)
theorem qih {base:CallF} (hb:CallGrow base):∀ n,CallGrow (evB P base n):=by
 intro n
 induction n with
 | zero=>exact hb
 | succ n ih=>exact qr6 hb (body_grow ih n)
theorem qr7 (hmix:P.follows .mixedOrders=true) {base:CallF} (hb:CallOK P base) (hg:CallGrow base):∀ n,CallOK P (evB P base n):=by
 intro n
 induction n with
 | zero=>exact hb
 | succ n ih=>exact orC_ok hb (body_sim hmix ih (qih hg n) n)
end
end Go.Abs
namespace Go.Abs
inductive Arg where
 | imm (v:Value)
 | li (vs:List Value)
 | ag (l m:List Value)
def immOk:Value→Bool
 | .bool _ | .int _ _ | .string _=>true
 | .slice none 0 0=>true
 | .slice (some ⟨0,0,some _⟩) 0 _=>true
 | _=>false
def readArg0 (H:Heap) (v:Value):Option Arg :=
 match v with
 | .slice (some ⟨b,o,none⟩) n 1 =>
   match H[b]? with
   | some (.cells _ _ cs)=>if o+n≤cs.length∧((cs.drop o).take n).all plain then some (.li ((cs.drop o).take n)) else none
   | _=>none
 | v=>if immOk v then some (.imm v) else none
def readArg (H:Heap) (v:Value):Option Arg :=
 match v with
 | .agg cs=>match cs.toList with
   | [x,y]=>match readArg0 H x,readArg0 H y with
     | some (.li l),some (.li m)=>some (.ag l m)
     | _,_=>none
   | _=>none
 | v=>readArg0 H v
def mkVals (k:Nat):List Arg→List Value
 | []=>[]
 | .imm v::r=>v::mkVals k r
 | .li vs::r=>sliceA k 0 vs.length 1::mkVals (k+1) r
 | .ag l m::r=>.agg #[sliceA k 0 l.length 1,sliceA (k+1) 0 m.length 1]::mkVals (k+2) r
def mkHeap (k:Nat):List Arg→Heap
 | []=>[]
 | .imm _::r=>mkHeap k r
 | .li vs::r=>.cells k false vs::mkHeap (k+1) r
 | .ag l m::r=>.cells k false l::.cells (k+1) false m::mkHeap (k+2) r
def renS (r:Nat→Option Nat):Value→Option Value
 | .slice (some ⟨b,o,none⟩) n e=>(r b).map fun b'=>.slice (some ⟨b',o,none⟩) n e
 | v=>if immOk v then some v else none
def mapO {α β:Type} (f:α→Option β):List α→Option (List β)
 | []=>some []
 | x::xs=>match f x,mapO f xs with
   | some y,some ys=>some (y::ys)
   | _,_=>none
def renA (r:Nat→Option Nat):Value→Option Value
 | .agg cs=>(mapO (renS r) cs.toList).map fun l=>.agg ⟨l⟩
 | v=>renS r v
def renV (r:Nat→Option Nat):Value→Option Value
 | .tuple cs=>(mapO (renA r) cs.toList).map fun l=>.tuple ⟨l⟩
 | v=>renA r v
section
variable {ma mb:Mp} {r:Nat→Option Nat} (hr:∀ b b' l,r b=some b'→ma b=some l→mb b'=some l)
include hr
theorem qi8 {v u w:Value} (h:renS r v=some u) (hv:SR ma v w):SR mb u w:=by
 unfold renS at h
 split at h
 ·rename_i b o n e
  cases hb:r b with
  | none=>rw [hb] at h;cases h
  | some b' =>
    rw [hb] at h
    cases h
    cases hv with
    | slice b o n e c l hl h1 h2=>exact .slice b' o n e c l (hr _ _ _ hb hl) h1 h2
 ·split at h
  case isFalse=>cases h
  rename_i hi
  cases h
  unfold immOk at hi
  split at hi
  ·cases hv;exact .bool _
  ·cases hv;exact .int _ _
  ·cases hv;exact .string _
  ·cases hv;exact .sliceNil
  ·cases hv;exact .lost _ _ _ _
  ·cases hi
omit hr in
theorem qmc {R S:Value→Value→Prop} {f:Value→Option Value} (hf:∀ v u w,f v=some u→R v w→S u w):∀ {l l2:List Value} {l':List Value},mapO f l=some l2→All2 R l l'→All2 S l2 l':=by
 intro l
 induction l with
 | nil=>intro l2 l' h hl;cases h;cases hl;exact .nil
 | cons x xs ih =>
   intro l2 l' h hl
   unfold mapO at h
   split at h
   ·rename_i y ys h1 h2
    cases h
    cases hl with
    | cons hx ht=>exact .cons (hf _ _ _ h1 hx) (ih h2 ht)
   ·cases h
theorem qmd {v u w:Value} (h:renA r v=some u) (hv:AR ma v w):AR mb u w:=by
 unfold renA at h
 split at h
 ·rename_i cs
  cases hm:mapO (renS r) cs.toList with
  | none=>rw [hm] at h;cases h
  | some l =>
    rw [hm] at h
    cases h
    cases hv with
    | s h=>cases h
    | agg h=>exact .agg (qmc (R:=SR ma) (S:=SR mb) (fun v u w h1 h2=>qi8 hr h1 h2) hm h)
 ·rename_i hno
  cases hv with
  | s hv=>exact .s (qi8 hr h hv)
  | agg hv=>exact absurd rfl (hno _)
theorem renV_sound {v u w:Value} (h:renV r v=some u) (hv:VR ma v w):VR mb u w:=by
 unfold renV at h
 split at h
 ·rename_i cs
  cases hm:mapO (renA r) cs.toList with
  | none=>rw [hm] at h;cases h
  | some l =>
    rw [hm] at h
    cases h
    cases hv with
    | a h=>cases h with | s h=>cases h
    | tuple h=>exact .tuple (qmc (R:=AR ma) (S:=AR mb) (fun v u w h1 h2=>qmd hr h1 h2) hm h)
 ·rename_i hno
  cases hv with
  | a hv=>exact .a (qmd hr h hv)
  | tuple hv=>exact absurd rfl (hno _)
end
section
variable {m:Mp} {H:Heap} {w:World}
theorem qox {v u:Value} (h:readArg0 H v=some (.imm u)):immOk v=true∧u=v:=by
 unfold readArg0 at h
 split at h
 ·split at h
  ·split at h<;>cases h
  ·cases h
 ·split at h
  case isFalse=>cases h
  rename_i hi
  cases h
  exact ⟨hi,rfl⟩
theorem qqh {v:Value} {l r:List Value} (h:readArg0 H v=some (.ag l r)):False:=by
 unfold readArg0 at h
 split at h
 ·split at h
  ·split at h<;>cases h
  ·cases h
 ·split at h<;>cases h
theorem qf6 {v:Value} {a:Arg} (h:readArg H v=some a):readArg0 H v=some a∨∃ x y l r,v = .agg #[x,y]∧a = .ag l r∧readArg0 H x=some (.li l)∧readArg0 H y=some (.li r):=by
 unfold readArg at h
 split at h
 ·rename_i cs
  split at h
  case h_2=>cases h
  rename_i x y hxy
  split at h
  case h_2=>cases h
  rename_i l r h1 h2
  cases h
  refine .inr ⟨x,y,l,r,?_,rfl,h1,h2⟩
  cases cs
  simp at hxy
  rw [hxy]
 ·exact .inl h
theorem imm_SR {v v':Value} (hi:immOk v=true) (hv:VR m v v') (m':Mp):SR m' v v':=by
 unfold immOk at hi
 split at hi
 ·cases hv with | a hv=>cases hv with | s hv=>cases hv;exact .bool _
 ·cases hv with | a hv=>cases hv with | s hv=>cases hv;exact .int _ _
 ·cases hv with | a hv=>cases hv with | s hv=>cases hv;exact .string _
 ·cases hv with | a hv=>cases hv with | s hv=>cases hv;exact .sliceNil
 ·cases hv with | a hv=>cases hv with | s hv=>cases hv;exact .lost _ _ _ _
 ·cases hi
theorem qqi (hR:Rel m H w) {v v':Value} {us:List Value} (h1:readArg0 H v=some (.li us)) (hv:SR m v v') :
  ∃ l:Loc,l.g < w.heap.size∧(∀ (f:Nat) (m':Mp),BR m' w l (.cells f false us))∧∀ (ms:Mp) (k:Nat),ms k=some l→SR ms (sliceA k 0 us.length 1) v':=by
 unfold readArg0 at h1
 split at h1
 case h_2=>split at h1<;>cases h1
 rename_i b o n
 split at h1
 case h_2=>cases h1
 rename_i fam own cs hb
 split at h1
 case isFalse=>cases h1
 rename_i hc
 cases h1
 have hl:∃ l c,m b=some l∧v' = .slice (some ⟨l.g,l.o+o,none⟩) n c∧n≤c∧l.o+o+c*1≤l.N:=by
  cases hv with
  | slice b o n e c l hl h1 h2=>exact ⟨l,c,hl,rfl,h1,h2⟩
 obtain ⟨l,c,hml,rfl,hnc,hcN⟩:=hl
 obtain ⟨C,el,fr,q1,q2,q3,q4⟩:=hR.blk b _ l hb hml
 refine ⟨⟨l.g,l.o+o,l.N⟩,hR.bnd b l hml,fun f m'=>⟨C,el,fr,q1,q2,by simp,fun i v hv=>?_⟩,fun ms k hk=>?_⟩
 ·rw [List.getElem?_take] at hv
  split at hv
  case isFalse=>cases hv
  rw [List.getElem?_drop] at hv
  obtain ⟨v2,z1,z2⟩:=q4 _ _ hv
  have hp:plain v=true:=List.all_eq_true.1 hc.2 v (List.mem_of_getElem? (i:=i) (by rw [List.getElem?_take,if_pos (by assumption),List.getElem?_drop];exact hv))
  have:=z2.plain hp
  subst this
  refine ⟨v2,by simpa [Nat.add_assoc] using z1,?_⟩
  rcases VR.of_plain m' hp with ⟨h⟩ | h
  ·cases h with
   | s h=>exact h
   | agg h=>simp [plain] at hp
  ·simp [plain] at hp
 ·have hlen:((cs.drop o).take n).length=n:=by simp;omega
  unfold sliceA
  rw [hlen]
  exact .slice k 0 n 1 c ⟨l.g,l.o+o,l.N⟩ hk hnc (by simpa using hcN)
theorem args_rel (hR:Rel m H w):∀ {args args':List Value} {ays:List Arg} (k:Nat),mapO (readArg H) args=some ays→All2 (VR m) args args' →
  ∃ locs:List Loc,locs.length=(mkHeap k ays).length∧(∀ (i:Nat) (x:Blk) (l:Loc),(mkHeap k ays)[i]?=some x→locs[i]?=some l→x.owned=false∧l.g < w.heap.size∧∀ m',BR m' w l x) ∧
    ∀ ms:Mp,(∀ i,i < locs.length→ms (k+i)=locs[i]?)→All2 (VR ms) (mkVals k ays) args':=by
 intro args
 induction args with
 | nil =>
   intro args' ays k h hv
   cases h;cases hv
   exact ⟨[],rfl,fun i x l hx=>by simp [mkHeap] at hx,fun ms _=>.nil⟩
 | cons v vs ih =>
   intro args' ays k h hv
   cases hv with
   | cons hv ht =>
   rename_i v' vs'
   unfold mapO at h
   split at h
   case h_2=>cases h
   rename_i a as2 h1 h2
   cases h
   cases a with
   | imm u =>
     obtain ⟨locs,e1,e2,e3⟩:=ih k h2 ht
     rcases qf6 h1 with h1 | ⟨_,_,_,_,_,h1,_⟩
     case inr=>cases h1
     obtain ⟨hi,rfl⟩:=qox h1
     exact ⟨locs,e1,e2,fun ms hms=>.cons (.a (.s (imm_SR hi hv ms))) (e3 ms hms)⟩
   | li us =>
     obtain ⟨locs,e1,e2,e3⟩:=ih (k+1) h2 ht
     rcases qf6 h1 with h1 | ⟨_,_,_,_,_,h1,_⟩
     case inr=>cases h1
     have hv':SR m v v':=by
      unfold readArg0 at h1
      split at h1
      case h_2=>split at h1<;>cases h1
      cases hv with | a hv=>cases hv with | s hv=>exact hv
     obtain ⟨l,hb,hB,hS⟩:=qqi hR h1 hv'
     refine ⟨l::locs,by simp [mkHeap,e1],?_,?_⟩
     ·intro i x l1 hx hl1
      cases i with
      | zero =>
        simp [mkHeap] at hx hl1
        subst hx;subst hl1
        exact ⟨rfl,hb,hB _⟩
      | succ i =>
        simp [mkHeap] at hx hl1
        exact e2 i x l1 hx hl1
     ·intro ms hms
      refine .cons (.a (.s (hS ms k ?_))) (e3 ms fun i hi=>?_)
      ·have h0:=hms 0 (by simp)
       simpa using h0
      ·have:=hms (i+1) (by simp;omega)
       rw [show k+1+i=k+(i+1) by omega,this]
       simp
   | ag us ws =>
     obtain ⟨locs,e1,e2,e3⟩:=ih (k+2) h2 ht
     rcases qf6 h1 with h1 | ⟨x,y,l,r,rfl,h1,hx,hy⟩
     case inl=>exact (qqh h1).elim
     cases h1
     obtain ⟨x',y',rfl,sx,sy⟩:∃ x' y',v' = .agg #[x',y']∧SR m x x'∧SR m y y':=by
      cases hv with
      | a hv=>cases hv with
        | s hv=>cases hv
        | agg hv =>
          rename_i ds
          cases ds with
          | mk ds =>
            cases hv with
            | cons h1 hv=>cases hv with
              | cons h2 hv=>cases hv;exact ⟨_,_,rfl,h1,h2⟩
     obtain ⟨l1,hb1,hB1,hS1⟩:=qqi hR hx sx
     obtain ⟨l2,hb2,hB2,hS2⟩:=qqi hR hy sy
     refine ⟨l1::l2::locs,by simp [mkHeap,e1],?_,?_⟩
     ·intro i x l3 hx hl3
      match i,hx,hl3 with
      | 0,hx,hl3 =>
        simp [mkHeap] at hx hl3
        subst hx;subst hl3
        exact ⟨rfl,hb1,hB1 _⟩
      | 1,hx,hl3 =>
        simp [mkHeap] at hx hl3
        subst hx;subst hl3
        exact ⟨rfl,hb2,hB2 _⟩
      | i+2,hx,hl3 =>
        simp [mkHeap] at hx hl3
        exact e2 i x l3 hx hl3
     ·intro ms hms
      refine .cons (.a (.agg (.cons (hS1 ms k ?_) (.cons (hS2 ms (k+1) ?_) .nil)))) (e3 ms fun i hi=>?_)
      ·have h0:=hms 0 (by simp)
       simpa using h0
      ·have h0:=hms 1 (by simp)
       simpa using h0
      ·have:=hms (i+2) (by simp;omega)
       rw [show k+2+i=k+(i+2) by omega,this]
       simp
end
end Go.Abs
namespace Go.Abs
abbrev Res:=Value×List (List Value)
def MS (acc:List Nat) (v u:Value):Prop:=(immOk v=true∧u=v)∨∃ b j o n e,v = .slice (some ⟨b,o,none⟩) n e∧u = .slice (some ⟨j,o,none⟩) n e∧acc[j]?=some b
def MA (acc:List Nat) (v u:Value):Prop:=(∃ cs ds:Array Value,v = .agg cs∧u = .agg ds∧All2 (MS acc) cs.toList ds.toList)∨MS acc v u
def MV (acc:List Nat) (v u:Value):Prop:=(∃ cs ds:Array Value,v = .tuple cs∧u = .tuple ds∧All2 (MA acc) cs.toList ds.toList)∨MA acc v u
structure GoodRes (acc:List Nat) (H:Heap) (v:Value) (r:Res):Prop where
 val:MV acc v r.1
 len:r.2.length=acc.length
 blk:∀ (j b:Nat),acc[j]?=some b→∃ fam cs c,H[b]?=some (.cells fam true cs)∧r.2[j]?=some c∧All2 (MS acc) cs c
 fam:∀ (i j b c f:Nat) cs ds,i≠j→acc[i]?=some b→acc[j]?=some c→H[b]?=some (.cells f true cs)→H[c]?=some (.cells f true ds)→False
def LineOK (P:Program) (f:Nat) (ays:List Arg) (r:Res):Prop:=∀ (ms:Mp) (w:World) (args':Array Value),Rel ms (mkHeap 0 ays) w→All2 (VR ms) (mkVals 0 ays) args'.toList →
 ∃ nx sf,(do let d ← Deferred.ofValue (.func (.func f) #[] #[]) args';invoke d.target d.args).run P w = .ok nx w∧Starts P nx sf∧∀ fr cs,∃ acc v H m' w' v',GoodRes acc H v r∧Sim ms (mkHeap 0 ays) w m' H w'∧VR m' v v'∧Steps P (lone sf (fr::cs) w) (lone (fr.finish v') cs w')
theorem qr8 {P:Program} {f:Nat} {ays:List Arg} {r:Res} (h:∃ call v H acc,CallOK P call∧call (.func (.func f) #[] #[]) (mkVals 0 ays) (mkHeap 0 ays)=some (v,H)∧GoodRes acc H v r):LineOK P f ays r:=by
 obtain ⟨call,v,H,acc,hcall,hr,good⟩:=h
 intro ms w args' hR hms
 obtain ⟨nx,sf,r1,r2,r0⟩:=hcall _ _ _ _ _ hr ms w (.func (.func f) #[] #[]) args' hR (.a (.s (.func f _ _ .nil))) hms
 refine ⟨nx,sf,r1,r2,fun fr cs=>?_⟩
 obtain ⟨m',w',v',r3,r4,r5⟩:=r0 fr cs
 exact ⟨acc,v,H,m',w',v',good,r3,r4,r5⟩
def mkBlks (d j:Nat):List (List Value)→Option Heap
 | []=>some []
 | cs::r=>match mapO (renS fun b=>some (b+d)) cs,mkBlks d (j+1) r with
   | some c,some l=>some (.cells j true c::l)
   | _,_=>none
def tabC (spec:Nat→List Arg→Option Res):CallF:=fun fv args H =>
 match fv with
 | .func (.func f) first captured =>
   if first.isEmpty && captured.isEmpty then
    match mapO (readArg H) args with
    | some ays=>match spec f ays with
      | some (v,bs)=>match renV (fun b=>some (b+H.length)) v,mkBlks H.length H.length bs with
        | some v,some l=>some (v,H++l)
        | _,_=>none
      | none=>none
    | none=>none
   else none
 | _=>none
section
variable {acc:List Nat} {ma mb:Mp} (hr:∀ b j l,acc[j]?=some b→ma b=some l→mb j=some l)
include hr
theorem MS.sound {v u w:Value} (h:MS acc v u) (hv:SR ma v w):SR mb u w:=by
 rcases h with ⟨hi,rfl⟩ | ⟨b,j,o,n,e,rfl,rfl,hb⟩
 ·unfold immOk at hi
  split at hi
  ·cases hv;exact .bool _
  ·cases hv;exact .int _ _
  ·cases hv;exact .string _
  ·cases hv;exact .sliceNil
  ·cases hv;exact .lost _ _ _ _
  ·cases hi
 ·cases hv with
  | slice b o n e c l hl h1 h2=>exact .slice j o n e c l (hr _ _ _ hb hl) h1 h2
omit hr in
theorem All2.comp {R S:Value→Value→Prop} {M:Value→Value→Prop} (hf:∀ v u w,M v u→R v w→S u w):∀ {l l2 l':List Value},All2 M l l2→All2 R l l'→All2 S l2 l':=by
 intro l l2 l' h
 induction h generalizing l' with
 | nil=>intro hl;cases hl;exact .nil
 | cons h t ih=>intro hl;cases hl with | cons hx ht=>exact .cons (hf _ _ _ h hx) (ih ht)
theorem MA.sound {v u w:Value} (h:MA acc v u) (hv:AR ma v w):AR mb u w:=by
 rcases h with ⟨cs,ds,rfl,rfl,h⟩ | h
 ·cases hv with
  | s h=>cases h
  | agg h2=>exact .agg (h.comp (R:=SR ma) (S:=SR mb) (fun v u w h1 h2=>MS.sound hr h1 h2) h2)
 ·cases hv with
  | s hv=>exact .s (MS.sound hr h hv)
  | agg hv =>
    rcases h with ⟨hi,_⟩ | ⟨b,j,o,n,e,h,_,_⟩
    ·simp [immOk] at hi
    ·cases h
theorem MV.sound {v u w:Value} (h:MV acc v u) (hv:VR ma v w):VR mb u w:=by
 rcases h with ⟨cs,ds,rfl,rfl,h⟩ | h
 ·cases hv with
  | a h=>cases h with | s h=>cases h
  | tuple h2=>exact .tuple (h.comp (R:=AR ma) (S:=AR mb) (fun v u w h1 h2=>MA.sound hr h1 h2) h2)
 ·cases hv with
  | a hv=>exact .a (MA.sound hr h hv)
  | tuple hv =>
    rcases h with ⟨cs,ds,h,_,_⟩ | ⟨hi,_⟩ | ⟨b,j,o,n,e,h,_,_⟩
    ·cases h
    ·simp [immOk] at hi
    ·cases h
end
theorem mkBlks_get {d:Nat}:∀ {bs:List (List Value)} {j:Nat} {l:Heap},mkBlks d j bs=some l→l.length=bs.length∧∀ (i:Nat) (x:Blk),l[i]?=some x→∃ cs c,bs[i]?=some cs∧mapO (renS fun b=>some (b+d)) cs=some c∧x = .cells (j+i) true c:=by
 intro bs
 induction bs with
 | nil=>intro j l h;cases h;exact ⟨rfl,fun i x h=>by simp at h⟩
 | cons cs bs ih =>
   intro j l h
   unfold mkBlks at h
   split at h
   case h_2=>cases h
   rename_i c l2 h1 h2
   cases h
   obtain ⟨e1,e2⟩:=ih h2
   refine ⟨by simp [e1],fun i x hx=>?_⟩
   cases i with
   | zero=>simp at hx;subst hx;exact ⟨cs,c,rfl,h1,rfl⟩
   | succ i =>
     obtain ⟨cs2,c2,z1,z2,z3⟩:=e2 i x (by simpa using hx)
     exact ⟨cs2,c2,by simpa using z1,z2,by rw [z3];congr 1;omega⟩
theorem mapO_get {f:Value→Option Value}:∀ {l l2:List Value},mapO f l=some l2→l2.length=l.length∧∀ (i:Nat) (y:Value),l2[i]?=some y→∃ x,l[i]?=some x∧f x=some y:=by
 intro l
 induction l with
 | nil=>intro l2 h;cases h;exact ⟨rfl,fun i y h=>by simp at h⟩
 | cons x xs ih =>
   intro l2 h
   unfold mapO at h
   split at h
   case h_2=>cases h
   rename_i y ys h1 h2
   cases h
   obtain ⟨e1,e2⟩:=ih h2
   refine ⟨by simp [e1],fun i z hz=>?_⟩
   cases i with
   | zero=>simp at hz;subst hz;exact ⟨x,rfl,h1⟩
   | succ i=>simpa using e2 i z (by simpa using hz)
section
variable {P:Program}
theorem qgs (spec:Nat→List Arg→Option Res):CallGrow (tabC spec):=by
 intro fv args H v H' h
 unfold tabC at h
 split at h
 case h_2=>cases h
 split at h
 case isFalse=>cases h
 split at h
 case h_2=>cases h
 split at h
 case h_2=>cases h
 split at h
 case h_2=>cases h
 cases h
 simp
theorem qne {spec:Nat→List Arg→Option Res} (hs:∀ f ays r,spec f ays=some r→LineOK P f ays r):CallOK P (tabC spec):=by
 intro fv args H v H' h m w fv' args' hR hfv hargs
 unfold tabC at h
 split at h
 case h_2=>cases h
 rename_i f first captured
 split at h
 case isFalse=>cases h
 rename_i hemp
 simp only [Bool.and_eq_true,Array.isEmpty_iff] at hemp
 obtain ⟨rfl,rfl⟩:=hemp
 split at h
 case h_2=>cases h
 rename_i ays has
 split at h
 case h_2=>cases h
 rename_i v0 bs hspec
 split at h
 case h_2=>cases h
 rename_i v1 l hv1 hl
 injection h with h;injection h with e1 e2;subst e1;subst e2
 have hfv2:fv' = .func (.func f) #[] #[]:=by
  cases hfv with
  | a h=>cases h with
    | s h=>cases h with
      | func f cap cap' hc =>
        cases cap' with | mk cap' =>
        cases hc with | nil=>rfl
 subst hfv2
 obtain ⟨locs,la,lb,lc⟩:=args_rel hR 0 has hargs
 -- the small heap in the world
 let ms:Mp:=fun b=>locs[b]?
 have hms:All2 (VR ms) (mkVals 0 ays) args'.toList:=lc ms fun i hi=>by simp [ms]
 have hnone:∀ g,¬ Owned ms (mkHeap 0 ays) g:=by
  rintro g ⟨b,x,l,h1,h2,h3,_⟩
  have:=(lb b x l h1 h2).1
  rw [this] at h3;cases h3
 have hRs:Rel ms (mkHeap 0 ays) w:={
  len:=fun b l hb=>by have:=qa9 hb;omega
  has:=fun b x hx _=>by
   have:=qa9 hx
   exact ⟨locs[b]'(by omega),List.getElem?_eq_getElem _⟩
  bnd:=fun b l hb=>by
   have:=qa9 hb
   exact (lb b _ l (List.getElem?_eq_getElem (by omega)) hb).2.1
  blk:=fun b x l hx hb=>(lb b x l hx hb).2.2 ms
  sep:=fun b c x y l k _ hx hy hb hc ho=>by have:=(lb b x l hx hb).1;rw [this] at ho;cases ho }
 obtain ⟨nx,sf,r1,r2,r0⟩:=hs _ _ _ hspec ms w args' hRs hms
 refine ⟨nx,sf,r1,r2,fun fr0 cs0=>?_⟩
 obtain ⟨acc,v2,Hs',m',w',v',good,r3,r4,r5⟩:=r0 fr0 cs0
 -- the new blocks' places
 let m1:Mp:=fun j=>(acc[j]?).bind m'
 let m2:Mp:=fun b=>if b < H.length then m b else m1 (b - H.length)
 have c1:∀ b b' l,acc[b']?=some b→m' b=some l→m1 b'=some l:=fun b b' l h1 h2=>by simp [m1,h1,h2]
 have c2:∀ b b' l,(fun b=>some (b+H.length)) b=some b'→m1 b=some l→m2 b'=some l:=fun b b' l h1 h2=>by
  have h1:b+H.length=b':=Option.some.inj h1
  subst h1
  show (if b+H.length < H.length then m (b+H.length) else m1 (b+H.length - H.length))=some l
  rw [if_neg (by omega),Nat.add_sub_cancel]
  exact h2
 have hval:VR m2 v1 v':=renV_sound c2 hv1 (good.val.sound c1 r4)
 obtain ⟨ll,lg⟩:=mkBlks_get hl
 have hmold:∀ b,b < H.length→m2 b=m b:=fun b hb=>by simp [m2,hb]
 have hext:Ext m m2:=fun b l hb=>by rw [hmold b (hR.len b l hb)];exact hb
 -- a new block
 have new:∀ (b:Nat) x k,H.length≤b→(H++l)[b]?=some x→m2 b=some k→∃ b0 fam cs c c2 j,b=H.length+j∧acc[j]?=some b0∧Hs'[b0]?=some (.cells fam true cs)∧m' b0=some k∧All2 (MS acc) cs c∧mapO (renS fun b=>some (b+H.length)) c=some c2∧x = .cells (H.length+j) true c2:=by
  intro b x k hb hx hk
  obtain ⟨j,rfl⟩:∃ j,b=H.length+j:=⟨b - H.length,by omega⟩
  rw [List.getElem?_append_right (by omega)] at hx
  have hx:l[j]?=some x:=by simpa using hx
  obtain ⟨cs2,c2',z1,z2,z3⟩:=lg j x hx
  have hk2:m1 j=some k:=by
   have e:m2 (H.length+j)=m1 j:=by
    show (if H.length+j < H.length then m (H.length+j) else m1 (H.length+j - H.length))=_
    rw [if_neg (by omega),Nat.add_sub_cancel_left]
   rw [← e];exact hk
  cases ha:acc[j]? with
  | none=>simp [m1,ha] at hk2
  | some b0 =>
    obtain ⟨fam,cs,c,y1,y3,y2⟩:=good.blk j b0 ha
    have hk3:m' b0=some k:=by simpa [m1,ha] using hk2
    have z1:bs[j]?=some cs2:=z1
    rw [show (v0,bs).2=bs from rfl] at y3
    rw [y3] at z1
    cases z1
    exact ⟨b0,fam,cs,_,c2',j,rfl,ha,y1,hk3,y2,z2,z3⟩
 have old:∀ (b:Nat) x,b < H.length→(H++l)[b]?=some x→H[b]?=some x:=fun b x hb hx=>by rwa [List.getElem?_append_left hb] at hx
 have fresh:∀ b0 x k,Hs'[b0]?=some x→m' b0=some k→x.owned=true→w.heap.size≤k.g:=fun b0 x k h1 h2 h3=>by
  rcases r3.fresh k.g ⟨b0,x,k,h1,h2,h3,rfl⟩ with h | h
  ·exact absurd h (hnone _)
  ·exact h
 have same:∀ g,g < w.heap.size→w'.heap[g]?=w.heap[g]? := fun g hg=>r3.keep.block g hg (hnone g)
 refine ⟨m2,w',v',⟨hext,?_,?_,?_,by simp,?_⟩,hval,r5⟩
 ·constructor
  ·intro b k hb
   by_cases hlt:b < H.length
   ·simp;omega
   ·simp only [m2,if_neg hlt] at hb
    cases ha:acc[b - H.length]? with
    | none=>simp [m1,ha] at hb
    | some b0 =>
      have:=qa9 ha
      have hgl:=good.len
      simp [ll]
      simp at hgl
      omega
  ·intro b x hx hlive
   by_cases hlt:b < H.length
   ·obtain ⟨k,hk⟩:=hR.has b x (old b x hlt hx) hlive
    exact ⟨k,by rw [hmold b hlt];exact hk⟩
   ·have hb:=qa9 hx
    simp [ll] at hb
    have hgl:=good.len
    simp at hgl
    have hj:b - H.length < acc.length:=by omega
    obtain ⟨fam,cs,c,y1,y2,y3⟩:=good.blk (b - H.length) _ (List.getElem?_eq_getElem hj)
    obtain ⟨k,hk⟩:=r3.rel.has _ _ y1 rfl
    exact ⟨k,by simp [m2,hlt,m1,List.getElem?_eq_getElem hj,hk]⟩
  ·intro b k hb
   by_cases hlt:b < H.length
   ·rw [hmold b hlt] at hb
    exact Nat.lt_of_lt_of_le (hR.bnd b k hb) r3.keep.size
   ·simp only [m2,if_neg hlt,m1] at hb
    cases ha:acc[b - H.length]? with
    | none=>simp [ha] at hb
    | some b0=>rw [ha] at hb;exact r3.rel.bnd b0 k hb
  ·intro b x k hx hk
   by_cases hlt:b < H.length
   ·rw [hmold b hlt] at hk
    exact (hR.blk b x k (old b x hlt hx) hk).keep hext fun _=>same _ (hR.bnd b k hk)
   ·obtain ⟨b0,fam,cs,c,c2',j,rfl,z1,z2,z3,z4,z5,rfl⟩:=new b x k (by omega) hx hk
    obtain ⟨C,el,fr,q1,q2,q3,q4⟩:=r3.rel.blk b0 _ k z2 z3
    refine ⟨C,el,fr,q1,q2,q3,fun i y hy=>?_⟩
    obtain ⟨y1,e1,e2⟩:=(mapO_get z5).2 i y hy
    obtain ⟨y2,e3,e4⟩:=z4.getR i y1 e1
    obtain ⟨y3,e5,e6⟩:=q4 i y2 e3
    exact ⟨y3,e5,qi8 c2 e2 (e4.sound c1 e6)⟩
  ·intro b c x y kb kc hne hx hy hb hc hox hly hg
   by_cases h1:b < H.length
   ·by_cases h2:c < H.length
    ·rw [hmold b h1] at hb;rw [hmold c h2] at hc
     exact hR.sep b c x y kb kc hne (old b x h1 hx) (old c y h2 hy) hb hc hox hly hg
    ·obtain ⟨c0,fam,cs,c1',c2',j,rfl,z1,z2,z3,_⟩:=new c y kc (by omega) hy hc
     rw [hmold b h1] at hb
     have e1:=hR.bnd b kb hb
     have e2:=fresh _ _ _ z2 z3 rfl
     omega
   ·obtain ⟨b0,fam,cs,c1',c2',j,rfl,z1,z2,z3,z4,z5,z6⟩:=new b x kb (by omega) hx hb
    by_cases h2:c < H.length
    ·rw [hmold c h2] at hc
     have e1:=hR.bnd c kc hc
     have e2:=fresh _ _ _ z2 z3 rfl
     omega
    ·obtain ⟨c0,fam',cs',d1,d2,j',rfl,y1,y2,y3,y4,y5,y6⟩:=new c y kc (by omega) hy hc
     have hfam:fam≠fam':=fun e=>by subst e;exact good.fam j j' _ _ _ _ _ (by omega) z1 y1 z2 y2
     have hbc:b0≠c0:=fun e=>by
      subst e
      rw [z2] at y2
      injection y2 with y2
      injection y2 with y2
      exact hfam y2
     have:=r3.rel.sep b0 c0 _ _ kb kc hbc z2 y2 z3 y3 rfl rfl hg
     exact absurd this.1 hfam
 ·exact ⟨r3.keep.os,r3.keep.tape,r3.keep.output,r3.keep.size,fun g hg _=>same g hg⟩
 ·rintro g ⟨b,x,k,h1,h2,h3,h4⟩
  by_cases hlt:b < H.length
  ·rw [hmold b hlt] at h2
   exact .inl ⟨b,x,k,old b x hlt h1,h2,h3,h4⟩
  ·obtain ⟨b0,fam,cs,c,c2',j,rfl,z1,z2,z3,_⟩:=new b x k (by omega) h1 h2
   have:=fresh _ _ _ z2 z3 rfl
   exact .inr (by omega)
 ·intro b k hb
  by_cases hlt:b < H.length
  ·rw [hmold b hlt] at hb
   exact .inl ⟨b,k,hb,rfl⟩
  ·simp only [m2,if_neg hlt,m1] at hb
   cases ha:acc[b - H.length]? with
   | none=>simp [ha] at hb
   | some b0 =>
     rw [ha] at hb
     obtain ⟨fam,cs,c,y1,_⟩:=good.blk _ b0 ha
     exact .inr (fresh _ _ _ y1 hb rfl)
end
end Go.Abs
namespace Go.Abs
def TabOK (P:Program) (spec:Nat→List Arg→Option Res):Prop:=∀ f ays r,spec f ays=some r→LineOK P f ays r
end Go.Abs
namespace Go.Abs
section
variable {P:Program}
theorem body_calls (hmix:P.follows .mixedOrders=true) {call:CallF} (hcall:CallOK P call) (hg:CallGrow call) {n f:Nat} {args:List Value} {H H':Heap} {v:Value} (h:evBody P call n (.func (.func f) #[] #[]) args H=some (v,H'))
  {m:Mp} {w:World} {args':Array Value} (hR:Rel m H w) (hargs:All2 (VR m) args args'.toList) :
  Calls P f args' w fun e w2=>∃ m' v',e = .returned v'∧Sim m H w m' H' w2∧VR m' v v':=by
 have hd:=fun nt=>drawOK hmix hcall hg nt
 unfold evBody at h
 simp only at h
 split at h
 case h_2=>cases h
 rename_i fn hfn
 split at h
 case h_2=>cases h
 rename_i c hbody
 split at h
 case isFalse=>cases h
 rename_i hcond
 obtain ⟨hok,_,hle⟩:=hcond
 simp only [List.append_nil] at h hle
 have fin:∀ (x:X) (a:Fr) (H1:Heap),(x = .normal∨x = .ret)→evCode P call n fn.ntmps none c (frOf args) H=some (x,a,H1)→(resList P a H1 fn.results.toList).map (fun vs=>(pack vs,H1))=some (v,H') →
   Calls P f args' w fun e w2=>∃ m' v',e = .returned v'∧Sim m H w m' H' w2∧VR m' v v':=by
  intro x a H1 hx hev hr
  cases hres:resList P a H1 fn.results.toList with
  | none=>rw [hres] at hr;cases hr
  | some rs =>
    rw [hres] at hr
    cases hr
    have:=qr5 hcall hd hfn hbody hok hle hx hev hres hR hargs
    simpa using this
 split at h
 ·rename_i a H1 hev;exact fin _ a H1 (.inl rfl) hev h
 ·rename_i a H1 hev;exact fin _ a H1 (.inr rfl) hev h
 ·cases h
theorem rel_nil (w:World):Rel (fun _=>none) [] w where
 len:=fun b l h=>by cases h
 has:=fun b x h=>by simp at h
 bnd:=fun b l h=>by cases h
 blk:=fun b x l h=>by simp at h
 sep:=fun b c x y l k _ h=>by simp at h
end
end Go.Abs
namespace Go.Abs
structure Sta (G H:Heap):Prop where
 len:G.length≤H.length
 old:∀ b:Nat,b < G.length→H[b]?=G[b]?
 fam:∀ (b f:Nat) (cs:List Value),H[b]?=some (.cells f true cs)→G.length≤f
 cel:∀ (b:Nat) (x:Blk),G[b]?=some x→∃ f cs,x = .cells f false cs∧f < G.length
def Agr (G:Heap) (c2 c1:CallF):Prop:=∀ fv args H v H',Sta G H→c2 fv args H=some (v,H')→c1 fv args H=some (v,H')∧Sta G H'
section
variable {P:Program} {c1 c2:CallF} {a:Fr} {G H:Heap}
variable (hg:Agr G c2 c1)
include hg
omit hg in
end
end Go.Abs
