/-
  ONE LAW OF A CHAPTER: its program side is run by an interpreter that is proved sound; what it computes is shown to be what the law says. No conditions. Part 8 of 8.
-/
import Derived.Test.YtkmcmngpifalcaaGreatDoorMSg
import Derived.Test.YtkmcmngpifalcaaGreatDoorTie
import Derived.Test.YtkmcmngpifalcaaGreatDoorCards
import Derived.Lay
import Derived.SevenTiedAt
set_option linter.unusedSimpArgs false
set_option linter.unusedVariables false
set_option linter.unnecessarySimpa false
section
namespace Go.Proofs.YtkmcmngpifalcaaGreatDoor
open Go Go.Ab Go.Tx
abbrev Ts:=List Int×List Int×Unit
abbrev Ac:=Nm×List Int×List Int×List Int×List Int×Unit
abbrev Mc:=List Nm×List Ac×List Ts×Unit
abbrev qgg(a:Ac):Ts:=(a.2.1,a.2.2.1,())
abbrev dos(a:Ac):Ts:=(a.2.2.2.1,a.2.2.2.2.1,())
def shT(t:Ts):Prop:=t.1.length<=10/\t.2.1.length<=10
instance (t:Ts):Decidable (shT t):=by unfold shT;infer_instance
structure MB (m:Mc):Prop where
 fl:m.1.length<=10
 ac:m.2.1.length<=12
 hm:m.2.2.1.length<=6
 fn:∀s∈m.1,s.length<=30
 an:∀a∈m.2.1,a.1.length<=30/\shT (qgg a)/\shT (dos a)
 ht:∀t∈m.2.2.1,shT t
theorem qxm(t:Ts):qdK t=some (decide (shT t)):=by
 unfold qdK shT;by_cases h1:t.1.length<=10
 ·have h1':(t.1.length:Int)<=10:=by omega
  by_cases h2:t.2.1.length<=10
  ·have h2':(t.2.1.length:Int)<=10:=by omega
   simp [h1,h2,h1',h2']
  ·have h2':¬ (t.2.1.length:Int)<=10:=by omega
   simp [h1,h2,h1',h2']
 ·have h1':¬ (t.1.length:Int)<=10:=by omega
  simp [h1,h1']
theorem qEX(m:Mc):∃b,qkO m=some b/\(b=true->MB m):=by
 unfold qkO;by_cases g1:(m.1.length:Int) > 10
 ·exact ⟨false,by simp only [g1,decide_true,cond_true,qa],λh=>by cases h⟩
 by_cases g2:(m.2.1.length:Int) > 12
 ·exact ⟨false,by simp only [g1,g2,decide_true,decide_false,cond_true,cond_false,qa],λh=>by cases h⟩
 by_cases g3:(m.2.2.1.length:Int) > 6
 ·exact ⟨false,by simp only [g1,g2,g3,decide_true,decide_false,cond_true,cond_false,qa],λh=>by cases h⟩
 simp only [g1,g2,g3,decide_false,cond_false,qa];rw [qap m.1 _ (λ_ s=>if (s.length:Int) > 30 then some false else none) (λi a hi=>by
  have:=qY hi;rw [qQ hi];simp only [qa];by_cases h:(a.length:Int) > 30
  ·simp only [h,decide_true,cond_true,if_true,stp]
  ·simp only [h,decide_false,cond_false,if_false,stp];rw [wq (by omega) (by omega)]),qZ]
 cases hf1:qaX (λ_ (s:Nm)=>if (s.length:Int) > 30 then some false else none) 0 m.1 with
 |some r =>
  obtain ⟨i,a,_,h2,_⟩:=qaT hf1;split at h2
  ·cases h2;exact ⟨false,rfl,λh=>by cases h⟩
  ·cases h2
 |none =>
  simp only
  rw [qap m.2.1 _ (λ_ a=>if (a.1.length:Int) > 30\/¬ shT (qgg a)\/¬ shT (dos a)then some false else none) (λi a hi=>by
   have:=qY hi;rw [qQ hi];simp only [qa,qxm];by_cases h:(a.1.length:Int) > 30
   ·simp only [h,decide_true,cond_true,true_or,if_true,stp,qa]
   ·by_cases h2:shT (qgg a)
    ·by_cases h3:shT (dos a)
     ·simp only [h,h2,h3,decide_true,decide_false,cond_false,Bool.not_true,not_true,or_self,if_false,stp,qa];rw [wq (by omega) (by omega)]
     ·simp only [h,h2,h3,decide_true,decide_false,cond_false,cond_true,Bool.not_true,Bool.not_false,not_true,not_false_eq_true,or_true,if_true,stp,qa]
    ·simp only [h,h2,decide_true,decide_false,cond_false,cond_true,Bool.not_true,Bool.not_false,not_false_eq_true,or_true,true_or,if_true,stp,qa]),qZ]
  cases hf2:qaX (λ_ (a:Ac)=>if (a.1.length:Int) > 30\/¬ shT (qgg a)\/¬ shT (dos a)then some false else none) 0 m.2.1 with
  |some r =>
   obtain ⟨i,a,_,h2,_⟩:=qaT hf2;split at h2
   ·cases h2;exact ⟨false,rfl,λh=>by cases h⟩
   ·cases h2
  |none =>
   simp only
   rw [qap m.2.2.1 _ (λ_ a=>if ¬ shT a then some false else none) (λi a hi=>by
    have:=qY hi;rw [qQ hi];simp only [qa,qxm];by_cases h:shT a
    ·simp only [h,decide_true,cond_false,Bool.not_true,not_true,if_false,stp];rw [wq (by omega) (by omega)]
    ·simp only [h,decide_false,cond_true,Bool.not_false,not_false_eq_true,if_true,stp]),qZ]
   cases hf3:qaX (λ_ (a:Ts)=>if ¬ shT a then some false else none) 0 m.2.2.1 with
   |some r =>
    obtain ⟨i,a,_,h2,_⟩:=qaT hf3;split at h2
    ·cases h2;exact ⟨false,rfl,λh=>by cases h⟩
    ·cases h2
   |none =>
    refine ⟨true,rfl,λ_=>⟨by omega,by omega,by omega,λs hs=>?_,λa ha=>?_,λt ht=>?_⟩⟩
    ·obtain ⟨i,hi⟩:=List.mem_iff_getElem?.1 hs;have:=qay.1 hf1 i s hi;by_cases h:(s.length:Int) > 30
     ·simp only [h,if_true]at this;cases this
     ·omega
    ·obtain ⟨i,hi⟩:=List.mem_iff_getElem?.1 ha;have:=qay.1 hf2 i a hi;by_cases h:(a.1.length:Int) > 30\/¬ shT (qgg a)\/¬ shT (dos a)
     ·simp only [h,if_true]at this;cases this
     ·simp only [not_or,Classical.not_not]at h;exact ⟨by omega,h.2⟩
    ·obtain ⟨i,hi⟩:=List.mem_iff_getElem?.1 ht;have:=qay.1 hf3 i t hi;by_cases h:¬ shT t
     ·simp only [h,not_false_eq_true,if_true]at this;cases this
     ·exact Classical.not_not.1 h
def LT(t:Ts):Prop:=t.1.length<=1000/\t.2.1.length<=1000
theorem shT.lt{t:Ts}(h:shT t):LT t:=⟨by have:=h.1;omega,by have:=h.2;omega⟩
structure LB (m:Mc):Prop where
 fl:m.1.length<=1000
 ac:m.2.1.length<=1000
 hm:m.2.2.1.length<=1000
 fn:∀s∈m.1,s.length<=1000
 an:∀a∈m.2.1,a.1.length<=1000/\LT (qgg a)/\LT (dos a)
 ht:∀t∈m.2.2.1,LT t
theorem MB.lb{m:Mc}(h:MB m):LB m :=
 ⟨by have:=h.fl;omega,by have:=h.ac;omega,by have:=h.hm;omega,λs hs=>by have:=h.fn s hs;omega,λa ha=>⟨by have:=(h.an a ha).1;omega,(h.an a ha).2.1.lt,(h.an a ha).2.2.lt⟩,λt ht=>(h.ht t ht).lt⟩
theorem qjr{t:Ts}(h:LT t):qaF t=some t:=by
 obtain ⟨h1,h2⟩:=h;unfold qaF;rw [qnX _ (by omega),qnX _ (by omega)];rfl
theorem qDI{m:Mc}(hb:LB m):qiI m=some m:=by
 have h1:=hb.fl;have h2:=hb.ac;have h3:=hb.hm;unfold qiI qcC;rw [quX (by omega)];simp only [qa];have k1:Ok (qA (λ(s4:(Int×(List Nm)×(List Ac)×(List Ts))) =>
   bif decide (s4.1<(m.2.1.length:Int))then
    (idx m.2.1 s4.1).bind λx5 =>
    (idx m.2.1 s4.1).bind λx6 =>
    (qaF (x6.2.1,x6.2.2.1,())).bind λx7 =>
    (idx m.2.1 s4.1).bind λx8 =>
    (qaF (x8.2.2.2.1,x8.2.2.2.2.1,())).bind λx9 =>
    (app s4.2.2.1 ([(x5.1,x7.1,x7.2.1,x9.1,x9.2.1,())])).bind λx10 =>
    some (.inl (w64 (s4.1+1),s4.2.1,x10,s4.2.2.2))
   else
    some (.inr (s4.2.1,s4.2.2.1,s4.2.2.2))) (0,m.1,[],[])) (λr=>r=(m.1,m.2.1,[])):=by
  refine qc0 m.2.1.length (λi (s:Int×List Nm×List Ac×List Ts)=>s=((i:Int),m.1,m.2.1.take i,[])) _ rfl ?_;rintro i s hi rfl;by_cases hlt:i<m.2.1.length
  ·obtain ⟨a,ha⟩:∃a,m.2.1[i]?=some a:=⟨_,List.getElem?_eq_getElem hlt⟩
   have h0:decide ((i:Int)<(m.2.1.length:Int))=true:=by simp<;>omega
   obtain ⟨_,b1,b2⟩:=hb.an a (List.mem_of_getElem? ha);simp only [h0,cond_true,qQ ha,qa];rw [qjr b1,qjr b2];simp only [qa];rw [qaf (by rw [List.length_take];omega)];simp only [qa];rw [wq (by omega) (by omega),qaZ];exact ⟨hlt,by rw [qbw a hlt,getD_at ha];simp⟩
  ·have:i=m.2.1.length:=by omega
   subst this;have h0:decide ((m.2.1.length:Int)<(m.2.1.length:Int))=false:=by simp
   simp only [h0,cond_false];rw [qag,List.take_length]
 rw [k1.eq];simp only [qa];have k2:Ok (qA (λ(s13:(Int×(List Nm)×(List Ac)×(List Ts))) =>
   bif decide (s13.1<(m.2.2.1.length:Int))then
    (idx m.2.2.1 s13.1).bind λx14 =>
    (qaF x14).bind λx15 =>
    (app s13.2.2.2 ([x15])).bind λx16 =>
    some (.inl (w64 (s13.1+1),s13.2.1,s13.2.2.1,x16))
   else
    some (.inr (s13.2.1,s13.2.2.1,s13.2.2.2))) (0,m.1,m.2.1,[])) (λr=>r=(m.1,m.2.1,m.2.2.1)):=by
  refine qc0 m.2.2.1.length (λi (s:Int×List Nm×List Ac×List Ts)=>s=((i:Int),m.1,m.2.1,m.2.2.1.take i)) _ rfl ?_;rintro i s hi rfl;by_cases hlt:i<m.2.2.1.length
  ·obtain ⟨a,ha⟩:∃a,m.2.2.1[i]?=some a:=⟨_,List.getElem?_eq_getElem hlt⟩
   have h0:decide ((i:Int)<(m.2.2.1.length:Int))=true:=by simp<;>omega
   have b1:=hb.ht a (List.mem_of_getElem? ha);simp only [h0,cond_true,qQ ha,qa];rw [qjr b1];simp only [qa];rw [qaf (by rw [List.length_take];omega)];simp only [qa];rw [wq (by omega) (by omega),qaZ];exact ⟨hlt,by rw [qbw a hlt,getD_at ha];simp⟩
  ·have:i=m.2.2.1.length:=by omega
   subst this;have h0:decide ((m.2.2.1.length:Int)<(m.2.2.1.length:Int))=false:=by simp
   simp only [h0,cond_false];rw [qag,List.take_length]
 rw [k2.eq];rfl
theorem qwF{α:Type}(g:Nat->α->Int):∀(l:List α) (k:Nat),qaX (λi a=>if g i a=0 then none else some (g i a)) k l=if (qaE g k l).2=0 then none else some (qaE g k l).2
 |[],k=>rfl
 |a::l,k=>by
  simp only [qaX,qaE];by_cases h:g k a=0
  ·simp only [h,if_true];exact qwF g l (k+1)
  ·simp [h]
theorem qu9{α σ:Type}(l:List α)(g:Nat->α->Int)(J:Nat->σ->Prop)(K:Int×σ->Option ((Int×σ)⊕(σ⊕(Int×Int×σ))))(s0:σ)(h0:J 0 s0)
  (h:∀(i:Nat) a s,l[i]?=some a->J i s->∃s',J (i+1) s'/\K ((i:Int),s)=some (if g i a=0 then .inl ((i:Int)+1,s')else .inr (.inr ((i:Int),g i a,s')))) :
  Ok ((qA (λs=>bif decide (s.1<(l.length:Int))then K s else some (.inr (.inl s.2))) (0,s0)).bind (Sum.elim (λp=>some (0,0,p)) some)) (λr=>(r.1,r.2.1)=qaE g 0 l):=by
 rw [qAw];refine (qc0 l.length (λi (s:Int×σ)=>s.1=(i:Int)/\J i s.2/\(qaE g 0 (l.take i)).2=0)
  (λr:σ⊕(Int×Int×σ)=>match r with
   |.inl _=>(qaE g 0 l)=(0,0)
   |.inr q=>(q.1,q.2.1)=qaE g 0 l) ⟨rfl,h0,rfl⟩ ?_).mono ?_
 ·rintro i ⟨i0,s⟩ hi ⟨e1,e2,e3⟩;simp only at e1 e2;subst e1;by_cases hlt:i<l.length
  ·have h0:decide ((i:Int)<(l.length:Int))=true:=by simp<;>omega
   obtain ⟨a,ha⟩:∃a,l[i]?=some a:=⟨_,List.getElem?_eq_getElem hlt⟩
   simp only [h0,cond_true];obtain ⟨s',hJ,hK⟩:=h i a s ha e2;rw [hK];by_cases hg:g i a=0
   ·rw [if_pos hg,qaZ];exact ⟨hlt,by simp,hJ,by rw [qlD ha,if_pos e3,hg]⟩
   ·rw [if_neg hg,qag];exact (qs8 ha e3 hg).symm
  ·have:i=l.length:=by omega
   subst this;have h0:decide ((l.length:Int)<(l.length:Int))=false:=by simp
   simp only [h0,cond_false];rw [qag];rw [List.take_length]at e3;exact qrz e3
 ·intro r hr;cases r with
  |inl p=>simp only at hr ⊢;rw [qfZ];exact hr.symm
  |inr q=>exact hr
def ixE(f:Int)(l:List Int)(i:Nat)(n:Int):Int:=if 0<=n/\n<=f-1 then (if 0<i/\n<=l.getD (i-1) 0 then 9 else 0)else 6
def qx2(f:Int)(l:List Int):Int:=(qaE (ixE f l) 0 l).2
theorem qku(l:List Int)(f:Int)(hl:l.length<=1000)(hf:0<=f/\f<=1000):qbu l f=some (qx2 f l):=by
 unfold qbu;have key:=qu9 l (ixE f l) (λi (p:Int)=>p=if i=0 then -1 else l.getD (i-1) 0) (λ(s2:Int×Int)=>(idx l s2.1).bind λx3 =>
     (qE x3 (0:Int) (w64 (f-1))).bind λx4 =>
     (qu x4 (6:Int)).bind λx5 =>
     (qu (decide (x3 > s2.2)) (9:Int)).bind λx6 =>
     (qy ([x5,x6])).bind λx7 =>
     bif !(decide (x7=0))then
      some (.inr (.inr (s2.1,x7,x3)))
     else
      some (.inl (w64 (s2.1+1),x3))) (-1) rfl (by
  rintro i a p ha rfl;have hlt:=qY ha;refine ⟨a,by simp [ha],?_⟩;rw [wq (by omega) (by omega),qQ ha];simp only [qa,wit,unl];rw [qyZ _ (by simp)];simp only [qa];rw [wq (by omega) (by omega)];unfold ixE;by_cases c1:0<=a/\a<=f-1
  ·by_cases c2:i=0
   ·subst c2;have c3:a > -1:=by omega
    simp [c1,c3,qjc]
   ·have c4:0<i:=by omega
    by_cases c3:a<=l.getD (i-1) 0
    ·have c3':¬ a > l.getD (i-1) 0:=by omega
     simp only [c1,c2,c3,c3',c4,and_self,decide_true,decide_false,if_true,if_false,qf,qjc];rfl
    ·have c3':a > l.getD (i-1) 0:=by omega
     simp only [c1,c2,c3,c3',c4,and_self,and_false,decide_true,decide_false,if_true,if_false,qf,qjc];rfl
  ·simp only [c1,decide_false,if_false,qf,qjc];rfl)
 obtain ⟨r,h1,h2⟩:=key;rw [h1];simp only [qa];unfold qx2;rw [<- h2]
theorem qkc(l:List Int)(f:Int)(hl:l.length<=1000)(hf:0<=f/\f<=1000):qbR l f=some (qx2 f l):=by
 unfold qbR;rw [qap l _ (λi n=>if ixE f l i n=0 then none else some (ixE f l i n)) (λi a hi=>by
  have hlt:=qY hi;rw [qQ hi];simp only [qa,Wit];rw [wq (n:=f-1) (by omega) (by omega)];unfold ixE;by_cases c1:0<=a/\a<=f-1
  ·by_cases c2:0<i
   ·have c2':(i:Int) > 0:=by omega
    have e1:((i:Int)-1)=((i-1:Nat):Int):=by omega
    obtain ⟨b,hb⟩:∃b,l[i-1]?=some b:=⟨_,List.getElem?_eq_getElem (by omega)⟩
    rw [wq (n:=(i:Int)-1) (by omega) (by omega),e1,qQ hb,getD_at hb];by_cases c3:a<=b
    ·simp [c1,c2,c2',c3,stp]
    ·simp only [c1,c2,c2',c3,and_self,and_false,decide_true,decide_false,Bool.not_true,cond_false,cond_true,qa,if_true,if_false,stp];rw [wq (by omega) (by omega)]
   ·have c2':¬ (i:Int) > 0:=by omega
    simp only [c1,c2,c2',and_self,false_and,decide_true,decide_false,Bool.not_true,cond_false,cond_true,qa,if_true,if_false,stp];rw [wq (by omega) (by omega)]
  ·simp [c1,stp]),qZ,qwF]
 unfold qx2;by_cases h:(qaE (ixE f l) 0 l).2=0<;>simp [h]
def tsE(f:Int)(t:Ts):Int:=if qx2 f t.1=0 then (if qx2 f t.2.1=0 then (if ∃x∈t.1,x∈t.2.1 then 13 else 0)else qx2 f t.2.1)else qx2 f t.1
theorem qsN(l:List Int)(x:Int)(hl:l.length<=1000000000):qam l x=some (decide (x∈l)):=by
 unfold qam qcf;rw [qap l _ (λi n=>if x=n then some (i:Int)else none) (λi a hi=>by
  have:=qY hi;rw [qQ hi];simp only [qa];by_cases h:x=a
  ·simp only [h,decide_true,cond_true,if_true,stp]
  ·simp only [h,decide_false,cond_false,if_false,stp];rw [wq (by omega) (by omega)]),qZ]
 cases hf:qaX (λi n=>if x=n then some (i:Int)else none) 0 l with
 |none =>
  have:x∉l:=λh=>by
   obtain ⟨i,hi⟩:=List.mem_iff_getElem?.1 h;have:=qay.1 hf i x hi;simp at this
  simp [this]
 |some r =>
  obtain ⟨i,a,h1,h2,_⟩:=qaT hf;by_cases h:x=a
  ·subst h;simp only [if_true,qb]at h2;have:x∈l:=List.mem_of_getElem? h1;have h3:r>=0:=by omega
   simp [this,h3]
  ·simp [h]at h2
theorem qml(t:Ts)(f:Int)(h:LT t)(hf:0<=f/\f<=1000):qaH t f=some (tsE f t):=by
 obtain ⟨h1,h2⟩:=h;unfold qaH;have key:=qDU t.1 (λx=>qam t.2.1 x) (λx=>decide (x∈t.2.1)) (λx _=>qsN _ _ (by omega)) (by omega);obtain ⟨p,e1,e2⟩:=qd.1 key;rw [e1];simp only [qa];rw [qku _ _ (by omega) hf,qku _ _ (by omega) hf];simp only [qa,unl];rw [Option.some.inj e2,qyZ _ (by simp)];simp only [qa];unfold tsE;by_cases c1:qx2 f t.1=0
 ·by_cases c2:qx2 f t.2.1=0
  ·by_cases c3:∃x∈t.1,x∈t.2.1
   ·simp [c1,c2,c3,qjc]
   ·simp [c1,c2,c3,qjc]
  ·simp [c1,c2,qjc]
 ·simp [c1,qjc]
theorem qlu(t:Ts)(f:Int)(h:LT t)(hf:0<=f/\f<=1000):qcn t f=some (tsE f t):=by
 obtain ⟨h1,h2⟩:=h;unfold qcn;rw [qkc _ _ (by omega) hf,qkc _ _ (by omega) hf];simp only [qa];unfold tsE;by_cases c1:qx2 f t.1=0
 ·by_cases c2:qx2 f t.2.1=0
  ·simp only [c1,c2,decide_true,Bool.not_true,cond_false,if_true];rw [qnA t.1.length _ (λj=>∃x,t.1[j]?=some x/\x∈t.2.1) (13:Int) (∃x∈t.1,x∈t.2.1) (by
    constructor
    ·rintro ⟨x,hx,hm⟩;obtain ⟨j,hj⟩:=List.mem_iff_getElem?.1 hx;exact ⟨j,qY hj,x,hj,hm⟩
    ·rintro ⟨j,_,x,hj,hm⟩;exact ⟨x,List.mem_of_getElem? hj,hm⟩) (λi hi=>by
    obtain ⟨a,ha⟩:∃a,t.1[i]?=some a:=⟨_,List.getElem?_eq_getElem hi⟩
    rw [qQ ha];simp only [qa];rw [qEK _ _ (by omega)];simp only [qa];by_cases c:a∈t.2.1
    ·simp [c,ha]
    ·simp only [c,decide_false,cond_false,ha,qb,exists_eq_left',if_false];rw [wq (by omega) (by omega)])]
   by_cases c3:∃x∈t.1,x∈t.2.1
   ·rw [if_pos c3,if_pos c3];rfl
   ·rw [if_neg c3,if_neg c3];rfl
  ·simp [c1,c2]
 ·simp [c1]
def nmE(l:List Nm)(i:Nat)(s:Nm):Int:=if isN s=true then (if s∈l.take i then 5 else 0)else 4
def acE(m:Mc)(i:Nat)(a:Ac):Int :=
 if isN a.1=true then (if a.1∈(m.2.1.take i).map (·.1)then 5 else if tsE m.1.length (qgg a)=0 then tsE m.1.length (dos a)else tsE m.1.length (qgg a))else 4
def hmE(m:Mc)(_:Nat)(t:Ts):Int:=tsE m.1.length t
def qne(m:Mc):Int×Int :=
 if (m.1.length:Int) > 0 then (if (m.1.length:Int)<=8/\(m.2.1.length:Int)<=10/\(m.2.2.1.length:Int)<=4 then
  (if (qaE (nmE m.1) 0 m.1).2=0 then (if (qaE (acE m) 0 m.2.1).2=0 then qaE (hmE m) 0 m.2.2.1 else qaE (acE m) 0 m.2.1)else qaE (nmE m.1) 0 m.1)else (0,8))else (0,10)
theorem qn5{m:Mc}(hb:LB m):qbN m=some (qne m):=by
 have h1:=hb.fl;have h2:=hb.ac;have h3:=hb.hm;unfold qbN qne;have c0:(bif decide ((m.1.length:Int)<=8)then bif decide ((m.2.1.length:Int)<=10)then some (decide ((m.2.2.1.length:Int)<=4))else some false else some false)
   = some (decide ((m.1.length:Int)<=8/\(m.2.1.length:Int)<=10/\(m.2.2.1.length:Int)<=4)):=by
  by_cases a1:(m.1.length:Int)<=8<;>by_cases a2:(m.2.1.length:Int)<=10<;>simp [a1,a2]
 rw [c0];simp only [unl,qa];rw [qyZ _ (by simp)];simp only [qa];by_cases g1:(m.1.length:Int) > 0
 ·by_cases g2:(m.1.length:Int)<=8/\(m.2.1.length:Int)<=10/\(m.2.2.1.length:Int)<=4
  ·rw [if_pos g1,if_pos g2,decide_eq_true g1,decide_eq_true g2];simp only [if_true,qjc,decide_true,Bool.not_true,cond_false];obtain ⟨r1,e1,q1⟩:=qu9 m.1 (nmE m.1) (λi (kn:List Nm)=>∀r,r∈kn↔r∈m.1.take i) (λs6=>(idx m.1 s6.1).bind λx7 =>
      (qaG x7).bind λx8 =>
      (qy ([if x8=true then 0 else 4,if (!(qgN .str s6.2 x7))=true then 0 else 5])).bind λx11 =>
      bif !(decide (x11=0))then
       some (.inr (.inr (s6.1,x11,qlt .str s6.2 x7)))
      else
       some (.inl (w64 (s6.1+1),qlt .str s6.2 x7))) [] (by simp) (by
    intro i a kn ha hk;have hlt:=qY ha;refine ⟨qlt .str kn a,λr=>by rw [qnI,hk,qbw a hlt,getD_at ha];simp,?_⟩;rw [qQ ha];simp only [qa];rw [qky a (by have:=hb.fn a (List.mem_of_getElem? ha);omega),qE8];simp only [qa];rw [qyZ _ (by simp)];simp only [qa];rw [wq (by omega) (by omega)];unfold nmE;by_cases a3:isN a=true
    ·by_cases a4:a∈m.1.take i
     ·have:a∈kn:=(hk a).2 a4;simp [a3,a4,this,qjc]
     ·have:a∉kn:=λh=>a4 ((hk a).1 h);simp [a3,a4,this,qjc]
    ·simp [a3,qjc])
   rw [e1];simp only [qa];by_cases E1:(qaE (nmE m.1) 0 m.1).2=0
   ·have E1':r1.2.1=0:=by rw [<- q1]at E1;exact E1
    rw [if_pos E1];simp only [E1',decide_true,Bool.not_true,cond_false];obtain ⟨r2,e2,q2⟩:=qu9 m.2.1 (acE m) (λi (kn:List Nm)=>∀r,r∈kn↔r∈(m.2.1.take i).map (·.1)) (λs15=>(idx m.2.1 s15.1).bind λx16 =>
       (qaG x16.1).bind λx17 =>
       (qy ([if x17=true then 0 else 4,if (!(qgN .str s15.2 x16.1))=true then 0 else 5])).bind λx20 =>
       (qaH (x16.2.1,x16.2.2.1,()) (m.1.length:Int)).bind λx21 =>
       (qaH (x16.2.2.2.1,x16.2.2.2.2.1,()) (m.1.length:Int)).bind λx22 =>
       (qy ([x20,x21,x22])).bind λx23 =>
       bif !(decide (x23=0))then
        some (.inr (.inr (s15.1,x23,qlt .str s15.2 x16.1)))
       else
        some (.inl (w64 (s15.1+1),qlt .str s15.2 x16.1))) [] (by simp) (by
     intro i a kn ha hk;have hlt:=qY ha;refine ⟨qlt .str kn a.1,λr=>by rw [qnI,hk,qbw a hlt,getD_at ha];simp,?_⟩;rw [qQ ha];simp only [qa];obtain ⟨b0,b1,b2⟩:=hb.an a (List.mem_of_getElem? ha);rw [qky a.1 (by omega),qE8];simp only [qa];rw [qyZ _ (by simp)];simp only [qa];rw [qml (qgg a) _ b1 (by omega),qml (dos a) _ b2 (by omega)];simp only [qa];rw [qyZ _ (by simp)];simp only [qa];rw [wq (by omega) (by omega)];unfold acE;by_cases a3:isN a.1=true
     ·by_cases a4:a.1∈(m.2.1.take i).map (·.1)
      ·have:a.1∈kn:=(hk a.1).2 a4;simp only [a3,a4,this,decide_true,Bool.not_true,qf,if_true,if_false,qjc];rfl
      ·have:a.1∉kn:=λh=>a4 ((hk a.1).1 h);simp only [a3,a4,this,decide_false,Bool.not_false,if_true,if_false,qjc];by_cases a5:tsE m.1.length (qgg a)=0
       ·by_cases a6:tsE m.1.length (dos a)=0
        ·simp [a5,a6]
        ·simp [a5,a6]
       ·simp [a5]
     ·simp [a3,qjc])
    rw [e2];simp only [qa];by_cases E2:(qaE (acE m) 0 m.2.1).2=0
    ·have E2':r2.2.1=0:=by rw [<- q2]at E2;exact E2
     rw [if_pos E2];simp only [E2',decide_true,Bool.not_true,cond_false];have e3:=qBT m.2.2.1 (λ_ t=>qaH t (m.1.length:Int)) (hmE m) (λi a ha=>qml a _ (hb.ht a (List.mem_of_getElem? ha)) (by omega)) (by omega);rw [e3];rfl
    ·have E2':r2.2.1≠0:=by rw [<- q2]at E2;exact E2
     rw [if_neg E2];simp only [E2',decide_false,Bool.not_false,cond_true];rw [q2]
   ·have E1':r1.2.1≠0:=by rw [<- q1]at E1;exact E1
    rw [if_neg E1];simp only [E1',decide_false,Bool.not_false,cond_true];rw [q1]
  ·rw [if_pos g1,if_neg g2,decide_eq_true g1,decide_eq_false g2];rfl
 ·rw [if_neg g1,decide_eq_false g1];rfl
theorem qnW{m:Mc}(hb:LB m):qb1 m=some (qne m):=by
 have h1:=hb.fl;have h2:=hb.ac;have h3:=hb.hm;unfold qb1 qne;by_cases g1:(m.1.length:Int) > 0
 ·have g1':¬ (m.1.length:Int)=0:=by omega
  rw [if_pos g1,decide_eq_false g1'];simp only [cond_false];by_cases g2:(m.1.length:Int)<=8/\(m.2.1.length:Int)<=10/\(m.2.2.1.length:Int)<=4
  ·obtain ⟨a1,a2,a3⟩:=g2;have a1':¬ (m.1.length:Int) > 8:=by omega
   have a2':¬ (m.2.1.length:Int) > 10:=by omega
   have a3':¬ (m.2.2.1.length:Int) > 4:=by omega
   rw [if_pos ⟨a1,a2,a3⟩];simp only [a1',a2',a3',decide_false,cond_false,qa];rw [qap m.1 _ (λi s=>if nmE m.1 i s=0 then none else some ((i:Int),nmE m.1 i s)) (λi a hi=>by
    have hlt:=qY hi;rw [qQ hi];simp only [qa];rw [qnZ];simp only [qa];unfold nmE;by_cases c1:isN a=true
    ·rw [qq4 (by omega)];simp only [qa,Int.toNat_natCast,Int.toNat_zero,List.drop_zero,c1,Bool.not_true,cond_false,if_true];rw [qik _ _ (by simp;omega)];simp only [qa];by_cases c2:a∈m.1.take i
     ·simp [c2,stp]
     ·simp only [c2,decide_false,cond_false,if_false,if_true,stp];rw [wq (by omega) (by omega)]
    ·simp [c1,stp]),qZ]
   have f1:=qe0 (nmE m.1) m.1 0;cases hf1:qaX (λi s=>if nmE m.1 i s=0 then none else some ((i:Int),nmE m.1 i s)) 0 m.1 with
   |some r =>
    rw [hf1]at f1;simp only at f1;have hr:r.2≠0:=by
     obtain ⟨i,a,_,h2,_⟩:=qaT hf1;split at h2
     ·cases h2
     ·rename_i h;cases h2;exact h
    simp only
    rw [f1,if_neg (by rw [<- Option.some.inj f1];exact hr)]
   |none =>
    rw [hf1]at f1;simp only at f1 ⊢;rw [if_pos (by rw [<- Option.some.inj f1])];rw [qap m.2.1 _ (λi s=>if acE m i s=0 then none else some ((i:Int),acE m i s)) (λi a hi=>by
     have hlt:=qY hi;obtain ⟨b0,b1,b2⟩:=hb.an a (List.mem_of_getElem? hi);rw [qQ hi];simp only [qa];rw [qnZ];simp only [qa];unfold acE;by_cases c1:isN a.1=true
     ·simp only [c1,Bool.not_true,cond_false,if_true];rw [qnA i _ (λj=>∃x,m.2.1[j]?=some x/\x.1=a.1) (.inr (.inr ((i:Int),5)):Int⊕(Unit⊕(Int×Int))) (a.1∈(m.2.1.take i).map (·.1)) (by
       rw [List.mem_map];constructor
       ·rintro ⟨x,hx,e⟩;obtain ⟨j,hj,hx⟩:=qeQ.1 hx;exact ⟨j,hj,x,hx,e⟩
       ·rintro ⟨j,hj,x,hx,e⟩;exact ⟨x,qeQ.2 ⟨j,hj,hx⟩,e⟩) (λj hj=>by
       obtain ⟨x,hx⟩:∃x,m.2.1[j]?=some x:=⟨_,List.getElem?_eq_getElem (by omega)⟩
       rw [qQ hx];simp only [qa];by_cases c:x.1=a.1
       ·simp [c,hx]
       ·simp only [c,decide_false,cond_false,hx,qb,exists_eq_left',if_false];rw [wq (by omega) (by omega)])]
      by_cases c2:a.1∈(m.2.1.take i).map (·.1)
      ·rw [if_pos c2,if_pos c2];rfl
      ·rw [if_neg c2,if_neg c2];simp only [qa,Sum.elim_inl];rw [qlu (qgg a) _ b1 (by omega),qlu (dos a) _ b2 (by omega)];simp only [qa];by_cases c3:tsE m.1.length (qgg a)=0
       ·by_cases c4:tsE m.1.length (dos a)=0
        ·simp only [c3,c4,decide_true,Bool.not_true,cond_false,if_true,stp];rw [wq (by omega) (by omega)]
        ·simp [c3,c4,stp]
       ·simp [c3,stp]
     ·simp [c1,stp]),qZ]
    have f2:=qe0 (acE m) m.2.1 0;cases hf2:qaX (λi s=>if acE m i s=0 then none else some ((i:Int),acE m i s)) 0 m.2.1 with
    |some r =>
     rw [hf2]at f2;simp only at f2;have hr:r.2≠0:=by
      obtain ⟨i,a,_,h2,_⟩:=qaT hf2;split at h2
      ·cases h2
      ·rename_i h;cases h2;exact h
     simp only
     rw [f2,if_neg (by rw [<- Option.some.inj f2];exact hr)]
    |none =>
     rw [hf2]at f2;simp only at f2 ⊢;rw [if_pos (by rw [<- Option.some.inj f2])];rw [qap m.2.2.1 _ (λi s=>if hmE m i s=0 then none else some ((i:Int),hmE m i s)) (λi a hi=>by
      have hlt:=qY hi;rw [qQ hi];simp only [qa];rw [qlu a _ (hb.ht a (List.mem_of_getElem? hi)) (by omega)];simp only [qa];unfold hmE;by_cases c3:tsE m.1.length a=0
      ·simp only [c3,decide_true,Bool.not_true,cond_false,if_true,stp];rw [wq (by omega) (by omega)]
      ·simp [c3,stp]),qZ]
     rw [<- qe0 (hmE m) m.2.2.1 0];cases qaX (λi s=>if hmE m i s=0 then none else some ((i:Int),hmE m i s)) 0 m.2.2.1<;>rfl
  ·rw [if_neg g2];have key:(bif decide ((m.1.length:Int) > 8)then some true else bif decide ((m.2.1.length:Int) > 10)then some true else some (decide ((m.2.2.1.length:Int) > 4)))=some true:=by
    by_cases a1:(m.1.length:Int) > 8
    ·simp [a1]
    ·by_cases a2:(m.2.1.length:Int) > 10
     ·simp [a1,a2]
     ·have a3:(m.2.2.1.length:Int) > 4:=by
       rw [not_and,not_and]at g2;have:=g2 (by omega) (by omega);omega
      simp [a1,a2,a3]
   rw [key];rfl
 ·have g1':(m.1.length:Int)=0:=by omega
  rw [if_neg g1,decide_eq_true g1'];rfl
end Go.Proofs.YtkmcmngpifalcaaGreatDoor
end
section
namespace Go.Proofs.YtkmcmngpifalcaaGreatDoor
open Go Go.Ab Go.Tx Go.Dec
theorem qoE(c:UInt8):∀(l:List Nm) (a:Nm),Lib.join (a::l) [c]=a++(l.map (c::·)).flatten
 |[],a=>by simp [Lib.join_one]
 |b::l,a=>by rw [qdJ,qoE c l b];simp
theorem qrA{α:Type}(f:α->Nm){B:Nat}:∀{l:List α},(∀a∈l,(f a).length<=B)->(l.map f).flatten.length<=l.length*B
 |[],_=>by simp
 |a::l,h=>by
  have h1:=h a (by simp);have h2:=qrA f (l:=l) λb hb=>h b (by simp [hb]);simp only [qh,List.flatten_cons,List.length_append,List.length_cons,Nat.add_mul];omega
theorem qti{α:Type}(f:α->Nm){B:Nat}{l:List α}(h:∀a∈l,(f a).length<=B)(i:Nat):((l.take i).map f).flatten.length<=l.length*B:=by
 have h1:=qrA f (l:=l.take i) λa ha=>h a (List.mem_of_mem_take ha);have h2:(l.take i).length<=l.length:=by rw [List.length_take];omega
 have:=Nat.mul_le_mul_right B h2;omega
theorem qcj{α:Type}(f:α->Nm){B:Nat}{l:List α}(h:∀a∈l,(f a).length<=B)(c:UInt8)(i:Nat):(Lib.join ((l.take i).map f) [c]).length<=l.length*(B+1):=by
 have h1:=qkH [c] (B:=B) ((l.take i).map f) λw hw=>by
  obtain ⟨a,ha,rfl⟩:=List.mem_map.1 hw;exact h a (List.mem_of_mem_take ha)
 have h2:(l.take i).length<=l.length:=by rw [List.length_take];omega
 have:=Nat.mul_le_mul_right (B+1) h2;simp only [List.length_map,List.length_singleton]at h1;omega
theorem qwJ{α:Type}{N:Nat}(f:α->Nm)(l:List α)(pre:Nm)(hb:∀i,(pre++((l.take i).map f).flatten).length<=N){B:Nm×Int->Option ((Nm×Int)⊕Nm)}
  (h1:∀(i:Nat) a (t:Nm),l[i]?=some a->t.length<=N->B (t,(i:Int))=some (.inl (t++f a,(i:Int)+1)))
  (h2:∀t,B (t,(l.length:Int))=some (.inr t)):qA B (pre,0)=some (pre++(l.map f).flatten):=by
 refine Ok.eq (qc0 l.length (λi (s:Nm×Int)=>s=(pre++((l.take i).map f).flatten,(i:Int))) _ (by simp) ?_);rintro i s hi rfl;by_cases hlt:i<l.length
 ·have ha:l[i]?=some l[i]:=by simp [hlt]
  rw [h1 i _ _ ha (hb i),qaZ];refine ⟨hlt,?_⟩;rw [qbw l[i] hlt,getD_at ha,List.map_append,List.flatten_append];simp only [qh,List.map_nil,List.flatten_cons,List.flatten_nil,List.append_nil,List.append_assoc];rfl
 ·have:i=l.length:=by omega
  subst this;rw [h2,qag,List.take_length]
theorem qpM{gs:List Gt}(hb:GS gs)(hs:∀g∈gs,qtq g.2.2.1):qcm gs=some (qhC gs):=by
 unfold qcm;have hlen:=hb.len;have hg:=qom hb hs;rw [qkq (N:=3000000000) qlJ 59 gs []]
 ·simp [qhC]
 ·intro i;have:=qcj qlJ hg 59 i;have:=Nat.mul_le_mul_right (248+1) hlen;simp only [List.nil_append]<;>omega
 ·intro i g t hi ht;have hlt:=qY hi;have hm:=List.mem_of_getElem? hi;have h0:decide ((i:Int)<(gs.length:Int))=true:=by simp<;>omega
  have hn:=hb.nm g hm;have hit:=qkA (hs g hm);simp only [h0,cond_true,qQ hi,qa];have hp:(bif decide ((i:Int) > 0)then (app t ([59])).bind λx3=>some x3 else some t)=some (if 0<i then t++[59]else t):=by
   by_cases c:0<i
   ·have:decide ((i:Int) > 0)=true:=by simp<;>omega
    simp only [this,cond_true,if_pos c];rw [qaf (by omega)];rfl
   ·have:decide ((i:Int) > 0)=false:=by simp<;>omega
    simp only [this,cond_false,if_neg c]
  rw [hp];simp only [qa];have hpl:(if 0<i then t++[(59:UInt8)]else t).length<=3000000001:=by
   split
   ·simp<;>omega
   ·omega
  rw [qd9 (by omega)];simp only [qa];rw [qaf (by rw [List.length_append];omega)];simp only [qa];rw [qp7 (hs g hm)];simp only [qa];rw [qd9 (by simp only [List.length_append,List.length_singleton];omega)];simp only [qa];rw [qwJ (N:=4000000000) (λw:Nm=>32::w) g.2.1]
  ·simp only [qa];rw [wid (by omega) (by omega)];unfold qlJ qfj;rw [qoE];simp
  ·intro j;have h1:=qti (λw:Nm=>32::w) (B:=31) (l:=g.2.1) (λw hw=>by have:=hb.rn g hm w hw;simp;omega) j;have h2:=Nat.mul_le_mul_right 31 (hb.rl g hm);simp only [List.length_append,List.length_singleton]<;>omega
  ·intro j w u hj hu;have hjl:=qY hj;have h1:decide ((j:Int)<(g.2.1.length:Int))=true:=by simp<;>omega
   have hw:=hb.rn g hm w (List.mem_of_getElem? hj);simp only [h1,cond_true,qQ hj,qa];rw [qaf (by omega)];simp only [qa];rw [qd9 (by simp only [List.length_append,List.length_singleton];omega)];simp only [qa];have:=hb.rl g hm;rw [wid (by omega) (by omega)];simp
  ·intro u;simp
 ·intro t;simp
def qmC(t:Ts):Nm:=signed 43 t.1++signed 45 t.2.1
def qql(a:Ac):Nm:=a.1++[58]++qmC (qgg a)++[62]++qmC (dos a)
def qDo(m:Mc):Nm:=Lib.join m.1 [44]++[47]++Lib.join (m.2.1.map qql) [59]++[47]++Lib.join (m.2.2.1.map qmC) [44]
def inT(t:Ts):Prop:=(∀z∈t.1,qtq z)/\∀z∈t.2.1,qtq z
structure inM (m:Mc):Prop where
 ac:∀a∈m.2.1,inT (qgg a)/\inT (dos a)
 hm:∀t∈m.2.2.1,inT t
theorem qif(c:UInt8){l:List Int}(h:∀z∈l,qtq z):(signed c l).length<=l.length*22 :=
 qrA (λz=>c::Lib.itoa z) λz hz=>by have:=qkA (h z hz);simp<;>omega
theorem qfI{t:Ts}(h:shT t)(hi:inT t):(qmC t).length<=440:=by
 have h1:=qif 43 hi.1;have h2:=qif 45 hi.2;have:=h.1;have:=h.2;unfold qmC;rw [List.length_append];omega
theorem okI{l:List Int}(hl:l.length<=10)(h:∀z∈l,qtq z):qqJ l=true:=by
 simp only [qqJ,qe,decide_eq_true_eq,List.all_eq_true];exact ⟨by omega,λz hz=>h z hz⟩
theorem qgE{t:Ts}(h:shT t)(hi:inT t):q9 t=some (qmC t):=by
 unfold q9;rw [okI h.1 hi.1,okI h.2 hi.2];rfl
theorem qgs{t:Ts}(h:shT t)(hi:inT t):qa1 t=some (qmC t):=by
 unfold qa1;have h10:=h.1;have h20:=h.2;have hl1:=qif 43 hi.1;have step:∀(c:UInt8) (l:List Int) (hl:l.length<=10) (hin:∀z∈l,qtq z) (pre:Nm) (hp:pre.length<=1000),qA (λ(s2:((List UInt8)×Int)) =>
   bif decide (s2.2<(l.length:Int))then
    (app s2.1 ([c])).bind λx3 =>
    (idx l s2.2).bind λx4 =>
    (qb4 x4).bind λx5 =>
    (app x3 x5).bind λx6 =>
    some (.inl (x6,w64 (s2.2+1)))
   else
    some (.inr s2.1)) (pre,0)=some (pre++signed c l):=by
  intro c l hl hin pre hp;refine qwJ (N:=4000000000) (λz=>c::Lib.itoa z) l pre ?_ ?_ ?_
  ·intro i;have h1:=qti (λz=>c::Lib.itoa z) (B:=22) (l:=l) (λz hz=>by have:=qkA (hin z hz);simp;omega) i;rw [List.length_append];omega
  ·intro i z u hi hu;have hlt:=qY hi;have h0:decide ((i:Int)<(l.length:Int))=true:=by simp<;>omega
   have hz:=hin z (List.mem_of_getElem? hi);have:=qkA hz;simp only [h0,cond_true];rw [qaf (by omega)];simp only [qa,qQ hi];rw [qp7 hz];simp only [qa];rw [qd9 (by simp only [List.length_append,List.length_singleton];omega)];simp only [qa];rw [wid (by omega) (by omega)];simp
  ·intro u;simp
 rw [step 43 t.1 h10 hi.1 [] (by simp)];simp only [qa];rw [step 45 t.2.1 h20 hi.2 _ (by simp only [List.nil_append];omega)];rfl
theorem qwH{a:Ac}(hn:a.1.length<=30)(h1:shT (qgg a))(h2:shT (dos a))(hi:inT (qgg a)/\inT (dos a)):(qql a).length<=912:=by
 have:=qfI h1 hi.1;have:=qfI h2 hi.2;unfold qql;simp only [List.length_append,List.length_singleton]<;>omega
theorem qrB{m:Mc}(hb:MB m)(hi:inM m):(Lib.join m.1 [44]).length<=310/\(Lib.join (m.2.1.map qql) [59]).length<=10956/\(Lib.join (m.2.2.1.map qmC) [44]).length<=2646:=by
 have h1:=qkH [44] (B:=30) m.1 hb.fn;have h2:=qcj qql (B:=912) (l:=m.2.1) (λa ha=>qwH (hb.an a ha).1 (hb.an a ha).2.1 (hb.an a ha).2.2 (hi.ac a ha)) 59 m.2.1.length;have h3:=qcj qmC (B:=440) (l:=m.2.2.1) (λt ht=>qfI (hb.ht t ht) (hi.hm t ht)) 44 m.2.2.1.length;rw [List.take_length]at h2 h3;have k1:=hb.fl;have k2:=hb.ac;have k3:=hb.hm;have e1:=Nat.mul_le_mul_right (30+1) k1;have e2:=Nat.mul_le_mul_right (912+1) k2;have e3:=Nat.mul_le_mul_right (440+1) k3;simp only [List.length_singleton]at h1;omega
theorem qzH{m:Mc}(hb:MB m)(hi:inM m):(qDo m).length<=14000:=by
 obtain ⟨h1,h2,h3⟩:=qrB hb hi;unfold qDo;simp only [List.length_append,List.length_singleton]<;>omega
theorem qmU{m:Mc}(hb:MB m)(hi:inM m):qbj m=some (qDo m):=by
 unfold qbj;obtain ⟨l1,l2,l3⟩:=qrB hb hi;have k1:=hb.fl;have k2:=hb.ac;have k3:=hb.hm;rw [qrC m.2.1 qql (λi a out hi' ho=>by
  have hlt:=qY hi';have hm:=List.mem_of_getElem? hi';have h0:decide ((i:Int)<(m.2.1.length:Int))=true:=by simp<;>omega
  obtain ⟨n1,n2,n3⟩:=hb.an a hm;obtain ⟨i1,i2⟩:=hi.ac a hm;have b1:=qfI n2 i1;have b2:=qfI n3 i2;simp only [h0,cond_true,qQ hi',qa];rw [qaf (by omega)];simp only [qa];rw [qgE n2 i1];simp only [qa];rw [qd9 (by simp only [List.length_append,List.length_singleton];omega)];simp only [qa];rw [qaf (by simp only [List.length_append,List.length_singleton];omega)];simp only [qa];rw [qgE n3 i2];simp only [qa];rw [qd9 (by simp only [List.length_append,List.length_singleton];omega)];simp only [qa];rw [qaf (by omega)];simp only [qa];rw [wid (by omega) (by omega)];rfl) (λout ho=>by simp)]
 simp only [qa];rw [qrC m.2.2.1 qmC (λi t out hi' ho=>by
  have hlt:=qY hi';have hm:=List.mem_of_getElem? hi';have h0:decide ((i:Int)<(m.2.2.1.length:Int))=true:=by simp<;>omega
  simp only [h0,cond_true,qQ hi',qa];rw [qgE (hb.ht t hm) (hi.hm t hm)];simp only [qa];rw [qaf (by omega)];simp only [qa];rw [wid (by omega) (by omega)]) (λout ho=>by simp)]
 simp only [qa];unfold strings_Join;rw [if_pos ⟨by omega,by omega⟩];simp only [qa];rw [qaf (by omega)];simp only [qa];rw [if_pos ⟨by rw [List.length_map];omega,by omega⟩];simp only [qa];rw [qd9 (by simp only [List.length_append,List.length_singleton];omega)];simp only [qa];rw [qaf (by simp only [List.length_append,List.length_singleton];omega)];simp only [qa];rw [if_pos ⟨by rw [List.length_map];omega,by omega⟩];simp only [qa];rw [qd9 (by simp only [List.length_append,List.length_singleton];omega)];rfl
theorem qA3(c:UInt8)(i:Nat)(t:Nm)(ht:t.length<=4000000000):(bif decide ((i:Int) > 0)then (app t ([c])).bind λx3=>some x3 else some t)=some (if 0<i then t++[c]else t):=by
 by_cases h:0<i
 ·have:decide ((i:Int) > 0)=true:=by simp<;>omega
  simp only [this,cond_true,if_pos h];rw [qaf (by omega)];rfl
 ·have:decide ((i:Int) > 0)=false:=by simp<;>omega
  simp only [this,cond_false,if_neg h]
theorem qv0(c:UInt8)(i:Nat)(t:Nm)(ht:t.length<=4000000000):(if 0<i then t++[c]else t).length<=4000000001:=by
 split
 ·simp<;>omega
 ·omega
theorem qmV{m:Mc}(hb:MB m)(hi:inM m):qbJ m=some (qDo m):=by
 unfold qbJ;obtain ⟨l1,l2,l3⟩:=qrB hb hi;have k1:=hb.fl;have k2:=hb.ac;have k3:=hb.hm;have hA:∀a∈m.2.1,(qql a).length<=912:=λa ha=>qwH (hb.an a ha).1 (hb.an a ha).2.1 (hb.an a ha).2.2 (hi.ac a ha);have hT:∀t∈m.2.2.1,(qmC t).length<=440:=λt ht=>qfI (hb.ht t ht) (hi.hm t ht);have e2:=Nat.mul_le_mul_right (912+1) k2;have e3:=Nat.mul_le_mul_right (440+1) k3;have e1:=Nat.mul_le_mul_right (30+1) k1;rw [qkq (N:=4000000000) (λs:Nm=>s) 44 m.1 [] (λi=>by
   have:=qcj (λs:Nm=>s) (B:=30) hb.fn 44 i;simp only [List.nil_append];omega)
  (λi s t hi' ht=>by
   have hlt:=qY hi';have h0:decide ((i:Int)<(m.1.length:Int))=true:=by simp<;>omega
   have:=hb.fn s (List.mem_of_getElem? hi');have:=qv0 44 i t ht;simp only [h0,cond_true];rw [qA3 44 i t ht];simp only [qa,qQ hi'];rw [qd9 (by omega)];simp only [qa];rw [wid (by omega) (by omega)]) (λt=>by simp)]
 simp only [qa,List.nil_append,List.map_id'];rw [qaf (by omega)];simp only [qa];rw [qkq (N:=4000000000) qql 59 m.2.1 _ (λi=>by
   have:=qcj qql hA 59 i;simp only [List.length_append,List.length_singleton];omega)
  (λi a t hi' ht=>by
   have hlt:=qY hi';have hm:=List.mem_of_getElem? hi';have h0:decide ((i:Int)<(m.2.1.length:Int))=true:=by simp<;>omega
   obtain ⟨n1,n2,n3⟩:=hb.an a hm;obtain ⟨i1,i2⟩:=hi.ac a hm;have b1:=qfI n2 i1;have b2:=qfI n3 i2;have:=qv0 59 i t ht;simp only [h0,cond_true];rw [qA3 59 i t ht];simp only [qa,qQ hi'];rw [qd9 (by omega)];simp only [qa];rw [qaf (by rw [List.length_append];omega)];simp only [qa];rw [qgs n2 i1];simp only [qa];rw [qd9 (by simp only [List.length_append,List.length_singleton];omega)];simp only [qa];rw [qaf (by simp only [List.length_append,List.length_singleton];omega)];simp only [qa];rw [qgs n3 i2];simp only [qa];rw [qd9 (by simp only [List.length_append,List.length_singleton];omega)];simp only [qa];rw [wid (by omega) (by omega)];simp [qql]) (λt=>by simp)]
 simp only [qa];rw [qaf (by simp only [List.length_append,List.length_singleton];omega)];simp only [qa];rw [qkq (N:=4000000000) qmC 44 m.2.2.1 _ (λi=>by
   have:=qcj qmC hT 44 i;simp only [List.length_append,List.length_singleton];omega)
  (λi a t hi' ht=>by
   have hlt:=qY hi';have hm:=List.mem_of_getElem? hi';have h0:decide ((i:Int)<(m.2.2.1.length:Int))=true:=by simp<;>omega
   have:=hT a hm;have:=qv0 44 i t ht;simp only [h0,cond_true];rw [qA3 44 i t ht];simp only [qa,qQ hi'];rw [qgs (hb.ht a hm) (hi.hm a hm)];simp only [qa];rw [qd9 (by omega)];simp only [qa];rw [wid (by omega) (by omega)]) (λt=>by simp)]
 simp only [qa];simp [qDo]
theorem qiz{α β:Type}(f:α->Option β):∀(l m:List α),qbg f (l++m)=(qbg f l).bind λa=>(qbg f m).map (a++·)
 |[],m=>by cases h:qbg f m<;>simp [qbg,h]
 |a::l,m=>by
  simp only [List.cons_append,qbg,qiz f l m];cases f a<;>simp
  cases qbg f l<;>simp
  cases qbg f m<;>simp
theorem qgM{α β:Type}(f:α->Option β):∀(l:List α),(qbg f l).isSome=l.all λa=>(f a).isSome
 |[]=>rfl
 |a::l=>by
  simp only [qbg,List.all_cons,<- qgM f l];cases f a<;>simp
theorem qwY(d:Nat)(w:Nm):qe5 d w=match num d w with|some n=>if 0<=n then some n else none|none=>none:=by
 unfold qe5 num;cases ha:Lib.atoiAll w with
 |ok v =>
  simp only
  by_cases h0:0<=v
  ·by_cases h1:Lib.itoa v=w
   ·have ht:Lib.trimPrefix w [45]=w:=qms (by
     rw [<- h1];unfold Lib.itoa;rw [if_neg (by omega)];intro e;have hd:=(qed v.toNat).1 45 (List.mem_of_head? e);unfold isD at hd;revert hd;decide)
    by_cases h2:w.length<=d<;>simp [h0,h1,h2,ht]
   ·simp [h1]
  ·by_cases h:Lib.itoa v=w/\(Lib.trimPrefix w [45]).length<=d<;>simp [h0,h]
 |_=>rfl
theorem qjK{d:Nat}{w:Nm}{v:Int}(h:qe5 d w=some v):∀c∈w,isD c:=by
 unfold qe5 at h;split at h
 ·split at h
  ·rename_i h1;obtain ⟨h0,h2,_⟩:=h1;rw [<- h2];intro c hc;unfold Lib.itoa at hc;rw [if_neg (by omega)]at hc;exact (qed _).1 c hc
  ·cases h
 ·cases h
theorem qtW{d:Nat}{w:Nm}{c:UInt8}(hc:c∈w)(h:¬ isD c):qe5 d w=none:=by
 cases hn:qe5 d w with
 |none=>rfl
 |some v=>exact absurd (qjK hn c hc) h
theorem qDg{d:Nat}{e:Int}(he:e=(d:Int))(hd:d<=18){w:Nm}(hw:w.length<=100000):∃n ok,qbB w e=some (n,ok) /\
  (bif !ok then some true else some (decide (n<0)))=some (!(qe5 d w).isSome)/\∀v,qe5 d w=some v->n=v:=by
 subst he;rw [qy8 hd hw,qwY];cases num d w with
 |none=>exact ⟨0,false,rfl,rfl,λv h=>by cases h⟩
 |some n =>
  refine ⟨n,true,rfl,?_,?_⟩
  ·by_cases h:0<=n
   ·simp [h]
   ·simp [h]<;>omega
  ·intro v h;simp only at h;split at h
   ·cases h;rfl
   ·cases h
def isS(c:UInt8):Bool:=decide (c=43)||decide (c=45)
def word(r:Nm):Nm:=r.takeWhile λc=>!isS c
def rest(r:Nm):Nm:=r.dropWhile λc=>!isS c
def qdz:Nat->Bool->Nm->Option (List Int×List Int)
 |_,_,[]=>some ([],[])
 |0,_,_::_=>none
 |n+1,off,c::r=>if isS c=false\/(c=43/\off=true)then none else match qe5 2 (word r)with
  |none=>none
  |some v=>(qdz n (decide (c=45)) (rest r)).map λp=>if c=45 then (p.1,v::p.2)else (v::p.1,p.2)
theorem qfa{w u:Nm}{c:UInt8}(h:∀x∈w,isS x=false)(hc:isS c=true):word (w++c::u)=w/\rest (w++c::u)=c::u:=by
 induction w with
 |nil=>simp [word,rest,hc]
 |cons a w ih =>
  have ha:=h a (by simp);obtain ⟨h1,h2⟩:=ih λx hx=>h x (by simp [hx]);unfold word rest at *;simp [ha,h1,h2]
theorem qsJ{w:Nm}(h:∀x∈w,isS x=false):word w=w/\rest w=[]:=by
 induction w with
 |nil=>simp [word,rest]
 |cons a w ih =>
  have ha:=h a (by simp);obtain ⟨h1,h2⟩:=ih λx hx=>h x (by simp [hx]);unfold word rest at *;simp [ha,h1,h2]
theorem qq3(t:Nm):(∀x∈t,isS x=false)\/∃w c u,t=w++c::u/\isS c=true/\∀x∈w,isS x=false:=by
 induction t with
 |nil=>exact .inl (by simp)
 |cons a t ih =>
  by_cases ha:isS a=true
  ·exact .inr ⟨[],a,t,rfl,ha,by simp⟩
  ·rcases ih with h|⟨w,c,u,rfl,h1,h2⟩
   ·exact .inl λx hx=>by rcases qk.1 hx with rfl|hx;simpa using ha;exact h x hx
   ·exact .inr ⟨a::w,c,u,rfl,h1,λx hx=>by rcases qk.1 hx with rfl|hx;simpa using ha;exact h2 x hx⟩
theorem quO(t:Nm):word t++rest t=t:=by simp [word,rest]
theorem qvp{c:UInt8}:isS c=true↔c=43\/c=45:=by simp [isS]
theorem qFP{x:UInt8}(h1:x≠43)(h2:x≠45):isS x=false:=by simp [isS,h1,h2]
theorem qAr{c:UInt8}(h:isS c=true):¬ isD c:=by
 rcases qvp.1 h with rfl|rfl<;>unfold isD<;>decide
theorem quw(n:Nat)(off:Bool)(u:Nm)(h:off=true):qdz n off (43::u)=none:=by
 cases n with
 |zero=>rfl
 |succ n=>simp [qdz,h]
theorem qyG:∀(n:Nat) (t:Nm) (off:Bool),t.length+1<=n->qdz n off (45::t)=(qbg (qe5 2) (parts 45 t)).map λl=>([],l):=by
 intro n;induction n with
 |zero=>intro t off h;omega
 |succ n ih =>
  intro t off h;have e1:qdz (n+1) off (45::t)=match qe5 2 (word t)with
   |none=>none
   |some v=>(qdz n true (rest t)).map λp=>(p.1,v::p.2):=by
   simp [qdz,isS]
  rw [e1];rcases qbo 45 t with ⟨_,hn⟩|⟨p,q,rfl,hp,_⟩
  ·rw [qaU hn];rcases qq3 t with hs|⟨w,c,u,rfl,hc,hw⟩
   ·obtain ⟨h1,h2⟩:=qsJ hs;rw [h1,h2];cases hv:qe5 2 t<;>simp [qbg,qdz,hv]
   ·have hc43:c=43:=(qvp.1 hc).resolve_right λe=>hn (by simp [e]);subst hc43;obtain ⟨h1,h2⟩:=qfa (u:=u) hw hc;rw [h1,h2,quw _ _ _ rfl];have:qe5 2 (w++43::u)=none:=qtW (c:=43) (by simp) (qAr hc);cases qe5 2 w<;>simp [qbg,this]
  ·rw [qbb hp];rcases qq3 p with hs|⟨w,c,u,rfl,hc,hw⟩
   ·obtain ⟨h1,h2⟩:=qfa (c:=45) (u:=q) hs rfl;rw [h1,h2,ih q true (by simp at h;omega)];simp only [qbg];cases hv:qe5 2 p<;>simp [hv]
    cases qbg (qe5 2) (parts 45 q)<;>simp
   ·have hc43:c=43:=(qvp.1 hc).resolve_right λe=>hp (by simp [e]);subst hc43;obtain ⟨h1,h2⟩:=qfa (u:=u++45::q) hw hc;rw [show w++43::u++45::q=w++43::(u++45::q) by simp,h1,h2,quw _ _ _ rfl];have:qe5 2 (w++43::u)=none:=qtW (c:=43) (by simp) (qAr hc);cases qe5 2 w<;>simp [qbg,this]
theorem qux:∀(n:Nat) (t q:Nm),45∉t->(q=[]\/∃u,q=45::u)->t.length+1+q.length<=n ->
  ∃k,q.length<=k/\qdz n false (43::(t++q))=(qbg (qe5 2) (parts 43 t)).bind λl=>(qdz k false q).map λp=>(l++p.1,p.2):=by
 intro n;induction n with
 |zero=>intro t q _ _ h;omega
 |succ n ih =>
  intro t q ht hq h;have e1:∀r,qdz (n+1) false (43::r)=match qe5 2 (word r)with
   |none=>none
   |some v=>(qdz n false (rest r)).map λp=>(v::p.1,p.2):=λr=>by
   simp [qdz,isS]
  rw [e1];rcases qbo 43 t with ⟨_,hn⟩|⟨p,u,rfl,hp,_⟩
  ·rw [qaU hn];have hs:∀x∈t,isS x=false:=λx hx=>qFP (λe=>hn (e▸hx)) (λe=>ht (e▸hx));have hwr:word (t++q)=t/\rest (t++q)=q:=by
    rcases hq with rfl|⟨u,rfl⟩
    ·rw [List.append_nil];exact qsJ hs
    ·exact qfa hs rfl
   rw [hwr.1,hwr.2];refine ⟨n,by omega,?_⟩;cases hv:qe5 2 t<;>simp [qbg,hv]
  ·have hs:∀x∈p,isS x=false:=λx hx=>qFP (λe=>hp (e▸hx)) (λe=>ht (by rw [e]at hx;simp [hx]));obtain ⟨h1,h2⟩:=qfa (c:=43) (u:=u++q) hs rfl;rw [show p++43::u++q=p++43::(u++q) by simp,h1,h2,qbb hp];obtain ⟨k,hk,e⟩:=ih u q (λhx=>ht (by simp [hx])) hq (by simp at h;omega);rw [e];refine ⟨k,hk,?_⟩;simp only [qbg];cases hv:qe5 2 p<;>simp [hv]
   cases qbg (qe5 2) (parts 43 u)<;>simp
   cases qdz k false q<;>simp
def ixs(sg:UInt8):Nm->Option (List Int)
 |[]=>some []
 |c::t=>if c=sg then qbg (qe5 2) (parts sg t)else none
def pre(s:Nm):Nm:=s.takeWhile λc=>!decide (c=45)
def suf(s:Nm):Nm:=s.dropWhile λc=>!decide (c=45)
def pT(s:Nm):Option (List Int×List Int):=(ixs 43 (pre s)).bind λa=>(ixs 45 (suf s)).map λb=>(a,b)
theorem qvN(s:Nm):pre s++suf s=s:=by simp [pre,suf]
theorem qDx:∀s:Nm,45∉pre s
 |[]=>by simp [pre]
 |c::s=>by
  have ih:=qDx s;unfold pre at *;by_cases h:c=45
  ·simp [h]
  ·simp only [List.takeWhile_cons,h,decide_false,Bool.not_false,if_true,qk,not_or];exact ⟨λe=>h e.symm,ih⟩
theorem qll:∀s:Nm,suf s=[]\/∃u,suf s=45::u
 |[]=>.inl rfl
 |c::s=>by
  by_cases h:c=45
  ·subst h;exact .inr ⟨s,by simp [suf]⟩
  ·have ih:=qll s;unfold suf at *;simpa [List.dropWhile_cons,h]using ih
theorem qxk{q:Nm}(hq:q=[]\/∃u,q=45::u){k:Nat}(hk:q.length<=k):qdz k false q=(ixs 45 q).map λb=>([],b):=by
 rcases hq with rfl|⟨u,rfl⟩
 ·cases k<;>simp [qdz,ixs]
 ·rw [qyG k u false (by simpa using hk)];simp [ixs]
theorem qEk(s:Nm):qdz s.length false s=pT s:=by
 have hs:=qvN s;have hl:s.length=(pre s).length+(suf s).length:=by rw [<- List.length_append,hs]
 unfold pT;cases hp:pre s with
 |nil =>
  rw [hp]at hs hl;simp only [List.nil_append]at hs;have h1:=qxk (qll s) (k:=s.length) (by omega);rw [hs]at h1;rw [h1,hs];simp [ixs]
 |cons c t =>
  have hno:=qDx s;rw [hp]at hs hl hno;have hc45:c≠45:=λe=>hno (by simp [e]);by_cases hc:c=43
  ·subst hc;obtain ⟨k,hk,e⟩:=qux s.length t (suf s) (λh=>hno (by simp [h])) (qll s) (by simp at hl;omega);rw [show (43:UInt8)::(t++suf s)=s from hs]at e;rw [e];rw [qxk (qll s) hk];rw [show ixs 43 (43::t)=qbg (qe5 2) (parts 43 t) by simp [ixs]];cases qbg (qe5 2) (parts 43 t)with
   |none=>rfl
   |some l=>cases ixs 45 (suf s)<;>simp
  ·rw [<- hs];have hf:isS c=false:=qFP hc hc45;have:∀n,qdz n false (c::(t++suf s))=none:=λn=>by cases n<;>simp [qdz,hf]
   rw [List.cons_append,this];simp [ixs,hc]
def qAu(ws:List Nm):Bool:=ws.all λw=>(qe5 2 w).isSome
theorem qBs(sg:UInt8)(r:Nm):Lib.trimPrefix (sg::r) [sg]=r/\Lib.hasPrefix (sg::r) [sg]=true:=by
 unfold Lib.trimPrefix Lib.hasPrefix;simp
theorem qC6{sg c:UInt8}(h:c≠sg)(r:Nm):Lib.trimPrefix (c::r) [sg]=c::r/\Lib.hasPrefix (c::r) [sg]=false:=by
 have:¬ sg=c:=λe=>h e.symm;unfold Lib.trimPrefix Lib.hasPrefix;simp [this,List.isPrefixOf]
theorem qtB(sg:UInt8){x3:Nm}(hx:x3.length<=20000):∃l,(bif decide (x3=[])then
   some ([],true)
  else
   (strings_CutPrefix x3 ([sg])).bind λx4 =>
   (qA (λ(s6:(Bool×(List Int)×(List UInt8))) =>
     (strings_Index s6.2.2 ([sg])).bind λx7 =>
     bif decide (x7<0)then
      some (.inr (s6.1,s6.2.1,s6.2.2))
     else
      (slc s6.2.2 0 (w64 (x7+0))).bind λx8 =>
      (qaa x8 (2:Int)).bind λx9 =>
      ((app s6.2.1 ([x9.1])).bind λx10 =>
       bif s6.1 then
        some (x9.2,x10)
       else
        some (false,x10)).bind λ(p11:(Bool×(List Int))) =>
      (slc s6.2.2 (w64 (x7+1)) (s6.2.2.length:Int)).bind λx12 =>
      some (.inl (p11.1,p11.2,x12))) (x4.2,[],x4.1)).bind λ(p13:(Bool×(List Int)×(List UInt8))) =>
   (qaa p13.2.2 (2:Int)).bind λx14 =>
   ((app p13.2.1 ([x14.1])).bind λx15 =>
    bif p13.1 then
     some (x14.2,x15)
    else
     some (false,x15)).bind λ(p16:(Bool×(List Int))) =>
   some (p16.2,p16.1))=some (l,(ixs sg x3).isSome)/\(∀m,ixs sg x3=some m->l=m)/\l.length<=20001:=by
 cases x3 with
 |nil=>exact ⟨[],rfl,λm h=>by simp [ixs]at h;exact h.symm,by simp⟩
 |cons c r =>
  have h0:decide (c::r=[])=false:=by simp
  simp only [h0,cond_false];unfold strings_CutPrefix;simp only [qa];generalize ht:Lib.trimPrefix (c::r) [sg]=t;generalize hk:Lib.hasPrefix (c::r) [sg]=ok;have htl:t.length<=20000:=by
   rw [<- ht];unfold Lib.trimPrefix;split
   ·simp at hx ⊢;omega
   ·exact hx
  have key:Ok (qA (λ(s6:(Bool×(List Int)×(List UInt8))) =>
     (strings_Index s6.2.2 ([sg])).bind λx7 =>
     bif decide (x7<0)then
      some (.inr (s6.1,s6.2.1,s6.2.2))
     else
      (slc s6.2.2 0 (w64 (x7+0))).bind λx8 =>
      (qaa x8 (2:Int)).bind λx9 =>
      ((app s6.2.1 ([x9.1])).bind λx10 =>
       bif s6.1 then
        some (x9.2,x10)
       else
        some (false,x10)).bind λ(p11:(Bool×(List Int))) =>
      (slc s6.2.2 (w64 (x7+1)) (s6.2.2.length:Int)).bind λx12 =>
      some (.inl (p11.1,p11.2,x12))) (ok,[],t)) λ(p:Bool×List Int×Nm)=>sg∉p.2.2/\p.2.1.length+p.2.2.length<=t.length/\∃ws,parts sg t=ws++[p.2.2]/\p.1=(ok&&qAu ws)/\∀m,qbg (qe5 2) ws=some m->p.2.1=m:=by
   refine qoS (λst=>st.2.2.length) (λ(st:Bool×List Int×Nm)=>st.2.1.length+st.2.2.length<=t.length/\∃ws,parts sg t=ws++parts sg st.2.2/\st.1=(ok&&qAu ws)/\∀m,qbg (qe5 2) ws=some m->st.2.1=m) _ ⟨by simp,[],by simp,by simp [qAu],λm h=>by simp [qbg]at h;exact h.symm⟩ ?_;rintro ⟨b,out,q⟩ ⟨hl,ws,e1,e2,e3⟩;simp only at hl e1 e2 e3;rcases qbo sg q with ⟨_,hn⟩|⟨p,u,rfl,hp,_⟩
   ·simp only
    rw [index_none (by omega) hn];have:decide ((-1:Int)<0)=true:=by simp
    simp only [qa,this,cond_true];rw [qag];rw [qaU hn]at e1;exact ⟨hn,hl,ws,e1,e2,e3⟩
   ·have hlu:(p++sg::u).length=p.length+1+u.length:=by simp<;>omega
    rw [hlu]at hl;obtain ⟨h1,h2,h3⟩:=qsx (c:=sg) (s:=t) (p:=p) (q:=u) (by omega) (by omega) hp;have h0:decide (((p.length:Nat):Int)<0)=false:=by simp
    obtain ⟨v,hv1,hv2⟩:=qo1 (d:=2) (e:=2) rfl (w:=p) (by omega);simp only
    rw [h1];simp only [qa,h0,cond_false];rw [h2];simp only [qa];rw [hv1];simp only [qa];rw [qaf (by omega),h3];have hb:(bif b then some ((qe5 2 p).isSome,out++[v])else some (false,out++[v]))=some (b&&(qe5 2 p).isSome,out++[v]):=by cases b<;>rfl
    simp only [qa];rw [hb];simp only [qa];rw [qaZ];rw [qbb hp]at e1;refine ⟨⟨by simp;omega,ws++[p],by simp [e1],?_,?_⟩,by simp only;rw [hlu];omega⟩
    ·rw [e2];simp [qAu,Bool.and_assoc]
    ·intro m hm;rw [qiz]at hm;obtain ⟨a,ha,hm⟩:=qd.1 hm;obtain ⟨z,hz,rfl⟩:=qc.1 hm;simp only [qbg,qi]at hz;obtain ⟨y,hy,hz⟩:=qd.1 hz;cases hz;rw [e3 a ha,hv2 y hy]
  obtain ⟨⟨b,out,q⟩,h1,h2,h3,ws,e1,e2,e3⟩:=key;simp only at h2 h3 e1 e2 e3;rw [h1];obtain ⟨v,hv1,hv2⟩:=qo1 (d:=2) (e:=2) rfl (w:=q) (by omega);simp only [qa];rw [hv1];simp only [qa];rw [qaf (by omega)];simp only [qa];have hb:(bif b then some ((qe5 2 q).isSome,out++[v])else some (false,out++[v]))=some (b&&(qe5 2 q).isSome,out++[v]):=by cases b<;>rfl
  rw [hb];simp only [qa];have hok:(b&&(qe5 2 q).isSome)=(ok&&(qbg (qe5 2) (parts sg t)).isSome):=by
   rw [qgM,e1,e2];simp [qAu,Bool.and_assoc]
  rw [hok];by_cases hc:c=sg
  ·subst hc;obtain ⟨k1,k2⟩:=qBs c r;rw [k1]at ht;rw [k2]at hk;subst ht hk;refine ⟨out++[v],by simp [ixs],?_,by simp;omega⟩;intro m hm;simp only [ixs,if_true]at hm;rw [e1,qiz]at hm;obtain ⟨a,ha,hm⟩:=qd.1 hm;obtain ⟨z,hz,rfl⟩:=qc.1 hm;simp only [qbg,qi]at hz;obtain ⟨y,hy,hz⟩:=qd.1 hz;cases hz;rw [e3 a ha,hv2 y hy]
  ·obtain ⟨k1,k2⟩:=qC6 hc r;rw [k2]at hk;subst hk;exact ⟨out++[v],by simp [ixs,hc],λm hm=>by simp [ixs,hc]at hm,by simp;omega⟩
theorem qw7{p q:Nm}(h:45∉p)(hq:q=[]\/∃u,q=45::u):pre (p++q)=p/\suf (p++q)=q:=by
 induction p with
 |nil=>rcases hq with rfl|⟨u,rfl⟩<;>simp [pre,suf]
 |cons c p ih =>
  simp only [qk,not_or]at h;have hc:¬ c=45:=λe=>h.1 e.symm;obtain ⟨h1,h2⟩:=ih h.2;unfold pre suf at *;simp [hc,h1,h2]
theorem qh0{s:Nm}(hs:s.length<=20000):∃t:Ts,qai s=some (t,(pT s).isSome)/\(∀a b,pT s=some (a,b)->t=(a,b,()))/\t.1.length<=20001/\t.2.1.length<=20001:=by
 unfold qai;have hat:∃n:Nat,n<=s.length/\s.take n=pre s/\s.drop n=suf s/\((strings_Index s ([45])).bind λx1=>(bif decide (x1<0)then some (s.length:Int)else some x1))=some (n:Int):=by
  rcases qbo 45 s with ⟨_,hn⟩|⟨p,u,rfl,hp,_⟩
  ·refine ⟨s.length,Nat.le_refl _,?_,?_,?_⟩
   ·have:=(qw7 hn (.inl rfl)).1;rw [List.append_nil]at this;rw [this,List.take_length]
   ·have:=(qw7 hn (.inl rfl)).2;rw [List.append_nil]at this;rw [this,List.drop_length]
   ·rw [index_none (by omega) hn];rfl
  ·obtain ⟨h1,h2⟩:=qw7 hp (q:=45::u) (.inr ⟨u,rfl⟩);have hlu:(p++45::u).length=p.length+1+u.length:=by simp<;>omega
   refine ⟨p.length,by omega,?_,?_,?_⟩
   ·rw [h1,List.take_left'];rfl
   ·rw [h2,List.drop_left'];rfl
   ·rw [(qsx (c:=45) (s:=p++45::u) (by omega) (by omega) hp).1];have:decide (((p.length:Nat):Int)<0)=false:=by simp
    simp only [qa,this,cond_false]
 obtain ⟨n,hn,h1,h2,h3⟩:=hat;have h3':=h3;obtain ⟨x1,hx1,hx2⟩:=qd.1 h3';rw [hx1];simp only [qa];rw [hx2];simp only [qa];rw [qDC hn,qlg hn,h1,h2];simp only [qa];have hl1:(pre s).length<=20000:=by rw [<- h1,List.length_take];omega
 have hl2:(suf s).length<=20000:=by rw [<- h2,List.length_drop];omega
 obtain ⟨a,ha,ha',hal⟩:=qtB 43 hl1;obtain ⟨b,hb,hb',hbl⟩:=qtB 45 hl2;rw [ha,hb];simp only [qa];refine ⟨(a,b,()),?_,?_,hal,hbl⟩
 ·unfold pT;cases h1:ixs 43 (pre s)<;>cases h2:ixs 45 (suf s)<;>rfl
 ·intro a' b' h;unfold pT at h;obtain ⟨x,hx,h⟩:=qd.1 h;obtain ⟨y,hy,h⟩:=qc.1 h;cases h;rw [ha' _ hx,hb' _ hy]
theorem u8c(c:UInt8)(k:Nat)(hk:k<256):decide ((c.toNat:Int)=(k:Int))=decide (c=UInt8.ofNat k):=by
 by_cases h:c=UInt8.ofNat k
 ·subst h;simp [Nat.mod_eq_of_lt hk]
 ·have:¬ ((c.toNat:Int)=(k:Int)):=λe=>h (by
   have e':c.toNat=k:=by omega
   rw [<- e'];simp)
  simp [h,this]
theorem quP{r:Nm}{m:Nat}(hm:m<=r.length)(h1:∀x∈r.take m,isS x=false)(h2:m=r.length\/∃c,r[m]?=some c/\isS c=true):word r=r.take m/\rest r=r.drop m:=by
 have e:r=r.take m++r.drop m:=(List.take_append_drop m r).symm;rcases h2 with rfl|⟨c,hc,hs⟩
 ·rw [List.take_length]at h1;rw [List.take_length,List.drop_length];exact qsJ h1
 ·have hlt:=qY hc;have hd:r.drop m=c::r.drop (m+1):=by rw [List.drop_eq_getElem_cons hlt];congr 1;exact Option.some.inj ((List.getElem?_eq_getElem hlt).symm.trans hc)
  have:=qfa (u:=r.drop (m+1)) h1 hs;rw [<- hd,<- e]at this;exact this
theorem qBL{s:Nm}(hs:s.length<=20000){k:Nat}(hk:k<=s.length):qA (λ(s10:Int) =>
       (bif decide (s10<(s.length:Int))then
         (idx s s10).bind λx11 =>
         bif !(decide ((x11.toNat:Int)=43))then
          (idx s s10).bind λx12 =>
          some (!(decide ((x12.toNat:Int)=45)))
         else
          some false
        else
         some false).bind λ(p13:Bool) =>
       bif p13 then
        some (.inl (w64 (s10+1)))
       else
        some (.inr s10)) (k:Int)=some ((k+(word (s.drop k)).length:Nat):Int):=by
 refine Ok.eq (qoS (λ(j:Int)=>s.length-j.toNat) (λ(j:Int)=>∃m:Nat,j=((k+m:Nat):Int)/\m<=(s.drop k).length/\∀x∈(s.drop k).take m,isS x=false) _ ⟨0,by simp,by simp,by simp⟩ ?_);rintro j ⟨m,rfl,hm,hI⟩;have hdl:(s.drop k).length=s.length-k:=List.length_drop;by_cases hlt:k+m<s.length
 ·have hc:s[k+m]?=some s[k+m]:=by simp [hlt]
  generalize s[k+m]=c at hc;have hc':(s.drop k)[m]?=some c:=by rw [List.getElem?_drop];exact hc
  have h0:decide (((k+m:Nat):Int)<(s.length:Int))=true:=by simp<;>omega
  have e:(bif !(decide ((c.toNat:Int)=43))then some (!(decide ((c.toNat:Int)=45)))else some false)=some (!isS c):=by
   have c43:decide ((c.toNat:Int)=43)=decide (c=43):=u8c c 43 (by omega);have c45:decide ((c.toNat:Int)=45)=decide (c=45):=u8c c 45 (by omega);simp only [c43,c45];unfold isS;by_cases h1:c=43
   ·simp [h1]
   ·by_cases h2:c=45<;>simp [h1,h2]
  simp only [h0,cond_true,qQ hc,qa];rw [e];simp only [qa];by_cases hs':isS c=true
  ·simp only [hs',Bool.not_true,cond_false];rw [qag,(quP hm hI (.inr ⟨c,hc',hs'⟩)).1,List.length_take];congr 1;omega
  ·have hs'':isS c=false:=by simpa using hs'
   simp only [hs'',Bool.not_false,cond_true];rw [wid (by omega) (by omega),qaZ];refine ⟨⟨m+1,by omega,by omega,λx hx=>?_⟩,by omega⟩;rw [qbw c (by omega),getD_at hc']at hx;rcases qj.1 hx with hx|hx
   ·exact hI x hx
   ·rw [List.mem_singleton.1 hx];exact hs''
 ·have h0:decide (((k+m:Nat):Int)<(s.length:Int))=false:=by simp<;>omega
  simp only [h0,cond_false,qa];rw [qag,(quP hm hI (.inl (by omega))).1,List.length_take];congr 1;omega
theorem qDe(r:Nm):(word r).length<=r.length:=by
 have:=congrArg List.length (quO r);rw [List.length_append]at this;omega
theorem qDH(r:Nm):r.take (word r).length=word r/\r.drop (word r).length=rest r:=by
 have h:=quO r;refine ⟨?_,?_⟩
 ·have:=List.take_left (l₁:=word r) (l₂:=rest r);rw [h]at this;exact this
 ·have:=List.drop_left (l₁:=word r) (l₂:=rest r);rw [h]at this;exact this
theorem qwh{s:Nm}(hs:s.length<=20000):∃t:Ts,qbs s=some (t,(pT s).isSome)/\(∀a b,pT s=some (a,b)->t=(a,b,())):=by
 unfold qbs;rw [<- qEk];generalize hR:qdz s.length false s=R;have key:Ok ((qA (λ(s2:(Bool×Int×(List Int)×(List Int))) =>
   bif decide (s2.2.1<(s.length:Int))then
    ((idx s s2.2.1).bind λx3 =>
     bif !(decide ((x3.toNat:Int)=43))then
      (idx s s2.2.1).bind λx4 =>
      bif !(decide ((x4.toNat:Int)=45))then
       some true
      else
       (idx s s2.2.1).bind λx5 =>
       bif decide ((x5.toNat:Int)=43)then
        some s2.1
       else
        some false
     else
      (idx s s2.2.1).bind λx6 =>
      bif decide ((x6.toNat:Int)=43)then
       some s2.1
      else
       some false).bind λ(p7:Bool) =>
    bif p7 then
     some (.inr (.inr (([],[],()),false)))
    else
     (idx s s2.2.1).bind λx8 =>
     (qA (λ(s10:Int) =>
       (bif decide (s10<(s.length:Int))then
         (idx s s10).bind λx11 =>
         bif !(decide ((x11.toNat:Int)=43))then
          (idx s s10).bind λx12 =>
          some (!(decide ((x12.toNat:Int)=45)))
         else
          some false
        else
         some false).bind λ(p13:Bool) =>
       bif p13 then
        some (.inl (w64 (s10+1)))
       else
        some (.inr s10)) (w64 (s2.2.1+1))).bind λ(p14:Int) =>
     (slc s (w64 (s2.2.1+1)) p14).bind λx15 =>
     (qbB x15 (2:Int)).bind λx16 =>
     (bif !x16.2 then
       some true
      else
       some (decide (x16.1<0))).bind λ(p17:Bool) =>
     bif p17 then
      some (.inr (.inr (([],[],()),false)))
     else
      (bif decide ((x8.toNat:Int)=45)then
        (app s2.2.2.2 ([x16.1])).bind λx18 =>
        some (s2.2.2.1,x18)
       else
        (app s2.2.2.1 ([x16.1])).bind λx19 =>
        some (x19,s2.2.2.2)).bind λ(p20:((List Int)×(List Int))) =>
      some (.inl (decide ((x8.toNat:Int)=45),p14,p20.1,p20.2))
   else
    some (.inr (.inl (s2.2.2.1,s2.2.2.2)))) (false,0,[],[]))) (λ(x:(List Int×List Int)⊕(Ts×Bool))=>match x with
    |.inl p=>R=some p
    |.inr q=>q=(([],[],()),false)/\R=none):=by
  refine qoS (λst=>s.length-st.2.1.toNat) (λ(st:Bool×Int×List Int×List Int)=>∃k n:Nat,st.2.1=(k:Int)/\k<=s.length/\s.length-k<=n/\st.2.2.1.length<=k/\st.2.2.2.length<=k/\R=(qdz n st.1 (s.drop k)).map λp=>(st.2.2.1++p.1,st.2.2.2++p.2)) _ ⟨0,s.length,rfl,by omega,by omega,by simp,by simp,by rw [List.drop_zero,hR];simp⟩ ?_;rintro ⟨off,i,on,ofl⟩ ⟨k,n,rfl,hk,hn,hl1,hl2,e⟩;simp only at hl1 hl2 e;by_cases hlt:k<s.length
  ·have hc:s[k]?=some s[k]:=by simp [hlt]
   have hd:s.drop k=s[k]::s.drop (k+1):=List.drop_eq_getElem_cons hlt;generalize s[k]=c at hc hd;rw [hd]at e;obtain ⟨n,rfl⟩:∃n',n=n'+1:=⟨n-1,by omega⟩
   have h0:decide (((k:Nat):Int)<(s.length:Int))=true:=by simp<;>omega
   have c43:decide ((c.toNat:Int)=43)=decide (c=43):=u8c c 43 (by omega);have c45:decide ((c.toNat:Int)=45)=decide (c=45):=u8c c 45 (by omega);have hbad:(bif !(decide (c=43))then (bif !(decide (c=45))then some true else (bif decide (c=43)then some off else some false))else (bif decide (c=43)then some off else some false))=some (decide (isS c=false\/(c=43/\off=true))):=by
    unfold isS;by_cases h1:c=43
    ·cases off<;>simp [h1]
    ·by_cases h2:c=45
     ·subst h2;cases off<;>simp
     ·simp [h1,h2]
   simp only [h0,cond_true,qQ hc,qa,c43,c45];rw [hbad];simp only [qa];by_cases hb:isS c=false\/(c=43/\off=true)
   ·simp only [hb,decide_true,cond_true];rw [qag];refine ⟨rfl,?_⟩;rw [e];simp only [qdz];rw [if_pos hb];rfl
   ·simp only [hb,decide_false,cond_false];have e2:qdz (n+1) off (c::s.drop (k+1))=match qe5 2 (word (s.drop (k+1)))with
      |none=>none
      |some v=>(qdz n (decide (c=45)) (rest (s.drop (k+1)))).map λp=>if c=45 then (p.1,v::p.2)else (v::p.1,p.2):=by
     simp only [qdz];rw [if_neg hb];try (cases qe5 2 (word (s.drop (k+1)))<;>rfl)
    rw [e2]at e;rw [wid (by omega) (by omega),show (k:Int)+1=((k+1:Nat):Int) by omega,qBL hs (by omega)];simp only [qa];have hwl:=qDe (s.drop (k+1));rw [List.length_drop]at hwl;have hsl:slc s ((k+1:Nat):Int) ((k+1+(word (s.drop (k+1))).length:Nat):Int)=some (word (s.drop (k+1))):=by
     rw [qq4 (by omega)];congr 1
     simp only [Int.toNat_natCast];rw [List.drop_take,Nat.add_sub_cancel_left];exact (qDH _).1
    rw [hsl];simp only [qa];obtain ⟨v,ok,hv1,hv2,hv3⟩:=qDg (d:=2) (e:=2) rfl (by omega) (w:=word (s.drop (k+1))) (by omega);rw [hv1];simp only [qa];rw [hv2];simp only [qa];cases hN:qe5 2 (word (s.drop (k+1)))with
    |none =>
     rw [hN]at e;simp only [Option.isSome_none,Bool.not_false,cond_true];rw [qag];exact ⟨rfl,e⟩
    |some u =>
     rw [hN]at e;have:=hv3 u hN;subst this;have hrd:rest (s.drop (k+1))=s.drop (k+1+(word (s.drop (k+1))).length):=by
      rw [<- (qDH (s.drop (k+1))).2,List.drop_drop]
     rw [hrd]at e;simp only [Option.isSome_some,Bool.not_true,cond_false];by_cases h45:c=45
     ·simp only [h45,decide_true,cond_true];rw [qaf (by omega)];simp only [qa];rw [qaZ];refine ⟨⟨_,n,rfl,by omega,by omega,by simp only;omega,by simp;omega,?_⟩,by simp only;omega⟩;rw [e];simp only [h45,decide_true,if_true];cases qdz n true (s.drop (k+1+(word (s.drop (k+1))).length))<;>simp
     ·simp only [h45,decide_false,cond_false];rw [qaf (by omega)];simp only [qa];rw [qaZ];refine ⟨⟨_,n,rfl,by omega,by omega,by simp;omega,by simp only;omega,?_⟩,by simp only;omega⟩;rw [e];simp only [h45,decide_false,if_false];cases qdz n false (s.drop (k+1+(word (s.drop (k+1))).length))<;>simp
  ·have:k=s.length:=by omega
   subst this;have h0:decide (((s.length:Nat):Int)<(s.length:Int))=false:=by simp
   simp only [h0,cond_false];rw [qag];rw [e,List.drop_length];cases n<;>simp [qdz]
 obtain ⟨x,hx,hq⟩:=key;rw [hx];cases x with
 |inl p =>
  simp only at hq;subst hq;exact ⟨(p.1,p.2,()),rfl,λa b h=>by cases h;rfl⟩
 |inr q =>
  obtain ⟨rfl,rfl⟩:=hq;exact ⟨_,rfl,λa b h=>by cases h⟩
theorem qvL{sg:UInt8}:∀(n:Nat) {t:Nm} {l:List Int},t.length<=n->qbg (qe5 2) (parts sg t)=some l->∀c∈t,c=sg\/isD c:=by
 intro n;induction n with
 |zero =>
  intro t l h _ c hc;have:t=[]:=List.eq_nil_of_length_eq_zero (by omega);rw [this]at hc;cases hc
 |succ n ih =>
  intro t l h he c hc;rcases qbo sg t with ⟨_,hn⟩|⟨p,q,rfl,hp,_⟩
  ·rw [qaU hn]at he;simp only [qbg]at he;obtain ⟨v,hv,_⟩:=qd.1 he;exact .inr (qjK hv c hc)
  ·rw [qbb hp]at he;simp only [qbg]at he;obtain ⟨v,hv,he⟩:=qd.1 he;obtain ⟨l',hl,_⟩:=qc.1 he;rcases qj.1 hc with hc|hc
   ·exact .inr (qjK hv c hc)
   ·rcases qk.1 hc with hc|hc
    ·exact .inl hc
    ·exact ih (by simp at h;omega) hl c hc
theorem qtC{sg:UInt8}{t:Nm}{l:List Int}(h:ixs sg t=some l):∀c∈t,c=sg\/isD c:=by
 cases t with
 |nil=>intro c hc;cases hc
 |cons a t =>
  simp only [ixs]at h;split at h
  ·rename_i e;intro c hc;rcases qk.1 hc with rfl|hc
   ·exact .inl e
   ·exact qvL _ (Nat.le_refl _) h c hc
  ·cases h
theorem qCw{s:Nm}{p:List Int×List Int}(h:pT s=some p):∀c∈s,isS c=true\/isD c:=by
 unfold pT at h;obtain ⟨a,ha,h⟩:=qd.1 h;obtain ⟨b,hb,_⟩:=qc.1 h;intro c hc;rw [<- qvN s]at hc;rcases qj.1 hc with hc|hc
 ·rcases qtC ha c hc with rfl|h
  ·exact .inl rfl
  ·exact .inr h
 ·rcases qtC hb c hc with rfl|h
  ·exact .inl rfl
  ·exact .inr h
theorem qEd{s:Nm}{p:List Int×List Int}(h:pT s=some p){c:UInt8}(h1:isS c=false)(h2:¬ isD c):c∉s:=λhc=>by
 rcases qCw h c hc with e|e
 ·rw [h1]at e;cases e
 ·exact h2 e
theorem qz2{sg:UInt8}{t:Nm}{l:List Int}(h:ixs sg t=some l):l.length<=t.length:=by
 cases t with
 |nil=>simp [ixs]at h;subst h;simp
 |cons a t =>
  simp only [ixs]at h;split at h
  ·have:=qiA h;have:=qdm sg t;simp<;>omega
  ·cases h
theorem qAD{s:Nm}{a b:List Int}(h:pT s=some (a,b)):a.length<=s.length/\b.length<=s.length:=by
 unfold pT at h;obtain ⟨x,hx,h⟩:=qd.1 h;obtain ⟨y,hy,h⟩:=qc.1 h;cases h;have h1:=qz2 hx;have h2:=qz2 hy;have:=congrArg List.length (qvN s);rw [List.length_append]at this;omega
def two{α β:Type}(l:List α)(f:α->α->Option β):Option β:=match l with
 |[a,b]=>f a b
 |_=>none
theorem qeY{α β:Type}{a b:α}{f:α->α->Option β}:two [a,b] f=f a b:=rfl
theorem qBx{α β:Type}{a:α}{f:α->α->Option β}:two [a] f=none:=rfl
theorem qpI{α β:Type}{l:List α}(h:∀a b,l≠[a,b])(f:α->α->Option β):two l f=none:=by
 unfold two;split
 ·rename_i a b;exact absurd rfl (h a b)
 ·rfl
def pA(s:Nm):Option Ac:=two (parts 58 s) λn r=>if n=[]then none else two (parts 62 r) λl q=>(pT l).bind λx=>(pT q).map λy=>(n,x.1,x.2,y.1,y.2,())
theorem qn9(c:UInt8){s:Nm}(hs:s.length<=100000):(c∉s/\strings_Cut s [c]=some (s,[],false))\/∃p q,s=p++c::q/\c∉p/\strings_Cut s [c]=some (p,q,true):=by
 unfold strings_Cut;rw [if_pos (by omega)];unfold Lib.cut;rcases qbo c s with ⟨h1,h2⟩|⟨p,q,rfl,h2,h3⟩
 ·refine .inl ⟨h2,?_⟩;rw [h1];rfl
 ·refine .inr ⟨p,q,rfl,h2,?_⟩;rw [h3,if_pos (by omega)];simp only [Int.toNat_natCast,List.length_singleton];rw [List.take_left' rfl,show p++c::q=(p++[c])++q by simp,List.drop_left' (by simp)]
theorem qek{c:UInt8}{p q:Nm}(hp:c∉p):(c∉q->parts c (p++c::q)=[p,q])/\(c∈q->∀a b,parts c (p++c::q)≠[a,b]):=by
 rw [qbb hp];refine ⟨λh=>by rw [qaU h],λh a b e=>?_⟩;rcases qbo c q with ⟨_,h2⟩|⟨x,y,rfl,hx,_⟩
 ·exact h2 h
 ·rw [qbb hx]at e;have:=qnM c y;simp only [List.cons.injEq]at e;exact this e.2.2
theorem qpZ{s:Nm}(hs:s.length<=20000):∃a:Ac,qbd s=some (a,(pA s).isSome)/\∀x,pA s=some x->a=x:=by
 unfold qbd;have fin:∀(n l q:Nm) (h1 h2:Bool),l.length<=20000->q.length<=20000->∃a:Ac,((qai l).bind λx3 =>
   (qai q).bind λx4 =>
   (bif !(decide (n=[]))then
     bif h1 then
      bif h2 then
       bif x3.2 then
        some (x4.2,n,x3.1.1,x3.1.2.1,x4.1.1,x4.1.2.1)
       else
        some (false,n,x3.1.1,x3.1.2.1,x4.1.1,x4.1.2.1)
      else
       some (false,n,x3.1.1,x3.1.2.1,x4.1.1,x4.1.2.1)
     else
      some (false,n,x3.1.1,x3.1.2.1,x4.1.1,x4.1.2.1)
    else
     some (false,n,x3.1.1,x3.1.2.1,x4.1.1,x4.1.2.1)).bind λ(p5:(Bool×(List UInt8)×(List Int)×(List Int)×(List Int)×(List Int))) =>
   some ((p5.2.1,p5.2.2.1,p5.2.2.2.1,p5.2.2.2.2.1,p5.2.2.2.2.2,()),p5.1))=some (a,decide (n≠[])&&h1&&h2&&(pT l).isSome&&(pT q).isSome)/\∀x y,pT l=some x->pT q=some y->a=(n,x.1,x.2,y.1,y.2,()):=by
  intro n l q h1 h2 hl hq;obtain ⟨t,ht,ht',_⟩:=qh0 hl;obtain ⟨u,hu,hu',_⟩:=qh0 hq;rw [ht];simp only [qa];rw [hu];simp only [qa];refine ⟨(n,t.1,t.2.1,u.1,u.2.1,()),?_,λx y hx hy=>by rw [ht' x.1 x.2 hx,hu' y.1 y.2 hy]⟩;by_cases hn:n=[]<;>cases h1<;>cases h2<;>cases (pT l).isSome<;>simp [hn]
 rcases qn9 58 (s:=s) (by omega)with ⟨hn,h1⟩|⟨n,r,rfl,hn,h1⟩
 ·rw [h1];simp only [qa];rcases qn9 62 (s:=[]) (by simp)with ⟨_,h2⟩|⟨x,y,e,_⟩
  ·rw [h2];simp only [qa];obtain ⟨a,ha,_⟩:=fin s [] [] false false (by simp) (by simp);rw [ha];have:pA s=none:=by unfold pA;rw [qaU hn,qBx]
   rw [this];exact ⟨a,by simp,λx h=>by cases h⟩
  ·simp at e
 ·rw [h1];simp only [qa];have hlr:(n++58::r).length=n.length+1+r.length:=by simp<;>omega
  rw [hlr]at hs;rcases qn9 62 (s:=r) (by omega)with ⟨hr,h2⟩|⟨l,q,rfl,hl,h2⟩
  ·rw [h2];simp only [qa];obtain ⟨a,ha,_⟩:=fin n r [] true false (by omega) (by simp);rw [ha];have:pA (n++58::r)=none:=by
    unfold pA;by_cases h58:58∈r
    ·exact qpI ((qek hn).2 h58) _
    ·rw [(qek hn).1 h58,qeY];split
     ·rfl
     ·rw [qaU hr,qBx]
   rw [this];exact ⟨a,by simp,λx h=>by cases h⟩
  ·rw [h2];simp only [qa];have hlq:(l++62::q).length=l.length+1+q.length:=by simp<;>omega
   obtain ⟨a,ha,ha'⟩:=fin n l q true true (by omega) (by omega);rw [ha];have e:pA (n++58::(l++62::q))=if n=[]then none else (pT l).bind λx=>(pT q).map λy=>(n,x.1,x.2,y.1,y.2,()):=by
    unfold pA;have bad:(58∈l\/58∈q\/62∈q)->((pT l).bind λx=>(pT q).map λy=>((n,x.1,x.2,y.1,y.2,()):Ac))=none:=by
     intro h;cases hx:pT l with
     |none=>rfl
     |some x =>
      cases hy:pT q with
      |none=>rfl
      |some y =>
       rcases h with h|h|h
       ·exact absurd h (qEd hx rfl (by unfold isD;decide))
       ·exact absurd h (qEd hy rfl (by unfold isD;decide))
       ·exact absurd h (qEd hy rfl (by unfold isD;decide))
    by_cases h58:58∈l++62::q
    ·rw [qpI ((qek hn).2 h58)];split
     ·rfl
     ·rw [bad];rcases qj.1 h58 with h|h
      ·exact .inl h
      ·rcases qk.1 h with h|h
       ·exact absurd h (by decide)
       ·exact .inr (.inl h)
    ·rw [(qek hn).1 h58,qeY];split
     ·rfl
     ·by_cases h62:62∈q
      ·rw [qpI ((qek hl).2 h62),bad (.inr (.inr h62))]
      ·rw [(qek hl).1 h62,qeY]
   rw [e];by_cases hn0:n=[]
   ·exact ⟨a,by simp [hn0],λx h=>by simp [hn0]at h⟩
   ·refine ⟨a,?_,λx h=>?_⟩
    ·simp only [hn0,if_false];cases pT l<;>cases pT q<;>simp [hn0]
    ·simp only [hn0,if_false]at h;obtain ⟨x',hx,h⟩:=qd.1 h;obtain ⟨y',hy,rfl⟩:=qc.1 h;exact ha' x' y' hx hy
def items(c:UInt8)(s:Nm):List Nm:=if s=[]then []else parts c s
def pH(w:Nm):Option Ts:=if w=[]then none else (pT w).map λp=>(p.1,p.2,())
def three{α β:Type}(l:List α)(f:α->α->α->Option β):Option β:=match l with
 |[a,b,c]=>f a b c
 |_=>none
def pM(s:Nm):Option Mc:=three (parts 47 s) λa b c=>if []∈items 44 a then none else (qbg pA (items 59 b)).bind λacs=>(qbg pH (items 44 c)).map λhs=>(items 44 a,acs,hs,())
theorem qdf{c:UInt8}{s:Nm}:(items c s).length<=s.length+1/\∀w∈items c s,w.length<=s.length:=by
 unfold items;split
 ·simp
 ·exact ⟨qdm c s,λw hw=>qad c hw⟩
theorem qsy(c:UInt8){s:Nm}(hs:s.length<=100000):qc3 s [c]=some (items c s):=by
 unfold qc3 items;by_cases h:s=[]
 ·simp [h]
 ·simp only [h,decide_false,cond_false,if_false];rw [qrl c hs];rfl
theorem qrM(c:UInt8){s:Nm}(hs:s.length<=100000):qbK s ((c.toNat:Nat):Int)=some (items c s):=by
 unfold qbK items;by_cases h:s=[]
 ·simp [h]
 ·simp only [h,decide_false,cond_false,if_false];rw [qp6 c hs];rfl
theorem qtg{β:Type}(l:List Nm)(f:Nm->Option β)(ok0:Bool){σ:Type}(st:Bool->Nat->List β->σ)(fin:Bool->List β->σ->Prop){ρ:Type}{B:σ->Option (σ⊕ρ)}(rr:Bool->List β->ρ)
  (h1:∀(i:Nat) w b out,l[i]?=some w->out.length=i->∃v,B (st b i out)=some (.inl (st (b&&(f w).isSome) (i+1) (out++[v])))/\∀u,f w=some u->v=u)
  (h2:∀b out,out.length=l.length->B (st b l.length out)=some (.inr (rr b out))) :
  ∃out,qA B (st ok0 0 [])=some (rr (ok0&&(qbg f l).isSome) out)/\out.length=l.length/\∀m,qbg f l=some m->out=m:=by
 have key:Ok (qA B (st ok0 0 [])) λr=>∃out,r=rr (ok0&&(qbg f l).isSome) out/\out.length=l.length/\∀m,qbg f l=some m->out=m:=by
  refine qc0 l.length (λi s=>∃out,s=st (ok0&&(qbg f (l.take i)).isSome) i out/\out.length=i/\∀m,qbg f (l.take i)=some m->out=m) _ ⟨[],by simp [qbg],rfl,λm h=>by simp [qbg]at h;exact h.symm⟩ ?_;rintro i s hi ⟨out,rfl,e1,e2⟩;by_cases hlt:i<l.length
  ·have ha:l[i]?=some l[i]:=by simp [hlt]
   generalize l[i]=w at ha;obtain ⟨v,hv,hv'⟩:=h1 i w (ok0&&(qbg f (l.take i)).isSome) out ha e1;rw [hv,qaZ];have ht:l.take (i+1)=l.take i++[w]:=by rw [qbw w hlt,getD_at ha]
   refine ⟨hlt,out++[v],?_,by simp [e1],?_⟩
   ·rw [ht,qgM,qgM];simp [Bool.and_assoc]
   ·intro m hm;rw [ht,qiz]at hm;obtain ⟨a,ha',hm⟩:=qd.1 hm;obtain ⟨z,hz,rfl⟩:=qc.1 hm;simp only [qbg,qi]at hz;obtain ⟨y,hy,hz⟩:=qd.1 hz;cases hz;rw [e2 a ha',hv' y hy]
  ·have:i=l.length:=by omega
   subst this;rw [h2 _ _ e1,qag];rw [List.take_length]at e2 ⊢;exact ⟨out,rfl,e1,e2⟩
 obtain ⟨r,h,out,rfl,h3,h4⟩:=key;exact ⟨out,h,h3,h4⟩
def qyy(s:Nm):Mc×Int:=match pM s with
 |none=>(([],[],[],()),7)
 |some m=>if (qne m).2=0 then (m,0)else (([],[],[],()),(qne m).2)
theorem qxt{α β:Type}{l:List α}(h:l.length≠3)(f:α->α->α->Option β):three l f=none:=by
 unfold three;split
 ·simp at h
 ·rfl
theorem qhr{s:Nm}(hs:s.length<=20000)(hb:∀m,pM s=some m->LB m):qaj s=some (qyy s):=by
 unfold qaj;have h0:decide ((s.length:Int) > 60000)=false:=by simp<;>omega
 simp only [h0,cond_false];rw [qrl 47 (by omega)];simp only [qa];have hsh:∀x∈parts 47 s,x.length<=s.length:=λx hx=>qad 47 hx;by_cases h3:(parts 47 s).length=3
 ·have h3':decide (((parts 47 s).length:Int)=3)=true:=by simp<;>omega
  simp only [h3',Bool.not_true,cond_false];obtain ⟨a,b,c,e⟩:∃a b c,parts 47 s=[a,b,c]:=by
   match h:parts 47 s,h3 with
   |[a,b,c],_=>exact ⟨a,b,c,rfl⟩
  rw [e]at hsh;have ha:=hsh a (by simp);have hbl:=hsh b (by simp);have hcl:=hsh c (by simp);have i0:idx [a,b,c] 0=some a:=rfl;have i1:idx [a,b,c] 1=some b:=rfl;have i2:idx [a,b,c] 2=some c:=rfl;rw [e,i0,i1,i2];simp only [qa];rw [qsy 44 (by omega),qsy 59 (by omega),qsy 44 (s:=c) (by omega)];simp only [qa];obtain ⟨l1,l1'⟩:=qdf (c:=44) (s:=a);obtain ⟨l2,l2'⟩:=qdf (c:=59) (s:=b);obtain ⟨l3,l3'⟩:=qdf (c:=44) (s:=c);rw [qmw _ _ (by omega)];simp only [qa];obtain ⟨acs,k1,k2,k3⟩:=qtg (items 59 b) pA (!decide ([]∈items 44 a)) (σ:=Bool×Int×List Nm×List Ac×List Ts) (λf i out=>(f,(i:Int),items 44 a,out,[])) (λ_ _ _=>True) (ρ:=Bool×List Nm×List Ac×List Ts)
   (B:=λ(s8:(Bool×Int×(List (List UInt8))×(List ((List UInt8)×(List Int)×(List Int)×(List Int)×(List Int)×Unit))×(List ((List Int)×(List Int)×Unit)))) =>
     bif decide (s8.2.1<((items 59 b).length:Int))then
      (idx (items 59 b) s8.2.1).bind λx9 =>
      (qbd x9).bind λx10 =>
      ((app s8.2.2.2.1 ([x10.1])).bind λx11 =>
       bif s8.1 then
        some (x10.2,s8.2.2.1,x11,s8.2.2.2.2)
       else
        some (false,s8.2.2.1,x11,s8.2.2.2.2)).bind λ(p12:(Bool×(List (List UInt8))×(List ((List UInt8)×(List Int)×(List Int)×(List Int)×(List Int)×Unit))×(List ((List Int)×(List Int)×Unit)))) =>
      some (.inl (p12.1,w64 (s8.2.1+1),p12.2.1,p12.2.2.1,p12.2.2.2))
     else
      some (.inr (s8.1,s8.2.2.1,s8.2.2.2.1,s8.2.2.2.2))) (λf out=>(f,items 44 a,out,[]))
   (λi w f out hi ho=>by
    have hlt:=qY hi;have hw:=l2' w (List.mem_of_getElem? hi);obtain ⟨x,hx,hx'⟩:=qpZ (s:=w) (by omega);have h0:decide ((i:Int)<((items 59 b).length:Int))=true:=by simp<;>omega
    refine ⟨x,?_,hx'⟩;simp only [h0,cond_true,qQ hi,qa];rw [hx];simp only [qa];rw [qaf (by omega)];simp only [qa];rw [wid (by omega) (by omega)];cases f<;>rfl)
   (λf out ho=>by simp)
  have e0:((0:Nat):Int)=0:=rfl;rw [e0]at k1;rw [k1];simp only [qa];obtain ⟨hms,k4,k5,k6⟩:=qtg (items 44 c) pH (!decide ([]∈items 44 a)&&(qbg pA (items 59 b)).isSome) (σ:=Bool×Int×List Nm×List Ac×List Ts) (λf i out=>(f,(i:Int),items 44 a,acs,out)) (λ_ _ _=>True) (ρ:=Bool×List Nm×List Ac×List Ts)
   (B:=λ(s18:(Bool×Int×(List (List UInt8))×(List ((List UInt8)×(List Int)×(List Int)×(List Int)×(List Int)×Unit))×(List ((List Int)×(List Int)×Unit)))) =>
     bif decide (s18.2.1<((items 44 c).length:Int))then
      (idx (items 44 c) s18.2.1).bind λx19 =>
      (qai x19).bind λx20 =>
      ((app s18.2.2.2.2 ([x20.1])).bind λx21 =>
       bif s18.1 then
        bif x20.2 then
         some (!(decide (x19=[])),s18.2.2.1,s18.2.2.2.1,x21)
        else
         some (false,s18.2.2.1,s18.2.2.2.1,x21)
       else
        some (false,s18.2.2.1,s18.2.2.2.1,x21)).bind λ(p22:(Bool×(List (List UInt8))×(List ((List UInt8)×(List Int)×(List Int)×(List Int)×(List Int)×Unit))×(List ((List Int)×(List Int)×Unit)))) =>
      some (.inl (p22.1,w64 (s18.2.1+1),p22.2.1,p22.2.2.1,p22.2.2.2))
     else
      some (.inr (s18.1,s18.2.2.1,s18.2.2.2.1,s18.2.2.2.2))) (λf out=>(f,items 44 a,acs,out))
   (λi w f out hi ho=>by
    have hlt:=qY hi;have hw:=l3' w (List.mem_of_getElem? hi);obtain ⟨x,hx,hx',_⟩:=qh0 (s:=w) (by omega);have h0:decide ((i:Int)<((items 44 c).length:Int))=true:=by simp<;>omega
    refine ⟨x,?_,λu hu=>?_⟩
    ·simp only [h0,cond_true,qQ hi,qa];rw [hx];simp only [qa];rw [qaf (by omega)];simp only [qa];rw [wid (by omega) (by omega)];by_cases hw0:w=[]
     ·cases f<;>cases hp:(pT w).isSome<;>simp [pH,hw0]
     ·cases f<;>cases hp:(pT w).isSome<;>simp [pH,hw0,hp]
    ·unfold pH at hu;split at hu
     ·cases hu
     ·obtain ⟨p,hp,rfl⟩:=qc.1 hu;exact hx' p.1 p.2 hp)
   (λf out ho=>by simp)
  rw [e0]at k4;rw [k4];simp only [qa];have hpm:pM s=if []∈items 44 a then none else (qbg pA (items 59 b)).bind λacs=>(qbg pH (items 44 c)).map λhs=>(items 44 a,acs,hs,()):=by
   unfold pM;rw [e];rfl
  unfold qyy;by_cases hin : []∈items 44 a
  ·rw [hpm];simp [hin]
  ·simp only [hin,if_false]at hpm;cases hA:qbg pA (items 59 b)with
   |none=>rw [hpm,hA];simp [hin]
   |some x =>
    cases hH:qbg pH (items 44 c)with
    |none=>rw [hpm,hA,hH];simp [hin]
    |some y =>
     have:=k3 x hA;have:=k6 y hH;subst acs hms;rw [hA,hH]at hpm;simp only [qa,qi]at hpm;rw [hpm];simp only [hin,decide_false,Bool.not_false,Option.isSome_some,Bool.and_true,Bool.not_true,cond_false];rw [qn5 (hb _ hpm)];simp only [qa];by_cases c0:(qne (items 44 a,x,y,())).2=0
     ·simp [c0]
     ·simp [c0]
 ·have h3':decide (((parts 47 s).length:Int)=3)=false:=by simp<;>omega
  simp only [h3',Bool.not_false,cond_true];unfold qyy pM;rw [qxt h3]
theorem qpA{β:Type}(l:List Nm)(f:Nm->Option β){σ ρ:Type}(st:Nat->List β->σ){B:σ->Option (σ⊕ρ)}(bad:ρ->Prop)(rr:List β->ρ)
  (h1:∀(i:Nat) w out,l[i]?=some w->out.length=i->(∀b,f w=some b->B (st i out)=some (.inl (st (i+1) (out++[b]))))/\(f w=none->∃r,bad r/\B (st i out)=some (.inr r)))
  (h2:∀out,out.length=l.length->B (st l.length out)=some (.inr (rr out))) :
  Ok (qA B (st 0 [])) λr=>(∀m,qbg f l=some m->r=rr m)/\(qbg f l=none->bad r):=by
 refine qc0 l.length (λi s=>∃out,s=st i out/\qbg f (l.take i)=some out) _ ⟨[],rfl,by simp [qbg]⟩ ?_;rintro i s hi ⟨out,rfl,e⟩;have ho:out.length=i:=by have:=qiA e;rw [List.length_take]at this;omega
 by_cases hlt:i<l.length
 ·have ha:l[i]?=some l[i]:=by simp [hlt]
  have hd:l.drop i=l[i]::l.drop (i+1):=List.drop_eq_getElem_cons hlt;generalize l[i]=w at ha hd;have hall:qbg f l=(qbg f (l.take i)).bind λa=>(qbg f (l.drop i)).map (a++·):=by rw [<- qiz,List.take_append_drop]
  have kk:=h1 i w out ha ho;have k1:=kk.1;have k2:=kk.2;cases hf:f w with
  |some b =>
   rw [k1 b hf,qaZ];refine ⟨hlt,_,rfl,?_⟩;rw [qbw w hlt,getD_at ha,qiz,e];simp [qbg,hf]
  |none =>
   obtain ⟨r,hr,hB⟩:=k2 hf;rw [hB,qag];have hnone:qbg f l=none:=by
    rw [hall,e,hd];simp [qbg,hf]
   exact ⟨λm hm=>(by rw [hnone]at hm;cases hm),λ_=>hr⟩
 ·have:i=l.length:=by omega
  subst this;rw [h2 _ ho,qag];rw [List.take_length]at e;exact ⟨λm hm=>(by rw [e]at hm;cases hm;rfl),λhn=>(by rw [e]at hn;cases hn)⟩
theorem qln{α:Type}(l:List α):(∃a b,l=[a,b])\/(l.length≠2/\∀a b,l≠[a,b]):=by
 match l with
 |[]=>exact .inr ⟨by simp,by simp⟩
 |[a]=>exact .inr ⟨by simp,by simp⟩
 |[a,b]=>exact .inl ⟨a,b,rfl⟩
 |a::b::c::l=>exact .inr ⟨by simp,by simp⟩
theorem quV{α:Type}{w:Nm}(hw:w.length<=20000)(bad:Option α)(K:Ac->Option α) :
  ((qaM w (58:Int)).bind λx11 =>
      (bif !(decide ((x11.length:Int)=2))then
        some true
       else
        (idx x11 0).bind λx12 =>
        some (decide (x12=[]))).bind λ(p13:Bool) =>
      bif p13 then
       bad
      else
       (idx x11 1).bind λx14 =>
       (qaM x14 (62:Int)).bind λx15 =>
       bif !(decide ((x15.length:Int)=2))then
        bad
       else
        (idx x15 0).bind λx16 =>
        (qbs x16).bind λx17 =>
        (idx x15 1).bind λx18 =>
        (qbs x18).bind λx19 =>
        (bif !x17.2 then
          some true
         else
          some (!x19.2)).bind λ(p20:Bool) =>
        bif p20 then
         bad
        else
         (idx x11 0).bind λx21=>K (x21,x17.1.1,x17.1.2.1,x19.1.1,x19.1.2.1,()))=match pA w with
   |none=>bad
   |some a=>K a:=by
 have hc:qaM w (58:Int)=some (parts 58 w):=qp6 58 (by omega);rw [hc];simp only [qa];have hsh:∀x∈parts 58 w,x.length<=w.length:=λx hx=>qad 58 hx;unfold pA;rcases qln (parts 58 w)with ⟨n,r,e⟩|⟨hl,hne⟩
 ·rw [e]at hsh;rw [e,qeY];have d2:decide ((([n,r]:List Nm).length:Int)=2)=true:=by simp
  have i0:idx [n,r] 0=some n:=rfl;have i1:idx [n,r] 1=some r:=rfl;have hr:=hsh r (by simp);simp only [d2,Bool.not_true,cond_false,i0,i1,qa];by_cases hn:n=[]
  ·simp [hn]
  ·simp only [hn,decide_false,cond_false,if_false];have hc2:qaM r (62:Int)=some (parts 62 r):=qp6 62 (by omega);rw [hc2];simp only [qa];have hsh2:∀x∈parts 62 r,x.length<=r.length:=λx hx=>qad 62 hx;rcases qln (parts 62 r)with ⟨l,q,e2⟩|⟨hl,hne⟩
   ·rw [e2]at hsh2;rw [e2,qeY];have d2:decide ((([l,q]:List Nm).length:Int)=2)=true:=by simp
    have j0:idx [l,q] 0=some l:=rfl;have j1:idx [l,q] 1=some q:=rfl;have:=hsh2 l (by simp);have:=hsh2 q (by simp);simp only [d2,Bool.not_true,cond_false,j0,j1,qa];obtain ⟨t,ht,ht'⟩:=qwh (s:=l) (by omega);obtain ⟨u,hu,hu'⟩:=qwh (s:=q) (by omega);rw [ht];simp only [qa];rw [hu];simp only [qa];cases hx:pT l with
    |none=>rfl
    |some x =>
     cases hy:pT q with
     |none=>rfl
     |some y =>
      rw [ht' x.1 x.2 hx,hu' y.1 y.2 hy];rfl
   ·have d2:decide (((parts 62 r).length:Int)=2)=false:=by simp<;>omega
    simp only [d2,Bool.not_false,cond_true];rw [qpI hne]
 ·have d2:decide (((parts 58 w).length:Int)=2)=false:=by simp<;>omega
  simp only [d2,Bool.not_false,cond_true,qa];rw [qpI hne]
theorem qyh{s:Nm}(hs:s.length<=20000):∃m,qeS s=some (m,(pM s).isSome)/\∀x,pM s=some x->m=x:=by
 unfold qeS;have hc:qaM s (47:Int)=some (parts 47 s):=qp6 47 (by omega);rw [hc];simp only [qa];have hsh:∀x∈parts 47 s,x.length<=s.length:=λx hx=>qad 47 hx;by_cases h3:(parts 47 s).length=3
 ·have h3':decide (((parts 47 s).length:Int)=3)=true:=by simp<;>omega
  simp only [h3',Bool.not_true,cond_false];obtain ⟨a,b,c,e⟩:∃a b c,parts 47 s=[a,b,c]:=by
   match h:parts 47 s,h3 with
   |[a,b,c],_=>exact ⟨a,b,c,rfl⟩
  rw [e]at hsh;have ha:=hsh a (by simp);have hbl:=hsh b (by simp);have hcl:=hsh c (by simp);have i0:idx [a,b,c] 0=some a:=rfl;have i1:idx [a,b,c] 1=some b:=rfl;have i2:idx [a,b,c] 2=some c:=rfl;have t0:qbK a (44:Int)=some (items 44 a):=qrM 44 (by omega);have t1:qbK b (59:Int)=some (items 59 b):=qrM 59 (by omega);have t2:qbK c (44:Int)=some (items 44 c):=qrM 44 (by omega);rw [e,i0,i1,i2];simp only [qa];rw [t0,t1,t2];simp only [qa];obtain ⟨l1,l1'⟩:=qdf (c:=44) (s:=a);obtain ⟨l2,l2'⟩:=qdf (c:=59) (s:=b);obtain ⟨l3,l3'⟩:=qdf (c:=44) (s:=c);have hpm:pM s=if []∈items 44 a then none else (qbg pA (items 59 b)).bind λacs=>(qbg pH (items 44 c)).map λhs=>(items 44 a,acs,hs,()):=by
   unfold pM;rw [e];rfl
  rw [qik _ _ (by omega)];simp only [qa];by_cases hin : []∈items 44 a
  ·rw [hpm];simp only [hin,decide_true,cond_true,if_true];exact ⟨_,rfl,λx h=>by cases h⟩
  simp only [hin,decide_false,cond_false];simp only [hin,if_false]at hpm;have k1:=qpA (items 59 b) pA (λi out=>((i:Int),items 44 a,out,([]:List Ts))) (ρ:=(List Nm×List Ac×List Ts)⊕(Mc×Bool)) (λr=>∃m,r=.inr (m,false)) (λout=>.inl (items 44 a,out,[]))
   (B:=λ(s9:(Int×(List (List UInt8))×(List ((List UInt8)×(List Int)×(List Int)×(List Int)×(List Int)×Unit))×(List ((List Int)×(List Int)×Unit)))) =>
     bif decide (s9.1<((items 59 b).length:Int))then
      (idx (items 59 b) s9.1).bind λx10 =>
      (qaM x10 (58:Int)).bind λx11 =>
      (bif !(decide ((x11.length:Int)=2))then
        some true
       else
        (idx x11 0).bind λx12 =>
        some (decide (x12=[]))).bind λ(p13:Bool) =>
      bif p13 then
       some (.inr (.inr ((s9.2.1,s9.2.2.1,s9.2.2.2,()),false)))
      else
       (idx x11 1).bind λx14 =>
       (qaM x14 (62:Int)).bind λx15 =>
       bif !(decide ((x15.length:Int)=2))then
        some (.inr (.inr ((s9.2.1,s9.2.2.1,s9.2.2.2,()),false)))
       else
        (idx x15 0).bind λx16 =>
        (qbs x16).bind λx17 =>
        (idx x15 1).bind λx18 =>
        (qbs x18).bind λx19 =>
        (bif !x17.2 then
          some true
         else
          some (!x19.2)).bind λ(p20:Bool) =>
        bif p20 then
         some (.inr (.inr ((s9.2.1,s9.2.2.1,s9.2.2.2,()),false)))
        else
         (idx x11 0).bind λx21 =>
         (app s9.2.2.1 ([(x21,x17.1.1,x17.1.2.1,x19.1.1,x19.1.2.1,())])).bind λx22 =>
         some (.inl (w64 (s9.1+1),s9.2.1,x22,s9.2.2.2))
     else
      some (.inr (.inl (s9.2.1,s9.2.2.1,s9.2.2.2))))
   (λi w out hi ho=>by
    have hlt:=qY hi;have hw:=l2' w (List.mem_of_getElem? hi);have h0:decide ((i:Int)<((items 59 b).length:Int))=true:=by simp<;>omega
    have:=quV (α:=(Int×List Nm×List Ac×List Ts)⊕((List Nm×List Ac×List Ts)⊕(Mc×Bool))) (w:=w) (by omega) (some (.inr (.inr ((items 44 a,out,[],()),false)))) (λz=>(app out [z]).bind λx22=>some (.inl (w64 ((i:Int)+1),items 44 a,x22,[])));simp only [h0,cond_true,qQ hi,qa];refine ⟨λb' hb=>?_,λhn=>⟨.inr ((items 44 a,out,[],()),false),⟨_,rfl⟩,?_⟩⟩
    ·refine this.trans ?_;rw [hb];simp only
     rw [qaf (by omega)];simp only [qa];rw [wid (by omega) (by omega)];rfl
    ·refine this.trans ?_;rw [hn])
   (λout ho=>by simp)
  obtain ⟨r,hr,hr1,hr2⟩:=k1;have hr':qA _ ((0:Int),items 44 a,([]:List Ac),([]:List Ts))=some r:=hr;rw [hr'];simp only [qa];cases hA:qbg pA (items 59 b)with
  |none =>
   obtain ⟨m,rfl⟩:=hr2 hA;rw [hpm,hA];exact ⟨m,rfl,λx h=>by cases h⟩
  |some acs =>
   have:=hr1 acs hA;subst this;simp only [Sum.elim_inl];have k2:=qpA (items 44 c) pH (λi out=>((i:Int),items 44 a,acs,out)) (ρ:=(List Nm×List Ac×List Ts)⊕(Mc×Bool)) (λr=>∃m,r=.inr (m,false)) (λout=>.inl (items 44 a,acs,out))
    (B:=λ(s28:(Int×(List (List UInt8))×(List ((List UInt8)×(List Int)×(List Int)×(List Int)×(List Int)×Unit))×(List ((List Int)×(List Int)×Unit)))) =>
     bif decide (s28.1<((items 44 c).length:Int))then
      (idx (items 44 c) s28.1).bind λx29 =>
      (qbs x29).bind λx30 =>
      (bif !x30.2 then
        some true
       else
        (idx (items 44 c) s28.1).bind λx31 =>
        some (decide (x31=[]))).bind λ(p32:Bool) =>
      bif p32 then
       some (.inr (.inr ((s28.2.1,s28.2.2.1,s28.2.2.2,()),false)))
      else
       (app s28.2.2.2 ([x30.1])).bind λx33 =>
       some (.inl (w64 (s28.1+1),s28.2.1,s28.2.2.1,x33))
     else
      some (.inr (.inl (s28.2.1,s28.2.2.1,s28.2.2.2))))
    (λi w out hi ho=>by
     have hlt:=qY hi;have hw:=l3' w (List.mem_of_getElem? hi);have h0:decide ((i:Int)<((items 44 c).length:Int))=true:=by simp<;>omega
     obtain ⟨t,ht,ht'⟩:=qwh (s:=w) (by omega);simp only [h0,cond_true,qQ hi,qa];rw [ht];simp only [qa];unfold pH;by_cases hw0:w=[]
     ·refine ⟨λb' hb=>by simp [hw0]at hb,λ_=>⟨.inr ((items 44 a,acs,out,()),false),⟨_,rfl⟩,?_⟩⟩;simp only [hw0,decide_true];cases (pT []).isSome<;>rfl
     ·simp only [hw0,if_false,decide_false];cases hp:pT w with
      |none=>exact ⟨λb' hb=>(by cases hb),λ_=>⟨.inr ((items 44 a,acs,out,()),false),⟨_,rfl⟩,rfl⟩⟩
      |some p =>
       refine ⟨λb' hb=>?_,λh=>by cases h⟩;cases hb;simp only [Option.isSome_some,Bool.not_true,cond_false,qa];rw [qaf (by omega)];simp only [qa];rw [wid (by omega) (by omega),ht' p.1 p.2 hp];rfl)
    (λout ho=>by simp)
   obtain ⟨r,hr,hr1,hr2⟩:=k2;have hr':qA _ ((0:Int),items 44 a,acs,([]:List Ts))=some r:=hr;rw [hr'];simp only [qa];cases hH:qbg pH (items 44 c)with
   |none =>
    obtain ⟨m,rfl⟩:=hr2 hH;rw [hpm,hA,hH];exact ⟨m,rfl,λx h=>by cases h⟩
   |some hms =>
    have:=hr1 hms hH;subst this;rw [hpm,hA,hH];exact ⟨_,rfl,λx h=>by cases h;rfl⟩
 ·have h3':decide (((parts 47 s).length:Int)=3)=false:=by simp<;>omega
  simp only [h3',Bool.not_false,cond_true];unfold pM;rw [qxt h3];exact ⟨_,rfl,λx h=>by cases h⟩
theorem qkd{m:Mc}(hb:LB m):qbQ m=some (qne m).2:=by
 unfold qbQ;rw [qnW hb];rfl
theorem qn0{s:Nm}(hs:s.length<=20000)(hb:∀m,pM s=some m->LB m):qaN s=some (qyy s):=by
 unfold qaN;have h0:decide ((s.length:Int) > 60000)=false:=by simp<;>omega
 simp only [h0,cond_false];obtain ⟨m,h1,h2⟩:=qyh hs;rw [h1];simp only [qa];unfold qyy;cases hp:pM s with
 |none=>rfl
 |some x =>
  have:=h2 x hp;subst this;simp only [Option.isSome_some,Bool.not_true,cond_false];rw [qkd (hb _ hp)];simp only [qa];by_cases c:(qne m).2=0<;>simp [c]
theorem qnG{α β:Type}{f:α->Option β}:∀{l:List α} {r:List β},qbg f l=some r->∀b∈r,∃a∈l,f a=some b
 |[],r,h,b,hb=>by cases h;cases hb
 |a::l,r,h,b,hb=>by
  simp only [qbg]at h;obtain ⟨c,hc,h⟩:=qd.1 h;obtain ⟨r',hr,rfl⟩:=qc.1 h;rcases qk.1 hb with rfl|hb
  ·exact ⟨a,by simp,hc⟩
  ·obtain ⟨x,hx,e⟩:=qnG hr b hb;exact ⟨x,by simp [hx],e⟩
theorem qxS{α:Type}{w:Nm}(hw:w.length<=100000)(A:Option α)(K:Nm->List Nm->Int->Option α) :
  ((qaM w (32:Int)).bind λx6 =>
     (bif decide ((x6.length:Int)<2)then
       some true
      else
       (qa5 x6 []).bind λx7 =>
       some x7).bind λ(p8:Bool) =>
     bif p8 then
      A
     else
      (idx x6 1).bind λx9 =>
      (qbB x9 (3:Int)).bind λx10 =>
      (bif !x10.2 then
        some true
       else
        some (decide (x10.1<0))).bind λ(p11:Bool) =>
      bif p11 then
       A
      else
       (idx x6 0).bind λx12 =>
       (slc x6 2 (x6.length:Int)).bind λx13=>K x12 x13 x10.1)=match pg w with
   |none=>A
   |some g=>K g.1 g.2.1 g.2.2.1:=by
 have hc:qaM w (32:Int)=some (parts 32 w):=qp6 32 hw;rw [hc];simp only [qa];have hpl:=qdm 32 w;have hsh:∀x∈parts 32 w,x.length<=w.length:=λx hx=>qad 32 hx;unfold pg;cases hp:parts 32 w with
 |nil=>rfl
 |cons n l =>
  cases l with
  |nil=>rfl
  |cons k l =>
   rw [hp]at hpl hsh;have h0:decide (((n::k::l).length:Int)<2)=false:=by simp<;>omega
   simp only [h0,cond_false];rw [qik _ _ (by omega)];simp only [qa];by_cases hc : []∈n::k::l
   ·rw [decide_eq_true hc,if_pos hc];rfl
   ·rw [decide_eq_false hc,if_neg hc];simp only [cond_false];have hk:=hsh k (by simp);obtain ⟨v,ok,h1,h2,h3⟩:=qDg (d:=3) (e:=3) rfl (by omega) (w:=k) (by omega);have e1:idx (n::k::l) 1=some k:=rfl;have e0:idx (n::k::l) 0=some n:=rfl;rw [e1];simp only [qa];rw [h1];simp only [qa];rw [h2];simp only [qa];cases hn:qe5 3 k with
    |none=>rfl
    |some u =>
     simp only [Option.isSome_some,Bool.not_true,cond_false,qi];rw [e0];simp only [qa];have e2:slc (n::k::l) 2 ((n::k::l).length:Int)=some l:=by
      have:=qlg (l:=n::k::l) (a:=2) (by simp);exact this
     rw [e2];simp only [qa];rw [h3 u hn]
theorem qri{s:Nm}(hs:s.length<=20000)(hb:∀gs,qbg pg (parts 59 s)=some gs->GB gs):qa2 s=some (qyx s):=by
 unfold qa2;have h0:decide ((s.length:Int) > 60000)=false:=by simp<;>omega
 simp only [h0,cond_false];have hc:qaM s (59:Int)=some (parts 59 s):=qp6 59 (by omega);rw [hc];simp only [qa];have hpl:=qdm 59 s;have hsh:∀x∈parts 59 s,x.length<=s.length:=λx hx=>qad 59 hx;have k1:=qpA (parts 59 s) pg (λi out=>(out,(i:Int))) (ρ:=(List Gt)⊕(List Gt×Int)) (λr=>r=.inr ([],7)) (λout=>.inl out)
  (B:=λ(s4:((List ((List UInt8)×(List (List UInt8))×Int×Unit))×Int)) =>
    bif decide (s4.2<((parts 59 s).length:Int))then
     (idx (parts 59 s) s4.2).bind λx5 =>
     (qaM x5 (32:Int)).bind λx6 =>
     (bif decide ((x6.length:Int)<2)then
       some true
      else
       (qa5 x6 []).bind λx7 =>
       some x7).bind λ(p8:Bool) =>
     bif p8 then
      some (.inr (.inr ([],7)))
     else
      (idx x6 1).bind λx9 =>
      (qbB x9 (3:Int)).bind λx10 =>
      (bif !x10.2 then
        some true
       else
        some (decide (x10.1<0))).bind λ(p11:Bool) =>
      bif p11 then
       some (.inr (.inr ([],7)))
      else
       (idx x6 0).bind λx12 =>
       (slc x6 2 (x6.length:Int)).bind λx13 =>
       (app s4.1 ([(x12,x13,x10.1,())])).bind λx14 =>
       some (.inl (x14,w64 (s4.2+1)))
    else
     some (.inr (.inl s4.1)))
  (λi w out hi ho=>by
   have hlt:=qY hi;have hw:=hsh w (List.mem_of_getElem? hi);have h0:decide ((i:Int)<((parts 59 s).length:Int))=true:=by simp<;>omega
   have:=qxS (α:=(List Gt×Int)⊕((List Gt)⊕(List Gt×Int))) (w:=w) (by omega) (some (.inr (.inr ([],7)))) (λa b v=>(app out [(a,b,v,())]).bind λx14=>some (.inl (x14,w64 ((i:Int)+1))));simp only [h0,cond_true,qQ hi,qa];refine ⟨λb' hb=>?_,λhn=>⟨.inr ([],7),rfl,?_⟩⟩
   ·refine this.trans ?_;rw [hb];simp only
    rw [qaf (by omega)];simp only [qa];rw [wid (by omega) (by omega)];rfl
   ·refine this.trans ?_;rw [hn])
  (λout ho=>by simp)
 obtain ⟨r,hr,hr1,hr2⟩:=k1;have hr':qA _ (([]:List Gt),(0:Int))=some r:=hr;rw [hr'];simp only [qa];unfold qyx;cases hG:qbg pg (parts 59 s)with
 |none=>rw [hr2 hG];rfl
 |some gs =>
  rw [hr1 gs hG];simp only [Sum.elim_inl];rw [qnY (hb gs hG)];simp only [qa];by_cases c:(qeF gs).2=0<;>simp [c]
theorem qvQ{s:Nm}(hs:s.length<=900){gs:List Gt}(h:qbg pg (parts 59 s)=some gs):GB gs:=by
 have hpl:=qdm 59 s;have hl:=qiA h;have each:∀g∈gs,g.1.length<=1000/\g.2.1.length<=1000/\∀r∈g.2.1,r.length<=1000:=by
  intro g hg;obtain ⟨w,hw,e⟩:=qnG h g hg;have hwl:=qad 59 hw;have hl2:=qdm 32 w;have hsh:∀x∈parts 32 w,x.length<=w.length:=λx hx=>qad 32 hx;unfold pg at e;split at e
  ·rename_i n k l hp;rw [hp]at hl2 hsh;split at e
   ·cases e
   ·obtain ⟨v,_,rfl⟩:=qc.1 e;have:=hsh n (by simp);simp at hl2;exact ⟨by simp only;omega,by simp only;omega,λr hr=>by have:=hsh r (by simp at hr ⊢;simp [hr]);omega⟩
  ·cases e
 exact ⟨by omega,λg hg=>(each g hg).1,λg hg=>(each g hg).2.1,λg hg=>(each g hg).2.2⟩
theorem qvR{s:Nm}(hs:s.length<=900){m:Mc}(h:pM s=some m):LB m:=by
 unfold pM three at h;split at h
 ·rename_i a b c hp;have hsh:∀x∈parts 47 s,x.length<=s.length:=λx hx=>qad 47 hx;rw [hp]at hsh;have ha:=hsh a (by simp);have hbl:=hsh b (by simp);have hcl:=hsh c (by simp);obtain ⟨l1,l1'⟩:=qdf (c:=44) (s:=a);obtain ⟨l2,l2'⟩:=qdf (c:=59) (s:=b);obtain ⟨l3,l3'⟩:=qdf (c:=44) (s:=c);simp only at h;split at h
  ·cases h
  ·obtain ⟨acs,hA,h⟩:=qd.1 h;obtain ⟨hms,hH,rfl⟩:=qc.1 h;have e1:=qiA hA;have e2:=qiA hH;refine ⟨by simp only;omega,by simp only;omega,by simp only;omega,λx hx=>by have:=l1' x hx;omega,λx hx=>?_,λt ht=>?_⟩
   ·obtain ⟨w,hw,e⟩:=qnG hA x hx;have hwl:=l2' w hw;unfold pA at e;have hs1:∀x∈parts 58 w,x.length<=w.length:=λx hx=>qad 58 hx;rcases qln (parts 58 w)with ⟨n,r,e3⟩|⟨_,hne⟩
    ·rw [e3,qeY]at e;rw [e3]at hs1;have:=hs1 n (by simp);have hr:=hs1 r (by simp);split at e
     ·cases e
     ·have hs2:∀x∈parts 62 r,x.length<=r.length:=λx hx=>qad 62 hx;rcases qln (parts 62 r)with ⟨l,q,e4⟩|⟨_,hne⟩
      ·rw [e4,qeY]at e;rw [e4]at hs2;have:=hs2 l (by simp);have:=hs2 q (by simp);obtain ⟨p1,hp1,e⟩:=qd.1 e;obtain ⟨p2,hp2,rfl⟩:=qc.1 e;have z1:=qAD (a:=p1.1) (b:=p1.2) hp1;have z2:=qAD (a:=p2.1) (b:=p2.2) hp2;exact ⟨by simp only;omega,⟨by simp only;omega,by simp only;omega⟩,⟨by simp only;omega,by simp only;omega⟩⟩
      ·rw [qpI hne]at e;cases e
    ·rw [qpI hne]at e;cases e
   ·obtain ⟨w,hw,e⟩:=qnG hH t ht;have hwl:=l3' w hw;unfold pH at e;split at e
    ·cases e
    ·obtain ⟨p,hp,rfl⟩:=qc.1 e;have z:=qAD (a:=p.1) (b:=p.2) hp;exact ⟨by simp only;omega,by simp only;omega⟩
 ·cases h
theorem qsQ(l:List Int)(h:l.length<=1000000000):qht l l=some true:=by
 unfold qht;simp only [decide_true,Bool.not_true,cond_false];rw [qap l _ (λ_ _=>(none:Option Bool)) (λi a hi=>by
  have:=qY hi;rw [qQ hi];simp only [qa,decide_true,Bool.not_true,cond_false,stp];rw [wid (by omega) (by omega)])]
 have:qaX (λ_ _=>(none:Option Bool)) 0 l=none:=qay.2 (λ_ _ _=>rfl);rw [this];rfl
theorem qg2{t:Ts}(h:LT t):qaS t t=some true:=by
 have h1:=h.1;have h2:=h.2;unfold qaS;rw [qsQ _ (by omega),qsQ _ (by omega)];rfl
theorem qsR{m:Mc}(hb:LB m):qgj m m=some true:=by
 have k1:=hb.fl;have k2:=hb.ac;have k3:=hb.hm;unfold qgj;rw [qp8 _ (by omega)];simp only [decide_true,Bool.not_true,cond_false,qa];have none_:∀{α:Type} (l:List α),qaX (λ_ _=>(none:Option Bool)) 0 l=none:=λl=>qay.2 (λ_ _ _=>rfl);rw [qap m.2.1 _ (λ_ _=>(none:Option Bool)) (λi a hi=>by
  have:=qY hi;obtain ⟨n1,n2,n3⟩:=hb.an a (List.mem_of_getElem? hi);rw [qQ hi];simp only [qa,decide_true,Bool.not_true,cond_false];have s1:qaS (a.2.1,a.2.2.1,()) (a.2.1,a.2.2.1,())=some true:=qg2 n2;have s2:qaS (a.2.2.2.1,a.2.2.2.2.1,()) (a.2.2.2.1,a.2.2.2.2.1,())=some true:=qg2 n3;rw [s1];simp only [qa,Bool.not_true,cond_false];rw [s2];simp only [qa,Bool.not_true,cond_false,stp];rw [wid (by omega) (by omega)]),none_,qZ]
 simp only
 rw [qap m.2.2.1 _ (λ_ _=>(none:Option Bool)) (λi a hi=>by
  have:=qY hi;rw [qQ hi];simp only [qa];rw [qg2 (hb.ht a (List.mem_of_getElem? hi))];simp only [qa,Bool.not_true,cond_false,stp];rw [wid (by omega) (by omega)]),none_,qZ]
def okF(f:Nat)(t:Ts):Prop:=(∀x∈t.1,0<=x/\x<f)/\(∀x∈t.2.1,0<=x/\x<f)
structure VM (m:Mc):Prop where
 f0:0<m.1.length
 f8:m.1.length<=8
 nm:∀s∈m.1,isN s=true
 an:∀a∈m.2.1,isN a.1=true/\okF m.1.length (qgg a)/\okF m.1.length (dos a)
 ht:∀t∈m.2.2.1,okF m.1.length t
theorem qz1{f:Nat}{l:List Int}(h:qx2 f l=0):∀x∈l,0<=x/\x<(f:Int):=by
 intro x hx;obtain ⟨i,hi⟩:=List.mem_iff_getElem?.1 hx;have:=qf6.1 h i x hi;unfold ixE at this;split at this
 ·omega
 ·omega
theorem qBt{f:Nat}{t:Ts}(h:tsE f t=0):okF f t:=by
 unfold tsE at h;split at h
 ·rename_i h1;split at h
  ·rename_i h2;exact ⟨qz1 h1,qz1 h2⟩
  ·rename_i h2;exact absurd h h2
 ·rename_i h1;exact absurd h h1
theorem qCh{m:Mc}(h:(qne m).2=0):VM m:=by
 unfold qne at h;split at h
 ·rename_i h1;split at h
  ·rename_i h2;split at h
   ·rename_i h3;split at h
    ·rename_i h4;refine ⟨by omega,by omega,λs hs=>?_,λa ha=>?_,λt ht=>?_⟩
     ·obtain ⟨i,hi⟩:=List.mem_iff_getElem?.1 hs;have:=qf6.1 h3 i s hi;unfold nmE at this;split at this
      ·assumption
      ·omega
     ·obtain ⟨i,hi⟩:=List.mem_iff_getElem?.1 ha;have:=qf6.1 h4 i a hi;unfold acE at this;split at this
      ·rename_i h6;split at this
       ·omega
       ·split at this
        ·rename_i h5;exact ⟨h6,qBt h5,qBt this⟩
        ·rename_i h5;exact absurd this h5
      ·omega
     ·obtain ⟨i,hi⟩:=List.mem_iff_getElem?.1 ht;exact qBt (qf6.1 h i t hi)
    ·rename_i h4;exact absurd h h4
   ·rename_i h3;exact absurd h h3
  ·cases h
 ·cases h
theorem qAp{v:Int}(h0:0<=v)(h1:v<8):qe5 2 (Lib.itoa v)=some v:=by
 rw [qwY,qw0 (d:=2) (by omega) (by omega) (v:=v) (by omega)];simp [h0]
theorem qow{v:Int}(h0:0<=v){c:UInt8}(h:¬ isD c):c∉Lib.itoa v:=λhc=>by
 unfold Lib.itoa at hc;rw [if_neg (by omega)]at hc;exact h ((qed _).1 c hc)
theorem qie{c:UInt8}{l:List Int}(h:∀x∈l,0<=x/\x<8){d:UInt8}(h1:d≠c)(h2:¬ isD d):d∉signed c l:=λhd=>by
 unfold signed at hd;obtain ⟨w,hw,hd⟩:=List.mem_flatten.1 hd;obtain ⟨z,hz,rfl⟩:=List.mem_map.1 hw;rcases qk.1 hd with e|e
 ·exact h1 e
 ·exact qow (h z hz).1 h2 e
theorem qqy{c:UInt8}(hc:¬ isD c){l:List Int}(h:∀x∈l,0<=x/\x<8):ixs c (signed c l)=some l:=by
 cases l with
 |nil=>rfl
 |cons z l =>
  have e:signed c (z::l)=c::Lib.join ((z::l).map Lib.itoa) [c]:=by
   simp only [qh];rw [qoE];simp [signed,List.map_map,Function.comp_def]
  rw [e];simp only [ixs,if_true];rw [qe6 (by simp) (λw hw=>by
   obtain ⟨x,hx,rfl⟩:=List.mem_map.1 hw;exact qow (h x hx).1 hc)]
  exact qoT λx hx=>qAp (h x hx).1 (h x hx).2
theorem qv1(c:UInt8)(l:List Int):signed c l=[]\/∃u,signed c l=c::u:=by
 cases l with
 |nil=>exact .inl rfl
 |cons z l=>exact .inr ⟨_,rfl⟩
theorem okF.lt{f:Nat}{t:Ts}(h:okF f t)(h8:f<=8):(∀x∈t.1,0<=x/\x<8)/\∀x∈t.2.1,0<=x/\x<8 :=
 ⟨λx hx=>by have:=h.1 x hx;omega,λx hx=>by have:=h.2 x hx;omega⟩
theorem qAE{t:Ts}(h1:∀x∈t.1,0<=x/\x<8)(h2:∀x∈t.2.1,0<=x/\x<8):pT (qmC t)=some (t.1,t.2.1):=by
 unfold pT qmC;obtain ⟨e1,e2⟩:=qw7 (p:=signed 43 t.1) (q:=signed 45 t.2.1) (qie h1 (by decide) (by unfold isD;decide)) (qv1 45 t.2.1);rw [e1,e2,qqy (by unfold isD;decide) h1,qqy (by unfold isD;decide) h2];rfl
theorem qhA{t:Ts}(h1:∀x∈t.1,0<=x/\x<8)(h2:∀x∈t.2.1,0<=x/\x<8){c:UInt8}(h3:c≠43)(h4:c≠45)(h5:¬ isD c):c∉qmC t:=λh=>by
 rcases qj.1 h with h|h
 ·exact qie h1 h3 h5 h
 ·exact qie h2 h4 h5 h
theorem qty{s:Nm}(h:isN s=true){c:UInt8}(hc:qAa c=false)(hb:decide ((c.toNat:Int)=45)=false)(hd:decide (48<=(c.toNat:Int)/\(c.toNat:Int)<=57)=false):c∉s:=λhm=>by
 unfold isN at h;simp only [qe,Option.isNone_iff_eq_none]at h;obtain ⟨i,hi⟩:=List.mem_iff_getElem?.1 hm;have:=(qay (l:=s)).1 h.2 i c hi;split at this
 ·cases this
 ·rename_i hb';apply hb';unfold qu0;rw [hc,hb,hd];simp
theorem qFg{a:Ac}(hn:isN a.1=true){f:Nat}(h8:f<=8)(h1:okF f (qgg a))(h2:okF f (dos a)):pA (qql a)=some a:=by
 obtain ⟨a1,a2⟩:=h1.lt h8;obtain ⟨b1,b2⟩:=h2.lt h8;have e:qql a=a.1++58::(qmC (qgg a)++62::qmC (dos a)):=by simp [qql]
 rw [e];unfold pA;have n58:(58:UInt8)∉a.1:=qty hn (by decide) (by decide) (by decide);have t58:(58:UInt8)∉qmC (qgg a)++62::qmC (dos a):=λh=>by
  rcases qj.1 h with h|h
  ·exact qhA a1 a2 (by decide) (by decide) (by unfold isD;decide) h
  ·rcases qk.1 h with h|h
   ·exact absurd h (by decide)
   ·exact qhA b1 b2 (by decide) (by decide) (by unfold isD;decide) h
 rw [(qek n58).1 t58,qeY,if_neg (qwR hn)];rw [(qek (qhA a1 a2 (by decide) (by decide) (by unfold isD;decide))).1 (qhA b1 b2 (by decide) (by decide) (by unfold isD;decide)),qeY];rw [qAE a1 a2,qAE b1 b2];rfl
theorem qD4{sep:Nm}{l:List Nm}(h:l≠[])(hw:∀w∈l,w≠[]):Lib.join l sep≠[]:=by
 cases l with
 |nil=>exact absurd rfl h
 |cons a l =>
  cases l with
  |nil=>rw [Lib.join_one];exact hw a (by simp)
  |cons b l=>rw [qdJ];have:=hw a (by simp);simp [this]
theorem qlP{c:UInt8}{l:List Nm}(hw:∀w∈l,w≠[]/\c∉w):items c (Lib.join l [c])=l:=by
 unfold items;by_cases h:l=[]
 ·subst h;rw [Lib.join_nil];simp
 ·rw [if_neg (qD4 h λw hw'=>(hw w hw').1),qe6 h λw hw'=>(hw w hw').2]
theorem qvu{c:UInt8}{sep:Nm}{l:List Nm}(h1:c∉sep)(h2:∀w∈l,c∉w):c∉Lib.join l sep:=λh=>by
 rcases qr6 sep h with h|⟨w,hw,h⟩
 ·exact h1 h
 ·exact h2 w hw h
theorem quh{m:Mc}(hv:VM m)(hf:∀t∈m.2.2.1,t.1.length+t.2.1.length≠0):pM (qDo m)=some m:=by
 have e:qDo m=Lib.join [Lib.join m.1 [44],Lib.join (m.2.1.map qql) [59],Lib.join (m.2.2.1.map qmC) [44]] [47]:=by
  rw [qdJ,qdJ,Lib.join_one];simp [qDo]
 have f1:∀s∈m.1,s≠[]/\(44:UInt8)∉s/\(47:UInt8)∉s:=λs hs=>⟨qwR (hv.nm s hs),qty (hv.nm s hs) (by decide) (by decide) (by decide),qty (hv.nm s hs) (by decide) (by decide) (by decide)⟩
 have f3:∀t∈m.2.2.1,qmC t≠[]/\(44:UInt8)∉qmC t/\(47:UInt8)∉qmC t:=λt ht=>by
  obtain ⟨a1,a2⟩:=(hv.ht t ht).lt hv.f8;refine ⟨λe=>?_,qhA a1 a2 (by decide) (by decide) (by unfold isD;decide),qhA a1 a2 (by decide) (by decide) (by unfold isD;decide)⟩;have:=hf t ht;unfold qmC at e;obtain ⟨e1,e2⟩:=List.append_eq_nil_iff.1 e;have z1:t.1=[]:=by cases h:t.1 with|nil=>rfl|cons z l=>rw [h]at e1;simp [signed]at e1
  have z2:t.2.1=[]:=by cases h:t.2.1 with|nil=>rfl|cons z l=>rw [h]at e2;simp [signed]at e2
  rw [z1,z2]at this;exact this rfl
 have f2:∀a∈m.2.1,qql a≠[]/\(59:UInt8)∉qql a/\(47:UInt8)∉qql a:=λa ha=>by
  obtain ⟨h1,h2,h3⟩:=hv.an a ha;obtain ⟨a1,a2⟩:=h2.lt hv.f8;obtain ⟨b1,b2⟩:=h3.lt hv.f8;have no:∀c:UInt8,c∉a.1->c≠58->c≠62->c≠43->c≠45->¬ isD c->c∉qql a:=λc k0 k1 k2 k3 k4 k5 h=>by
   unfold qql at h;simp only [qj,List.mem_singleton]at h;rcases h with (((h|h)|h)|h)|h
   ·exact k0 h
   ·exact k1 h
   ·exact qhA a1 a2 k3 k4 k5 h
   ·exact k2 h
   ·exact qhA b1 b2 k3 k4 k5 h
  refine ⟨by unfold qql;simp,?_,?_⟩
  ·exact no 59 (qty h1 (by decide) (by decide) (by decide)) (by decide) (by decide) (by decide) (by decide) (by unfold isD;decide)
  ·exact no 47 (qty h1 (by decide) (by decide) (by decide)) (by decide) (by decide) (by decide) (by decide) (by unfold isD;decide)
 unfold pM;rw [e,qe6 (by simp) (λw hw=>by
  simp only [qk,List.mem_nil_iff,or_false]at hw;rcases hw with rfl|rfl|rfl
  ·exact qvu (by decide) λs hs=>(f1 s hs).2.2
  ·exact qvu (by decide) λs hs=>by obtain ⟨a,ha,rfl⟩:=List.mem_map.1 hs;exact (f2 a ha).2.2
  ·exact qvu (by decide) λs hs=>by obtain ⟨t,ht,rfl⟩:=List.mem_map.1 hs;exact (f3 t ht).2.2)]
 show (if []∈items 44 (Lib.join m.1 [44])then none else _)=_;rw [qlP λs hs=>⟨(f1 s hs).1,(f1 s hs).2.1⟩];rw [qlP λs hs=>by obtain ⟨a,ha,rfl⟩:=List.mem_map.1 hs;exact ⟨(f2 a ha).1,(f2 a ha).2.1⟩];rw [qlP λs hs=>by obtain ⟨t,ht,rfl⟩:=List.mem_map.1 hs;exact ⟨(f3 t ht).1,(f3 t ht).2.1⟩];rw [if_neg (λh=>(f1 [] h).1 rfl)];rw [qoT λa ha=>qFg (hv.an a ha).1 hv.f8 (hv.an a ha).2.1 (hv.an a ha).2.2];have hH:qbg pH (m.2.2.1.map qmC)=some m.2.2.1:=qoT λt ht=>by
  obtain ⟨a1,a2⟩:=(hv.ht t ht).lt hv.f8;unfold pH;rw [if_neg (f3 t ht).1,qAE a1 a2];rfl
 simp only [qa];rw [hH];rfl
theorem qvl{l:List Ts}(hl:l.length<=1000)(ht:∀t∈l,LT t):qdY l=some (decide (∀t∈l,t.1.length+t.2.1.length≠0)):=by
 unfold qdY;rw [qap l _ (λ_ (t:Ts)=>if t.1.length+t.2.1.length=0 then some false else none) (λi t hi=>by
  have hlt:=qY hi;have h1:=(ht t (List.mem_of_getElem? hi)).1;have h2:=(ht t (List.mem_of_getElem? hi)).2;rw [qQ hi];simp only [qa];rw [wid (by omega) (by omega)];by_cases c:t.1.length+t.2.1.length=0
  ·have:decide (((t.1.length:Int)+(t.2.1.length:Int))=0)=true:=by simp<;>omega
   simp only [this,cond_true,c,if_true,stp]
  ·have:decide (((t.1.length:Int)+(t.2.1.length:Int))=0)=false:=by simp<;>omega
   simp only [this,cond_false,c,if_false,stp];rw [wid (by omega) (by omega)]),qZ]
 cases hf:qaX (λ_ (t:Ts)=>if t.1.length+t.2.1.length=0 then some false else none) 0 l with
 |none =>
  have:∀t∈l,t.1.length+t.2.1.length≠0:=λt ht'=>by
   obtain ⟨i,hi⟩:=List.mem_iff_getElem?.1 ht';have:=qay.1 hf i t hi;intro c;simp [c]at this
  rw [decide_eq_true this]
 |some r =>
  obtain ⟨i,t,h1,h2,_⟩:=qaT hf;split at h2
  ·rename_i c;cases h2;have:¬ ∀t∈l,t.1.length+t.2.1.length≠0:=λh=>h t (List.mem_of_getElem? h1) c;rw [decide_eq_false this]
  ·cases h2
theorem qD7(haw:qjJ=some true)(m:Mc)(gs:List Gt)(s:Nm)(hm:inM m)(hg:∀g∈gs,qtq g.2.2.1):qcZ m gs s=some true:=by
 unfold qcZ;rw [haw];simp only [qa,Bool.not_true,cond_false];obtain ⟨b,hb,hb'⟩:=qEX m;obtain ⟨d,hd,hd'⟩:=qvg gs;rw [hb];simp only [qa];cases b with
 |false=>rfl
 |true =>
 rw [hd];simp only [Bool.not_true,cond_false,qa];cases d with
 |false=>rfl
 |true =>
 have hM:=hb' rfl;have hG:=hd' rfl;simp only [Bool.not_true,cond_false]
 have main:(∃x y,qaj s=some (x,y)/\qaN s=some (x,y)/\LB x)/\(∃x y,q8 s=some (x,y)/\qa2 s=some (x,y)/\GB x) \/
   ((bif decide ((s.length:Int) > 300)then
      bif decide ((s.length:Int)<=60000)then
       some true
      else
       some (decide ((s.length:Int) > 60010))
     else
      some (decide ((s.length:Int) > 60010)))=some true):=by
  have e0:LB ([],[],[],()):=⟨by simp,by simp,by simp,by simp,by simp,by simp⟩
  have g0:GB []:=⟨by simp,by simp,by simp,by simp⟩
  by_cases c1:s.length<=300
  ·refine .inl ⟨?_,?_⟩
   ·refine ⟨_,_,qhr (by omega) λm h=>qvR (by omega) h,qn0 (by omega) λm h=>qvR (by omega) h,?_⟩;cases hp:pM s with
    |none=>exact e0
    |some x =>
     simp only
     split
     ·exact qvR (by omega) hp
     ·exact e0
   ·refine ⟨_,_,qkg (by omega) λm h=>qvQ (by omega) h,qri (by omega) λm h=>qvQ (by omega) h,?_⟩;cases hp:qbg pg (parts 59 s)with
    |none=>exact g0
    |some x =>
     simp only
     split
     ·exact qvQ (by omega) hp
     ·exact g0
  ·have d1:decide ((s.length:Int) > 300)=true:=by simp<;>omega
   by_cases c2:s.length<=60000
   ·right
    have d2:decide ((s.length:Int)<=60000)=true:=by simp<;>omega
    simp only [d1,d2,cond_true]
   ·left
    have d3:decide ((s.length:Int) > 60000)=true:=by simp<;>omega
    refine ⟨⟨([],[],[],()),8,?_,?_,e0⟩,⟨[],8,?_,?_,g0⟩⟩
    ·unfold qaj;simp only [d3,cond_true]
    ·unfold qaN;simp only [d3,cond_true]
    ·unfold q8;simp only [d3,cond_true]
    ·unfold qa2;simp only [d3,cond_true]
 have hp:∃p,(bif decide ((s.length:Int) > 300)then
      bif decide ((s.length:Int)<=60000)then
       some true
      else
       some (decide ((s.length:Int) > 60010))
     else
      some (decide ((s.length:Int) > 60010)))=some p:=by
  cases decide ((s.length:Int) > 300)<;>cases decide ((s.length:Int)<=60000)<;>exact ⟨_,rfl⟩
 rcases main with ⟨⟨x,y,h1,h2,h3⟩,⟨u,v,k1,k2,k3⟩⟩|h
 case inr=>rw [h];rfl
 obtain ⟨p,hp⟩:=hp;rw [hp];simp only [qa];cases p with
 |true=>rfl
 |false =>
 simp only [cond_false];rw [qDI hM.lb];simp only [qa];rw [qmU hM hm];simp only [qa];rw [qsO hG.gb];simp only [qa];rw [qi9 hG hg];simp only [qa];rw [h1,k1,h2,k2];simp only [qa];rw [qmV hM hm];simp only [qa,decide_true,Bool.not_true,cond_false];rw [qpM hG hg];simp only [qa,decide_true,Bool.not_true,cond_false];rw [qsR h3];simp only [qa,decide_true,Bool.not_true,cond_false];rw [qja k3];simp only [qa,Bool.not_true,cond_false];rw [qkd hM.lb];simp only [qa];have gpart:((qbU gs).bind λx25 =>
    bif !(decide (x25=0))then
     some true
    else
     (q8 (qhC gs)).bind λx26 =>
     (bif decide (x26.2=0)then
       (qbr x26.1 gs).bind λx27 =>
       some x27
      else
       some false).bind λ(p28:Bool) =>
     some p28)=some true:=by
  rw [qnY hG.gb];simp only [qa];by_cases c:(qeF gs).2=0
  ·simp only [c,decide_true,Bool.not_true,cond_false];rw [(quQ hG c).2];simp only [qa,decide_true,cond_true];rw [qja hG.gb];rfl
  ·simp only [c,decide_false,Bool.not_false,cond_true]
 by_cases c:(qne m).2=0
 ·simp only [c,decide_true,cond_true];rw [qvl (by have:=hM.hm;omega) hM.lb.ht];simp only [qa];by_cases hf:∀t∈m.2.2.1,t.1.length+t.2.1.length≠0
  ·rw [decide_eq_true hf];have hr:=quh (qCh c) hf;have hl:=qzH hM hm;rw [qhr (by omega) (λm' h'=>by rw [hr]at h';cases h';exact hM.lb)];unfold qyy;rw [hr];simp only [c,if_true,qa,decide_true,Bool.not_true,cond_false,cond_true];rw [qsR hM.lb];simp only [qa,Bool.not_true,cond_false,Sum.elim_inl];exact gpart
  ·rw [decide_eq_false hf];simp only [cond_false,qa,Sum.elim_inl];exact gpart
 ·simp only [c,decide_false,cond_false,qa,Sum.elim_inl];exact gpart
end Go.Proofs.YtkmcmngpifalcaaGreatDoor
end
section
namespace Go.Proofs.YtkmcmngpifalcaaGreatDoor.safetyStrings
open Go Go.Ab Go.Tx Go.ChangeShapes Go.WideShapes Go.ChangeAt Go.RowKit
theorem true_(x:denP ([(.pair (.sl .str) (.pair (.sl (.pair .str (.pair (.sl I) (.pair (.sl I) (.pair (.sl I) (.pair (.sl I) .unit)))))) (.pair (.sl (.pair (.sl I) (.pair (.sl I) .unit))) .unit))),(.sl (.pair .str (.pair (.sl .str) (.pair I .unit)))),.str].map Pm.ty))(hx:qEL maxLen [(.pair (.sl .str) (.pair (.sl (.pair .str (.pair (.sl I) (.pair (.sl I) (.pair (.sl I) (.pair (.sl I) .unit)))))) (.pair (.sl (.pair (.sl I) (.pair (.sl I) .unit))) .unit))),(.sl (.pair .str (.pair (.sl .str) (.pair I .unit)))),.str] x):qa8.F x=some true:=qD7 rfl x.1 x.2.1 x.2.2 ⟨λa ha=>⟨⟨λz hz=>(hx.1.2.1.2 a ha).2.1.2 z hz,λz hz=>(hx.1.2.1.2 a ha).2.2.1.2 z hz⟩,⟨λz hz=>(hx.1.2.1.2 a ha).2.2.2.1.2 z hz,λz hz=>(hx.1.2.1.2 a ha).2.2.2.2.1.2 z hz⟩⟩,λt ht=>⟨λz hz=>(hx.1.2.2.1.2 t ht).1.2 z hz,λz hz=>(hx.1.2.2.1.2 t ht).2.1.2 z hz⟩⟩ (λg hg=>(hx.2.1.2 g hg).2.2.1)
set_option maxRecDepth 100000 in
theorem contract(H:Type)(enc:TypeId×Value->H)(W:World)(base:Nat)(args:Array Value)(ds gs:List (DataW H))(before:List MemPlace)
  (hval:∀(j:Nat) t v,Tryz.f3.params[j]?=some t->args[j]?=some v->Value.okWide Tryz.prog W .any base t v)
  (hW:DataW.Whole enc Tryz.prog Tryz.f3.params.toList Rows.safetyStringsSpec.vars false W args.toList ds gs before) (hgl:qhi W (cx0 W)) :
  Calls Tryz.prog 3 args W λe W'=>∃v,e=.returned v/\Rows.safetyStringsSpec.post enc Tryz.prog Tryz.f3 false true false false W args v W' :=
 qtO (τs:=[(.pair (.sl .str) (.pair (.sl (.pair .str (.pair (.sl I) (.pair (.sl I) (.pair (.sl I) (.pair (.sl I) .unit)))))) (.pair (.sl (.pair (.sl I) (.pair (.sl I) .unit))) .unit))),(.sl (.pair .str (.pair (.sl .str) (.pair I .unit)))),.str]) (ts:=[26,27,9]) (tb:=4) (F:=qa8.F) follows qcw qxW qCa Tryz.func3 (by kernel_rfl) (by kernel_rfl) (by kernel_rfl) (by kernel_rfl) (by kernel_rfl) (by kernel_rfl) Tryz.underlying4 qhR true_ rfl
  (λH ds h=>by
   match ds,h with
   |[d1,d2,d3],_=>rfl) H enc W base args ds gs before hval hW hgl
set_option maxRecDepth 100000 in
theorem lifted(os:Os)(started:os.Started)(H:Type)(enc:TypeId×Value->H) :
  ReturnsInHanded {} Tryz.checked os 3 .any (λw args=>(Rows.safetyStringsSpec.pre enc Tryz.prog Tryz.f3 Rows.safetyStringsRow.domain false w args/\laidMetH Tryz.prog qnd w)/\sizedMet enc Tryz.prog Tryz.f3 (OpenSpec.ofChange Rows.safetyStringsSpec) false w args)
   (Rows.safetyStringsSpec.post enc Tryz.prog Tryz.f3 false true false false):=by
 refine qem (C:=Tryz.checked) (X:=λw _=>laidMetH Tryz.prog qnd w) (λ_ _ _ hh h=>h.of_heap hh) own started (by kernel_rfl) Tryz.func3
  (ChangeSpec.witness_shaped (enc:=enc) (C:=Tryz.checked) (os:=os) (X:=λw _=>laidMetH Tryz.prog qnd w) false (World.laidAll Tryz.prog os qnd) #[.agg #[.slice none 0 0,.slice none 0 0,.slice none 0 0],.slice none 0 0,.string ⟨#[]⟩] 8 (World.laidAll_os _ _ _)
   (World.shaped_of_ZipB (by kernel_rfl) (by kernel_rfl)) (by kernel_rfl) (by kernel_rfl) (by kernel_rfl)
   (by rw [MakeChecks.laidMetH_plain _ _ _ (by kernel_rfl)];exact laidMet_laidAll _ (by kernel_rfl) (by kernel_rfl))) ?_
 intro W base args ds gs before hval hW hS hL;exact contract H enc W base args ds gs before hval hW (qDW hS hL)
theorem said:Rows.SafetyStringsSaid :=
 OpenClaim.holds_of_wide 3 Tryz.f3 rfl rfl rfl rfl rfl rfl rfl ⟨rfl,rfl,rfl,rfl,rfl⟩ rfl rfl rfl rfl rfl (by kernel_rfl) Tryz.func3 (by kernel_rfl)
  (of_decide_eq_true (by kernel_rfl)) (by unfold Func.isWrapper;first|(rw [if_pos (by decide +kernel)];kernel_rfl)|(rw [if_neg (by decide +kernel)];exact ⟨rfl,rfl⟩))
  (λos started H enc _=>lifted os started H enc)
theorem proved:Rows.SafetyStringsCardSaid :=
 Claim7.holds_tied_plain_at .later [] [.data, .data, .data, .data, .sentinel, .sentinel, .pinned] true (true, "f56388c7ccbb234a3f32f651a870a45356981ba53bcb0ba7cc152d86f1c63cb3") true
  said (λ_ h=>by cases h) (by kernel_rfl) (λ_ h=>by cases h) safetyStrings_row_tie rfl ⟨rfl,rfl⟩ (by kernel_rfl) rfl
  (λf fn hf hfn=>by
   obtain rfl : f = 3 := Option.some.inj ((show Tryz.prog.funcNamed "ductility/ductilitylaw09.SafetyStrings" = some 3 by kernel_rfl).symm.trans hf) |>.symm
   obtain rfl:fn=Tryz.f3:=(Option.some.inj (Tryz.func3.symm.trans hfn)).symm;exact ⟨by kernel_rfl,λj t ht=>by
    have hp:Tryz.f3.params=#[26,27,9]:=by kernel_rfl
    rw [hp]at ht;rcases j with _|_|_|j
    ·simp at ht;subst ht;exact (show Tryz.prog.wantsStandIn 26=false by kernel_rfl)
    ·simp at ht;subst ht;exact (show Tryz.prog.wantsStandIn 27=false by kernel_rfl)
    ·simp at ht;subst ht;exact (show Tryz.prog.wantsStandIn 9=false by kernel_rfl)
    ·simp at ht⟩)
  (by kernel_rfl)
end Go.Proofs.YtkmcmngpifalcaaGreatDoor.safetyStrings
end
