/-
  ONE LAW OF A CHAPTER: its program side is run by an interpreter that is proved sound; what it computes is shown to be what the law says. No conditions. Part 8 of 8.
-/
import Derived.Test.YteiciemjanhdcaaGreatDoorMseg
import Derived.Lib.AtoiAll
import Derived.Lib.ItoaNum
import Derived.Lib.Strings
import Derived.Lib.Join
import Derived.Lib.IndexMore
import Derived.Test.YteiciemjanhdcaaGreatDoorTie
import Derived.Test.YteiciemjanhdcaaGreatDoorCards
import Derived.Lay
import Derived.SevenTiedAt
set_option linter.unusedSimpArgs false
set_option linter.unusedVariables false
set_option linter.unnecessarySimpa false
section
namespace Go.Proofs.YteiciemjanhdcaaGreatDoor.Mat
open Go Go.Ab Go.Tx Go.Proofs.YteiciemjanhdcaaGreatDoor
abbrev Rg:=Mx×Mx×Int×Int×Int×Unit
theorem qGq(a b c:Int):qx [a,b,c]=some (if a=0 then if b=0 then c else b else a):=by
 rw [qmB _ (by simp)];by_cases h:a=0<;>by_cases h2:b=0<;>by_cases h3:c=0<;>simp [qxk,h,h2,h3]
theorem qGr(a b c d:Int):qx [a,b,c,d]=some (if a=0 then if b=0 then if c=0 then d else c else b else a):=by
 rw [qmB _ (by simp)];by_cases h:a=0<;>by_cases h2:b=0<;>by_cases h3:c=0<;>by_cases h4:d=0<;>simp [qxk,h,h2,h3,h4]
theorem qxF(l:List Int)(hl:l.length<=1000000000)(hb:qxU l<=9223372036854775807):qas l=some (qxU l:Int):=by
 unfold qas;refine Ok.eq ?_;rw [qfG];refine (qaZ l.length (λi (s:Int×Int)=>s.2=(i:Int)/\s.1.natAbs=qxU (l.take i)) (λr:Int=>r.natAbs=qxU l) ⟨rfl,rfl⟩ ?_).mono ?_
 ·rintro i ⟨g,s⟩ hi ⟨h1,h2⟩;simp only at h1 h2;subst h1;by_cases hlt:i<l.length
  ·have e0:decide ((i:Int)<(l.length:Int))=true:=decide_eq_true (by omega);simp only [e0,cond_true];rw [qfp 0 (by omega) (by omega)];simp only [qa,Int.toNat_natCast];obtain ⟨r,h3,h4⟩:=qqx (f:=λ(s5:(Int×Int))=>bif !(decide (s5.2=0))then bif decide (s5.2=0)then none else some (.inl (s5.2,s5.1.tmod s5.2))else some (.inr s5.1)) (λs=>by
    by_cases h:s.2=0<;>simp [h]) (l.getD i 0).natAbs g (l.getD i 0) (Nat.le_refl _)
   rw [h3];simp only [qa];rw [wid (by omega) (by omega),qaw];refine ⟨hlt,by simp,?_⟩;rw [h4,qfg 0 hlt];unfold qxU at h2 ⊢;rw [qh2,<- h2];rfl
  ·have:i=l.length:=by omega
   subst this;have e0:decide ((l.length:Int)<(l.length:Int))=false:=by simp
   simp only [e0,cond_false];rw [qag];simpa using h2
 ·intro r hr;rw [wid (by omega) (by omega),qbT];omega
theorem qs0{a b:Int}(h0:0<b):(Int.gcd a b:Int)<=b/\1<=Int.gcd a b:=by
 have h1:Nat.gcd a.natAbs b.natAbs ∣ b.natAbs:=Nat.gcd_dvd_right _ _;have h2:=Nat.le_of_dvd (by omega) h1;have h3:0<Nat.gcd a.natAbs b.natAbs:=Nat.pos_of_dvd_of_pos h1 (by omega);have e:Int.gcd a b=Nat.gcd a.natAbs b.natAbs:=rfl;rw [e];omega
theorem qqu{a b:Int}(h0:0<b)(h1:b<=9223372036854775807):qas [a,b]=some (Int.gcd a b:Int):=by
 have h:=(qs0 (a:=a) h0).1;rw [qxF _ (by simp) (by rw [qzf];omega),qzf]
def low(num den:Int):Prop:=0<den/\Int.gcd num den=1
instance (num den:Int):Decidable (low num den):=inferInstanceAs (Decidable (_/\_))
def qqc(r:Rg):Int :=
 if qg8 r.1≠0 then qg8 r.1 else if qg8 r.2.1≠0 then qg8 r.2.1 else if r.1.length≠r.2.1.length then 13 else if qh7 r.2.1≠0 then qh7 r.2.1
 else if ¬ low r.2.2.1 r.2.2.2.1 then 3 else if ¬ (0<=r.2.2.1/\r.2.2.1<=r.2.2.2.1)then 2 else if ¬ r.2.2.2.1<=100 then 2 else if ¬ (0<=r.2.2.2.2.1/\r.2.2.2.2.1<=1000)then 2 else 0
theorem qtk{r:Rg}(hp:r.1.length<=1000000000)(hpr:∀x∈r.1,x.length<=1000000000)(hm:r.2.1.length<=1000000000)(hmr:∀x∈r.2.1,x.length<=1000000000)(hd:r.2.2.2.1<=9223372036854775807) :
  ∃y,qcL r=some (y,qqc r)/\(qqc r=0->y=(r.1,r.2.1,r.2.2.1,r.2.2.2.1,r.2.2.2.2.1,qhU r.2.1,mx r.2.1.length r.2.1.length (qjm r.2.1),())):=by
 obtain ⟨p,m,num,den,lag,_⟩:=r;simp only at hp hpr hm hmr hd;unfold qcL;simp only
 rw [qeD hp hpr,qa,qeD hm hmr,qa,qeg,qa,qGq,qa];unfold qqc;simp only
 by_cases e1:qg8 p=0
 case neg =>
  rw [if_neg e1,decide_eq_false e1,Bool.not_false,cond_true,if_pos e1];exact ⟨_,rfl,λh=>absurd h e1⟩
 rw [if_pos e1,if_neg (show ¬ (qg8 p≠0)from λhh=>hh e1)];by_cases e2:qg8 m=0
 case neg =>
  rw [if_neg e2,decide_eq_false e2,Bool.not_false,cond_true,if_pos e2];exact ⟨_,rfl,λh=>absurd h e2⟩
 rw [if_pos e2,if_neg (show ¬ (qg8 m≠0)from λhh=>hh e2)];by_cases e3:p.length=m.length
 case neg =>
  rw [decide_eq_false (show ¬ (p.length:Int)=(m.length:Int) by omega),if_neg (by simp),decide_eq_false (show ¬ (13:Int)=0 by omega),Bool.not_false,cond_true,if_pos e3];exact ⟨_,rfl,λh=>by cases h⟩
 rw [decide_eq_true (show (p.length:Int)=(m.length:Int) by omega),if_pos rfl,decide_eq_true (show (0:Int)=0 from rfl),Bool.not_true,cond_false,if_neg (show ¬ (p.length≠m.length)from λhh=>hh e3),qoX hm hmr,qa];have hmid:∀b1 b2 b3:Bool,∀x:Int,qx [x,if b1=true then (0:Int)else 3,if b2=true then (0:Int)else 2,if b3=true then (0:Int)else 2]=some (if x=0 then if b1=true then if b2=true then if b3=true then 0 else 2 else 2 else 3 else x):=λb1 b2 b3 x=>by
  rw [qGr];cases b1<;>cases b2<;>cases b3<;>simp
 have hinner:(bif decide (den > 0)then
    (qas ([num,den])).bind λx6 =>
    (qp (decide (x6=1)) (3:Int)).bind λx7 =>
    (qZ num (0:Int) den).bind λx8 =>
    bif x8 then
     (qp (decide (den<=100)) (2:Int)).bind λx9 =>
     (qZ lag (0:Int) (1000:Int)).bind λx10 =>
     (qp x10 (2:Int)).bind λx11 =>
     (qx ([qh7 m,x7,x9,x11])).bind λx12 =>
     some x12
    else
     (qp false (2:Int)).bind λx13 =>
     (qZ lag (0:Int) (1000:Int)).bind λx14 =>
     (qp x14 (2:Int)).bind λx15 =>
     (qx ([qh7 m,x7,x13,x15])).bind λx16 =>
     some x16
   else
    (qp false (3:Int)).bind λx17 =>
    (qZ num (0:Int) den).bind λx18 =>
    bif x18 then
     (qp (decide (den<=100)) (2:Int)).bind λx19 =>
     (qZ lag (0:Int) (1000:Int)).bind λx20 =>
     (qp x20 (2:Int)).bind λx21 =>
     (qx ([qh7 m,x17,x19,x21])).bind λx22 =>
     some x22
    else
     (qp false (2:Int)).bind λx23 =>
     (qZ lag (0:Int) (1000:Int)).bind λx24 =>
     (qp x24 (2:Int)).bind λx25 =>
     (qx ([qh7 m,x17,x23,x25])).bind λx26 =>
     some x26)=some (if qh7 m≠0 then qh7 m
 else if ¬ low num den then 3 else if ¬ (0<=num/\num<=den)then 2 else if ¬ den<=100 then 2 else if ¬ (0<=lag/\lag<=1000)then 2 else 0):=by
  simp only [qko,qeg,qa,hmid];by_cases h0:0<den
  ·rw [decide_eq_true (show den > 0 from h0),cond_true,qqu h0 hd];simp only [qa,hmid];have hl:low num den↔((Int.gcd num den:Nat):Int)=1:=by unfold low;constructor<;>intro h<;>omega
   by_cases e4:qh7 m=0<;>by_cases e5:((Int.gcd num den:Nat):Int)=1<;>by_cases e6:0<=num/\num<=den<;>by_cases e7:den<=100<;>by_cases e8:0<=lag/\lag<=1000<;>(try clear h0 hd hp hpr hm hmr)<;>simp [hl,e4,e5,e6,e7,e8]
  ·have hl:¬ low num den:=λh=>h0 h.1;rw [decide_eq_false (show ¬ den > 0 from h0),cond_false];by_cases e4:qh7 m=0<;>by_cases e6:0<=num/\num<=den<;>by_cases e7:den<=100<;>by_cases e8:0<=lag/\lag<=1000<;>(try clear h0 hd hp hpr hm hmr)<;>simp [hl,e4,e6,e7,e8]
 rw [hinner,qa];refine ⟨_,rfl,λh=>?_⟩;have e4:qh7 m=0:=by
  false_or_by_contra
  rename_i h9;rw [if_pos h9]at h;exact h9 h
 rw [if_pos e4,qCx]
theorem qw0{r:Rg}(h:qqc r=0):qg8 r.1=0/\qh7 r.2.1=0/\r.1.length=r.2.1.length/\0<r.2.2.2.1/\0<=r.2.2.1/\r.2.2.1<=r.2.2.2.1/\r.2.2.2.1<=100:=by
 unfold qqc at h;by_cases e1:qg8 r.1=0
 case neg=>rw [if_pos e1]at h;exact absurd h e1
 rw [if_neg (show ¬ (qg8 r.1≠0)from λhh=>hh e1)]at h;by_cases e2:qg8 r.2.1=0
 case neg=>rw [if_pos e2]at h;exact absurd h e2
 rw [if_neg (show ¬ (qg8 r.2.1≠0)from λhh=>hh e2)]at h;by_cases e3:r.1.length=r.2.1.length
 case neg=>rw [if_pos e3]at h;cases h
 rw [if_neg (show ¬ (r.1.length≠r.2.1.length)from λhh=>hh e3)]at h;by_cases e4:qh7 r.2.1=0
 case neg=>rw [if_pos e4]at h;exact absurd h e4
 rw [if_neg (show ¬ (qh7 r.2.1≠0)from λhh=>hh e4)]at h;by_cases e5:low r.2.2.1 r.2.2.2.1
 case neg=>rw [if_pos e5]at h;cases h
 rw [if_neg (show ¬ ¬ _ from λhh=>hh e5)]at h;by_cases e6:0<=r.2.2.1/\r.2.2.1<=r.2.2.2.1
 case neg=>rw [if_pos e6]at h;cases h
 rw [if_neg (show ¬ ¬ (0<=r.2.2.1/\r.2.2.1<=r.2.2.2.1)from λhh=>hh e6)]at h;by_cases e7:r.2.2.2.1<=100
 case neg=>rw [if_pos e7]at h;cases h
 exact ⟨e1,e4,e3,e5.1,e6.1,e6.2,e7⟩
def qH9(r:Rg)(i k:Nat):G:=qdZ (qdw (r.2.2.2.1*qhU r.2.1) i k) (qK (qbi r.2.1.length (ent r.1) (qjm r.2.1) i k) (r.2.2.1,0,()))
def qAr(r:Rg):Int:=qId r.2.1.length r.2.1.length (qH9 r)
def qpo(r:Rg):Int:=r.2.2.2.1*qhU r.2.1
def qvJ(r:Rg):Int:=Int.gcd (qAr r) (qpo r)
def con(r:Rg):G:=((qAr r).tdiv (qvJ r),(qpo r).tdiv (qvJ r),())
theorem qII{n c:Nat}(hn:n<=1000)(hc:c<=1000)(a b:Mx)(f:Nat->Nat->G)(h:∀i k:Nat,i<n->k<c->qbs i k a b=some (f i k)):qah (n:Int) (c:Int) a b=some (mx n c f):=by
 unfold qah;exact qg7 n c hn hc (λi k=>qbs i k a b) f h
theorem quB{A B:Int}{a b:G}(h:Bd A a)(h':Bd B b)(hb:A+B<=9000000000000000000):qY a b=some (qdZ a b):=congrArg some (qDU h h' hb)
theorem qGP{A B:Int}{a b:G}(h:Bd A a)(h':Bd B b)(hb:A+B<=9000000000000000000):qhV a b=some (qdZ a b):=congrArg some (qDU h h' hb)
structure ConB (r:Rg):Prop where
 pB:BdF 73728000000 r.2.1.length r.2.1.length (qbi r.2.1.length (ent r.1) (qjm r.2.1))
 sB:BdF 14745600000000 r.2.1.length r.2.1.length (λi k=>qK (qbi r.2.1.length (ent r.1) (qjm r.2.1) i k) (r.2.2.1,0,()))
 qB:1<=qpo r/\qpo r<=7372800000000
 cB:BdF 22118400000000 r.2.1.length r.2.1.length (qH9 r)
 rB:0<=qAr r/\qAr r<=132710400000000
 n1:1<=r.2.1.length
 n3:r.2.1.length<=3
theorem qJZ{r:Rg}(h:qqc r=0):ConB r:=by
 obtain ⟨hE,hI,hl,h0,h1,h2,h3⟩:=qw0 h;obtain ⟨m1,m3,mR,mB⟩:=qpa hE;have hX:=qud hI;have hD:=qxY hI;have hD1:=qmG hI;have hA:=qnR mB mR;rw [hl]at hA;have hq2:qpo r<=100*73728000000:=Int.mul_le_mul h3 hD.2 hD.1 (by omega);have hq1:1*1<=qpo r:=Int.mul_le_mul (by omega) hD1 (by omega) (by omega);have hp:BdF 73728000000 r.2.1.length r.2.1.length (qbi r.2.1.length (ent r.1) (qjm r.2.1)):=λi k hi hk=>by
  have:=Bd.sum (n:=r.2.1.length) (f:=λj=>qK (ent r.1 i j) (qjm r.2.1 j k)) (B:=2*(20*614400000)) λj hj=>(hA i j hi hj).mul (hX j k hj hk);refine this.mono ?_;have h4:(r.2.1.length:Int)*(2*(20*614400000))<=3*(2*(20*614400000)):=Int.mul_le_mul_of_nonneg_right (by omega) (by omega);omega
 have hs:BdF 14745600000000 r.2.1.length r.2.1.length (λi k=>qK (qbi r.2.1.length (ent r.1) (qjm r.2.1) i k) (r.2.2.1,0,())):=λi k hi hk=>by
  have h5:Bd 100 ((r.2.2.1,0,()):G):=by unfold Bd;simp only<;>omega
  exact ((hp i k hi hk).mul h5).mono (by omega)
 have hc:BdF 22118400000000 r.2.1.length r.2.1.length (qH9 r):=λi k hi hk=>by
  have hdg:=qxD (s:=qpo r) (B:=7372800000000) (by omega) (by omega) r.2.1.length r.2.1.length i k hi hk;exact (hdg.sub (hs i k hi hk)).mono (by omega)
 refine ⟨hp,hs,by omega,hc,?_,by omega,by omega⟩;unfold qAr qId;refine qCU (by omega) λi hi=>?_;have:=(qyF (n:=r.2.1.length) (f:=λk=>qqJ (qH9 r i k)) λk hk=>qub (hc i k hi hk)).2;have h4:(r.2.1.length:Int)*(2*22118400000000)<=3*(2*22118400000000):=Int.mul_le_mul_of_nonneg_right (by omega) (by omega);omega
theorem qIr{r:Rg}(h:ConB r):1<=qvJ r/\(-132710400000000<=(con r).1/\(con r).1<=132710400000000)/\1<=(con r).2.1/\(con r).2.1<=7372800000000:=by
 have hg:=qs0 (a:=qAr r) (b:=qpo r) (by have:=h.qB;omega);have hq:=h.qB;have hr:=h.rB;have hG:1<=qvJ r:=by unfold qvJ;omega
 have t1:=qkl (x:=qAr r) (g:=qvJ r) (B:=132710400000000) (by omega);have t2:=qkl (x:=qpo r) (g:=qvJ r) (B:=7372800000000) (by omega);refine ⟨hG,t1,?_,t2.2⟩;have hd:qvJ r ∣ qpo r:=by
  have h1:Nat.gcd (qAr r).natAbs (qpo r).natAbs ∣ (qpo r).natAbs:=Nat.gcd_dvd_right _ _;exact Int.ofNat_dvd_left.2 h1
 have hm:=Int.tdiv_mul_cancel hd;have hnn:0<=(qpo r).tdiv (qvJ r):=Int.tdiv_nonneg (by omega) (by omega);show 1<=(qpo r).tdiv (qvJ r);false_or_by_contra
 have h0:(qpo r).tdiv (qvJ r)=0:=by omega
 rw [h0,Int.zero_mul]at hm;omega
def qr8(c:G):Prop:=(-1000000000<=c.1/\c.1<=1000000000)/\c.2.1<=1000000000
instance (c:G):Decidable (qr8 c):=inferInstanceAs (Decidable (_/\_))
theorem qFW{r:Rg}(h:ConB r):qiF (qAr r) (qpo r)=some (if qr8 (con r)then (con r,0)else ((0,0,()),8)):=by
 obtain ⟨hG,h1,h2,h3⟩:=qIr h;have hq:=h.qB;unfold qiF;rw [qqu (by omega) (by omega),qa];have e:((Int.gcd (qAr r) (qpo r):Nat):Int)=qvJ r:=rfl;have e1:(qAr r).tdiv (qvJ r)=(con r).1:=rfl;have e2:(qpo r).tdiv (qvJ r)=(con r).2.1:=rfl;rw [e,decide_eq_false (show ¬ qvJ r=0 by omega),cond_false,cond_false,e1,e2,wid (by omega) (by omega),wid (by omega) (by omega),qn6 _ _ (by omega) (by omega),qa];by_cases c1 : -1000000000<=(con r).1/\(con r).1<=1000000000
 ·by_cases c2:(con r).2.1<=1000000000
  ·rw [decide_eq_true c1,decide_eq_false (show ¬ (con r).2.1 > 1000000000 by omega),if_pos (show qr8 (con r)from ⟨c1,c2⟩)];rfl
  ·rw [decide_eq_true c1,decide_eq_true (show (con r).2.1 > 1000000000 by omega),if_neg (show ¬ qr8 (con r)from λhh=>c2 hh.2)];rfl
 ·rw [decide_eq_false c1,if_neg (show ¬ qr8 (con r)from λhh=>c1 hh.1)];rfl
theorem qpn{r:Rg}(hp:r.1.length<=1000000000)(hpr:∀x∈r.1,x.length<=1000000000)(hm:r.2.1.length<=1000000000)(hmr:∀x∈r.2.1,x.length<=1000000000)(hd:r.2.2.2.1<=9223372036854775807) :
  qbO r=some (if qqc r≠0 then ((0,0,()),qqc r)else if qr8 (con r)then (con r,0)else ((0,0,()),8)):=by
 unfold qbO;obtain ⟨y,e1,e2⟩:=qtk hp hpr hm hmr hd;have e1':qcL (r.1,r.2.1,r.2.2.1,r.2.2.2.1,r.2.2.2.2.1,())=some (y,qqc r):=e1;rw [e1',qa];by_cases h:qqc r=0
 case neg=>rw [decide_eq_false h,Bool.not_false,cond_true,if_pos h]
 rw [decide_eq_true h,Bool.not_true,cond_false,if_neg (show ¬ (qqc r≠0)from λhh=>hh h)];have hB:=qJZ h;obtain ⟨hE,hI,hl,h0,h1,h2,h3⟩:=qw0 h;obtain ⟨m1,m3,mR,mB⟩:=qpa hE;have hA:=qnR mB mR;have hpm:=qoB mR;rw [e2 h];simp only
 have hq:=hB.qB;have hX:=qud hI;have n1:=hB.n1;have n3:=hB.n3;rw [wid (n:=r.2.2.2.1*qhU r.2.1) (by unfold qpo at hq;omega) (by unfold qpo at hq;omega)];rw [hl]at hA hpm ⊢;rw [qEg (by omega),qa,qly (by omega) (by omega) (by unfold qpo at hq;omega),qa];have htimes:=qvd (A:=20) (B:=614400000) (by omega) (by omega) hA hX (by omega) (by omega) (by omega) (by omega) (by omega);rw [<- hpm]at htimes;rw [htimes,qa,qw4 (A:=73728000000) (B:=100) (by omega) (by omega) (by omega) hB.pB (by omega) (by omega),qa,qd9];rw [qII (by omega) (by omega) _ _ (qH9 r) (λi k hi hk=>by
  unfold qbs;have e9:qY (qdw (r.2.2.2.1*qhU r.2.1) i k) (qK (qbi r.2.1.length (ent r.1) (qjm r.2.1) i k) (r.2.2.1,0,()))=some (qH9 r i k):=quB (qxD (s:=qpo r) (B:=7372800000000) (by omega) (by omega) r.2.1.length r.2.1.length i k hi hk) (hB.sB i k hi hk) (by omega);rw [qxt _ hi hk,qa,qxt _ hi hk,qa,e9];rfl)]
 rw [qa,qDE (by omega) hB.cB (by omega) (by omega) (by omega) (by omega),qa];have:=qFW hB;unfold qAr qpo at this;rw [this];rfl
theorem qDG{n c:Nat}{f:Nat->Nat->G}(h:∀i k,i<n->k<c->f i k=g0):qId n c f=0:=by
 have h1:∀(c:Nat) (q:Nat->Int),(∀k,k<c->q k=0)->qDV c q=0:=λc q=>by
  induction c with
  |zero=>intro _;rfl
  |succ c ih=>intro h;simp only [qDV];rw [ih λk hk=>h k (by omega),h c (by omega)]<;>rfl
 have h2:∀(n:Nat) (q:Nat->Int),(∀k,k<n->q k=0)->qFd n q=0:=λn q=>by
  induction n with
  |zero=>intro _;rfl
  |succ n ih=>intro h;simp only [qFd];rw [ih λk hk=>h k (by omega),h n (by omega)]<;>rfl
 unfold qId;exact h2 _ _ λi hi=>h1 _ _ λk hk=>by rw [h i k hi hk];rfl
def qFP(m:Mx):Rg:=(m,m,1,1,0,())
theorem qFQ{m:Mx}(h:qh7 m=0):con (qFP m)=(0,1,()):=by
 have hD:=qmG h;have hR:qAr (qFP m)=0:=qDG λi k hi hk=>by
  show qdZ (qdw (1*qhU m) i k) (qK (qbi m.length (ent m) (qjm m) i k) (1,0,()))=g0;rw [qwa h hi hk,Int.one_mul];have:qK (qdw (qhU m) i k) (1,0,())=qdw (qhU m) i k:=qzh _;rw [this,qv1]
 have hQ:qpo (qFP m)=qhU m:=Int.one_mul _;have hG:qvJ (qFP m)=qhU m:=by
  unfold qvJ;rw [hR,hQ,Int.gcd_zero_left];omega
 unfold con;rw [hR,hQ,hG,Int.tdiv_self (by omega),Int.zero_tdiv]
theorem qAe{r:Rg}(hp:r.1.length<=1000000000)(hpr:∀x∈r.1,x.length<=1000000000)(hm:r.2.1.length<=1000000000)(hmr:∀x∈r.2.1,x.length<=1000000000):qcS r=some r:=by
 unfold qcS;rw [qdv hp hpr,qa,qdv hm hmr,qa]
end Go.Proofs.YteiciemjanhdcaaGreatDoor.Mat
namespace Go.Proofs.YteiciemjanhdcaaGreatDoor
open Go Go.Ab Go.Tx
end Go.Proofs.YteiciemjanhdcaaGreatDoor
end
section
namespace Go.Proofs.YteiciemjanhdcaaGreatDoor.Mat
open Go Go.Ab Go.Tx Go.Proofs.YteiciemjanhdcaaGreatDoor
theorem qJ7{l:List G}(hl:l.length<=1000000000) :
  ((qF (λ(s2:Int) =>
   bif decide (s2<(l.length:Int))then
    (idx l s2).bind λx3 =>
    (qaa x3).bind λx4 =>
    bif x4 then
     some (.inr (.inr s2))
    else
     some (.inl (w64 (s2+1)))
   else
    some (.inr (.inl ()))) 0).bind (Sum.elim (λ(p5:Unit) =>
  some (-1)) some)).bind (λx1:Int=>some (decide (x1>=0)))=some (l.any (qeI 9)) :=
 qxP l qaa (qeI 9) (λx _=>by
  unfold qaa;rw [qc0 _ _ (by omega) (by omega)];rfl) hl
theorem qJ6:((qF (λ(s15:Int) =>
   bif decide (s15<0)then
    none
   else
    some (.inr (.inl ()))) 0:Option (Unit⊕Int)).bind (Sum.elim (λ(p16:Unit) =>
  some (-1)) some)).bind (λp17:Int=>some (decide (p17>=0)))=some false:=by
 rw [qeZ (r:=.inl ()) (by rfl)];rfl
set_option maxHeartbeats 4000000 in
theorem qIz{d r:List G}(hd:d.length<=1000000)(hr:r.length<=1000000) :
  (bif decide (w64 (0+(d.length:Int))<0)then
    none
   else
    bif decide (w64 ((w64 (0+(d.length:Int)))+(r.length:Int))<0)then
     none
    else
     bif decide (w64 ((w64 (0+(d.length:Int)))+(r.length:Int))<0)then
      none
     else
      let v13:Bool:=decide (w64 ((w64 ((w64 (0+(d.length:Int)))+(r.length:Int)))-0) > 0)
      bif v13 then
       bif (decide (0<w64 ((w64 ((w64 (0+(d.length:Int)))+(r.length:Int)))-0))&&decide (w64 ((w64 ((w64 (0+(d.length:Int)))+(r.length:Int)))-0)<=4294967296))then
        bif List.isEmpty d then
         bif List.isEmpty r then
          ((qF (λ(s15:Int) =>
             bif decide (s15<0)then
              none
             else
              some (.inr (.inl ()))) 0).bind (Sum.elim (λ(p16:Unit) =>
           some (-1)) some)).bind λ(p17:Int) =>
          some (decide (p17>=0))
         else
          (app [] r).bind λx18 =>
          ((qF (λ(s20:Int) =>
             bif decide (s20<(x18.length:Int))then
              (idx x18 s20).bind λx21 =>
              (qaa x21).bind λx22 =>
              bif x22 then
               some (.inr (.inr s20))
              else
               some (.inl (w64 (s20+1)))
             else
              some (.inr (.inl ()))) 0).bind (Sum.elim (λ(p23:Unit) =>
           some (-1)) some)).bind λ(p24:Int) =>
          some (decide (p24>=0))
        else
         (app [] d).bind λx25 =>
         (app x25 r).bind λx26 =>
         ((qF (λ(s28:Int) =>
            bif decide (s28<(x26.length:Int))then
             (idx x26 s28).bind λx29 =>
             (qaa x29).bind λx30 =>
             bif x30 then
              some (.inr (.inr s28))
             else
              some (.inl (w64 (s28+1)))
            else
             some (.inr (.inl ()))) 0).bind (Sum.elim (λ(p31:Unit) =>
          some (-1)) some)).bind λ(p32:Int) =>
         some (decide (p32>=0))
       else
        none
      else
       bif List.isEmpty d then
        bif List.isEmpty r then
         ((qF (λ(s34:Int) =>
            bif decide (s34<0)then
             none
            else
             some (.inr (.inl ()))) 0).bind (Sum.elim (λ(p35:Unit) =>
          some (-1)) some)).bind λ(p36:Int) =>
         some (decide (p36>=0))
        else
         (app [] r).bind λx37 =>
         ((qF (λ(s39:Int) =>
            bif decide (s39<(x37.length:Int))then
             (idx x37 s39).bind λx40 =>
             (qaa x40).bind λx41 =>
             bif x41 then
              some (.inr (.inr s39))
             else
              some (.inl (w64 (s39+1)))
            else
             some (.inr (.inl ()))) 0).bind (Sum.elim (λ(p42:Unit) =>
          some (-1)) some)).bind λ(p43:Int) =>
         some (decide (p43>=0))
       else
        (app [] d).bind λx44 =>
        (app x44 r).bind λx45 =>
        ((qF (λ(s47:Int) =>
           bif decide (s47<(x45.length:Int))then
            (idx x45 s47).bind λx48 =>
            (qaa x48).bind λx49 =>
            bif x49 then
             some (.inr (.inr s47))
            else
             some (.inl (w64 (s47+1)))
           else
            some (.inr (.inl ()))) 0).bind (Sum.elim (λ(p50:Unit) =>
         some (-1)) some)).bind λ(p51:Int) =>
        some (decide (p51>=0)))=some (d.any (qeI 9)||r.any (qeI 9)):=by
 have w1:w64 (0+(d.length:Int))=(d.length:Int):=by rw [Int.zero_add,wid (by omega) (by omega)]
 have w2:w64 ((d.length:Int)+(r.length:Int))=(d.length:Int)+(r.length:Int):=wid (by omega) (by omega);have w3:w64 ((d.length:Int)+(r.length:Int)-0)=(d.length:Int)+(r.length:Int):=by rw [Int.sub_zero];exact w2
 simp only [w1,w2,w3];rw [decide_eq_false (show ¬ (d.length:Int)<0 by omega),cond_false,decide_eq_false (show ¬ (d.length:Int)+(r.length:Int)<0 by omega),cond_false,cond_false];have hA:∀l:List G,l.length<=1000000000->_:=λl hl=>qJ7 (l:=l) hl;cases d with
 |nil =>
  cases r with
  |nil =>
   simp only [List.length_nil,List.isEmpty_nil];rw [decide_eq_false (show ¬ (((0:Nat):Int)+((0:Nat):Int) > 0) by omega)];simp only [cond_false,cond_true];rw [qJ6];rfl
  |cons z r =>
   have hp:decide ((([]:List G).length:Int)+((z::r).length:Int) > 0)=true:=decide_eq_true (by simp only [List.length_nil,List.length_cons];omega);have hp1:decide (0<(([]:List G).length:Int)+((z::r).length:Int))=true:=decide_eq_true (by simp only [List.length_nil,List.length_cons];omega);have hp2:decide ((([]:List G).length:Int)+((z::r).length:Int)<=4294967296)=true:=decide_eq_true (by simp only [List.length_nil];omega);simp only [hp,hp1,hp2,Bool.and_true,cond_true,List.isEmpty_nil,List.isEmpty_cons,cond_false];rw [qxq (by omega),qa,hA _ (by omega)];rfl
 |cons y d =>
  have hp:decide (((y::d).length:Int)+(r.length:Int) > 0)=true:=decide_eq_true (by simp only [List.length_cons];omega);have hp1:decide (0<((y::d).length:Int)+(r.length:Int))=true:=decide_eq_true (by simp only [List.length_cons];omega);have hp2:decide (((y::d).length:Int)+(r.length:Int)<=4294967296)=true:=decide_eq_true (by omega);simp only [hp,hp1,hp2,Bool.and_true,cond_true,List.isEmpty_cons,cond_false];rw [qxq (by omega),qa,qy0 (by omega),qa,hA _ (by rw [List.length_append];omega),List.any_append]
structure MatB (a:Mx) (N n:Nat):Prop where
 len:a.length=N
 rows:∀j,j<N->(a.getD j []).length=n
 bd:∀j i,j<N->i<n->Bd 9 (ent a j i)
theorem RunB.d{ρ:Rn}{n:Nat}(h:RunB ρ n):MatB ρ.1 ρ.1.length n:=⟨rfl,h.dl,h.dB⟩
theorem RunB.r{ρ:Rn}{n:Nat}(h:RunB ρ n):MatB ρ.2.1 ρ.1.length n:=⟨h.len,h.rl,h.rB⟩
def qht(a b:Mx)(N:Nat)(i k:Nat):G:=qeJ N λj=>qK (ent a j i) (qau (ent b j k))
theorem MatB.at{a:Mx}{N n j i:Nat}(h:MatB a N n)(hj:j<N)(hi:i<n):∃row,idx a (j:Int)=some row/\idx row (i:Int)=some (ent a j i):=by
 have hl:=h.len;have hr:=h.rows j hj;exact ⟨a.getD j [],by rw [qfp [] (by omega) (by omega),Int.toNat_natCast],by rw [qfp g0 (by omega) (by omega),Int.toNat_natCast];rfl⟩
theorem qpQ{a b:Mx}{N n i k:Nat}(ha:MatB a N n)(hb:MatB b N n)(hN:N<=6)(hi:i<n)(hk:k<n):Bd 972 (qht a b N i k):=by
 have h:=Bd.sum (n:=N) (f:=λj=>qK (ent a j i) (qau (ent b j k))) (B:=2*(9*9)) λj hj=>(ha.bd j i hj hi).mul (hb.bd j k hj hk).qEk;exact h.mono (by omega)
theorem qz4{a:Mx}{ρ:Rn}{n i k:Nat}(ha:MatB a ρ.1.length n)(hb:MatB ρ.1 ρ.1.length n)(hN:ρ.1.length<=6)(hi:i<n)(hk:k<n):qb2 (i:Int) (k:Int) ρ a=some (qht a ρ.1 ρ.1.length i k):=by
 unfold qb2;have hf:∀j,j<ρ.1.length->Bd 162 (qK (ent a j i) (qau (ent ρ.1 j k))):=λj hj=>((ha.bd j i hj hi).mul (hb.bd j k hj hk).qEk).mono (by omega);rw [qkT ρ.1.length (by omega) (A:=162) (by omega) (by omega) (λj=>qK (ent a j i) (qau (ent ρ.1 j k))) hf (λj hj x y hxy=>?_) (λx y=>?_)]
 ·rfl
 ·have e0:decide ((j:Int)<(ρ.1.length:Int))=true:=decide_eq_true (by omega);obtain ⟨r1,h1,h2⟩:=ha.at hj hi;obtain ⟨r2,h3,h4⟩:=hb.at hj hk;simp only [e0,cond_true,h1,h2,h3,h4,qa];rw [qxy (hb.bd j k hj hk) (by omega),qa,qhh (ha.bd j i hj hi) (hb.bd j k hj hk).qEk (by omega),qa,qoy hxy (hf j hj) (le_next (by omega) hj (by omega))];rfl
 ·have e0:decide ((ρ.1.length:Int)<(ρ.1.length:Int))=false:=by simp
  simp only [e0,cond_false]
theorem qCP{n c:Nat}(hn:n<=1000)(hc:c<=1000)(ρ:Rn)(a:Mx)(f:Nat->Nat->G)(h:∀i k:Nat,i<n->k<c->qb2 i k ρ a=some (f i k)):qaD (n:Int) (c:Int) ρ a=some (mx n c f):=by
 unfold qaD;exact qg7 n c hn hc (λi k=>qb2 i k ρ a) f h
theorem qDY{ρ:Rn}{n:Nat}(h:RunB ρ n):qf3 ρ (n:Int)=some (mx n n (qht ρ.1 ρ.1 ρ.1.length),mx n n (qht ρ.2.1 ρ.1 ρ.1.length),()):=by
 have h3:=h.n3;have h6:=h.l6;unfold qf3 qfM;have e1:=qCP (n:=n) (c:=n) (by omega) (by omega) (ρ.1,ρ.2.1,()) ρ.1 (qht ρ.1 ρ.1 ρ.1.length) λi k hi hk=>qz4 (ρ:=(ρ.1,ρ.2.1,())) h.d h.d h6 hi hk;have e2:=qCP (n:=n) (c:=n) (by omega) (by omega) (ρ.1,ρ.2.1,()) ρ.2.1 (qht ρ.2.1 ρ.1 ρ.1.length) λi k hi hk=>qz4 (ρ:=(ρ.1,ρ.2.1,())) h.r h.d h6 hi hk;rw [e1,qa,qa,e2];rfl
theorem qAf{a b:Mx}{N n:Nat}(ha:MatB a N n)(hb:MatB b N n)(hN1:1<=N)(hN:N<=6)(hn:n<=3):qe7 a b=some (mx n n (qht a b N)):=by
 unfold qe7;have hla:=ha.len;have hlb:=hb.len;have ra:=ha.rows 0 (by omega);have rb:=hb.rows 0 (by omega);have z1:idx a 0=some (a.getD 0 []):=by rw [qfp [] (by omega) (by omega)];rfl
 have z2:idx b 0=some (b.getD 0 []):=by rw [qfp [] (by omega) (by omega)];rfl
 rw [qzd n (λi=>mkL n λk=>qht a b N i k) (λi hi=>?_) ?_]
 ·rfl
 ·have e0:decide ((n:Int)<(n:Int))=false:=by simp
  simp only [z1,qa,ra,e0,cond_false]
 ·have e0:decide ((i:Int)<(n:Int))=true:=decide_eq_true (by omega);simp only [z1,qa,ra,e0,cond_true];rw [qzd n (λk=>qht a b N i k) (λk hk=>?_) ?_]
  ·simp only [qa];rw [qcG (by rw [qX];omega)];simp only [qa];rw [wid (by omega) (by omega)]
  ·have e1:decide ((n:Int)<(n:Int))=false:=by simp
   simp only [z2,qa,rb,e1,cond_false]
  ·have e1:decide ((k:Int)<(n:Int))=true:=decide_eq_true (by omega);simp only [z2,qa,rb,e1,cond_true,hla];have hf:∀j,j<N->Bd 162 (qK (ent a j i) (qau (ent b j k))):=λj hj=>((ha.bd j i hj hi).mul (hb.bd j k hj hk).qEk).mono (by omega);rw [qkT N (by omega) (A:=162) (by omega) (by omega) (λj=>qK (ent a j i) (qau (ent b j k))) hf (λj hj x y hxy=>?_) (λx y=>?_)]
   ·simp only [qa];rw [qcG (by rw [qX];omega)];simp only [qa];rw [wid (by omega) (by omega)];rfl
   ·have e2:decide ((j:Int)<(N:Int))=true:=decide_eq_true (by omega);obtain ⟨r1,h1,h2⟩:=ha.at hj hi;obtain ⟨r2,h3,h4⟩:=hb.at hj hk;simp only [e2,cond_true,h1,h2,h3,h4,qa];rw [qEo (hb.bd j k hj hk) (by omega),qa,qBG (ha.bd j i hj hi) (hb.bd j k hj hk).qEk (by omega),qa,qBF hxy (hf j hj) (le_next (by omega) hj (by omega))];rfl
   ·have e2:decide ((N:Int)<(N:Int))=false:=by simp
    simp only [e2,cond_false]
def sF(ρ:Rn):Nat->Nat->G:=qht ρ.1 ρ.1 ρ.1.length
def tF(ρ:Rn):Nat->Nat->G:=qht ρ.2.1 ρ.1 ρ.1.length
def rnN(ρ:Rn):Nat:=(ρ.1.getD 0 []).length
def sD(ρ:Rn):G:=qeK (rnN ρ) (sF ρ)
theorem qG3:∀n,n<=3->dB 972 n<=9000000000000000000:=λn hn=>by
 match n,hn with
 |0,_=>decide
 |1,_=>decide
 |2,_=>decide
 |3,_=>decide
theorem qGu{f:Nat->G}:∀{N:Nat},(∀j,j<N->Bd 9 (f j))->grn N f<=N*162
 |0,_=>by simp [grn]
 |N+1,h=>by
  have h1:=qGu (N:=N) λj hj=>h j (by omega);have h2:=h N (by omega);have p1:=(qaM h2.1 h2.1).2;have p2:=(qaM h2.2 h2.2).2;simp only [grn,nrm];omega
theorem qHO{ρ:Rn}(h:qsl ρ=0):∃w:Int,sD ρ=(w,0,())/\0<=w/\w<=918330048:=by
 have hB:=qI3 h;have h6:=hB.l6;obtain ⟨w,e,h0,h1⟩:=qEL (N:=ρ.1.length) (n:=rnN ρ) hB.n3 (v:=ent ρ.1) (B:=972) (by omega) λi hi=>by
  have:=qGu (N:=ρ.1.length) (f:=λj=>ent ρ.1 j i) λj hj=>hB.dB j i hj hi;omega
 exact ⟨w,e,h0,by omega⟩
def qsQ(ρ:Rn):Int:=if qsl ρ≠0 then qsl ρ else if sD ρ=g0 then 11 else 0
theorem qs6(a:G):(bif decide (a.1=0)then (bif decide (a.2.1=0)then true else false)else false)=decide (a=g0):=qt7 a g0
theorem qHI(s:Int)(n0:Nat)(d r:List G) :
  (bif decide ((d.length:Int) > 0)then
   bif decide ((d.length:Int)=(n0:Int))then
    (qp (decide ((r.length:Int)=(n0:Int))) (10:Int)).bind λx53 =>
    (qp (decide ((d.length:Int)<=3)) (8:Int)).bind λx54 =>
    (qp (!(d.any (qeI 9)||r.any (qeI 9))) (2:Int)).bind λx55 =>
    (qx ([s,x53,x54,x55])).bind λx56 =>
    some x56
   else
    (qp false (10:Int)).bind λx57 =>
    (qp (decide ((d.length:Int)<=3)) (8:Int)).bind λx58 =>
    (qp (!(d.any (qeI 9)||r.any (qeI 9))) (2:Int)).bind λx59 =>
    (qx ([s,x57,x58,x59])).bind λx60 =>
    some x60
  else
   (qp false (10:Int)).bind λx61 =>
   (qp (decide ((d.length:Int)<=3)) (8:Int)).bind λx62 =>
   (qp (!(d.any (qeI 9)||r.any (qeI 9))) (2:Int)).bind λx63 =>
   (qx ([s,x61,x62,x63])).bind λx64 =>
   some x64)=some (if s=0 then qGG n0 d r else s):=by
 simp only [qeg,qa,qGr];unfold qGG;generalize (d.any (qeI 9)||r.any (qeI 9))=far;by_cases b1:d.length=0
 ·rw [decide_eq_false (show ¬ (d.length:Int) > 0 by omega),cond_false,if_neg (show ¬ (¬ d.length=0/\d.length=n0/\r.length=d.length)from λh=>h.1 b1)];simp
 rw [decide_eq_true (show (d.length:Int) > 0 by omega),cond_true];by_cases b2:d.length=n0
 case neg =>
  rw [decide_eq_false (show ¬ (d.length:Int)=(n0:Int) by omega),cond_false,if_neg (show ¬ (¬ d.length=0/\d.length=n0/\r.length=d.length)from λh=>b2 h.2.1)];simp
 rw [decide_eq_true (show (d.length:Int)=(n0:Int) by omega),cond_true];by_cases b3:r.length=d.length
 case neg =>
  rw [decide_eq_false (show ¬ (r.length:Int)=(n0:Int) by omega),if_neg (show ¬ (¬ d.length=0/\d.length=n0/\r.length=d.length)from λh=>b3 h.2.2)];simp
 rw [decide_eq_true (show (r.length:Int)=(n0:Int) by omega),if_pos (show ¬ d.length=0/\d.length=n0/\r.length=d.length from ⟨b1,b2,b3⟩),if_pos rfl,if_pos rfl];by_cases b4:3<d.length
 ·rw [decide_eq_false (show ¬ (d.length:Int)<=3 by omega),if_pos b4];simp
 ·rw [decide_eq_true (show (d.length:Int)<=3 by omega),if_neg b4];cases far<;>simp
theorem qyg{ρ:Rn}(h1:ρ.1.length<=1000000)(hr:∀d∈ρ.1,d.length<=1000000)(hr2:∀r∈ρ.2.1,r.length<=1000000) :
  ∃y:Rn×G,qfL ρ=some (y.1,y.2,qsQ ρ)/\(qsQ ρ=0->y=((mx (rnN ρ) (rnN ρ) (sF ρ),mx (rnN ρ) (rnN ρ) (tF ρ),()),sD ρ)):=by
 unfold qfL;have e1:(bif decide ((ρ.1.length:Int) > 0)then
   (qp (decide ((ρ.2.1.length:Int)=(ρ.1.length:Int))) (10:Int)).bind λx1 =>
   (qp (decide ((ρ.1.length:Int)<=6)) (8:Int)).bind λx2 =>
   (qx ([x1,x2])).bind λx3 =>
   some x3
  else
   (qp false (10:Int)).bind λx4 =>
   (qp (decide ((ρ.1.length:Int)<=6)) (8:Int)).bind λx5 =>
   (qx ([x4,x5])).bind λx6 =>
   some x6)=some (if ρ.1.length=0\/¬ ρ.2.1.length=ρ.1.length then 10 else if 6<ρ.1.length then 8 else 0):=by
  simp only [qeg,qa,qqC];by_cases c1:ρ.1.length=0
  ·rw [decide_eq_false (show ¬ (ρ.1.length:Int) > 0 by omega),cond_false,if_pos (.inl c1:ρ.1.length=0\/¬ ρ.2.1.length=ρ.1.length)];simp
  rw [decide_eq_true (show (ρ.1.length:Int) > 0 by omega),cond_true];by_cases c2:ρ.2.1.length=ρ.1.length
  case neg =>
   rw [decide_eq_false (show ¬ (ρ.2.1.length:Int)=(ρ.1.length:Int) by omega),if_pos (.inr c2:ρ.1.length=0\/¬ ρ.2.1.length=ρ.1.length)];simp
  rw [decide_eq_true (show (ρ.2.1.length:Int)=(ρ.1.length:Int) by omega),if_neg (show ¬ (ρ.1.length=0\/¬ ρ.2.1.length=ρ.1.length) by omega)];by_cases c3:6<ρ.1.length
  ·rw [decide_eq_false (show ¬ (ρ.1.length:Int)<=6 by omega),if_pos c3];simp
  ·rw [decide_eq_true (show (ρ.1.length:Int)<=6 by omega),if_neg c3];simp
 rw [e1,qa];by_cases c:ρ.1.length=0\/¬ ρ.2.1.length=ρ.1.length
 ·have hE:qsl ρ=10:=by unfold qsl;rw [if_pos c]
  have hE2:qsQ ρ=10:=by unfold qsQ;rw [hE];rfl
  rw [if_pos c,decide_eq_false (show ¬ (10:Int)=0 by omega),Bool.not_false,cond_true,hE2];exact ⟨(([],[],()),(0,0,())),rfl,λh=>by cases h⟩
 rw [if_neg c];by_cases c2:6<ρ.1.length
 ·have hE:qsl ρ=8:=by unfold qsl;rw [if_neg c,if_pos c2]
  have hE2:qsQ ρ=8:=by unfold qsQ;rw [hE];rfl
  rw [if_pos c2,decide_eq_false (show ¬ (8:Int)=0 by omega),Bool.not_false,cond_true,hE2];exact ⟨(([],[],()),(0,0,())),rfl,λh=>by cases h⟩
 rw [if_neg c2,decide_eq_true (show (0:Int)=0 from rfl),Bool.not_true,cond_false];have hE:qsl ρ=qpJ ρ ρ.1.length:=by unfold qsl;rw [if_neg c,if_neg c2]
 have f3:idx ρ.1 0=some (ρ.1.getD 0 []):=by rw [qfp [] (by omega) (by omega)];rfl
 rw [f3,qa];have hloop:∀K:Int×Int->Option ((Int×Int)⊕Int),(∀i:Nat,i<ρ.1.length->K (qpJ ρ i,(i:Int))=some (.inl (qpJ ρ (i+1),w64 ((i:Int)+1))))->K (qpJ ρ ρ.1.length,(ρ.1.length:Int))=some (.inr (qpJ ρ ρ.1.length))->qF K (0,0)=some (qpJ ρ ρ.1.length):=λK hK hKe=>by
  refine Ok.eq (qaZ ρ.1.length (λi (s:Int×Int)=>s=(qpJ ρ i,(i:Int))) (λq=>q=qpJ ρ ρ.1.length) rfl ?_);rintro i s hi rfl;by_cases hlt:i<ρ.1.length
  ·rw [hK i hlt,wid (by omega) (by omega),qaw];exact ⟨hlt,rfl⟩
  ·have:i=ρ.1.length:=by omega
   subst this;rw [hKe,qag]
 rw [hloop _ (λi hi=>?_) ?_]
 ·rw [qa,<- hE];by_cases cE:qsl ρ=0
  case neg =>
   have hE2:qsQ ρ=qsl ρ:=by unfold qsQ;rw [if_pos cE]
   rw [decide_eq_false cE,Bool.not_false,cond_true,hE2];exact ⟨(([],[],()),(0,0,())),rfl,λh=>absurd h cE⟩
  rw [decide_eq_true cE,Bool.not_true,cond_false];have hB:=qI3 cE;have es:qf3 (ρ.1,ρ.2.1,()) ((ρ.1.getD 0 []).length:Int)=some (mx (rnN ρ) (rnN ρ) (sF ρ),mx (rnN ρ) (rnN ρ) (tF ρ),()):=qDY hB;have hS:BdF 972 (rnN ρ) (rnN ρ) (sF ρ):=λi k hi hk=>qpQ hB.d hB.d hB.l6 hi hk;have ed:qW (mx (rnN ρ) (rnN ρ) (sF ρ))=some (sD ρ):=qG5 (B:=972) (by omega) (by have:=hB.n3;unfold rnN;omega) hS (qG3 _ hB.n3);rw [es,qa];dsimp only;rw [ed,qa];try dsimp only
  rw [qs6,qeg,qa];have hE2:qsQ ρ=if (!(decide (sD ρ=g0)))=true then 0 else 11:=by
   unfold qsQ;rw [if_neg (show ¬ (qsl ρ≠0)from λhh=>hh cE)];by_cases cz:sD ρ=g0
   ·rw [if_pos cz,decide_eq_true cz];rfl
   ·rw [if_neg cz,decide_eq_false cz];rfl
  rw [<- hE2];exact ⟨((mx (rnN ρ) (rnN ρ) (sF ρ),mx (rnN ρ) (rnN ρ) (tF ρ),()),sD ρ),rfl,λ_=>rfl⟩
 ·have e2:decide ((ρ.1.length:Int)<(ρ.1.length:Int))=false:=by simp
  simp only [e2,cond_false]
 ·have e2:decide ((i:Int)<(ρ.1.length:Int))=true:=decide_eq_true (by omega);have f1:idx ρ.1 (i:Int)=some (ρ.1.getD i []):=by rw [qfp [] (by omega) (by omega),Int.toNat_natCast]
  have f2:idx ρ.2.1 (i:Int)=some (ρ.2.1.getD i []):=by rw [qfp [] (by omega) (by omega),Int.toNat_natCast]
  have g1:=hr (ρ.1.getD i []) (qaG hi);have g2:=hr2 (ρ.2.1.getD i []) (qaG (by omega));show (bif decide ((i:Int)<(ρ.1.length:Int))then (idx ρ.1 (i:Int)).bind _ else _)=_;rw [e2,cond_true,f1,qa,f2,qa,qIz g1 g2,qa,qHI,qa];simp only [qpJ]
theorem qlf{ρ:Rn}:qcB ρ=some (qsQ ρ):=by
 unfold qcB;have e1:qe9 (ρ.1,ρ.2.1,())=some (qsl ρ):=qAg (ρ:=ρ);rw [e1,qa];unfold qsQ;by_cases cE:qsl ρ=0
 case neg=>rw [decide_eq_false cE,Bool.not_false,cond_true,if_pos cE]
 rw [decide_eq_true cE,Bool.not_true,cond_false,if_neg (show ¬ (qsl ρ≠0)from λhh=>hh cE)];have hB:=qI3 cE;have hS:BdF 972 (rnN ρ) (rnN ρ) (sF ρ):=λi k hi hk=>qpQ hB.d hB.d hB.l6 hi hk;have es:qe7 ρ.1 ρ.1=some (mx (rnN ρ) (rnN ρ) (sF ρ)):=qAf hB.d hB.d hB.l1 hB.l6 hB.n3;have ed:qbj (mx (rnN ρ) (rnN ρ) (sF ρ))=some (sD ρ):=qzP (B:=972) (by omega) (by have:=hB.n3;unfold rnN;omega) hS (qG3 _ hB.n3);rw [es,qa,ed,qa];dsimp only;rw [qs6];by_cases cz:sD ρ=g0
 ·rw [if_pos cz,decide_eq_true cz];rfl
 ·rw [if_neg cz,decide_eq_false cz];rfl
theorem qhQ{a s:Int}(hs:0<s):(a*s).natAbs=s.natAbs*a.natAbs:=by rw [Int.natAbs_mul,Nat.mul_comm]
theorem qFA{n c:Nat}{f:Nat->Nat->G}{a s:Int}(hs:0<s):qg (a*s) (mx n c λi k=>qK (f i k) (s,0,()))=s.natAbs*qg a (mx n c f):=by
 have hd1:∀x∈qe5 (mx n c f),(x*s)∈qe5 (mx n c λi k=>qK (f i k) (s,0,())):=λx hx=>by
  obtain ⟨i,k,hi,hk,h⟩:=qcx.1 hx;refine qcx.2 ⟨i,k,hi,hk,?_⟩;rw [qhx];rcases h with h|h
  ·exact .inl (by rw [h])
  ·exact .inr (by rw [h])
 refine Nat.dvd_antisymm ?_ ?_
 ·unfold qg;refine qo1 ?_ λx hx=>?_
  ·have:=qbL (qe5 (mx n c λi k=>qK (f i k) (s,0,()))) (a*s).natAbs
   rwa [qhQ hs]at this ⊢
  ·have:=Int.natAbs_dvd_natAbs.2 (qfQ (g:=(a*s).natAbs) (hd1 x hx));rw [Int.natAbs_natCast,qhQ hs (a:=x)]at this;exact this
 ·unfold qg;refine qpS ?_ λy hy=>?_
  ·rw [qhQ hs];exact Nat.mul_dvd_mul_left _ (qbL _ _)
  ·obtain ⟨i,k,hi,hk,h⟩:=qcx.1 hy;have e:((s.natAbs*qkX a.natAbs (qe5 (mx n c f)):Nat):Int)=s*((qkX a.natAbs (qe5 (mx n c f)):Nat):Int):=by
    rw [Int.natCast_mul];congr 1;omega
   rw [e];rw [qhx]at h;simp only at h;rcases h with h|h
   ·rw [h,Int.mul_comm _ s];exact Int.mul_dvd_mul_left _ (qfQ (qcx.2 ⟨i,k,hi,hk,.inl rfl⟩))
   ·rw [h,Int.mul_comm _ s];exact Int.mul_dvd_mul_left _ (qfQ (qcx.2 ⟨i,k,hi,hk,.inr rfl⟩))
theorem ql6{n c:Nat}{f:Nat->Nat->G}{a s:Int}(hs:0<s):qld n c (λi k=>qK (f i k) (s,0,())) (a*s)=qld n c f a:=by
 have e:((qg (a*s) (mx n c λi k=>qK (f i k) (s,0,())):Nat):Int)=s*(qg a (mx n c f):Int):=by
  rw [qFA hs,Int.natCast_mul];congr 1;omega
 have ht:∀x:Int,(x*s).tdiv (s*(qg a (mx n c f):Int))=x.tdiv (qg a (mx n c f):Int):=λx=>by
  rw [Int.mul_comm x s];exact Int.mul_tdiv_mul_of_pos _ _ hs
 unfold qld;rw [e,ht];have e2:mx n c (qlc (s*(qg a (mx n c f):Int)) λi k=>qK (f i k) (s,0,()))=mx n c (qlc (qg a (mx n c f)) f):=qkH λi k _ _=>by
  unfold qlc;simp only [qhx,ht]
 rw [e2]
theorem qrN{n c:Nat}{f h:Nat->Nat->G}{a:Int}(e:∀i k,i<n->k<c->f i k=h i k):qld n c f a=qld n c h a:=by
 have e1:mx n c f=mx n c h:=qkH e;unfold qld;rw [e1];have e2:mx n c (qlc (qg a (mx n c h)) f)=mx n c (qlc (qg a (mx n c h)) h):=qkH λi k hi hk=>by
  unfold qlc;rw [e i k hi hk]
 rw [e2]
theorem qBa{n c:Nat}{f h:Nat->Nat->G}{a e s t:Int}(hs:0<s)(ht:0<t)(hfh:∀i k,i<n->k<c->qK (f i k) (s,0,())=qK (h i k) (t,0,()))(hae:a*s=e*t):qld n c f a=qld n c h e:=by
 rw [<- ql6 (f:=f) (a:=a) hs,<- ql6 (f:=h) (a:=e) ht,hae];exact qrN hfh
theorem qFD{n c:Nat}{f:Nat->Nat->G}{a:Int}{i k:Nat}(hi:i<n)(hk:k<c):qK (qlc (qg a (mx n c f)) f i k) ((qg a (mx n c f):Int),0,())=f i k:=by
 rw [qhx];exact qiN (Int.tdiv_mul_cancel (qfQ (qcx.2 ⟨i,k,hi,hk,.inl rfl⟩))) (Int.tdiv_mul_cancel (qfQ (qcx.2 ⟨i,k,hi,hk,.inr rfl⟩)))
theorem qFC{n c:Nat}{f:Nat->Nat->G}{a:Int}:a.tdiv (qg a (mx n c f):Int)*(qg a (mx n c f):Int)=a :=
 Int.tdiv_mul_cancel (Int.ofNat_dvd_left.2 (qbL (qe5 (mx n c f)) a.natAbs))
structure EstB (ρ:Rn) (m:Nat) (w:Int):Prop where
 run:RunB ρ (m+1)
 len:rnN ρ=m+1
 det:qeK (m+1) (sF ρ)=(w,0,())
 w0:0<w
 w1:w<=918330048
 sB:BdF 972 (m+1) (m+1) (sF ρ)
 tB:BdF 972 (m+1) (m+1) (tF ρ)
 inv:InvB m (sF ρ) (w,0,()) 972 3779136 918330048 1000000000000000000
theorem qJr{ρ:Rn}(h:qsQ ρ=0):∃m w,EstB ρ m w/\qsl ρ=0:=by
 unfold qsQ at h;by_cases cE:qsl ρ=0
 case neg=>rw [if_pos cE]at h;exact absurd h cE
 rw [if_neg (show ¬ (qsl ρ≠0)from λhh=>hh cE)]at h;by_cases cz:sD ρ=g0
 ·rw [if_pos cz]at h;cases h
 have hB:=qI3 cE;obtain ⟨w,ew,w0,w1⟩:=qHO cE;have hn1:=hB.n1;have hn3:=hB.n3;obtain ⟨m,hm⟩:∃m,rnN ρ=m+1:=⟨rnN ρ-1,by unfold rnN;omega⟩
 have hB':RunB ρ (m+1):=by rw [<- hm];exact hB
 have hm2:m<=2:=by unfold rnN at hm;omega
 have hw:0<w:=by
  false_or_by_contra
  refine cz ?_;rw [ew,show w=0 by omega];rfl
 have sB:BdF 972 (m+1) (m+1) (sF ρ):=λi k hi hk=>qpQ hB'.d hB'.d hB'.l6 hi hk;have tB:BdF 972 (m+1) (m+1) (tF ρ):=λi k hi hk=>qpQ hB'.r hB'.d hB'.l6 hi hk;have ed:qeK (m+1) (sF ρ)=(w,0,()):=by rw [<- hm];exact ew
 have hdC:dC 972 m<=3779136:=by
  match m,hm2 with
  |0,_=>decide
  |1,_=>decide
  |2,_=>decide
 have ww:w*w<=918330048*918330048:=Int.mul_le_mul w1 w1 (by omega) (by omega);refine ⟨m,w,⟨hB',hm,ed,hw,w1,sB,tB,⟨by omega,sB,qG3 m (by omega),λi k hi hk=>(qpR (by omega) m _ (qe0 sB)).mono hdC,by unfold Bd;simp only;omega,by omega,by omega,by omega,by omega,by omega,?_,λhz=>?_⟩⟩,cE⟩
 ·unfold norm;simp only<;>omega
 ·have:=congrArg (λz:G=>z.1) hz;simp only [g0]at this;omega
def qJj(ρ:Rn)(m:Nat)(w:Int):Qt:=qld (m+1) (m+1) (qbi (m+1) (tF ρ) (qvv m (sF ρ))) w
theorem qvs{ρ:Rn}(h1:ρ.1.length<=1000000)(hr:∀d∈ρ.1,d.length<=1000000)(hr2:∀r∈ρ.2.1,r.length<=1000000) :
  ∃q:Qt,qeL ρ=some (q,qsQ ρ)/\(qsQ ρ≠0->q=(0,[],()))/\∀m w,EstB ρ m w->qsQ ρ=0->q=qJj ρ m w:=by
 obtain ⟨y,e1,e2⟩:=qyg h1 hr hr2;unfold qeL;rw [e1,qa];try dsimp only
 by_cases c:qsQ ρ=0
 case neg =>
  rw [decide_eq_false c,Bool.not_false,cond_true];exact ⟨_,rfl,λ_=>rfl,λm w _ hh=>absurd hh c⟩
 rw [decide_eq_true c,Bool.not_true,cond_false,e2 c];obtain ⟨m,w,hE,hrun⟩:=qJr c;have hm2:m<=2:=by have:=hE.run.n3;omega
 have ed:sD ρ=(w,0,()):=by unfold sD;rw [hE.len];exact hE.det
 rw [hE.len,ed];dsimp only;rw [qs5 (by omega) hE.inv,qa]
 generalize hg:qg (norm ((w,0,()):G)) (mx (m+1) (m+1) (qlj m (sF ρ) (w,0,())))=g;have w0:=hE.w0;have hnorm:norm ((w,0,()):G)=w*w:=by unfold norm;simp
 have hwpos:0<w*w:=Int.mul_pos w0 w0;have hconj:qau ((w,0,()):G)=(w,0,()):=rfl;have hinv:∀i k,qlj m (sF ρ) (w,0,()) i k=qK (qvv m (sF ρ) i k) (w,0,()):=λi k=>by unfold qlj;rw [hconj]
 have hgpos:0<g:=by rw [<- hg];exact qzN (by rw [hnorm];omega)
 have hwg:w<=(g:Int):=by
  have hd:w.natAbs ∣ g:=by
   rw [<- hg];unfold qg;refine qpS ?_ λx hx=>?_
   ·rw [hnorm,Int.natAbs_mul];exact Nat.dvd_mul_left _ _
   ·obtain ⟨i,k,hi,hk,h⟩:=qcx.1 hx;rw [hinv,qhx]at h;have e:((w.natAbs:Nat):Int)=w:=by omega
    rw [e];rcases h with h|h<;>rw [h]<;>exact Int.dvd_mul_left _ _
  have:=Nat.le_of_dvd hgpos hd;omega
 have hX:∀i k,i<m+1->k<m+1->qK (qlc (g:Int) (qlj m (sF ρ) (w,0,())) i k) ((g:Int),0,())=qK (qvv m (sF ρ) i k) (w,0,()):=λi k hi hk=>by
  have:=qFD (f:=qlj m (sF ρ) (w,0,())) (a:=norm ((w,0,()):G)) hi hk;rw [hg]at this;rw [this,hinv]
 have hden:(norm ((w,0,()):G)).tdiv (g:Int)*(g:Int)=w*w:=by
  have:=qFC (n:=m+1) (c:=m+1) (f:=qlj m (sF ρ) (w,0,())) (a:=norm ((w,0,()):G));rw [hg]at this;rw [this,hnorm]
 have hsmall:∀{x a:Int},x*(g:Int)=a*w -> -3779136<=a/\a<=3779136 -> -3779136<=x/\x<=3779136:=λ{x a} hxa ha=>by
  have u1:a*w<=3779136*w:=Int.mul_le_mul_of_nonneg_right ha.2 (by omega);have u2 : -3779136*w<=a*w:=Int.mul_le_mul_of_nonneg_right ha.1 (by omega);constructor
  ·false_or_by_contra
   have u3:x*(g:Int) <= -3779137*(g:Int):=Int.mul_le_mul_of_nonneg_right (by omega) (by omega);omega
  ·false_or_by_contra
   have u3:3779137*(g:Int)<=x*(g:Int):=Int.mul_le_mul_of_nonneg_right (by omega) (by omega);omega
 have hXB:BdF 3779136 (m+1) (m+1) (qlc (g:Int) (qlj m (sF ρ) (w,0,()))):=λi k hi hk=>by
  have h1:=hX i k hi hk;rw [qhx,qhx]at h1;have ha:=hE.inv.adj hi hk;exact ⟨hsmall (congrArg (λz:G=>z.1) h1) ha.1,hsmall (congrArg (λz:G=>z.2.1) h1) ha.2⟩
 have hdpos:0<(norm ((w,0,()):G)).tdiv (g:Int):=by
  false_or_by_contra
  have u:(norm ((w,0,()):G)).tdiv (g:Int)*(g:Int)<=0*(g:Int):=Int.mul_le_mul_of_nonneg_right (by omega) (by omega);omega
 have hdle:(norm ((w,0,()):G)).tdiv (g:Int)<=918330048:=by
  false_or_by_contra
  have u:918330049*(g:Int)<=(norm ((w,0,()):G)).tdiv (g:Int)*(g:Int):=Int.mul_le_mul_of_nonneg_right (by omega) (by omega);have u2:w*w<=918330048*w:=Int.mul_le_mul_of_nonneg_right hE.w1 (by omega);omega
 have eq:qld (m+1) (m+1) (qlj m (sF ρ) (w,0,())) (norm ((w,0,()):G))=((norm ((w,0,()):G)).tdiv (g:Int),mx (m+1) (m+1) (qlc (g:Int) (qlj m (sF ρ) (w,0,()))),()):=by unfold qld;rw [hg]
 rw [eq];dsimp only;rw [qvd (A:=972) (B:=3779136) (by omega) (by omega) hE.tB hXB (by omega) (by omega) (by omega) (by omega) (by omega),qa];have hpB:BdF 30000000000 (m+1) (m+1) (qbi (m+1) (tF ρ) (qlc (g:Int) (qlj m (sF ρ) (w,0,())))):=λi k hi hk=>by
  have h1:=Bd.sum (n:=m+1) (f:=λj=>qK (tF ρ i j) (qlc (g:Int) (qlj m (sF ρ) (w,0,())) j k)) (B:=2*(972*3779136)) λj hj=>(hE.tB i j hi hj).mul (hXB j k hj hk);refine h1.mono ?_;have:((m+1:Nat):Int)*(2*(972*3779136))<=3*(2*(972*3779136)):=Int.mul_le_mul_of_nonneg_right (by omega) (by omega);omega
 rw [qrO (B:=30000000000) (by omega) (by omega) (by omega) (by omega) hpB hdpos (by omega),qa,c];refine ⟨_,rfl,λhh=>absurd rfl hh,λm' w' hE' _=>?_⟩;have em:m'=m:=by have:=hE'.len;have:=hE.len;omega
 subst em;have ew:w'=w:=by
  have:=hE'.det;rw [hE.det]at this;exact (congrArg (λz:G=>z.1) this).symm
 subst ew;unfold qJj;refine qBa (s:=(g:Int)) (t:=w') (by omega) w0 (λi k hi hk=>?_) hden;rw [<- qkM,<- qkM];exact qdt (λj hj=>rfl) (λj hj=>hX j k hj hk)
end Go.Proofs.YteiciemjanhdcaaGreatDoor.Mat
end
section
namespace Go.Proofs.YteiciemjanhdcaaGreatDoor.Mat
open Go Go.Ab Go.Tx Go.Proofs.YteiciemjanhdcaaGreatDoor
theorem qqk{ρ:Rn}(h1:ρ.1.length<=1000000000)(hr:∀x∈ρ.1,x.length<=1000000000)(h2:ρ.2.1.length<=1000000000)(hr2:∀x∈ρ.2.1,x.length<=1000000000):qed ρ=some ρ:=by
 unfold qed;rw [qdv h1 hr,qa,qdv h2 hr2,qa]
end Go.Proofs.YteiciemjanhdcaaGreatDoor.Mat
namespace Go.Proofs.YteiciemjanhdcaaGreatDoor
open Go Go.Ab Go.Tx
end Go.Proofs.YteiciemjanhdcaaGreatDoor
end
section
namespace Go.Proofs.YteiciemjanhdcaaGreatDoor.Mat
open Go Go.Ab Go.Tx Go.Proofs.YteiciemjanhdcaaGreatDoor

end Go.Proofs.YteiciemjanhdcaaGreatDoor.Mat
end
section
namespace Go.Proofs.YteiciemjanhdcaaGreatDoor.Mat
open Go Go.Ab Go.Tx Go.Proofs.YteiciemjanhdcaaGreatDoor
end Go.Proofs.YteiciemjanhdcaaGreatDoor.Mat
namespace Go.Proofs.YteiciemjanhdcaaGreatDoor
open Go Go.Ab Go.Tx
end Go.Proofs.YteiciemjanhdcaaGreatDoor
end
section
namespace Go.Proofs.YteiciemjanhdcaaGreatDoor.Mat
open Go Go.Ab Go.Tx Go.Proofs.YteiciemjanhdcaaGreatDoor
theorem qhw{n:Int}(h1 : -9007199254740991<=n)(h2:n<=9007199254740991):flo n=some n:=by
 unfold flo;rw [if_pos (by omega)]
def qhl(l:List G)(n:Nat):Int:=if l.length=n then (if l.any (qeI 10000)=true then 2 else 0)else 10
theorem qAU(r:List G)(h:r.length<=1000000000):qy r=some (r.any (qeI 10000)):=by
 unfold qy qN;refine qxP r qeM (qeI 10000) (λx _=>?_) h;unfold qeM;rw [qc0 _ _ (by omega) (by omega)];rfl
theorem qkB{l:List G}{n:Nat}(h:l.length<=1000000000):qcJ l (n:Int)=some (qhl l n):=by
 unfold qcJ qhl;rw [qAU l h];simp only [qa,qeg];rw [qqC];by_cases c:l.length=n
 ·have c':decide ((l.length:Int)=(n:Int))=true:=decide_eq_true (by omega);rw [c',if_pos c];cases hb:l.any (qeI 10000)<;>simp
 ·have c':decide ((l.length:Int)=(n:Int))=false:=decide_eq_false (by omega);rw [c',if_neg c];simp
theorem quS{l:List G}{n:Nat}(h:l.length<=1000000000):qcd l (n:Int)=some (qhl l n):=by
 unfold qcd qhl;by_cases c:l.length=n
 case neg =>
  rw [decide_eq_false (show ¬ (l.length:Int)=(n:Int) by omega),Bool.not_false,cond_true,if_neg c]
 rw [decide_eq_true (show (l.length:Int)=(n:Int) by omega),Bool.not_true,cond_false,if_pos c];rw [qgB l _ (λ_ z=>if qeI 10000 z then some (2:Int)else none) (λk z hk=>?_),qdG]
 ·cases hf:qfB (λ_ z=>if qeI 10000 z then some (2:Int)else none) 0 l with
  |none =>
   rw [qeC]at hf;have hb:l.any (qeI 10000)=false:=by
    rw [List.any_eq_false];intro x hx;obtain ⟨k,hk⟩:=List.mem_iff_getElem?.1 hx;have:=hf k x hk;simpa using this
   simp [hb]
  |some q =>
   obtain ⟨k,z,h1,h2,_⟩:=qfC hf;have hp:qeI 10000 z=true:=by
    cases hp:qeI 10000 z
    ·simp [hp]at h2
    ·rfl
   have hb:l.any (qeI 10000)=true:=List.any_eq_true.2 ⟨z,List.mem_of_getElem? h1,hp⟩;simp only [hp,if_true,qb]at h2;simp [hb,<- h2]
 ·have hlk:=qgr hk;rw [qaO hk,qa,qgH _ _ (by omega) (by omega),qa,wid (by omega) (by omega)];unfold qeI;by_cases d:Bd 10000 z<;>simp [d,stp]
theorem qgt{l:List G}{n:Nat}(h:qhl l n=0):l.length=n/\∀z∈l,Bd 10000 z:=by
 unfold qhl at h;by_cases c:l.length=n
 case neg=>rw [if_neg c]at h;cases h
 rw [if_pos c]at h;refine ⟨c,λz hz=>?_⟩;cases hb:l.any (qeI 10000)with
 |true=>rw [hb,if_pos rfl]at h;cases h
 |false =>
  have:=List.any_eq_false.1 hb z hz;unfold qeI at this;simpa using this
def qhn(n:Nat)(f:Nat->Nat->G)(d:Nat->G)(i:Nat):G:=qeJ n λk=>qK (f i k) (d k)
theorem qDz{n:Nat}{A B:Int}{f:Nat->Nat->G}{d:Nat->G}(hf:BdF A n n f)(hd:∀k,k<n->Bd B (d k)){i:Nat}(hi:i<n):Bd (n*(2*(A*B))) (qhn n f d i) :=
 Bd.sum λk hk=>(hf i k hi hk).mul (hd k hk)
theorem qti{k n:Nat}{A:Int}(hA:0<=A)(h:k<=n):(k:Int)*A<=(n:Int)*A:=Int.mul_le_mul_of_nonneg_right (by omega) hA
theorem qmc{n:Nat}{f:Nat->Nat->G}{d:Nat->G}(hf:BdF 20 n n f)(hd:∀k,k<n->Bd 10000 (d k))(hn:n<=3) :
  qbn (mx n n f) (mkL n d)=some (mkL n (qhn n f d)):=by
 unfold qbn;rw [qd9];rw [qzd n (qhn n f d) (λi hi=>?_) ?_]
 ·rfl
 ·have e0:decide ((n:Int)<(n:Int))=false:=by simp
  simp only [e0,cond_false]
 ·have e0:decide ((i:Int)<(n:Int))=true:=decide_eq_true (by omega);simp only [e0,cond_true];rw [qaO (qpD f hi),qa,qX];have hF:∀k,k<n->Bd 400000 (qK (f i k) (d k)):=λk hk=>((hf i k hi hk).mul (hd k hk)).mono (by omega);have hS:∀k,k<=n->Bd 1200000 (qeJ k λk=>qK (f i k) (d k)):=λk hk=>by
   have h1:=Bd.sum (n:=k) λj hj=>hF j (by omega);exact h1.mono (by omega)
  refine Ok.eq ?_;rw [qfG];refine (qaZ n (λk (s:(Int×Int)×Int)=>s=(((qeJ k λk=>qK (f i k) (d k)).1,(qeJ k λk=>qK (f i k) (d k)).2.1),(k:Int))) (λr=>r=((qeJ n λk=>qK (f i k) (d k)).1,(qeJ n λk=>qK (f i k) (d k)).2.1)) rfl ?_).mono ?_
  ·rintro k s hk rfl;by_cases hlt:k<n
   ·have e1:decide ((k:Int)<(n:Int))=true:=decide_eq_true (by omega);have hx:idx (mkL n λb=>f i b) (k:Int)=some (f i k):=qaO (qbR _ hlt);have hy:idx (mkL n d) (k:Int)=some (d k):=qaO (qbR _ hlt);simp only [e1,cond_true,hx,hy,qa];have hs:=hS k hk;have hs':=hS (k+1) hlt;have hfk:=hf i k hi hlt;have hdk:=hd k hlt;have p1:=qaM hfk.1 hdk.1;have p2:=qaM hfk.2 hdk.2;have p3:=qaM hfk.1 hdk.2;have p4:=qaM hfk.2 hdk.1;have es:qeJ (k+1) (λk=>qK (f i k) (d k))=qcP (qeJ k λk=>qK (f i k) (d k)) (qK (f i k) (d k)):=rfl;rw [es]at hs' ⊢;generalize qeJ k (λk=>qK (f i k) (d k))=S at *;unfold Bd qcP qK at *;simp only at hs' ⊢;rw [qhw (by omega) (by omega),qa,qhw (by omega) (by omega),qa,qhw (by omega) (by omega),qa,qhw (by omega) (by omega),qa];rw [qhw (by omega) (by omega),qa,qhw (by omega) (by omega),qa,qhw (by omega) (by omega),qa];rw [qhw (by omega) (by omega),qa,qhw (by omega) (by omega),qa,qhw (by omega) (by omega),qa];rw [qhw (by omega) (by omega),qa,qhw (by omega) (by omega),qa];rw [wid (by omega) (by omega),qaw];exact ⟨hlt,rfl⟩
   ·have:k=n:=by omega
    subst this;have e1:decide ((k:Int)<(k:Int))=false:=by simp
    simp only [e1,cond_false];rw [qag]
  ·rintro r rfl;have hs:=hS n (Nat.le_refl n);unfold Bd at hs;simp only
   rw [qhw (by omega) (by omega),qa,qhw (by omega) (by omega),qa,qcG (by rw [qX];omega),qa,wid (by omega) (by omega)];exact qbT.2 rfl
def nr(a b:Int):Int:=if a % b > b-a % b then a / b+1 else a / b
def rnd(a b:Int):Int:=if a<0 then 0-nr (0-a) b else nr a b
theorem qGp{a b:Int}(ha:0<=a)(hb:0<b):0<=a / b/\a / b<=a:=⟨Int.ediv_nonneg ha (by omega),Int.ediv_le_self b ha⟩
theorem qJE{a b:Int}(ha:0<=a)(hb:0<b):0<=nr a b/\nr a b<=a+1:=by
 have:=qGp ha hb;unfold nr;split<;>omega
theorem qzz{m:Nat}{a b:Int}(ha:0<=a)(hb:0<b)(ha2:a<=4000000000000000000)(hb2:b<=4000000000000000000):qf2 (m+1) a b=some (nr a b):=by
 have h1:=qGp ha hb;have h2:=Int.emod_nonneg a (show b≠0 by omega);have h3:=Int.emod_lt_of_pos a hb;have e1:a.tmod b=a % b:=Int.tmod_eq_emod_of_nonneg ha;have e2:a.tdiv b=a / b:=Int.tdiv_eq_ediv_of_nonneg ha;show (bif decide (a<0)then _ else _)=_;rw [decide_eq_false (show ¬ a<0 by omega),cond_false,decide_eq_false (show ¬ b=0 by omega),cond_false,cond_false,e1,e2,wid (n:=b-a % b) (by omega) (by omega),wid (n:=a / b) (by omega) (by omega),wid (n:=a / b+1) (by omega) (by omega)];unfold nr;by_cases c:a % b > b-a % b
 ·rw [decide_eq_true c,if_pos c];rfl
 ·rw [decide_eq_false c,if_neg c];rfl
theorem qHs{a b:Int}(ha : -4000000000000000000<=a/\a<=4000000000000000000)(hb:0<b)(hb2:b<=4000000000000000000):qkx a b=some (rnd a b):=by
 unfold qkx rnd;by_cases c:a<0
 ·have e:qf2 12 a b=(bif decide (a<0)then (qf2 11 (w64 (0-a)) b).bind λx1=>some (w64 (0-x1))else _):=rfl;rw [e,decide_eq_true c,cond_true,wid (by omega) (by omega),qzz (m:=10) (by omega) hb (by omega) hb2,qa,if_pos c];have:=qJE (a:=0-a) (b:=b) (by omega) hb;rw [wid (by omega) (by omega)]
 ·rw [qzz (m:=11) (by omega) hb (by omega) hb2,if_neg c]
def qif(n:Nat)(f:Nat->Nat->G)(t d:Nat->G)(i:Nat):G:=qdZ (t i) (qhn n f d i)
theorem qC2{n i:Nat}(f:Nat->G)(z:G)(hi:i<n):(mkL n f).set i z=mkL n λk=>if k=i then z else f k:=by
 refine qrl (by simp [qX]) λk hk=>?_;rw [List.getElem?_set,qX];by_cases c:i=k
 ·subst c;rw [if_pos rfl,if_pos hi,if_pos rfl]
 ·rw [if_neg c,qbR _ hk,if_neg (λhh=>c hh.symm)]
theorem qDy{n:Nat}{f:Nat->Nat->G}{d:Nat->G}(hf:BdF 20 n n f)(hd:∀k,k<n->Bd 10000 (d k))(hn:n<=3){i:Nat}(hi:i<n):Bd 1200000 (qhn n f d i):=by
 refine (qDz hf hd hi).mono ?_;have:=qti (A:=2*(20*10000)) (by omega) hn;omega
theorem qCJ{n:Nat}{f:Nat->Nat->G}{t d:Nat->G}(hf:BdF 20 n n f)(hd:∀k,k<n->Bd 10000 (d k))(ht:∀k,k<n->Bd 10000 (t k))(hn:n<=3){i:Nat}(hi:i<n):Bd 1210000 (qif n f t d i) :=
 ((ht i hi).sub (qDy hf hd hn hi)).mono (by omega)
def qHF(r:Rg)(t d:Nat->G)(i:Nat):G:=qhn r.2.1.length (qjm r.2.1) (qif r.2.1.length (ent r.1) t d) i
def roF(r:Rg)(z:Int):Int:=rnd (z*r.2.2.1) (qhU r.2.1*r.2.2.2.1)
def clF(r:Rg)(z:Int):Int:=max (0-r.2.2.2.2.1) (min r.2.2.2.2.1 (roF r z))
def qEl(r:Rg)(t d:Nat->G)(i:Nat):G:=(clF r (qHF r t d i).1,clF r (qHF r t d i).2.1,())
theorem qFI{r:Rg}(h:qqc r=0):0<=r.2.2.2.2.1/\r.2.2.2.2.1<=1000:=by
 unfold qqc at h;by_cases e8:0<=r.2.2.2.2.1/\r.2.2.2.2.1<=1000
 ·exact e8
 ·exfalso
  rw [if_pos e8]at h;repeat' split at h
  all_goals first|contradiction|omega
structure CorB (r:Rg) (t d:Nat->G):Prop where
 n1:1<=r.2.1.length
 n3:r.2.1.length<=3
 pm:r.1=mx r.2.1.length r.2.1.length (ent r.1)
 pB:BdF 20 r.2.1.length r.2.1.length (ent r.1)
 xB:BdF 614400000 r.2.1.length r.2.1.length (qjm r.2.1)
 tB:∀k,k<r.2.1.length->Bd 10000 (t k)
 dB:∀k,k<r.2.1.length->Bd 10000 (d k)
 rB:∀i,i<r.2.1.length->Bd 4460544000000000 (qHF r t d i)
 num:0<=r.2.2.1/\r.2.2.1<=100
 den:1<=qhU r.2.1*r.2.2.2.1/\qhU r.2.1*r.2.2.2.1<=7372800000000
 step:0<=r.2.2.2.2.1/\r.2.2.2.2.1<=1000
theorem qJp{r:Rg}(h:qqc r=0){t d:Nat->G}(ht:∀k,k<r.2.1.length->Bd 10000 (t k))(hd:∀k,k<r.2.1.length->Bd 10000 (d k)):CorB r t d:=by
 have hB:=qJZ h;obtain ⟨hE,hI,hl,h0,h1,h2,h3⟩:=qw0 h;obtain ⟨m1,m3,mR,mB⟩:=qpa hE;have hX:=qud hI;have hA:=qnR mB mR;have hpm:=qoB mR;have hq:=hB.qB;rw [hl]at hA hpm;have e:qpo r=qhU r.2.1*r.2.2.2.1:=Int.mul_comm _ _;rw [e]at hq;refine ⟨hB.n1,hB.n3,hpm,hA,hX,ht,hd,λi hi=>?_,by omega,hq,qFI h⟩;have hn3:=hB.n3;refine (qDz hX (λk hk=>qCJ hA hd ht hn3 hk) hi).mono ?_;have:=qti (A:=2*(614400000*1210000)) (by omega) hn3;omega
theorem qHy{r:Rg}{t d:Nat->G}(h:CorB r t d){z:Int}(hz : -4460544000000000<=z/\z<=4460544000000000) : -446054400000000000<=z*r.2.2.1/\z*r.2.2.1<=446054400000000000:=by
 have hn:=h.num;have:=qaM (A:=4460544000000000) (B:=100) hz (show -100<=r.2.2.1/\r.2.2.1<=100 by omega);omega
theorem qlg{r:Rg}{t d:Nat->G}(h:CorB r t d){z:Int}(hz : -4460544000000000<=z/\z<=4460544000000000){X:Mx} :
  qbe z (r.1,r.2.1,r.2.2.1,r.2.2.2.1,r.2.2.2.2.1,qhU r.2.1,X,())=some (clF r z):=by
 unfold qbe;simp only
 have hp:=qHy h hz;have hq:=h.den;have hs:=h.step;rw [wid (n:=z*r.2.2.1) (by omega) (by omega),wid (n:=qhU r.2.1*r.2.2.2.1) (by omega) (by omega),wid (n:=0-r.2.2.2.2.1) (by omega) (by omega),qHs (by omega) (by omega) (by omega),qa];congr 1
 unfold clF roF;omega
theorem qt5{r:Rg}{t d:Nat->G}(h:CorB r t d) :
  qco (r.1,r.2.1,r.2.2.1,r.2.2.2.1,r.2.2.2.2.1,qhU r.2.1,mx r.2.1.length r.2.1.length (qjm r.2.1),()) (mkL r.2.1.length t) (mkL r.2.1.length d)=some (mkL r.2.1.length (qEl r t d)):=by
 unfold qco;simp only
 have hpm:=h.pm;have hn1:=h.n1;have hn3:=h.n3;have e0:qbn r.1 (mkL r.2.1.length d)=some (mkL r.2.1.length (qhn r.2.1.length (ent r.1) d)):=by
  have:=qmc h.pB h.dB hn3;rw [<- hpm]at this;exact this
 rw [e0,qa,qX,qd9];refine Ok.eq ?_;rw [qfG];refine (qaZ r.2.1.length (λi (s:List G×Int)=>s=(mkL r.2.1.length (λj=>if j<i then qif r.2.1.length (ent r.1) t d j else qhn r.2.1.length (ent r.1) d j),(i:Int))) (λq=>q=mkL r.2.1.length (qif r.2.1.length (ent r.1) t d)) ?_ ?_).mono ?_
 ·congr 1
 ·rintro i s hi rfl;by_cases hlt:i<r.2.1.length
  ·have e1:decide ((i:Int)<(r.2.1.length:Int))=true:=decide_eq_true (by omega);have hx:idx (mkL r.2.1.length t) (i:Int)=some (t i):=qaO (qbR _ hlt);have hy:idx (mkL r.2.1.length (λj=>if j<i then qif r.2.1.length (ent r.1) t d j else qhn r.2.1.length (ent r.1) d j)) (i:Int)=some (qhn r.2.1.length (ent r.1) d i):=by
    rw [qaO (qbR _ hlt),if_neg (Nat.lt_irrefl i)]
   simp only [e1,cond_true,hx,hy,qa,Int.toNat_natCast];rw [quB (h.tB i hlt) (qDy h.pB h.dB hn3 hlt) (by omega),qa,wid (by omega) (by omega),qaw];refine ⟨hlt,?_⟩;congr 1
   rw [qC2 _ _ hlt];refine qbQ λk hk=>?_;by_cases c:k=i
   ·subst c;rw [if_pos rfl,if_pos (by omega)];rfl
   ·rw [if_neg c];by_cases c2:k<i
    ·rw [if_pos c2,if_pos (by omega)]
    ·rw [if_neg c2,if_neg (by omega)]
  ·have:i=r.2.1.length:=by omega
   subst this;have e1:decide ((r.2.1.length:Int)<(r.2.1.length:Int))=false:=by simp
   simp only [e1,cond_false];rw [qag];exact qbQ λk hk=>if_pos hk
 ·rintro q rfl;refine ok_eq.2 ?_;have hL:∀k,k<r.2.1.length->Bd 1210000 (qif r.2.1.length (ent r.1) t d k):=λk hk=>qCJ h.pB h.dB h.tB hn3 hk;rw [qzd r.2.1.length (qEl r t d) (λi hi=>?_) ?_]
  ·rfl
  ·have e0:decide ((r.2.1.length:Int)<(r.2.1.length:Int))=false:=by simp
   simp only [e0,cond_false]
  ·have e0:decide ((i:Int)<(r.2.1.length:Int))=true:=decide_eq_true (by omega);simp only [e0,cond_true];rw [qaO (qpD (qjm r.2.1) hi),qa,qX];have hbd:(r.2.1.length:Int)*(2*(614400000*1210000))<=9000000000000000000:=by omega
   rw [qkT r.2.1.length (by omega) (A:=2*(614400000*1210000)) (by omega) hbd (λk=>qK (qjm r.2.1 i k) (qif r.2.1.length (ent r.1) t d k)) (λk hk=>(h.xB i k hi hk).mul (hL k hk)) (λk hk x y hxy=>?_) (λx y=>?_)]
   ·simp only [qa];have hr:=h.rB i hi;have er:qeJ r.2.1.length (λk=>qK (qjm r.2.1 i k) (qif r.2.1.length (ent r.1) t d k))=qHF r t d i:=rfl;rw [er,qlg h hr.1,qa,qlg h hr.2,qa,qcG (by rw [qX];omega),qa,wid (by omega) (by omega)];rfl
   ·have e0:decide ((k:Int)<(r.2.1.length:Int))=true:=decide_eq_true (by omega);simp only [e0,cond_true];rw [qaO (qbR (λk=>qjm r.2.1 i k) hk),qa,qaO (qbR _ hk),qa];rw [qhh (h.xB i k hi hk) (hL k hk) (by omega)];simp only [qa];rw [qoy hxy ((h.xB i k hi hk).mul (hL k hk)) (le_next (by omega) hk hbd)];rfl
   ·have e0:decide ((r.2.1.length:Int)<(r.2.1.length:Int))=false:=by simp
    simp only [e0,cond_false]
def qFL(m:Mx)(d:List G):Int:=if qg8 m=0 then qhl d m.length else qg8 m
def qkf(m:Mx)(d:List G):List G:=mkL m.length (qhn m.length (ent m) λk=>d.getD k g0)
theorem qms{m:Mx}{d:List G}(h:m.length<=1000000000)(hr:∀x∈m,x.length<=1000000000)(hd:d.length<=1000000000):qbB m d=some (if qFL m d=0 then (qkf m d,0)else ([],qFL m d)):=by
 unfold qbB;rw [qeD h hr,qa,qkB hd,qa,qqC,qa];have e:(if qg8 m=0 then qhl d m.length else qg8 m)=qFL m d:=rfl;rw [e];by_cases c:qFL m d=0
 case neg=>rw [decide_eq_false c,Bool.not_false,cond_true,if_neg c]
 rw [decide_eq_true c,Bool.not_true,cond_false,if_pos c];unfold qFL at c;by_cases c1:qg8 m=0
 case neg=>rw [if_neg c1]at c;exact absurd c c1
 rw [if_pos c1]at c;obtain ⟨m1,m3,mR,mB⟩:=qpa c1;obtain ⟨dl,dB⟩:=qgt c;have e1:=qmc (d:=λk=>d.getD k g0) (qnR mB mR) (λk hk=>dB _ (qaG (by omega))) m3;rw [<- qoB mR]at e1;have e2:=qfS d g0;rw [dl]at e2;rw [<- e2]at e1;rw [e1];rfl
def qzU(r:Rg)(t d:List G):Int:=if qqc r=0 then (if qhl t r.1.length=0 then qhl d r.1.length else qhl t r.1.length)else qqc r
theorem qI2{r:Rg}{t d:List G}(h:qzU r t d=0):qqc r=0/\CorB r (λk=>t.getD k g0) (λk=>d.getD k g0)/\t=mkL r.2.1.length (λk=>t.getD k g0)/\d=mkL r.2.1.length (λk=>d.getD k g0):=by
 unfold qzU at h;by_cases c1:qqc r=0
 case neg=>rw [if_neg c1]at h;exact absurd h c1
 rw [if_pos c1]at h;by_cases c2:qhl t r.1.length=0
 case neg=>rw [if_neg c2]at h;exact absurd h c2
 rw [if_pos c2]at h;have hl:=(qw0 c1).2.2.1;rw [hl]at c2 h;obtain ⟨tl,tB⟩:=qgt c2;obtain ⟨dl,dB⟩:=qgt h;have e1:=qfS t g0;have e2:=qfS d g0;rw [tl]at e1;rw [dl]at e2;exact ⟨c1,qJp c1 (λk hk=>tB _ (qaG (by omega))) (λk hk=>dB _ (qaG (by omega))),e1,e2⟩
theorem qnl{r:Rg}{t d:List G}(hp:r.1.length<=1000000000)(hpr:∀x∈r.1,x.length<=1000000000)(hm:r.2.1.length<=1000000000)(hmr:∀x∈r.2.1,x.length<=1000000000)(hd:r.2.2.2.1<=9223372036854775807)(ht:t.length<=1000000000)(hd2:d.length<=1000000000) :
  ∃y,qb1 r t d=some (y,qzU r t d)/\(qzU r t d=0->y=(r.1,r.2.1,r.2.2.1,r.2.2.2.1,r.2.2.2.2.1,qhU r.2.1,mx r.2.1.length r.2.1.length (qjm r.2.1),())):=by
 obtain ⟨y,e1,e2⟩:=qtk hp hpr hm hmr hd;have e1':qcL (r.1,r.2.1,r.2.2.1,r.2.2.2.1,r.2.2.2.2.1,())=some (y,qqc r):=e1;unfold qb1;rw [e1',qa,qkB ht,qa,qkB hd2,qa,qGq,qa];exact ⟨y,rfl,λh=>e2 (qI2 h).1⟩
end Go.Proofs.YteiciemjanhdcaaGreatDoor.Mat
namespace Go.Proofs.YteiciemjanhdcaaGreatDoor
open Go Go.Ab Go.Tx
end Go.Proofs.YteiciemjanhdcaaGreatDoor
end
section
namespace Go.Proofs.YteiciemjanhdcaaGreatDoor.Mat
open Go Go.Ab Go.Tx Go.Proofs.YteiciemjanhdcaaGreatDoor
theorem qHE{n c:Nat}{f:Nat->Nat->G}{a:Int}(h:qg a (mx n c f)=1):qld n c f a=(a,mx n c f,()):=by
 unfold qld;rw [h];have e:mx n c (qlc ((1:Nat):Int) f)=mx n c f:=qkH λi k _ _=>qiN (Int.tdiv_one _) (Int.tdiv_one _);rw [e];show (a.tdiv 1,_,())=_;rw [Int.tdiv_one]
theorem qFy{n:Nat}(hn:n+1<=3)(f:Nat->Nat->G){S:Nat->Nat->G}{w:Int}(hd:qeK (n+1) S=(w,0,())){i k:Nat}(hk:k<n+1) :
  qbi (n+1) f (qbi (n+1) (qvv n S) S) i k=qK (f i k) (w,0,())/\qbi (n+1) f (qbi (n+1) S (qvv n S)) i k=qK (f i k) (w,0,()):=by
 refine ⟨?_,?_⟩
 ·rw [qdt (f':=f) (h':=qdw w) (λj hj=>rfl) (λj hj=>by rw [qyW hn S hj hk,hd];rfl),qrG _ _ hk]
 ·rw [qdt (f':=f) (h':=qdw w) (λj hj=>rfl) (λj hj=>by rw [qvw hn S hj hk,hd];rfl),qrG _ _ hk]
section
variable {ρ:Rn} {m:Nat} {w:Int}
end
def exO(a:Mx)(D:Mx):Mx:=mkL D.length λj=>qkf a (D.getD j [])
theorem qHa{a D:Mx}{j i:Nat}(hj:j<D.length)(hi:i<a.length):ent (exO a D) j i=qhn a.length (ent a) (ent D j) i:=by
 unfold ent exO;rw [qhz _ _ hj];unfold qkf;rw [qhz _ _ hi];rfl
theorem qIx{a:Mx}{D:Mx}{i k:Nat}(hi:i<a.length):tF (D,exO a D,()) i k=qbi a.length (ent a) (sF (D,exO a D,())) i k:=by
 show qht (exO a D) D D.length i k=qbi a.length (ent a) (qht D D D.length) i k;unfold qht qbi;rw [qbz (h:=λj=>qeJ a.length λl=>qK (qK (ent a i l) (ent D j l)) (qau (ent D j k))) (λj hj=>by
  rw [qHa hj hi];unfold qhn;exact (qkS _).symm),qxa]
 refine qbz λl hl=>?_;rw [qbz (h:=λj=>qK (qK (ent D j l) (qau (ent D j k))) (ent a i l)) (λj hj=>by rw [qh3,qh4]),qkS,qh4]
theorem qHb{a D:Mx}{m:Nat}{w:Int}(h:EstB (D,exO a D,()) m w)(hl:a.length=m+1)(hR:qH6 a.length a.length a):qJj (D,exO a D,()) m w=(1,a,()):=by
 have hm2:m+1<=3:=h.run.n3;have w0:=h.w0;unfold qJj;rw [qrN (h:=λi k=>qK (ent a i k) (w,0,())) (λi k hi hk=>by
  rw [qdt (f':=qbi (m+1) (ent a) (sF (D,exO a D,()))) (h':=qvv m (sF (D,exO a D,()))) (λj hj=>by rw [qIx (by omega),hl]) (λj hj=>rfl),<- qrF];exact (qFy hm2 (ent a) h.det hk).2)]
 have e:=ql6 (n:=m+1) (c:=m+1) (f:=ent a) (a:=1) w0;rw [Int.one_mul]at e;rw [e,qHE]
 ·rw [<- hl,<- qoB hR]
 ·exact Nat.eq_one_of_dvd_one (qbL (qe5 (mx (m+1) (m+1) (ent a))) 1)
theorem qFM{a:Mx}(ha:qg8 a=0){d:List G}(hl:d.length=a.length)(hd:∀z∈d,Bd 9 z):qFL a d=0:=by
 unfold qFL qhl;rw [if_pos ha,if_pos hl,if_neg];intro h;obtain ⟨z,hz,hb⟩:=List.any_eq_true.1 h;have h2:Bd 10000 z:=(hd z hz).mono (by omega);unfold qeI at hb;rw [decide_eq_true h2]at hb;cases hb
end Go.Proofs.YteiciemjanhdcaaGreatDoor.Mat
namespace Go.Proofs.YteiciemjanhdcaaGreatDoor
open Go Go.Ab Go.Tx
end Go.Proofs.YteiciemjanhdcaaGreatDoor
end
section
namespace Go.Proofs.YteiciemjanhdcaaGreatDoor.Mat
open Go Go.Ab Go.Tx Go.Proofs.YteiciemjanhdcaaGreatDoor
def qGJ(r:Rg)(t d:Nat->G)(i:Nat):G:=qcP (qEl r t d i) (d i)
def qDR(r:Rg)(t d:List G):List G:=mkL r.2.1.length (qGJ r (λk=>t.getD k g0) λk=>d.getD k g0)
theorem qIp{r:Rg}(h:0<=r.2.2.2.2.1/\r.2.2.2.2.1<=1000)(z:Int) : -r.2.2.2.2.1<=clF r z/\clF r z<=r.2.2.2.2.1:=by
 unfold clF;omega
theorem qIs{r:Rg}(h:0<=r.2.2.2.2.1/\r.2.2.2.2.1<=1000)(t d:Nat->G)(i:Nat):Bd 1000 (qEl r t d i):=by
 have h1:=qIp h (qHF r t d i).1;have h2:=qIp h (qHF r t d i).2.1;unfold Bd qEl;simp only
 omega
abbrev OR(r:Rg):Mx×Mx×Int×Int×Int×Int×Mx×Unit:=(r.1,r.2.1,r.2.2.1,r.2.2.2.1,r.2.2.2.2.1,qhU r.2.1,mx r.2.1.length r.2.1.length (qjm r.2.1),())
theorem quY{r:Rg}{t d:Nat->G}(h:CorB r t d) :
  qbP (OR r) (mkL r.2.1.length t) (mkL r.2.1.length d)=some (if qhl (mkL r.2.1.length (qGJ r t d)) r.2.1.length=0 then (mkL r.2.1.length (qGJ r t d),0)else ([],22)):=by
 have hn3:=h.n3;unfold qbP;rw [qt5 h,qa,qX];refine Ok.eq ?_;rw [qfG];refine (qaZ r.2.1.length (λi (s:List G×Int)=>s=(mkL r.2.1.length (λj=>if j<i then qGJ r t d j else qEl r t d j),(i:Int))) (λq=>q=mkL r.2.1.length (qGJ r t d)) ?_ ?_).mono ?_
 ·congr 1
 ·rintro i s hi rfl;by_cases hlt:i<r.2.1.length
  ·have e1:decide ((i:Int)<(r.2.1.length:Int))=true:=decide_eq_true (by omega);have hx:idx (mkL r.2.1.length d) (i:Int)=some (d i):=qaO (qbR _ hlt);have hy:idx (mkL r.2.1.length (λj=>if j<i then qGJ r t d j else qEl r t d j)) (i:Int)=some (qEl r t d i):=by
    rw [qaO (qbR _ hlt),if_neg (Nat.lt_irrefl i)]
   simp only [e1,cond_true,hx,hy,qa,Int.toNat_natCast];rw [qoy (qIs h.step t d i) (h.dB i hlt) (by omega),qa,wid (by omega) (by omega),qaw];refine ⟨hlt,?_⟩;congr 1
   rw [qC2 _ _ hlt];refine qbQ λk hk=>?_;by_cases c:k=i
   ·subst c;rw [if_pos rfl,if_pos (by omega)];rfl
   ·rw [if_neg c];by_cases c2:k<i
    ·rw [if_pos c2,if_pos (by omega)]
    ·rw [if_neg c2,if_neg (by omega)]
  ·have:i=r.2.1.length:=by omega
   subst this;have e1:decide ((r.2.1.length:Int)<(r.2.1.length:Int))=false:=by simp
   simp only [e1,cond_false];rw [qag];exact qbQ λk hk=>if_pos hk
 ·rintro q rfl;refine ok_eq.2 ?_;rw [qX,qkB (by rw [qX];omega),qa];by_cases c:qhl (mkL r.2.1.length (qGJ r t d)) r.2.1.length=0
  ·rw [decide_eq_true c,if_pos c];rfl
  ·rw [decide_eq_false c,if_neg c];rfl
theorem qty{r:Rg}{t d:List G}(hE:qqc r=0)(ht:qhl t r.2.1.length=0)(hd:qhl d r.2.1.length=0) :
  qbP (OR r) t d=some (if qhl (qDR r t d) r.2.1.length=0 then (qDR r t d,0)else ([],22)):=by
 obtain ⟨tl,tB⟩:=qgt ht;obtain ⟨dl,dB⟩:=qgt hd;have e1:=qfS t g0;have e2:=qfS d g0;rw [tl]at e1;rw [dl]at e2;have:=quY (qJp hE (t:=λk=>t.getD k g0) (d:=λk=>d.getD k g0) (λk hk=>tB _ (qaG (by omega))) (λk hk=>dB _ (qaG (by omega))));rw [<- e1,<- e2]at this;exact this
structure Three (r:Rg) (t s0 s1 s2 s3:List G):Prop where
 z0:qhl s0 r.2.1.length=0
 z1:qhl s1 r.2.1.length=0
 z2:qhl s2 r.2.1.length=0
 z3:qhl s3 r.2.1.length=0
 e1:s1=qDR r t s0
 e2:s2=qDR r t s1
 e3:s3=qDR r t s2
end Go.Proofs.YteiciemjanhdcaaGreatDoor.Mat
end
section
namespace Go.Proofs.YteiciemjanhdcaaGreatDoor.Mat
open Go Go.Ab Go.Tx Go.Proofs.YteiciemjanhdcaaGreatDoor
theorem ql8{l:List G}{n:Nat}(h:n<=1000000000):qcd l (n:Int)=some (qhl l n):=by
 by_cases c:l.length=n
 ·exact quS (by omega)
 ·unfold qcd qhl;rw [decide_eq_false (show ¬ (l.length:Int)=(n:Int) by omega),Bool.not_false,cond_true,if_neg c]
end Go.Proofs.YteiciemjanhdcaaGreatDoor.Mat
namespace Go.Proofs.YteiciemjanhdcaaGreatDoor
open Go Go.Ab Go.Tx
end Go.Proofs.YteiciemjanhdcaaGreatDoor
end
section
namespace Go.Proofs.YteiciemjanhdcaaGreatDoor.Mat
open Go Go.Ab Go.Tx Go.Proofs.YteiciemjanhdcaaGreatDoor
structure RdB (r:Rg) (t d:List G):Prop where
 rig:qqc r=0
 tz:qhl t r.2.1.length=0
 dz:qhl d r.2.1.length=0
theorem RdB.of{r:Rg}{t d:List G}(h:qzU r t d=0):RdB r t d:=by
 unfold qzU at h;by_cases c1:qqc r=0
 case neg=>rw [if_neg c1]at h;exact absurd h c1
 rw [if_pos c1]at h;by_cases c2:qhl t r.1.length=0
 case neg=>rw [if_neg c2]at h;exact absurd h c2
 rw [if_pos c2]at h;have hl:=(qw0 c1).2.2.1;rw [hl]at c2 h;exact ⟨c1,c2,h⟩
theorem RdB.cor{r:Rg}{t d:List G}(h:RdB r t d):CorB r (λk=>t.getD k g0) (λk=>d.getD k g0)/\t=mkL r.2.1.length (λk=>t.getD k g0)/\d=mkL r.2.1.length (λk=>d.getD k g0):=by
 obtain ⟨tl,tB⟩:=qgt h.tz;obtain ⟨dl,dB⟩:=qgt h.dz;have e1:=qfS t g0;have e2:=qfS d g0;rw [tl]at e1;rw [dl]at e2;exact ⟨qJp h.rig (λk hk=>tB _ (qaG (by omega))) (λk hk=>dB _ (qaG (by omega))),e1,e2⟩
def inF(r:Rg)(t d:List G)(most:Int):Bool:=decide (∀i,i<r.2.1.length->Bd most (qif r.2.1.length (ent r.1) (λk=>t.getD k g0) (λk=>d.getD k g0) i))
instance (r:Rg) (t d:List G) (most:Int):Decidable (∀i,i<r.2.1.length->Bd most (qif r.2.1.length (ent r.1) (λk=>t.getD k g0) (λk=>d.getD k g0) i)):=Nat.decidableBallLT _ _
theorem qFs{a b:List G}(hl:a.length=b.length)(h:a.length<=1000):qA a b=some (mkL a.length λi=>((a.getD i g0).1,(a.getD i g0).2.1,(b.getD i g0).1,(b.getD i g0).2.1,())):=by
 unfold qA;have k1:Ok (qF (λ(s2:(Int×(List (Int×Int×Int×Int×Unit)))) =>
   bif decide (s2.1<(a.length:Int))then
    (idx a s2.1).bind λx3 =>
    (idx b s2.1).bind λx4 =>
    (app s2.2 ([(x3.1,x3.2.1,x4.1,x4.2.1,())])).bind λx5 =>
    some (.inl (w64 (s2.1+1),x5))
   else
    some (.inr s2.2)) (0,[])) (λq=>q=mkL a.length λi=>((a.getD i g0).1,(a.getD i g0).2.1,(b.getD i g0).1,(b.getD i g0).2.1,())):=by
  refine qaZ a.length (λi (s:Int×List (Int×Int×Int×Int×Unit))=>s=((i:Int),mkL i λi=>((a.getD i g0).1,(a.getD i g0).2.1,(b.getD i g0).1,(b.getD i g0).2.1,()))) _ rfl ?_;rintro i s hi rfl;by_cases hlt:i<a.length
  ·have e0:decide ((i:Int)<(a.length:Int))=true:=decide_eq_true (by omega);have hx:idx a (i:Int)=some (a.getD i g0):=qaO (qhL g0 (by omega));have hy:idx b (i:Int)=some (b.getD i g0):=qaO (qhL g0 (by omega));simp only [e0,cond_true,hx,hy,qa];rw [qcG (by rw [qX];omega),qa,wid (by omega) (by omega),qaw];exact ⟨hlt,by rw [qhA];simp⟩
  ·have:i=a.length:=by omega
   subst this;have e0:decide ((a.length:Int)<(a.length:Int))=false:=by simp
   simp only [e0,cond_false];rw [qag]
 rw [k1.eq];rfl
def qno(r:Rg)(t:List G)(most:Int):Nat->List G->Int×Int
 |0,d=>if inF r t d most=true then (20,0)else (0,12)
 |f+1,d=>if inF r t d most=true then (((20-(f+1):Nat):Int),0)else if qhl (qDR r t d) r.2.1.length=0 then qno r t most f (qDR r t d)else (0,22)
theorem ql7(r:Rg)(t:List G)(most:Int)(f:Nat)(d:List G):qno r t most (f+1) d=if inF r t d most=true then (((20-(f+1):Nat):Int),0)else if qhl (qDR r t d) r.2.1.length=0 then qno r t most f (qDR r t d)else (0,22):=rfl
theorem qyo(r:Rg)(t:List G)(most:Int)(d:List G):qno r t most 0 d=if inF r t d most=true then (20,0)else (0,12):=rfl
theorem qHc{r:Rg}{t d:List G}(h:RdB r t d){most:Int}(h0:0<=most/\most<=10000) :
  Ok ((qbn r.1 d).bind λx8 =>
    (qA t x8).bind λx9 =>
    (qF (λ(s11:Int) =>
       bif decide (s11<(x9.length:Int))then
        (idx x9 s11).bind λx12 =>
        (qY (x12.1,x12.2.1,()) (x12.2.2.1,x12.2.2.2.1,())).bind λx13 =>
        (qaj x13 most).bind λx14 =>
        bif !x14 then
         some (.inr (.inr s11))
        else
         some (.inl (w64 (s11+1)))
       else
        some (.inr (.inl ()))) 0).bind (Sum.elim (λ(p15:Unit) =>
     some (-1)) some)) λp:Int=>decide (p>=0)=!(inF r t d most):=by
 obtain ⟨hC,e1,e2⟩:=h.cor;have hn3:=hC.n3;have tl:t.length=r.2.1.length:=(qgt h.tz).1;have hr:qbn r.1 d=some (mkL r.2.1.length (qhn r.2.1.length (ent r.1) λk=>d.getD k g0)):=by
  have:=qmc hC.pB hC.dB hn3;rw [<- hC.pm,<- e2]at this;exact this
 rw [hr,qa,qFs (by rw [qX,tl]) (by omega),qa,tl];rw [qgB (mkL r.2.1.length λi=>((t.getD i g0).1,(t.getD i g0).2.1,((mkL r.2.1.length (qhn r.2.1.length (ent r.1) λk=>d.getD k g0)).getD i g0).1,((mkL r.2.1.length (qhn r.2.1.length (ent r.1) λk=>d.getD k g0)).getD i g0).2.1,())) _
  (λi _=>if Bd most (qif r.2.1.length (ent r.1) (λk=>t.getD k g0) (λk=>d.getD k g0) i)then none else some (i:Int)) (λi z hi=>by
  have hlt:=qgr hi;rw [qX]at hlt;rw [qaO hi];rw [qbR _ hlt]at hi;cases hi;simp only [qa];rw [qhz _ _ hlt,quB (A:=10000) (B:=1200000) (hC.tB i hlt) (qDy hC.pB hC.dB hn3 hlt) (by omega),qa,qc0 _ _ (by omega) (by omega),qa];show (bif !decide (Bd most (qif r.2.1.length (ent r.1) (λk=>t.getD k g0) (λk=>d.getD k g0) i))then _ else _)=_;by_cases c:Bd most (qif r.2.1.length (ent r.1) (λk=>t.getD k g0) (λk=>d.getD k g0) i)
  ·simp only [c,decide_true,Bool.not_true,cond_false,if_true,stp];rw [wid (by omega) (by omega)]
  ·simp only [c,decide_false,Bool.not_false,cond_true,if_false,stp]),qdG]
 split
 ·rename_i b hf;obtain ⟨i,z,hi,hz,_⟩:=qfC hf;have hlt:=qgr hi;rw [qX]at hlt;have hz':¬ Bd most (qif r.2.1.length (ent r.1) (λk=>t.getD k g0) (λk=>d.getD k g0) i):=λc=>by rw [Nat.zero_add,if_pos c]at hz;cases hz
  rw [Nat.zero_add,if_neg hz']at hz;cases hz;have:inF r t d most=false:=decide_eq_false λhh=>hz' (hh i hlt);rw [qbT,this];exact decide_eq_true (by omega)
 ·rename_i hf;have:inF r t d most=true:=decide_eq_true λi hi=>by
   have h1:=qeC.1 hf i _ (qbR _ hi);by_cases c:Bd most (qif r.2.1.length (ent r.1) (λk=>t.getD k g0) (λk=>d.getD k g0) i)
   ·exact c
   ·rw [Nat.zero_add,if_neg c]at h1;cases h1
  rw [qbT,this];rfl
theorem qvu{r:Rg}{t d:List G}(hp:r.1.length<=1000000000)(hpr:∀x∈r.1,x.length<=1000000000)(hm:r.2.1.length<=1000000000)(hmr:∀x∈r.2.1,x.length<=1000000000)(hd:r.2.2.2.1<=9223372036854775807)(ht:t.length<=1000000000)(hd2:d.length<=1000000000)(most:Int) :
  qdh r t d most=some (if qzU r t d=0 then (if 0<=most/\most<=10000 then qno r t most 20 d else (0,2))else (0,qzU r t d)):=by
 obtain ⟨y,e1,e2⟩:=qnl hp hpr hm hmr hd ht hd2;have e1':qb1 (r.1,r.2.1,r.2.2.1,r.2.2.2.1,r.2.2.2.2.1,()) t d=some (y,qzU r t d):=e1;unfold qdh;rw [e1',qa,qko,qa,qeg,qa,qqC,qa];by_cases hE:qzU r t d=0
 case neg=>simp [hE]
 have hy:=e2 hE;subst hy;by_cases c0:0<=most/\most<=10000
 case neg=>simp [hE,c0]
 simp only [hE,c0,and_self,decide_true,if_true,Bool.not_true,cond_false];refine Ok.eq ?_;refine qrB.2 ?_;refine (qaZ 20 (λi (s:List G×Int)=>s.2=(i:Int)/\RdB r t s.1/\qno r t most (20-i) s.1=qno r t most 20 d)
  (λq:Unit⊕(Int×Int)=>q=.inr (qno r t most 20 d)) ⟨rfl,RdB.of hE,by rw [Nat.sub_zero]⟩ ?_).mono ?_
 ·rintro i ⟨s,j⟩ hi ⟨h1,h2,h3⟩;simp only at h1 h2 h3;subst h1;obtain ⟨p,hp1,hp2⟩:=qHc h2 c0;obtain ⟨x8,q1,hp1⟩:=qd.1 hp1;obtain ⟨x9,q2,hp1⟩:=qd.1 hp1;simp only [q1,q2,qa,hp1,hp2,Bool.not_not];by_cases hlt:i<20
  ·obtain ⟨f,hf⟩:∃f,20-i=f+1:=⟨20-i-1,by omega⟩
   rw [hf,ql7 r t most f s]at h3;have hi20:¬ ((i:Int)=20):=by omega
   cases c:inF r t s most with
   |true =>
    rw [c,if_pos rfl]at h3;simp only [cond_true];rw [qag,<- h3];congr 2
    omega
   |false =>
    rw [c,if_neg (by simp)]at h3;simp only [cond_false,hi20,decide_false];rw [qty h2.rig h2.tz h2.dz,qa];by_cases c2:qhl (qDR r t s) r.2.1.length=0
    ·rw [if_pos c2]at h3 ⊢;simp only [decide_true,Bool.not_true,cond_false];rw [wid (by omega) (by omega),qaw];refine ⟨hlt,by simp,⟨h2.rig,h2.tz,c2⟩,?_⟩;rw [show 20-(i+1)=f by omega];exact h3
    ·rw [if_neg c2]at h3 ⊢;simp only [show ¬ ((22:Int)=0) by omega,decide_false,Bool.not_false,cond_true];rw [qag,<- h3]
  ·have:i=20:=by omega
   subst this;rw [Nat.sub_self,qyo r t most s]at h3;cases c:inF r t s most with
   |true =>
    rw [c,if_pos rfl]at h3;simp only [cond_true];rw [qag,<- h3];rfl
   |false =>
    rw [c,if_neg (by simp)]at h3;have e20:decide (((20:Nat):Int)=20)=true:=by decide
    simp only [cond_false,e20,cond_true];rw [qag,<- h3]
 ·rintro q rfl;rfl
end Go.Proofs.YteiciemjanhdcaaGreatDoor.Mat
namespace Go.Proofs.YteiciemjanhdcaaGreatDoor
open Go Go.Ab Go.Tx
end Go.Proofs.YteiciemjanhdcaaGreatDoor
end
section
namespace Go.Proofs.YteiciemjanhdcaaGreatDoor.Mat
open Go Go.Ab Go.Tx Go.Proofs.YteiciemjanhdcaaGreatDoor
theorem qtm(n:Nat)(f h:Nat->Nat->G)(c:G)(i k:Nat):qbi n (λi k=>qK (f i k) c) h i k=qK (qbi n f h i k) c:=by
 unfold qbi;rw [<- qkS];exact qbz λj hj=>by rw [qh3,qh4 c,<- qh3]
theorem qCz{n:Nat}(hn:n+1<=3)(f:Nat->Nat->G){i k:Nat}(hi:i<n+1)(hk:k<n+1):qbi (n+1) (qlj n f (qeK (n+1) f)) f i k=qdw (norm (qeK (n+1) f)) i k:=by
 rw [qCy,qtm,qyW hn f hi hk,qzr]
theorem qEW{m:Mx}(h:qh7 m=0){i k:Nat}(hi:i<m.length)(hk:k<m.length):qbi m.length (qjm m) (ent m) i k=qdw (qhU m) i k:=by
 obtain ⟨n,hl,h3,hm,hB⟩:=qf8 (qjM h).1;have hg:=quf h;refine qCh (s:=(qxZ m:Int)) (by omega) ?_;rw [<- qtm,qdt (f':=qlj (m.length-1) (ent m) (qgh m)) (h':=ent m) (λj hj=>que hi hj) (λj hj=>rfl)];have hd:qgh m=qeK (n+1) (ent m):=by unfold qgh;rw [hl]
 have e:=qp2 m;have hi':i<n+1:=by omega
 have hk':k<n+1:=by omega
 rw [hd]at e;rw [hd,hl,show n+1-1=n by omega,qCz h3 _ hi' hk'];unfold qdw;by_cases c:i=k
 ·rw [if_pos c,if_pos c,qhx];exact qiN e.symm (by simp)
 ·rw [if_neg c,if_neg c,qh6]
theorem qF2{n:Nat}(f h:Nat->G):qdZ (qeJ n f) (qeJ n h)=qeJ n (λk=>qdZ (f k) (h k)):=by
 have e:qeJ n f=qcP (qeJ n λk=>qdZ (f k) (h k)) (qeJ n h):=by
  rw [<- qz1];exact qbz λk hk=>qiN (by simp only [qcP,qdZ];omega) (by simp only [qcP,qdZ];omega)
 rw [e];exact qiN (by simp only [qcP,qdZ];omega) (by simp only [qcP,qdZ];omega)
theorem qEK(a b c:G):qdZ (qK a b) (qK a c)=qK a (qdZ b c):=qiN (by simp only [qK,qdZ];grind) (by simp only [qK,qdZ];grind)
def qds(m:Mx):Rg:=(m,m,1,1,1000,())
theorem qzI{m:Mx}(h:qh7 m=0):qqc (qds m)=0:=by
 have hE:=(qjM h).1;unfold qqc qds;simp only
 rw [if_neg (show ¬ (qg8 m≠0)from λhh=>hh hE),if_neg (show ¬ (qg8 m≠0)from λhh=>hh hE),if_neg (show ¬ (m.length≠m.length)from λhh=>hh rfl),if_neg (show ¬ (qh7 m≠0)from λhh=>hh h)];rfl
theorem qHt{m:Mx}(h:qh7 m=0):con (qds m)=(0,1,()):=qFQ h
theorem qHH{e b:Int}(hb:0<b):rnd (e*b) b=e:=by
 have hn:∀x:Int,nr (x*b) b=x:=λx=>by
  unfold nr;rw [Int.mul_emod_left,Int.mul_ediv_cancel _ (by omega),if_neg (by omega)]
 unfold rnd;by_cases c:e*b<0
 ·rw [if_pos c,show 0-e*b=(0-e)*b by rw [Int.sub_mul,Int.zero_mul],hn];omega
 ·rw [if_neg c,hn]
theorem qzH{m:Mx}{T d:List G}{i:Nat}(hi:i<m.length):qif m.length (ent m) (λk=>(qkf m T).getD k g0) (λk=>d.getD k g0) i=qhn m.length (ent m) (λk=>qdZ (T.getD k g0) (d.getD k g0)) i:=by
 unfold qif;simp only
 unfold qkf;rw [qhz _ _ hi];unfold qhn;rw [qF2];exact qbz λk hk=>qEK _ _ _
theorem qHv{m:Mx}(h:qh7 m=0){T d:List G}{i:Nat}(hi:i<m.length):qHF (qds m) (λk=>(qkf m T).getD k g0) (λk=>d.getD k g0) i=qK (qdZ (T.getD i g0) (d.getD i g0)) (qhU m,0,()):=by
 show qhn m.length (qjm m) (qif m.length (ent m) (λk=>(qkf m T).getD k g0) (λk=>d.getD k g0)) i=_;have e:qhn m.length (qjm m) (qif m.length (ent m) (λk=>(qkf m T).getD k g0) (λk=>d.getD k g0)) i=qbi m.length (qjm m) (qbi m.length (ent m) (λj _=>qdZ (T.getD j g0) (d.getD j g0))) i 0:=by
  unfold qhn;refine qbz (h:=λj=>qK (qjm m i j) (qbi m.length (ent m) (λj _=>qdZ (T.getD j g0) (d.getD j g0)) j 0)) λj hj=>?_;rw [qzH hj];rfl
 rw [e,qrF,qdt (f':=qdw (qhU m)) (h':=λj _=>qdZ (T.getD j g0) (d.getD j g0)) (λj hj=>qEW h hi hj) (λj hj=>rfl)];unfold qbi;rw [qz2 hi (λj hj hne=>by unfold qdw;rw [if_neg (λhh=>hne hh.symm)];exact qh6 _)];unfold qdw;rw [if_pos rfl,qh4]
def qw9(T d:List G)(n:Nat):Prop:=∀k,k<n->Bd 1000 (qdZ (T.getD k g0) (d.getD k g0))
theorem qHu{m:Mx}(h:qh7 m=0){T d:List G}(hs:qw9 T d m.length){i:Nat}(hi:i<m.length):qEl (qds m) (λk=>(qkf m T).getD k g0) (λk=>d.getD k g0) i=qdZ (T.getD i g0) (d.getD i g0):=by
 have hD:=qmG h;have hb:=hs i hi;have hro:∀e:Int,roF (qds m) (e*qhU m)=e:=λe=>by
  show rnd (e*qhU m*1) (qhU m*1)=e;rw [Int.mul_one,Int.mul_one,qHH (by omega)]
 have hc:∀e:Int,-1000<=e/\e<=1000->clF (qds m) (e*qhU m)=e:=λe he=>by
  unfold clF;rw [hro];show max (0-1000) (min 1000 e)=e;omega
 unfold qEl;rw [qHv h hi,qhx];exact qiN (hc _ hb.1) (hc _ hb.2)
theorem qDc{m:Mx}(h:qh7 m=0){T d:List G}(hl:T.length=m.length)(hs:qw9 T d m.length):qDR (qds m) (qkf m T) d=T:=by
 refine Eq.trans ?_ (qfS T g0).symm;rw [hl];show mkL m.length _=_;refine qbQ λi hi=>?_;unfold qGJ;rw [qHu h hs hi];exact qiN (by simp only [qcP,qdZ];omega) (by simp only [qcP,qdZ];omega)
theorem qIT{m:Mx}(h:qg8 m=0)(T:List G):inF (qds m) (qkf m T) T 0=true:=by
 unfold inF;refine decide_eq_true λi hi=>?_;have e:=qzH (m:=m) (T:=T) (d:=T) hi;show Bd 0 (qif m.length (ent m) (λk=>(qkf m T).getD k g0) (λk=>T.getD k g0) i);rw [e];unfold qhn;rw [qbz (h:=λ_=>g0) (λk hk=>by show qK _ (qdZ _ _)=g0;rw [qv1,qv0]),qnG];exact ⟨by simp [g0],by simp [g0]⟩
theorem qDa{m:Mx}(h:qh7 m=0){T d:List G}(hl:qhl T m.length=0)(hs:qw9 T d m.length):∃n,qno (qds m) (qkf m T) 0 20 d=(n,0)/\0<=n/\n<=1:=by
 have e:=qDc h (qgt hl).1 hs;rw [show (20:Nat)=19+1 from rfl,ql7];by_cases c:inF (qds m) (qkf m T) d 0=true
 ·rw [if_pos c];exact ⟨_,rfl,by decide,by decide⟩
 ·rw [if_neg c,e,if_pos (show qhl T (qds m).2.1.length=0 from hl),show (19:Nat)=18+1 from rfl,ql7,if_pos (qIT (qjM h).1 T)];exact ⟨_,rfl,by decide,by decide⟩
theorem qDb{m:Mx}(h:qh7 m=0){T d:List G}(hT:qhl T m.length=0)(hd:qhl d m.length=0)(hy:qhl (qkf m T) m.length=0)(hs:qw9 T d m.length) :
  qfK (qds m) (qkf m T) d 1=some ([T],0):=by
 have hr:=qzI h;have hE:qzU (qds m) (qkf m T) d=0:=by
  unfold qzU;rw [if_pos hr];show (if qhl (qkf m T) m.length=0 then qhl d m.length else qhl (qkf m T) m.length)=0;rw [if_pos hy,hd]
 obtain ⟨m1,m3,mR,mB⟩:=qpa (qjM h).1;have hm:m.length<=1000000000:=by omega
 have hmr:∀y∈m,y.length<=1000000000:=λy hy=>by have:=mR.2 y hy;omega
 have dl:=(qgt hd).1;have yl:=(qgt hy).1;obtain ⟨y,e1,e2⟩:=qnl (r:=qds m) (t:=qkf m T) (d:=d) hm hmr hm hmr (show (1:Int)<=9223372036854775807 by decide) (by omega) (by omega);have hye:=e2 hE;subst hye;unfold qfK;rw [e1,qa,qko,qa,qeg,qa,qqC,qa];simp only [hE,if_true];have e9:(if decide ((0:Int)<=1/\(1:Int)<=20)=true then (0:Int)else 2)=0:=by decide
 rw [e9,decide_eq_true (show (0:Int)=0 from rfl),Bool.not_true,cond_false];have hrl:=qty (r:=qds m) (t:=qkf m T) (d:=d) hr hy hd;rw [qDc h (qgt hT).1 hs,if_pos (show qhl T (qds m).2.1.length=0 from hT)]at hrl;refine Ok.eq (qrB.2 ((qaZ 1 (λi (s:List G×List (List G)×Int)=>(i=0->s=(d,[],0))/\(0<i->s=(T,[T],1)))
  (λq:List (List G)⊕(List (List G)×Int)=>q=.inl [T]) ⟨λ_=>rfl,λhh=>absurd hh (by omega)⟩ ?_).mono ?_))
 ·rintro i s hi ⟨h0,h1⟩;rcases Nat.eq_zero_or_pos i with c|c
  ·obtain rfl:=h0 c;simp only [show decide ((0:Int)<1)=true from rfl,cond_true];have hrl':qbP ((qds m).1,(qds m).2.1,(qds m).2.2.1,(qds m).2.2.2.1,(qds m).2.2.2.2.1,qhU (qds m).2.1,mx (qds m).2.1.length (qds m).2.1.length (qjm (qds m).2.1),()) (qkf m T) d=some (T,0):=hrl;rw [hrl',qa];simp only [decide_true,Bool.not_true,cond_false];rw [qcG (by simp),qa,wid (by omega) (by omega),qaw];exact ⟨by omega,λhh=>absurd hh (by omega),λ_=>rfl⟩
  ·obtain rfl:=h1 c;simp only [show decide ((1:Int)<1)=false from rfl,cond_false];rw [qag]
 ·rintro q hq;subst hq;exact qbT.2 rfl
end Go.Proofs.YteiciemjanhdcaaGreatDoor.Mat
end
section
namespace Go.Dec
open Go Go.Lib
def isD(c:UInt8):Prop:=48<=c.toNat/\c.toNat<=57
instance:DecidablePred isD:=λc=>inferInstanceAs (Decidable (_/\_))
def qoN(n:Nat)(c:UInt8):Nat:=10*n+(c.toNat-48)
def val(l:List UInt8):Nat:=l.foldl qoN 0
theorem qvj(l:List UInt8)(c:UInt8):val (l++[c])=10*val l+(c.toNat-48):=by simp [val,qoN]
theorem qj8{d:Nat}(h:d<10):(UInt8.ofNat (48+d)).toNat=48+d:=by
 rw [UInt8.toNat_ofNat'];omega
theorem qhX{u:Nat}(h:u<10):decDigits u=[UInt8.ofNat (48+u)]:=by rw [decDigits,dif_pos h]
theorem qxA{u:Nat}(h:¬ u<10):decDigits u=decDigits (u / 10)++[UInt8.ofNat (48+u % 10)]:=by rw [decDigits,dif_neg h]
theorem qmw:∀u:Nat,(∀c∈decDigits u,isD c)/\decDigits u≠[]/\val (decDigits u)=u/\(0<u->(decDigits u).head?≠some 48):=by
 intro u;induction u using Nat.strongRecOn with
 |_ u ih =>
  by_cases h:u<10
  ·rw [qhX h];refine ⟨?_,by simp,?_,?_⟩
   ·intro c hc;rw [List.mem_singleton]at hc;subst hc;unfold isD;rw [qj8 h];omega
   ·simp only [val,List.foldl,qoN];rw [qj8 h];omega
   ·intro h0 e;simp only [List.head?_cons,qb]at e;have e2:=congrArg UInt8.toNat e;rw [qj8 h]at e2;have:(48:UInt8).toNat=48:=rfl;omega
  ·obtain ⟨h1,h2,h3,h4⟩:=ih (u / 10) (by omega);have hm:u % 10<10:=Nat.mod_lt _ (by omega);rw [qxA h];refine ⟨λc hc=>?_,by simp,?_,λ_=>?_⟩
   ·rcases qk.1 hc with hc|hc
    ·exact h1 c hc
    ·rw [List.mem_singleton]at hc;subst hc;unfold isD;rw [qj8 hm];omega
   ·rw [qvj,h3,qj8 hm];omega
   ·cases hd:decDigits (u / 10)with
    |nil=>exact absurd hd h2
    |cons a t =>
     rw [hd]at h4;simpa using h4 (by omega)
theorem qqs:∀(k u:Nat),u<10 ^ k->1<=k->(decDigits u).length<=k
 |0,u,h,h1=>by omega
 |k+1,u,h,_=>by
  by_cases h9:u<10
  ·rw [qhX h9];simp
  ·rw [qxA h9,List.length_append,List.length_singleton];have hk:1<=k:=by
    rcases Nat.eq_zero_or_pos k with rfl|h0
    ·simp at h;omega
    ·exact h0
   have:=qqs k (u / 10) (by rw [Nat.pow_succ]at h;omega) hk;omega
theorem qxB:∀(n:Nat) (ds:List UInt8),ds.length<=n->ds≠[]->(∀c∈ds,isD c)->(ds.head?≠some 48\/ds.length=1)->decDigits (val ds)=ds
 |0,ds,hl,h0,_,_=>absurd (List.eq_nil_of_length_eq_zero (by omega)) h0
 |n+1,ds,hl,h0,hd,hh=>by
  obtain ⟨es,c,rfl⟩:∃es c,ds=es++[c]:=⟨ds.dropLast,ds.getLast h0,(List.dropLast_concat_getLast h0).symm⟩
  have hc:=hd c (by simp);unfold isD at hc;have hcc:UInt8.ofNat (48+(c.toNat-48))=c:=by
   rw [show 48+(c.toNat-48)=c.toNat by omega];simp
  rw [qvj];by_cases he:es=[]
  ·subst he;simp only [val,List.foldl,Nat.mul_zero,Nat.zero_add,List.nil_append];rw [qhX (by omega),hcc]
  ·have hlen:1<=es.length:=List.length_pos_iff.2 he;rw [List.length_append,List.length_singleton]at hl hh;have hh2:es.head?≠some 48:=by
    rcases hh with hh|hh
    ·cases es with
     |nil=>exact absurd rfl he
     |cons a t=>simpa using hh
    ·omega
   have ih:=qxB n es (by omega) he (λx hx=>hd x (by simp [hx])) (.inl hh2);have hv:0<val es:=by
    rcases Nat.eq_zero_or_pos (val es)with h|h
    ·rw [h]at ih;rw [<- ih,qhX (by omega)]at hh2;exact absurd rfl hh2
    ·exact h
   rw [qxA (by omega),show (10*val es+(c.toNat-48)) / 10=val es by omega,show (10*val es+(c.toNat-48)) % 10=c.toNat-48 by omega,ih,hcc]
theorem qGO:∀(n:Nat) (ds:List UInt8),ds.length<=n->(∀c∈ds,isD c)->val ds<10 ^ n
 |0,ds,hl,_=>by
  have:ds=[]:=List.eq_nil_of_length_eq_zero (by omega);subst this;simp [val]
 |n+1,ds,hl,hd=>by
  by_cases h0:ds=[]
  ·subst h0;simp only [val,List.foldl];exact Nat.pow_pos (by omega)
  ·obtain ⟨es,c,rfl⟩:∃es c,ds=es++[c]:=⟨ds.dropLast,ds.getLast h0,(List.dropLast_concat_getLast h0).symm⟩
   have hc:=hd c (by simp);unfold isD at hc;rw [List.length_append,List.length_singleton]at hl;have:=qGO n es (by omega) (λx hx=>hd x (by simp [hx]));rw [qvj,Nat.pow_succ];omega
theorem qCd:∀(l:List UInt8) (a:Nat),a<=l.foldl qoN a
 |[],a=>Nat.le_refl _
 |c::l,a=>Nat.le_trans (by unfold qoN;omega) (qCd l (qoN a c))
theorem qpf:∀(l:List UInt8) (a:Nat),(∀c∈l,isD c)->l.foldl qoN a<10 ^ 18->parseUint10 a l=.ok (l.foldl qoN a)
 |[],a,_,_=>rfl
 |c::l,a,hd,h=>by
  have hc:=hd c (by simp);have h1:=qCd l (qoN a c);simp only [List.foldl_cons]at h ⊢;have h2:qoN a c<10 ^ 18:=by omega
  unfold isD at hc;unfold parseUint10;rw [if_pos hc];have e:a*10+(c.toNat-48)=qoN a c:=by unfold qoN;omega
  have h3:a*10<=qoN a c:=by omega
  rw [if_neg (by omega),e,if_neg (by omega)];exact qpf l _ (λx hx=>hd x (by simp [hx])) h
def num(d:Nat)(w:List UInt8):Option Int:=match atoiAll w with
 |.ok v=>if itoa v=w/\(trimPrefix w [45]).length<=d then some v else none
 |_=>none
theorem qoV(r:List UInt8):trimPrefix (45::r) [45]=r:=by
 unfold trimPrefix hasPrefix;simp
theorem qtL{w:List UInt8}(h:w.head?≠some 45):trimPrefix w [45]=w:=by
 unfold trimPrefix hasPrefix;cases w with
 |nil=>simp
 |cons c l =>
  have:¬ (45:UInt8)=c:=λe=>h (by simp [e]);simp [this]
def qgc(w:List UInt8):List UInt8:=if w.head?=some 45 then w.drop 1 else w
def qIn(d:Nat)(w:List UInt8):Prop:=qgc w=[]\/d<(qgc w).length\/((qgc w).head?=some 48/\1<w.length)\/¬ ∀c∈qgc w,isD c
instance (d:Nat) (w:List UInt8):Decidable (qIn d w):=inferInstanceAs (Decidable (_\/_))
def qIQ(d:Nat)(w:List UInt8):Option Int:=if qIn d w then none else some (if w.head?=some 45 then -((val (qgc w):Nat):Int)else ((val (qgc w):Nat):Int))
theorem qC5{d:Nat}{v:Int}(h:(trimPrefix (itoa v) [45]).length<=d):qIQ d (itoa v)=some v:=by
 by_cases hv:v<0
 ·have e:itoa v=45::decDigits v.natAbs:=by unfold itoa;rw [if_pos hv]
  obtain ⟨h1,h2,h3,h4⟩:=qmw v.natAbs;have hr:qgc (45::decDigits v.natAbs)=decDigits v.natAbs:=by simp [qgc]
  rw [e,qoV]at h;rw [e];unfold qIQ;rw [if_neg,hr,h3]
  ·simp only [List.head?_cons,if_true];congr 1;omega
  ·unfold qIn;rw [hr];rintro (h5|h5|⟨h5,_⟩|h5)
   ·exact h2 h5
   ·omega
   ·exact h4 (by omega) h5
   ·exact h5 h1
 ·have e:itoa v=decDigits v.toNat:=by unfold itoa;rw [if_neg hv]
  obtain ⟨h1,h2,h3,h4⟩:=qmw v.toNat;have hh:(decDigits v.toNat).head?≠some 45:=by
   intro hc;cases hd:decDigits v.toNat with
   |nil=>rw [hd]at hc;cases hc
   |cons a t =>
    rw [hd]at hc;simp only [List.head?_cons,qb]at hc;have:=h1 a (by rw [hd];simp);unfold isD at this;rw [hc]at this;exact absurd this.1 (by decide)
  have hr:qgc (decDigits v.toNat)=decDigits v.toNat:=by unfold qgc;rw [if_neg hh]
  rw [e,qtL hh]at h;rw [e];unfold qIQ;rw [if_neg,hr,h3,if_neg hh]
  ·congr 1;omega
  ·unfold qIn;rw [hr];rintro (h5|h5|⟨h5,h6⟩|h5)
   ·exact h2 h5
   ·omega
   ·rcases Nat.eq_zero_or_pos v.toNat with h0|h0
    ·rw [h0,qhX (by omega)]at h6;simp at h6
    ·exact h4 h0 h5
   ·exact h5 h1
theorem qFg{d:Nat}(hd:d<=18){w:List UInt8}{v:Int}(h:qIQ d w=some v):num d w=some v:=by
 unfold qIQ at h;split at h
 ·cases h
 ·rename_i hb;simp only [qb]at h;unfold qIn at hb;simp only [not_or,not_and,Classical.not_not]at hb;obtain ⟨b1,b2,b3,b4⟩:=hb;have hlt:val (qgc w)<10 ^ 18:=qGO 18 _ (by omega) b4;have hp:parseMag (qgc w)=.ok (val (qgc w)):=by
   unfold parseMag;rw [if_neg b1];exact qpf _ 0 b4 hlt
  by_cases hm:w.head?=some 45
  ·rw [if_pos hm]at h;cases w with
   |nil=>cases hm
   |cons c r =>
    simp only [List.head?_cons,qb]at hm;subst hm;have hr:qgc (45::r)=r:=by simp [qgc]
    rw [hr]at b1 b2 b3 b4 hlt hp h;have h48:r.head?≠some 48:=λe=>by
     have:=b3 e;have h0:0<r.length:=List.length_pos_iff.2 b1;simp only [List.length_cons]at this;omega
    have hdv:=qxB r.length r (Nat.le_refl _) b1 b4 (.inl h48);have hpos:0<val r:=by
     rcases Nat.eq_zero_or_pos (val r)with h0|h0
     ·rw [h0,qhX (by omega)]at hdv;rw [<- hdv]at h48;exact absurd rfl h48
     ·exact h0
    have ha:atoiAll (45::r)=.ok v:=by
     unfold atoiAll;have e45:(45:UInt8).toNat=45:=rfl;simp only [e45,or_true,if_true,hp,not_true,false_and,if_false,true_and];rw [if_neg (by omega),h]
    have hi:itoa v=45::r:=by
     rw [<- h];unfold itoa;rw [if_pos (by omega),show (-((val r:Nat):Int)).natAbs=val r by omega,hdv]
    unfold num;rw [ha];simp only
    rw [if_pos ⟨hi,by rw [qoV];omega⟩]
  ·rw [if_neg hm]at h;have hr:qgc w=w:=by unfold qgc;rw [if_neg hm]
   rw [hr]at b1 b2 b3 b4 hlt hp h;have hdv:=qxB w.length w (Nat.le_refl _) b1 b4 (by
    by_cases h48:w.head?=some 48
    ·right
     have:=b3 h48;have h0:0<w.length:=List.length_pos_iff.2 b1;omega
    ·exact .inl h48)
   have ha:atoiAll w=.ok v:=by
    cases w with
    |nil=>exact absurd rfl b1
    |cons c r =>
     have hc:=b4 c (by simp);unfold isD at hc;unfold atoiAll;have e1:¬ (c.toNat=43\/c.toNat=45):=by omega
     have e2:¬ c.toNat=45:=by omega
     simp only [if_neg e1];rw [hp];simp only [e2,not_false_eq_true,true_and,false_and,if_false];rw [if_neg (by omega),h]
   have hi:itoa v=w:=by
    rw [<- h];unfold itoa;rw [if_neg (by omega),Int.toNat_natCast,hdv]
   unfold num;rw [ha];simp only
   rw [if_pos ⟨hi,by rw [qtL hm];omega⟩]
theorem qFh{d:Nat}{w:List UInt8}{v:Int}(h:num d w=some v):atoiAll w=.ok v/\itoa v=w/\(trimPrefix w [45]).length<=d:=by
 unfold num at h;split at h
 ·rename_i u hu;split at h
  ·rename_i hc;cases h;exact ⟨hu,hc.1,hc.2⟩
  ·cases h
 ·cases h
theorem qzD{d:Nat}(hd:d<=18)(h1:1<=d){v:Int}(h:v.natAbs<10 ^ d):num d (itoa v)=some v:=by
 refine qFg hd (qC5 ?_);by_cases hv:v<0
 ·have e:itoa v=45::decDigits v.natAbs:=by unfold itoa;rw [if_pos hv]
  rw [e,qoV];exact qqs d _ h h1
 ·have e:itoa v=decDigits v.toNat:=by unfold itoa;rw [if_neg hv]
  have hl:=qqs d v.toNat (by omega) h1;rw [e];unfold trimPrefix;split
  ·rw [List.length_drop];omega
  ·exact hl
theorem qAM(v:Int):∀c∈itoa v,c=45\/isD c:=by
 intro c hc;unfold itoa at hc;split at hc
 ·rcases qm.1 hc with h|h
  ·exact .inl h
  ·exact .inr ((qmw _).1 c h)
 ·exact .inr ((qmw _).1 c hc)
theorem qqS{v:Int}{c:UInt8}(h1:c≠45)(h2:¬ isD c):c∉itoa v:=λh=>(qAM v c h).elim h1 h2
theorem qp3{v:Int}(h : -9223372036854775808<=v/\v<=9223372036854775807):(itoa v).length<=21:=by
 unfold itoa;split
 ·have:=qqs 20 v.natAbs (by omega) (by omega);simp only [List.length_cons]<;>omega
 ·have:=qqs 20 v.toNat (by omega) (by omega);omega
def parts(c:UInt8):List UInt8->List (List UInt8)
 |[]=>[[]]
 |b::l=>if b=c then []::parts c l else match parts c l with
  |[]=>[[b]]
  |p::ps=>(b::p)::ps
theorem quN(c:UInt8):∀l,parts c l≠[]
 |[]=>by simp [parts]
 |b::l=>by
  unfold parts;split
  ·simp
  ·split<;>simp
theorem qeF{c:UInt8}:∀{l:List UInt8},c∉l->parts c l=[l]
 |[],_=>rfl
 |b::l,h=>by
  simp only [qm,not_or]at h;unfold parts;rw [if_neg (λe=>h.1 e.symm),qeF h.2]
theorem qcA{c:UInt8}:∀{p r:List UInt8},c∉p->parts c (p++c::r)=p::parts c r
 |[],r,_=>by simp [parts]
 |b::p,r,h=>by
  simp only [qm,not_or]at h;rw [List.cons_append,parts,if_neg (λe=>h.1 e.symm),qcA h.2]
theorem qrE(c:UInt8):∀l:List UInt8,(parts c l).length<=l.length+1
 |[]=>by simp [parts]
 |b::l=>by
  have:=qrE c l;unfold parts;split
  ·simp<;>omega
  ·split
   ·simp
   ·rename_i p ps h;rw [h]at this;simp at this ⊢;omega
theorem qg2(c:UInt8):∀s:List UInt8,(index s [c] = -1/\c∉s)\/∃p r,s=p++c::r/\c∉p/\index s [c]=(p.length:Int)
 |[]=>.inl ⟨rfl,by simp⟩
 |b::l=>by
  have e:index (b::l) [c]=if [c].isPrefixOf (b::l)then 0 else if index l [c] == -1 then -1 else index l [c]+1:=rfl;by_cases h:c=b
  ·subst h;exact .inr ⟨[],l,rfl,List.not_mem_nil,by rw [e];simp⟩
  ·have hp:([c].isPrefixOf (b::l))=false:=by simp [List.isPrefixOf,h]
   rw [e,hp];simp only [qf,if_false];rcases qg2 c l with ⟨h1,h2⟩|⟨p,r,rfl,h2,h3⟩
   ·exact .inl ⟨by rw [h1];rfl,by simp only [qm,not_or];exact ⟨h,h2⟩⟩
   ·refine .inr ⟨b::p,r,rfl,by simp only [qm,not_or];exact ⟨h,h2⟩,?_⟩;rw [h3];have:(((p.length:Int) == -1))=false:=by rw [beq_eq_false_iff_ne];omega
    simp [this]
theorem qof(x y:List UInt8)(r:List (List UInt8))(sep:List UInt8):join (x::y::r) sep=x++sep++join (y::r) sep:=by
 rw [join_cons,join_cons];simp [joinTail]
theorem qox{c:UInt8}:∀{ws:List (List UInt8)},ws≠[]->(∀w∈ws,c∉w)->parts c (join ws [c])=ws
 |[],h,_=>absurd rfl h
 |[w],_,h=>by rw [join_one];exact qeF (h w (by simp))
 |w::v::r,_,h=>by
  rw [qof];have e:w++[c]++join (v::r) [c]=w++c::join (v::r) [c]:=by simp
  rw [e,qcA (h w (by simp)),qox (by simp) (λx hx=>h x (by simp [hx]))]
theorem qup(sep:List UInt8){B:Nat}:∀ws:List (List UInt8),(∀w∈ws,w.length<=B)->(join ws sep).length<=ws.length*(B+sep.length)
 |[],_=>by simp [join_nil]
 |[w],h=>by
  rw [join_one];have:=h w (by simp);simp only [List.length_singleton]<;>omega
 |w::v::r,h=>by
  rw [qof];have h1:=h w (by simp);have h2:=qup sep (v::r) (λx hx=>h x (by simp [hx]));simp only [List.length_append,List.length_cons]at h2 ⊢;rw [show (r.length+1+1)*(B+sep.length)=(r.length+1)*(B+sep.length)+(B+sep.length) by rw [Nat.add_mul (r.length+1) 1,Nat.one_mul]];omega
def qvm{α β:Type}(f:α->Option β):List α->Option (List β)
 |[]=>some []
 |a::l=>(f a).bind λb=>(qvm f l).map (b::·)
theorem qyc{α β:Type}{f:α->Option β}{g:β->α}:∀{l:List β},(∀b∈l,f (g b)=some b)->qvm f (l.map g)=some l
 |[],_=>rfl
 |b::l,h=>by
  simp only [qi,qvm];rw [h b (by simp),qyc (λx hx=>h x (by simp [hx]))];rfl
theorem qux{α β:Type}{f:α->Option β}:∀{l:List α} {r:List β},qvm f l=some r->r.length=l.length
 |[],r,h=>by cases h;rfl
 |a::l,r,h=>by
  simp only [qvm]at h;obtain ⟨b,_,h⟩:=qd.1 h;obtain ⟨r',hr,rfl⟩:=qc.1 h;simp [qux hr]
end Go.Dec
end
section
namespace Go.Proofs.YteiciemjanhdcaaGreatDoor
open Go Go.Ab Go.Tx Go.Dec
def qJs(n:Int):Prop:=-9223372036854775808<=n/\n<=9223372036854775807
theorem wid{n:Int}(h1 : -9223372036854775808<=n)(h2:n<=9223372036854775807):w64 n=n:=qmm h1 h2
theorem qxn{n:Int}(h:qJs n):strconv_Itoa n=some (Lib.itoa n):=by
 exact if_pos h
theorem qFV{l:List UInt8}{a:Nat}(h:a<=l.length):slc l (a:Int) (l.length:Int)=some (l.drop a):=by
 rw [qtD (by omega)];simp
theorem qI5{l:List UInt8}{a:Nat}(h:a<=l.length):slc l 0 (a:Int)=some (l.take a):=by
 rw [qtD (by omega)];simp
end Go.Proofs.YteiciemjanhdcaaGreatDoor
end
section
namespace Go.Proofs.YteiciemjanhdcaaGreatDoor
open Go Go.Ab Go.Tx Go.Dec Go.Proofs.YteiciemjanhdcaaGreatDoor.Mat
theorem qi4(c:UInt8):∀{s w:List UInt8},w∈Dec.parts c s->w.length<=s.length
 |[],w,h=>by simp [Dec.parts]at h;simp [h]
 |b::l,w,h=>by
  unfold Dec.parts at h;split at h
  ·rcases qm.1 h with rfl|h
   ·simp
   ·have:=qi4 c h;simp<;>omega
  ·split at h
   ·rename_i hp;exact absurd hp (quN c l)
   ·rename_i p ps hp;rcases qm.1 h with rfl|h
    ·have:=qi4 c (s:=l) (w:=p) (by rw [hp];simp);simp<;>omega
    ·have:=qi4 c (s:=l) (w:=w) (by rw [hp];simp [h]);simp<;>omega
theorem qtG{β γ:Type}(c:UInt8)(f:List UInt8->Option β)(bad:γ){s:List UInt8}{B:List β×List UInt8->Option ((List β×List UInt8)⊕((List β×List UInt8)⊕γ))}
  (h1:∀out r,out.length+r.length<=s.length->c∉r->B (out,r)=some (.inr (.inl (out,r))))
  (h2:∀out p q,out.length+p.length+1+q.length<=s.length->c∉p->B (out,p++c::q)=some (match f p with|none=>.inr (.inr bad)|some b=>.inl (out++[b],q))) :
  Ok (qF B ([],s)) λx=>match x with
   |.inl p=>c∉p.2/\p.1.length+p.2.length<=s.length/\qvm f (Dec.parts c s)=(f p.2).map λb=>p.1++[b]
   |.inr q=>q=bad/\qvm f (Dec.parts c s)=none:=by
 refine qHp (λst=>st.2.length) (λ(st:List β×List UInt8)=>qvm f (Dec.parts c s)=(qvm f (Dec.parts c st.2)).map (st.1++·)/\st.1.length+st.2.length<=s.length) _ ⟨by simp,by simp⟩ ?_;rintro ⟨out,r⟩ ⟨e,hl⟩;simp only at e hl;rcases qg2 c r with ⟨_,h3⟩|⟨p,q,rfl,h3,_⟩
 ·rw [h1 out r hl h3,qag];refine ⟨h3,hl,?_⟩;rw [e,qeF h3];simp only [qvm];cases f r<;>rfl
 ·have hq:(p++c::q).length=p.length+1+q.length:=by simp<;>omega
  rw [hq]at hl;rw [h2 out p q (by omega) h3];rw [qcA h3]at e;simp only [qvm]at e;cases hf:f p with
  |none =>
   rw [hf]at e;rw [qag];exact ⟨rfl,e⟩
  |some b =>
   rw [hf]at e;rw [qaw];refine ⟨⟨?_,by simp;omega⟩,by simp only;rw [hq];omega⟩;simp only [e,qa];cases qvm f (Dec.parts c q)<;>simp
theorem qCQ{α β:Type}{f:α->Option β}:∀{l:List α} {r:List β} {b:β},qvm f l=some r->b∈r->∃a∈l,f a=some b
 |[],r,b,h,hb=>by cases h;cases hb
 |a::l,r,b,h,hb=>by
  simp only [qvm]at h;obtain ⟨b',h1,h⟩:=qd.1 h;obtain ⟨r',hr,rfl⟩:=qc.1 h;rcases qm.1 hb with rfl|hb
  ·exact ⟨a,by simp,h1⟩
  ·obtain ⟨a',h2,h3⟩:=qCQ hr hb;exact ⟨a',by simp [h2],h3⟩
def inG(z:G):Prop:=qJs z.1/\qJs z.2.1
def pt(d:Nat)(w:List UInt8):Option G:=match Dec.parts 44 w with
 |[p,q]=>(num d p).bind λa=>(num d q).map λb=>(a,b,())
 |_=>none
theorem qIR{c:UInt8}(h1:c≠45)(h2:¬ isD c){d:Nat}{w:List UInt8}(h:c∈w):num d w=none:=by
 cases hn:num d w with
 |none=>rfl
 |some v =>
  obtain ⟨_,e,_⟩:=qFh hn;rw [<- e]at h;exact absurd h (qqS h1 h2)
theorem quL(d:Nat){w:List UInt8}(hw:w.length<=100000):∃v,qdB w (d:Int)=some (v,(num d w).isSome)/\∀n,num d w=some n->v=n:=by
 unfold qdB strconv_Atoi;rw [if_pos (by omega)];unfold qGV num;cases ha:Lib.atoiAll w with
 |ok v =>
  have hb:=Lib.atoiAll_bounds ha;simp only [qa,cond_true];rw [qxn ⟨by omega,by omega⟩];simp only [qa];refine ⟨v,?_,?_⟩
  ·by_cases c:Lib.itoa v=w
   ·simp only [c,decide_true,cond_true,true_and];unfold strings_TrimPrefix;simp only [qa];by_cases e:(Lib.trimPrefix w [45]).length<=d
    ·have:((Lib.trimPrefix w [45]).length:Int)<=(d:Int):=by omega
     simp [e,this]
    ·have:¬ ((Lib.trimPrefix w [45]).length:Int)<=(d:Int):=by omega
     simp [e,this]
   ·simp [c]
  ·intro n hn;by_cases c:Lib.itoa v=w/\(Lib.trimPrefix w [45]).length<=d
   ·rw [if_pos c]at hn;cases hn;rfl
   ·rw [if_neg c]at hn;cases hn
 |range=>exact ⟨_,rfl,λn hn=>by cases hn⟩
 |_=>exact ⟨0,rfl,λn hn=>by cases hn⟩
theorem qDf(d:Nat){w:List UInt8}(hw:w.length<=100000):∃x5 x6 x7,strings_Cut w [44]=some x5/\qdB x5.1 (d:Int)=some x6/\qdB x5.2.1 (d:Int)=some x7 /\
  (bif !x5.2.2 then some true else bif !x6.2 then some true else some (!x7.2))=some (pt d w).isNone/\∀z,pt d w=some z->(x6.1,x7.1,())=z:=by
 unfold strings_Cut;rw [if_pos (by omega)];have hc44:(44:UInt8)≠45:=by decide
 have hd44:¬ isD 44:=by decide
 rcases qg2 44 w with ⟨h1,h2⟩|⟨p,q,rfl,h2,h3⟩
 ·have e:Lib.cut w [44]=(w,[],false):=by unfold Lib.cut;rw [h1,if_neg (by omega)]
  rw [e];obtain ⟨v,p1,_⟩:=quL d (w:=w) hw;obtain ⟨v',p2,_⟩:=quL d (w:=[]) (by simp);refine ⟨_,_,_,rfl,p1,p2,?_,?_⟩
  ·unfold pt;rw [qeF h2];rfl
  ·intro z hz;unfold pt at hz;rw [qeF h2]at hz;cases hz
 ·have e:Lib.cut (p++44::q) [44]=(p,q,true):=by
   unfold Lib.cut;rw [h3,if_pos (by omega)];have:(p++44::q).drop (p.length+1)=q:=by
    rw [show p++44::q=(p++[44])++q by simp,List.drop_left' (by simp)]
   simp [this]
  have hl:(p++44::q).length=p.length+1+q.length:=by simp<;>omega
  rw [hl]at hw;rw [e];obtain ⟨v,p1,p2⟩:=quL d (w:=p) (by omega);obtain ⟨v',q1,q2⟩:=quL d (w:=q) (by omega);refine ⟨_,_,_,rfl,p1,q1,?_,?_⟩
  ·simp only [Bool.not_true,cond_false];unfold pt;rw [qcA h2];rcases qg2 44 q with ⟨_,h4⟩|⟨p',q',rfl,h4,_⟩
   ·rw [qeF h4];simp only
    cases hp:num d p with
    |none=>rfl
    |some a =>
     simp only [Option.isSome_some,Bool.not_true,cond_false,qa];cases num d q<;>rfl
   ·rw [qcA h4];have hn:num d (p'++44::q')=none:=qIR hc44 hd44 (by simp);have h5:=quN 44 q';rw [hn];cases hq:Dec.parts 44 q' with
    |nil=>exact absurd hq h5
    |cons a l =>
     simp only [Option.isSome_none,Bool.not_false];cases num d p<;>rfl
  ·intro z hz;unfold pt at hz;rw [qcA h2]at hz;rcases qg2 44 q with ⟨_,h4⟩|⟨p',q',rfl,h4,_⟩
   ·rw [qeF h4]at hz;simp only at hz;obtain ⟨a,ha,hz⟩:=qd.1 hz;obtain ⟨b,hb,rfl⟩:=qc.1 hz;rw [p2 a ha,q2 b hb]
   ·rw [qcA h4]at hz;cases hq:Dec.parts 44 q' with
    |nil=>exact absurd hq (quN 44 q')
    |cons a l=>rw [hq]at hz;cases hz
def qJL(o:Option (List G)):List G×Bool:=match o with
 |some l=>(l,true)
 |none=>([],false)
def prs(d:Nat)(s:List UInt8):Option (List G):=qvm (pt d) (Dec.parts 32 s)
theorem qHB{d:Nat}{s:List UInt8}{l:List G}(h:prs d s=some l):l.length<=s.length+1:=by
 have:=qrE 32 s;rw [qux h];exact this
theorem qGA{α β:Type}{o:Option (α⊕β)}{k:α->Option β}{r:β}(h:Ok o λx=>match x with|.inl p=>k p=some r|.inr q=>q=r):o.bind (Sum.elim k some)=some r:=by
 obtain ⟨x,rfl,h⟩:=h;cases x with
 |inl p=>exact h
 |inr q=>exact congrArg some h
theorem qzZ{c:UInt8}{s p q:List UInt8}(hs:s.length<=100000)(h3:p.length+1+q.length<=s.length)(hi:c∉p):strings_Index (p++c::q) [c]=some (p.length:Int) /\
  slc (p++c::q) 0 (w64 ((p.length:Int)+0))=some p/\slc (p++c::q) (w64 ((p.length:Int)+1)) ((p++c::q).length:Int)=some q:=by
 have hl:(p++c::q).length=p.length+1+q.length:=by simp<;>omega
 refine ⟨?_,?_,?_⟩
 ·unfold strings_Index;rw [if_pos (by omega)];rcases qg2 c (p++c::q)with ⟨_,h⟩|⟨p',q',e,h1,h2⟩
  ·exact absurd (by simp) h
  ·have h4:=qcA (r:=q) hi;rw [e,qcA h1]at h4;rw [h2,(List.cons.inj h4).1]
 ·rw [wid (by omega) (by omega),show ((p.length:Int)+0)=((p.length:Nat):Int) by omega,qI5 (by rw [hl];omega)];simp
 ·rw [wid (by omega) (by omega),show ((p.length:Int)+1)=((p.length+1:Nat):Int) by omega,qFV (by rw [hl];omega)];rw [show p++c::q=(p++[c])++q by simp,List.drop_left' (by simp)]
theorem index_none{c:UInt8}{r:List UInt8}(hr:r.length<=100000)(h:c∉r):strings_Index r [c]=some (-1):=by
 unfold strings_Index;rw [if_pos (by omega)];rcases qg2 c r with ⟨h1,_⟩|⟨p,q,rfl,_,_⟩
 ·rw [h1]
 ·exact absurd (by simp) h
theorem qCK(d:Nat){s:List UInt8}(hs:s.length<=100000):qhY s (d:Int)=some (qJL (prs d s)):=by
 unfold qhY;refine qGA ((qtG 32 (pt d) (([],false):List G×Bool) ?_ ?_).mono ?_)
 ·intro out r hl hr;rw [index_none (by omega) hr];rfl
 ·intro out p q hl hp;obtain ⟨h1,h2,h3⟩:=qzZ hs (by omega) hp (c:=32) (q:=q);have h0:decide (((p.length:Nat):Int)<0)=false:=by simp
  simp only
  rw [h1];simp only [qa,h0,cond_false];rw [h2];simp only [qa];obtain ⟨x5,x6,x7,e1,e2,e3,e4,e5⟩:=qDf d (w:=p) (by omega);rw [e1];simp only [qa];rw [e2];simp only [qa];rw [e3];simp only [qa];rw [e4];simp only [qa];cases hn:pt d p with
  |none=>simp only [Option.isNone_none,cond_true]
  |some z =>
   simp only [Option.isNone_some,cond_false];rw [e5 z hn,qcG (by omega)];simp only [qa];rw [h3];rfl
 ·rintro x hx;cases x with
  |inr q=>obtain ⟨rfl,h⟩:=hx;unfold prs;simp only [h]<;>rfl
  |inl p =>
   obtain ⟨h1,h2,h3⟩:=hx;simp only
   obtain ⟨x5,x6,x7,e1,e2,e3,e4,e5⟩:=qDf d (w:=p.2) (by omega);rw [e1];simp only [qa];rw [e2];simp only [qa];rw [e3];simp only [qa];rw [e4];simp only [qa];unfold prs;rw [h3];cases hn:pt d p.2 with
   |none=>rfl
   |some z =>
    simp only [Option.isNone_some,cond_false];rw [e5 z hn,qcG (by omega)];rfl
def qCl(z:G):List UInt8:=Lib.itoa z.1++[44]++Lib.itoa z.2.1
def qB9(l:List G):List UInt8:=Lib.join (l.map qCl) [32]
def qGz(m:Mx):List UInt8:=Lib.join (m.map qB9) [124]
theorem qEM{z:G}(h:inG z):(qCl z).length<=43:=by
 have h1:=qp3 h.1;have h2:=qp3 h.2;unfold qCl;simp only [List.length_append,List.length_singleton]<;>omega
theorem qy9{l:List G}(h:∀z∈l,inG z):(qB9 l).length<=l.length*44:=by
 have:=qup [32] (B:=43) (l.map qCl) (λw hw=>by
  obtain ⟨n,hn,rfl⟩:=List.mem_map.1 hw;exact qEM (h n hn))
 simpa [qB9]using this
theorem qzy{m:Mx}{n:Nat}(h:∀r∈m,∀z∈r,inG z)(hn:∀r∈m,r.length<=n):(qGz m).length<=m.length*(n*44+1):=by
 have:=qup [124] (B:=n*44) (m.map qB9) (λw hw=>by
  obtain ⟨r,hr,rfl⟩:=List.mem_map.1 hw;have h1:=qy9 (h r hr);have h2:=hn r hr;have:r.length*44<=n*44:=Nat.mul_le_mul_right _ h2;omega)
 simpa [qGz]using this
theorem qsn{l:List G}(hl:l.length<=1000)(h:∀z∈l,inG z):qdy l=some (qB9 l):=by
 unfold qdy;rw [qxQ l qCl ?_ ?_]
 ·simp only [qa];have:=qy9 h;unfold strings_Join;unfold qB9 at this;rw [if_pos ⟨by rw [List.length_map];omega,by omega⟩];rfl
 ·intro i z out hz ho;have hlt:=qgr hz;have h0:decide ((i:Int)<(l.length:Int))=true:=by simp<;>omega
  have hin:=h z (List.mem_of_getElem? hz);simp only [h0,cond_true,qaO hz,qa];have h1:=qp3 hin.1;have h2:=qp3 hin.2;rw [qxn hin.1];simp only [qa];rw [qcG (by omega)];simp only [qa];rw [qxn hin.2];simp only [qa];rw [qBO (by simp;omega)];simp only [qa];rw [qcG (by omega)];simp only [qa];rw [wid (by omega) (by omega)];rfl
 ·intro out ho;have h0:decide ((l.length:Int)<(l.length:Int))=false:=by simp
  simp only [h0,cond_false]
theorem qql{m:Mx}(hm:m.length<=1000)(hn:∀r∈m,r.length<=1000)(h:∀r∈m,∀z∈r,inG z):qc6 m=some (qGz m):=by
 unfold qc6;rw [qxQ m qB9 ?_ ?_]
 ·simp only [qa];have:=qzy h hn;have h2:m.length*(1000*44+1)<=1000*(1000*44+1):=Nat.mul_le_mul_right _ hm;unfold strings_Join;unfold qGz at this;rw [if_pos ⟨by rw [List.length_map];omega,by omega⟩];rfl
 ·intro i r out hr ho;have hlt:=qgr hr;have h0:decide ((i:Int)<(m.length:Int))=true:=by simp<;>omega
  have hmem:=List.mem_of_getElem? hr;simp only [h0,cond_true,qaO hr,qa];rw [qsn (hn r hmem) (h r hmem)];simp only [qa];rw [qcG (by omega)];simp only [qa];rw [wid (by omega) (by omega)]
 ·intro out ho;have h0:decide ((m.length:Int)<(m.length:Int))=false:=by simp
  simp only [h0,cond_false]
def qHq(s:List UInt8):Option Mx:=qvm (prs 2) (Dec.parts 124 s)
theorem qFb{s:List UInt8}{m:Mx}(h:qHq s=some m):m.length<=s.length+1/\∀r∈m,r.length<=s.length+1:=by
 refine ⟨?_,λr hr=>?_⟩
 ·have:=qrE 124 s;rw [qux h];exact this
 ·obtain ⟨w,hw,e⟩:=qCQ h hr;have h1:=qHB e;have h2:=qi4 124 hw;omega
def pmR(s:List UInt8):Mx×Int:=match qHq s with
 |none=>([],7)
 |some m=>if qg8 m=0 then (m,0)else ([],qg8 m)
theorem qso{s:List UInt8}(hs:s.length<=60000):qdz s=some (pmR s):=by
 unfold qdz;have h0:decide ((s.length:Int) > 60000)=false:=by simp<;>omega
 simp only [h0,cond_false];refine qGA ((qtG 124 (prs 2) (([],7):Mx×Int) ?_ ?_).mono ?_)
 ·intro out r hl hr;simp only
  rw [index_none (by omega) hr];rfl
 ·intro out p q hl hp;obtain ⟨h1,h2,h3⟩:=qzZ (by omega) (by omega) hp (c:=124) (q:=q) (s:=s);have h0:decide (((p.length:Nat):Int)<0)=false:=by simp
  simp only
  rw [h1];simp only [qa,h0,cond_false];rw [h2];simp only [qa];have:=qCK 2 (s:=p) (by omega);rw [show ((2:Nat):Int)=2 from rfl]at this;rw [this];cases hn:prs 2 p with
  |none=>rfl
  |some z =>
   simp only [qJL,qa,Bool.not_true,cond_false];rw [qcG (by omega)];simp only [qa];rw [h3];rfl
 ·rintro x hx;cases x with
  |inr q=>obtain ⟨rfl,h⟩:=hx;simp only;unfold pmR qHq;rw [h]
  |inl p =>
   obtain ⟨h1,h2,h3⟩:=hx;simp only
   have:=qCK 2 (s:=p.2) (by omega);rw [show ((2:Nat):Int)=2 from rfl]at this;rw [this];unfold pmR;have hm:qHq s=(prs 2 p.2).map λb=>p.1++[b]:=h3;rw [hm];cases hn:prs 2 p.2 with
   |none=>rfl
   |some z =>
    rw [hn]at hm;have hm':qHq s=some (p.1++[z]):=hm;obtain ⟨b1,b2⟩:=qFb hm';simp only [qJL,qa,Bool.not_true,cond_false,qj];rw [qcG (by omega)];simp only [qa];rw [qeD (by omega) (λr hr=>by have:=b2 r hr;omega)];simp only [qa];by_cases c:qg8 (p.1++[z])=0
    ·simp [c]
    ·simp [c]
theorem qCm{c:UInt8}(h1:c≠45)(h2:¬ isD c)(h3:c≠44)(z:G):c∉qCl z:=by
 unfold qCl;simp only [qk,List.mem_singleton,not_or];exact ⟨⟨qqS h1 h2,h3⟩,qqS h1 h2⟩
theorem qHD(d:Nat)(z:G):pt d (qCl z)=(num d (Lib.itoa z.1)).bind λa=>(num d (Lib.itoa z.2.1)).map λb=>(a,b,()):=by
 have e:qCl z=Lib.itoa z.1++44::Lib.itoa z.2.1:=by unfold qCl;simp
 unfold pt;rw [e,qcA (qqS (by decide) (by decide)),qeF (qqS (by decide) (by decide))]
theorem qFz(d:Nat){l:List G}(h0:l≠[]):prs d (qB9 l)=qvm (λz=>pt d (qCl z)) l:=by
 unfold prs qB9;rw [qox (by simpa using h0)]
 ·induction l with
  |nil=>rfl
  |cons a l ih =>
   simp only [qi,qvm];cases l with
   |nil=>rfl
   |cons b l'=>rw [ih (by simp)]
 ·intro w hw;obtain ⟨z,hz,rfl⟩:=List.mem_map.1 hw;exact qCm (by decide) (by decide) (by decide) z
theorem qzv{c:UInt8}(sep:List UInt8):∀{l:List (List UInt8)},c∈Lib.join l sep->c∈sep\/∃w∈l,c∈w
 |[],h=>by rw [Lib.join_nil]at h;cases h
 |[w],h=>by rw [Lib.join_one]at h;exact .inr ⟨w,by simp,h⟩
 |w::v::r,h=>by
  rw [qof]at h;rcases qk.1 h with h|h
  ·rcases qk.1 h with h|h
   ·exact .inr ⟨w,by simp,h⟩
   ·exact .inl h
  ·rcases qzv sep h with h|⟨x,h1,h2⟩
   ·exact .inl h
   ·exact .inr ⟨x,by simp [qm.1 h1],h2⟩
theorem qG8(l:List G):(124:UInt8)∉qB9 l:=by
 intro h;rcases qzv [32] h with h|⟨w,h1,h2⟩
 ·simp at h
 ·obtain ⟨z,hz,rfl⟩:=List.mem_map.1 h1;exact qCm (by decide) (by decide) (by decide) z h2
theorem qHC{l:List G}(h0:l≠[])(h:∀z∈l,Bd 20 z):prs 2 (qB9 l)=some l:=by
 rw [qFz 2 h0];have e:l.map (λz=>z)=l:=by simp
 conv=>lhs;rw [<- e]
 refine qyc (g:=λz=>z) λz hz=>?_;rw [qHD];have hz':=h z hz;unfold Bd at hz';rw [qzD (by omega) (by omega) (by omega),qzD (by omega) (by omega) (by omega)];rfl
theorem qFc{m:Mx}(h:qg8 m=0):qHq (qGz m)=some m:=by
 obtain ⟨h1,h2,⟨h3,h4⟩,h5⟩:=qpa h;have h0:m≠[]:=by intro e;subst e;simp at h1
 unfold qHq qGz;rw [qox (by simpa using h0)]
 ·refine qyc λr hr=>?_;have hl:=h4 r hr;exact qHC (by intro e;subst e;simp at hl;omega) (h5 r hr)
 ·intro w hw;obtain ⟨r,hr,rfl⟩:=List.mem_map.1 hw;exact qG8 r
theorem qHz{m:Mx}(h:qg8 m=0):pmR (qGz m)=(m,0):=by
 unfold pmR;rw [qFc h];simp only
 rw [if_pos h]
end Go.Proofs.YteiciemjanhdcaaGreatDoor
end
section
namespace Go.Proofs.YteiciemjanhdcaaGreatDoor.Mat
open Go Go.Ab Go.Tx Go.Dec Go.Proofs.YteiciemjanhdcaaGreatDoor
theorem qmF{α:Type}(l:List α)(d:α){i:Nat}(h:i<l.length):idx l (i:Int)=some (l.getD i d):=by
 rw [qaO (show l[i]?=some l[i] by simp [h])];simp [h]
theorem qFr{m D:Mx}{K:Int×Mx×Mx->Option ((Int×Mx×Mx)⊕((Mx×Mx)⊕Bool))}
  (h1:∀(i:Nat) out,i<D.length->out.length=D.length->K ((i:Int),D,out)=some (.inl (((i+1:Nat):Int),D,out.set i (qkf m (D.getD i [])))))
  (h2:∀out,K ((D.length:Int),D,out)=some (.inr (.inl (D,out)))) {O:Mx} (hO:O.length=D.length):qF K (0,D,O)=some (.inl (D,exO m D)):=by
 refine Ok.eq (qaZ D.length (λi (s:Int×Mx×Mx)=>∃out,s=((i:Int),D,out)/\out.length=D.length/\∀j,j<i->out[j]?=some (qkf m (D.getD j []))) _ ⟨O,rfl,hO,λj hj=>absurd hj (by omega)⟩ ?_);rintro i s hi ⟨out,rfl,hl,ho⟩;by_cases hlt:i<D.length
 ·rw [h1 i out hlt hl,qaw];refine ⟨hlt,_,rfl,by simp [hl],λj hj=>?_⟩;by_cases c:i=j
  ·subst c;simp [hl,hlt]
  ·rw [List.getElem?_set,if_neg c];exact ho j (by omega)
 ·obtain rfl:i=D.length:=by omega
  rw [h2,qag];have:out=exO m D:=qrl hl λk hk=>ho k hk;rw [this]
theorem step_loop{T d:List G}{n:Nat}{K:Int->Option (Int⊕(Unit⊕Bool))}{k:Unit->Option Bool}
  (h1:∀i:Nat,i<n->K (i:Int)=some (if Bd 1000 (qdZ (T.getD i g0) (d.getD i g0))then .inl ((i+1:Nat):Int)else .inr (.inr true)))
  (h2:K (n:Int)=some (.inr (.inl ()))) (h3:qw9 T d n->k ()=some true):(qF K 0).bind (Sum.elim k some)=some true:=by
 have key:Ok (qF K 0) λq=>q=.inr true\/(q=.inl ()/\qw9 T d n):=qaZ n (λi (s:Int)=>s=(i:Int)/\qw9 T d i) (λq:Unit⊕Bool=>q=.inr true\/(q=.inl ()/\qw9 T d n)) ⟨rfl,λk hk=>absurd hk (by omega)⟩ (by
  rintro i s hi ⟨rfl,hs⟩;by_cases hlt:i<n
  ·rw [h1 i hlt];by_cases c:Bd 1000 (qdZ (T.getD i g0) (d.getD i g0))
   ·rw [if_pos c,qaw];refine ⟨hlt,rfl,λk hk=>?_⟩;by_cases e:k=i
    ·subst e;exact c
    ·exact hs k (by omega)
   ·rw [if_neg c,qag];exact .inl rfl
  ·obtain rfl:i=n:=by omega
   rw [h2,qag];exact .inr ⟨rfl,hs⟩)
 obtain ⟨q,e,hq⟩:=key;rcases hq with rfl|⟨rfl,h⟩
 ·rw [e];rfl
 ·rw [e];exact h3 h
theorem quc(m:Mx)(r:Rn)(l:List G×List G×Unit):qc5 m r l=some true:=by
 unfold qc5;rw [show qhT=some true from rfl,qa,Bool.not_true,cond_false];by_cases c1:(m.length:Int) > 3
 ·rw [decide_eq_true c1,cond_true,qa,cond_true]
 rw [decide_eq_false c1,cond_false,qtR,qa];by_cases hE:qh7 m=0
 case neg=>rw [decide_eq_false hE,Bool.not_false,cond_true,qa,cond_true]
 rw [decide_eq_true hE,Bool.not_true,cond_false];by_cases c2:(r.1.length:Int) > 6
 ·rw [decide_eq_true c2,cond_true,qa,cond_true]
 rw [decide_eq_false c2,cond_false,qlf,qa];by_cases hR:qsQ r=0
 case neg=>rw [decide_eq_false hR,Bool.not_false,cond_true,qa,cond_true]
 rw [decide_eq_true hR,Bool.not_true,cond_false];obtain ⟨_,_,_,hrun⟩:=qJr hR;have hB:=qI3 hrun;have hl1:=hB.l1;have hl6:=hB.l6;have hlen:=hB.len;have hix:idx r.1 0=some (r.1.getD 0 []):=qmF (i:=0) r.1 [] (by omega);rw [hix,qa];by_cases c3:((r.1.getD 0 []).length:Int)=(m.length:Int)
 case neg=>rw [decide_eq_false c3];rfl
 rw [decide_eq_true c3,Bool.not_true,cond_false,ql8 (by omega),qa];by_cases hT:qhl l.1 m.length=0
 case neg=>rw [decide_eq_false hT];rfl
 rw [decide_eq_true hT,Bool.not_true,cond_false,ql8 (by omega),qa];by_cases hD:qhl l.2.1 m.length=0
 case neg=>rw [decide_eq_false hD];rfl
 rw [decide_eq_true hD,Bool.not_true,qa,cond_false];have hM:=(qjM hE).1;obtain ⟨m1,m3,mR,mB⟩:=qpa hM;have hm:m.length<=1000000000:=by omega
 have hmr:∀y∈m,y.length<=1000000000:=λy hy=>by have:=mR.2 y hy;omega
 have hc3:(r.1.getD 0 []).length=m.length:=by omega
 have hDr:∀j,j<r.1.length->(r.1.getD j []).length=m.length:=λj hj=>by rw [hB.dl j hj,hc3]
 have hn3:=hB.n3;have mem_len:∀{a:Mx} {n:Nat},(∀j,j<a.length->(a.getD j []).length=n)->n<=3->∀x∈a,x.length<=1000:=λ{a n} h hn x hx=>by
  obtain ⟨j,hj,e⟩:=List.mem_iff_getElem.1 hx;have:=h j hj;rw [show a.getD j []=x by simp [hj,e]]at this;omega
 have hr1:=mem_len hB.dl hn3;have hr2:=mem_len (a:=r.2.1) (n:=(r.1.getD 0 []).length) (λj hj=>hB.rl j (by omega)) hn3;have hcm:qP m=some m:=qdv hm hmr;have tl:=(qgt hT).1;have dl:=(qgt hD).1;have hct:qS l.1=some l.1:=qd1 (by omega);have hcd:qS l.2.1=some l.2.1:=qd1 (by omega);rw [qqk (by omega) (λx hx=>by have:=hr1 x hx;omega) (by omega) (λx hx=>by have:=hr2 x hx;omega),qa];rw [qFr (m:=m) (D:=r.1) (λi out hi ho=>?_) (λout=>?_) hlen]
 ·rw [qa,Sum.elim_inl,qlf,qa];by_cases hX:qsQ (r.1,exO m r.1,())=0
  case neg=>rw [decide_eq_false hX];rfl
  rw [decide_eq_true hX,Bool.not_true,cond_false];obtain ⟨k,w,hEB,hrunX⟩:=qJr hX;have hk:m.length=k+1:=by have:=hEB.len;unfold rnN at this;exact hc3.symm.trans this
  have hXl:(exO m r.1).length=r.1.length:=qX _ _;have hXr:∀x∈exO m r.1,x.length<=1000:=mem_len (n:=m.length) (λj hj=>by
   rw [hXl]at hj;unfold exO;rw [qhz _ _ hj];exact qX _ _) (by omega)
  rw [qqk (ρ:=(r.1,exO m r.1,())) (by show r.1.length<=_;omega) (λx hx=>by have:=hr1 x hx;omega) (by show (exO m r.1).length<=_;omega) (λx hx=>by have:=hXr x hx;omega),qa];obtain ⟨q,eq1,_,eq3⟩:=qvs (ρ:=(r.1,exO m r.1,())) (by show r.1.length<=_;omega) (λx hx=>by have:=hr1 x hx;omega) (λx hx=>by have:=hXr x hx;omega);have hq:=(eq3 k w hEB hX).trans (qHb hEB hk mR);subst hq;rw [eq1,hX,qa];simp only [decide_true,Bool.not_true,cond_false];rw [qmt hm hmr,qa,decide_eq_true (show m=m from rfl),Bool.not_true,qa,cond_false,hcm,qa];have hin:∀y∈m,∀z∈y,inG z:=λy hy z hz=>by
   have h20:Bd 20 z:=mB y hy z hz;unfold Bd at h20;exact ⟨⟨by omega,by omega⟩,⟨by omega,by omega⟩⟩
  rw [qql (by omega) (λy hy=>by have:=mR.2 y hy;omega) hin,qa];have hml:=qzy (n:=3) hin (λy hy=>by have:=mR.2 y hy;omega);have hml2:(qGz m).length<=60000:=by omega
  rw [qso hml2,qHz hM,qa];simp only [decide_true,Bool.not_true,cond_false];have hrm:qb4 m m=some true:=by rw [qmt hm hmr,decide_eq_true (show m=m from rfl)]
  have hiv:qcr m=some (qzm m,0):=by rw [qoX hm hmr,if_pos hE,hE]
  have xl:(qzm m).2.1.length=m.length:=qd9 _ _ _;have xr:∀y∈(qzm m).2.1,y.length<=1000:=λy hy=>by have:=(quC _ _ _).2 y hy;omega
  have hcq:qcc (qzm m)=some (qzm m):=qqj (by omega) (λy hy=>by have:=xr y hy;omega);have hci:qb7 m (qzm m)=some (0,0):=by rw [qqi hm hmr (by omega) xr,qEx hE]
  have hcr:qcS (m,m,1,1,1000,())=some (qds m):=qAe (r:=qds m) hm hmr hm hmr;have hr0:=qzI hE;have hco:qbO (qds m)=some ((0,1,()),0):=by
   rw [qpn (r:=qds m) hm hmr hm hmr (show (1:Int)<=9223372036854775807 by decide),if_neg (λhh=>hh hr0),qHt hE,if_pos (by unfold qr8;decide)]
  simp only [hrm,hcm,hiv,hcq,hci,hcr,hco,qa,decide_true,Bool.not_true,cond_false,cond_true];have hre:qFL m l.1=0:=by unfold qFL;rw [if_pos hM,hT]
  have hyl:(qkf m l.1).length=m.length:=qX _ _;have hry:qbB m l.1=some (qkf m l.1,0):=by rw [qms hm hmr (by omega),if_pos hre]
  simp only [hct,hry,decide_true,Bool.not_true,cond_false,hyl,qa];rw [ql8 (by omega),qa];by_cases hY:qhl (qkf m l.1) m.length=0
  case neg=>rw [decide_eq_false hY];rfl
  rw [decide_eq_true hY,Bool.not_true,cond_false];refine step_loop (T:=l.1) (d:=l.2.1) (n:=m.length) (λi hi=>?_) ?_ (λhs=>?_)
  rotate_left 2
  ·have hcy:qS (qkf m l.1)=some (qkf m l.1):=qd1 (by omega);have hro:qzU (qds m) (qkf m l.1) l.2.1=0:=by
    unfold qzU;rw [if_pos hr0];show (if qhl (qkf m l.1) m.length=0 then qhl l.2.1 m.length else qhl (qkf m l.1) m.length)=0;rw [if_pos hY,hD]
   obtain ⟨n,en,n0,n1⟩:=qDa hE (T:=l.1) (d:=l.2.1) hT hs;have hrc:qdh (qds m) (qkf m l.1) l.2.1 0=some (n,0):=by
    rw [qvu (r:=qds m) hm hmr hm hmr (show (1:Int)<=9223372036854775807 by decide) (by omega) (by omega),if_pos hro,if_pos (show (0:Int)<=0/\(0:Int)<=10000 by decide),en]
   simp only [hcy,hcd,hrc,qDb hE hT hD hY hs,decide_true,cond_true,qa];rw [qjC,decide_eq_true (show 0<=n/\n<=1 by omega),qa,cond_true];rw [show decide ((([l.1]:List (List G)).length:Int)=1)=true from rfl,cond_true,show idx [l.1] 0=some l.1 from rfl,qa,qnO (by omega),decide_eq_true (show l.1=l.1 from rfl)];rfl
  ·obtain ⟨_,tB⟩:=qgt hT;obtain ⟨_,dB⟩:=qgt hD;have e0:decide ((i:Int)<(m.length:Int))=true:=decide_eq_true (by omega);simp only [e0,cond_true];rw [qmF l.1 g0 (by omega),qa,qmF l.2.1 g0 (by omega),qa,qGP (tB _ (qaG (by omega))) (dB _ (qaG (by omega))) (by omega),qa,qjC,qa];generalize qdZ (l.1.getD i g0) (l.2.1.getD i g0)=z;by_cases c1 : -1000<=z.1/\z.1<=1000
   ·rw [decide_eq_true c1,Bool.not_true,cond_false,qjC,qa,qa];by_cases c2 : -1000<=z.2.1/\z.2.1<=1000
    ·rw [decide_eq_true c2,Bool.not_true,cond_false,if_pos ⟨c1,c2⟩,wid (by omega) (by omega)];rfl
    ·rw [decide_eq_false c2,Bool.not_false,cond_true,if_neg (λhh=>c2 hh.2)]
   ·rw [decide_eq_false c1,Bool.not_false,cond_true,qa,cond_true,if_neg (λhh=>c1 hh.1)]
  ·have e0:decide ((m.length:Int)<(m.length:Int))=false:=by simp
   simp only [e0,cond_false]
 ·have hji:=hDr i hi;have hdB:∀z∈r.1.getD i [],Bd 9 z:=λz hz=>by
   obtain ⟨k,hk,e⟩:=List.mem_iff_getElem.1 hz;have:=hB.dB i k hi (by omega);unfold ent at this;have e2:(r.1.getD i []).getD k g0=z:=by rw [List.getD_eq_getElem?_getD,List.getElem?_eq_getElem hk,e];rfl
   exact e2▸this
  have hrs:qbB m (r.1.getD i [])=some (qkf m (r.1.getD i []),0):=by rw [qms hm hmr (by omega),if_pos (qFM hM hji hdB)]
  have hyl:(qkf m (r.1.getD i [])).length=m.length:=qX _ _;have hci:qS (r.1.getD i [])=some (r.1.getD i []):=qd1 (by omega);have e0:decide ((i:Int)<(r.1.length:Int))=true:=decide_eq_true (by omega);simp only [e0,cond_true,hcm,qa];rw [qmF r.1 [] hi,qa,hci,qa,hrs,qa];simp only [hyl,decide_true,Bool.not_true,cond_false,qa];rw [qmF out [] (by omega),qa,qa,wid (by omega) (by omega),Int.toNat_natCast];rfl
 ·have e0:decide ((r.1.length:Int)<(r.1.length:Int))=false:=by simp
  simp only [e0,cond_false]
end Go.Proofs.YteiciemjanhdcaaGreatDoor.Mat
end
section
namespace Go.Proofs.YteiciemjanhdcaaGreatDoor.topDriveIdentified
open Go Go.Ab Go.Tx Go.ChangeShapes Go.WideShapes Go.ChangeAt Go.RowKit
theorem true_(x:denP ([(.sl (.sl (.pair I (.pair I .unit)))),(.pair (.sl (.sl (.pair I (.pair I .unit)))) (.pair (.sl (.sl (.pair I (.pair I .unit)))) .unit)),(.pair (.sl (.pair I (.pair I .unit))) (.pair (.sl (.pair I (.pair I .unit))) .unit))].map Pm.ty))(hx:qIf maxLen [(.sl (.sl (.pair I (.pair I .unit)))),(.pair (.sl (.sl (.pair I (.pair I .unit)))) (.pair (.sl (.sl (.pair I (.pair I .unit)))) .unit)),(.pair (.sl (.pair I (.pair I .unit))) (.pair (.sl (.pair I (.pair I .unit))) .unit))] x):qby.F x=some true:=Mat.quc x.1 x.2.1 x.2.2
set_option maxRecDepth 100000 in
theorem contract(H:Type)(enc:TypeId×Value->H)(W:World)(base:Nat)(args:Array Value)(ds gs:List (DataW H))(before:List MemPlace)
  (hval:∀(j:Nat) t v,Tryz.f7.params[j]?=some t->args[j]?=some v->Value.okWide Tryz.prog W .any base t v)
  (hW:DataW.Whole enc Tryz.prog Tryz.f7.params.toList Rows.topDriveIdentifiedSpec.vars false W args.toList ds gs before) (hgl:qjA W (cx0 W)) :
  Calls Tryz.prog 7 args W λe W'=>∃v,e=.returned v/\Rows.topDriveIdentifiedSpec.post enc Tryz.prog Tryz.f7 false true false false W args v W' :=
 qwr (τs:=[(.sl (.sl (.pair I (.pair I .unit)))),(.pair (.sl (.sl (.pair I (.pair I .unit)))) (.pair (.sl (.sl (.pair I (.pair I .unit)))) .unit)),(.pair (.sl (.pair I (.pair I .unit))) (.pair (.sl (.pair I (.pair I .unit))) .unit))]) (ts:=[22,103,29]) (tb:=4) (F:=qby.F) follows qeW qAE qE0 Tryz.func7 (by kernel_rfl) (by kernel_rfl) (by kernel_rfl) (by kernel_rfl) (by kernel_rfl) (by kernel_rfl) Tryz.underlying4 qir true_ rfl
  (λH ds h=>by
   match ds,h with
   |[d1,d2,d3],_=>rfl) H enc W base args ds gs before hval hW hgl
set_option maxRecDepth 100000 in
theorem lifted(os:Os)(started:os.Started)(H:Type)(enc:TypeId×Value->H) :
  ReturnsInHanded {} Tryz.checked os 7 .any (λw args=>(Rows.topDriveIdentifiedSpec.pre enc Tryz.prog Tryz.f7 Rows.topDriveIdentifiedRow.domain false w args/\laidMetH Tryz.prog qpC w)/\sizedMet enc Tryz.prog Tryz.f7 (OpenSpec.ofChange Rows.topDriveIdentifiedSpec) false w args)
   (Rows.topDriveIdentifiedSpec.post enc Tryz.prog Tryz.f7 false true false false):=by
 refine qgd (C:=Tryz.checked) (X:=λw _=>laidMetH Tryz.prog qpC w) (λ_ _ _ hh h=>h.of_heap hh) own started (by kernel_rfl) Tryz.func7
  (ChangeSpec.witness_shaped (enc:=enc) (C:=Tryz.checked) (os:=os) (X:=λw _=>laidMetH Tryz.prog qpC w) false (World.laidAll Tryz.prog os qpC) #[.slice none 0 0,.agg #[.slice none 0 0,.slice none 0 0],.agg #[.slice none 0 0,.slice none 0 0]] 8 (World.laidAll_os _ _ _)
   (World.shaped_of_ZipB (by kernel_rfl) (by kernel_rfl)) (by kernel_rfl) (by kernel_rfl) (by kernel_rfl)
   (by rw [MakeChecks.laidMetH_plain _ _ _ (by kernel_rfl)];exact laidMet_laidAll _ (by kernel_rfl) (by kernel_rfl))) ?_
 intro W base args ds gs before hval hW hS hL;exact contract H enc W base args ds gs before hval hW (qHd hS hL)
theorem said:Rows.TopDriveIdentifiedSaid :=
 OpenClaim.holds_of_wide 7 Tryz.f7 rfl rfl rfl rfl rfl rfl rfl ⟨rfl,rfl,rfl,rfl,rfl⟩ rfl rfl rfl rfl rfl (by kernel_rfl) Tryz.func7 (by kernel_rfl)
  (of_decide_eq_true (by kernel_rfl)) (by unfold Func.isWrapper;first|(rw [if_pos (by decide +kernel)];kernel_rfl)|(rw [if_neg (by decide +kernel)];exact ⟨rfl,rfl⟩))
  (λos started H enc _=>lifted os started H enc)
theorem proved:Rows.TopDriveIdentifiedCardSaid :=
 Claim7.holds_tied_plain_at .later [] [.data, .data, .data, .data, .sentinel, .sentinel, .pinned] true (true, "b047576e82b3618035bcd12881f37f9051199a02151335b10545a8d28bc60f06") true
  said (λ_ h=>by cases h) (by kernel_rfl) (λ_ h=>by cases h) topDriveIdentified_row_tie rfl ⟨rfl,rfl⟩ (by kernel_rfl) rfl
  (λf fn hf hfn=>by
   obtain rfl : f = 7 := Option.some.inj ((show Tryz.prog.funcNamed "ductility/ductilitytop.TopDriveIdentified" = some 7 by kernel_rfl).symm.trans hf) |>.symm
   obtain rfl:fn=Tryz.f7:=(Option.some.inj (Tryz.func7.symm.trans hfn)).symm;exact ⟨by kernel_rfl,λj t ht=>by
    have hp:Tryz.f7.params=#[22,103,29]:=by kernel_rfl
    rw [hp]at ht;rcases j with _|_|_|j
    ·simp at ht;subst ht;exact (show Tryz.prog.wantsStandIn 22=false by kernel_rfl)
    ·simp at ht;subst ht;exact (show Tryz.prog.wantsStandIn 103=false by kernel_rfl)
    ·simp at ht;subst ht;exact (show Tryz.prog.wantsStandIn 29=false by kernel_rfl)
    ·simp at ht⟩)
  (by kernel_rfl)
end Go.Proofs.YteiciemjanhdcaaGreatDoor.topDriveIdentified
end
