/-
  ONE LAW OF A CHAPTER: its program side is run by an interpreter that is proved sound; what it computes is shown to be what the law says. No conditions. Part 4 of 8.
-/
import Derived.Test.YteiciemjanhdcaaGreatDoorMsec
import Derived.Laws.Strings
set_option linter.unusedSimpArgs false
set_option linter.unusedVariables false
set_option linter.unnecessarySimpa false
section
namespace Go.Tx
open Go Go.Ab
section
inductive All2 {α β:Type} (R:α->β->Prop):List α->List β->Prop
 |nil:All2 R [] []
 |cons {a b l l'}:R a b->All2 R l l'->All2 R (a::l) (b::l')
section
variable {α β:Type} {R S:α->β->Prop}
theorem All2.length{l:List α}{l':List β}(h:All2 R l l'):l'.length=l.length:=by
 induction h with
 |nil=>rfl
 |cons _ _ ih=>simp [ih]
theorem All2.mono(hrs:∀a b,R a b->S a b){l:List α}{l':List β}(h:All2 R l l'):All2 S l l':=by
 induction h with
 |nil=>exact .nil
 |cons h1 _ ih=>exact .cons (hrs _ _ h1) ih
theorem All2.append{l m:List α}{l' m':List β}(h:All2 R l l')(h':All2 R m m'):All2 R (l++m) (l'++m'):=by
 induction h with
 |nil=>exact h'
 |cons h1 _ ih=>exact .cons h1 ih
theorem All2.take{l:List α}{l':List β}(h:All2 R l l'):∀n,All2 R (l.take n) (l'.take n):=by
 induction h with
 |nil=>intro n;simp;exact .nil
 |cons h1 _ ih=>intro n;cases n with
  |zero=>exact .nil
  |succ n=>exact .cons h1 (ih n)
theorem All2.drop{l:List α}{l':List β}(h:All2 R l l'):∀n,All2 R (l.drop n) (l'.drop n):=by
 induction h with
 |nil=>intro n;simp;exact .nil
 |cons h1 h2 ih=>intro n;cases n with
  |zero=>exact .cons h1 h2
  |succ n=>exact ih n
theorem All2.get{l:List α}{l':List β}(h:All2 R l l'):∀{i:Nat} {a:α},l[i]?=some a->∃b,l'[i]?=some b/\R a b:=by
 induction h with
 |nil=>intro i a h;simp at h
 |cons h1 h2 ih=>intro i a h;cases i with
  |zero=>simp at h;subst h;exact ⟨_,rfl,h1⟩
  |succ n=>exact ih (by simpa using h)
theorem All2.replicate{a:α}{b:β}(h:R a b):∀n,All2 R (List.replicate n a) (List.replicate n b)
 |0=>.nil
 |n+1=>.cons h (All2.replicate h n)
theorem All2.map{γ:Type}{g:β->γ}{S:α->γ->Prop}(hrs:∀a b,R a b->S a (g b)){l:List α}{l':List β}(h:All2 R l l'):All2 S l (l'.map g):=by
 induction h with
 |nil=>exact .nil
 |cons h1 _ ih=>exact .cons (hrs _ _ h1) ih
theorem All2.all{p:β->Prop}(hp:∀a b,R a b->p b){l:List α}{l':List β}(h:All2 R l l'):∀b∈l',p b:=by
 induction h with
 |nil=>simp
 |cons h1 _ ih =>
          intro b hb;rcases qm.1 hb with rfl|hb
          ·exact hp _ _ h1
          ·exact ih b hb
end
def FlR(o:Nat)(f:Fl):Prop:=(o≠2000->(f=.own↔qbY o=true))/\(o=1000->f=.shared)
def RTy:(τ:Ty)->Nat->τ.den->V->Prop
 |.int k,_,n,v=>v=.val (.int k n)
 |.bool,_,b,v=>v=.val (.bool b)
 |.str,_,s,v=>v=.val (.string ⟨s.toArray⟩)
 |.flt,_,n,v=>∃b,v=.val (.float .f64 b)/\Fl.IsF b n
 |.cx,_,p,v=>∃a b,v=.val (.complex .f64 a b)/\Fl.IsF a p.1/\Fl.IsF b p.2
 |.err,_,x,v=>(x=true/\v=.val .nilIface)\/(x=false/\∃t,v=.iface t .undef)
 |.mset t,_,l,v=>qHm t=true/\v=.mp (l.map λx=>(qCE t x,.bool true))
 |.sl t,o,l,v=>∃f c l',v=.sl f c l'/\FlR o f/\All2 (RTy t (nx o)) l l'
 |.unit,_,_,v=>v=.agg []
 |.pair a b,o,x,v=>∃v1 l,v=.agg (v1::l)/\RTy a o x.1 v1/\RTy b o x.2 (.agg l)
mutual
def RV:TV->V->Prop
 |.any rs,v=>(∀r∈v.qv,r∈rs)/\qaE [v]=false
 |.t τ o x,v=>RTy τ o x v
 |.clp τ x,v=>∃f l',v=.sl f true l'/\f≠.own/\All2 (RTy τ 0) x l'
 |.room a s,v=>(a<2/\∃n,v=.room s n/\(a=0->n=0))\/(2<=a/\(v=.undef\/∃f,f≠.own/\v=.sl f false []))
 |.empty o,v=>∃f c,v=.sl f c []/\FlR o f
 |.val u,v=>v=.val u
 |.agg l,v=>∃l',v=.agg l'/\RVL l l'
 |.tuple l,v=>∃l',v=.tuple l'/\RVL l l'
 |.fn g a b,v=>∃a' b',v=.fn g a' b'/\RVL a a'/\RVL b b'
 |.ptr r o,v=>v=.ptr r o
 |.mref r,v=>v=.mref r
 |.bsl r o n,v=>v=.bsl r o n
 |.yld r,v=>v=.yld r
 |.lp ..,v=>False
 |.cptr s l,v=>∃f l',v=.cptr f l'/\f≠.own/\(s=true->f=.shared)/\RVL l l'
 |.iface t x,v=>∃y,v=.iface t y/\RV x y
def RVL:List TV->List V->Prop
 |[],l=>l=[]
 |x::l,l'=>∃v m,l'=v::m/\RV x v/\RVL l m
end
theorem qC{x:TV}{l:List TV}{v:V}{m:List V}:RVL (x::l) (v::m)↔RV x v/\RVL l m:=by
 simp only [RVL,List.cons.injEq];exact ⟨λ⟨_,_,⟨rfl,rfl⟩,h1,h2⟩=>⟨h1,h2⟩,λ⟨h1,h2⟩=>⟨_,_,⟨rfl,rfl⟩,h1,h2⟩⟩
theorem qaU:RVL [] []:=by simp [RVL]
theorem RVL.length:∀{l:List TV} {l':List V},RVL l l'->l'.length=l.length
 |[],l',h=>by simp only [RVL]at h;simp [h]
 |x::l,l',h=>by simp only [RVL]at h;obtain ⟨v,m,rfl,_,h2⟩:=h;simp [RVL.length h2]
theorem RVL.append:∀{l m:List TV} {l' m':List V},RVL l l'->RVL m m'->RVL (l++m) (l'++m')
 |[],m,l',m',h,h'=>by simp only [RVL]at h;simpa [h]using h'
 |x::l,m,l',m',h,h'=>by
  simp only [RVL]at h;obtain ⟨v,n,rfl,h1,h2⟩:=h;exact qC.2 ⟨h1,RVL.append h2 h'⟩
theorem RVL.take:∀{l:List TV} {l':List V} (n:Nat),RVL l l'->RVL (l.take n) (l'.take n)
 |_,_,0,h=>by simp [RVL]
 |[],l',n+1,h=>by simp only [RVL]at h;simp [h,RVL]
 |x::l,l',n+1,h=>by
  simp only [RVL]at h;obtain ⟨v,m,rfl,h1,h2⟩:=h;exact qC.2 ⟨h1,RVL.take n h2⟩
theorem RVL.drop:∀{l:List TV} {l':List V} (n:Nat),RVL l l'->RVL (l.drop n) (l'.drop n)
 |_,_,0,h=>by simpa using h
 |[],l',n+1,h=>by simp only [RVL]at h;simp [h,RVL]
 |x::l,l',n+1,h=>by
  simp only [RVL]at h;obtain ⟨v,m,rfl,h1,h2⟩:=h;exact RVL.drop n h2
theorem RVL.get:∀{l:List TV} {l':List V} {i:Nat} {x:TV},RVL l l'->l[i]?=some x->∃v,l'[i]?=some v/\RV x v
 |[],l',i,x,h,hi=>by simp at hi
 |y::l,l',0,x,h,hi=>by
  simp only [RVL]at h;obtain ⟨v,m,rfl,h1,h2⟩:=h;simp at hi;subst hi;exact ⟨v,rfl,h1⟩
 |y::l,l',i+1,x,h,hi=>by
  simp only [RVL]at h;obtain ⟨v,m,rfl,h1,h2⟩:=h;have hi':l[i]?=some x:=by simpa using hi
  obtain ⟨u,hu,hr⟩:=RVL.get h2 hi';exact ⟨u,by simpa using hu,hr⟩
theorem RVL.set:∀{l:List TV} {l':List V} (i:Nat) {x:TV} {v:V},RVL l l'->RV x v->RVL (l.set i x) (l'.set i v)
 |[],l',i,x,v,h,hx=>by simp only [RVL]at h;simp [h,RVL]
 |y::l,l',0,x,v,h,hx=>by
  simp only [RVL]at h;obtain ⟨u,m,rfl,h1,h2⟩:=h;exact qC.2 ⟨hx,h2⟩
 |y::l,l',i+1,x,v,h,hx=>by
  simp only [RVL]at h;obtain ⟨u,m,rfl,h1,h2⟩:=h;exact qC.2 ⟨h1,RVL.set i h2 hx⟩
theorem qfe(rs:List Root):RV (.any rs) .undef:=by simp [RV,V.qv,qaE]
theorem RVL.getD{l:List TV}{l':List V}(h:RVL l l')(i:Nat):RV (l.getD i (.any [])) (l'.getD i .undef):=by
 cases hi:l[i]? with
 |some x=>obtain ⟨v,hv,hr⟩:=h.get hi;simpa [hi,hv]using hr
 |none =>
  have:l'[i]?=none:=by rw [List.getElem?_eq_none_iff]at hi ⊢;rw [h.length];exact hi
  simp only [List.getD_eq_getElem?_getD,hi,this,Option.getD_none];exact qfe []
theorem RVL.replicate{x:TV}{v:V}(h:RV x v):∀n,RVL (List.replicate n x) (List.replicate n v)
 |0=>by simp [RVL]
 |n+1=>qC.2 ⟨h,RVL.replicate h n⟩
theorem RVL.flatten:∀{n:Nat} {l:List TV} {l':List V},RVL l l'->RVL (List.replicate n l).flatten (List.replicate n l').flatten
 |0,_,_,_=>by simp [RVL]
 |n+1,l,l',h=>by simp only [List.replicate_succ,List.flatten_cons];exact h.append (RVL.flatten h)
theorem RVL.head{l:List TV}{l':List V}{x:TV}(h:RVL l l')(hx:l.head?=some x):∃v,l'.head?=some v/\RV x v:=by
 cases l with
 |nil=>simp at hx
 |cons y l =>
  simp only [RVL]at h;obtain ⟨u,m,rfl,h1,h2⟩:=h;simp at hx;subst hx;exact ⟨u,rfl,h1⟩
theorem qf6{o:Nat}:qbY o=true↔o≠0/\o≠1000/\o≠2000:=by unfold qbY;simp
theorem qmK{o:Nat}:qbY o=false↔o=0\/o=1000\/o=2000:=by
 have:=@qf6 o;cases h:qbY o with
 |true=>rw [h]at this;simp at this;simp<;>omega
 |false=>rw [h]at this;simp at this;simp<;>omega
theorem FlR.own{o:Nat}{f:Fl}(h:FlR o f)(ho:qbY o=true):f=.own:=(h.1 (qf6.1 ho).2.2).2 ho
theorem FlR.not{o:Nat}{f:Fl}(h:FlR o f)(ho:qbY o=false)(h2:o≠2000):f≠.own:=λe=>by have:=(h.1 h2).1 e;rw [ho]at this;cases this
theorem qg1{o:Nat}(h:qbY o=true):FlR o .own:=⟨λ_=>by simp [h],λe=>absurd e (qf6.1 h).2.1⟩
theorem qjK{o:Nat}{f:Fl}(ho:qbY o=false)(hf:f≠.own)(h1:o=1000->f=.shared):FlR o f:=⟨λ_=>by simp [hf,ho],h1⟩
theorem qB8(o:Nat):qbY (dl o)=false/\dl o≠2000/\nx (dl o)=dl o:=by
 have h1:qbY (dl o)=false:=by rw [qmK];unfold dl;split<;>simp
 refine ⟨h1,by unfold dl;split<;>simp,by unfold nx;rw [h1];rfl⟩
theorem qfd:∀(τ:Ty) (o:Nat) (x:τ.den) (v:V),RTy τ o x v->v.qv=[]
 |.int _,_,_,v,h=>by simp only [RTy]at h;simp [h,V.qv]
 |.bool,_,_,v,h=>by simp only [RTy]at h;simp [h,V.qv]
 |.str,_,_,v,h=>by simp only [RTy]at h;simp [h,V.qv]
 |.flt,_,_,v,h=>by simp only [RTy]at h;obtain ⟨b9,rfl,h9⟩:=h;simp [V.qv]
 |.cx,_,_,v,h=>by simp only [RTy]at h;obtain ⟨a9,b9,rfl,h8,h9⟩:=h;simp [V.qv]
 |.err,_,_,v,h=>by simp only [RTy]at h;rcases h with ⟨_,rfl⟩|⟨_,t9,rfl⟩<;>simp [V.qv]
 |.mset _,_,_,v,h=>by simp only [RTy]at h;obtain ⟨h8,rfl⟩:=h;simp [V.qv]
 |.sl t,o,l,v,h=>by simp only [RTy]at h;obtain ⟨f,c,l',rfl,_⟩:=h;simp [V.qv]
 |.unit,_,_,v,h=>by simp only [RTy]at h;simp [h,V.qv,ptrsL]
 |.pair a b,o,x,v,h=>by
  simp only [RTy]at h;obtain ⟨v1,l,rfl,h1,h2⟩:=h;have e1:=qfd a o _ _ h1;have e2:=qfd b o _ _ h2;simp only [V.qv]at e2;simp [V.qv,ptrsL,e1,e2]
theorem qrI{l:List V}{r:Root}:r∈ptrsL l↔∃v∈l,r∈v.qv:=by
 induction l with
 |nil=>simp [ptrsL]
 |cons v l ih=>simp [ptrsL,ih]
mutual
theorem RV.qv:∀(x:TV) (v:V),RV x v->∀r∈v.qv,r∈x.qv
 |.any rs,v,h,r,hr=>by simp only [RV]at h;exact h.1 r hr
 |.t τ o x,v,h,r,hr=>by simp only [RV]at h;rw [qfd τ o x v h]at hr;cases hr
 |.clp τ x,v,h,r,hr=>by simp only [RV]at h;obtain ⟨f,l',rfl,_⟩:=h;simp [V.qv]at hr
 |.room a s,v,h,r,hr=>by simp only [RV]at h;obtain ⟨_,n,rfl,_⟩|⟨_,rfl|⟨f,hf0,rfl⟩⟩:=h<;>simp [V.qv]at hr
 |.empty own,v,h,r,hr=>by simp only [RV]at h;obtain ⟨f,c,rfl,_⟩:=h;simp [V.qv]at hr
 |.val u,v,h,r,hr=>by simp only [RV]at h;simp [h,V.qv]at hr
 |.agg l,v,h,r,hr=>by simp only [RV]at h;obtain ⟨l',rfl,h⟩:=h;simp only [V.qv]at hr;exact RVL.qv l l' h r hr
 |.tuple l,v,h,r,hr=>by simp only [RV]at h;obtain ⟨l',rfl,h⟩:=h;simp only [V.qv]at hr;exact RVL.qv l l' h r hr
 |.fn g a b,v,h,r,hr=>by
  simp only [RV]at h;obtain ⟨a',b',rfl,h1,h2⟩:=h;simp only [V.qv,qk]at hr;simp only [TV.qv,qk];exact hr.imp (RVL.qv a a' h1 r) (RVL.qv b b' h2 r)
 |.ptr q o,v,h,r,hr=>by simp only [RV]at h;rw [h]at hr;simpa [V.qv,TV.qv]using hr
 |.mref q,v,h,r,hr=>by simp only [RV]at h;rw [h]at hr;simpa [V.qv,TV.qv]using hr
 |.bsl q _ _,v,h,r,hr=>by simp only [RV]at h;rw [h]at hr;simpa [V.qv,TV.qv]using hr
 |.yld q,v,h,r,hr=>by simp only [RV]at h;rw [h]at hr;simpa [V.qv,TV.qv]using hr
 |.lp ..,v,h,r,hr=>by simp only [RV]at h
 |.cptr _ l,v,h,r,hr=>by simp only [RV]at h;obtain ⟨_,l',rfl,_,_,h⟩:=h;simp only [V.qv]at hr;exact RVL.qv l l' h r hr
 |.iface t x,v,h,r,hr=>by simp only [RV]at h;obtain ⟨y,rfl,h⟩:=h;simp only [V.qv]at hr;exact RV.qv x y h r hr
theorem RVL.qv:∀(l:List TV) (l':List V),RVL l l'->∀r∈ptrsL l',r∈ptrsTL l
 |[],l',h,r,hr=>by simp only [RVL]at h;simp [h,ptrsL]at hr
 |x::l,l',h,r,hr=>by
  simp only [RVL]at h;obtain ⟨v,m,rfl,h1,h2⟩:=h;simp only [ptrsL,qk]at hr;simp only [ptrsTL,qk];exact hr.imp (RV.qv x v h1 r) (RVL.qv l m h2 r)
end
mutual
theorem RV.ptrs_eq:∀(x:TV) (v:V),x.known=true->RV x v->v.qv=x.qv
 |.any rs,v,hk,h=>by simp [TV.known]at hk
 |.t τ o x,v,_,h=>by simp only [RV]at h;rw [qfd τ o x v h];simp [TV.qv]
 |.clp τ x,v,_,h=>by simp only [RV]at h;obtain ⟨f,l',rfl,_⟩:=h;simp [V.qv,TV.qv]
 |.room a s,v,_,h=>by simp only [RV]at h;obtain ⟨_,n,rfl,_⟩|⟨_,rfl|⟨f,hf0,rfl⟩⟩:=h<;>simp [V.qv,TV.qv]
 |.empty own,v,_,h=>by simp only [RV]at h;obtain ⟨f,c,rfl,_⟩:=h;simp [V.qv,TV.qv]
 |.val u,v,_,h=>by simp only [RV]at h;simp [h,V.qv,TV.qv]
 |.agg l,v,hk,h=>by simp only [RV]at h;obtain ⟨l',rfl,h⟩:=h;simp only [TV.known]at hk;simp only [V.qv,TV.qv];exact RVL.ptrs_eq l l' hk h
 |.tuple l,v,hk,h=>by simp only [RV]at h;obtain ⟨l',rfl,h⟩:=h;simp only [TV.known]at hk;simp only [V.qv,TV.qv];exact RVL.ptrs_eq l l' hk h
 |.fn g a b,v,hk,h=>by
  simp only [RV]at h;obtain ⟨a',b',rfl,h1,h2⟩:=h;simp only [TV.known,qe]at hk;simp only [V.qv,TV.qv,RVL.ptrs_eq a a' hk.1 h1,RVL.ptrs_eq b b' hk.2 h2]
 |.ptr q o,v,_,h=>by simp only [RV]at h;simp [h,V.qv,TV.qv]
 |.mref q,v,_,h=>by simp only [RV]at h;simp [h,V.qv,TV.qv]
 |.bsl q _ _,v,_,h=>by simp only [RV]at h;simp [h,V.qv,TV.qv]
 |.yld q,v,_,h=>by simp only [RV]at h;simp [h,V.qv,TV.qv]
 |.lp ..,v,_,h=>by simp only [RV]at h
 |.cptr _ l,v,hk,h=>by simp only [RV]at h;obtain ⟨_,l',rfl,_,_,h⟩:=h;simp only [TV.known]at hk;simp only [V.qv,TV.qv];exact RVL.ptrs_eq l l' hk h
 |.iface t x,v,hk,h=>by simp [TV.known]at hk
theorem RVL.ptrs_eq:∀(l:List TV) (l':List V),knownL l=true->RVL l l'->ptrsL l'=ptrsTL l
 |[],l',_,h=>by simp only [RVL]at h;simp [h,ptrsL,ptrsTL]
 |x::l,l',hk,h=>by
  simp only [RVL]at h;obtain ⟨v,m,rfl,h1,h2⟩:=h;simp only [knownL,qe]at hk;simp only [ptrsL,ptrsTL,RV.ptrs_eq x v hk.1 h1,RVL.ptrs_eq l m hk.2 h2]
end
theorem qbC(g:Fl->Fl):∀l:List V,reflagL g l=l.map (V.reflag g)
 |[]=>rfl
 |v::l=>by simp [reflagL,qbC g l]
theorem qFi{n:Nat}(h:qbY (n+1)=true):nx (n+1)=n/\n+1≠1000:=by
 have:=qf6.1 h;refine ⟨by unfold nx;rw [h];simp,this.2.1⟩
theorem qoF:∀(τ:Ty) (o:Nat) (x:τ.den) (v:V),RTy τ (dl o) x v->RTy τ 0 x v
 |.int _,_,_,v,h=>by simpa only [RTy]using h
 |.bool,_,_,v,h=>by simpa only [RTy]using h
 |.str,_,_,v,h=>by simpa only [RTy]using h
 |.flt,_,_,v,h=>by simpa only [RTy]using h
 |.cx,_,_,v,h=>by simpa only [RTy]using h
 |.err,_,_,v,h=>by simpa only [RTy]using h
 |.mset _,_,_,v,h=>by simpa only [RTy]using h
 |.sl t,o,l,v,h=>by
  obtain ⟨hno,h20,hnx⟩:=qB8 o;simp only [RTy]at h ⊢;obtain ⟨f,c,l',rfl,h1,h⟩:=h;rw [hnx]at h;exact ⟨f,c,l',rfl,qjK rfl (h1.not hno h20) (λh=>by cases h),h.mono λa b hab=>qoF t o a b hab⟩
 |.unit,_,_,v,h=>by simpa only [RTy]using h
 |.pair a b,o,x,v,h=>by
  simp only [RTy]at h ⊢;obtain ⟨v1,l,rfl,h1,h2⟩:=h;exact ⟨v1,l,rfl,qoF a o _ _ h1,qoF b o _ _ h2⟩
theorem qkR{g:Fl->Fl}(hg:∀f,g f≠.own)(hs:g .shared=.shared):∀(τ:Ty) (o:Nat) (x:τ.den) (v:V),RTy τ o x v->RTy τ (dl o) x (v.reflag g)
 |.int _,_,_,v,h=>by simp only [RTy]at h ⊢;simp [h,V.reflag]
 |.bool,_,_,v,h=>by simp only [RTy]at h ⊢;simp [h,V.reflag]
 |.str,_,_,v,h=>by simp only [RTy]at h ⊢;simp [h,V.reflag]
 |.flt,_,_,v,h=>by simp only [RTy]at h ⊢;obtain ⟨b9,rfl,h9⟩:=h;exact ⟨b9,by simp [V.reflag],h9⟩
 |.cx,_,_,v,h=>by simp only [RTy]at h ⊢;obtain ⟨a9,b9,rfl,h8,h9⟩:=h;exact ⟨a9,b9,by simp [V.reflag],h8,h9⟩
 |.err,_,_,v,h=>by simp only [RTy]at h ⊢;rcases h with ⟨hx,rfl⟩|⟨hx,t9,rfl⟩;exact .inl ⟨hx,by simp [V.reflag]⟩;exact .inr ⟨hx,t9,by simp [V.reflag]⟩
 |.mset _,_,_,v,h=>by simp only [RTy]at h ⊢;obtain ⟨h8,rfl⟩:=h;exact ⟨h8,by simp [V.reflag]⟩
 |.sl t,o,l,v,h=>by
  simp only [RTy]at h ⊢;obtain ⟨f,c,l',rfl,h0,h⟩:=h;obtain ⟨hno,h20,hnx⟩:=qB8 o;refine ⟨g f,c,reflagL g l',by simp [V.reflag],qjK hno (hg f) (λh1=>?_),?_⟩
  ·have ho:o=1000:=by
    unfold dl at h1;split at h1
    ·assumption
    ·cases h1
   rw [h0.2 ho];exact hs
  ·rw [qbC,hnx];refine h.map λa b hab=>?_;have h3:=qkR hg hs t _ a b hab;by_cases ho:o=1000
   ·subst ho;exact h3
   ·have:dl o=0:=by unfold dl;rw [if_neg ho]
    rw [this];exact qoF t _ a _ h3
 |.unit,_,_,v,h=>by simp only [RTy]at h ⊢;simp [h,V.reflag,reflagL]
 |.pair a b,o,x,v,h=>by
  simp only [RTy]at h ⊢;obtain ⟨v1,l,rfl,h1,h2⟩:=h;refine ⟨v1.reflag g,reflagL g l,by simp [V.reflag,reflagL],qkR hg hs a o _ _ h1,?_⟩;have:=qkR hg hs b o _ _ h2;simpa only [V.reflag]using this
theorem qnu{g:Fl->Fl}(hg:∀f,g f=.own↔f=.own)(hs:g .shared=.shared):∀(τ:Ty) (o:Nat) (x:τ.den) (v:V),RTy τ o x v->RTy τ o x (v.reflag g)
 |.int _,_,_,v,h=>by simp only [RTy]at h ⊢;simp [h,V.reflag]
 |.bool,_,_,v,h=>by simp only [RTy]at h ⊢;simp [h,V.reflag]
 |.str,_,_,v,h=>by simp only [RTy]at h ⊢;simp [h,V.reflag]
 |.flt,_,_,v,h=>by simp only [RTy]at h ⊢;obtain ⟨b9,rfl,h9⟩:=h;exact ⟨b9,by simp [V.reflag],h9⟩
 |.cx,_,_,v,h=>by simp only [RTy]at h ⊢;obtain ⟨a9,b9,rfl,h8,h9⟩:=h;exact ⟨a9,b9,by simp [V.reflag],h8,h9⟩
 |.err,_,_,v,h=>by simp only [RTy]at h ⊢;rcases h with ⟨hx,rfl⟩|⟨hx,t9,rfl⟩;exact .inl ⟨hx,by simp [V.reflag]⟩;exact .inr ⟨hx,t9,by simp [V.reflag]⟩
 |.mset _,_,_,v,h=>by simp only [RTy]at h ⊢;obtain ⟨h8,rfl⟩:=h;exact ⟨h8,by simp [V.reflag]⟩
 |.sl t,o,l,v,h=>by
  simp only [RTy]at h ⊢;obtain ⟨f,c,l',rfl,ho,h⟩:=h;refine ⟨g f,c,reflagL g l',by simp [V.reflag],⟨λh2=>by rw [hg f];exact ho.1 h2,λh1=>by rw [ho.2 h1];exact hs⟩,?_⟩;rw [qbC];exact h.map λa b hab=>qnu hg hs t _ a b hab
 |.unit,_,_,v,h=>by simp only [RTy]at h ⊢;simp [h,V.reflag,reflagL]
 |.pair a b,o,x,v,h=>by
  simp only [RTy]at h ⊢;obtain ⟨v1,l,rfl,h1,h2⟩:=h;refine ⟨v1.reflag g,reflagL g l,by simp [V.reflag,reflagL],qnu hg hs a o _ _ h1,?_⟩;have:=qnu hg hs b o _ _ h2;simpa only [V.reflag]using this
theorem quh{g:Fl->Fl}{l:List V}(h:qaE l=false):qaE (reflagL g l)=false:=by
 cases l with
 |nil=>rfl
 |cons x l=>cases x with
  |lp=>simp [qaE]at h
  |room s n =>
   simp only [reflagL,V.reflag];by_cases h1:g .own=.own
   ·rw [if_pos h1];rfl
   ·rw [if_neg h1];by_cases h2:n=0
    ·rw [if_pos h2];rfl
    ·rw [if_neg h2];rfl
  |_=>rfl
theorem qfR{g:Fl->Fl}{v:V}(h:qaE [v]=false):qaE [v.reflag g]=false:=quh (g:=g) h
theorem qhG(g:Fl->Fl)(v:V):(v.reflag g).qv=v.qv:=by
 have:=ptrsL_reflag g [v];simpa [reflagL,ptrsL]using this
mutual
theorem RV.dull'{g:Fl->Fl}(hg:∀f,g f≠.own)(hs:g .shared=.shared):∀(x:TV) (v:V),RV x v->RV x.qap (v.reflag g)
 |.any rs,v,h=>by simp only [TV.qap,RV]at h ⊢;rw [qhG];exact ⟨h.1,qfR h.2⟩
 |.t τ o x,v,h=>by simp only [TV.qap,RV]at h ⊢;exact qkR hg hs τ o x v h
 |.clp τ x,v,h=>by
  simp only [TV.qap,RV]at h ⊢;obtain ⟨f,l',rfl,_,h⟩:=h;refine ⟨g f,reflagL g l',by simp [V.reflag],hg f,?_⟩;rw [qbC];exact h.map λa b hab=>qoF τ 0 a _ (qkR hg hs τ _ a b hab)
 |.room a s,v,h=>by
  simp only [RV]at h;rcases a with _|a
  ·obtain ⟨_,n,rfl,h0⟩|⟨h9,_⟩:=h
   ·obtain rfl:=h0 rfl;simp only [TV.qap,RV,V.reflag,if_neg (hg .own),if_true];exact ⟨_,_,rfl,qjK (by decide) (hg .own) (λh1=>by cases h1)⟩
   ·omega
  ·simp only [TV.qap,RV];refine .inr ⟨Nat.le_refl _,?_⟩;obtain ⟨_,n,rfl,_⟩|⟨_,rfl|⟨f,hf0,rfl⟩⟩:=h
   ·simp only [V.reflag,if_neg (hg .own)];split
    ·exact .inr ⟨_,hg _,rfl⟩
    ·exact .inl rfl
   ·exact .inl rfl
   ·exact .inr ⟨g f,hg f,by simp [V.reflag,reflagL]⟩
 |.empty o,v,h=>by
  simp only [TV.qap,RV]at h ⊢;obtain ⟨f,c,rfl,h0⟩:=h;refine ⟨g f,c,by simp [V.reflag,reflagL],qjK (qB8 o).1 (hg f) (λh1=>?_)⟩;have ho:o=1000:=by
   unfold dl at h1;split at h1
   ·assumption
   ·cases h1
  rw [h0.2 ho];exact hs
 |.val u,v,h=>by simp only [TV.qap,RV]at h ⊢;simp [h,V.reflag]
 |.agg l,v,h=>by simp only [TV.qap,RV]at h ⊢;obtain ⟨l',rfl,h⟩:=h;exact ⟨_,by simp only [V.reflag],RVL.dull' hg hs l l' h⟩
 |.tuple l,v,h=>by simp only [TV.qap,RV]at h ⊢;obtain ⟨l',rfl,h⟩:=h;exact ⟨_,by simp only [V.reflag],RVL.dull' hg hs l l' h⟩
 |.fn g' a b,v,h=>by simp only [TV.qap,RV]at h ⊢;obtain ⟨a',b',rfl,h1,h2⟩:=h;exact ⟨_,_,by simp only [V.reflag],RVL.dull' hg hs a a' h1,RVL.dull' hg hs b b' h2⟩
 |.ptr q o,v,h=>by simp only [TV.qap,RV]at h ⊢;simp [h,V.reflag]
 |.mref q,v,h=>by simp only [TV.qap,RV]at h ⊢;simp [h,V.reflag]
 |.bsl q _ _,v,h=>by simp only [TV.qap,RV]at h ⊢;simp [h,V.reflag]
 |.yld q,v,h=>by simp only [TV.qap,RV]at h ⊢;simp [h,V.reflag]
 |.lp ..,v,h=>by simp only [RV]at h
 |.cptr s l,v,h=>by simp only [TV.qap,RV]at h ⊢;obtain ⟨f,l',rfl,_,hsh,h⟩:=h;exact ⟨g f,_,by simp only [V.reflag],hg f,λe=>(by rw [hsh e];exact hs),RVL.dull' hg hs l l' h⟩
 |.iface t x,v,h=>by simp only [TV.qap,RV]at h ⊢;obtain ⟨y,rfl,h⟩:=h;exact ⟨_,by simp only [V.reflag],RV.dull' hg hs x y h⟩
theorem RVL.dull'{g:Fl->Fl}(hg:∀f,g f≠.own)(hs:g .shared=.shared):∀(l:List TV) (l':List V),RVL l l'->RVL (dullL l) (reflagL g l')
 |[],l',h=>by simp only [RVL]at h;simp [h,dullL,reflagL,RVL]
 |x::l,l',h=>by
  simp only [RVL]at h;obtain ⟨v,m,rfl,h1,h2⟩:=h;simp only [dullL,reflagL];exact qC.2 ⟨RV.dull' hg hs x v h1,RVL.dull' hg hs l m h2⟩
end
mutual
theorem RV.qs7{g:Fl->Fl}(hg:∀f,g f=.own↔f=.own)(hs:g .shared=.shared):∀(x:TV) (v:V),RV x v->RV x (v.reflag g)
 |.any rs,v,h=>by simp only [RV]at h ⊢;rw [qhG];exact ⟨h.1,qfR h.2⟩
 |.t τ o x,v,h=>by simp only [RV]at h ⊢;exact qnu hg hs τ o x v h
 |.clp τ x,v,h=>by
  simp only [RV]at h ⊢;obtain ⟨f,l',rfl,h0,h⟩:=h;refine ⟨g f,reflagL g l',by simp [V.reflag],λe=>h0 ((hg f).1 e),?_⟩;rw [qbC];exact h.map λa b hab=>qnu hg hs τ _ a b hab
 |.room a s,v,h=>by
  simp only [RV]at h ⊢;obtain ⟨h1,n,rfl,h0⟩|⟨h1,rfl|⟨f,hf0,rfl⟩⟩:=h
  ·exact .inl ⟨h1,n,by simp only [V.reflag,if_pos ((hg .own).2 rfl)],h0⟩
  ·exact .inr ⟨h1,.inl rfl⟩
  ·exact .inr ⟨h1,.inr ⟨g f,λe=>hf0 ((hg f).1 e),by simp [V.reflag,reflagL]⟩⟩
 |.empty o,v,h=>by simp only [RV]at h ⊢;obtain ⟨f,c,rfl,h0⟩:=h;exact ⟨g f,c,by simp [V.reflag,reflagL],⟨λh2=>by rw [hg f];exact h0.1 h2,λh1=>by rw [h0.2 h1];exact hs⟩⟩
 |.val u,v,h=>by simp only [RV]at h ⊢;simp [h,V.reflag]
 |.agg l,v,h=>by simp only [RV]at h ⊢;obtain ⟨l',rfl,h⟩:=h;exact ⟨_,by simp only [V.reflag],RVL.qs7 hg hs l l' h⟩
 |.tuple l,v,h=>by simp only [RV]at h ⊢;obtain ⟨l',rfl,h⟩:=h;exact ⟨_,by simp only [V.reflag],RVL.qs7 hg hs l l' h⟩
 |.fn g' a b,v,h=>by simp only [RV]at h ⊢;obtain ⟨a',b',rfl,h1,h2⟩:=h;exact ⟨_,_,by simp only [V.reflag],RVL.qs7 hg hs a a' h1,RVL.qs7 hg hs b b' h2⟩
 |.ptr q o,v,h=>by simp only [RV]at h ⊢;simp [h,V.reflag]
 |.mref q,v,h=>by simp only [RV]at h ⊢;simp [h,V.reflag]
 |.bsl q _ _,v,h=>by simp only [RV]at h ⊢;simp [h,V.reflag]
 |.yld q,v,h=>by simp only [RV]at h ⊢;simp [h,V.reflag]
 |.lp ..,v,h=>by simp only [RV]at h
 |.cptr s l,v,h=>by simp only [RV]at h ⊢;obtain ⟨f,l',rfl,h0,hsh,h⟩:=h;exact ⟨g f,_,by simp only [V.reflag],λe=>h0 ((hg f).1 e),λe=>(by rw [hsh e];exact hs),RVL.qs7 hg hs l l' h⟩
 |.iface t x,v,h=>by simp only [RV]at h ⊢;obtain ⟨y,rfl,h⟩:=h;exact ⟨_,by simp only [V.reflag],RV.qs7 hg hs x y h⟩
theorem RVL.qs7{g:Fl->Fl}(hg:∀f,g f=.own↔f=.own)(hs:g .shared=.shared):∀(l:List TV) (l':List V),RVL l l'->RVL l (reflagL g l')
 |[],l',h=>by simp only [RVL]at h;simp [h,reflagL,RVL]
 |x::l,l',h=>by
  simp only [RVL]at h;obtain ⟨v,m,rfl,h1,h2⟩:=h;simp only [reflagL];exact qC.2 ⟨RV.qs7 hg hs x v h1,RVL.qs7 hg hs l m h2⟩
end
theorem qnZ(f:Fl):qac f≠.own:=by cases f<;>simp [qac]
theorem RV.qap{x:TV}{v:V}(h:RV x v):RV x.qap v.qap:=RV.dull' qnZ rfl x v h
theorem RVL.qap{l:List TV}{l':List V}(h:RVL l l'):RVL (dullL l) (reflagL qac l'):=RVL.dull' qnZ rfl l l' h
theorem RVL.quz{g:Fl->Fl}(hg:∀f,g f≠.own)(hs:g .shared=.shared){l:List TV}{l':List V}(h:RVL l l'):RVL (dullL l) (l'.map (V.reflag g)):=by
 rw [<- qbC];exact RVL.dull' hg hs l l' h
theorem qwK{l:List V}:ownsL l=true↔∃v∈l,v.owns=true:=by
 induction l with
 |nil=>simp [ownsL]
 |cons v l ih=>simp [ownsL,ih]
theorem qkp{α β:Type}{R:α->β->Prop}{l:List α}{l':List β}(h:All2 R l l'):∀b∈l',∃a∈l,R a b:=by
 induction h with
 |nil=>simp
 |cons h1 _ ih =>
  intro b hb;rcases qm.1 hb with rfl|hb
  ·exact ⟨_,by simp,h1⟩
  ·obtain ⟨a,ha,hr⟩:=ih b hb;exact ⟨a,by simp [ha],hr⟩
theorem qnv:∀(τ:Ty) (o:Nat) (x:τ.den) (v:V),RTy τ o x v->v.owns=true->(qbY o=true\/o=2000)/\0<τ.depth
 |.int _,_,_,v,h,ho=>by simp only [RTy]at h;simp [h,V.owns]at ho
 |.bool,_,_,v,h,ho=>by simp only [RTy]at h;simp [h,V.owns]at ho
 |.str,_,_,v,h,ho=>by simp only [RTy]at h;simp [h,V.owns]at ho
 |.flt,_,_,v,h,ho=>by simp only [RTy]at h;obtain ⟨b9,rfl,h9⟩:=h;simp [V.owns]at ho
 |.cx,_,_,v,h,ho=>by simp only [RTy]at h;obtain ⟨a9,b9,rfl,h8,h9⟩:=h;simp [V.owns]at ho
 |.err,_,_,v,h,ho=>by simp only [RTy]at h;rcases h with ⟨_,rfl⟩|⟨_,t9,rfl⟩<;>simp [V.owns]at ho
 |.mset _,_,_,v,h,ho=>by simp only [RTy]at h;obtain ⟨h8,rfl⟩:=h;simp [V.owns]at ho
 |.sl t,o,l,v,h,ho=>by
  simp only [RTy]at h;obtain ⟨f,c,l',rfl,hf,h⟩:=h;simp only [V.owns,Bool.or_eq_true,decide_eq_true_eq]at ho;simp only [Ty.depth];refine ⟨?_,by omega⟩;by_cases h2:o=2000
  ·exact .inr h2
  left
  rcases ho with ho|ho
  ·exact (hf.1 h2).1 ho
  ·obtain ⟨b,hb,hbo⟩:=qwK.1 ho;obtain ⟨a,_,hr⟩:=qkp h b hb;have:=(qnv t _ a b hr hbo).1;cases hno:qbY o with
   |true=>rfl
   |false =>
    unfold nx at this;rw [hno]at this;simp only [qf,if_false,hno,false_or]at this;exact absurd this h2
 |.unit,_,_,v,h,ho=>by simp only [RTy]at h;simp [h,V.owns,ownsL]at ho
 |.pair a b,o,x,v,h,ho=>by
  simp only [RTy]at h;obtain ⟨v1,l,rfl,h1,h2⟩:=h;simp only [V.owns,ownsL,Bool.or_eq_true]at ho;simp only [Ty.depth];rcases ho with ho|ho
  ·have:=qnv a o _ _ h1 ho;exact ⟨this.1,by omega⟩
  ·have:=qnv b o _ _ h2 (by simpa only [V.owns]using ho);exact ⟨this.1,by omega⟩
mutual
theorem RV.owns:∀(x:TV) (v:V),RV x v->v.owns=true->x.owns=true
 |.any rs,v,h,ho=>by simp [TV.owns]
 |.t τ o x,v,h,ho=>by simp only [RV]at h;have:=qnv τ o x v h ho;simpa [TV.owns]using this
 |.clp τ x,v,h,ho=>by
  simp only [RV]at h;obtain ⟨f,l',rfl,hf,h⟩:=h;simp only [V.owns,Bool.or_eq_true,decide_eq_true_eq]at ho;rcases ho with ho|ho
  ·exact absurd ho hf
  ·obtain ⟨b,hb,hbo⟩:=qwK.1 ho;obtain ⟨a,_,hr⟩:=qkp h b hb;have:=(qnv τ _ a b hr hbo).1;simp [qbY]at this
 |.room a s,v,h,ho=>rfl
 |.empty o,v,h,ho=>by
  simp only [RV]at h;obtain ⟨f,c,rfl,hf⟩:=h;simp only [V.owns,ownsL,Bool.or_false,decide_eq_true_eq]at ho;simp only [TV.owns,Bool.or_eq_true,decide_eq_true_eq];by_cases h2:o=2000
  ·exact .inr h2
  ·exact .inl ((hf.1 h2).1 ho)
 |.val u,v,h,ho=>by simp only [RV]at h;simp [h,V.owns]at ho
 |.agg l,v,h,ho=>by simp only [RV]at h;obtain ⟨l',rfl,h⟩:=h;simp only [V.owns,TV.owns]at ho ⊢;exact RVL.owns l l' h ho
 |.tuple l,v,h,ho=>by simp only [RV]at h;obtain ⟨l',rfl,h⟩:=h;simp only [V.owns,TV.owns]at ho ⊢;exact RVL.owns l l' h ho
 |.fn g a b,v,h,ho=>by
  simp only [RV]at h;obtain ⟨a',b',rfl,h1,h2⟩:=h;simp only [V.owns,TV.owns,Bool.or_eq_true]at ho ⊢;exact ho.imp (RVL.owns a a' h1) (RVL.owns b b' h2)
 |.ptr q o,v,h,ho=>by simp only [RV]at h;simp [h,V.owns]at ho
 |.mref q,v,h,ho=>by simp only [RV]at h;simp [h,V.owns]at ho
 |.bsl q _ _,v,h,ho=>by simp only [RV]at h;simp [h,V.owns]at ho
 |.yld q,v,h,ho=>by simp only [RV]at h;simp [h,V.owns]at ho
 |.lp ..,v,h,ho=>by simp only [RV]at h
 |.cptr _ l,v,h,ho=>by simp only [RV]at h;obtain ⟨f,l',rfl,h0,_,h⟩:=h;simp only [V.owns,TV.owns,h0,decide_false,Bool.false_or]at ho ⊢;exact RVL.owns l l' h ho
 |.iface t x,v,h,ho=>by simp only [RV]at h;obtain ⟨y,rfl,h⟩:=h;simp only [V.owns,TV.owns]at ho ⊢;exact RV.owns x y h ho
theorem RVL.owns:∀(l:List TV) (l':List V),RVL l l'->ownsL l'=true->ownsTL l=true
 |[],l',h,ho=>by simp only [RVL]at h;simp [h,ownsL]at ho
 |x::l,l',h,ho=>by
  simp only [RVL]at h;obtain ⟨v,m,rfl,h1,h2⟩:=h;simp only [ownsL,ownsTL,Bool.or_eq_true]at ho ⊢;exact ho.imp (RV.owns x v h1) (RVL.owns l m h2)
end
theorem qDH{τ:Ty}(h1:τ.one=true){o:Nat}{x:τ.den}{v:V}(h:RTy τ o x v):v.one=true:=by
 cases τ with
 |unit=>simp [Ty.one]at h1
 |pair a b=>simp [Ty.one]at h1
 |sl t=>simp only [RTy]at h;obtain ⟨f,c,l',rfl,_⟩:=h;rfl
 |flt=>simp only [RTy]at h;obtain ⟨b9,rfl,_⟩:=h;rfl
 |cx=>simp only [RTy]at h;obtain ⟨a9,b9,rfl,_⟩:=h;rfl
 |err=>simp only [RTy]at h;rcases h with ⟨_,rfl⟩|⟨_,t9,rfl⟩<;>rfl
 |mset t=>simp [Ty.one]at h1
 |_=>simp only [RTy]at h;subst h;rfl
theorem RV.one{x:TV}{v:V}(h1:x.one=true)(h:RV x v):v.one=true:=by
 cases x with
 |any rs=>simp [TV.one]at h1
 |t τ o x=>simp only [RV]at h;exact qDH h1 h
 |clp τ x=>simp only [RV]at h;obtain ⟨f,l',rfl,_⟩:=h;rfl
 |room a s=>simp [TV.one]at h1
 |empty own=>simp only [RV]at h;obtain ⟨f,c,rfl,_⟩:=h;rfl
 |val u=>simp only [RV]at h;subst h;exact h1
 |agg l=>simp [TV.one]at h1
 |tuple l=>simp [TV.one]at h1
 |fn g a b=>simp only [RV]at h;obtain ⟨a',b',rfl,_⟩:=h;rfl
 |ptr r o=>simp only [RV]at h;subst h;rfl
 |mref r=>simp only [RV]at h;subst h;rfl
 |bsl r o n=>simp only [RV]at h;subst h;rfl
 |yld r=>simp only [RV]at h;subst h;rfl
 |lp s pe g env ps a b=>simp only [RV]at h
 |cptr _ l=>simp only [RV]at h;obtain ⟨_,l',rfl,_⟩:=h;rfl
 |iface t x=>simp only [RV]at h;obtain ⟨y,rfl,_⟩:=h;rfl
theorem qB0{v:V}(h:v.one=true):v.cells=[v]:=by cases v<;>first|rfl|simp [V.one]at h
theorem RVL.qJG:∀{l:List TV} {l':List V},l.all TV.one=true->RVL l l'->l'.all V.one=true
 |[],l',_,h=>by simp only [RVL]at h;simp [h]
 |x::l,l',h1,h=>by
  simp only [RVL]at h;obtain ⟨v,m,rfl,h2,h3⟩:=h;simp only [List.all_cons,qe]at h1 ⊢;exact ⟨RV.one h1.1 h2,RVL.qJG h1.2 h3⟩
theorem RV.cells{x:TV}{v:V}(hk:x.oks=true)(h:RV x v):RVL x.cells v.cells/\v.oks=true:=by
 by_cases hx:∃l,x=.agg l
 ·obtain ⟨l,rfl⟩:=hx;simp only [RV]at h;obtain ⟨l',rfl,h⟩:=h;simp only [TV.oks,TV.cells]at hk;exact ⟨h,RVL.qJG hk h⟩
 ·have hc:x.cells=[x]:=by cases x<;>first|rfl|exact absurd ⟨_,rfl⟩ hx
  have h1:x.one=true:=by simpa [TV.oks,hc]using hk
  have hv:=RV.one h1 h;have hcv:=qB0 hv;rw [hc,hcv];exact ⟨qC.2 ⟨h,qaU⟩,by simp [V.oks,hcv,hv]⟩
theorem qgL{c:List V}(h1:qaE c=false)(h2:qjn c=false):qg3 c=false:=by
 cases c with
 |nil=>rfl
 |cons x l=>cases x<;>first|rfl|(simp [qaE]at h1;done)|(simp [qjn]at h2)
theorem qbm{l:List TV}{l':List V}(h:RVL l l'):qaE l'=false:=by
 cases l with
 |nil=>simp only [RVL]at h;simp [h,qaE]
 |cons x l =>
  simp only [RVL]at h;obtain ⟨v,m,rfl,h1,_⟩:=h;cases v with
  |lp s pe g env ps a b =>
   exfalso
   cases x with
   |any rs=>simp [RV,qaE]at h1
   |t τ o x =>
    cases τ<;>simp [RV,RTy]at h1
   |lp=>simp only [RV]at h1
   |_=>simp [RV]at h1
  |_=>rfl
mutual
theorem rv_ofTy:∀(τ:Ty) (o:Nat) (x:τ.den) (v:V),RTy τ o x v->RV (ofTy τ o x) v
 |.int _,_,_,v,h=>by simpa only [ofTy,RV]using h
 |.bool,_,_,v,h=>by simpa only [ofTy,RV]using h
 |.str,_,_,v,h=>by simpa only [ofTy,RV]using h
 |.flt,_,_,v,h=>by simpa only [ofTy,RV]using h
 |.cx,_,_,v,h=>by simpa only [ofTy,RV]using h
 |.err,_,_,v,h=>by simpa only [ofTy,RV]using h
 |.mset _,_,_,v,h=>by simpa only [ofTy,RV]using h
 |.sl t,o,l,v,h=>by simpa only [ofTy,RV]using h
 |.unit,_,_,v,h=>by simp only [RTy]at h;simp [h,ofTy,RV,RVL]
 |.pair a b,o,x,v,h=>by
  simp only [RTy]at h;obtain ⟨v1,l,rfl,h1,h2⟩:=h;simp only [ofTy,RV];exact ⟨_,rfl,qC.2 ⟨rv_ofTy a o _ _ h1,rv_ofTyC b o _ l h2⟩⟩
theorem rv_ofTyC:∀(τ:Ty) (o:Nat) (x:τ.den) (l:List V),RTy τ o x (.agg l)->RVL (ofTyC τ o x) l
 |.int _,_,_,l,h=>by simp [RTy]at h
 |.bool,_,_,l,h=>by simp [RTy]at h
 |.str,_,_,l,h=>by simp [RTy]at h
 |.flt,_,_,l,h=>by simp [RTy]at h
 |.cx,_,_,l,h=>by simp [RTy]at h
 |.err,_,_,l,h=>by simp [RTy]at h
 |.mset _,_,_,l,h=>by simp [RTy]at h
 |.sl t,o,x,l,h=>by simp [RTy]at h
 |.unit,_,_,l,h=>by simp only [RTy,V.agg.injEq]at h;simp [h,ofTyC,RVL]
 |.pair a b,o,x,l,h=>by
  simp only [RTy,V.agg.injEq]at h;obtain ⟨v1,m,rfl,h1,h2⟩:=h;simp only [ofTyC];exact qC.2 ⟨rv_ofTy a o _ _ h1,rv_ofTyC b o _ m h2⟩
end
theorem qzG{τ:Ty}(h:τ.one=true)(o:Nat)(x:τ.den):(ofTy τ o x).one=true:=by cases τ<;>first|rfl|simp [Ty.one]at h
theorem qtj:∀(τ:Ty),τ.qrZ=true->∀(o:Nat) (x:τ.den),(ofTyC τ o x).all TV.one=true
 |.unit,_,o,x=>rfl
 |.pair a b,h,o,x=>by
  simp only [Ty.qrZ,qe]at h;simp only [ofTyC,List.all_cons,qe];exact ⟨qzG h.1 o _,qtj b h.2 o _⟩
 |.int _,h,_,_|.bool,h,_,_|.str,h,_,_|.flt,h,_,_|.cx,h,_,_|.err,h,_,_|.mset _,h,_,_|.sl _,h,_,_=>by simp [Ty.qrZ]at h
theorem quG{τ:Ty}(h:τ.qc9=true)(o:Nat)(x:τ.den):(ofTy τ o x).oks=true:=by
 cases τ with
 |unit=>rfl
 |pair a b =>
  simp only [Ty.qc9,qe]at h;simp only [ofTy,TV.oks,TV.cells,List.all_cons,qe];exact ⟨qzG h.1 o _,qtj b h.2 o _⟩
 |mset t=>simp [Ty.qc9]at h
 |_=>rfl
theorem qpc:∀(τ:Ty),τ.qrZ=true->∀(o:Nat) (x:τ.den),(ofTyC τ o x).length=τ.qca
 |.unit,_,o,x=>rfl
 |.pair a b,h,o,x=>by
  simp only [Ty.qrZ,qe]at h;simp [ofTyC,Ty.qca,qpc b h.2 o x.2]
 |.int _,h,_,_|.bool,h,_,_|.str,h,_,_|.flt,h,_,_|.cx,h,_,_|.err,h,_,_|.mset _,h,_,_|.sl _,h,_,_=>by simp [Ty.qrZ]at h
theorem qyf{τ:Ty}(h:τ.qc9=true)(o:Nat)(x:τ.den):(ofTy τ o x).cells.length=τ.qca:=by
 cases τ with
 |unit=>rfl
 |pair a b =>
  simp only [Ty.qc9,qe]at h;simp [ofTy,TV.cells,Ty.qca,qpc b h.2 o x.2]
 |_=>rfl
theorem qoG{τ:Ty}(h:τ.qc9=true){o:Nat}{x:τ.den}{v:V}(hr:RTy τ o x v):v.cells.length=τ.qca/\v.oks=true:=by
 obtain ⟨h1,h2⟩:=RV.cells (quG h o x) (rv_ofTy τ o x v hr);exact ⟨by rw [h1.length,qyf h],h2⟩
theorem qxO:∀{d d':Nat} {o' o:Nat},d'<=d->fits d o' o=true->fits d' o' o=true
 |_,0,_,_,_,_=>rfl
 |0,d'+1,_,_,h,_=>by omega
 |d+1,d'+1,o',o,h,hf=>by
  simp only [fits,Bool.or_eq_true,qe]at hf ⊢;exact hf.imp id λhf=>⟨hf.1,qxO (by omega) hf.2⟩
theorem qzb{o' o d:Nat}{f:Fl}(h:fits (d+1) o' o=true)(hf:FlR o' f):FlR o f/\(o=2000\/fits d (nx o') (nx o)=true):=by
 simp only [fits,Bool.or_eq_true,qe,decide_eq_true_eq,beq_iff_eq,Bool.not_eq_true',decide_eq_false_iff_not]at h;rcases h with rfl|⟨⟨⟨h1,h2⟩,h3⟩,h4⟩
 ·exact ⟨⟨λh=>absurd rfl h,λh=>by cases h⟩,.inl rfl⟩
 ·exact ⟨⟨λ_=>by rw [hf.1 h2,h1],λh=>hf.2 (h3.resolve_left λh5=>h5 h)⟩,.inr h4⟩
theorem qvS:∀(d o:Nat),fits d o 2000=true
 |0,_=>rfl
 |d+1,o=>by simp [fits]
theorem qkg:∀(τ:Ty) (o o':Nat) (x:τ.den) (v:V),fits τ.depth o o'=true->RTy τ o x v->RTy τ o' x v
 |.int _,_,_,_,v,_,h=>by simpa only [RTy]using h
 |.bool,_,_,_,v,_,h=>by simpa only [RTy]using h
 |.str,_,_,_,v,_,h=>by simpa only [RTy]using h
 |.flt,_,_,_,v,_,h=>by simpa only [RTy]using h
 |.cx,_,_,_,v,_,h=>by simpa only [RTy]using h
 |.err,_,_,_,v,_,h=>by simpa only [RTy]using h
 |.mset _,_,_,_,v,_,h=>by simpa only [RTy]using h
 |.unit,_,_,_,v,_,h=>by simpa only [RTy]using h
 |.sl t,o,o',l,v,hm,h=>by
  simp only [Ty.depth]at hm;simp only [RTy]at h ⊢;obtain ⟨f,c,l',rfl,hf,h⟩:=h;obtain ⟨h1,h2⟩:=qzb hm hf;refine ⟨f,c,l',rfl,h1,h.mono λa b hab=>qkg t _ _ a b ?_ hab⟩;rcases h2 with rfl|h2
  ·exact qvS _ _
  ·exact h2
 |.pair a b,o,o',x,v,hm,h=>by
  simp only [Ty.depth]at hm;simp only [RTy]at h ⊢;obtain ⟨v1,l,rfl,h3,h4⟩:=h;exact ⟨v1,l,rfl,qkg a _ _ _ _ (qxO (by omega) hm) h3,qkg b _ _ _ _ (qxO (by omega) hm) h4⟩
theorem qgi:∀(τ:Ty) (o:Nat) (w:TV) (x:τ.den) (v:V),qks τ o w=some x->RV w v->RTy τ o x v:=by
 have dflt:∀(τ:Ty) (o:Nat) (τ':Ty) (o':Nat) (y:τ'.den) (x:τ.den) (v:V),(if h:τ'=τ then (if fits τ.depth o' o=true then some (cast' h y)else none)else none)=some x->RTy τ' o' y v->RTy τ o x v:=by
  intro τ o τ' o' y x v h hr;split at h
  ·rename_i he;split at h
   ·rename_i hm;simp only [qb]at h;subst h;subst he;exact qkg _ _ _ _ _ hm hr
   ·cases h
  ·cases h
 intro τ;induction τ with
 |int k =>
  intro o w x v h hr;cases w<;>simp only [qks]at h<;>first|cases h|exact dflt _ _ _ _ _ _ _ h (by simpa only [RV]using hr)
 |bool =>
  intro o w x v h hr;cases w<;>simp only [qks]at h<;>first|cases h|exact dflt _ _ _ _ _ _ _ h (by simpa only [RV]using hr)
 |str =>
  intro o w x v h hr;cases w<;>simp only [qks]at h<;>first|cases h|exact dflt _ _ _ _ _ _ _ h (by simpa only [RV]using hr)
 |flt =>
  intro o w x v h hr;cases w<;>simp only [qks]at h<;>first|cases h|exact dflt _ _ _ _ _ _ _ h (by simpa only [RV]using hr)
 |cx =>
  intro o w x v h hr;cases w<;>simp only [qks]at h<;>first|cases h|exact dflt _ _ _ _ _ _ _ h (by simpa only [RV]using hr)
 |err =>
  intro o w x v h hr;cases w<;>simp only [qks]at h<;>first|cases h|exact dflt _ _ _ _ _ _ _ h (by simpa only [RV]using hr)
 |mset t =>
  intro o w x v h hr;cases w<;>simp only [qks]at h<;>first|cases h|exact dflt _ _ _ _ _ _ _ h (by simpa only [RV]using hr)
 |sl t ih =>
  intro o w x v h hr;cases w with
  |empty own =>
   simp only [qks]at h;split at h
   ·rename_i ho;simp only [qb]at h;subst h;simp only [RV]at hr;obtain ⟨f,c,rfl,hf⟩:=hr;simp only [RTy];exact ⟨f,c,[],rfl,(qzb ho hf).1,.nil⟩
   ·cases h
  |t τ' o' y=>simp only [qks]at h;exact dflt _ _ _ _ _ _ _ h (by simpa only [RV]using hr)
  |_=>simp [qks]at h
 |unit =>
  intro o w x v h hr;cases w with
  |agg l =>
   cases l with
   |nil=>simp only [RV]at hr;obtain ⟨l',rfl,h1⟩:=hr;simp only [RVL]at h1;simp [RTy,h1]
   |cons=>simp [qks]at h
  |t τ' o' y=>simp only [qks]at h;exact dflt _ _ _ _ _ _ _ h (by simpa only [RV]using hr)
  |_=>simp [qks]at h
 |pair a b iha ihb =>
  intro o w x v h hr;cases w with
  |agg l =>
   cases l with
   |nil=>simp [qks]at h
   |cons u l =>
    simp only [qks]at h;obtain ⟨y,hy,h⟩:=qd.1 h;obtain ⟨z,hz,h⟩:=qd.1 h;simp only [qb]at h;subst h;simp only [RV]at hr;obtain ⟨l',rfl,hl⟩:=hr;simp only [RVL]at hl;obtain ⟨v1,m,rfl,h1,h2⟩:=hl;simp only [RTy];exact ⟨v1,m,rfl,iha _ _ _ _ hy h1,ihb _ _ _ _ hz (by simp only [RV];exact ⟨m,rfl,h2⟩)⟩
  |t τ' o' y=>simp only [qks]at h;exact dflt _ _ _ _ _ _ _ h (by simpa only [RV]using hr)
  |_=>simp [qks]at h
theorem qy2:∀(ps:List (Ty×Nat)) (l:List TV) (x:denL (ps.map (·.1))) (l':List V),asL ps l=some x->RVL l l'->RVL (ofL ps x) l'
 |[],l,x,l',h,hr=>by
  cases l with
  |nil=>simpa [ofL]using hr
  |cons=>simp [asL]at h
 |[(τ,o)],l,x,l',h,hr=>by
  match l,h,hr with
  |[v],h,hr =>
   simp only [asL]at h;simp only [RVL]at hr;obtain ⟨u,m,rfl,h1,rfl⟩:=hr;simp only [ofL];exact qC.2 ⟨rv_ofTy _ _ _ _ (qgi _ _ _ _ _ h h1),qaU⟩
  |[],h,hr=>simp [asL]at h
  |_::_::_,h,hr=>simp [asL]at h
 |(τ,o)::q::ps,l,x,l',h,hr=>by
  match l,h,hr with
  |[],h,hr=>simp [asL]at h
  |v::l,h,hr =>
   simp only [asL]at h;obtain ⟨y,hy,h⟩:=qd.1 h;obtain ⟨z,hz,h⟩:=qd.1 h;simp only [qb]at h;subst h;simp only [RVL]at hr;obtain ⟨u,m,rfl,h1,h2⟩:=hr;simp only [ofL];exact qC.2 ⟨rv_ofTy _ _ _ _ (qgi _ _ _ _ _ hy h1),qy2 (q::ps) l _ _ hz h2⟩
theorem qy1{τ:Ty}{o:Nat}:∀(l:List TV) (x:List τ.den) (l':List V),qBP τ o l=some x->RVL l l'->All2 (RTy τ o) x l'
 |[],x,l',h,hr=>by simp only [qBP,qb]at h;simp only [RVL]at hr;subst h;subst hr;exact .nil
 |v::l,x,l',h,hr=>by
  simp only [qBP]at h;obtain ⟨y,hy,h⟩:=qd.1 h;obtain ⟨z,hz,h⟩:=qd.1 h;simp only [qb]at h;subst h;simp only [RVL]at hr;obtain ⟨u,m,rfl,h1,h2⟩:=hr;exact .cons (qgi _ _ _ _ _ hy h1) (qy1 l _ _ hz h2)
theorem qu1(p:Bool)(u:Value):RV (qpm p u) (qec p u):=by
 unfold qpm qec;split
 ·simp [RV,RTy]
 ·simp [RV,RTy]
 ·simp [RV,RTy]
 ·simp only [RV,RTy];exact ⟨0,rfl,Fl.qug⟩
 ·simp only [RV,RTy];exact ⟨0,0,rfl,Fl.qug,Fl.qug⟩
 ·cases p
  ·simp only [RV,qgF,qf,if_false];exact ⟨_,_,rfl,qg1 rfl⟩
  ·simp [RV,qgF]
 ·rename_i h1 h2 h3 h4 h5 h6;split
  ·exact absurd rfl h6
  ·simp [RV]
theorem qyv{g:Value->TV}{h:Value->V}(hr:∀u,RV (g u) (h u)):∀l:List Value,RVL (l.map g) (l.map h)
 |[]=>qaU
 |u::l=>qC.2 ⟨hr u,qyv hr l⟩
theorem qzV(p:Bool)(u:Value):RV (qqr p u) (ofConst p u):=by
 have key:=qu1 p u;cases u<;>first|exact key|(simp only [qqr,ofConst,RV];exact ⟨_,rfl,qyv (qu1 p) _⟩)
theorem qiv:∀(τ:Ty) (o:Nat) (x:τ.den) (v:V),RTy τ o x v->RTy τ 1000 x (v.reflag q3)
 |.int _,_,_,v,h=>by simp only [RTy]at h ⊢;simp [h,V.reflag]
 |.bool,_,_,v,h=>by simp only [RTy]at h ⊢;simp [h,V.reflag]
 |.str,_,_,v,h=>by simp only [RTy]at h ⊢;simp [h,V.reflag]
 |.flt,_,_,v,h=>by simp only [RTy]at h ⊢;obtain ⟨b9,rfl,h9⟩:=h;exact ⟨b9,by simp [V.reflag],h9⟩
 |.cx,_,_,v,h=>by simp only [RTy]at h ⊢;obtain ⟨a9,b9,rfl,h8,h9⟩:=h;exact ⟨a9,b9,by simp [V.reflag],h8,h9⟩
 |.err,_,_,v,h=>by simp only [RTy]at h ⊢;rcases h with ⟨hx,rfl⟩|⟨hx,t9,rfl⟩;exact .inl ⟨hx,by simp [V.reflag]⟩;exact .inr ⟨hx,t9,by simp [V.reflag]⟩
 |.mset _,_,_,v,h=>by simp only [RTy]at h ⊢;obtain ⟨h8,rfl⟩:=h;exact ⟨h8,by simp [V.reflag]⟩
 |.sl t,o,l,v,h=>by
  simp only [RTy]at h ⊢;obtain ⟨f,c,l',rfl,_,h⟩:=h;refine ⟨.shared,c,reflagL q3 l',by simp [V.reflag,q3],qjK rfl (by simp) (λ_=>rfl),?_⟩;rw [qbC];exact h.map λa b hab=>qiv t _ a b hab
 |.unit,_,_,v,h=>by simp only [RTy]at h ⊢;simp [h,V.reflag,reflagL]
 |.pair a b,o,x,v,h=>by
  simp only [RTy]at h ⊢;obtain ⟨v1,l,rfl,h1,h2⟩:=h;refine ⟨v1.reflag q3,reflagL q3 l,by simp [V.reflag,reflagL],qiv a o _ _ h1,?_⟩;have:=qiv b o _ _ h2;simpa only [V.reflag]using this
mutual
theorem RV.share:∀(x:TV) (v:V),RV x v->RV x.share (v.reflag q3)
 |.any rs,v,h=>by simp only [TV.share,RV]at h ⊢;rw [qhG];exact ⟨h.1,qfR h.2⟩
 |.t τ o x,v,h=>by simp only [TV.share,RV]at h ⊢;exact qiv τ o x v h
 |.clp τ x,v,h=>by
  simp only [TV.share,RV,RTy]at h ⊢;obtain ⟨f,l',rfl,_,h⟩:=h;refine ⟨.shared,true,reflagL q3 l',by simp [V.reflag,q3],qjK rfl (by simp) (λ_=>rfl),?_⟩;rw [qbC];exact h.map λa b hab=>qiv τ _ a b hab
 |.room a s,v,h=>by
  simp only [RV]at h;rcases a with _|a
  ·obtain ⟨_,n,rfl,h0⟩|⟨h9,_⟩:=h
   ·obtain rfl:=h0 rfl;simp only [TV.share,RV,V.reflag,q3];exact ⟨.shared,false,by simp,qjK rfl (by simp) (λ_=>rfl)⟩
   ·omega
  ·simp only [TV.share,RV];refine .inr ⟨Nat.le_refl _,?_⟩;obtain ⟨_,n,rfl,_⟩|⟨_,rfl|⟨f,hf0,rfl⟩⟩:=h
   ·by_cases hn:n=0
    ·exact .inr ⟨.shared,by simp,by simp [V.reflag,q3,hn]⟩
    ·exact .inl (by simp [V.reflag,q3,hn])
   ·exact .inl rfl
   ·exact .inr ⟨.shared,by simp,by simp [V.reflag,reflagL,q3]⟩
 |.empty own,v,h=>by simp only [TV.share,RV]at h ⊢;obtain ⟨f,c,rfl,_⟩:=h;exact ⟨.shared,c,by simp [V.reflag,reflagL,q3],qjK rfl (by simp) (λ_=>rfl)⟩
 |.val u,v,h=>by simp only [TV.share,RV]at h ⊢;simp [h,V.reflag]
 |.agg l,v,h=>by simp only [TV.share,RV]at h ⊢;obtain ⟨l',rfl,h⟩:=h;exact ⟨_,by simp only [V.reflag],RVL.share l l' h⟩
 |.tuple l,v,h=>by simp only [TV.share,RV]at h ⊢;obtain ⟨l',rfl,h⟩:=h;exact ⟨_,by simp only [V.reflag],RVL.share l l' h⟩
 |.fn g' a b,v,h=>by simp only [TV.share,RV]at h ⊢;obtain ⟨a',b',rfl,h1,h2⟩:=h;exact ⟨_,_,by simp only [V.reflag],RVL.share a a' h1,RVL.share b b' h2⟩
 |.ptr q o,v,h=>by simp only [TV.share,RV]at h ⊢;simp [h,V.reflag]
 |.mref q,v,h=>by simp only [TV.share,RV]at h ⊢;simp [h,V.reflag]
 |.bsl q _ _,v,h=>by simp only [TV.share,RV]at h ⊢;simp [h,V.reflag]
 |.yld q,v,h=>by simp only [TV.share,RV]at h ⊢;simp [h,V.reflag]
 |.lp ..,v,h=>by simp only [RV]at h
 |.cptr _ l,v,h=>by simp only [TV.share,RV]at h ⊢;obtain ⟨f,l',rfl,_,_,h⟩:=h;exact ⟨.shared,_,by simp only [V.reflag,q3],by simp,λ_=>rfl,RVL.share l l' h⟩
 |.iface t x,v,h=>by simp only [TV.share,RV]at h ⊢;obtain ⟨y,rfl,h⟩:=h;exact ⟨_,by simp only [V.reflag],RV.share x y h⟩
theorem RVL.share:∀(l:List TV) (l':List V),RVL l l'->RVL (shareL l) (reflagL q3 l')
 |[],l',h=>by simp only [RVL]at h;simp [h,shareL,reflagL,RVL]
 |x::l,l',h=>by
  simp only [RVL]at h;obtain ⟨v,m,rfl,h1,h2⟩:=h;simp only [shareL,reflagL];exact qC.2 ⟨RV.share x v h1,RVL.share l m h2⟩
end
theorem qzq{o:Nat}:qbY (lo o)=qbY o:=by
 rw [Bool.eq_iff_iff,qf6,qf6];unfold lo;split<;>omega
theorem qJF{o:Nat}:nx (lo o)=lo (nx o):=by
 have h1:=@qzq o;unfold nx;rw [h1];cases ho:qbY o with
 |false=>rfl
 |true =>
  have:=qf6.1 ho;simp only [if_true];unfold lo;split<;>split<;>omega
theorem qHo{o:Nat}:lo o=2000↔o=2000:=by unfold lo;split<;>omega
theorem qGs{g:Fl->Fl}(hg:∀f,g f=.own↔f=.own){o:Nat}{f:Fl}(h:FlR o f):FlR (lo o) (g f) :=
 ⟨λh2=>by rw [hg f,qzq];exact h.1 (λe=>h2 (qHo.2 e)),λh1=>by unfold lo at h1;split at h1<;>omega⟩
theorem qw1{g:Fl->Fl}(hg:∀f,g f=.own↔f=.own):∀(τ:Ty) (o:Nat) (x:τ.den) (v:V),RTy τ o x v->RTy τ (lo o) x (v.reflag g)
 |.int _,_,_,v,h=>by simp only [RTy]at h ⊢;simp [h,V.reflag]
 |.bool,_,_,v,h=>by simp only [RTy]at h ⊢;simp [h,V.reflag]
 |.str,_,_,v,h=>by simp only [RTy]at h ⊢;simp [h,V.reflag]
 |.flt,_,_,v,h=>by simp only [RTy]at h ⊢;obtain ⟨b9,rfl,h9⟩:=h;exact ⟨b9,by simp [V.reflag],h9⟩
 |.cx,_,_,v,h=>by simp only [RTy]at h ⊢;obtain ⟨a9,b9,rfl,h8,h9⟩:=h;exact ⟨a9,b9,by simp [V.reflag],h8,h9⟩
 |.err,_,_,v,h=>by simp only [RTy]at h ⊢;rcases h with ⟨hx,rfl⟩|⟨hx,t9,rfl⟩;exact .inl ⟨hx,by simp [V.reflag]⟩;exact .inr ⟨hx,t9,by simp [V.reflag]⟩
 |.mset _,_,_,v,h=>by simp only [RTy]at h ⊢;obtain ⟨h8,rfl⟩:=h;exact ⟨h8,by simp [V.reflag]⟩
 |.sl t,o,l,v,h=>by
  simp only [RTy]at h ⊢;obtain ⟨f,c,l',rfl,hf,h⟩:=h;refine ⟨g f,c,reflagL g l',by simp [V.reflag],qGs hg hf,?_⟩;rw [qbC,qJF];exact h.map λa b hab=>qw1 hg t _ a b hab
 |.unit,_,_,v,h=>by simp only [RTy]at h ⊢;simp [h,V.reflag,reflagL]
 |.pair a b,o,x,v,h=>by
  simp only [RTy]at h ⊢;obtain ⟨v1,l,rfl,h1,h2⟩:=h;refine ⟨v1.reflag g,reflagL g l,by simp [V.reflag,reflagL],qw1 hg a o _ _ h1,?_⟩;have:=qw1 hg b o _ _ h2;simpa only [V.reflag]using this
mutual
theorem RV.lo{g:Fl->Fl}(hg:∀f,g f=.own↔f=.own):∀(x:TV) (v:V),RV x v->RV x.qbX (v.reflag g)
 |.any rs,v,h=>by simp only [TV.qbX,RV]at h ⊢;rw [qhG];exact ⟨h.1,qfR h.2⟩
 |.t τ o x,v,h=>by simp only [TV.qbX,RV]at h ⊢;exact qw1 hg τ o x v h
 |.clp τ x,v,h=>by
  simp only [TV.qbX,RV]at h ⊢;obtain ⟨f,l',rfl,h0,h⟩:=h;refine ⟨g f,reflagL g l',by simp [V.reflag],λe=>h0 ((hg f).1 e),?_⟩;rw [qbC];exact h.map λa b hab=>qw1 hg τ 0 a b hab
 |.room a s,v,h=>by
  simp only [TV.qbX,RV]at h ⊢;obtain ⟨h1,n,rfl,h0⟩|⟨h1,rfl|⟨f,hf0,rfl⟩⟩:=h
  ·exact .inl ⟨h1,n,by simp only [V.reflag,if_pos ((hg .own).2 rfl)],h0⟩
  ·exact .inr ⟨h1,.inl rfl⟩
  ·exact .inr ⟨h1,.inr ⟨g f,λe=>hf0 ((hg f).1 e),by simp [V.reflag,reflagL]⟩⟩
 |.empty own,v,h=>by simp only [TV.qbX,RV]at h ⊢;obtain ⟨f,c,rfl,h0⟩:=h;exact ⟨g f,c,by simp [V.reflag,reflagL],qGs hg h0⟩
 |.val u,v,h=>by simp only [TV.qbX,RV]at h ⊢;simp [h,V.reflag]
 |.agg l,v,h=>by simp only [TV.qbX,RV]at h ⊢;obtain ⟨l',rfl,h⟩:=h;exact ⟨_,by simp only [V.reflag],RVL.lo hg l l' h⟩
 |.tuple l,v,h=>by simp only [TV.qbX,RV]at h ⊢;obtain ⟨l',rfl,h⟩:=h;exact ⟨_,by simp only [V.reflag],RVL.lo hg l l' h⟩
 |.fn g' a b,v,h=>by simp only [TV.qbX,RV]at h ⊢;obtain ⟨a',b',rfl,h1,h2⟩:=h;exact ⟨_,_,by simp only [V.reflag],RVL.lo hg a a' h1,RVL.lo hg b b' h2⟩
 |.ptr q o,v,h=>by simp only [TV.qbX,RV]at h ⊢;simp [h,V.reflag]
 |.mref q,v,h=>by simp only [TV.qbX,RV]at h ⊢;simp [h,V.reflag]
 |.bsl q _ _,v,h=>by simp only [TV.qbX,RV]at h ⊢;simp [h,V.reflag]
 |.yld q,v,h=>by simp only [TV.qbX,RV]at h ⊢;simp [h,V.reflag]
 |.lp ..,v,h=>by simp only [RV]at h
 |.cptr _ l,v,h=>by simp only [TV.qbX,RV]at h ⊢;obtain ⟨f,l',rfl,h0,_,h⟩:=h;exact ⟨g f,_,by simp only [V.reflag],λe=>h0 ((hg f).1 e),λe=>(by cases e),RVL.lo hg l l' h⟩
 |.iface t x,v,h=>by simp only [TV.qbX,RV]at h ⊢;obtain ⟨y,rfl,h⟩:=h;exact ⟨_,by simp only [V.reflag],RV.lo hg x y h⟩
theorem RVL.lo{g:Fl->Fl}(hg:∀f,g f=.own↔f=.own):∀(l:List TV) (l':List V),RVL l l'->RVL (loosenL l) (reflagL g l')
 |[],l',h=>by simp only [RVL]at h;simp [h,loosenL,reflagL,RVL]
 |x::l,l',h=>by
  simp only [RVL]at h;obtain ⟨v,m,rfl,h1,h2⟩:=h;simp only [loosenL,reflagL];exact qC.2 ⟨RV.lo hg x v h1,RVL.lo hg l m h2⟩
end
mutual
theorem reflag_id:∀v:V,v.reflag (λf=>f)=v
 |.undef|.val _|.ptr .. | .yld _|.mref _|.bsl .. | .mp _|.lp ..=>by simp [V.reflag]
 |.cptr _ l=>by simp only [V.reflag,reflagL_id l]
 |.room ..=>by simp [V.reflag]
 |.sl f c l=>by simp only [V.reflag,reflagL_id l]
 |.fn g a b=>by simp only [V.reflag,reflagL_id a,reflagL_id b]
 |.iface t x=>by simp only [V.reflag,reflag_id x]
 |.agg l=>by simp only [V.reflag,reflagL_id l]
 |.tuple l=>by simp only [V.reflag,reflagL_id l]
theorem reflagL_id:∀l:List V,reflagL (λf=>f) l=l
 |[]=>rfl
 |v::l=>by simp only [reflagL,reflag_id v,reflagL_id l]
end
theorem RV.lo0{x:TV}{v:V}(h:RV x v):RV x.qbX v:=by
 have:=RV.lo (g:=λf=>f) (λf=>Iff.rfl) x v h
 rwa [reflag_id]at this
theorem qHT{o d:Nat}(h:sure o (d+1)=true):sure (nx o) d=true:=by
 unfold nx;cases ho:qbY o with
 |false =>
  rcases qmK.1 ho with rfl|rfl|rfl
  ·simp [sure]at h
  ·simp [sure]
  ·simp [sure]at h
 |true =>
  have:=qf6.1 ho;simp only [if_true];unfold sure at h ⊢;by_cases h1:o<1000
  ·rw [if_pos h1]at h;rw [if_pos (by omega)];simp only [decide_eq_true_eq]at h ⊢;omega
  ·by_cases h2:o<2000
   ·by_cases h3:o-1<1000
    ·omega
    ·rw [if_neg h3,if_pos (by omega)]
   ·rw [if_neg h1,if_neg h2]at h;simp only [decide_eq_true_eq]at h;rw [if_neg (by omega),if_neg (by omega)];simp only [decide_eq_true_eq]<;>omega
theorem qDZ{o d d':Nat}(h:sure o d=true)(hd:d'<=d):sure o d'=true:=by
 unfold sure at h ⊢;by_cases h1:o<1000
 ·rw [if_pos h1]at h ⊢;simp only [decide_eq_true_eq]at h ⊢;omega
 ·by_cases h2:o<2000
  ·rw [if_neg h1,if_pos h2]
  ·rw [if_neg h1,if_neg h2]at h ⊢;simp only [decide_eq_true_eq]at h ⊢;omega
theorem qz5{o d:Nat}{f:Fl}(h:sure o (d+1)=true)(hf:FlR o f):f≠.qap:=by
 cases ho:qbY o with
 |true=>rw [hf.own ho];simp
 |false =>
  rcases qmK.1 ho with rfl|rfl|rfl
  ·simp [sure]at h
  ·rw [hf.2 rfl];simp
  ·simp [sure]at h
theorem qE5{l:List V}(h:∀x∈l,x.loose=false):looseL l=false:=by
 induction l with
 |nil=>rfl
 |cons a l ih =>
  simp only [looseL,Bool.or_eq_false_iff];exact ⟨h a (by simp),ih λx hx=>h x (by simp [hx])⟩
theorem qkh:∀(τ:Ty) (o:Nat) (x:τ.den) (v:V),sure o τ.depth=true->RTy τ o x v->v.soft=false/\v.loose=false
 |.int _,_,_,v,_,h=>by simp only [RTy]at h;subst h;exact ⟨rfl,rfl⟩
 |.bool,_,_,v,_,h=>by simp only [RTy]at h;subst h;exact ⟨rfl,rfl⟩
 |.str,_,_,v,_,h=>by simp only [RTy]at h;subst h;exact ⟨rfl,rfl⟩
 |.flt,_,_,v,_,h=>by simp only [RTy]at h;obtain ⟨b9,rfl,h9⟩:=h;exact ⟨rfl,rfl⟩
 |.cx,_,_,v,_,h=>by simp only [RTy]at h;obtain ⟨a9,b9,rfl,h8,h9⟩:=h;exact ⟨rfl,rfl⟩
 |.err,_,_,v,_,h=>by simp only [RTy]at h;rcases h with ⟨_,rfl⟩|⟨_,t9,rfl⟩<;>exact ⟨rfl,rfl⟩
 |.mset _,_,_,v,_,h=>by simp only [RTy]at h;obtain ⟨h8,rfl⟩:=h;exact ⟨rfl,rfl⟩
 |.sl t,o,l,v,hf,h=>by
  simp only [RTy]at h;obtain ⟨f,c,l',rfl,ho,h⟩:=h;simp only [Ty.depth]at hf;have hnd:=qz5 hf ho;have hall:∀b∈l',b.soft=false/\b.loose=false:=λb hb=>by
   obtain ⟨a,_,hr⟩:=qkp h b hb;exact qkh t _ a b (qHT hf) hr
  simp only [V.soft,V.loose,Bool.or_eq_false_iff,decide_eq_false_iff_not,Bool.and_eq_false_iff];exact ⟨⟨.inl hnd,qFX λb hb=>(hall b hb).1⟩,hnd,qE5 λb hb=>(hall b hb).2⟩
 |.unit,_,_,v,_,h=>by simp only [RTy]at h;subst h;exact ⟨rfl,rfl⟩
 |.pair a b,o,x,v,hf,h=>by
  simp only [RTy]at h;obtain ⟨v1,l,rfl,h1,h2⟩:=h;simp only [Ty.depth]at hf;have e1:=qkh a o _ _ (qDZ hf (by omega)) h1;have e2:=qkh b o _ _ (qDZ hf (by omega)) h2;simp only [V.soft,softL,V.loose,looseL,Bool.or_eq_false_iff]at e2 ⊢;exact ⟨⟨e1.1,e2.1⟩,e1.2,e2.2⟩
mutual
theorem RV.firm:∀(x:TV) (v:V),x.firm=true->RV x v->v.soft=false
 |.any rs,v,hf,h=>by simp [TV.firm]at hf
 |.t τ o x,v,hf,h=>by simp only [TV.firm]at hf;simp only [RV]at h;exact (qkh τ o x v hf h).1
 |.clp τ x,v,hf,h=>by simp [TV.firm]at hf
 |.room a s,v,hf,h=>by simp [TV.firm]at hf
 |.empty own,v,hf,h=>by simp only [RV]at h;obtain ⟨f,c,rfl,_⟩:=h;simp [V.soft,softL]
 |.val u,v,hf,h=>by simp only [RV]at h;subst h;rfl
 |.agg l,v,hf,h=>by simp only [RV]at h;obtain ⟨l',rfl,h⟩:=h;simp only [TV.firm]at hf;simp only [V.soft];exact RVL.firm l l' hf h
 |.tuple l,v,hf,h=>by simp only [RV]at h;obtain ⟨l',rfl,h⟩:=h;simp only [TV.firm]at hf;simp only [V.soft];exact RVL.firm l l' hf h
 |.fn g a b,v,hf,h=>by
  simp only [RV]at h;obtain ⟨a',b',rfl,h1,h2⟩:=h;simp only [TV.firm,qe]at hf;simp only [V.soft,Bool.or_eq_false_iff];exact ⟨RVL.firm a a' hf.1 h1,RVL.firm b b' hf.2 h2⟩
 |.ptr q o,v,hf,h=>by simp only [RV]at h;subst h;rfl
 |.mref q,v,hf,h=>by simp only [RV]at h;subst h;rfl
 |.bsl q _ _,v,hf,h=>by simp only [RV]at h;subst h;rfl
 |.yld q,v,hf,h=>by simp only [RV]at h;subst h;rfl
 |.lp ..,v,hf,h=>by simp only [RV]at h
 |.cptr s l,v,hf,h=>by
  simp only [TV.firm,qe]at hf;simp only [RV]at h;obtain ⟨f,l',rfl,_,hsh,h⟩:=h;have:=hsh hf.1;subst this;simp only [V.soft,RVL.firm l l' hf.2 h]<;>rfl
 |.iface t x,v,hf,h=>by simp only [RV]at h;obtain ⟨y,rfl,h⟩:=h;simp only [TV.firm]at hf;simp only [V.soft];exact RV.firm x y hf h
theorem RVL.firm:∀(l:List TV) (l':List V),firmL l=true->RVL l l'->softL l'=false
 |[],l',hf,h=>by simp only [RVL]at h;subst h;rfl
 |x::l,l',hf,h=>by
  simp only [RVL]at h;obtain ⟨v,m,rfl,h1,h2⟩:=h;simp only [firmL,qe]at hf;simp only [softL,Bool.or_eq_false_iff];exact ⟨RV.firm x v hf.1 h1,RVL.firm l m hf.2 h2⟩
end
mutual
theorem RV.tight:∀(x:TV) (v:V),x.tight=true->RV x v->v.loose=false
 |.any rs,v,hf,h=>by simp [TV.tight]at hf
 |.t τ o x,v,hf,h=>by simp only [TV.tight]at hf;simp only [RV]at h;exact (qkh τ o x v hf h).2
 |.clp τ x,v,hf,h=>by simp [TV.tight]at hf
 |.room a s,v,hf,h=>by simp [TV.tight]at hf
 |.empty o,v,hf,h=>by simp only [TV.tight]at hf;simp only [RV]at h;obtain ⟨f,c,rfl,h0⟩:=h;simp [V.loose,looseL,qz5 hf h0]
 |.val u,v,hf,h=>by simp only [RV]at h;subst h;rfl
 |.agg l,v,hf,h=>by simp only [RV]at h;obtain ⟨l',rfl,h⟩:=h;simp only [TV.tight]at hf;simp only [V.loose];exact RVL.tight l l' hf h
 |.tuple l,v,hf,h=>by simp only [RV]at h;obtain ⟨l',rfl,h⟩:=h;simp only [TV.tight]at hf;simp only [V.loose];exact RVL.tight l l' hf h
 |.fn g a b,v,hf,h=>by
  simp only [RV]at h;obtain ⟨a',b',rfl,h1,h2⟩:=h;simp only [TV.tight,qe]at hf;simp only [V.loose,Bool.or_eq_false_iff];exact ⟨RVL.tight a a' hf.1 h1,RVL.tight b b' hf.2 h2⟩
 |.ptr q o,v,hf,h=>by simp only [RV]at h;subst h;rfl
 |.mref q,v,hf,h=>by simp only [RV]at h;subst h;rfl
 |.bsl q _ _,v,hf,h=>by simp only [RV]at h;subst h;rfl
 |.yld q,v,hf,h=>by simp only [RV]at h;subst h;rfl
 |.lp ..,v,hf,h=>by simp only [RV]at h
 |.cptr s l,v,hf,h=>by
  simp only [TV.tight,qe]at hf;simp only [RV]at h;obtain ⟨f,l',rfl,_,hsh,h⟩:=h;have:=hsh hf.1;subst this;simp only [V.loose,RVL.tight l l' hf.2 h]<;>rfl
 |.iface t x,v,hf,h=>by simp only [RV]at h;obtain ⟨y,rfl,h⟩:=h;simp only [TV.tight]at hf;simp only [V.loose];exact RV.tight x y hf h
theorem RVL.tight:∀(l:List TV) (l':List V),tightL l=true->RVL l l'->looseL l'=false
 |[],l',hf,h=>by simp only [RVL]at h;subst h;rfl
 |x::l,l',hf,h=>by
  simp only [RVL]at h;obtain ⟨v,m,rfl,h1,h2⟩:=h;simp only [tightL,qe]at hf;simp only [looseL,Bool.or_eq_false_iff];exact ⟨RV.tight x v hf.1 h1,RVL.tight l m hf.2 h2⟩
end
theorem quZ{bx:Root->Option (List V)}:∀(τ:Ty) (o:Nat) (x:τ.den) (v:V),τ.isSet=false->RTy τ o x v->peekV bx v=some (v.reflag q3)
 |.int _,o,x,v,hns,h=>by simp only [RTy]at h;subst h;rfl
 |.bool,o,x,v,hns,h=>by simp only [RTy]at h;subst h;rfl
 |.str,o,x,v,hns,h=>by simp only [RTy]at h;subst h;rfl
 |.flt,o,x,v,hns,h=>by simp only [RTy]at h;obtain ⟨b9,rfl,h9⟩:=h;rfl
 |.cx,o,x,v,hns,h=>by simp only [RTy]at h;obtain ⟨a9,b9,rfl,h8,h9⟩:=h;rfl
 |.err,o,x,v,hns,h=>by simp only [RTy]at h;rcases h with ⟨_,rfl⟩|⟨_,t9,rfl⟩<;>rfl
 |.mset _,o,x,v,hns,h=>by simp [Ty.isSet]at hns
 |.sl _,o,x,v,hns,h=>by simp only [RTy]at h;obtain ⟨f,c,l',rfl,_⟩:=h;rfl
 |.unit,o,x,v,hns,h=>by simp only [RTy]at h;subst h;rfl
 |.pair a b,o,x,v,hns,h=>by
  simp only [RTy]at h;simp only [Ty.isSet,Bool.or_eq_false_iff]at hns;obtain ⟨v1,l,rfl,h1,h2⟩:=h;have e1:=quZ (bx:=bx) a o x.1 v1 hns.1 h1;have e2:=quZ (bx:=bx) b o x.2 _ hns.2 h2;simp only [peekV,V.reflag]at e2 ⊢;obtain ⟨m,hm,he⟩:=qc.1 e2;simp only [V.agg.injEq]at he;subst he;simp only [peekL,e1,hm,reflagL,qj]
theorem qvC{k:IntKind}:∀{l:List TV} {xs:List Int} {l':List V},qvB k l=some xs->RVL l l'->l'=xs.map λx=>V.val (.int k x)
 |[],xs,l',h,hr=>by
  simp only [qvB,qb]at h;subst h;simp only [RVL]at hr;rw [hr]<;>rfl
 |.t (.int k') o x::l,xs,l',h,hr=>by
  simp only [qvB]at h;split at h
  ·rename_i hk;obtain ⟨m,hm,rfl⟩:=qc.1 h;simp only [RVL]at hr;obtain ⟨v,vs,rfl,h1,h2⟩:=hr;simp only [RV,RTy]at h1;rw [h1,qvC hm h2,hk];rfl
  ·cases h
theorem qAG{k:IntKind}(xs:List Int):reflagL q3 (xs.map λx=>V.val (.int k x))=(xs.map λx=>V.val (.int k x))/\(xs.map λx=>V.val (.int k x)).all V.one=true/\ptrsL (xs.map λx=>V.val (.int k x))=[]:=by
 induction xs with
 |nil=>exact ⟨rfl,rfl,rfl⟩
 |cons x xs ih=>simp only [qi,reflagL,V.reflag,List.all_cons,ptrsL,V.qv,ih.1,ih.2.1,ih.2.2];exact ⟨trivial,by simp [V.one],rfl⟩
theorem qvx{k:IntKind}{o:Nat}:∀(xs:List Int),All2 (RTy (.int k) o) xs (xs.map λx=>V.val (.int k x))
 |[]=>.nil
 |x::xs=>.cons (by simp only [RTy]) (qvx xs)
mutual
theorem peekTV_ok{bt:Root->Option (List TV)}{bx:Root->Option (List V)}(hb:∀r c,bt r=some c->∃c',bx r=some c'/\RVL c c'/\(r.slot<16384->qjn c'=false)):∀(x y:TV) (v:V),peekTV bt x=some y->RV x v->∃u,peekV bx v=some u/\RV y u
 |.any _,y,v,h,hr=>by simp [peekTV]at h
 |.val w,y,v,h,hr=>by
  simp only [peekTV,qb]at h;subst h;simp only [RV]at hr;subst hr;exact ⟨.val w,rfl,by simp [RV]⟩
 |.t τ o x,y,v,h,hr=>by
  simp only [peekTV]at h;cases hs:τ.isSet with
  |true=>rw [hs]at h;cases h
  |false =>
   rw [hs]at h;simp only [cond_false,qb]at h;subst h;simp only [RV]at hr;exact ⟨_,quZ τ o x v hs hr,by simp only [RV];exact qiv τ o x v hr⟩
 |.mref _,y,v,h,hr=>by simp [peekTV]at h
 |.yld _,y,v,h,hr=>by simp [peekTV]at h
 |.lp ..,y,v,h,hr=>by simp [peekTV]at h
 |.bsl r off n,y,v,h,hr=>by
  simp only [peekTV]at h;split at h
  ·rename_i c hc;split at h
   ·rename_i hle;obtain ⟨xs,hxs,rfl⟩:=qc.1 h;simp only [RV]at hr;subst hr;obtain ⟨c',hc',hrc,hmp⟩:=hb r c hc;have hl:=qvC hxs ((hrc.drop off).take n);obtain ⟨e1,e2,e3⟩:=qAG (k:=.i64) xs;refine ⟨.sl .shared false (reflagL q3 ((c'.drop off).take n)),?_,?_⟩
    ·simp only [peekV,hc'];rw [if_pos ⟨qgL (qbm hrc) (hmp hle.2),by rw [hrc.length];exact hle.1,by rw [hl,e1];exact e2,by rw [hl];exact e3⟩]
    ·simp only [RV,RTy];refine ⟨.shared,false,_,rfl,⟨λ_=>by simp [qbY],λ_=>rfl⟩,?_⟩;rw [hl,e1];exact qvx (o:=0) xs
   ·cases h
  ·cases h
 |.clp τ x,y,v,h,hr=>by
  simp only [peekTV,qb]at h;subst h;have h2:=RV.share (.clp τ x) v hr;simp only [RV]at hr;obtain ⟨f,l',rfl,_,_⟩:=hr;exact ⟨_,rfl,h2⟩
 |.room a s,y,v,h,hr=>by simp [peekTV]at h
 |.empty o,y,v,h,hr=>by
  simp only [peekTV,qb]at h;subst h;have h2:=RV.share (.empty o) v hr;simp only [RV]at hr;obtain ⟨f,c,rfl,_⟩:=hr;exact ⟨_,rfl,h2⟩
 |.agg l,y,v,h,hr=>by
  simp only [peekTV]at h;obtain ⟨m,hm,rfl⟩:=qc.1 h;simp only [RV]at hr;obtain ⟨l',rfl,hl⟩:=hr;obtain ⟨u,hu,hru⟩:=peekTL_ok hb l m l' hm hl;exact ⟨.agg u,by simp only [peekV,hu,qj],by simp only [RV];exact ⟨u,rfl,hru⟩⟩
 |.tuple l,y,v,h,hr=>by
  simp only [peekTV]at h;obtain ⟨m,hm,rfl⟩:=qc.1 h;simp only [RV]at hr;obtain ⟨l',rfl,hl⟩:=hr;obtain ⟨u,hu,hru⟩:=peekTL_ok hb l m l' hm hl;exact ⟨.tuple u,by simp only [peekV,hu,qj],by simp only [RV];exact ⟨u,rfl,hru⟩⟩
 |.fn g a b,y,v,h,hr=>by
  simp only [peekTV]at h;split at h
  ·rename_i p q hp hq;simp only [qb]at h;subst h;simp only [RV]at hr;obtain ⟨a',b',rfl,h1,h2⟩:=hr;obtain ⟨u,hu,hru⟩:=peekTL_ok hb a p a' hp h1;obtain ⟨w,hw,hrw⟩:=peekTL_ok hb b q b' hq h2;exact ⟨.fn g u w,by simp only [peekV,hu,hw],by simp only [RV];exact ⟨u,w,rfl,hru,hrw⟩⟩
  ·cases h
 |.ptr r off,y,v,h,hr=>by
  simp only [peekTV]at h;split at h
  ·rename_i c hc;split at h
   ·rename_i hle;simp only [qb]at h;subst h;simp only [RV]at hr;subst hr;obtain ⟨c',hc',hrc,hmp⟩:=hb r c hc;refine ⟨.cptr .shared (reflagL q3 (c'.drop off)),?_,?_⟩
    ·simp only [peekV,hc'];rw [if_pos ⟨qgL (qbm hrc) (hmp hle.2),by rw [hrc.length];exact hle.1⟩]
    ·simp only [RV];exact ⟨.shared,_,rfl,by simp,λ_=>rfl,RVL.share _ _ (hrc.drop off)⟩
   ·cases h
  ·cases h
 |.cptr _ cs,y,v,h,hr=>by
  simp only [peekTV,qb]at h;subst h;simp only [RV]at hr;obtain ⟨f,l',rfl,_,_,hl⟩:=hr;refine ⟨.cptr .shared (reflagL q3 l'),rfl,?_⟩;simp only [RV];exact ⟨.shared,_,rfl,by simp,λ_=>rfl,RVL.share _ _ hl⟩
 |.iface t x,y,v,h,hr=>by
  simp only [peekTV]at h;obtain ⟨m,hm,rfl⟩:=qc.1 h;simp only [RV]at hr;obtain ⟨l',rfl,hl⟩:=hr;obtain ⟨u,hu,hru⟩:=peekTV_ok hb x m l' hm hl;exact ⟨.iface t u,by simp only [peekV,hu,qj],by simp only [RV];exact ⟨u,rfl,hru⟩⟩
theorem peekTL_ok{bt:Root->Option (List TV)}{bx:Root->Option (List V)}(hb:∀r c,bt r=some c->∃c',bx r=some c'/\RVL c c'/\(r.slot<16384->qjn c'=false)):∀(l m:List TV) (l':List V),peekTL bt l=some m->RVL l l'->∃u,peekL bx l'=some u/\RVL m u
 |[],m,l',h,hr=>by
  simp only [peekTL,qb]at h;subst h;simp only [RVL]at hr;subst hr;exact ⟨[],rfl,qaU⟩
 |x::l,m,l',h,hr=>by
  simp only [peekTL]at h;split at h
  ·rename_i p q hp hq;simp only [qb]at h;subst h;simp only [RVL]at hr;obtain ⟨v,vs,rfl,h1,h2⟩:=hr;obtain ⟨u,hu,hru⟩:=peekTV_ok hb x p v hp h1;obtain ⟨w,hw,hrw⟩:=peekTL_ok hb l q vs hq h2;exact ⟨u::w,by simp only [peekL,hu,hw],qC.2 ⟨hru,hrw⟩⟩
  ·cases h
end
theorem qFe{l:List V}(h:∀x∈l,x.qd0=true):mineL l=true:=by
 induction l with
 |nil=>rfl
 |cons x l ih=>simp only [mineL,qe];exact ⟨h x (by simp),ih λy hy=>h y (by simp [hy])⟩
theorem qqe:∀(τ:Ty) (o:Nat) (x:τ.den) (v:V),qxe τ o=true->RTy τ o x v->v.qd0=true
 |.int _,o,x,v,hm,h=>by simp only [RTy]at h;subst h;rfl
 |.bool,o,x,v,hm,h=>by simp only [RTy]at h;subst h;rfl
 |.str,o,x,v,hm,h=>by simp only [RTy]at h;subst h;rfl
 |.flt,o,x,v,hm,h=>by simp only [RTy]at h;obtain ⟨b9,rfl,h9⟩:=h;rfl
 |.cx,o,x,v,hm,h=>by simp only [RTy]at h;obtain ⟨a9,b9,rfl,h8,h9⟩:=h;rfl
 |.err,o,x,v,hm,h=>by simp only [RTy]at h;rcases h with ⟨_,rfl⟩|⟨_,t9,rfl⟩<;>rfl
 |.mset _,o,x,v,hm,h=>by simp [qxe]at hm
 |.sl t,o,x,v,hm,h=>by
  simp only [qxe,qe]at hm;simp only [RTy]at h;obtain ⟨f,c,l',rfl,hf,hall⟩:=h;simp only [V.qd0,qe,decide_eq_true_eq];refine ⟨hf.own hm.1,qFe λy hy=>?_⟩;obtain ⟨a,_,ha⟩:=qkp hall y hy;exact qqe t _ a y hm.2 ha
 |.unit,o,x,v,hm,h=>by simp only [RTy]at h;subst h;rfl
 |.pair a b,o,x,v,hm,h=>by
  simp only [qxe,qe]at hm;simp only [RTy]at h;obtain ⟨v1,l,rfl,h1,h2⟩:=h;have e1:=qqe a o x.1 v1 hm.1 h1;have e2:=qqe b o x.2 _ hm.2 h2;simp only [V.qd0]at e2 ⊢;simp only [mineL,qe];exact ⟨e1,e2⟩
mutual
theorem RV.qd0:∀(x:TV) (v:V),x.qd0=true->RV x v->v.qd0=true
 |.any _,v,hm,hr=>by simp [TV.qd0]at hm
 |.val w,v,hm,hr=>by simp only [RV]at hr;subst hr;rfl
 |.t τ o x,v,hm,hr=>by simp only [RV]at hr;exact qqe τ o x v (by simpa only [TV.qd0]using hm) hr
 |.clp τ x,v,hm,hr=>by simp [TV.qd0]at hm
 |.room a s,v,hm,hr=>by simp [TV.qd0]at hm
 |.empty o,v,hm,hr=>by
  simp only [TV.qd0]at hm;simp only [RV]at hr;obtain ⟨f,c,rfl,hf⟩:=hr;simp only [V.qd0,qe,decide_eq_true_eq];exact ⟨hf.own hm,rfl⟩
 |.agg l,v,hm,hr=>by
  simp only [TV.qd0]at hm;simp only [RV]at hr;obtain ⟨l',rfl,hl⟩:=hr;simp only [V.qd0];exact RVL.qd0 l l' hm hl
 |.tuple l,v,hm,hr=>by
  simp only [TV.qd0]at hm;simp only [RV]at hr;obtain ⟨l',rfl,hl⟩:=hr;simp only [V.qd0];exact RVL.qd0 l l' hm hl
 |.fn g a b,v,hm,hr=>by
  simp only [TV.qd0,qe]at hm;simp only [RV]at hr;obtain ⟨a',b',rfl,h1,h2⟩:=hr;simp only [V.qd0,qe];exact ⟨RVL.qd0 a a' hm.1 h1,RVL.qd0 b b' hm.2 h2⟩
 |.ptr ..,v,hm,hr=>by simp [TV.qd0]at hm
 |.mref _,v,hm,hr=>by simp [TV.qd0]at hm
 |.bsl ..,v,hm,hr=>by simp [TV.qd0]at hm
 |.yld _,v,hm,hr=>by simp [TV.qd0]at hm
 |.lp ..,v,hm,hr=>by simp [TV.qd0]at hm
 |.cptr ..,v,hm,hr=>by simp [TV.qd0]at hm
 |.iface t x,v,hm,hr=>by
  simp only [TV.qd0]at hm;simp only [RV]at hr;obtain ⟨y,rfl,hy⟩:=hr;simp only [V.qd0];exact RV.qd0 x y hm hy
theorem RVL.qd0:∀(l:List TV) (l':List V),mineTL l=true->RVL l l'->mineL l'=true
 |[],l',hm,hr=>by simp only [RVL]at hr;subst hr;rfl
 |x::l,l',hm,hr=>by
  simp only [mineTL,qe]at hm;simp only [RVL]at hr;obtain ⟨v,m,rfl,h1,h2⟩:=hr;simp only [mineL,qe];exact ⟨RV.qd0 x v hm.1 h1,RVL.qd0 l m hm.2 h2⟩
end
end
section
variable {P:Program} {H:Hints} {f:FuncId}
theorem qAo(p:Bool)(u:Value):RVL (qpm p u).cells (qec p u).cells:=by
 have h:=qu1 p u;have h1:(qpm p u).cells=[qpm p u]:=by unfold qpm;split<;>(try split)<;>rfl
 have h2:(qec p u).cells=[qec p u]:=by unfold qec qgF;split<;>(try split)<;>rfl
 rw [h1,h2];exact qC.2 ⟨h,qaU⟩
theorem qxw(p:Bool)(u:Value):RVL (qqr p u).cells (ofConst p u).cells:=by
 have key:=qAo p u;cases u<;>first|exact key|exact qyv (qu1 p) _
theorem qnM{t:TypeId}{z:TV}(h:qBy P H f t=some z):∃z',zeroOf P H f t=some z'/\RV z z'/\RVL z.cells z'.cells:=by
 unfold qBy at h;obtain ⟨u,hu,rfl⟩:=qc.1 h;exact ⟨ofConst (H.precise f) u,by unfold zeroOf;rw [hu];rfl,qzV _ _,qxw _ _⟩
theorem qnE{cs vs:List TV}{cs' vs':List V}{off:Nat}(h:RVL cs cs')(hv:RVL vs vs'):RVL (qoK cs off vs) (qV cs' off vs'):=by
 unfold qoK qV;rw [hv.length];exact ((h.take off).append hv).append (h.drop _)
theorem qpW(place:Nat->Option (Nat×Nat)):∀(is:List Nat) (xs:List TV) (ys:List V) (cs r:List TV) (cs':List V),RVL xs ys->RVL cs cs'->qvQ place cs (is.zip xs)=some r ->
  ∃r',qjl place cs' (is.zip ys)=some r'/\RVL r r'
 |[],xs,ys,cs,r,cs',hx,hc,h=>by simp only [List.zip_nil_left,qvQ,qb]at h;subst h;exact ⟨cs',by simp [qjl],hc⟩
 |i::is,[],ys,cs,r,cs',hx,hc,h=>by
  simp only [RVL]at hx;subst hx;simp only [List.zip_nil_right,qvQ,qb]at h;subst h;exact ⟨cs',by simp [qjl],hc⟩
 |i::is,x::xs,ys,cs,r,cs',hx,hc,h=>by
  simp only [RVL]at hx;obtain ⟨v,m,rfl,h1,h2⟩:=hx;simp only [List.zip_cons_cons,qvQ]at h;simp only [List.zip_cons_cons,qjl];split at h
  ·cases h
  ·rename_i off size hp;rw [hp];simp only
   split at h
   ·cases h
   ·rename_i hn;simp only [not_or,Decidable.not_not,Bool.not_eq_false]at hn;obtain ⟨hl,ho,hk⟩:=hn;obtain ⟨hcells,hko⟩:=RV.cells hk h1;rw [if_neg]
    ·exact qpW place is xs m _ r _ h2 (qnE hc hcells) h
    ·rw [hcells.length,hc.length,hko];simp only [not_or,Decidable.not_not,Bool.not_eq_false];exact ⟨hl,ho,trivial⟩
theorem qD6{t:TypeId}{is:List Nat}{xs:List TV}{ys:List V}{x:TV}(hx:RVL xs ys)(h:qD5 P H f t (is.zip xs)=some x) :
  ∃v,qtN P H f t (is.zip ys)=some v/\RV x v:=by
 unfold qD5 at h;unfold qtN;split at h
 ·rename_i z fields hz hu;obtain ⟨z',hz',_,hcz⟩:=qnM hz;split at h
  ·rename_i places hpl;obtain ⟨l,hl,rfl⟩:=qc.1 h;obtain ⟨l',hl',hr⟩:=qpW _ _ _ _ _ _ _ hx hcz hl;refine ⟨.agg l',?_,by simp only [RV];exact ⟨l',rfl,hr⟩⟩;rw [hz',hu];simp only [hpl,hl',qj]
  ·cases h
 ·rename_i z n elem hz hu;obtain ⟨z',hz',_,hcz⟩:=qnM hz;split at h
  ·rename_i ie hie;obtain ⟨l,hl,rfl⟩:=qc.1 h;obtain ⟨l',hl',hr⟩:=qpW _ _ _ _ _ _ _ hx hcz hl;refine ⟨.agg l',?_,by simp only [RV];exact ⟨l',rfl,hr⟩⟩;rw [hz',hu];simp only [hie,hl',qj]
  ·cases h
 ·cases h
theorem qy6{agg:Bool}{s:Nat}:∀(n:Nat) {cs:List TV} {cs':List V},RVL cs cs'->RVL (qo0 agg s n cs) (chunk agg s n cs')
 |0,_,_,_=>by simp [qo0,chunk,RVL]
 |n+1,cs,cs',h=>by
  simp only [qo0,chunk];refine qC.2 ⟨?_,qy6 n (h.drop s)⟩;cases agg with
  |true=>simp only [if_true,RV];exact ⟨_,rfl,h.take s⟩
  |false =>
   simp only [qf,if_false];cases cs with
   |nil=>simp only [RVL]at h;subst h;exact qfe []
   |cons y cs=>simp only [RVL]at h;obtain ⟨v,m,rfl,h1,_⟩:=h;exact h1
theorem qsE{t:TypeId}{len:Nat}{is:List Nat}{xs:List TV}{ys:List V}{x:TV}(hx:RVL xs ys)(h:qmh P H f t len (is.zip xs)=some x) :
  ∃v,qfJ P H f t len (is.zip ys)=some v/\RV x v:=by
 unfold qmh at h;unfold qfJ;split at h
 ·rename_i elem hu;rw [hu];simp only;split at h
  ·rename_i ie z τ hie hz hτ;obtain ⟨z',hz',_,hcz⟩:=qnM hz;rw [hie,hz'];simp only;split at h
   ·cases h
   ·rename_i hn;simp only [not_or]at hn;rw [if_neg (by rw [hcz.length];simp only [not_or];exact ⟨hn.1,hn.2.1,hn.2.2.1,hn.2.2.2.1⟩)];split at h
    ·rename_i cs hcs;obtain ⟨cs',hcs',hr⟩:=qpW _ _ _ _ _ _ _ hx (RVL.flatten hcz) hcs;rw [hcs'];simp only;split at h
     ·rename_i hc;simp only [qe,List.isEmpty_iff]at hc;obtain ⟨hc,hup⟩:=hc;obtain ⟨hup1,hup2⟩:=qFi hup;obtain ⟨l,hl,rfl⟩:=qc.1 h;have hp:ptrsL cs'=[]:=by
       apply List.eq_nil_iff_forall_not_mem.2;intro r hrr;have:=RVL.qv cs cs' hr r hrr;rw [hc.2]at this;cases this
      rw [if_pos ⟨RVL.qJG hc.1 hr,by rw [hp];rfl⟩];refine ⟨_,rfl,?_⟩;simp only [RV,RTy];exact ⟨.own,false,_,rfl,qg1 hup,by rw [hup1];exact qy1 _ _ _ hl (qy6 _ hr)⟩
     ·cases h
    ·cases h
  ·cases h
 ·cases h
theorem qfF{t:TypeId}{cs:List TV}{cs':List V}{x:TV}(h:qdd P t cs=some x)(hc:RVL cs cs'):∃v,qar P t cs'=some v/\RV x v:=by
 unfold qdd at h;unfold qar;split at h
 ·cases h
 ·rename_i d hd;rw [hd];simp only;split at h
  ·rename_i ha;rw [if_pos ha];split at h
   ·rename_i hl;cases h;rw [if_pos (by rw [hc.length];exact hl)];exact ⟨_,rfl,by simp only [RV];exact ⟨_,rfl,hc.take _⟩⟩
   ·cases h
  ·rename_i ha;rw [if_neg ha];obtain ⟨v,hv,hr⟩:=RVL.head hc h;exact ⟨v,hv,hr⟩
theorem qD8{t:TypeId}{x y:TV}{v:V}{fd:Nat}(h:qD7 P t x fd=some y)(hx:RV x v):∃u,qtO P t v fd=some u/\RV y u:=by
 unfold qD7 at h;split at h
 ·rename_i fields cs hu;simp only [RV]at hx;obtain ⟨cs',rfl,hc⟩:=hx;unfold qtO;rw [hu];simp only;split at h
  ·rename_i d hd;rw [hd];simp only;exact qfF h (hc.drop _)
  ·cases h
 ·cases h
theorem qvc{t:TypeId}{x y:TV}{v:V}{fd:Nat}(h:qoQ P t x fd=some y)(hx:RV x v):∃u,qdN P t v fd=some u/\RV y u:=by
 unfold qoQ at h;unfold qdN;split at h
 ·rename_i fields hu;rw [hu];simp only;split at h
  ·rename_i d hd;rw [hd];simp only;split at h
   ·cases h
   ·rename_i h0;rw [if_neg h0];split at h
    ·rename_i r off;cases h;simp only [RV]at hx;subst hx;exact ⟨_,rfl,by simp [RV]⟩
    ·rename_i sh cs;simp only [RV]at hx;obtain ⟨f',cs',rfl,hf0,hsh,hc⟩:=hx;split at h
     ·rename_i hl;cases h;simp only
      rw [if_pos (by rw [hc.length];exact hl)];exact ⟨_,rfl,by simp only [RV];exact ⟨_,_,rfl,hf0,hsh,hc.drop _⟩⟩
     ·cases h
    ·cases h
  ·cases h
 ·cases h
theorem qnI{R:Type}{i:Int}{k:Nat->Option R}{r:R}:∀{n j:Nat},qH0 R i k n j=some r->∃m,j<=m/\m<j+n/\i=(m:Int)/\k m=some r
 |0,j,h=>by simp [qH0]at h
 |n+1,j,h=>by
  simp only [qH0]at h;cases hd:decide (i=(j:Int))with
  |true=>rw [hd]at h;exact ⟨j,Nat.le_refl _,by omega,of_decide_eq_true hd,h⟩
  |false =>
   rw [hd]at h;obtain ⟨m,h1,h2,h3,h4⟩:=qnI (n:=n) (j:=j+1) h;exact ⟨m,by omega,by omega,h3,h4⟩
theorem qsb{x:TV}{n:Int}{v:V}(h:qBs x=some n)(hx:RV x v):∃k,v=.val (.int k n):=by
 unfold qBs at h;split at h
 ·rename_i k o m;cases h;simp only [RV,RTy]at hx;exact ⟨k,hx⟩
 ·cases h
theorem qim{k:IntKind}{n:Int}(h:0<=n):qnc (.val (.int k n))=some n.toNat:=by simp [qnc,h]
theorem qu6{α:Type}{l r:List α}{a b:Int}(h:slc l a b=some r):0<=a/\a<=b/\b<=l.length/\r=(l.take b.toNat).drop a.toNat:=by
 unfold slc at h;split at h
 ·rename_i hc;cases h;exact ⟨hc.1,hc.2.1,hc.2.2,rfl⟩
 ·cases h
theorem qp0{α:Type}{l:List α}{n:Int}{e:α}(h:idx l n=some e):0<=n/\l[n.toNat]?=some e:=by
 unfold idx at h;split at h
 ·rename_i hc;exact ⟨hc,h⟩
 ·cases h
theorem qhr{α:Type}{l l2 r:List α}(h:app l l2=some r):l.length+l2.length<=4294967296/\r=l++l2:=by
 unfold app at h;split at h
 ·rename_i hc;cases h;exact ⟨hc,rfl⟩
 ·cases h
theorem qFf{α:Type}{z:α}{n:Int}{r:List α}(h:mkS z n=some r):0<=n/\n<=4294967296/\r=List.replicate n.toNat z:=by
 unfold mkS at h;split at h
 ·rename_i hc;cases h;exact ⟨hc.1,hc.2,rfl⟩
 ·cases h
theorem qft{τ:Ty}(he:τ.qc9=true){o:Nat}{l:List τ.den}{l':List V}(h:All2 (RTy τ o) l l'):∀e∈l',e.cells.length=τ.qca/\e.oks=true/\e.qv=[]:=λe he'=>by
 obtain ⟨a,_,hr⟩:=qkp h e he';obtain ⟨h1,h2⟩:=qoG he hr;exact ⟨h1,h2,qfd _ _ _ _ hr⟩
theorem qBI{τ:Ty}{o:Nat}{l:List τ.den}{l':List V}(h:All2 (RTy τ o) l l'):ptrsL l'=[]:=by
 apply List.eq_nil_iff_forall_not_mem.2;intro r hr;obtain ⟨v,hv,hrv⟩:=qrI.1 hr;obtain ⟨a,_,h2⟩:=qkp h v hv;rw [qfd _ _ _ _ h2]at hrv;cases hrv
theorem qhW{v:V}(h:v.qv=[]):ptrsL v.cells=[]:=by
 cases v<;>first|exact h|(simp only [V.cells,ptrsL,List.append_nil];exact h)
theorem qli{τ:Ty}{elem:TypeId}{o:Nat}{l:List τ.den}{l':List V}{n:Int}{e:τ.den}{k:IntKind}{t:TypeId}{fl:Fl}{c sh:Bool}(hsh:sh=true->fl=.shared)(hu:P.underlying t=some (.slice elem))(hall:All2 (RTy τ o) l l')(hc:P.cellsOf elem=τ.qca)(h0:τ.qca≠0)(he:τ.qc9=true)
  (h:idx l n=some e):∃v,qb6 P t (.sl fl c l') (.val (.int k n))=some v/\RV (.cptr sh (ofTy τ (dl o) e).cells) v:=by
 obtain ⟨h1,h2⟩:=qp0 h;obtain ⟨b,hb,hr⟩:=hall.get h2;obtain ⟨hl,hk⟩:=qoG he hr;refine ⟨.cptr (qac fl) (reflagL qac b.cells),?_,?_⟩
 ·simp only [qb6,hu];rw [if_pos h1,hb];simp only
  rw [if_pos ⟨by rw [hl,hc],hk,by rw [hc];exact h0,by rw [qhW (qfd _ _ _ _ hr)];rfl⟩]
 ·have hd:=qkR qnZ rfl τ o e b hr;have hcells:=(RV.cells (quG he (dl o) e) (rv_ofTy τ (dl o) e _ hd)).1;simp only [RV];refine ⟨_,_,rfl,by cases fl<;>simp [qac],λe=>(by rw [hsh e];rfl),?_⟩;have hre:(b.reflag qac).cells=reflagL qac b.cells:=qoZ qac b;rw [<- hre];exact hcells
theorem qve{t:TypeId}{x:TV}{k0:IntKind}{i:Int}{R:Type}{k:TV->Option R}{r:R}{v:V}(h:qoR P t x i R k=some r)(hx:RV x v) :
  ∃y u,k y=some r/\qb6 P t v (.val (.int k0 i))=some u/\RV y u:=by
 unfold qoR at h;split at h
 ·rename_i len elem q off hu;split at h
  ·cases h
  ·rename_i h0;obtain ⟨m,_,hm,rfl,hk⟩:=qnI h;simp only [RV]at hx;subst hx;refine ⟨_,.ptr q (off+m*P.cellsOf elem),hk,?_,by simp [RV]⟩;simp only [qb6,hu];rw [if_pos ⟨by omega,by omega,h0⟩];simp
 ·rename_i len elem sh cs hu;split at h
  ·cases h
  ·rename_i h0;obtain ⟨m,_,hm,rfl,hk⟩:=qnI h;split at hk
   ·rename_i hl;simp only [RV]at hx;obtain ⟨f',cs',rfl,hf0,hsh,hc⟩:=hx;refine ⟨_,.cptr f' (cs'.drop (m*P.cellsOf elem)),hk,?_,by simp only [RV];exact ⟨_,_,rfl,hf0,hsh,hc.drop _⟩⟩;simp only [qb6,hu];rw [if_pos ⟨by omega,by omega,h0,by rw [hc.length];simpa using hl⟩];simp
   ·cases hk
 ·rename_i elem τ o l hu;split at h
  ·rename_i hc;obtain ⟨e,he,hk⟩:=qd.1 h;simp only [RV,RTy]at hx;obtain ⟨fl,c,l',rfl,hfl,hall⟩:=hx;obtain ⟨u,hu',hr⟩:=qli (k:=k0) (fl:=fl) (c:=c) (sh:=decide (o=1000)) (λe=>hfl.2 (of_decide_eq_true e)) hu hall hc.1 hc.2.1 hc.2.2.2 he;exact ⟨_,u,hk,hu',hr⟩
  ·cases h
 ·rename_i elem τ l hu;split at h
  ·rename_i hc;obtain ⟨e,he,hk⟩:=qd.1 h;simp only [RV]at hx;obtain ⟨fl,l',rfl,_,hall⟩:=hx;obtain ⟨u,hu',hr⟩:=qli (k:=k0) (fl:=fl) (c:=true) (sh:=false) (λe=>by cases e) hu hall hc.1 hc.2.1 hc.2.2.2 he;exact ⟨_,u,hk,hu',hr⟩
  ·cases h
 ·cases h
theorem qEb{elem t:TypeId}{len:Nat}{cs:List TV}{cs':List V}{k0:IntKind}{i:Int}{R:Type}{k:TV->Option R}{r:R}(hu:P.underlying t=some (.array len elem))(h:qEa P elem len cs i R k=some r)(hc:RVL cs cs') :
  ∃y u,k y=some r/\qsk P t (.agg cs') (.val (.int k0 i))=some u/\RV y u:=by
 unfold qEa at h;split at h
 ·cases h
 ·rename_i h0;obtain ⟨m,_,hm,rfl,hk⟩:=qnI h;split at hk
  ·rename_i v hv;obtain ⟨u,hu',hr⟩:=qfF hv (hc.drop _);refine ⟨_,u,hk,?_,hr⟩;simp only [qsk,hu];rw [if_pos ⟨by omega,by omega,h0⟩];simpa using hu'
  ·cases hk
def RVO:Option TV->Option V->Prop
 |none,none=>True
 |some x,some v=>RV x v
 |_,_=>False
theorem qfV{b:Option V}(h:RVO none b):b=none:=by cases b<;>simp_all [RVO]
theorem qqf{x:TV}{b:Option V}(h:RVO (some x) b):∃v,b=some v/\RV x v:=by
 cases b with
 |none=>simp [RVO]at h
 |some v=>exact ⟨v,rfl,h⟩
theorem qhB{d:Nat}{d0:Int}{lo:Option TV}{lo':Option V}{a:Int}(h:(match lo with|none=>some d0|some v=>qBs v)=some a)(hlo:RVO lo lo')(hd:d0=d)(h0:0<=a):qhR d lo'=some a.toNat:=by
 cases lo with
 |none=>rw [qfV hlo];simp only [qb]at h;subst h;subst hd;simp [qhR]
 |some x =>
  obtain ⟨v,rfl,hr⟩:=qqf hlo;obtain ⟨k,rfl⟩:=qsb h hr;simp [qhR,qim h0]
theorem qGY{R:Type}{c:Prop}[Decidable c]{x:Option R}{r:R}(h:(bif decide c then x else none)=some r):c/\x=some r:=by
 cases hd:decide c with
 |true=>rw [hd]at h;exact ⟨of_decide_eq_true hd,h⟩
 |false=>rw [hd]at h;cases h
theorem qEe{t:TypeId}{x:TV}{v:V}{lo hi mx:Option TV}{lo' hi' mx':Option V}{R:Type}{k:TV->Option R}{r:R}(hx:RV x v)(hlo:RVO lo lo')(hhi:RVO hi hi')(hmx:RVO mx mx')
  (h:qEd P t x lo hi mx R k=some r):∃y u,k y=some r/\qgf P t v lo' hi' mx'=some u/\RV y u:=by
 unfold qEd at h;simp only at h;split at h
 ·rename_i elem τ oo l hu;simp only [RV,RTy]at hx;obtain ⟨fl,c,l',rfl,hfl,hall⟩:=hx;split at h
  ·cases h
  ·rename_i hn;simp only [not_or,Decidable.not_not,Bool.not_eq_false,Bool.not_eq_true]at hn;obtain ⟨hoo,hoo2,h0,hcl,hok,hel⟩:=hn;have hown:fl≠.own:=hfl.not hoo hoo2;have hnx:nx oo=oo:=by unfold nx;rw [hoo];rfl
   have hcells:l'.all (λe=>decide (e.cells.length=P.cellsOf elem))=true:=by
    rw [List.all_eq_true];intro e he;rw [(qft hel hall e he).1,hcl];simp
   have hvs:∀(mx:Option V),qgf P t (.sl fl c l') lo' hi' mx=(match qhR 0 lo',qhR l'.length hi' with
     |some a,some b =>
      match mx with
      |none=>if a<=b/\b<=l'.length then some (.sl fl (c&&decide (b=l'.length)) ((l'.take b).drop a))else none
      |some m=>if qnc m=some b/\hi'.isSome/\a<=b/\b<=l'.length then some (.sl fl true ((l'.take b).drop a))else none
     |_,_=>none):=λmx=>by
    unfold qgf;rw [hu];simp only;rw [if_neg (by simp only [not_or,Bool.not_eq_false];exact ⟨hown,h0,hcells⟩)];rfl
   split at h
   ·rename_i a b ha hb;have hfin:∀q,slc l a b=some q->qhR 0 lo'=some a.toNat/\qhR l'.length hi'=some b.toNat/\a.toNat<=b.toNat/\b.toNat<=l'.length/\All2 (RTy τ (nx oo)) q ((l'.take b.toNat).drop a.toNat):=λq hq=>by
     obtain ⟨h1,h2,h3,rfl⟩:=qu6 hq;have hl:=hall.length;refine ⟨qhB ha hlo rfl h1,qhB hb hhi (by rw [hl]) (by omega),by omega,by omega,(hall.take _).drop _⟩
    split at h
    ·obtain ⟨q,hq,hk⟩:=qd.1 h;obtain ⟨e1,e2,e3,e4,e5⟩:=hfin q hq;rw [qfV hmx];refine ⟨_,.sl fl (c&&decide (b.toNat=l'.length)) ((l'.take b.toNat).drop a.toNat),hk,?_,?_⟩
     ·rw [hvs,e1,e2];simp only;rw [if_pos ⟨e3,e4⟩]
     ·simp only [RV,RTy];exact ⟨fl,_,_,rfl,hfl,e5⟩
    ·rename_i m;obtain ⟨vm,hvm,hrm⟩:=qqf hmx;split at h
     ·rename_i cc hcc;split at h
      ·rename_i hs;obtain ⟨q,hq,hk⟩:=qd.1 h;obtain ⟨hcb,hk⟩:=qGY hk;obtain ⟨e1,e2,e3,e4,e5⟩:=hfin q hq;obtain ⟨h1,h2,_,_⟩:=qu6 hq;obtain ⟨k3,rfl⟩:=qsb hcc hrm;have hs':hi'.isSome=true:=by
        cases hi with
        |none=>simp at hs
        |some x=>obtain ⟨v,rfl,_⟩:=qqf hhi;rfl
       refine ⟨_,.sl fl true ((l'.take b.toNat).drop a.toNat),hk,?_,?_⟩
       ·rw [hvm,hvs,e1,e2];simp only;rw [if_pos ⟨by rw [hcb];exact qim (by omega),hs',e3,e4⟩]
       ·simp only [RV];exact ⟨fl,_,rfl,hown,e5.mono λx y hxy=>by
         rw [hnx]at hxy;refine qoF τ oo x y ?_;rcases qmK.1 hoo with h|h|h
         ·subst h;exact hxy
         ·subst h;exact hxy
         ·exact absurd h hoo2⟩
      ·cases h
     ·cases h
   ·cases h
 ·rename_i elem oo hu;simp only [RV]at hx;obtain ⟨fl,c,rfl,hfl⟩:=hx;split at h
  ·cases h
  ·rename_i hn0;simp only [not_or,Bool.not_eq_true]at hn0;obtain ⟨hoo,hoo2,h0⟩:=hn0;have hown:fl≠.own:=hfl.not hoo hoo2;split at h
   ·rename_i a b ha hb;cases hd:(decide (a=0)&&decide (b=0))with
    |false=>rw [hd]at h;cases h
    |true =>
     rw [hd]at h;simp only [qe,decide_eq_true_eq]at hd;obtain ⟨rfl,rfl⟩:=hd;rw [qfV hmx];refine ⟨_,.sl fl (c&&decide (0=([]:List V).length)) [],h,?_,?_⟩
     ·unfold qgf;rw [hu];simp only;rw [if_neg (by simp only [not_or];exact ⟨hown,h0,by simp⟩)];rw [qhB (d:=0) ha hlo rfl (by omega),qhB (d:=([]:List V).length) hb hhi rfl (by omega)];simp
     ·simp only [RV];exact ⟨fl,_,rfl,hfl⟩
   ·cases h
 ·rename_i s hu;simp only [RV,RTy]at hx;subst hx;split at h
  ·rename_i a b ha hb;obtain ⟨q,hq,hk⟩:=qd.1 h;obtain ⟨h1,h2,h3,rfl⟩:=qu6 hq;rw [qfV hmx];have hsz:(⟨s.toArray⟩:ByteArray).size=s.length:=by simp [ByteArray.size]
   refine ⟨_,.val (.string ((⟨s.toArray⟩:ByteArray).extract a.toNat b.toNat)),hk,?_,?_⟩
   ·unfold qgf;rw [hu];simp only;rw [qhB (d:=0) ha hlo rfl h1,qhB (d:=(⟨s.toArray⟩:ByteArray).size) hb hhi (by rw [hsz]) (by omega)];simp only
    rw [if_pos ⟨rfl,by omega,by rw [hsz];omega⟩]
   ·simp only [RV,RTy,V.val.injEq,Value.string.injEq];apply ByteArray.ext;rw [ByteArray.data_extract];apply Array.ext';simp [List.drop_take]
  ·cases h
 ·cases h
theorem qyS{t elem:TypeId}{s n:Nat}{lo hi mx:Option V}(hu:P.underlying t=some (.slice elem)):qgf P t (.room s n) lo hi mx=none:=by
 unfold qgf;rw [hu]
theorem qBt{t:TypeId}{x:TV}{v:V}{lo hi mx:Option TV}{lo' hi' mx':Option V}{R:Type}{k:TV->Option R}{r:R}(hx:RV x v)(hlo:RVO lo lo')(hhi:RVO hi hi')(hmx:RVO mx mx')
  (h:qyM P t x lo hi mx R k=some r):∃y u,k y=some r/\(qgf P t v lo' hi' mx').or (qml P t v lo' hi' mx')=some u/\RV y u:=by
 unfold qyM at h;split at h
 ·rename_i elem hu;simp only [RV]at hx;subst hx;split at h
  ·cases h
  ·rename_i h0;split at h
   ·rename_i a b ha hb;cases hd:(decide (a=0)&&decide (b=0))with
    |false=>rw [hd]at h;cases h
    |true =>
     rw [hd]at h;simp only [qe,decide_eq_true_eq]at hd;obtain ⟨rfl,rfl⟩:=hd;rw [qfV hmx];refine ⟨_,.val (.slice none 0 0),h,?_,by simp only [RV]⟩;have e:qgf P t (.val (.slice none 0 0)) lo' hi' none=some (.val (.slice none 0 0)):=by
      unfold qgf;rw [hu];simp only;rw [if_neg h0,qhB (d:=0) ha hlo rfl (by omega),qhB (d:=0) hb hhi rfl (by omega)];simp [qhR]
     rw [e];rfl
   ·cases h
 ·rename_i elem a s hu;split at h
  ·cases h
  ·rename_i hcond;simp only [not_or,Nat.not_le]at hcond;obtain ⟨h0,ha⟩:=hcond;simp only [RV]at hx;obtain ⟨_,n,rfl,_⟩|⟨h9,_⟩:=hx
   case inr=>omega
   split at h
   ·rename_i kk oo b;obtain ⟨rfl,hk⟩:=qGY h;rw [qfV hlo,qfV hmx];obtain ⟨w,rfl,hw⟩:=qqf hhi;simp only [RV,RTy]at hw;subst hw;refine ⟨_,.room s 0,hk,?_,by simp [RV]⟩;rw [qyS hu];unfold qml;rw [hu];simp only;rw [if_pos h0];rfl
   ·cases h
 ·rename_i n elem r' off hu;split at h
  ·rename_i h1;simp only [RV]at hx;subst hx;split at h
   ·rw [qfV hlo,qfV hhi,qfV hmx];refine ⟨_,.bsl r' off n,h,?_,by simp only [RV]⟩;have e:qgf P t (.ptr r' off) none none none=none:=by unfold qgf;rw [hu]
    rw [e];unfold qml;rw [hu];simp only;rw [if_pos h1];rfl
   ·cases h
  ·cases h
 ·cases h
end
section
variable {P:Program} {H:Hints} {f:FuncId}
theorem qvg{t:TypeId}{len cap:TV}{len' cap':V}{R:Type}{k:TV->Option R}{r:R}(hl:RV len len')(hc:RV cap cap')(h:qoS P H f t len cap R k=some r) :
  ∃y u,k y=some r/\qgR P H f t len' cap'=some u/\RV y u:=by
 unfold qoS at h;split at h
 ·rename_i elem hu;split at h
  ·rename_i z τ n c hz hτ hn hcc;obtain ⟨z',hz',hzr,hzc⟩:=qnM hz;obtain ⟨k1,rfl⟩:=qsb hn hl;obtain ⟨k2,rfl⟩:=qsb hcc hc;split at h
   ·rename_i hcond;obtain ⟨h0,hcl,hok,hby,_,_,hup⟩:=hcond;obtain ⟨hup1,hup2⟩:=qFi hup;split at h
    ·rename_i x hx;obtain ⟨q,hq,hk⟩:=qd.1 h;obtain ⟨hcn,hk1⟩:=qGY hk;subst hcn;obtain ⟨h1,h2,rfl⟩:=qFf hq;have hrt:=qgi _ _ _ _ _ hx hzr;refine ⟨_,.sl .own false (List.replicate c.toNat z'),hk1,?_,?_⟩
     ·unfold qgR;rw [hu];simp only;rw [hz',qim h1,qim h1];simp only
      have hbb:P.bytesOf elem*c.toNat<=8192*4294967296:=Nat.mul_le_mul hby (by omega);rw [if_pos ⟨Nat.le_refl _,λh=>h,h0,by rw [hzc.length];exact hcl,(RV.cells hok hzr).2,by rw [qfd _ _ _ _ hrt];rfl,by omega,by omega⟩]
     ·simp only [RV,RTy];exact ⟨.own,false,_,rfl,qg1 hup,by rw [hup1];exact All2.replicate hrt _⟩
    ·cases h
   ·cases h
  ·cases h
 ·cases h
theorem big{s b:Nat}(h1:s<=4294967296)(h2:b<=8192):(s+512)*b<=70368744177664:=by
 have:=Nat.mul_le_mul (Nat.add_le_add_right h1 512) h2;omega
def qF4(yt:TypeDesc)(y:V):Option (List V):=match yt,y with
 |.slice _,.sl _ _ l=>some l
 |.slice _,.val (.slice none 0 0)=>some []
 |.string,.val (.string b)=>some (b.data.toList.map λc=>.val (.int .u8 c.toNat))
 |_,_=>none
theorem qoW{argTypes:Array TypeId}{elem:TypeId}{yt:TypeDesc}{x y:V}(h0:(argTypes[0]?).bind P.underlying=some (.slice elem))(h1:(argTypes[1]?).bind P.underlying=some yt) :
  qeA P argTypes x y=match qF4 yt y with
  |none=>none
  |some l2 =>
   if P.cellsOf elem=0\/((P.info? elem).bind (·.zero)).map (λz=>z.cells.size)≠some (P.cellsOf elem)\/l2.all (λe=>decide (e.cells.length=P.cellsOf elem)&&e.oks)=false\/(ptrsL l2).isEmpty=false then none else
   match x with
   |.val (.slice none 0 0)=>if l2.isEmpty then some x else if (l2.length+512)*P.bytesOf elem<=70368744177664/\l2.length<=70368744177664 then some (.sl .own false l2)else none
   |.sl fl c l =>
    if l.all (λe=>decide (e.cells.length=P.cellsOf elem))=true/\(l.length+l2.length+512)*P.bytesOf elem<=70368744177664/\l.length+l2.length<=70368744177664 then
     (if fl=.own then some (.sl .own false (l++l2))
     else if c then (if l2.isEmpty then some x else some (.sl .own false (l++l2)))
     else none)
    else none
   |_=>none:=by
 unfold qeA;rw [h0,h1];rfl
theorem qD1{yt:TypeDesc}{y:TV}{τ:Ty}{o:Nat}{l:List τ.den}{v:V}(h:tail? yt y=some ⟨τ,(o,l)⟩)(hy:RV y v) :
  ∃l',qF4 yt v=some l'/\All2 (RTy τ o) l l':=by
 unfold tail? at h;split at h
 ·split at h
  ·simp only [qb,Sigma.mk.injEq]at h;obtain ⟨rfl,h⟩:=h;obtain ⟨rfl,rfl⟩:=Prod.mk.inj (eq_of_heq h);simp only [RV,RTy]at hy;obtain ⟨f,c,l',rfl,_,hall⟩:=hy;exact ⟨l',rfl,hall⟩
  ·cases h
 ·split at h
  ·simp only [qb,Sigma.mk.injEq]at h;obtain ⟨rfl,h⟩:=h;obtain ⟨rfl,rfl⟩:=Prod.mk.inj (eq_of_heq h);simp only [RV]at hy;obtain ⟨f,l',rfl,_,hall⟩:=hy;exact ⟨l',rfl,hall⟩
  ·cases h
 ·rename_i s;split at h
  ·simp only [qb,Sigma.mk.injEq]at h;obtain ⟨rfl,h⟩:=h;obtain ⟨rfl,rfl⟩:=Prod.mk.inj (eq_of_heq h);simp only [RV,RTy]at hy;subst hy;refine ⟨_,rfl,?_⟩;simp only
   clear h;have:∀s':List UInt8,All2 (RTy (.int .u8) 0) (s'.map λc=>(c.toNat:Int)) (s'.map λc=>V.val (.int .u8 c.toNat)):=λs'=>by
    induction s' with
    |nil=>exact .nil
    |cons c s ih=>exact .cons (by simp [RTy]) ih
   simpa using this s
  ·cases h
 ·cases h
theorem qhi{argTypes:Array TypeId}{elem:TypeId}{yt:TypeDesc}{l l2:List V}{y:V}
  (h0:(argTypes[0]?).bind P.underlying=some (.slice elem)) (h1:(argTypes[1]?).bind P.underlying=some yt)
  (hy:qF4 yt y=some l2)
  (hs0:P.cellsOf elem≠0) (hz:((P.info? elem).bind (·.zero)).map (λz=>z.cells.size)=some (P.cellsOf elem))
  (hl2:∀e∈l2,e.cells.length=P.cellsOf elem/\e.oks=true/\e.qv=[]) (hl:∀e∈l,e.cells.length=P.cellsOf elem)
  (hn:l.length+l2.length<=4294967296) (hb:P.bytesOf elem<=8192) :
  (∀c,qeA P argTypes (.sl .own c l) y=some (.sl .own false (l++l2)))/\(l2≠[]->∀f,f≠.own->qeA P argTypes (.sl f true l) y=some (.sl .own false (l++l2)))/\(l2=[]->∀f,f≠.own->qeA P argTypes (.sl f true l) y=some (.sl f true l)):=by
 have hp:ptrsL l2=[]:=by
  apply List.eq_nil_iff_forall_not_mem.2;intro r hr;obtain ⟨v,hv,hrv⟩:=qrI.1 hr;rw [(hl2 v hv).2.2]at hrv;cases hrv
 have hall2:l2.all (λe=>decide (e.cells.length=P.cellsOf elem)&&e.oks)=true:=by
  rw [List.all_eq_true];intro e he;simp [(hl2 e he).1,(hl2 e he).2.1]
 have hall:l.all (λe=>decide (e.cells.length=P.cellsOf elem))=true:=by
  rw [List.all_eq_true];intro e he;simp [hl e he]
 have hbig:=big (s:=l.length+l2.length) hn hb;have hun:∀(f:Fl) (c:Bool),qeA P argTypes (.sl f c l) y=if l.all (λe=>decide (e.cells.length=P.cellsOf elem))=true/\(l.length+l2.length+512)*P.bytesOf elem<=70368744177664/\l.length+l2.length<=70368744177664 then
     (if f=.own then some (.sl .own false (l++l2))
     else if c then (if l2.isEmpty then some (.sl f c l)else some (.sl .own false (l++l2)))
     else none)
    else none:=λf c=>by
  rw [qoW h0 h1,hy];simp only;rw [if_neg (by simp only [not_or,Decidable.not_not,Bool.not_eq_false];exact ⟨hs0,hz,hall2,by rw [hp];rfl⟩)]
 refine ⟨λc=>?_,λhne f hf=>?_,λhne f hf=>?_⟩
 ·rw [hun,if_pos ⟨hall,hbig,by omega⟩,if_pos rfl]
 ·rw [hun,if_pos ⟨hall,hbig,by omega⟩,if_neg hf,if_pos rfl,if_neg (by simpa using hne)]
 ·rw [hun,if_pos ⟨hall,hbig,by omega⟩,if_neg hf,if_pos rfl,if_pos (by simp [hne])]
theorem qBq{argTypes:Array TypeId}{x y:TV}{x' y':V}{R:Type}{k:TV->Option R}{r:R}(hx:RV x x')(hy:RV y y')(h:qyH P argTypes x y R k=some r) :
  ∃z u,k z=some r/\qeA P argTypes x' y'=some u/\RV z u:=by
 unfold qyH at h;split at h
 ·rename_i elem yt h0 h1;split at h
  ·-- nothing is appended
   rename_i ow;simp only [RV]at hy;obtain ⟨fy,cy,rfl,_⟩:=hy;split at h
   ·rename_i e τ o l;split at h
    ·rename_i hc;obtain ⟨ho,hcl,hs0,hz,hb,hok,hel⟩:=hc;obtain ⟨q,hq,hk⟩:=qd.1 h;obtain ⟨hn,rfl⟩:=qhr hq;simp only [RV,RTy]at hx;obtain ⟨fx,cx,l',rfl,hfx,hall⟩:=hx;have hfo:fx=.own:=hfx.own ho;subst hfo;have hv:=(qhi (l:=l') (l2:=[]) (y:=.sl fy cy []) h0 h1 rfl hs0 hz (by simp) (λe he=>by rw [(qft hel hall e he).1,hcl]) (by rw [hall.length];exact hn) hb).1 cx;refine ⟨_,_,hk,hv,?_⟩;simp only [RV,RTy];exact ⟨.own,false,_,rfl,qg1 ho,by simpa using hall⟩
    ·cases h
   ·rename_i e;split at h
    ·rename_i hc;obtain ⟨hoe,hs0,hz,hb⟩:=hc;simp only [RV]at hx;obtain ⟨fx,cx,rfl,hfx⟩:=hx;have hfo:fx=.own:=hfx.own hoe;subst hfo;have hv:=(qhi (l:=[]) (l2:=[]) (y:=.sl fy cy []) h0 h1 rfl hs0 hz (by simp) (by simp) (by simp) hb).1 cx;exact ⟨_,_,h,hv,by simp only [RV];exact ⟨_,_,rfl,hfx⟩⟩
    ·cases h
   ·cases h
  ·split at h
   ·cases h
   ·rename_i τ o2 l2 ht;obtain ⟨l2',hl2',hall2⟩:=qD1 ht hy;split at h
    ·rename_i hc;obtain ⟨hcl,hs0,hz,hb,hok,hel⟩:=hc;have hc2:∀e∈l2',e.cells.length=P.cellsOf elem/\e.oks=true/\e.qv=[]:=λe he=>by
      obtain ⟨h1,h2,h3⟩:=qft hel hall2 e he;exact ⟨by rw [h1,hcl],h2,h3⟩
     split at h
     ·rename_i τ' o l;split at h
      ·rename_i he;subst he;split at h
       ·rename_i hoo;obtain ⟨q,hq,hk⟩:=qd.1 h;obtain ⟨hn,rfl⟩:=qhr hq;simp only [RV,RTy]at hx;obtain ⟨fx,cx,l',rfl,hfx,hall⟩:=hx;have hfo:fx=.own:=hfx.own hoo;subst hfo;have hv:=(qhi (l:=l') (l2:=l2') h0 h1 hl2' hs0 hz hc2 (λe he=>by rw [(qft hel hall e he).1,hcl]) (by rw [hall.length,hall2.length];exact hn) hb).1 cx;refine ⟨_,_,hk,hv,?_⟩;simp only [RV,RTy];split
        ·rename_i hf;exact ⟨.own,false,_,rfl,qg1 hoo,hall.append (hall2.mono λa b hab=>qkg _ _ _ _ _ hf hab)⟩
        ·have hall':∀d o',fits d o' (nx 2001)=true:=λd o'=>by cases d<;>rfl
         exact ⟨.own,false,_,rfl,qg1 rfl,(hall.mono λa b hab=>qkg _ _ _ _ _ (hall' _ _) hab).append (hall2.mono λa b hab=>qkg _ _ _ _ _ (hall' _ _) hab)⟩
       ·cases h
      ·cases h
     ·split at h
      ·rename_i hup0;obtain ⟨hoe,hup⟩:=hup0;obtain ⟨hup1,hup2⟩:=qFi hup;obtain ⟨q,hq,hk⟩:=qd.1 h;obtain ⟨hn,rfl⟩:=qhr hq;simp only [RV]at hx;obtain ⟨fx,cx,rfl,hfx⟩:=hx;have hfo:fx=.own:=hfx.own hoe;subst hfo;have hv:=(qhi (l:=[]) (l2:=l2') h0 h1 hl2' hs0 hz hc2 (by simp) (by rw [hall2.length];simpa using hn) hb).1 cx;refine ⟨_,_,hk,hv,?_⟩;simp only [RV,RTy];exact ⟨.own,false,_,rfl,qg1 hup,by rw [hup1];simpa using hall2⟩
      ·cases h
     ·rename_i τ' l;split at h
      ·rename_i he;subst he;obtain ⟨q,hq,hk⟩:=qd.1 h;obtain ⟨hn,rfl⟩:=qhr hq;simp only [RV]at hx;obtain ⟨fx,l',rfl,hfx,hall⟩:=hx;have hup:∀{o:Nat} {m:List τ'.den} {m':List V},All2 (RTy τ' o) m m'->All2 (RTy τ' (nx 2000)) m m':=λhm=>hm.mono λa b hab=>qkg _ _ _ _ _ (qvS _ _) hab;have hv2:=qhi (l:=l') (l2:=l2') h0 h1 hl2' hs0 hz hc2 (λe he=>by rw [(qft hel hall e he).1,hcl]) (by rw [hall.length,hall2.length];exact hn) hb;by_cases hne:l2'=[]
       ·refine ⟨_,_,hk,hv2.2.2 hne fx hfx,?_⟩;subst hne;cases hall2;simp only [RV,RTy];exact ⟨fx,true,l',rfl,⟨λe=>absurd rfl e,λe=>by cases e⟩,by simpa [cast']using hup hall⟩
       ·refine ⟨_,_,hk,hv2.2.1 hne fx hfx,?_⟩;simp only [RV,RTy];exact ⟨.own,false,_,rfl,⟨λe=>absurd rfl e,λe=>by cases e⟩,(hup hall).append (hup hall2)⟩
      ·cases h
     ·cases h
    ·cases h
 ·cases h
theorem qay{op:BinOp}{t:TypeId}{xo yo:Operand}{a b u:Value}(h:Ab.valOf P (do eqGuard op t xo yo a b;Go.binOp op t a b)=some u):qqh P op t xo yo (.val a) (.val b)=some (qeH u):=by
 unfold qqh;simp only [V.toVal,h,qj]
theorem qq{α β:Type}(s:Sem α)(g:α->Sem β):Ab.valOf P (s >>= g)=(Ab.valOf P s).bind λa=>Ab.valOf P (g a):=by
 induction s with
 |pure a=>rfl
 |program k ih=>exact ih P
 |mark m k ih=>exact ih
 |_=>rfl
theorem q7{α:Type}(a:α):Ab.valOf P (pure a)=some a:=rfl
theorem qAb{t:TypeId}{xo yo:Operand}{k1 k2:IntKind}{a b n:Int}(h:qJO k1 a b=some n):qqh P .shl t xo yo (.val (.int k1 a)) (.val (.int k2 b))=some (.val (.int k1 n)):=by
 unfold qJO at h;split at h
 ·rename_i h0;cases h;exact qay (u:=.int k1 _) (by simp [eqGuard,Go.binOp,Op.shift,Int.not_lt.2 h0,q7])
 ·cases h
theorem qAc{t:TypeId}{xo yo:Operand}{k1 k2:IntKind}{a b n:Int}(h:qJP k1 a b=some n):qqh P .shr t xo yo (.val (.int k1 a)) (.val (.int k2 b))=some (.val (.int k1 n)):=by
 unfold qJP at h;split at h
 ·rename_i h0;cases h;exact qay (u:=.int k1 _) (by simp [eqGuard,Go.binOp,Op.shift,Int.not_lt.2 h0,q7])
 ·cases h
theorem qF7{op:BinOp}{t:TypeId}{xo yo:Operand}{k1:IntKind}{a b:Int}{R:Type}{k:TV->Option R}{r:R}{o1 o2:Nat}(h:qxb P op t (.t (.int k1) o1 a) (.t (.int k1) o2 b) R k=some r) :
  ∃z u,k z=some r/\qqh P op t xo yo (.val (.int k1 a)) (.val (.int k1 b))=some u/\RV z u:=by
 have hrem:∀{z:TV},(bif decide (b=0)then none else k z)=some r->b≠0/\k z=some r:=λ{z} h=>by
  cases hd:decide (b=0)with
  |true=>rw [hd]at h;cases h
  |false=>rw [hd]at h;exact ⟨of_decide_eq_false hd,h⟩
 cases op<;>simp only [qxb,if_true]at h<;>try (cases h;done)
 case quo =>
  obtain ⟨h0,h⟩:=hrem h;refine ⟨_,.val (.int k1 (k1.wrap (a.tdiv b))),h,?_,by simp [RV,RTy]⟩;exact qay (u:=.int k1 (k1.wrap (a.tdiv b))) (by simp [eqGuard,Go.binOp,Op.intDiv,h0,q7])
 case rem =>
  obtain ⟨h0,h⟩:=hrem h;refine ⟨_,.val (.int k1 (a.tmod b)),h,?_,by simp [RV,RTy]⟩;exact qay (u:=.int k1 (a.tmod b)) (by simp [eqGuard,Go.binOp,Op.intDiv,h0,q7])
 case add =>
  refine ⟨_,.val (.int k1 (k1.wrap (a+b))),h,?_,by simp [RV,RTy]⟩;exact qay (u:=.int k1 (k1.wrap (a+b))) (by simp [eqGuard,Go.binOp,Op.intArith,q7])
 case sub =>
  refine ⟨_,.val (.int k1 (k1.wrap (a-b))),h,?_,by simp [RV,RTy]⟩;exact qay (u:=.int k1 (k1.wrap (a-b))) (by simp [eqGuard,Go.binOp,Op.intArith,q7])
 case mul =>
  refine ⟨_,.val (.int k1 (k1.wrap (a*b))),h,?_,by simp [RV,RTy]⟩;exact qay (u:=.int k1 (k1.wrap (a*b))) (by simp [eqGuard,Go.binOp,Op.intArith,q7])
 case eql =>
  refine ⟨_,.val (.bool (decide (a=b))),h,?_,by simp [RV,RTy]⟩;exact qay (u:=.bool (decide (a=b))) (by simp [eqGuard,Go.binOp,Op.intCmp,q7];rfl)
 case neq =>
  refine ⟨_,.val (.bool (!decide (a=b))),h,?_,by simp [RV,RTy]⟩;exact qay (u:=.bool (!decide (a=b))) (by simp [eqGuard,Go.binOp,Op.intCmp,q7,bne];rfl)
 case lss =>
  refine ⟨_,.val (.bool (decide (a<b))),h,?_,by simp [RV,RTy]⟩;exact qay (u:=.bool (decide (a<b))) (by simp [eqGuard,Go.binOp,Op.intCmp,q7])
 case leq =>
  refine ⟨_,.val (.bool (decide (a<=b))),h,?_,by simp [RV,RTy]⟩;exact qay (u:=.bool (decide (a<=b))) (by simp [eqGuard,Go.binOp,Op.intCmp,q7])
 case gtr =>
  refine ⟨_,.val (.bool (decide (a > b))),h,?_,by simp [RV,RTy]⟩;exact qay (u:=.bool (decide (a > b))) (by simp [eqGuard,Go.binOp,Op.intCmp,q7])
 case geq =>
  refine ⟨_,.val (.bool (decide (a>=b))),h,?_,by simp [RV,RTy]⟩;exact qay (u:=.bool (decide (a>=b))) (by simp [eqGuard,Go.binOp,Op.intCmp,q7])
 case and =>
  refine ⟨_,.val (.int k1 (qJi k1 a b)),h,?_,by simp [RV,RTy]⟩;exact qay (u:=.int k1 (qJi k1 a b)) (by simp [eqGuard,Go.binOp,Op.intBits,q7,qJi])
 case or =>
  refine ⟨_,.val (.int k1 (orI k1 a b)),h,?_,by simp [RV,RTy]⟩;exact qay (u:=.int k1 (orI k1 a b)) (by simp [eqGuard,Go.binOp,Op.intBits,q7,orI])
 case xor =>
  refine ⟨_,.val (.int k1 (qJl k1 a b)),h,?_,by simp [RV,RTy]⟩;exact qay (u:=.int k1 (qJl k1 a b)) (by simp [eqGuard,Go.binOp,Op.intBits,q7,qJl])
 case andNot =>
  refine ⟨_,.val (.int k1 (qtW k1 a b)),h,?_,by simp [RV,RTy]⟩;exact qay (u:=.int k1 (qtW k1 a b)) (by simp [eqGuard,Go.binOp,Op.intBits,q7,qtW])
 case shl =>
  obtain ⟨n,hn,hk⟩:=qd.1 h;exact ⟨_,_,hk,qAb hn,by simp [RV,RTy]⟩
 case shr =>
  obtain ⟨n,hn,hk⟩:=qd.1 h;exact ⟨_,_,hk,qAc hn,by simp [RV,RTy]⟩
theorem qBr{op:BinOp}(hop:op=.shl\/op=.shr){t:TypeId}{xo yo:Operand}{k1 k2:IntKind}{a b:Int}{R:Type}{k:TV->Option R}{r:R}{o1 o2:Nat}(h:qxb P op t (.t (.int k1) o1 a) (.t (.int k2) o2 b) R k=some r) :
  ∃z u,k z=some r/\qqh P op t xo yo (.val (.int k1 a)) (.val (.int k2 b))=some u/\RV z u:=by
 rcases hop with rfl|rfl
 ·simp only [qxb]at h;obtain ⟨n,hn,hk⟩:=qd.1 h;exact ⟨_,_,hk,qAb hn,by simp [RV,RTy]⟩
 ·simp only [qxb]at h;obtain ⟨n,hn,hk⟩:=qd.1 h;exact ⟨_,_,hk,qAc hn,by simp [RV,RTy]⟩
theorem qpL{op:BinOp}{k:FloatKind}{x y r:Nat}(h:floatBits op k x y=some r):Ab.valOf P (Op.floatArith op k x y)=some (.float k r):=by
 unfold floatBits at h;cases op<;>simp only at h<;>first|(cases h;done)|skip
 all_goals (simp [Op.floatArith,h];rfl)
theorem qcF{op:BinOp}{k:FloatKind}{x y r:Nat}(h:floatBits op k x y=some r):Ab.valOf P (Op.Complex.arith op k x y)=some r:=by
 unfold Op.Complex.arith;rw [qq,qpL h];rfl
theorem qBv{t:TypeId}{a b c d re im:Nat}(h:cSumBits .add .f64 a b c d=some (re,im)):Ab.valOf P (Go.binOp .add t (.complex .f64 a b) (.complex .f64 c d))=some (.complex .f64 re im):=by
 unfold cSumBits at h;obtain ⟨x,h1,h⟩:=qd.1 h;obtain ⟨y,h2,h⟩:=qd.1 h;cases h;simp only [Go.binOp,ne_eq,not_true,if_false,Op.complexOp];rw [qq,qcF h1,qa,qq,qcF h2];rfl
theorem qBu{t:TypeId}{a b c d re im:Nat}(h:cMulBits a b c d=some (re,im)):Ab.valOf P (Go.binOp .mul t (.complex .f64 a b) (.complex .f64 c d))=some (.complex .f64 re im):=by
 unfold cMulBits at h;obtain ⟨ac,h1,h⟩:=qd.1 h;obtain ⟨bd,h2,h⟩:=qd.1 h;obtain ⟨x,h3,h⟩:=qd.1 h;obtain ⟨ad,h4,h⟩:=qd.1 h;obtain ⟨bc,h5,h⟩:=qd.1 h;obtain ⟨y,h6,h⟩:=qd.1 h;cases h;have hp:Ab.valOf P (Op.Complex.product a b c d)=some (re,im):=by
  unfold Op.Complex.product Op.Complex.mul Op.Complex.sub Op.Complex.add;rw [qq,qcF h1,qa,qq,qcF h2,qa,qq,qcF h3,qa,qq,qcF h4,qa,qq,qcF h5,qa,qq,qcF h6];rfl
 have hc:∀x,Ab.valOf P (Op.Complex.conv .f64 x .f64)=some x:=λx=>by unfold Op.Complex.conv;simp [q7]
 simp only [Go.binOp,ne_eq,not_true,if_false,Op.complexOp];rw [qq,hc,qa,qq,hc,qa,qq,hc,qa,qq,hc,qa];simp only [beq_self_eq_true,if_true];rw [qq,hp,qa,qq,hc,qa,qq,hc];rfl
theorem qfP{n m:Int}(h:flo n=some m):m=n/\n.natAbs<2 ^ 53:=by
 unfold flo at h;split at h
 ·rename_i h1;cases h;exact ⟨rfl,h1⟩
 ·cases h
theorem qHV{op:BinOp}{t:TypeId}{xo yo:Operand}{a b:Int×Int}{x y:V}{o1 o2:Nat}{R:Type}{k:TV->Option R}{r:R}(hx:RV (.t .cx o1 a) x)(hy:RV (.t .cx o2 b) y)(h:qxb P op t (.t .cx o1 a) (.t .cx o2 b) R k=some r) :
  ∃z u,k z=some r/\qqh P op t xo yo x y=some u/\RV z u:=by
 simp only [RV,RTy]at hx hy;obtain ⟨b1,b2,rfl,i1,i2⟩:=hx;obtain ⟨c1,c2,rfl,j1,j2⟩:=hy;unfold qxb at h;simp only at h;split at h
 ·obtain ⟨re,h1,h⟩:=qd.1 h;obtain ⟨im,h2,h⟩:=qd.1 h;obtain ⟨rfl,g1⟩:=qfP h1;obtain ⟨rfl,g2⟩:=qfP h2;obtain ⟨re,im,e,r1,r2⟩:=Fl.qG2 i1 i2 j1 j2 g1 g2;refine ⟨_,.val (.complex .f64 re im),h,qay (u:=.complex .f64 re im) ?_,by simp only [RV,RTy];exact ⟨re,im,rfl,r1,r2⟩⟩;rw [qq];show (some ()).bind (λ_=>Ab.valOf P (Go.binOp .add t (.complex .f64 b1 b2) (.complex .f64 c1 c2)))=_;exact qBv e
 ·obtain ⟨ac,h1,h⟩:=qd.1 h;obtain ⟨bd,h2,h⟩:=qd.1 h;obtain ⟨rfl,g1⟩:=qfP h1;obtain ⟨rfl,g2⟩:=qfP h2;obtain ⟨x,h3,h⟩:=qd.1 h;obtain ⟨rfl,g3⟩:=qfP h3;obtain ⟨ad,h4,h⟩:=qd.1 h;obtain ⟨bc,h5,h⟩:=qd.1 h;obtain ⟨rfl,g4⟩:=qfP h4;obtain ⟨rfl,g5⟩:=qfP h5;obtain ⟨y,h6,h⟩:=qd.1 h;obtain ⟨rfl,g6⟩:=qfP h6;obtain ⟨re,im,e,r1,r2⟩:=Fl.qG0 i1 i2 j1 j2 g1 g2 g3 g4 g5 g6;refine ⟨_,.val (.complex .f64 re im),h,qay (u:=.complex .f64 re im) ?_,by simp only [RV,RTy];exact ⟨re,im,rfl,r1,r2⟩⟩;rw [qq];show (some ()).bind (λ_=>Ab.valOf P (Go.binOp .mul t (.complex .f64 b1 b2) (.complex .f64 c1 c2)))=_;exact qBu e
 ·cases h
theorem qF8{op:BinOp}{t:TypeId}{xo yo:Operand}{a b:List UInt8}{R:Type}{k:TV->Option R}{r:R}{o1 o2:Nat}(h:qxb P op t (.t .str o1 a) (.t .str o2 b) R k=some r) :
  ∃z u,k z=some r/\qqh P op t xo yo (.val (.string ⟨a.toArray⟩)) (.val (.string ⟨b.toArray⟩))=some u/\RV z u:=by
 cases op<;>simp only [qxb]at h<;>try (cases h;done)
 case eql =>
  refine ⟨_,.val (.bool (decide (a=b))),h,?_,by simp [RV,RTy]⟩;exact qay (u:=.bool (decide (a=b))) (by simp [eqGuard,binOp_string_eql,q7];rw [Bool.eq_iff_iff];simp)
 case neq =>
  refine ⟨_,.val (.bool (!decide (a=b))),h,?_,by simp [RV,RTy]⟩;exact qay (u:=.bool (!decide (a=b))) (by simp [eqGuard,binOp_string_neq,q7];rw [Bool.eq_iff_iff];simp)
 case lss =>
  refine ⟨_,.val (.bool (Op.bytesLess a b)),h,?_,by simp [RV,RTy]⟩;exact qay (u:=.bool (Op.bytesLess a b)) (by simp [eqGuard,binOp_string_lss,q7])
 case add =>
  obtain ⟨q,hq,hk⟩:=qd.1 h;obtain ⟨hn,rfl⟩:=qhr hq;refine ⟨_,.val (.string ⟨(a++b).toArray⟩),hk,?_,by simp [RV,RTy]⟩;refine qay (u:=.string ⟨(a++b).toArray⟩) ?_;have h1:(⟨a.toArray⟩:ByteArray).size=a.length:=by simp [ByteArray.size]
  have h2:(⟨b.toArray⟩:ByteArray).size=b.length:=by simp [ByteArray.size]
  have h3:(⟨a.toArray⟩++⟨b.toArray⟩:ByteArray)=⟨(a++b).toArray⟩:=by apply ByteArray.ext;simp
  have h4:¬ (((⟨a.toArray⟩:ByteArray).size+(⟨b.toArray⟩:ByteArray).size:Nat):Int) > IntKind.i64.max:=by
   rw [h1,h2];simp only [IntKind.max,IntKind.signed,IntKind.bits,if_true]<;>omega
  have h5:Go.binOp .add t (.string ⟨a.toArray⟩) (.string ⟨b.toArray⟩)=pure (.string ⟨(a++b).toArray⟩):=by
   simp only [Go.binOp,Op.stringOp];rw [if_neg h4,h3]
  simp only [eqGuard];rw [h5];rfl
theorem qE{t:TypeId}{d:TypeDesc}(h:P.underlying t=some d):Ab.valOf P (underlying t)=some d:=by
 unfold Go.underlying;simp only [qq];have h1:Ab.valOf P Go.program=some P:=rfl;simp only [h1,qa,h];rfl
theorem qo3{n:Nat}{t:TypeId}(h:P.underlying t=some .bool)(a b:Bool):Ab.valOf P (Op.equalIn (n+1) t (.bool a) (.bool b))=some (a==b):=by
 unfold Op.equalIn;rw [qq,qE h];rfl
theorem qxJ{n:Nat}{t:TypeId}{k0:IntKind}(h:P.underlying t=some (.int k0))(k:IntKind)(a b:Int):Ab.valOf P (Op.equalIn (n+1) t (.int k a) (.int k b))=some (decide (a=b)):=by
 unfold Op.equalIn;rw [qq,qE h];simp only [qa,if_true];rfl
theorem qxK{n:Nat}{t:TypeId}(h:P.underlying t=some .string)(a b:List UInt8):Ab.valOf P (Op.equalIn (n+1) t (.string ⟨a.toArray⟩) (.string ⟨b.toArray⟩))=some (decide (a=b)):=by
 unfold Op.equalIn;rw [qq,qE h];simp only [qa];show some ((⟨a.toArray⟩:ByteArray)==⟨b.toArray⟩)=_;rw [qb,Bool.eq_iff_iff];first
 |(show (a.toArray==b.toArray)=true↔decide (a=b)=true;simp)
 |(show decide ((⟨a.toArray⟩:ByteArray)=⟨b.toArray⟩)=true↔decide (a=b)=true;simp)
def qJo(x:TV)(u:Value):Prop:=(qDI x=true/\RV x (.val u))\/∃(l:List TV) (vs:List Value),x=.agg l/\u=.agg vs.toArray/\l.all qDI=true/\RVL l (vs.map .val)
theorem qFO{x:TV}{v:V}(h:qDI x=true)(hr:RV x v):∃u,v=.val u:=by
 cases x with
 |t τ o x=>cases τ<;>simp only [RV,RTy]at hr<;>first|exact ⟨_,hr⟩|simp [qDI]at h
 |_=>simp [qDI]at h
theorem qr2:∀{l:List TV} {l':List V},l.all qDI=true->RVL l l'->∃vs:List Value,l'=vs.map .val
 |[],l',_,h=>by simp only [RVL]at h;exact ⟨[],by simp [h]⟩
 |x::l,l',h1,h=>by
  simp only [RVL]at h;obtain ⟨v,m,rfl,h2,h3⟩:=h;simp only [List.all_cons,qe]at h1;obtain ⟨u,rfl⟩:=qFO h1.1 h2;obtain ⟨vs,rfl⟩:=qr2 h1.2 h3;exact ⟨u::vs,rfl⟩
theorem qsc:∀vs:List Value,toValL (vs.map .val)=some vs
 |[]=>rfl
 |u::vs=>by simp [toValL,V.toVal,qsc vs]
theorem qsG{t:TypeId}{i:TypeInfo}(h:P.info? t=some i):Ab.valOf P (typeInfo t)=some i:=by
 unfold typeInfo;simp only [qq];have h1:Ab.valOf P Go.program=some P:=rfl;simp only [h1,qa,h];rfl
theorem qsi{t:TypeId}{d:TypeDesc}(h:P.underlying t=some d):∃i,P.info? t=some i:=by
 unfold Program.underlying at h;cases hi:P.info? t with
 |none=>rw [hi]at h;cases h
 |some i=>exact ⟨i,rfl⟩
theorem qDg{t:TypeId}{xs:List TV}{vs:List Value}{off:Nat}{u:TV}(hs:xs.all qDI=true)(hr:RVL xs (vs.map .val))(h:qdd P t (xs.drop off)=some u) :
  ∃w,Ab.valOf P (part t vs.toArray off)=some w/\qJo u w:=by
 unfold qdd at h;split at h
 ·cases h
 ·rename_i d hd;obtain ⟨i,hi⟩:=qsi hd;have hsz:Ab.valOf P (sizeOf t)=some (P.cellsOf t):=by
   unfold sizeOf;rw [qq,qsG hi];simp [Program.cellsOf,hi,q7]
  have hag:Ab.valOf P (isAgg t)=some (q8 P t):=by
   unfold isAgg q8;rw [qq,qE hd,hd];cases d<;>rfl
  unfold part;rw [qq,hag];simp only [qa];split at h
  ·rename_i ha;rw [if_pos ha];split at h
   ·rename_i hl;cases h;rw [qq,hsz];refine ⟨_,rfl,.inr ⟨_,(vs.drop off).take (P.cellsOf t),rfl,?_,?_,?_⟩⟩
    ·congr 1
     apply Array.ext';simp [List.take_drop]
    ·rw [List.all_eq_true]at hs ⊢;exact λy hy=>hs y (List.mem_of_mem_drop (List.mem_of_mem_take hy))
    ·rw [List.map_take,List.map_drop];exact (hr.drop off).take _
   ·cases h
  ·rename_i ha;rw [if_neg ha];have hx:xs[off]?=some u:=by simpa [List.head?_drop]using h
   obtain ⟨v,hv,hrv⟩:=hr.get hx;rw [List.getElem?_map]at hv;obtain ⟨w,hw,rfl⟩:=qc.1 hv;have hw':vs.toArray[off]?=some w:=by simpa using hw
   rw [hw'];refine ⟨w,rfl,.inl ⟨?_,hrv⟩⟩;rw [List.all_eq_true]at hs;exact hs u (List.mem_of_getElem? hx)
theorem qGL:∀(d:Nat) (t:TypeId) (x y:TV) (b:Bool),teq P d t x y=some b->∀n,d<=n->∀u v,qJo x u->qJo y v->Ab.valOf P (Op.equalIn n t u v)=some b
 |0,t,x,y,b,h,n,hn,u,v,hu,hv=>by simp [teq]at h
 |d+1,t,x,y,b,h,n,hn,u,v,hu,hv=>by
  obtain ⟨n,rfl⟩:∃m,n=m+1:=⟨n-1,by omega⟩
  unfold teq at h;split at h
  ·rename_i k0 k o a k' o' a' ht;split at h
   ·rename_i hk;subst hk;cases h;rcases hu with ⟨_,hu⟩|⟨_,_,hu,_⟩
    ·rcases hv with ⟨_,hv⟩|⟨_,_,hv,_⟩
     ·simp only [RV,RTy,V.val.injEq]at hu hv;subst hu;subst hv;exact qxJ ht _ _ _
     ·cases hv
    ·cases hu
   ·cases h
  ·rename_i o a o' a' ht;cases h;rcases hu with ⟨_,hu⟩|⟨_,_,hu,_⟩
   ·rcases hv with ⟨_,hv⟩|⟨_,_,hv,_⟩
    ·simp only [RV,RTy,V.val.injEq]at hu hv;subst hu;subst hv;exact qo3 ht _ _
    ·cases hv
   ·cases hu
  ·rename_i o a o' a' ht;cases h;rcases hu with ⟨_,hu⟩|⟨_,_,hu,_⟩
   ·rcases hv with ⟨_,hv⟩|⟨_,_,hv,_⟩
    ·simp only [RV,RTy,V.val.injEq]at hu hv;subst hu;subst hv;exact qxK ht _ _
    ·cases hv
   ·cases hu
  ·rename_i fields xs ys ht;split at h
   ·cases h
   ·rename_i hheld;rcases hu with ⟨hu,_⟩|⟨l,vs,hl,rfl,hsx,hrx⟩
    ·simp [qDI]at hu
    ·rcases hv with ⟨hv,_⟩|⟨m,ws,hm,rfl,hsy,hry⟩
     ·simp [qDI]at hv
     ·cases hl;cases hm
      unfold Op.equalIn;rw [qq, qE ht];simp only [qa];rw [qq];have h1 : Ab.valOf P Go.program = some P := rfl;simp only [h1, qa];rw [if_neg hheld, qq, <- Array.forIn_toList];have key : ∀ (fs : List Field) (b : Bool), fs.foldr (fun fd acc => if fd.name = "_" then none else
        match qdd P fd.type (xs.drop fd.offset),qdd P fd.type (ys.drop fd.offset),acc with
        |some u,some v,some b=>(teq P d fd.type u v).map λa=>bif a then b else false
        |_,_,_=>none) (some true)=some b ->
        Ab.valOf P (forIn fs ((none:Option Bool),()) λf __s=>(
         if f.name ≠ "_" then do
          let __do_lift <- part f.type vs.toArray f.offset
          let __do_lift_1 <- part f.type ws.toArray f.offset
          let __do_lift <- Op.equalIn n f.type __do_lift __do_lift_1
          if (!__do_lift)=true then pure (ForInStep.done (some false,()))
           else pure (ForInStep.yield (none,()))
         else pure (ForInStep.yield (none,())):Sem _))=some (if b then (none,())else (some false,())):=by
       intro fs;induction fs with
       |nil=>intro b hb;simp only [List.foldr_nil,qb]at hb;subst hb;rfl
       |cons fd fs ih =>
        intro b hb;simp only [List.foldr_cons]at hb;split at hb
        ·cases hb
        ·rename_i qeW;split at hb
         ·rename_i u v b' hu hv hacc;obtain ⟨a,ha,rfl⟩:=qc.1 hb;obtain ⟨w1,hw1,hr1⟩:=qDg hsx hrx hu;obtain ⟨w2,hw2,hr2⟩:=qDg hsy hry hv;have he:=qGL d fd.type u v a ha n (by omega) w1 w2 hr1 hr2;have ih':=ih b' hacc;rw [List.forIn_cons,qq,if_pos qeW,qq,hw1];simp only [qa];rw [qq,hw2];simp only [qa];rw [qq,he];simp only [qa];cases a with
          |true =>
           simp only [Bool.not_true,qf,if_false,q7,qa,cond_true];exact ih'
          |false =>
           simp only [Bool.not_false,if_true,q7,qa,cond_false,qf,if_false]
         ·cases hb
      have hkey:=key fields.toList b h;rw [hkey];simp only [qa];cases b<;>rfl
  ·cases h
theorem qiX:9<=Op.maxDepth:=by unfold Op.maxDepth;omega
theorem qF6{op:BinOp}{t:TypeId}{xo yo:Operand}{l m:List TV}{l' m':List V}{R:Type}{k:TV->Option R}{r:R}(hl:RVL l l')(hm:RVL m m')(h:qxb P op t (.agg l) (.agg m) R k=some r) :
  ∃z u,k z=some r/\qqh P op t xo yo (.agg l') (.agg m')=some u/\RV z u:=by
 simp only [qxb]at h;split at h
 ·cases h
 ·rename_i hc;simp only [Bool.or_eq_true,Bool.not_eq_true',not_or,Bool.not_eq_true,Bool.not_eq_false,qe]at hc;obtain ⟨hg,hs1,hs2⟩:=hc;split at h
  ·rename_i b hb;obtain ⟨vs,rfl⟩:=qr2 hs1 hl;obtain ⟨ws,rfl⟩:=qr2 hs2 hm;have he:=qGL 9 t _ _ b hb Op.maxDepth qiX _ _ (.inr ⟨l,vs,rfl,rfl,hs1,hl⟩) (.inr ⟨m,ws,rfl,rfl,hs2,hm⟩);have hv:∀u,Ab.valOf P (do eqGuard op t xo yo (.agg vs.toArray) (.agg ws.toArray);Go.binOp op t (.agg vs.toArray) (.agg ws.toArray))=some u->qqh P op t xo yo (.agg (vs.map .val)) (.agg (ws.map .val))=some (qeH u):=λu hu=>by
    unfold qqh;simp only [V.toVal,qsc,qj,hu]
   have hguard:∀op,(op=.eql\/op=.neq)->Ab.valOf P (eqGuard op t xo yo (.agg vs.toArray) (.agg ws.toArray))=some ():=λop hop=>by
    have h1:Ab.valOf P Go.program=some P:=rfl;rcases hop with rfl|rfl<;>simp only [eqGuard]<;>(simp only [Bool.not_true,qf,if_false,qq,h1,qa,hg,Bool.not_false,if_true];rfl)
   split at h
   ·refine ⟨_,.val (.bool b),h,?_,by simp [RV,RTy]⟩;refine hv (.bool b) ?_;rw [qq,hguard .eql (.inl rfl)];simp only [qa];show Ab.valOf P (Op.equal t _ _ >>= λx=>(pure (Value.bool x):Sem Value))=_;rw [qq];unfold Op.equal;rw [he];rfl
   ·refine ⟨_,.val (.bool (!b)),h,?_,by simp [RV,RTy]⟩;refine hv (.bool (!b)) ?_;rw [qq,hguard .neq (.inr rfl)];simp only [qa];show Ab.valOf P (Op.equal t _ _ >>= λx=>(pure (Value.bool (!x)):Sem Value))=_;rw [qq];unfold Op.equal;rw [he];rfl
   ·cases h
  ·cases h
theorem qsP{t:TypeId}(h:P.underlying t=some .bool)(a b:Bool):Ab.valOf P (Op.equal t (.bool a) (.bool b))=some (a==b):=by
 unfold Op.equal;obtain ⟨n,hn⟩:∃n,Op.maxDepth=n+1:=⟨Op.maxDepth-1,by have:=qiX;omega⟩
 rw [hn];exact qo3 h a b
theorem qD4{op:BinOp}{t:TypeId}{xo yo:Operand}{a b:Bool}{R:Type}{k:TV->Option R}{r:R}{o1 o2:Nat}(h:qxb P op t (.t .bool o1 a) (.t .bool o2 b) R k=some r) :
  ∃z u,k z=some r/\qqh P op t xo yo (.val (.bool a)) (.val (.bool b))=some u/\RV z u:=by
 simp only [qxb]at h;split at h
 ·rename_i hu;refine ⟨_,.val (.bool (a==b)),h,?_,by simp [RV,RTy]⟩;refine qay (u:=.bool (a==b)) ?_;show Ab.valOf P (Op.equal t _ _ >>= λx=>(pure (Value.bool x):Sem Value))=_;rw [qq,qsP hu];rfl
 ·rename_i hu;refine ⟨_,.val (.bool (!(a==b))),h,?_,by simp [RV,RTy]⟩;refine qay (u:=.bool (!(a==b))) ?_;show Ab.valOf P (Op.equal t _ _ >>= λx=>(pure (Value.bool (!x)):Sem Value))=_;rw [qq,qsP hu];rfl
 ·cases h
theorem qxg{argTypes:Array TypeId}{s n:Nat}{y:V}:qeA P argTypes (.room s n) y=none:=by
 unfold qeA;split
 ·simp only
  split
  ·rfl
  ·split
   ·rfl
   ·rfl
 ·rfl
theorem qvk{argTypes:Array TypeId}{s n:Nat}{y:V}:qgJ P argTypes (.room s n) y=none:=by
 unfold qgJ;split
 ·rename_i h;cases h
 ·rfl
theorem qyI{argTypes:Array TypeId}{x y:TV}{x' y':V}{R:Type}{k:TV->Option R}{r:R}(hx:RV x x')(hy:RV y y')(h:qu9 P argTypes x y R k=some r) :
  ∃z u,k z=some r/\(qeA P argTypes x' y').or ((qgJ P argTypes x' y').or (qjd P argTypes x' y'))=some u/\RV z u:=by
 unfold qu9 at h;split at h
 ·rename_i elem yt h0 h1;split at h
  ·rename_i hc0;obtain ⟨hs0,hz,hb⟩:=hc0;split at h
   ·rename_i ik o n;simp only [RV]at hx;subst hx;simp only [RV,RTy]at hy;subst hy;cases hd:(decide (0<n)&&decide (n<=4294967296))with
    |false=>rw [hd]at h;cases h
    |true =>
     rw [hd]at h;simp only [qe,decide_eq_true_eq]at hd;have key:∀m:Int,0<m->m<=4294967296->m.toNat<=4294967296/\m<=70368744177664:=λm _ _=>by omega
     obtain ⟨key1,key2⟩:=key n hd.1 hd.2;refine ⟨_,.room (P.cellsOf elem) n.toNat,h,?_,by simp [RV]⟩;have e1:qeA P argTypes (.val (.slice none 0 0)) (.val (.int .i64 n))=none:=by
      rw [qoW h0 h1];rfl
     have hbig:n.toNat*P.bytesOf elem<=4294967296*8192:=Nat.mul_le_mul key1 hb;have e2:qgJ P argTypes (.val (.slice none 0 0)) (.val (.int .i64 n))=some (.room (P.cellsOf elem) n.toNat):=by
      unfold qgJ;rw [h0,h1];simp only;rw [if_pos ⟨hd.1,key2,hs0,hz,by omega⟩]
     rw [e1,e2];rfl
   ·split at h
    ·cases h
    ·rename_i τ o2 l2 ht;obtain ⟨l2',hl2',hall2⟩:=qD1 ht hy;split at h
     ·rename_i hc;obtain ⟨hcl,hok,hel,hup⟩:=hc;obtain ⟨hup1,hup2⟩:=qFi hup;have hc2:∀e∈l2',e.cells.length=P.cellsOf elem/\e.oks=true/\e.qv=[]:=λe he=>by
       obtain ⟨h1,h2,h3⟩:=qft hel hall2 e he;exact ⟨by rw [h1,hcl],h2,h3⟩
      have hp:ptrsL l2'=[]:=by
       apply List.eq_nil_iff_forall_not_mem.2;intro r hr;obtain ⟨v,hv,hrv⟩:=qrI.1 hr;rw [(hc2 v hv).2.2]at hrv;cases hrv
      have hall2':l2'.all (λe=>decide (e.cells.length=P.cellsOf elem)&&e.oks)=true:=by
       rw [List.all_eq_true];intro e he;simp [(hc2 e he).1,(hc2 e he).2.1]
      have hlen:=hall2.length;split at h
      ·-- behind nil
       simp only [RV]at hx;subst hx;have hv:qeA P argTypes (.val (.slice none 0 0)) y'=if l2'.isEmpty then some (.val (.slice none 0 0))else if (l2'.length+512)*P.bytesOf elem<=70368744177664/\l2'.length<=70368744177664 then some (.sl .own false l2')else none:=by
        rw [qoW h0 h1,hl2'];simp only;rw [if_neg (by simp only [not_or,Decidable.not_not,Bool.not_eq_false];exact ⟨hs0,hz,hall2',by rw [hp];rfl⟩)]
       cases hem:List.isEmpty l2 with
       |true =>
        rw [hem]at h;have hem':l2'.isEmpty=true:=by rw [List.isEmpty_iff]at hem ⊢;subst hem;cases hall2;rfl
        exact ⟨_,.val (.slice none 0 0),h,by rw [hv,if_pos hem'];rfl,by simp only [RV]⟩
       |false =>
        rw [hem]at h;obtain ⟨q,hq,hk⟩:=qd.1 h;obtain ⟨hn,rfl⟩:=qhr hq;have hem':¬ l2'.isEmpty=true:=by
         intro h9;rw [List.isEmpty_iff]at h9;subst h9;cases hall2;cases hem
        have hbig:=big (s:=l2'.length) (by rw [hlen];simpa using hn) hb;refine ⟨_,.sl .own false l2',hk,by rw [hv,if_neg hem',if_pos ⟨hbig,by rw [hlen];simp at hn;omega⟩];rfl,?_⟩;simp only [RV,RTy];exact ⟨.own,false,_,rfl,qg1 hup,by rw [hup1];simpa using hall2⟩
      ·rename_i s τ2 o3 y2 _;split at h
       ·rename_i hs;subst hs;split at h
        ·rename_i q0;simp only [RV]at hx;obtain ⟨_,n,rfl,hn0⟩|⟨h9,_⟩:=hx
         case inr=>omega
         obtain rfl:=hn0 trivial;have hy2:∃fl cl,y'=.sl fl cl l2':=by
          cases τ2 with
          |sl t2=>simp only [RV,RTy]at hy;obtain ⟨f,c,l',rfl,_,_⟩:=hy;simp only [qF4]at hl2';exact ⟨f,c,by simpa using hl2'⟩
          |_=>simp [tail?]at ht
         obtain ⟨fl,cl,rfl⟩:=hy2;have hn:l2.length<=4294967296\/List.isEmpty l2=true:=by
          cases hem:List.isEmpty l2 with
          |true=>exact .inr rfl
          |false =>
           rw [hem]at h;obtain ⟨q,hq,hk⟩:=qd.1 h;obtain ⟨hn,rfl⟩:=qhr hq;exact .inl (by simpa using hn)
         have hnl:l2'.length<=4294967296:=by
          rw [hlen];rcases hn with hn|hn
          ·exact hn
          ·rw [List.isEmpty_iff]at hn;rw [hn];simp
         have hbig:l2'.length*P.bytesOf elem<=4294967296*8192:=Nat.mul_le_mul hnl hb;have hv:qjd P argTypes (.room (P.cellsOf elem) 0) (.sl fl cl l2')=if l2'.isEmpty=true then some (.room (P.cellsOf elem) 0)else some (.sl .own false l2'):=by
          unfold qjd;rw [h0,h1];simp only;rw [if_pos ⟨trivial,hz,hall2',by rw [hp];rfl,by omega,by omega⟩]
         rw [qxg,qvk,hv];cases hem:List.isEmpty l2 with
         |true =>
          rw [hem]at h;have hem':l2'.isEmpty=true:=by rw [List.isEmpty_iff]at hem ⊢;subst hem;cases hall2;rfl
          exact ⟨_,.room (P.cellsOf elem) 0,h,by rw [if_pos hem'];rfl,by simp [RV]⟩
         |false =>
          rw [hem]at h;obtain ⟨q,hq,hk⟩:=qd.1 h;obtain ⟨hn,rfl⟩:=qhr hq;have hem':¬ l2'.isEmpty=true:=by
           intro h9;rw [List.isEmpty_iff]at h9;subst h9;cases hall2;cases hem
          refine ⟨_,.sl .own false l2',hk,by rw [if_neg hem'];rfl,?_⟩;simp only [RV,RTy];exact ⟨.own,false,_,rfl,qg1 hup,by rw [hup1];simpa using hall2⟩
        ·cases h
       ·cases h
      ·cases h
     ·cases h
  ·cases h
 ·cases h
end
section
variable {P:Program} {H:Hints} {f:FuncId}
theorem qqw{t:TypeId}{d:TypeDesc}(hd:P.underlying t=some d){x y:Value}(h:(∃e,d=.slice e/\x=.slice none 0 0/\y=.slice none 0 0)\/(∃e,d=.pointer e/\x=.pointer none/\y=.pointer none)\/(∃a b c,d=.func a b c/\x=.nilFunc/\y=.nilFunc)) :
  Ab.valOf P (Op.equal t x y)=some true:=by
 unfold Op.equal;obtain ⟨n,hn⟩:∃n,Op.maxDepth=n+1:=⟨Op.maxDepth-1,by have:=qiX;omega⟩
 rw [hn];unfold Op.equalIn;rw [qq,qE hd];rcases h with ⟨e,rfl,rfl,rfl⟩|⟨e,rfl,rfl,rfl⟩|⟨a,b,c,rfl,rfl,rfl⟩<;>rfl
theorem qAv{t:TypeId}{ms:_}(hd:P.underlying t=some (.interface ms)):Ab.valOf P (Op.equal t .nilIface .nilIface)=some true:=by
 unfold Op.equal;obtain ⟨n,hn⟩:∃n,Op.maxDepth=n+1:=⟨Op.maxDepth-1,by have:=qiX;omega⟩
 rw [hn];unfold Op.equalIn;rw [qq,qE hd];rfl
theorem qHW{op:BinOp}{t:TypeId}{xo yo:Operand}{x y:TV}{x' y':V}{R:Type}{k:TV->Option R}{r:R}(hx:RV x x')(hy:RV y y')(h:qxb P op t x y R k=some r) :
  ∃z u,k z=some r/\qqh P op t xo yo x' y'=some u/\RV z u:=by
 by_cases h1:∃k1 o1 a k2 o2 b,x=.t (.int k1) o1 a/\y=.t (.int k2) o2 b
 ·obtain ⟨k1,o1,a,k2,o2,b,rfl,rfl⟩:=h1;simp only [RV,RTy]at hx hy;subst hx;subst hy;by_cases hs:op=.shl\/op=.shr
  ·exact qBr hs h
  by_cases hk:k1=k2
  ·subst hk;exact qF7 h
  ·unfold qxb at h;cases op<;>first|exact absurd (.inl rfl) hs|exact absurd (.inr rfl) hs|simp [hk]at h
 by_cases h2:∃o1 a o2 b,x=.t .str o1 a/\y=.t .str o2 b
 ·obtain ⟨o1,a,o2,b,rfl,rfl⟩:=h2;simp only [RV,RTy]at hx hy;subst hx;subst hy;exact qF8 h
 by_cases h3:∃o1 a o2 b,x=.t .bool o1 a/\y=.t .bool o2 b
 ·obtain ⟨o1,a,o2,b,rfl,rfl⟩:=h3;simp only [RV,RTy]at hx hy;subst hx;subst hy;exact qD4 h
 by_cases h5:∃o1 a o2 b,x=.t .cx o1 a/\y=.t .cx o2 b
 ·obtain ⟨o1,a,o2,b,rfl,rfl⟩:=h5;exact qHV hx hy h
 by_cases h4:∃l m,x=.agg l/\y=.agg m
 ·obtain ⟨l,m,rfl,rfl⟩:=h4;simp only [RV]at hx hy;obtain ⟨l',rfl,hl⟩:=hx;obtain ⟨m',rfl,hm⟩:=hy;exact qF6 hl hm h
 unfold qxb at h;split at h
 ·exact absurd ⟨_,_,_,_,_,_,rfl,rfl⟩ h1
 ·exact absurd ⟨_,_,_,_,rfl,rfl⟩ h5
 ·exact absurd ⟨_,_,_,_,rfl,rfl⟩ h2
 ·exact absurd ⟨_,_,_,_,rfl,rfl⟩ h3
 ·exact absurd ⟨_,_,rfl,rfl⟩ h4
 ·rename_i τ o l;simp only [RV,RTy]at hx hy;obtain ⟨fx,cx,l',rfl,_,hall⟩:=hx;subst hy;split at h
  ·rename_i el hu;cases hall with
   |nil=>simp at h
   |cons ha hb =>
    simp only [List.isEmpty_cons,cond_false]at h;have hv:∀v m op,qqh P op t xo yo (.sl fx cx (v::m)) (.val (.slice none 0 0))=(match op with
      |.eql=>some (.val (.bool false))
      |.neq=>some (.val (.bool true))
      |_=>none):=λv m op=>by
     unfold qqh;simp only [V.toVal,hu,notNil,if_true];cases op<;>rfl
    split at h
    ·exact ⟨_,_,h,hv _ _ _,by simp [RV,RTy]⟩
    ·exact ⟨_,_,h,hv _ _ _,by simp [RV,RTy]⟩
    ·cases h
  ·cases h
 ·split at h
  ·rename_i d hd;split at h
   ·rename_i hn;have hv:x'.toVal=none/\notNil d x' y'=true:=by
     unfold qC4 at hn;split at hn
     ·simp only [RV]at hx hy;subst hx;subst hy;exact ⟨rfl,rfl⟩
     ·simp only [RV]at hx hy;obtain ⟨_,l',rfl,_⟩:=hx;subst hy;exact ⟨rfl,rfl⟩
     ·simp only [RV]at hx hy;obtain ⟨a',b',rfl,_⟩:=hx;subst hy;exact ⟨rfl,rfl⟩
     ·cases hn
    have hv2:∀op,qqh P op t xo yo x' y'=(match op with
      |.eql=>some (.val (.bool false))
      |.neq=>some (.val (.bool true))
      |_=>none):=λop=>by
     unfold qqh;simp only [hv.1,hd,hv.2,if_true];cases op<;>rfl
    split at h
    ·exact ⟨_,_,h,hv2 _,by simp [RV,RTy]⟩
    ·exact ⟨_,_,h,hv2 _,by simp [RV,RTy]⟩
    ·cases h
   ·split at h
    ·rename_i hn;have hv:∃u v,x'=.val u/\y'=.val v/\Ab.valOf P (Op.equal t u v)=some true/\(∀op,op=.eql\/op=.neq->Ab.valOf P (do eqGuard op t xo yo u v;Go.binOp op t u v)=Ab.valOf P (Op.equal t u v >>= λb=>(pure (Value.bool (if op=.eql then b else !b)):Sem Value))):=by
      unfold qGx at hn;split at hn
      ·simp only [RV]at hx hy;subst hx;subst hy;refine ⟨_,_,rfl,rfl,qqw hd (.inl ⟨_,rfl,rfl,rfl⟩),?_⟩;rintro op (rfl|rfl)<;>rfl
      ·simp only [RV]at hx hy;subst hx;subst hy;refine ⟨_,_,rfl,rfl,qqw hd (.inr (.inl ⟨_,rfl,rfl,rfl⟩)),?_⟩;rintro op (rfl|rfl)<;>rfl
      ·simp only [RV]at hx hy;subst hx;subst hy;refine ⟨_,_,rfl,rfl,qqw hd (.inr (.inr ⟨_,_,_,rfl,rfl,rfl⟩)),?_⟩;rintro op (rfl|rfl)<;>rfl
      ·cases hn
     obtain ⟨u,v,rfl,rfl,he,hg⟩:=hv;split at h
     ·refine ⟨_,.val (.bool true),h,?_,by simp [RV,RTy]⟩;refine qay (u:=.bool true) ?_;rw [hg _ (.inl rfl),qq,he];rfl
     ·refine ⟨_,.val (.bool false),h,?_,by simp [RV,RTy]⟩;refine qay (u:=.bool false) ?_;rw [hg _ (.inr rfl),qq,he];rfl
     ·cases h
    ·cases h
  ·cases h
theorem qJc{op:UnOp}{x y:TV}{v:V}(hx:RV x v)(h:tun op x=some y):∃u,v.toVal.bind (λa=>(Ab.valOf P (Go.Op.unary op a)).map qeH)=some u/\RV y u:=by
 unfold tun at h;split at h
 ·cases h;simp only [RV,RTy]at hx;subst hx;exact ⟨_,rfl,by simp [RV,RTy,qeH]⟩
 ·cases h;simp only [RV,RTy]at hx;subst hx;exact ⟨_,rfl,by simp [RV,RTy,qeH]⟩
 ·cases h
theorem qF9{src dst:TypeId}{x:TV}{v:V}{R:Type}{k:TV->Option R}{r:R}(hx:RV x v)(h:qHX P src dst x R k=some r):∃z u,k z=some r/\qvl P src dst v=some u/\RV z u:=by
 unfold qHX at h;split at h
 ·rename_i d1 kk k0 o n h1 h2;simp only [RV,RTy]at hx;subst hx;refine ⟨_,.val (.int kk (kk.wrap n)),h,?_,by simp [RV,RTy]⟩;unfold qvl qje;simp only [V.toVal];unfold Go.convert;rw [qq,qE h1];simp only [qa];rw [qq,qE h2];rfl
 ·rename_i d1 k0 o n h1 h2;obtain ⟨n',hn',hk'⟩:=qd.1 h;obtain ⟨rfl,hn⟩:=qfP hn';simp only [RV,RTy]at hx;subst hx;refine ⟨_,.val (.float .f64 (FloatKind.f64.nearest n')),hk',?_,by simp only [RV,RTy];exact ⟨_,rfl,Fl.qAX hn⟩⟩;unfold qvl qje;simp only [V.toVal];unfold Go.convert;rw [qq,qE h1];simp only [qa];rw [qq,qE h2];rfl
 ·rename_i o n h1 h2;obtain ⟨n',hn',hk'⟩:=qd.1 h;obtain ⟨rfl,hn⟩:=qfP hn';simp only [RV,RTy]at hx;obtain ⟨b,rfl,hb⟩:=hx;refine ⟨_,.val (.int .i64 n'),hk',?_,by simp [RV,RTy]⟩;unfold qvl qje;simp only [V.toVal];unfold Go.convert;rw [qq,qE h1];simp only [qa];rw [qq,qE h2];have h3:(FloatKind.f64.decode b).toInt .zero=some n':=Fl.qGa hb;have h4:IntKind.i64.min<=n'/\n'<=IntKind.i64.max:=by
   simp only [IntKind.min,IntKind.max,IntKind.signed,IntKind.bits,if_true]<;>omega
  show ((Ab.valOf P (Conv.floatToInt .f64 b .i64)).map qeH)=_;unfold Conv.floatToInt;simp only [h3];rw [if_pos h4];rfl
 ·rename_i d1 o s h1 h2;simp only [RV,RTy]at hx;subst hx;refine ⟨_,.val (.string ⟨s.toArray⟩),h,?_,by simp [RV,RTy]⟩;unfold qvl qje;simp only [V.toVal];unfold Go.convert;rw [qq,qE h1];simp only [qa];rw [qq,qE h2];rfl
 ·rename_i e o l h1 h2;split at h
  ·rename_i he;simp only [RV,RTy]at hx;obtain ⟨f,c,l',rfl,_,hall⟩:=hx;refine ⟨_,.val (.string ⟨(l.map λn=>UInt8.ofNat n.toNat).toArray⟩),h,?_,by simp [RV,RTy]⟩;simp only [qvl,qxh,h1,h2,he];have hb:∀{l:List Int} {l':List V},All2 (λ(n:Int) v=>v=.val (.int .u8 n)) l l'->bytesOf l'=some (l.map λn=>UInt8.ofNat n.toNat):=by
    intro l l' hall;induction hall with
    |nil=>rfl
    |cons h1 _ ih=>subst h1;simp only [bytesOf,ih,qj,qi]
   rw [hb (hall.mono λn v h=>by simpa only [RTy]using h)];rfl
  ·cases h
 ·cases h
theorem qvf{k:IntKind}:∀{xs:List TV} {ys:List V} {l:List Int},qxd k xs=some l->RVL xs ys->ys=l.map λn=>.val (.int k n)
 |[],ys,l,h,hr=>by simp only [qxd,qb]at h;simp only [RVL]at hr;subst h;subst hr;rfl
 |x::xs,ys,l,h,hr=>by
  simp only [RVL]at hr;obtain ⟨v,m,rfl,h1,h2⟩:=hr;cases x with
  |t τ o x =>
   cases τ with
   |int k' =>
    simp only [qxd]at h;split at h
    ·rename_i hk;subst hk;obtain ⟨l',hl',rfl⟩:=qc.1 h;simp only [RV,RTy]at h1;subst h1;rw [qvf hl' h2];rfl
    ·cases h
   |_=>simp [qxd]at h
  |_=>simp [qxd]at h
theorem qmj(k:IntKind):∀l:List Int,toValL (l.map λn=>V.val (.int k n))=some (l.map λn=>Value.int k n)
 |[]=>rfl
 |n::l=>by simp [toValL,V.toVal,qmj k l]
theorem qCT(k:IntKind):∀(l:List Int) (n:Int),Ab.valOf P ((l.map λn=>Value.int k n).foldlM Go.Builtin.max2 (.int k n))=some (.int k (l.foldl max n))
 |[],n=>rfl
 |m::l,n=>by
  simp only [qi,List.foldlM_cons,List.foldl_cons];rw [qq];have:Ab.valOf P (Go.Builtin.max2 (.int k n) (.int k m))=some (.int k (max n m)):=by
   show some (Value.int k (if m > n then m else n))=_;congr 2;split<;>omega
  rw [this];exact qCT k l _
theorem qCZ(k:IntKind):∀(l:List Int) (n:Int),Ab.valOf P ((l.map λn=>Value.int k n).foldlM Go.Builtin.min2 (.int k n))=some (.int k (l.foldl min n))
 |[],n=>rfl
 |m::l,n=>by
  simp only [qi,List.foldlM_cons,List.foldl_cons];rw [qq];have:Ab.valOf P (Go.Builtin.min2 (.int k n) (.int k m))=some (.int k (min n m)):=by
   show some (Value.int k (if m<n then m else n))=_;congr 2;split<;>omega
  rw [this];exact qCZ k l _
theorem qyK{b:Builtin}{argTypes:Array TypeId}{ty:TypeId}{xs:List TV}{ys:List V}{R:Type}{k:TV->Option R}{r:R}(hx:RVL xs ys)(h:qvb P b argTypes xs R k=some r) :
  ∃z u,k z=some r/\qfW P b argTypes ty ys=some u/\RV z u:=by
 unfold qvb at h;split at h
 ·rename_i τ o l;simp only [RVL]at hx;obtain ⟨v,m,rfl,h1,rfl⟩:=hx;simp only [RV,RTy]at h1;obtain ⟨fx,c,l',rfl,_,hall⟩:=h1;split at h
  ·rename_i e he;refine ⟨_,.val (.int .i64 l'.length),h,?_,by simp [RV,RTy,hall.length]⟩;simp only [qfW,he]
  ·cases h
 ·rename_i τ l;simp only [RVL]at hx;obtain ⟨v,m,rfl,h1,rfl⟩:=hx;simp only [RV]at h1;obtain ⟨fx,l',rfl,_,hall⟩:=h1;split at h
  ·rename_i e he;refine ⟨_,.val (.int .i64 l'.length),h,?_,by simp [RV,RTy,hall.length]⟩;simp only [qfW,he]
  ·cases h
 ·rename_i ow;simp only [RVL]at hx;obtain ⟨v,m,rfl,h1,rfl⟩:=hx;simp only [RV]at h1;obtain ⟨fx,c,rfl,_⟩:=h1;split at h
  ·rename_i e he;refine ⟨_,.val (.int .i64 ([]:List V).length),h,?_,by simp [RV,RTy]⟩;simp only [qfW,he]
  ·cases h
 ·rename_i o s;simp only [RVL]at hx;obtain ⟨v,m,rfl,h1,rfl⟩:=hx;simp only [RV,RTy]at h1;subst h1;split at h
  ·rename_i he;refine ⟨_,.val (.int .i64 s.length),h,?_,by simp [RV,RTy]⟩;obtain ⟨t,ht,hu⟩:=qd.1 he;have hl:Ab.valOf P (Go.Builtin.len_ argTypes ty #[.string ⟨s.toArray⟩])=some (.int .i64 s.length):=by
    unfold Go.Builtin.len_;have ha:(#[Value.string ⟨s.toArray⟩]:Array Value)[0]?=some (.string ⟨s.toArray⟩):=rfl;simp only [ht,ha];rw [qq,qE hu];simp only [qa];show some (goInt (⟨s.toArray⟩:ByteArray).size)=_;simp [goInt,ByteArray.size]
   show ((toValL [V.val (.string ⟨s.toArray⟩)]).bind λvs=>(Ab.valOf P (Go.Builtin.len_ argTypes ty vs.toArray)).map qeH)=_;simp only [toValL,V.toVal,qa];rw [show [Value.string ⟨s.toArray⟩].toArray=#[Value.string ⟨s.toArray⟩]from rfl,hl];rfl
  ·cases h
 ·simp only [RVL]at hx;obtain ⟨v,m,rfl,h1,rfl⟩:=hx;simp only [RV]at h1;subst h1;split at h
  ·rename_i e he;refine ⟨_,.val (.int .i64 0),h,?_,by simp [RV,RTy]⟩;obtain ⟨t,ht,hu⟩:=qd.1 he;have hl:Ab.valOf P (Go.Builtin.cap_ argTypes ty #[.slice none 0 0])=some (.int .i64 0):=by
    unfold Go.Builtin.cap_;have ha:(#[Value.slice none 0 0]:Array Value)[0]?=some (.slice none 0 0):=rfl;simp only [ht,ha];rw [qq,qE hu];rfl
   show ((toValL [V.val (.slice none 0 0)]).bind λvs=>(Ab.valOf P (Go.Builtin.cap_ argTypes ty vs.toArray)).map qeH)=_;simp only [toValL,V.toVal,qa];rw [show [Value.slice none 0 0].toArray=#[Value.slice none 0 0]from rfl,hl];rfl
  ·cases h
 ·simp only [RVL]at hx;obtain ⟨v,m,rfl,h1,rfl⟩:=hx;simp only [RV]at h1;subst h1;split at h
  ·rename_i e he;refine ⟨_,.val (.int .i64 0),h,?_,by simp [RV,RTy]⟩;obtain ⟨t,ht,hu⟩:=qd.1 he;have hl:Ab.valOf P (Go.Builtin.len_ argTypes ty #[.slice none 0 0])=some (.int .i64 0):=by
    unfold Go.Builtin.len_;have ha:(#[Value.slice none 0 0]:Array Value)[0]?=some (.slice none 0 0):=rfl;simp only [ht,ha];rw [qq,qE hu];rfl
   show ((toValL [V.val (.slice none 0 0)]).bind λvs=>(Ab.valOf P (Go.Builtin.len_ argTypes ty vs.toArray)).map qeH)=_;simp only [toValL,V.toVal,qa];rw [show [Value.slice none 0 0].toArray=#[Value.slice none 0 0]from rfl,hl];rfl
  ·cases h
 ·rename_i x y;simp only [RVL]at hx;obtain ⟨v,m,rfl,h1,v2,m2,rfl,h2,rfl⟩:=hx;split at h
  ·obtain ⟨z,u,hz,hu,hr⟩:=qyI h1 h2 h;exact ⟨z,u,hz,by simp only [qfW,hu],hr⟩
  ·obtain ⟨z,u,hz,hu,hr⟩:=qBq h1 h2 h;exact ⟨z,u,hz,by simp only [qfW,hu,Option.some_or],hr⟩
 ·rename_i o1 a o2 b;simp only [RVL]at hx;obtain ⟨v,m,rfl,h1,v2,m2,rfl,h2,rfl⟩:=hx;simp only [RV,RTy]at h1 h2;obtain ⟨b1,rfl,i1⟩:=h1;obtain ⟨b2,rfl,i2⟩:=h2;exact ⟨_,.val (.complex .f64 b1 b2),h,rfl,by simp only [RV,RTy];exact ⟨b1,b2,rfl,i1,i2⟩⟩
 ·rename_i o1 a;simp only [RVL]at hx;obtain ⟨v,m,rfl,h1,rfl⟩:=hx;simp only [RV,RTy]at h1;obtain ⟨b1,b2,rfl,i1,i2⟩:=h1;exact ⟨_,.val (.float .f64 b1),h,rfl,by simp only [RV,RTy];exact ⟨b1,rfl,i1⟩⟩
 ·rename_i o1 a;simp only [RVL]at hx;obtain ⟨v,m,rfl,h1,rfl⟩:=hx;simp only [RV,RTy]at h1;obtain ⟨b1,b2,rfl,i1,i2⟩:=h1;exact ⟨_,.val (.float .f64 b2),h,rfl,by simp only [RV,RTy];exact ⟨b2,rfl,i2⟩⟩
 ·rename_i kk o n xs;split at h
  ·rename_i l hl;simp only [RVL]at hx;obtain ⟨v,m,rfl,h1,h2⟩:=hx;simp only [RV,RTy]at h1;subst h1;rw [qvf hl h2];refine ⟨_,.val (.int kk (l.foldl max n)),h,?_,by simp [RV,RTy]⟩;show ((toValL ((n::l).map λn=>V.val (.int kk n))).bind λvs=>(Ab.valOf P (Go.Builtin.max_ argTypes ty vs.toArray)).map qeH)=_;rw [qmj];simp only [qa];have:Ab.valOf P (Go.Builtin.max_ argTypes ty ((n::l).map λn=>Value.int kk n).toArray)=some (.int kk (l.foldl max n)):=qCT kk l n;rw [this];rfl
  ·cases h
 ·rename_i kk o n xs;split at h
  ·rename_i l hl;simp only [RVL]at hx;obtain ⟨v,m,rfl,h1,h2⟩:=hx;simp only [RV,RTy]at h1;subst h1;rw [qvf hl h2];refine ⟨_,.val (.int kk (l.foldl min n)),h,?_,by simp [RV,RTy]⟩;show ((toValL ((n::l).map λn=>V.val (.int kk n))).bind λvs=>(Ab.valOf P (Go.Builtin.min_ argTypes ty vs.toArray)).map qeH)=_;rw [qmj];simp only [qa];have:Ab.valOf P (Go.Builtin.min_ argTypes ty ((n::l).map λn=>Value.int kk n).toArray)=some (.int kk (l.foldl min n)):=qCZ kk l n;rw [this];rfl
  ·cases h
 ·cases h
def BxR:Option (List TV)->Option (List V)->Prop
 |none,b=>True
 |some c,b=>∃c',b=some c'/\RVL c c'
def BxO:Option (List TV)->Option (List V)->Prop
 |none,b=>b=none
 |some c,b=>∃c',b=some c'/\RVL c c'
theorem qD3{R:Type}{mk:Int->TV}{l:List Int}{r:R}:∀(n i:Nat) (acc:List TV) (k:List TV->Option R),qJb R mk l n i acc k=some r->i<=l.length->n+i<=l.length/\k (acc++((l.drop i).take n).map mk)=some r
 |0,i,acc,k,h,hi=>⟨by omega,by simpa [qJb]using h⟩
 |n+1,i,acc,k,h,hi=>by
  unfold qJb at h;obtain ⟨e,he,hk⟩:=qd.1 h;rw [show idx l (i:Int)=l[i]? from by simp [idx]]at he;have hlt:=(qn.1 he).1;obtain ⟨h1,h2⟩:=qD3 n (i+1) _ k hk (by omega);refine ⟨by omega,?_⟩;have e1:(l.drop i).take (n+1)=e::(l.drop (i+1)).take n:=by
   rw [List.drop_eq_getElem_cons hlt,List.take_succ_cons];rw [(qn.1 he).2]
  rw [e1,qi];simpa using h2
theorem qyJ{t:TypeId}{x:TV}{R:Type}{k:TV->Option R}{r:R}{v:V}(h:qva P t x R k=some r)(hx:RV x v):∃y u,k y=some r/\qkV P t v=some u/\RV y u:=by
 unfold qva at h;split at h
 ·rename_i n elem kk o l hu;split at h
  ·cases h
  ·rename_i h0;obtain ⟨h1,h2⟩:=qD3 n 0 [] _ h (Nat.zero_le _);simp only [RV,RTy]at hx;obtain ⟨fl,c,l',rfl,hfl,hall⟩:=hx;have hl:=hall.length;have hv:∀{l:List Int} {l':List V},All2 (λ(n:Int) v=>v=.val (.int kk n)) l l'->(qjj l').isSome=true:=by
    intro l l' h;induction h with
    |nil=>rfl
    |cons h1 _ ih=>subst h1;simpa [qjj]using ih
   have hall':=hall.mono λn v (h:RTy (.int kk) (nx o) n v)=>(by simpa only [RTy]using h:v=.val (.int kk n))
   refine ⟨_,.cptr (qac fl) (l'.take n),h2,?_,?_⟩
   ·simp only [qkV,hu];rw [if_pos ⟨by omega,h0,hv hall'⟩]
   ·simp only [RV];refine ⟨_,_,rfl,by cases fl<;>simp [qac],λe=>by rw [hfl.2 (of_decide_eq_true e)];rfl,?_⟩;have ht:∀{l:List Int} {l':List V},All2 (λ(n:Int) v=>v=.val (.int kk n)) l l'->∀n,RVL ((l.take n).map λe=>.t (.int kk) 0 e) (l'.take n):=by
     intro l l' h;induction h with
     |nil=>intro n;simp only [List.take_nil,List.map_nil];exact qaU
     |cons h1 _ ih =>
      intro n;cases n with
      |zero=>simp only [List.take_zero,List.map_nil];exact qaU
      |succ n =>
       subst h1;simp only [List.take_succ_cons,qi];exact qC.2 ⟨by simp only [RV,RTy],ih n⟩
    simpa using ht hall' n
 ·cases h
theorem qxf{tk:Bool}{o:Op}{ty:TypeId}{xs:List TV}{ys:List V}{bx:Option (List TV)}{bx':Option (List V)}{R:Type}{k:TV->Option (List TV)->Option R}{r:R}(hx:RVL xs ys)(hb:BxR bx bx')(hmp:∀c,bx'=some c->qjn c=false)
  (h:qef P H f tk o xs bx R k=some r):∃z c u c',k z c=some r/\qbv P H f tk o ty ys bx'=some (u,c')/\RV z u/\BxO c c':=by
 have fin:∀{x:Option TV} {y:Option V},(match x with|some x=>k x none|none=>none)=some r->(∀z,x=some z->∃u,y=some u/\RV z u)->∃z c u c',k z c=some r/\(y.map λx=>(x,(none:Option (List V))))=some (u,c')/\RV z u/\BxO c c':=by
  intro x y h1 h2;cases x with
  |none=>cases h1
  |some z =>
   obtain ⟨u,hu,hr⟩:=h2 z rfl;exact ⟨z,none,u,none,h1,by rw [hu];rfl,hr,rfl⟩
 have fin2:∀{y:Option V},(∃z u,k z none=some r/\y=some u/\RV z u)->∃z c u c',k z c=some r/\(y.map λx=>(x,(none:Option (List V))))=some (u,c')/\RV z u/\BxO c c':=by
  rintro y ⟨z,u,h1,rfl,hr⟩;exact ⟨z,none,u,none,h1,rfl,hr,rfl⟩
 unfold qef at h;simp only at h;split at h
 ·simp only [RVL]at hx;obtain ⟨v,m,rfl,h1,rfl⟩:=hx;exact ⟨_,none,v,none,h,rfl,h1,rfl⟩
 ·simp only [RVL]at hx;obtain ⟨v,m,rfl,h1,rfl⟩:=hx;exact ⟨_,none,v,none,h,rfl,h1,rfl⟩
 ·rename_i o' c a b;simp only [RVL]at hx;obtain ⟨v,m,rfl,h1,va,ma,rfl,ha,vb,mb,rfl,hb',rfl⟩:=hx;simp only [RV,RTy]at h1;subst h1;cases c with
  |true=>exact ⟨_,none,va,none,h,rfl,ha,rfl⟩
  |false=>exact ⟨_,none,vb,none,h,rfl,hb',rfl⟩
 ·rename_i t parts xs;exact fin h λz hz=>qD6 hx hz
 ·rename_i t len parts xs;exact fin h λz hz=>qsE hx hz
 ·rename_i t a cs;simp only [RVL]at hx;obtain ⟨v,m,rfl,h1,rfl⟩:=hx;simp only [RV]at h1;obtain ⟨_,cs',rfl,_,_,hc⟩:=h1;refine fin h λz hz=>?_;obtain ⟨w,hw,rfl⟩:=qc.1 hz;obtain ⟨u,hu,hr⟩:=qfF hw hc;exact ⟨u.qap,by rw [hu];rfl,hr.qap⟩
 ·rename_i t a q off;simp only [RVL]at hx;obtain ⟨v,m,rfl,h1,rfl⟩:=hx;simp only [RV]at h1;subst h1;split at h
  ·rename_i cs;obtain ⟨cs',rfl,hc⟩:=hb;have hlp:=qgL (qbm hc) (hmp _ rfl);split at h
   ·rename_i htk;split at h
    ·rename_i x hxx;obtain ⟨u,hu,hr⟩:=qfF hxx (hc.drop off);refine ⟨_,_,u,_,h,?_,hr,⟨_,rfl,qnE hc (RVL.qap ((hc.drop off).take _))⟩⟩;simp only [qbv,hlp,qf,if_false,htk,if_true,hu,qj]
    ·cases h
   ·rename_i htk;obtain ⟨z,c,u,c',h1,h2,h3,h4⟩:=fin (y:=(qar P t (cs'.drop off)).map V.qap) h λz hz=>by
     obtain ⟨w,hw,rfl⟩:=qc.1 hz;obtain ⟨u,hu,hr⟩:=qfF hw (hc.drop off);exact ⟨u.qap,by rw [hu];rfl,hr.qap⟩
    refine ⟨z,c,u,c',h1,?_,h3,h4⟩;simp only [qbv,hlp,qf,if_false];rw [if_neg htk];exact h2
  ·cases h
 ·rename_i t a b q off x;simp only [RVL]at hx;obtain ⟨v,m,rfl,h1,v2,m2,rfl,h2,rfl⟩:=hx;simp only [RV]at h1;subst h1;split at h
  ·rename_i cs;obtain ⟨cs',rfl,hc⟩:=hb;have hlp:=qgL (qbm hc) (hmp _ rfl);split at h
   ·rename_i hcond;obtain ⟨h0,hl,ho,hk⟩:=hcond;obtain ⟨hcells,hko⟩:=RV.cells hk h2;refine ⟨_,_,.undef,_,h,?_,qfe [],⟨_,rfl,qnE hc hcells⟩⟩;simp only [qbv];rw [if_pos ⟨hlp,h0,by rw [hcells.length];exact hl,by rw [hcells.length,hc.length];exact ho,hko⟩]
   ·cases h
  ·cases h
 ·simp only [RVL]at hx;obtain ⟨v,m,rfl,h1,rfl⟩:=hx;simp only [RV]at h1;subst h1;exact ⟨_,none,_,none,h,rfl,by simp [RV],rfl⟩
 ·simp only [RVL]at hx;obtain ⟨v,m,rfl,h1,rfl⟩:=hx;have h1':=h1;simp only [RV]at h1;obtain ⟨_,l',rfl,_,h1⟩:=h1;exact ⟨_,none,_,none,h,rfl,h1',rfl⟩
 ·simp only [RVL]at hx;obtain ⟨v,m,rfl,h1,rfl⟩:=hx;have h1':=h1;simp only [RV]at h1;obtain ⟨a',b',rfl,_⟩:=h1;exact ⟨_,none,_,none,h,rfl,h1',rfl⟩
 ·rename_i op' t xo c0 yt o0 b;simp only [RVL]at hx;obtain ⟨v,m,rfl,h1,v2,m2,rfl,h2,rfl⟩:=hx;simp only [RV,RTy]at h1 h2;subst h2;have hv:∀op ms,(op=.eql\/op=.neq)->P.underlying t=some (.interface ms)->qqh P op t xo (.const c0) v (.val .nilIface)=some (.val (.bool (if op=.eql then b else !b))):=by
   intro op ms hop hu;rcases h1 with ⟨rfl,rfl⟩|⟨rfl,t9,rfl⟩
   ·have he:Ab.valOf P (Op.equal t .nilIface .nilIface)=some true:=qAv hu;have hg:∀op,Ab.valOf P (eqGuard op t xo (.const c0) .nilIface .nilIface)=some ():=by
     intro op;unfold eqGuard;cases op<;>cases xo<;>rfl
    unfold qqh;simp only [V.toVal];rcases hop with rfl|rfl
    ·rw [qq,hg];simp only [qa];show ((Ab.valOf P (Op.equal t .nilIface .nilIface >>= λb=>(pure (Value.bool b):Sem Value))).map qeH)=_;rw [qq,he];rfl
    ·rw [qq,hg];simp only [qa];show ((Ab.valOf P (Op.equal t .nilIface .nilIface >>= λb=>(pure (Value.bool (!b)):Sem Value))).map qeH)=_;rw [qq,he];rfl
   ·unfold qqh;simp only [V.toVal,Option.map_none,hu,notNil,if_true];rcases hop with rfl|rfl<;>rfl
  split at h
  ·rename_i ms hu;exact fin2 ⟨_,_,h,hv .eql ms (.inl rfl) hu,by simp [RV,RTy]⟩
  ·rename_i ms hu;exact fin2 ⟨_,_,h,hv .neq ms (.inr rfl) hu,by simp [RV,RTy]⟩
  ·cases h
 ·simp only [RVL]at hx;obtain ⟨v,m,rfl,h1,v2,m2,rfl,h2,rfl⟩:=hx;exact fin2 (qHW h1 h2 h)
 ·simp only [RVL]at hx;obtain ⟨v,m,rfl,h1,rfl⟩:=hx;exact fin h λz hz=>qJc h1 hz
 ·simp only [RVL]at hx;obtain ⟨v,m,rfl,h1,rfl⟩:=hx;exact fin2 (qF9 h1 h)
 ·refine ⟨_,none,_,none,h,rfl,?_,rfl⟩;simp only [RV];exact ⟨_,_,rfl,hx.take _,hx.drop _⟩
 ·simp only [RVL]at hx;obtain ⟨v,m,rfl,h1,v2,m2,rfl,h2,rfl⟩:=hx;exact fin2 (qvg h1 h2 h)
 ·rename_i t a lo hi mx x rest;simp only [RVL]at hx;obtain ⟨v,m,rfl,h1,h2⟩:=hx;have hhead:∀{l:List TV} {l':List V},RVL l l'->RVO l.head? l'.head?:=λ{l l'} h=>by
   cases l with
   |nil=>simp only [RVL]at h;subst h;trivial
   |cons y l=>simp only [RVL]at h;obtain ⟨u,n,rfl,h3,_⟩:=h;exact h3
  have htail:∀{l:List TV} {l':List V},RVL l l'->RVL l.tail l'.tail:=λ{l l'} h=>by
   rw [<- List.drop_one,<- List.drop_one];exact h.drop 1
  have hr1:RVL (if lo.isSome=true then rest.tail else rest) (if lo.isSome=true then m.tail else m):=by
   split
   ·exact htail h2
   ·exact h2
  have hr2:RVL (if hi.isSome=true then (if lo.isSome=true then rest.tail else rest).tail else (if lo.isSome=true then rest.tail else rest)) (if hi.isSome=true then (if lo.isSome=true then m.tail else m).tail else (if lo.isSome=true then m.tail else m)):=by
   split
   ·exact htail hr1
   ·exact hr1
  have ho:∀{q:Bool} {l:List TV} {l':List V},RVL l l'->RVO (if q=true then l.head? else none) (if q=true then l'.head? else none):=λ{q l l'} h=>by
   split
   ·exact hhead h
   ·trivial
  split at h
  ·obtain ⟨y,u,hk,hv,hr⟩:=qBt h1 (ho h2) (ho hr1) (ho hr2) h;exact fin2 ⟨y,u,hk,hv,hr⟩
  ·obtain ⟨y,u,hk,hv,hr⟩:=qEe h1 (ho h2) (ho hr1) (ho hr2) h;exact fin2 ⟨y,u,hk,by rw [hv];rfl,hr⟩
 ·simp only [RVL]at hx;obtain ⟨v,m,rfl,h1,rfl⟩:=hx;exact fin h λz hz=>qvc hz h1
 ·simp only [RVL]at hx;obtain ⟨v,m,rfl,h1,rfl⟩:=hx;exact fin h λz hz=>qD8 hz h1
 ·simp only [RVL]at hx;obtain ⟨v,m,rfl,h1,rfl⟩:=hx;obtain ⟨y,u,hk,hu,hr⟩:=qyJ h h1;exact fin2 ⟨y,u,hk,hu,hr⟩
 ·simp only [RVL]at hx;obtain ⟨v,m,rfl,h1,v2,m2,rfl,h2,rfl⟩:=hx;simp only [RV,RTy]at h2;subst h2;obtain ⟨y,u,hk,hu,hr⟩:=qve h h1;exact fin2 ⟨y,u,hk,hu,hr⟩
 ·simp only [RVL]at hx;obtain ⟨v,m,rfl,h1,v2,m2,rfl,h2,rfl⟩:=hx;simp only [RV,RTy]at h2;subst h2;split at h
  ·rename_i len elem cs hu;simp only [RV]at h1;obtain ⟨cs',rfl,hc⟩:=h1;obtain ⟨y,u,hk,hv,hr⟩:=qEb hu h hc;exact fin2 ⟨y,u,hk,hv,hr⟩
  ·rename_i o s hu;simp only [RV,RTy]at h1;subst h1;obtain ⟨b,hb',hk⟩:=qd.1 h;obtain ⟨h0,hi⟩:=qp0 hb';refine fin2 ⟨_,.val (.int .u8 b.toNat),hk,?_,by simp [RV,RTy]⟩;simp only [qsk,hu];rw [if_pos h0];have key:∀j:Nat,s[j]?=some b->(⟨s.toArray⟩:ByteArray)[j]?=some b:=λj hj=>by
    have hlt:=(qn.1 hj).1;rw [getElem?_pos (⟨s.toArray⟩:ByteArray) j (by simpa [ByteArray.size]using hlt)];have:=(qn.1 hj).2;simp only [qb];rw [<- this];rfl
   rw [key _ hi];rfl
  ·cases h
 ·simp only [RVL]at hx;obtain ⟨v,m,rfl,h1,rfl⟩:=hx;simp only [RV]at h1;obtain ⟨l',rfl,hl⟩:=h1;exact fin h λz hz=>hl.get hz
 ·exact fin2 (qyK hx h)
 ·cases h
end
section
variable {P:Program} {H:Hints} {f:FuncId}
def kvs(τ:Ty)(l:List τ.den):List (Value×Value):=l.map λx=>(qCE τ x,.bool true)
mutual
theorem adopt_id(q:Root):∀v:V,v.qv=[]->v.adopt q=v
 |.mref r,h=>by simp [V.qv]at h
 |.fn g a b,h=>by
  simp only [V.qv,List.append_eq_nil_iff]at h;simp only [V.adopt,adoptL_id q a h.1,adoptL_id q b h.2]
 |.agg l,h=>by simp only [V.qv]at h;simp only [V.adopt,adoptL_id q l h]
 |.cptr _ l,h=>by simp only [V.qv]at h;simp only [V.adopt,adoptL_id q l h]
 |.tuple l,h=>by simp only [V.qv]at h;simp only [V.adopt,adoptL_id q l h]
 |.undef,_|.val _,_|.ptr ..,_|.sl ..,_|.room ..,_|.yld _,_|.bsl ..,_|.iface ..,_|.mp _,_|.lp ..,_=>by simp [V.adopt]
theorem adoptL_id(q:Root):∀l:List V,ptrsL l=[]->Ab.adoptL q l=l
 |[],_=>by simp [Ab.adoptL]
 |v::l,h=>by
  simp only [ptrsL,List.append_eq_nil_iff]at h;simp only [Ab.adoptL,adopt_id q v h.1,adoptL_id q l h.2]
end
theorem qhH:∀(τ:Ty) (o:Nat) (x:τ.den) (v:V),RTy τ o x v->v.onlyMaps=true
 |.int _,_,_,v,h=>by simp only [RTy]at h;subst h;rfl
 |.bool,_,_,v,h=>by simp only [RTy]at h;subst h;rfl
 |.str,_,_,v,h=>by simp only [RTy]at h;subst h;rfl
 |.flt,_,_,v,h=>by simp only [RTy]at h;obtain ⟨_,rfl,_⟩:=h;rfl
 |.cx,_,_,v,h=>by simp only [RTy]at h;obtain ⟨_,_,rfl,_⟩:=h;rfl
 |.err,_,_,v,h=>by simp only [RTy]at h;rcases h with ⟨_,rfl⟩|⟨_,t9,rfl⟩<;>rfl
 |.mset _,_,_,v,h=>by simp only [RTy]at h;obtain ⟨_,rfl⟩:=h;rfl
 |.sl _,_,_,v,h=>by simp only [RTy]at h;obtain ⟨_,_,_,rfl,_⟩:=h;rfl
 |.unit,_,_,v,h=>by simp only [RTy]at h;subst h;rfl
 |.pair a b,o,x,v,h=>by
  simp only [RTy]at h;obtain ⟨v1,l,rfl,h1,h2⟩:=h;have h3:=qhH a o x.1 v1 h1;have h4:=qhH b o x.2 (.agg l) h2;simp only [V.onlyMaps]at h4 ⊢;simp only [Ab.onlyMapsL,h3,h4]<;>rfl
mutual
theorem rv_adopt(q:Root):∀(x:TV) (v:V),x.onlyMaps=true->RV x v->RV (x.adopt q) (v.adopt q)/\v.onlyMaps=true
 |.any _,v,ho,_|.ptr ..,v,ho,_|.bsl ..,v,ho,_|.iface ..,v,ho,_|.yld _,v,ho,_|.lp ..,v,ho,_=>by simp [TV.onlyMaps]at ho
 |.mref r,v,_,h=>by simp only [RV]at h;subst h;simp [TV.adopt,V.adopt,RV,V.onlyMaps]
 |.t τ o x,v,_,h=>by
  simp only [TV.adopt];have h':=h;simp only [RV]at h;rw [adopt_id q v (qfd τ o x v h)];exact ⟨h',qhH τ o x v h⟩
 |.clp τ x,v,_,h=>by
  simp only [TV.adopt];have h':=h;simp only [RV]at h;obtain ⟨f,l',rfl,_⟩:=h;exact ⟨by simpa only [V.adopt]using h',rfl⟩
 |.room a s,v,_,h=>by
  simp only [TV.adopt];have h':=h;simp only [RV]at h;obtain ⟨_,n,rfl,_⟩|⟨_,rfl|⟨f,hf0,rfl⟩⟩:=h
  ·exact ⟨by simpa only [V.adopt]using h',rfl⟩
  ·exact ⟨by simpa only [V.adopt]using h',rfl⟩
  ·exact ⟨by simpa only [V.adopt]using h',rfl⟩
 |.empty o,v,_,h=>by
  simp only [TV.adopt];have h':=h;simp only [RV]at h;obtain ⟨f,c,rfl,_⟩:=h;exact ⟨by simpa only [V.adopt]using h',rfl⟩
 |.val u,v,_,h=>by
  simp only [TV.adopt];have h':=h;simp only [RV]at h;subst h;exact ⟨by simpa only [V.adopt]using h',rfl⟩
 |.agg l,v,ho,h=>by
  simp only [TV.onlyMaps]at ho;simp only [RV]at h;obtain ⟨l',rfl,h⟩:=h;obtain ⟨h1,h2⟩:=rvl_adopt q l l' ho h;exact ⟨by simp only [TV.adopt,V.adopt,RV];exact ⟨_,rfl,h1⟩,by simpa only [V.onlyMaps]using h2⟩
 |.cptr s l,v,ho,h=>by
  simp only [TV.onlyMaps]at ho;simp only [RV]at h;obtain ⟨f,l',rfl,hno,hsh,h⟩:=h;obtain ⟨h1,h2⟩:=rvl_adopt q l l' ho h;exact ⟨by simp only [TV.adopt,V.adopt,RV];exact ⟨_,_,rfl,hno,hsh,h1⟩,by simpa only [V.onlyMaps]using h2⟩
 |.tuple l,v,ho,h=>by
  simp only [TV.onlyMaps]at ho;simp only [RV]at h;obtain ⟨l',rfl,h⟩:=h;obtain ⟨h1,h2⟩:=rvl_adopt q l l' ho h;exact ⟨by simp only [TV.adopt,V.adopt,RV];exact ⟨_,rfl,h1⟩,by simpa only [V.onlyMaps]using h2⟩
 |.fn g a b,v,ho,h=>by
  simp only [TV.onlyMaps,qe]at ho;simp only [RV]at h;obtain ⟨a',b',rfl,ha,hb⟩:=h;obtain ⟨h1,h2⟩:=rvl_adopt q a a' ho.1 ha;obtain ⟨h3,h4⟩:=rvl_adopt q b b' ho.2 hb;exact ⟨by simp only [TV.adopt,V.adopt,RV];exact ⟨_,_,rfl,h1,h3⟩,by simp only [V.onlyMaps,h2,h4];rfl⟩
theorem rvl_adopt(q:Root):∀(l:List TV) (l':List V),onlyMapsTL l=true->RVL l l'->RVL (adoptTL q l) (Ab.adoptL q l')/\Ab.onlyMapsL l'=true
 |[],l',_,h=>by simp only [RVL]at h;subst h;exact ⟨by simp [adoptTL,Ab.adoptL,RVL],rfl⟩
 |x::l,l',ho,h=>by
  simp only [onlyMapsTL,qe]at ho;simp only [RVL]at h;obtain ⟨v,m,rfl,h1,h2⟩:=h;obtain ⟨h3,h4⟩:=rv_adopt q x v ho.1 h1;obtain ⟨h5,h6⟩:=rvl_adopt q l m ho.2 h2;exact ⟨by simp only [adoptTL,Ab.adoptL];exact qC.2 ⟨h3,h5⟩,by simp only [Ab.onlyMapsL,h4,h6];rfl⟩
end
mutual
theorem RV.onlyMaps_eq:∀(x:TV) (v:V),x.known=true->RV x v->v.onlyMaps=x.onlyMaps
 |.any _,v,hk,_=>by simp [TV.known]at hk
 |.t τ o x,v,_,h=>by simp only [RV]at h;rw [qhH τ o x v h]<;>rfl
 |.clp τ x,v,_,h=>by simp only [RV]at h;obtain ⟨f,l',rfl,_⟩:=h;rfl
 |.room a s,v,_,h=>by simp only [RV]at h;obtain ⟨_,n,rfl,_⟩|⟨_,rfl|⟨f,hf0,rfl⟩⟩:=h<;>rfl
 |.empty o,v,_,h=>by simp only [RV]at h;obtain ⟨f,c,rfl,_⟩:=h;rfl
 |.val u,v,_,h=>by simp only [RV]at h;subst h;rfl
 |.agg l,v,hk,h=>by simp only [RV]at h;obtain ⟨l',rfl,h⟩:=h;simp only [TV.known]at hk;simp only [V.onlyMaps,TV.onlyMaps];exact RVL.onlyMaps_eq l l' hk h
 |.tuple l,v,hk,h=>by simp only [RV]at h;obtain ⟨l',rfl,h⟩:=h;simp only [TV.known]at hk;simp only [V.onlyMaps,TV.onlyMaps];exact RVL.onlyMaps_eq l l' hk h
 |.fn g a b,v,hk,h=>by
  simp only [RV]at h;obtain ⟨a',b',rfl,h1,h2⟩:=h;simp only [TV.known,qe]at hk;simp only [V.onlyMaps,TV.onlyMaps,RVL.onlyMaps_eq a a' hk.1 h1,RVL.onlyMaps_eq b b' hk.2 h2]
 |.ptr r o,v,_,h=>by simp only [RV]at h;subst h;rfl
 |.bsl r o n,v,_,h=>by simp only [RV]at h;subst h;rfl
 |.yld r,v,_,h=>by simp only [RV]at h;subst h;rfl
 |.lp ..,v,_,h=>by simp only [RV]at h
 |.mref r,v,_,h=>by simp only [RV]at h;subst h;rfl
 |.cptr s l,v,hk,h=>by simp only [RV]at h;obtain ⟨f,l',rfl,_,_,h⟩:=h;simp only [TV.known]at hk;simp only [V.onlyMaps,TV.onlyMaps];exact RVL.onlyMaps_eq l l' hk h
 |.iface t x,v,hk,h=>by simp [TV.known]at hk
theorem RVL.onlyMaps_eq:∀(l:List TV) (l':List V),knownL l=true->RVL l l'->Ab.onlyMapsL l'=onlyMapsTL l
 |[],l',_,h=>by simp only [RVL]at h;subst h;rfl
 |x::l,l',hk,h=>by
  simp only [RVL]at h;obtain ⟨v,m,rfl,h1,h2⟩:=h;simp only [knownL,qe]at hk;simp only [Ab.onlyMapsL,onlyMapsTL,RV.onlyMaps_eq x v hk.1 h1,RVL.onlyMaps_eq l m hk.2 h2]
end
theorem qtc{g:FuncId}{first cap args:List TV}{first' cap' args':List V}(hk:knownL (first++args++cap)=true)(h:RVL (first++args++cap) (first'++args'++cap')) :
  qj0 (.fn g first' cap') args'=qnb (.fn g first cap) args:=by
 unfold qj0 qnb;simp only [hk,if_true,RVL.ptrs_eq _ _ hk h,RVL.onlyMaps_eq _ _ hk h];cases ptrsTL (first++args++cap)<;>rfl
end
theorem qmi(e:Env):e.toL.length=e.n:=by simp [Env.toL]
theorem toL_get?(e:Env)(i:Nat):e.toL[i]?=if i<e.n then some (e.t.get (.any []) i)else none:=by
 unfold Env.toL;rw [List.getElem?_map];by_cases h:i<e.n
 ·rw [if_pos h];simp [h]
 ·rw [if_neg h,List.getElem?_eq_none (by simp;omega)];rfl
theorem qpZ(e:Env)(i:Nat):e.get i=e.toL.getD i (.any []):=by
 rw [List.getD_eq_getElem?_getD,toL_get?];show Bool.rec (motive:=λ_=>TV) (.any []) (e.t.get (.any []) i) (Nat.ble (i+1) e.n)=_;rw [qBX];by_cases h:i<e.n
 ·rw [if_pos h,if_pos (by rw [Nat.ble_eq];omega)];rfl
 ·rw [if_neg h,if_neg (by rw [Nat.ble_eq];omega)];rfl
theorem get_some{e:Env}{i:Nat}{x:TV}(h:e.toL[i]?=some x):e.get i=x:=by
 rw [qpZ,List.getD_eq_getElem?_getD,h];rfl
theorem some_get{e:Env}{i:Nat}{x:TV}(h:e.get i=x)(hx:∀rs,x≠.any rs):e.toL[i]?=some x:=by
 rw [qpZ,List.getD_eq_getElem?_getD]at h;cases hh:e.toL[i]? with
 |none=>rw [hh]at h;exact absurd h.symm (hx [])
 |some y=>rw [hh]at h;simpa using h
theorem qfI(e:Env)(i:Nat)(v:TV):(e.set i v).toL=e.toL.set i v:=by
 apply List.ext_getElem?;intro j;rw [List.getElem?_set,toL_get?,toL_get?,qmi];show (if j<e.n then some ((e.t.set (.any []) i v).get (.any []) j)else none)=_;rw [Tr.qua];by_cases h:j<e.n
 ·rw [if_pos h,if_pos h];by_cases e1:i=j
  ·rw [if_pos e1,if_pos e1,if_pos (by omega)]
  ·rw [if_neg e1,if_neg e1]
 ·rw [if_neg h,if_neg h];by_cases e1:i=j
  ·rw [if_pos e1,if_neg (by omega)]
  ·rw [if_neg e1]
theorem qvh(f:Nat->TV->TV)(e:Env)(i:Nat):(e.qyb f).toL[i]?=(e.toL[i]?).map (f i):=by
 rw [toL_get?,toL_get?];show (if i<e.n then some ((e.t.qyb (.any []) e.n f 1 0).get (.any []) i)else none)=_;by_cases h:i<e.n
 ·rw [if_pos h,if_pos h,Tr.qt9 _ _ _ _ _ _ _ (Nat.le_refl _) (by omega)];simp
 ·rw [if_neg h,if_neg h];rfl
theorem qE9(f:Nat->TV->TV)(e:Env):(e.qyb f).toL.length=e.toL.length:=by rw [qmi,qmi];rfl
theorem qBJ{p:Nat->TV->Bool}{e:Env}(h:e.all p=true)(hp:∀i,p i (.any [])=true){i:Nat}{x:TV}(hx:e.toL[i]?=some x):p i x=true:=by
 rw [toL_get?]at hx;split at hx
 ·cases hx;have:=Tr.qtV (.any []) hp e.t 1 0 i h;simpa using this
 ·cases hx
theorem qFa{p:TV->Bool}{e:Env}(hp:p (.any [])=false){i:Nat}{x:TV}(hx:e.toL[i]?=some x)(h:p x=true):i∈e.mask p:=by
 rw [toL_get?]at hx;split at hx
 ·cases hx;have:=Tr.qrj (.any []) hp e.t 1 0 i h;rw [Mask.mem_iff];simpa [Mask.has,Env.mask]using this
 ·cases hx
theorem qsR:∀(l:List TV) (i:Nat) (t:Tr TV) (j:Nat),(qvR l i t).get (.any []) j=if i<=j/\j<i+l.length then l.getD (j-i) (.any [])else t.get (.any []) j
 |[],i,t,j=>by
  rw [if_neg (by simp)];rfl
 |v::l,i,t,j=>by
  show (qvR l (i+1) (t.set (.any []) i v)).get (.any []) j=_;rw [qsR l,Tr.qua];by_cases h1:i+1<=j/\j<i+1+l.length
  ·rw [if_pos h1,if_pos (by simp;omega)];have:j-i=(j-(i+1))+1:=by omega
   rw [this];simp
  ·rw [if_neg h1];by_cases h2:i=j
   ·rw [if_pos h2,if_pos (by simp;omega)];simp [h2]
   ·rw [if_neg h2,if_neg (by simp;omega)]
theorem qoT(args:List TV)(n:Nat):(Env.qji args n).toL=args++List.replicate (n-args.length) (.any []):=by
 apply List.ext_getElem?;intro j;rw [toL_get?];show (if j<args.length+(n-args.length)then some ((qvR args 0 .nil).get (.any []) j)else none)=_;rw [qsR,List.getElem?_append];by_cases h1:j<args.length
 ·rw [if_pos (by omega),if_pos (by omega),if_pos h1];simp [h1]
 ·rw [if_neg h1];by_cases h2:j<args.length+(n-args.length)
  ·rw [if_pos h2,if_neg (by omega),Tr.get_nil,List.getElem?_replicate,if_pos (by omega)]
  ·rw [if_neg h2,List.getElem?_replicate,if_neg (by omega)]
theorem qlC(D:Mask)(rs:Nat->List Root)(e:Env)(i:Nat):(qfD D rs e).toL[i]?=if i∈D then (e.toL[i]?).map (λ_=>.any (rs i))else e.toL[i]?:=by
 unfold qfD;rw [qvh];by_cases h:i∈D
 ·rw [if_pos h];rw [Mask.mem_iff]at h;rw [h]
 ·rw [if_neg h];rw [Mask.mem_iff]at h;have:D.has i=false:=by simpa using h
  rw [this];show (e.toL[i]?).map (λv=>v)=_;simp
theorem qqE(D:Mask)(rs:Nat->List Root)(e:Env):(qfD D rs e).toL.length=e.toL.length:=qE9 _ _
theorem qtK(E:Env)(t:Nat):(E.set t (E.get t).qap).toL=E.toL.modify t TV.qap:=by
 apply List.ext_getElem?;intro j;rw [qfI,List.getElem?_set,List.getElem?_modify];by_cases h:t=j
 ·rw [if_pos h];subst h;cases hh:E.toL[t]? with
  |none=>rw [if_neg (by have:=List.getElem?_eq_none_iff.1 hh;omega)];rfl
  |some x=>rw [if_pos (qn.1 hh).1,get_some hh];simp
 ·rw [if_neg h];cases E.toL[j]?<;>simp [h]
theorem qnV{x:Nat}:∀{l:List Nat},x∈qhu l↔x∈l
 |[]=>by simp [qhu]
 |a::l=>by
  simp only [qhu];split
  ·rename_i h;rw [qnV];simp at h;constructor
   ·intro hx;simp [hx]
   ·intro hx;rcases qm.1 hx with rfl|hx
    ·exact h
    ·exact hx
  ·simp [qnV (l:=l)]
def qGR(acc:List Mask)(acc':List (List Nat)):Prop:=acc.length=acc'.length/\∀i j,j∈acc.getD i .empty↔j∈acc'.getD i []
theorem qsU(acc:List Mask)(acc':List (List Nat))(h:qGR acc acc'):∀(l:List Nat) (m:Mask) (x:Nat),x∈l.foldl (λm j=>Mask.ins j (m++acc.getD j .empty)) m↔x∈m\/x∈l.flatMap λj=>j::acc'.getD j []
 |[],m,x=>by simp
 |j::l,m,x=>by
  simp only [List.foldl_cons];rw [qsU acc acc' h l];simp only [Mask.mem_ins,Mask.mem_append,List.flatMap_cons,qk,qm];rw [h.2 j x];constructor
  ·rintro ((h1|(h1|h1))|h1)
   ·exact .inr (.inl (.inl h1))
   ·exact .inl h1
   ·exact .inr (.inl (.inr h1))
   ·exact .inr (.inr h1)
  ·rintro (h1|((h1|h1)|h1))
   ·exact .inl (.inr (.inl h1))
   ·exact .inl (.inl h1)
   ·exact .inl (.inr (.inr h1))
   ·exact .inr h1
theorem qtA:∀(ops:List Oper) (acc:List Mask) (acc':List (List Nat)),qGR acc acc' ->
  qGR (ops.foldl (λacc o=>acc++[(qcq o).foldl (λm j=>Mask.ins j (m++acc.getD j .empty)) .empty]) acc) (ops.foldl (λacc o=>acc++[qhu ((qcq o).flatMap λj=>j::acc.getD j [])]) acc')
 |[],acc,acc',h=>h
 |o::ops,acc,acc',h=>by
  simp only [List.foldl_cons];refine qtA ops _ _ ⟨by simp [h.1],λi j=>?_⟩;simp only [List.getD_eq_getElem?_getD,List.getElem?_append];by_cases hi:i<acc.length
  ·rw [if_pos hi,if_pos (by rw [<- h.1];exact hi)];have:=h.2 i j;simpa only [List.getD_eq_getElem?_getD]using this
  ·rw [if_neg hi,if_neg (by rw [<- h.1];exact hi),h.1];by_cases h0:i-acc'.length=0
   ·rw [h0];simp only [List.getElem?_cons_zero,Option.getD_some];have:=qsU acc acc' h (qcq o) .empty j;simp only [List.getD_eq_getElem?_getD]at this;rw [this,qnV];simp
   ·obtain ⟨k,hk⟩:∃k,i-acc'.length=k+1:=⟨i-acc'.length-1,by omega⟩
    rw [hk];simp
theorem qvy(ops:List Oper)(i j:Nat):((qBK ops).getD i .empty).has j=((qmo ops).getD i []).contains j:=by
 have h:=(qtA ops [] [] ⟨rfl,λi j=>by simp⟩).2 i j;have e:∀a b:Bool,(a=true↔b=true)->a=b:=λa b=>by cases a<;>cases b<;>simp
 apply e;rw [List.contains_iff_mem];exact h
theorem qwS(H:Hints)(f:FuncId)(U:List (Nat×Nat))(ops:Array Oper):qnp H f U ops=qgI H f U ops:=by
 unfold qnp qgI;simp only [qvy];rfl
theorem qBT(draw:Bool)(ops:List Oper)(i c:Nat):qoY draw (qBK ops) i c=qnS draw (qmo ops) i c:=by
 unfold qoY qnS;rw [qvy]
theorem qAT(H:Hints)(f:FuncId)(draw:Bool)(ops:Array Oper):qx9 H f draw ops=qrg H f draw ops:=by
 have h:∀lone c oc,quu H f draw (qBK ops.toList) ops lone c oc=qri H f draw (qmo ops.toList) ops lone c oc:=λlone c oc=>by
  unfold quu qri;simp only [qBT];rfl
 unfold qx9 qrg;simp only [h];rfl
section
variable {P:Program} {H:Hints} {f:FuncId}
def qaK(M:List qR)(l s:Nat):Option (Option (List TV)):=match M[l]? with
 |some b=>qaf b s
 |none=>none
def qaV(M:List Level)(l s:Nat):Option (List V):=match M[l]? with
 |some b=>qz b s
 |none=>none
def RC:List TV->List V->Prop
 |[.lp s pe f env ps a b],c'=>∃env',c'=[.lp s pe f env' ps a b]/\RVL env env'
 |c,c'=>RVL c c'
theorem qtz{c:List TV}{c':List V}(h:RVL c c'):isRec c=false:=by
 cases c with
 |nil=>rfl
 |cons x l =>
  simp only [RVL]at h;obtain ⟨v,m,_,h1,_⟩:=h;cases x<;>first|rfl|(simp only [RV]at h1)
theorem RVL.rc{c:List TV}{c':List V}(h:RVL c c'):RC c c':=by
 have h0:=qtz h;unfold RC;split
 ·simp [isRec]at h0
 ·exact h
theorem RC.rvl{c:List TV}{c':List V}(h:RC c c')(hn:isRec c=false):RVL c c':=by
 unfold RC at h;split at h
 ·simp [isRec]at hn
 ·exact h
theorem RC.qv{c:List TV}{c':List V}(h:RC c c')(r:Root)(hr:r∈ptrsL c'):r∈ptrsTL c:=by
 unfold RC at h;split at h
 ·obtain ⟨env',rfl,h⟩:=h;simp only [ptrsL,V.qv,List.append_nil]at hr;simp only [ptrsTL,TV.qv,List.append_nil];exact RVL.qv _ _ h r hr
 ·exact RVL.qv _ _ h r hr
def RB:Option (Option (List TV))->Option (List V)->Prop
 |none,b=>b=none
 |some none,b=>∀c,b=some c->qaE c=false
 |some (some c),b=>∃c',b=some c'/\RC c c'
structure LR (M:List qR) (M':List Level):Prop where
 len:M'.length=M.length
 rel:∀l s,RB (qaK M l s) (qaV M' l s)
 nd:∀b∈M',(b.map (·.1)).Nodup
 mp:∀l s c,qaV M' l s=some c->s<16384->qjn c=false
def TSt.all(st:TSt):List qR:=st.L++[st.B]
def qeo(s:St):List Level:=s.L++[s.B]
structure Rst (st:TSt) (s:St):Prop where
 E:RVL st.E.toL s.E
 M:LR st.all (qeo s)
theorem Rst.len{st:TSt}{s:St}(h:Rst st s):s.L.length=st.L.length:=by
 have:=h.M.len;simp [TSt.all,qeo]at this;exact this
theorem qT{s:St}(r:Root):s.box r=qaV (qeo s) r.lvl r.slot:=by
 obtain ⟨l,sl⟩:=r;unfold St.box qaV qeo;by_cases h:l=s.L.length
 ·subst h;simp
 ·rw [if_neg h];by_cases hlt:l<s.L.length
  ·simp only [qh hlt]<;>rfl
  ·have h1:s.L[l]?=none:=by simp<;>omega
   have h2:(s.L++[s.B])[l]?=none:=by simp<;>omega
   simp only [h1,h2]
theorem qbA{st:TSt}(r:Root):st.cont r=match qaK st.all r.lvl r.slot with
  |some (some c)=>some c
  |_=>none:=by
 obtain ⟨l,sl⟩:=r;unfold TSt.cont qaK TSt.all;by_cases h:l=st.L.length
 ·subst h;simp<;>rfl
 ·rw [if_neg h];by_cases hlt:l<st.L.length
  ·simp only [qh hlt]<;>rfl
  ·have h1:st.L[l]?=none:=by simp<;>omega
   have h2:(st.L++[st.B])[l]?=none:=by simp<;>omega
   simp only [h1,h2]
theorem qf1{st:TSt}{r:Root}{c:List TV}(h:st.cont r=some c):qaK st.all r.lvl r.slot=some (some c):=by
 rw [qbA]at h;split at h
 ·rename_i c' hc;cases h;exact hc
 ·cases h
theorem qt2{st:TSt}{r:Root}{c:List TV}(h:st.box r=some c):st.cont r=some c/\isRec c=false:=by
 unfold TSt.box at h;split at h
 ·rename_i c' hc;split at h
  ·cases h
  ·rename_i hr;cases h;exact ⟨hc,by simpa using hr⟩
 ·cases h
theorem qt4{st:TSt}{r:Root}{c:List TV}(h:st.box r=some c):qaK st.all r.lvl r.slot=some (some c):=qf1 (qt2 h).1
theorem qy7{st:TSt}{r:Root}{c:List TV}(h:st.cont r=some c)(hn:isRec c=false):st.box r=some c:=by
 unfold TSt.box;rw [h];simp [hn]
theorem Rst.box{st:TSt}{s:St}(h:Rst st s){r:Root}{c:List TV}(hc:st.box r=some c):∃c',s.box r=some c'/\RVL c c':=by
 have:=h.M.rel r.lvl r.slot;rw [qt4 hc]at this;rw [qT];obtain ⟨c',h1,h2⟩:=this;exact ⟨c',h1,h2.rvl (qt2 hc).2⟩
theorem Rst.bx{st:TSt}{s:St}(h:Rst st s)(r:Root):BxR (st.box r) (s.box r):=by
 cases hc:st.box r with
 |none=>trivial
 |some c=>exact h.box hc
theorem qkF(b:qR)(s s':Nat)(c:Option (List TV)):qaf (qzX b s c) s'=if s'=s then (qaf b s).map (λ_=>c)else qaf b s':=by
 induction b with
 |nil=>simp [qzX,qaf]
 |cons p b ih =>
  obtain ⟨k,d⟩:=p;by_cases h:k=s
  ·subst h;by_cases h2:k=s'
   ·subst h2;simp [qzX,qaf]
   ·simp [qzX,qaf,h2,Ne.symm h2]
  ·by_cases h2:k=s'
   ·subst h2;simp [qzX,qaf,h]
   ·simp [qzX,qaf,h,h2,ih]
theorem qii(b:Level)(s s':Nat)(c:List V):qz (qgu b s c) s'=if s'=s then (qz b s).map (λ_=>c)else qz b s':=by
 induction b with
 |nil=>simp [qgu,qz]
 |cons p b ih =>
  obtain ⟨k,d⟩:=p;by_cases h:k=s
  ·subst h;by_cases h2:k=s'
   ·subst h2;simp [qgu,qz]
   ·simp [qgu,qz,h2,Ne.symm h2]
  ·by_cases h2:k=s'
   ·subst h2;simp [qgu,qz,h]
   ·simp [qgu,qz,h,h2,ih]
theorem qCF(b:Level)(s:Nat)(c:List V):(qgu b s c).map (·.1)=b.map (·.1):=by
 induction b with
 |nil=>rfl
 |cons p b ih =>
  obtain ⟨k,d⟩:=p;by_cases h:k=s<;>simp [qgu,h,ih]
theorem qjZ(M:List qR)(l:Nat)(g:qR->qR)(l' s:Nat):qaK (M.modify l g) l' s=if l'=l then (match M[l]? with|some b=>qaf (g b) s|none=>none)else qaK M l' s:=by
 unfold qaK;rw [List.getElem?_modify];by_cases h:l'=l
 ·subst h;rw [if_pos rfl];cases M[l']? with
  |none=>rfl
  |some b=>simp
 ·rw [if_neg h];cases M[l']? with
  |none=>rfl
  |some b=>simp [Ne.symm h]
theorem qo9(M:List Level)(l:Nat)(g:Level->Level)(l' s:Nat):qaV (M.modify l g) l' s=if l'=l then (match M[l]? with|some b=>qz (g b) s|none=>none)else qaV M l' s:=by
 unfold qaV;rw [List.getElem?_modify];by_cases h:l'=l
 ·subst h;rw [if_pos rfl];cases M[l']? with
  |none=>rfl
  |some b=>simp
 ·rw [if_neg h];cases M[l']? with
  |none=>rfl
  |some b=>simp [Ne.symm h]
theorem qiZ{α:Type}(g:α->α)(b:α):∀L:List α,(L++[b]).modify L.length g=L++[g b]
 |[]=>rfl
 |x::L=>by simp [qiZ g b L]
theorem qi0{α:Type}(g:α->α)(b:α):∀(L:List α) {l:Nat},l≠L.length->(L++[b]).modify l g=L.modify l g++[b]
 |[],l,h=>by
  cases l with
  |zero=>simp at h
  |succ n=>simp
 |x::L,l,h=>by
  cases l with
  |zero=>simp
  |succ n =>
   have:=qi0 g b L (l:=n) (by simpa using h);simp [this]
theorem qtB(s:St)(r:Root)(c:List V):qeo (s.qu r c)=(qeo s).modify r.lvl (λb=>qgu b r.slot c):=by
 unfold St.qu qeo;by_cases h:r.lvl=s.L.length
 ·rw [if_pos h,h,qiZ]
 ·rw [if_neg h,qi0 _ _ _ h]
theorem qmk(st:TSt)(r:Root)(c:List TV):(st.qu r c).all=st.all.modify r.lvl (λb=>qzX b r.slot (some c)):=by
 unfold TSt.qu TSt.all;by_cases h:r.lvl=st.L.length
 ·rw [if_pos h,h,qiZ]
 ·rw [if_neg h,qi0 _ _ _ h]
theorem qsV(st:TSt)(rs:List Root)(r:Root):(st.forget rs r).all=st.all.modify r.lvl (λb=>qIk rs b r.slot):=by
 unfold TSt.forget TSt.all;by_cases h:r.lvl=st.L.length
 ·rw [if_pos h,h,qiZ]
 ·rw [if_neg h,qi0 _ _ _ h]
theorem mem_modify{α:Type}{g:α->α}{b:α}:∀{M:List α} {l:Nat},b∈M.modify l g->b∈M\/∃b'∈M,b=g b'
 |[],l,h=>by cases l<;>simp at h
 |x::M,0,h=>by
  simp only [List.modify_zero_cons,qm]at h;rcases h with rfl|h
  ·exact .inr ⟨x,by simp,rfl⟩
  ·exact .inl (by simp [h])
 |x::M,l+1,h=>by
  simp only [List.modify_succ_cons,qm]at h;rcases h with rfl|h
  ·exact .inl (by simp)
  ·rcases mem_modify h with h|⟨b',h1,h2⟩
   ·exact .inl (by simp [h])
   ·exact .inr ⟨b',by simp [h1],h2⟩
theorem LR.qu{M:List qR}{M':List Level}(h:LR M M')(l s:Nat){c:List TV}{c':List V}(hd:qaK M l s≠some none)(hc:RC c c')(hmp:s<16384->qjn c'=false) :
  LR (M.modify l λb=>qzX b s (some c)) (M'.modify l λb=>qgu b s c') where
 len:=by simp [h.len]
 rel:=λl2 s2=>by
  rw [qjZ,qo9];by_cases e:l2=l
  ·subst e;rw [if_pos rfl,if_pos rfl];have key:=h.rel l2 s2;have key2:=h.rel l2 s;unfold qaK qaV at key key2;cases h1:M[l2]? with
   |none =>
    have h2:M'[l2]?=none:=by rw [List.getElem?_eq_none_iff]at h1 ⊢;rw [h.len];exact h1
    rw [h2];rfl
   |some b =>
    have h2:∃b',M'[l2]?=some b':=by
     have:=(qn.1 h1).1;exact ⟨_,List.getElem?_eq_getElem (by rw [h.len];exact this)⟩
    obtain ⟨b',h2⟩:=h2;rw [h1,h2]at key key2;rw [h2];simp only at key key2 ⊢;rw [qkF,qii];by_cases e2:s2=s
    ·subst e2;rw [if_pos rfl,if_pos rfl];cases hl:qaf b s2 with
     |none=>rw [hl]at key;simp only [RB]at key;rw [key]<;>rfl
     |some o =>
      rw [hl]at key;cases o with
      |none =>
       exact absurd (by unfold qaK;rw [h1];exact hl) hd
      |some d =>
       obtain ⟨d',hd',_⟩:=key;rw [hd'];exact ⟨c',rfl,hc⟩
    ·rw [if_neg e2,if_neg e2];exact key
  ·rw [if_neg e,if_neg e];exact h.rel l2 s2
 nd:=λb hb=>by
  rcases mem_modify hb with hb|⟨b',hb',rfl⟩
  ·exact h.nd b hb
  ·rw [qCF];exact h.nd b' hb'
 mp:=λl2 s2 c2 h2 hlt=>by
  rw [qo9]at h2;by_cases e:l2=l
  ·subst e;rw [if_pos rfl]at h2;have h0:=h.mp l2 s2;unfold qaV at h0;cases h1:M'[l2]? with
   |none=>rw [h1]at h2;cases h2
   |some b =>
    rw [h1]at h2 h0;simp only at h2 h0;rw [qii]at h2;by_cases e2:s2=s
    ·subst e2;rw [if_pos rfl]at h2;obtain ⟨_,_,rfl⟩:=qc.1 h2;exact hmp hlt
    ·rw [if_neg e2]at h2;exact h0 c2 h2 hlt
  ·rw [if_neg e]at h2;exact h.mp l2 s2 c2 h2 hlt
structure Fr2 (st st':TSt) (s s':St):Prop where
 wt:∀t∈st.Wt,t∈st'.Wt
 wb:∀r∈st.Wb,r∈st'.Wb
 e:∀t,t∉st'.Wt->s'.E[t]?=s.E[t]?\/((∃rs,st.E.toL[t]?=some (.any rs))/\s'.E[t]?=some .undef)
 an:∀t,t∉st'.Wt->∀rs,st'.E.toL[t]?=some (.any rs)->∃rs',st.E.toL[t]?=some (.any rs')
 b:∀r,r∉st'.Wb->s'.box r=s.box r\/(s.L.length=0/\st.cont r=none/\(s'.box r).isSome=(s.box r).isSome/\∀c,s'.box r=some c->qaE c=false)
 bn:∀r,r∉st'.Wb->(st.cont r).isSome=true->(st'.cont r).isSome=true
 len:s'.L.length=s.L.length
 elen:s'.E.length=s.E.length
theorem Fr2.refl(st:TSt)(s:St):Fr2 st st s s:=⟨λ_ h=>h,λ_ h=>h,λ_ _=>.inl rfl,λ_ _ rs h=>⟨rs,h⟩,λ_ _=>.inl rfl,λ_ _ h=>h,rfl,rfl⟩
theorem Fr2.trans{a b c:TSt}{s t u:St}(h:Fr2 a b s t)(h':Fr2 b c t u):Fr2 a c s u where
 wt:=λx hx=>h'.wt x (h.wt x hx)
 wb:=λx hx=>h'.wb x (h.wb x hx)
 e:=λx hx=>by
  have hx1:x∉b.Wt:=λhh=>hx (h'.wt x hh);rcases h'.e x hx with h1|⟨⟨rs,h1⟩,h2⟩
  ·rw [h1];exact h.e x hx1
  ·exact .inr ⟨h.an x hx1 rs h1,h2⟩
 an:=λx hx rs hr=>by
  obtain ⟨rs',h1⟩:=h'.an x hx rs hr;exact h.an x (λhh=>hx (h'.wt x hh)) rs' h1
 b:=λx hx=>by
  have hx1:x∉b.Wb:=λhh=>hx (h'.wb x hh);rcases h'.b x hx with h1|⟨h0,h1,h2,h3⟩
  ·rw [h1];exact h.b x hx1
  ·right
   have hn:a.cont x=none:=by
    cases hb:a.cont x with
    |none=>rfl
    |some c=>have:=h.bn x hx1 (by rw [hb];rfl);rw [h1]at this;cases this
   refine ⟨by rw [<- h.len];exact h0,hn,?_,h3⟩;rcases h.b x hx1 with h4|⟨_,_,h4,_⟩
   ·rw [h2,h4]
   ·rw [h2,h4]
 bn:=λx hx hs=>h'.bn x hx (h.bn x (λhh=>hx (h'.wb x hh)) hs)
 len:=by rw [h'.len,h.len]
 elen:=by rw [h'.elen,h.elen]
theorem qgP:∀{l:List TV} {l':List V},l'.length=l.length->(∀(i:Nat) x v,l[i]?=some x->l'[i]?=some v->RV x v)->RVL l l'
 |[],l',hl,_=>by simp at hl;simp [hl,RVL]
 |x::l,[],hl,_=>by simp at hl
 |x::l,v::m,hl,h=>qC.2 ⟨h 0 x v rfl rfl,qgP (by simpa using hl) λi y u h1 h2=>h (i+1) y u (by simpa using h1) (by simpa using h2)⟩
theorem qHQ{α:Type}(E:List α)(t i:Nat)(a:α):(E.set t a)[i]?=if t=i then (E[i]?).map (λ_=>a)else E[i]?:=by
 rw [List.getElem?_set];by_cases e:t=i
 ·subst e;rw [if_pos rfl,if_pos rfl];by_cases hlt:t<E.length
  ·simp [hlt]
  ·simp [hlt]
 ·rw [if_neg e,if_neg e]
theorem qmC{α:Type}(a:α):∀(D:List Tmp) (E:List α) (i:Nat),(D.foldl (λE t=>E.set t a) E)[i]?=if i∈D then (E[i]?).map (λ_=>a)else E[i]?
 |[],E,i=>by simp
 |t::D,E,i=>by
  simp only [List.foldl_cons];rw [qmC a D,qHQ];by_cases h:i∈D
  ·rw [if_pos h,if_pos (List.mem_cons_of_mem _ h)];split
   ·cases E[i]?<;>rfl
   ·rfl
  ·rw [if_neg h];by_cases e:t=i
   ·subst e;rw [if_pos rfl,if_pos List.mem_cons_self]
   ·rw [if_neg e,if_neg (by simp [h,Ne.symm e])]
theorem qgn{α:Type}(a:α):∀(D:List Tmp) (E:List α),(D.foldl (λE t=>E.set t a) E).length=E.length
 |[],E=>rfl
 |t::D,E=>by simp only [List.foldl_cons];rw [qgn a D];simp
def gone(rs:List Root):Option (Option (List TV))->Option (Option (List TV))
 |some (some cs)=>some (some (cs.map λ_=>.any rs))
 |_=>some none
theorem qCi(rs:List Root)(o:Option (Option (List TV))):gone rs (gone rs o)=gone rs o:=by
 cases o with
 |none=>rfl
 |some o=>cases o with
  |none=>rfl
  |some cs=>simp [gone]
theorem qAV(rs:List Root)(b:qR)(s s':Nat):qaf (qIk rs b s) s'=if s'=s then gone rs (qaf b s)else qaf b s':=by
 unfold qIk;split
 ·rename_i h;by_cases e:s'=s
  ·subst e;simp [qaf,h,gone]
  ·simp [qaf,e,Ne.symm e]
 ·rename_i h;by_cases e:s'=s
  ·subst e;simp [h,gone]
  ·simp [e]
 ·rename_i cs h;rw [qkF];by_cases e:s'=s
  ·subst e;simp [h,gone]
  ·simp [e]
theorem qwu(st:TSt)(rs:List Root)(r:Root)(l s:Nat):qaK (st.forget rs r).all l s=if l=r.lvl/\s=r.slot/\l<st.all.length then gone rs (qaK st.all l s)else qaK st.all l s:=by
 rw [qsV,qjZ];by_cases e:l=r.lvl
 ·subst e;rw [if_pos rfl];unfold qaK;cases h:st.all[r.lvl]? with
  |none =>
   have:¬ r.lvl<st.all.length:=by rw [List.getElem?_eq_none_iff]at h;omega
   rw [if_neg (λhh=>this hh.2.2)]
  |some b =>
   have hlt:=(qn.1 h).1;simp only
   rw [qAV];by_cases e2:s=r.slot
   ·subst e2;simp [hlt]
   ·simp [e2]
 ·rw [if_neg e,if_neg (by simp [e])]
theorem qsW(st:TSt)(rs:List Root)(r:Root):(st.forget rs r).all.length=st.all.length:=by rw [qsV];simp
theorem qEG(st:TSt)(rs:List Root)(r:Root):(st.forget rs r).E=st.E:=by unfold TSt.forget;split<;>rfl
theorem qiW(rs:List Root)(l s:Nat):∀(wr:List Root) (st:TSt),qaK (wr.foldl (λst r=>st.forget rs r) st).all l s=if (⟨l,s⟩:Root)∈wr/\l<st.all.length then gone rs (qaK st.all l s)else qaK st.all l s
 |[],st=>by simp
 |r::wr,st=>by
  simp only [List.foldl_cons];rw [qiW rs l s wr,qsW,qwu];by_cases h1:l=r.lvl/\s=r.slot/\l<st.all.length
  ·rw [if_pos h1];have hr:(⟨l,s⟩:Root)=r:=by obtain ⟨e1,e2,_⟩:=h1;cases r;simp_all
   rw [qCi,if_pos (⟨by simp [hr],h1.2.2⟩:(⟨l,s⟩:Root)∈r::wr/\l<st.all.length)];split<;>rfl
  ·rw [if_neg h1];by_cases h2:(⟨l,s⟩:Root)∈wr/\l<st.all.length
   ·rw [if_pos h2,if_pos ⟨by simp [h2.1],h2.2⟩]
   ·rw [if_neg h2,if_neg];rintro ⟨h3,h4⟩;rcases qm.1 h3 with h3|h3
    ·exact h1 ⟨by rw [<- h3],by rw [<- h3],h4⟩
    ·exact h2 ⟨h3,h4⟩
theorem qqF(rs:List Root):∀(wr:List Root) (st:TSt),(wr.foldl (λst r=>st.forget rs r) st).E=st.E
 |[],st=>rfl
 |r::wr,st=>by simp only [List.foldl_cons];rw [qqF rs wr,qEG]
theorem qqG(rs:List Root):∀(wr:List Root) (st:TSt),(wr.foldl (λst r=>st.forget rs r) st).all.length=st.all.length
 |[],st=>rfl
 |r::wr,st=>by simp only [List.foldl_cons];rw [qqG rs wr,qsW]
def qGg(s:St)(p:Place):Option V:=match p.lvl with
 |none=>s.E[p.slot]?
 |some l=>(s.box ⟨l,p.slot⟩).bind (·[p.cell]?)
theorem qkj{l:List TV}{l':List V}(h:RVL l l')(i:Nat){x:TV}(hx:∀u,l'[i]?=some u->RV x u):RVL (l.set i x) l':=by
 refine qgP (by simp [h.length]) λk y v hy hv=>?_;rw [List.getElem?_set]at hy;split at hy
 ·rename_i e;subst e;split at hy
  ·cases hy;exact hx v hv
  ·cases hy
 ·obtain ⟨u,hu,hr⟩:=h.get hy;rw [hv]at hu;cases hu;exact hr
theorem Rst.qcV{st:TSt}{s:St}(h:Rst st s){p:Place}{v:TV}(hv:∀u,qGg s p=some u->RV v u):Rst (st.qcV p v) s:=by
 unfold TSt.qcV;cases hl:p.lvl with
 |none=>exact ⟨by rw [qfI];exact qkj h.E _ λu hu=>hv u (by unfold qGg;rw [hl];exact hu),h.M⟩
 |some l =>
  simp only
  cases hb:st.box ⟨l,p.slot⟩with
  |none=>exact h
  |some cs =>
   simp only
   obtain ⟨c',hc',hr⟩:=h.box hb;have hset:RVL (cs.set p.cell v) c':=qkj hr _ λu hu=>hv u (by unfold qGg;rw [hl];simp only;rw [hc'];exact hu);refine ⟨?_,?_⟩
   ·have:({st.qu ⟨l,p.slot⟩ (cs.set p.cell v)with Wb:=st.Wb}:TSt).E=st.E:=by simp only [TSt.qu];split<;>rfl
    rw [this];exact h.E
   ·have e1:({st.qu ⟨l,p.slot⟩ (cs.set p.cell v)with Wb:=st.Wb}:TSt).all=(st.qu ⟨l,p.slot⟩ (cs.set p.cell v)).all:=rfl;rw [e1,qmk];refine ⟨by rw [h.M.len];simp,λl2 s2=>?_,h.M.nd,h.M.mp⟩;rw [qjZ];have hlook:=qt4 hb;simp only at hlook ⊢;by_cases e:l2=l
    ·subst e;rw [if_pos rfl];have key:=h.M.rel l2 s2;unfold qaK at key hlook;cases h1:st.all[l2]? with
     |none=>rw [h1]at hlook;cases hlook
     |some b =>
      rw [h1]at key hlook;simp only at key hlook ⊢;rw [qkF];by_cases e2:s2=p.slot
      ·subst e2;rw [if_pos rfl,hlook];rw [qT]at hc';exact ⟨c',hc',hset.rc⟩
      ·rw [if_neg e2];exact key
    ·rw [if_neg e];exact h.M.rel l2 s2
theorem qpi{s:St}:∀(ps:List Place) (vs:List TV) (st:TSt),Rst st s->(∀p v,(p,v)∈ps.zip vs->∀u,qGg s p=some u->RV v u)->Rst (qee st ps vs) s
 |[],vs,st,h,_=>by cases vs<;>exact h
 |p::ps,[],st,h,_=>h
 |p::ps,v::vs,st,h,hv=>qpi ps vs _ (h.qcV (hv p v (by simp))) λq w hq=>hv q w (by simp [hq])
theorem qy3:∀(τ:Ty) (o:Nat) (rs:List Root),qks τ o (.any rs)=none
 |.int _,_,_|.bool,_,_|.str,_,_|.flt,_,_|.cx,_,_|.err,_,_|.mset _,_,_|.sl _,_,_|.unit,_,_|.pair ..,_,_=>rfl
theorem Rst.get{st:TSt}{s:St}(h:Rst st s){p:Place}(hp:∀rs,st.get p≠.any rs){u:V}(hu:qGg s p=some u):RV (st.get p) u:=by
 unfold TSt.get at hp ⊢;unfold qGg at hu;cases hl:p.lvl with
 |none =>
  rw [hl]at hu hp;simp only at hu hp ⊢;have:=h.E.getD p.slot;rw [<- qpZ,List.getD_eq_getElem?_getD,hu]at this;exact this
 |some l =>
  rw [hl]at hu hp;simp only at hu hp ⊢;cases hb:st.box ⟨l,p.slot⟩with
  |none=>rw [hb]at hp;exact absurd rfl (hp [])
  |some cs =>
   obtain ⟨c',hc',hr⟩:=h.box hb;rw [hc']at hu;simp only [qa]at hu;have:=hr.getD p.cell;rw [List.getD_eq_getElem?_getD,List.getD_eq_getElem?_getD,hu]at this;simp only
   rw [List.getD_eq_getElem?_getD];exact this
theorem qsK{st:TSt}{s:St}(h:Rst st s):∀(ps:List (Ty×Nat)) (lv:List Place) (x:denL (ps.map (·.1))),asL ps (lv.map st.get)=some x ->
  ∀p v,(p,v)∈lv.zip (ofL ps x)->∀u,qGg s p=some u->RV v u/\u.qv=[]/\qaE [u]=false
 |[],lv,x,hx,p,v,hm,u,hu=>by simp [ofL]at hm
 |[(τ,o)],lv,x,hx,p,v,hm,u,hu=>by
  match lv,hx,hm with
  |[q],hx,hm =>
   simp only [qi,List.map_nil,asL]at hx;simp only [ofL,List.zip_cons_cons,List.zip_nil_right,List.mem_singleton,Prod.mk.injEq]at hm;obtain ⟨rfl,rfl⟩:=hm;have hg:=h.get (p:=p) (λrs e=>by rw [e,qy3]at hx;cases hx) hu;have hr:=qgi _ _ _ _ _ hx hg;have hrv:=rv_ofTy _ _ _ _ hr;exact ⟨hrv,qfd _ _ _ _ hr,qbm (qC.2 ⟨hrv,qaU⟩)⟩
  |[],hx,hm=>simp [asL]at hx
  |_::_::_,hx,hm=>simp [asL]at hx
 |(τ,o)::q'::ps,lv,x,hx,p,v,hm,u,hu=>by
  match lv,hx,hm with
  |[],hx,hm=>simp [asL]at hx
  |q::lv,hx,hm =>
   simp only [qi,asL]at hx;obtain ⟨y,hy,hx⟩:=qd.1 hx;obtain ⟨z,hz,hx⟩:=qd.1 hx;simp only [qb]at hx;subst hx;simp only [ofL,List.zip_cons_cons,qm,Prod.mk.injEq]at hm;rcases hm with ⟨rfl,rfl⟩|hm
   ·have hg:=h.get (p:=p) (λrs e=>by rw [e,qy3]at hy;cases hy) hu;have hr:=qgi _ _ _ _ _ hy hg;have hrv:=rv_ofTy _ _ _ _ hr;exact ⟨hrv,qfd _ _ _ _ hr,qbm (qC.2 ⟨hrv,qaU⟩)⟩
   ·exact qsK h (q'::ps) lv z (by simpa using hz) p v hm u hu
theorem qkr:∀(ps:List (Ty×Nat)) (l:List TV) (x:denL (ps.map (·.1))),asL ps l=some x->(ofL ps x).length=l.length
 |[],l,x,h=>by cases l with
  |nil=>rfl
  |cons=>simp [asL]at h
 |[(τ,o)],l,x,h=>by
  match l,h with
  |[v],h=>rfl
  |[],h=>simp [asL]at h
  |_::_::_,h=>simp [asL]at h
 |(τ,o)::q::ps,l,x,h=>by
  match l,h with
  |[],h=>simp [asL]at h
  |v::l,h =>
   simp only [asL]at h;obtain ⟨y,hy,h⟩:=qd.1 h;obtain ⟨z,hz,h⟩:=qd.1 h;simp only [qb]at h;subst h;simp [ofL,qkr (q::ps) l z hz]
theorem qzo{lv:List Place}{l:Option Nat}{s c:Nat}(h:Place.qIB lv l s c=true):(⟨l,s,c⟩:Place)∈lv:=by
 unfold Place.qIB at h;rw [List.any_eq_true]at h;obtain ⟨p,hp,h⟩:=h;simp only [qe,decide_eq_true_eq]at h;obtain ⟨⟨rfl,rfl⟩,rfl⟩:=h;exact hp
theorem qwb{lv:List Place}{vs:List TV}(hl:vs.length=lv.length){p:Place}(h:p∈lv):∃v,(p,v)∈lv.zip vs:=by
 obtain ⟨i,hi⟩:=List.mem_iff_getElem?.1 h;have hlt:=(qn.1 hi).1;refine ⟨vs[i]'(by omega),List.mem_iff_getElem?.2 ⟨i,?_⟩⟩;rw [List.getElem?_zip_eq_some];exact ⟨hi,List.getElem?_eq_getElem _⟩
theorem qtI{l m:List Root}(h:Go.Tx.subset l m=true):∀r∈l,r∈m:=λr hr=>by
 unfold Go.Tx.subset at h;rw [List.all_eq_true]at h;simpa using h r hr
theorem qCC:∀{v:TV} {r:Root} {o:Nat},qCB v r o=true->v=.ptr r o
 |.ptr r o,r',o',h=>by
  simp only [qCB,qe,decide_eq_true_eq]at h;rw [h.1,h.2]
theorem qzM{s:St}:∀(l:List (Tmp×Root×Nat)) {st:TSt},Rst st s->(∀p∈l,s.E[p.1]?=some (.ptr p.2.1 p.2.2))->Rst (qwP st l) s
 |[],_,h,_=>h
 |p::l,st,h,hl=>by
  refine qzM l ⟨?_,h.M⟩ λq hq=>hl q (List.mem_cons_of_mem _ hq);show RVL (st.E.set p.1 (.ptr p.2.1 p.2.2)).toL s.E;rw [qfI];have h1:=hl p List.mem_cons_self;have h2:=RVL.set p.1 h.E (x:=.ptr p.2.1 p.2.2) (v:=.ptr p.2.1 p.2.2) (by simp only [RV]);have h3:s.E.set p.1 (.ptr p.2.1 p.2.2)=s.E:=by
   apply List.ext_getElem?;intro i;rw [List.getElem?_set];by_cases e:p.1=i
   ·rw [if_pos e,<- e,if_pos (qn.1 h1).1,h1]
   ·rw [if_neg e]
  rwa [h3]at h2
theorem qtp:∀(l:List (Tmp×Root×Nat)) (st:TSt),(qwP st l).Wt=st.Wt/\(qwP st l).Wb=st.Wb/\(qwP st l).L=st.L/\(qwP st l).B=st.B
 |[],_=>⟨rfl,rfl,rfl,rfl⟩
 |p::l,st=>qtp l {st with E:=st.E.set p.1 (.ptr p.2.1 p.2.2)}
theorem qDl:∀(l:List (Tmp×Root×Nat)) (st:TSt) (t:Nat) (rs:List Root),(qwP st l).E.toL[t]?=some (.any rs)->st.E.toL[t]?=some (.any rs)
 |[],_,_,_,h=>h
 |p::l,st,t,rs,h=>by
  have:=qDl l _ t rs h;simp only at this;rw [qfI,List.getElem?_set]at this;split at this
  ·split at this
   ·cases this
   ·cases this
  ·exact this
theorem qEY{st:TSt}{s:St}(h:Rst st s){j:Join}(hk:st.keeps j=true):∀p∈j.kp,s.E[p.1]?=some (.ptr p.2.1 p.2.2):=by
 intro p hp;unfold TSt.keeps at hk;rw [List.all_eq_true]at hk;have h1:=qCC (hk p hp);obtain ⟨v,hv,hr⟩:=h.E.get (some_get h1 (by simp));simp only [RV]at hr;rw [hv,hr]
theorem qyq{st st2:TSt}{s s':St}{j:Join}{x:denL (j.ps.map (·.1))}(h:Rst st s)(h2:Rst st2 s')(hf:Fr2 st.fresh st2 s s')(ho:st2.outs st j=some x):Rst (st.qfT j (ofL j.ps x)) s':=by
 unfold TSt.outs at ho;split at ho
 ·rename_i hc;simp only [qe]at hc;obtain ⟨⟨hfor,hwr⟩,hlike⟩:=hc;have hcol:=qsK h2 j.ps j.lv x ho;have hlen:(ofL j.ps x).length=j.lv.length:=by rw [qkr _ _ _ ho];simp
  unfold TSt.qn2 at hfor;simp only [qe,List.all_eq_true]at hfor;obtain ⟨⟨hD0,hW⟩,_⟩:=hfor;have hD:∀t∈j.D,∀x,st2.E.toL[t]?=some x->(Place.qIB j.lv none t 0||Go.Tx.subset x.qv (j.qDF t))=true:=λt ht x hx=>by
   have:=qBJ hD0 (λi=>by cases j.D.has i<;>simp [TV.qv,Go.Tx.subset]) hx;rw [Mask.mem_iff]at ht;rw [ht]at this;exact this
  unfold TSt.wrote at hwr;simp only [qe,List.all_eq_true]at hwr;obtain ⟨hwt0,hwb⟩:=hwr;have hwt:∀t∈st2.Wt,t∈j.D:=λt ht=>Mask.qDT hwt0 ht;unfold TSt.qJk at hlike;rw [List.all_eq_true]at hlike;unfold TSt.qfT;refine qpi _ _ _ ⟨?_,?_⟩ λp v hm u hu=>(hcol p v hm u hu).1
  ·-- temporaries
   show RVL (j.wr.foldl (λ(st:TSt) r=>st.forget j.rb r) {st with E:=qfD j.D j.qDF st.E}).E.toL s'.E;rw [qqF];refine qgP ?_ λi y v hy hv=>?_
   ·simp only;rw [qqE,hf.elen,h.E.length]
   ·simp only at hy;rw [qlC]at hy;split at hy
    ·rename_i hi;obtain ⟨z,hz,rfl⟩:=qc.1 hy;obtain ⟨x2,hx2⟩:∃x2,st2.E.toL[i]?=some x2:=by
      have hlt:=(qn.1 hv).1;have:=h2.E.length;exact ⟨_,List.getElem?_eq_getElem (by omega)⟩
     have hi':=hD i hi x2 hx2;simp only [Bool.or_eq_true]at hi';simp only [RV];rcases hi' with hi'|hi'
     ·obtain ⟨w,hw⟩:=qwb hlen (qzo hi');obtain ⟨_,hp,hlp⟩:=hcol _ w hw v (by unfold qGg;exact hv);exact ⟨by rw [hp];simp,hlp⟩
     ·obtain ⟨v2,hv2,hg⟩:=h2.E.get hx2;rw [hv]at hv2;cases hv2;refine ⟨λr hr=>qtI hi' r (RV.qv _ _ hg r hr),qbm (qC.2 ⟨hg,qaU⟩)⟩
    ·rename_i hi;have:i∉st2.Wt:=λhh=>hi (hwt i hh);obtain ⟨u,hu,hr⟩:=h.E.get hy;rcases hf.e i this with he|⟨⟨rs,he1⟩,he2⟩
     ·rw [hv]at he;rw [<- he]at hu;cases hu;exact hr
     ·rw [he2]at hv;cases hv;have he1:st.E.toL[i]?=some (.any rs):=he1;rw [hy]at he1;cases he1;exact qfe rs
  ·-- boxes
   show LR (j.wr.foldl (λ(st:TSt) r=>st.forget j.rb r) {st with E:=qfD j.D j.qDF st.E}).all (qeo s');refine ⟨?_,λl sl=>?_,h2.M.nd,h2.M.mp⟩
   ·rw [qqG];have:=hf.len;have:=h.M.len;simp [TSt.all,qeo]at this ⊢;omega
   ·rw [qiW];have hall:({st with E:=qfD j.D j.qDF st.E}:TSt).all=st.all:=rfl;rw [hall];split
    ·rename_i hm;have hbx:=qT (s:=s') ⟨l,sl⟩;simp only at hbx;have key2:=h2.M.rel l sl;have hnl:∀c,qaV (qeo s') l sl=some c->qaE c=false:=λc hc=>by
      cases hk:qaK st2.all l sl with
      |none=>rw [hk]at key2;simp only [RB]at key2;rw [key2]at hc;cases hc
      |some o =>
       rw [hk]at key2;cases o with
       |none=>exact key2 c hc
       |some d =>
        obtain ⟨d',hd',hr⟩:=key2;rw [hd']at hc;cases hc;have hw:=hW _ hm.1;rw [qbA]at hw;simp only [hk,qe,Bool.not_eq_true']at hw;exact qbm (hr.rvl hw.1)
     cases hk:qaK st.all l sl with
     |none=>exact hnl
     |some o =>
      cases o with
      |none=>exact hnl
      |some cs =>
       have hb:st.cont ⟨l,sl⟩=some cs:=by rw [qbA];simp only;rw [hk]
       have hli:=hlike _ hm.1;rw [hb]at hli;simp only at hli;split at hli
       ·rename_i cs2 hb2;simp only [decide_eq_true_eq]at hli;have hw:=hW _ hm.1;rw [hb2]at hw;simp only [qe,Bool.not_eq_true',List.all_eq_true]at hw;obtain ⟨c',hc',hr⟩:=h2.box (qy7 hb2 hw.1);rw [hbx]at hc';refine ⟨c',hc',RVL.rc ?_⟩;refine qgP (by simp [hr.length,hli]) λi y v hy hv=>?_;rw [List.getElem?_map]at hy;obtain ⟨z,hz,rfl⟩:=qc.1 hy;have hi:i<cs2.length:=by have:=(qn.1 hz).1;omega
        have hw':=hw.2 i (by simpa using hi);simp only [Bool.or_eq_true]at hw';simp only [RV];rcases hw' with hw'|hw'
        ·obtain ⟨w,hww⟩:=qwb hlen (qzo hw');obtain ⟨_,hp,hlp⟩:=hcol _ w hww v (by unfold qGg;simp only;rw [hbx,hc'];exact hv);exact ⟨by rw [hp];simp,hlp⟩
        ·have hg:=hr.getD i;rw [List.getD_eq_getElem?_getD (l:=c'),hv]at hg;exact ⟨λr hrr=>qtI hw' r (RV.qv _ _ hg r hrr),qbm (qC.2 ⟨hg,qaU⟩)⟩
       ·cases hli
    ·rename_i hm;have key:=h.M.rel l sl;by_cases hlt:l<st.all.length
     ·have hnr:(⟨l,sl⟩:Root)∉st2.Wb:=λhh=>by
       have:=hwb _ hh;simp only [Bool.or_eq_true,decide_eq_true_eq]at this;rcases this with h3|h3
       ·exact hm ⟨by simpa using h3,hlt⟩
       ·have h4:=h2.len;have h5:=hf.len;have h6:=h.len;simp [TSt.all]at hlt;omega
      rcases hf.b _ hnr with hb|⟨_,hb0,hb1,hb2⟩
      ·rw [qT,qT]at hb;simp only at hb;rw [hb];exact key
      ·rw [qT,qT]at hb1;rw [qT]at hb2;simp only at hb1 hb2;have hb0:st.cont ⟨l,sl⟩=none:=hb0;rw [qbA]at hb0;simp only at hb0;cases hk:qaK st.all l sl with
       |none =>
        rw [hk]at key;simp only [RB]at key ⊢;rw [key]at hb1;simpa using hb1
       |some o =>
        cases o with
        |none=>exact hb2
        |some c=>rw [hk]at hb0;cases hb0
     ·have h1:qaK st.all l sl=none:=by
       unfold qaK;rw [List.getElem?_eq_none (by omega)]
      have h3:qaV (qeo s') l sl=none:=by
       unfold qaV;have hl:=hf.len;have hl2:=h.len;rw [List.getElem?_eq_none];simp [TSt.all,qeo]at hlt ⊢;omega
      rw [h1,h3];rfl
 ·cases ho
theorem qkO{st st2:TSt}{s s':St}{j:Join}{x:denL (j.ps.map (·.1))}(h:Rst st s)(h2:Rst st2 s')(hf:Fr2 st.fresh st2 s s')(ho:st2.outs st j=some x):Rst (st.qcR j (ofL j.ps x)) s':=by
 refine qzM _ (qyq h h2 hf ho) (qEY h2 ?_);unfold TSt.outs at ho;split at ho
 ·rename_i hc;simp only [qe]at hc;have:=hc.1.1;unfold TSt.qn2 at this;simp only [qe]at this;exact this.2
 ·cases ho
theorem qg6(D:List Tmp)(b:qR)(s:Nat):qaf (qa5 D b) s=if D.contains s then none else qaf b s:=by
 induction b with
 |nil=>simp [qa5,qaf]
 |cons p b ih =>
  obtain ⟨k,c⟩:=p;simp only [qa5];by_cases h:D.contains k=true
  ·rw [if_pos h,ih];by_cases e:k=s
   ·subst e;rw [if_pos h,if_pos h]
   ·simp only [qaf,if_neg e]
  ·rw [if_neg h];by_cases e:k=s
   ·subst e;simp only [qaf,if_true];rw [if_neg h]
   ·simp only [qaf,if_neg e,ih]
theorem qbh(D:List Tmp)(b:Level)(s:Nat):qz (q9 D b) s=if D.contains s then none else qz b s:=by
 induction b with
 |nil=>simp [q9,qz]
 |cons p b ih =>
  obtain ⟨k,c⟩:=p;simp only [q9];by_cases h:D.contains k=true
  ·rw [if_pos h,ih];by_cases e:k=s
   ·subst e;rw [if_pos h,if_pos h]
   ·simp only [qz,if_neg e]
  ·rw [if_neg h];by_cases e:k=s
   ·subst e;simp only [qz,if_true];rw [if_neg h]
   ·simp only [qz,if_neg e,ih]
theorem qih{b:Level}(hn:(b.map (·.1)).Nodup){k:Nat}{c:List V}(h:(k,c)∈b):qz b k=some c:=by
 induction b with
 |nil=>cases h
 |cons p b ih =>
  obtain ⟨k',c'⟩:=p;simp only [qi,List.nodup_cons]at hn;rcases qm.1 h with h|h
  ·cases h;simp [qz]
  ·have:k'≠k:=λe=>hn.1 (List.mem_map.2 ⟨_,h,e.symm⟩);simp only [qz,if_neg this];exact ih hn.2 h
theorem qeY{b:qR}{k:Nat}{c:Option (List TV)}(h:qaf b k=some c):(k,c)∈b:=by
 induction b with
 |nil=>cases h
 |cons p b ih =>
  obtain ⟨k',c'⟩:=p;simp only [qaf]at h;split at h
  ·rename_i e;cases h;subst e;simp
  ·exact qm.2 (.inr (ih h))
theorem qwN{b:Level}{r:Root}(h:r∈qpK b):∃k c,(k,c)∈b/\r∈ptrsL c:=by
 induction b with
 |nil=>simp [qpK]at h
 |cons p b ih =>
  obtain ⟨k,c⟩:=p;simp only [qpK,qk]at h;rcases h with h|h
  ·exact ⟨k,c,by simp,h⟩
  ·obtain ⟨k',c',h1,h2⟩:=ih h;exact ⟨k',c',by simp [h1],h2⟩
theorem qtg{b:qR}{k:Nat}{c:List TV}(h:(k,some c)∈b){r:Root}(hr:r∈ptrsTL c):r∈qnn b:=by
 induction b with
 |nil=>cases h
 |cons p b ih =>
  obtain ⟨k',c'⟩:=p;rcases qm.1 h with h|h'
  ·cases h;simp [qnn,hr]
  ·cases c' with
   |none=>simp only [qnn];exact ih h'
   |some d=>simp only [qnn,qk];exact .inr (ih h')
theorem qze{b:qR}(hf:qAA b=true){k:Nat}{c:Option (List TV)}(h:(k,c)∈b):∃d,c=some d:=by
 induction b with
 |nil=>cases h
 |cons p b ih =>
  obtain ⟨k',c'⟩:=p;simp only [qAA,qe]at hf;rcases qm.1 h with h|h
  ·cases h;exact Option.isSome_iff_exists.1 hf.1
  ·exact ih hf.2 h
theorem qxx{D:List Tmp}{b:qR}(h:(qa5 D b).length=b.length):∀k c,(k,c)∈b->D.contains k=false:=by
 induction b with
 |nil=>simp
 |cons p b ih =>
  obtain ⟨k',c'⟩:=p;have hle:∀b:qR,(qa5 D b).length<=b.length:=λb=>by
   induction b with
   |nil=>simp [qa5]
   |cons p b ih=>obtain ⟨k,c⟩:=p;simp only [qa5];split<;>simp<;>omega
  simp only [qa5]at h;intro k c hk;split at h
  ·have:=hle b;simp at h;omega
  ·rename_i hn;rcases qm.1 hk with hk|hk
   ·cases hk;simpa using hn
   ·exact ih (by simpa using h) k c hk
theorem qiE{D:List Tmp}{b:Level}(h:∀k c,(k,c)∈b->D.contains k=false):q9 D b=b:=by
 induction b with
 |nil=>rfl
 |cons p b ih =>
  obtain ⟨k,c⟩:=p;simp only [q9];rw [if_neg (by rw [h k c (by simp)];simp),ih λk c hk=>h k c (by simp [hk])]
theorem qkv(D:List Tmp)(E:List V)(i:Nat):(qfo D E)[i]?=if i∈D then (E[i]?).map (λ_=>.undef)else E[i]?:=qmC _ D E i
theorem qqq(D:List Tmp)(E:Env)(i:Nat):(qgU D E).toL[i]?=if i∈D then (E.toL[i]?).map (λ_=>.any [])else E.toL[i]?:=by
 unfold qgU;rw [qlC];by_cases h:i∈D
 ·rw [if_pos h,if_pos (Mask.mem_ofList.2 h)]
 ·rw [if_neg h,if_neg (λhh=>h (Mask.mem_ofList.1 hh))]
theorem qAq(D:List Tmp){E:Env}{E':List V}(h:RVL E.toL E'):RVL (qgU D E).toL (qfo D E'):=by
 refine qgP ?_ λi x v hx hv=>?_
 ·unfold qgU qfo;rw [qqE,qgn,h.length]
 ·rw [qqq]at hx;rw [qkv]at hv;by_cases hm:i∈D
  ·rw [if_pos hm]at hx hv;obtain ⟨_,_,rfl⟩:=qc.1 hx;obtain ⟨_,_,rfl⟩:=qc.1 hv;exact qfe []
  ·rw [if_neg hm]at hx hv;obtain ⟨u,hu,hr⟩:=h.get hx;rw [hv]at hu;cases hu;exact hr
theorem qzK:∀{l:List V} {r:Root},r∈ptrsL l->∃(i:Nat) (v:V),l[i]?=some v/\r∈v.qv
 |[],r,h=>by simp [ptrsL]at h
 |v::l,r,h=>by
  simp only [ptrsL,qk]at h;rcases h with h|h
  ·exact ⟨0,v,rfl,h⟩
  ·obtain ⟨i,u,hu,hr⟩:=qzK h;exact ⟨i+1,u,by simpa using hu,hr⟩
theorem qzi{D:List Tmp}{n:Nat}{b:qR}{k:Nat}{c:Option (List TV)}(h:(k,c)∈b)(hk:D.contains k=true):(⟨n,k⟩:Root)∈qsq D n b:=by
 induction b with
 |nil=>cases h
 |cons p b ih =>
  obtain ⟨k',c'⟩:=p;simp only [qsq];rcases qm.1 h with h|h
  ·cases h;rw [if_pos hk];simp
  ·split
   ·exact qm.2 (.inr (ih h))
   ·exact ih h
theorem qnU(D:List Tmp)(b:Level):(q9 D b).Sublist b:=by
 induction b with
 |nil=>exact .slnil
 |cons p b ih =>
  obtain ⟨k,c⟩:=p;simp only [q9];split
  ·exact ih.cons _
  ·exact ih.cons_cons _
theorem qkw{D:List Tmp}{st st1:TSt}{s:St}(h:Rst st s)(hc:st.clear D=some st1):∃s1,s.clear D=some s1/\Rst st1 s1/\Fr2 st st1 s s1:=by
 have hlen:=h.len;have hEl:s.E.length=st.E.n:=by rw [h.E.length,qmi]
 have hin:∀t,t∈inE st D↔t∈D/\t<st.E.n:=λt=>by simp [inE]
 have hEq:qfo (inE st D) s.E=qfo D s.E:=by
  apply List.ext_getElem?;intro i;rw [qkv,qkv];by_cases h1:i∈D
  ·rw [if_pos h1];by_cases h2:i<st.E.n
   ·rw [if_pos ((hin i).2 ⟨h1,h2⟩)]
   ·rw [if_neg (λh3=>h2 ((hin i).1 h3).2),List.getElem?_eq_none (by omega)];rfl
  ·rw [if_neg h1,if_neg (λh3=>h1 ((hin i).1 h3).1)]
 have hE:=qAq (inE st D) h.E;rw [hEq]at hE;have hlastM:st.all[st.L.length]?=some st.B:=by simp [TSt.all]
 have hlastV:(qeo s)[st.L.length]?=some s.B:=by rw [<- hlen];simp [qeo]
 have hB:∀k,RB (qaf st.B k) (qz s.B k):=λk=>by
  have:=h.M.rel st.L.length k;unfold qaK qaV at this;rw [hlastM,hlastV]at this;exact this
 have hnd:(s.B.map (·.1)).Nodup:=h.M.nd s.B (by simp [qeo]);unfold TSt.clear at hc;simp only at hc;split at hc
 ·rename_i hcond;cases hc;have hv:s.clear D=some {s with E:=qfo D s.E,B:=q9 D s.B}:=by
   unfold St.clear;simp only
   rw [if_pos];simp only [Bool.or_eq_true,decide_eq_true_eq,qe]at hcond;rcases hcond with hl|⟨⟨h1,h2⟩,h3⟩
   ·left
    rw [qiE];intro k c hk;have hlk:=qih hnd hk;have hb:=hB k;cases ht:qaf st.B k with
    |none=>rw [ht]at hb;simp only [RB]at hb;rw [hb]at hlk;cases hlk
    |some o=>exact qxx hl k o (qeY ht)
   ·right
    unfold qeE at h2 ⊢;rw [List.all_eq_true]at h2;simp only [qe,List.all_eq_true];refine ⟨λr hr=>?_,λr hr=>?_⟩
    ·rw [hlen];obtain ⟨i,v,hv,hrv⟩:=qzK hr;obtain ⟨x,hx⟩:∃x,(qgU (inE st D) st.E).toL[i]?=some x:=by
      have hlt:=(qn.1 hv).1;have:=hE.length;exact ⟨_,List.getElem?_eq_getElem (by omega)⟩
     obtain ⟨v2,hv2,hrx⟩:=hE.get hx;rw [hv]at hv2;cases hv2;have h3:=qBJ h1 (λi=>by simp [TV.qv,qeE]) hx;unfold qeE at h3;rw [List.all_eq_true]at h3;exact h3 r (RV.qv _ _ hrx r hrv)
    ·rw [hlen];obtain ⟨k,c,hk,hrc⟩:=qwN hr;have hlk:=qih (by exact List.Sublist.nodup ((qnU D s.B).map _) hnd) hk;rw [qbh]at hlk;split at hlk
     ·cases hlk
     ·rename_i hkD;have hb:=hB k;cases ht:qaf st.B k with
      |none=>rw [ht]at hb;simp only [RB]at hb;rw [hb]at hlk;cases hlk
      |some o =>
       have ht2:qaf (qa5 D st.B) k=some o:=by rw [qg6,if_neg hkD];exact ht
       obtain ⟨d,rfl⟩:=qze h3 (qeY ht2);rw [ht]at hb;obtain ⟨d',hd',hr'⟩:=hb;rw [hd']at hlk;cases hlk;exact h2 r (qtg (qeY ht2) (hr'.qv r hrc))
  refine ⟨_,hv,⟨hE,?_⟩,?_⟩
  ·refine ⟨by have:=h.M.len;simpa [TSt.all,qeo]using this,λl k=>?_,λb hb=>?_,λl k c hc hlt=>?_⟩
   rotate_right
   ·have key:=h.M.mp l k;unfold qaV at key hc;by_cases e:l=st.L.length
    ·subst e;have e2:(qeo {s with E:=qfo D s.E,B:=q9 D s.B})[st.L.length]?=some (q9 D s.B):=by rw [<- hlen];simp [qeo]
     rw [e2]at hc;rw [hlastV]at key;simp only at hc key;rw [qbh]at hc;split at hc
     ·cases hc
     ·exact key c hc hlt
    ·have e2:(qeo {s with E:=qfo D s.E,B:=q9 D s.B})[l]?=(qeo s)[l]?:=by
      simp only [qeo];by_cases hlt:l<s.L.length
      ·rw [qh hlt,qh hlt]
      ·rw [List.getElem?_eq_none (by simp;omega),List.getElem?_eq_none (by simp;omega)]
     rw [e2]at hc;exact key c hc hlt
   ·have key:=h.M.rel l k;unfold qaK qaV at key ⊢;by_cases e:l=st.L.length
    ·subst e;have e1:({st with E:=qgU (inE st D) st.E,B:=qa5 D st.B,Wt:=Mask.ofList (inE st D)++st.Wt,Wb:=qsq D st.L.length st.B++st.Wb}:TSt).all[st.L.length]?=some (qa5 D st.B):=by simp [TSt.all]
     have e2:(qeo {s with E:=qfo D s.E,B:=q9 D s.B})[st.L.length]?=some (q9 D s.B):=by rw [<- hlen];simp [qeo]
     rw [e1,e2];simp only
     rw [qg6,qbh];split
     ·rfl
     ·exact hB k
    ·have e1:({st with E:=qgU (inE st D) st.E,B:=qa5 D st.B,Wt:=Mask.ofList (inE st D)++st.Wt,Wb:=qsq D st.L.length st.B++st.Wb}:TSt).all[l]?=st.all[l]?:=by
      simp only [TSt.all];by_cases hlt:l<st.L.length
      ·rw [qh hlt,qh hlt]
      ·rw [List.getElem?_eq_none (by simp;omega),List.getElem?_eq_none (by simp;omega)]
     have e2:(qeo {s with E:=qfo D s.E,B:=q9 D s.B})[l]?=(qeo s)[l]?:=by
      simp only [qeo];by_cases hlt:l<s.L.length
      ·rw [qh hlt,qh hlt]
      ·rw [List.getElem?_eq_none (by simp;omega),List.getElem?_eq_none (by simp;omega)]
     rw [e1,e2];exact key
   ·simp only [qeo,qk,List.mem_singleton]at hb;rcases hb with hb|rfl
    ·exact h.M.nd b (by simp [qeo,hb])
    ·exact List.Sublist.nodup ((qnU D s.B).map _) hnd
  ·refine ⟨λt ht=>by simp [ht],λr hr=>by simp [hr],λt ht=>.inl ?_,λt ht rs hE=>⟨rs,?_⟩,λr hr=>.inl ?_,λr hr hsm=>?_,rfl,?_⟩
   ·simp only [Mask.mem_append,Mask.mem_ofList,not_or]at ht;simp only
    rw [qkv];by_cases hD:t∈D
    ·have hge:¬ t<st.E.n:=λhlt=>ht.1 ((hin t).2 ⟨hD,hlt⟩);rw [if_pos hD,List.getElem?_eq_none (by omega)];rfl
    ·rw [if_neg hD]
   ·simp only [Mask.mem_append,Mask.mem_ofList,not_or]at ht;rw [qqq,if_neg ht.1]at hE;exact hE
   ·simp only [qk,not_or]at hr;obtain ⟨l,k⟩:=r;rw [qT,qT];simp only
    unfold qaV;by_cases e:l=st.L.length
    ·subst e;have e2:(qeo {s with E:=qfo D s.E,B:=q9 D s.B})[st.L.length]?=some (q9 D s.B):=by rw [<- hlen];simp [qeo]
     rw [e2,hlastV];simp only
     rw [qbh];split
     ·rename_i hk;have hb:=hB k;cases ht:qaf st.B k with
      |none=>rw [ht]at hb;simp only [RB]at hb;exact hb.symm
      |some o=>exact absurd (qzi (qeY ht) hk) hr.1
     ·rfl
    ·have e2:(qeo {s with E:=qfo D s.E,B:=q9 D s.B})[l]?=(qeo s)[l]?:=by
      simp only [qeo];by_cases hlt:l<s.L.length
      ·rw [qh hlt,qh hlt]
      ·rw [List.getElem?_eq_none (by simp;omega),List.getElem?_eq_none (by simp;omega)]
     rw [e2]
   ·simp only [qk,not_or]at hr;obtain ⟨l,k⟩:=r;obtain ⟨c,hc⟩:=Option.isSome_iff_exists.1 hsm;have hlk:=qf1 hc;simp only at hlk;have:qaK ({st with E:=qgU (inE st D) st.E,B:=qa5 D st.B,Wt:=Mask.ofList (inE st D)++st.Wt,Wb:=qsq D st.L.length st.B++st.Wb}:TSt).all l k=some (some c):=by
     unfold qaK at hlk ⊢;by_cases e:l=st.L.length
     ·subst e;rw [hlastM]at hlk;simp only at hlk;have e1:({st with E:=qgU (inE st D) st.E,B:=qa5 D st.B,Wt:=Mask.ofList (inE st D)++st.Wt,Wb:=qsq D st.L.length st.B++st.Wb}:TSt).all[st.L.length]?=some (qa5 D st.B):=by simp [TSt.all]
      rw [e1];simp only
      rw [qg6];split
      ·rename_i hk;exact absurd (qzi (qeY hlk) hk) hr.1
      ·exact hlk
     ·have e1:({st with E:=qgU (inE st D) st.E,B:=qa5 D st.B,Wt:=Mask.ofList (inE st D)++st.Wt,Wb:=qsq D st.L.length st.B++st.Wb}:TSt).all[l]?=st.all[l]?:=by
       simp only [TSt.all];by_cases hlt:l<st.L.length
       ·rw [qh hlt,qh hlt]
       ·rw [List.getElem?_eq_none (by simp;omega),List.getElem?_eq_none (by simp;omega)]
      rw [e1];exact hlk
    rw [qbA];simp only
    rw [this];rfl
   ·exact qgn _ D s.E
 ·cases hc
end
section
variable {P:Program} {H:Hints} {J:TH} {T:qvq} {O:TOrc} {lib:FuncId->Option (List V->Option V)} {f:FuncId} {ctx:List Tmp}
def Ev(p:Orc->Prop)(P:Program)(H:Hints)(lib:FuncId->Option (List V->Option V)):Prop:=∃n,∀m,n<=m->p (qvn P H lib m)
theorem Ev.and{p q:Orc->Prop}(h:Ev p P H lib)(h':Ev q P H lib):Ev (λC=>p C/\q C) P H lib:=by
 obtain ⟨n,h⟩:=h;obtain ⟨n',h'⟩:=h';exact ⟨max n n',λm hm=>⟨h m (by omega),h' m (by omega)⟩⟩
theorem Ev.imp{p q:Orc->Prop}(h:Ev p P H lib)(hi:∀C,p C->q C):Ev q P H lib:=by
 obtain ⟨n,h⟩:=h;exact ⟨n,λm hm=>hi _ (h m hm)⟩
theorem Ev.qlu:Ev (λC=>C.qlu=H.qlu) P H lib:=⟨1,λm hm=>by
 cases m with
 |zero=>omega
 |succ m=>rfl⟩
theorem Ev.of{p:Orc->Prop}(h:∀C,p C):Ev p P H lib:=⟨0,λm _=>h _⟩
def qEn(P:Program)(H:Hints)(lib:FuncId->Option (List V->Option V))(f:FuncId)(bid:Nat)(c:Code)(s:St)(e:Ex)(s':St):Prop:=Ev (λC=>ex P H C f bid c s=some (e,s')) P H lib
def qyU(P:Program)(H:Hints)(lib:FuncId->Option (List V->Option V))(g:FuncId)(args:List V)(M:List Level)(r:V)(M':List Level):Prop:=Ev (λC=>C.call g args M=some (r,M')) P H lib
def Snd(run:TSt->(R:Type)->(Ex->TSt->Option R)->Option R)(rel:St->Ex->St->Prop):Prop :=
 ∀(st:TSt) (R:Type) (k:Ex->TSt->Option R) (r:R) (s:St),run st R k=some r->Rst st s->∃e st' s',rel s e s'/\Rst st' s'/\Fr2 st st' s s'/\k e st'=some r
theorem qu5(st:TSt)(p:Place)(v:TV):(st.qcV p v).Wt=st.Wt/\(st.qcV p v).Wb=st.Wb:=by
 unfold TSt.qcV;cases p.lvl with
 |none=>exact ⟨rfl,rfl⟩
 |some l =>
  simp only
  cases st.box ⟨l,p.slot⟩with
  |none=>exact ⟨rfl,rfl⟩
  |some cs=>exact ⟨by simp only [TSt.qu];split<;>rfl,rfl⟩
theorem qlx:∀(ps:List Place) (vs:List TV) (st:TSt),(qee st ps vs).Wt=st.Wt/\(qee st ps vs).Wb=st.Wb
 |[],vs,st=>by cases vs<;>exact ⟨rfl,rfl⟩
 |p::ps,[],st=>⟨rfl,rfl⟩
 |p::ps,v::vs,st=>by
  have h1:=qlx ps vs (st.qcV p v);have h2:=qu5 st p v;exact ⟨h1.1.trans h2.1,h1.2.trans h2.2⟩
theorem qkm(st:TSt)(r:Root)(c:List TV)(q:Root)(h:(st.cont q).isSome=true):((st.qu r c).cont q).isSome=true:=by
 obtain ⟨l,s⟩:=r;obtain ⟨l',s'⟩:=q;have key:∀b:qR,(match qaf b s' with|some (some c)=>some c|_=>none:Option (List TV)).isSome=true->(match qaf (qzX b s (some c)) s' with|some (some c)=>some c|_=>none:Option (List TV)).isSome=true:=λb hb=>by
  rw [qkF];by_cases e:s'=s
  ·rw [if_pos e];subst e;cases hl:qaf b s' with
   |none=>rw [hl]at hb;cases hb
   |some o=>rfl
  ·rw [if_neg e];exact hb
 unfold TSt.qu TSt.cont at *;simp only at h ⊢;by_cases h1:l=st.L.length
 ·rw [if_pos h1];simp only
  by_cases h2:l'=st.L.length
  ·rw [if_pos h2]at h ⊢;exact key _ h
  ·rw [if_neg h2]at h ⊢;exact h
 ·rw [if_neg h1];simp only [List.length_modify];by_cases h2:l'=st.L.length
  ·rw [if_pos h2]at h ⊢;exact h
  ·rw [if_neg h2]at h ⊢;rw [List.getElem?_modify];cases hb:st.L[l']? with
   |none=>rw [hb]at h;cases h
   |some b =>
    rw [hb]at h;simp only [Option.map_eq_map,qj];by_cases e:l=l'
    ·rw [if_pos e];exact key _ h
    ·rw [if_neg e];exact h
theorem qr6:∀(ps:List Place) (vs:List TV) (st:TSt) (t:Nat),(qee st ps vs).E.toL[t]?=st.E.toL[t]?\/∃v∈vs,(qee st ps vs).E.toL[t]?=some v
 |[],vs,st,t=>by cases vs<;>exact .inl rfl
 |p::ps,[],st,t=>.inl rfl
 |p::ps,v::vs,st,t=>by
  rcases qr6 ps vs (st.qcV p v) t with h|⟨u,hu,h⟩
  ·show (qee (st.qcV p v) ps vs).E.toL[t]?=_\/∃u∈v::vs,(qee (st.qcV p v) ps vs).E.toL[t]?=some u;rw [h];unfold TSt.qcV;cases p.lvl with
   |none =>
    simp only [qfI,List.getElem?_set];split
    ·split
     ·exact .inr ⟨v,by simp,rfl⟩
     ·rename_i h1 h2;left;rw [List.getElem?_eq_none (by omega)]
    ·exact .inl rfl
   |some l =>
    simp only
    cases st.box ⟨l,p.slot⟩with
    |none=>exact .inl rfl
    |some cs=>left;simp only [TSt.qu];split<;>rfl
  ·exact .inr ⟨u,by simp [hu],h⟩
theorem qw6(st:TSt)(p:Place)(v:TV)(r:Root)(h:(st.cont r).isSome=true):((st.qcV p v).cont r).isSome=true:=by
 unfold TSt.qcV;cases p.lvl with
 |none=>exact h
 |some l =>
  simp only
  cases hb:st.box ⟨l,p.slot⟩with
  |none=>exact h
  |some cs =>
   simp only
   have hbx:({st.qu ⟨l,p.slot⟩ (cs.set p.cell v)with Wb:=st.Wb}:TSt).cont r=(st.qu ⟨l,p.slot⟩ (cs.set p.cell v)).cont r:=rfl;rw [hbx];exact qkm st ⟨l,p.slot⟩ _ r h
theorem qnA:∀(ps:List Place) (vs:List TV) (st:TSt) (r:Root),(st.cont r).isSome=true->((qee st ps vs).cont r).isSome=true
 |[],vs,st,r,h=>by cases vs<;>exact h
 |p::ps,[],st,r,h=>h
 |p::ps,v::vs,st,r,h=>qnA ps vs _ r (qw6 st p v r h)
theorem qzF(τ:Ty)(o:Nat)(x:τ.den):∀rs,ofTy τ o x≠.any rs:=λrs=>by cases τ<;>simp [ofTy]
theorem qC6:∀(ps:List (Ty×Nat)) (x:denL (ps.map (·.1))),∀v∈ofL ps x,∀rs,v≠.any rs
 |[],x,v,hv=>by simp [ofL]at hv
 |[(τ,o)],x,v,hv=>by simp only [ofL,List.mem_singleton]at hv;subst hv;exact qzF τ o x
 |(τ,o)::q::ps,x,v,hv=>by
  simp only [ofL,qm]at hv;rcases hv with rfl|hv
  ·exact qzF τ o x.1
  ·exact qC6 (q::ps) x.2 v hv
theorem qyp{st st2:TSt}{s s':St}{j:Join}{x:denL (j.ps.map (·.1))}(h2:Rst st2 s')(hf:Fr2 st.fresh st2 s s')(ho:st2.outs st j=some x):Fr2 st (st.qfT j (ofL j.ps x)) s s':=by
 generalize hvs:ofL j.ps x=vs;have hany:∀v∈vs,∀rs,v≠.any rs:=by rw [<- hvs];exact qC6 j.ps x
 unfold TSt.outs at ho;split at ho
 ·rename_i hc;simp only [qe]at hc;obtain ⟨⟨_,hwr⟩,_⟩:=hc;unfold TSt.wrote at hwr;simp only [qe,List.all_eq_true]at hwr;obtain ⟨hwt0,hwb⟩:=hwr;have hwt:∀t∈st2.Wt,t∈j.D:=λt ht=>Mask.qDT hwt0 ht;have hl:=qlx j.lv vs {j.wr.foldl (λ(st:TSt) r=>st.forget j.rb r) {st with E:=qfD j.D j.qDF st.E}with Wt:=j.D++st.Wt,Wb:=j.wr++st.Wb};have e1:(st.qfT j vs).Wt=j.D++st.Wt:=hl.1;have e2:(st.qfT j vs).Wb=j.wr++st.Wb:=hl.2;refine ⟨λt ht=>by rw [e1];simp [ht],λr hr=>by rw [e2];simp [hr],λt ht=>?_,λt ht rs hE=>?_,λr hr=>?_,λr hr hsm=>?_,hf.len,hf.elen⟩
  ·rw [e1]at ht;exact hf.e t λhh=>ht (by simp [hwt t hh])
  ·rw [e1]at ht;simp only [Mask.mem_append,not_or]at ht;unfold TSt.qfT at hE;rcases qr6 j.lv vs _ t with h3|⟨v,hv,h3⟩
   ·rw [h3]at hE;have h4:(j.wr.foldl (λ(st:TSt) r=>st.forget j.rb r) {st with E:=qfD j.D j.qDF st.E}).E.toL[t]?=some (.any rs):=hE;rw [qqF]at h4;simp only at h4;rw [qlC,if_neg ht.1]at h4;exact ⟨rs,h4⟩
   ·rw [h3]at hE;exact absurd (Option.some.inj hE) (hany v hv rs)
  ·rw [e2]at hr;by_cases hm:r∈st2.Wb
   ·have:=hwb r hm;simp only [Bool.or_eq_true,decide_eq_true_eq]at this;rcases this with h3|h3
    ·exact absurd (by simp at h3;simp [h3]) hr
    ·rw [qT,qT];unfold qaV;have h4:=h2.len;have h5:=hf.len;rw [List.getElem?_eq_none (by simp [qeo];omega),List.getElem?_eq_none (by simp [qeo];omega)];exact .inl rfl
   ·exact hf.b r hm
  ·rw [e2]at hr;simp only [qk,not_or]at hr;unfold TSt.qfT;refine qnA j.lv vs _ r ?_;obtain ⟨c,hc⟩:=Option.isSome_iff_exists.1 hsm;have hlk:=qf1 hc;have h3:qaK (j.wr.foldl (λ(st:TSt) r=>st.forget j.rb r) {st with E:=qfD j.D j.qDF st.E}).all r.lvl r.slot=some (some c):=by
    rw [qiW,if_neg (λhh=>hr.1 hh.1)];exact hlk
   have h4:({j.wr.foldl (λ(st:TSt) r=>st.forget j.rb r) {st with E:=qfD j.D j.qDF st.E}with Wt:=j.D++st.Wt,Wb:=j.wr++st.Wb}:TSt).cont r=some c:=by
    rw [qbA];show (match qaK (j.wr.foldl (λ(st:TSt) r=>st.forget j.rb r) {st with E:=qfD j.D j.qDF st.E}).all r.lvl r.slot with
     |some (some c)=>some c
     |_=>none)=some c
    rw [h3]
   rw [h4];rfl
 ·cases ho
theorem qkN{st st2:TSt}{s s':St}{j:Join}{x:denL (j.ps.map (·.1))}(h2:Rst st2 s')(hf:Fr2 st.fresh st2 s s')(ho:st2.outs st j=some x):Fr2 st (st.qcR j (ofL j.ps x)) s s':=by
 have h:=qyp h2 hf ho;have hl:=qtp j.kp (st.qfT j (ofL j.ps x));have hc:∀r,(st.qcR j (ofL j.ps x)).cont r=(st.qfT j (ofL j.ps x)).cont r:=λr=>by
  unfold TSt.cont TSt.qcR;rw [hl.2.2.1,hl.2.2.2]
 refine ⟨λt ht=>?_,λr hr=>?_,λt ht=>?_,λt ht rs hE=>?_,λr hr=>?_,λr hr hs=>?_,h.len,h.elen⟩
 ·unfold TSt.qcR;rw [hl.1];exact h.wt t ht
 ·unfold TSt.qcR;rw [hl.2.1];exact h.wb r hr
 ·unfold TSt.qcR at ht;rw [hl.1]at ht;exact h.e t ht
 ·unfold TSt.qcR at ht hE;rw [hl.1]at ht;exact h.an t ht rs (qDl _ _ _ _ hE)
 ·unfold TSt.qcR at hr;rw [hl.2.1]at hr;exact h.b r hr
 ·rw [hc];unfold TSt.qcR at hr;rw [hl.2.1]at hr;exact h.bn r hr hs
theorem qzw{st st2:TSt}{s s':St}(hf:Fr2 st.fresh st2 s s'):Fr2 st (st2.merge st) s s' :=
 ⟨λt ht=>by simp [TSt.merge,ht],λr hr=>by simp [TSt.merge,hr],λt ht=>hf.e t λhh=>ht (by simp [TSt.merge,hh]),λt ht rs hE=>hf.an t (λhh=>ht (by simp [TSt.merge,hh])) rs hE,λr hr=>hf.b r λhh=>hr (by simp [TSt.merge,hh]),λr hr hsm=>hf.bn r (λhh=>hr (by simp [TSt.merge,hh])) hsm,hf.len,hf.elen⟩
theorem Rst.fresh{st:TSt}{s:St}(h:Rst st s):Rst st.fresh s:=⟨h.E,h.M⟩
theorem Rst.merge{st st0:TSt}{s:St}(h:Rst st s):Rst (st.merge st0) s:=⟨h.E,h.M⟩
theorem qp4{run:TSt->(R:Type)->(Ex->TSt->Option R)->Option R}{rel:St->Ex->St->Prop}(h:Snd run rel)(j:Option Join):Snd (λst R k=>qAO j st run R k) rel:=by
 intro st R k r s hr hs;simp only [qAO]at hr;cases j with
 |none=>exact h st R k r s hr hs
 |some j =>
  simp only at hr;split at hr
  ·obtain ⟨x,hx,hk⟩:=qd.1 hr;obtain ⟨e,st2,s',hrel,hR,hF,hkk⟩:=h _ _ _ _ s hx hs.fresh;have habn:∀e,(k e (st2.merge st)).map Sum.inr=some x->rel s e s'->∃e st' s',rel s e s'/\Rst st' s'/\Fr2 st st' s s'/\k e st'=some r:=λe hkk hrel=>by
    obtain ⟨y,hy,rfl⟩:=qc.1 hkk;simp only [Sum.elim_inr,qb]at hk;subst hk;exact ⟨e,_,s',hrel,hR.merge,qzw hF,hy⟩
   cases e with
   |normal =>
    obtain ⟨y,hy,rfl⟩:=qc.1 hkk;simp only [Sum.elim_inl]at hk;exact ⟨.normal,_,s',hrel,qkO hs hR hF hy,qkN hR hF hy,hk⟩
   |exit id=>exact habn _ hkk hrel
   |ret=>exact habn _ hkk hrel
  ·obtain ⟨x,hx,hk⟩:=qd.1 hr;obtain ⟨e,st2,s',hrel,hR,hF,hkk⟩:=h _ _ _ _ s hx hs.fresh;cases e with
   |normal=>exact ⟨.normal,_,s',hrel,qkO hs hR hF hkk,qkN hR hF hkk,hk⟩
   |exit id=>cases hkk
   |ret=>cases hkk
def TOk(P:Program)(H:Hints)(lib:FuncId->Option (List V->Option V))(T:qvq):Prop :=
 ∀g args (R:Type) (k:TV->Option R) r vs,T g args R k=some r->RVL args vs->∃x v,k x=some r/\RV x v/\qyU P H lib g vs [] v []
structure OOk (P:Program) (H:Hints) (lib:FuncId->Option (List V->Option V)) (O:TOrc):Prop where
 call:∀ctx g args M (R:Type) (k:TV->List qR->List Root->Option R) r vs M',O.call ctx g args M R k=some r->RVL args vs->LR M M' ->
  ∃x N wb v N',k x N wb=some r/\RV x v/\LR N N'/\N.length=M.length/\(∀l sl,(⟨l,sl⟩:Root)∉wb->qaV N' l sl=qaV M' l sl/\∀c,qaK M l sl=some (some c)->∃c',qaK N l sl=some (some c'))/\qyU P H lib g vs M' v N'
 code:∀ctx f bid c,Snd (λst R k=>O.code ctx f bid c st R k) λs e s'=>Ev (λC=>C.code f bid c s=some (e,s')) P H lib
 born:∀ctx g args (R:Type) (k:TV->TV->Option R) r vs,O.born ctx g args R k=some r->RVL args vs ->
  ∃x τ o l v sl,k x (.t (.mset τ) o l)=some r/\qHm τ=true/\RV x v/\x.onlyMaps=true/\Ev (λC=>C.born g vs=some (v,sl,kvs τ l)) P H lib
theorem qn0(f:Fl):qjf f≠.own:=by cases f<;>simp [qjf]
theorem qvT(f:Fl):qkz f=.own↔f=.own:=by cases f<;>simp [qkz]
theorem qvU(f:Fl):qkA f=.own↔f=.own:=by cases f<;>simp [qkA]
theorem qiS:∀{M:List qR} {L:List qR} {B:qR},qgM M=some (L,B)->M=L++[B]
 |[],_,_,h=>by cases h
 |[b],_,_,h=>by simp only [qgM,qb,Prod.mk.injEq]at h;simp [<- h.1,<- h.2]
 |b::c::l,L,B,h=>by
  simp only [qgM]at h;obtain ⟨⟨x,y⟩,hxy,h2⟩:=qc.1 h;simp only [Prod.mk.injEq]at h2;obtain ⟨rfl,rfl⟩:=h2;simp [qiS hxy]
theorem qiT:∀(L:List Level) (B:Level),qeX (L++[B])=some (L,B)
 |[],B=>rfl
 |[a],B=>rfl
 |a::b::L,B=>by
  have:=qiT (b::L) B;simp only [List.cons_append]at this ⊢;simp only [qeX,this,qj]
theorem qoM{α:Type}:∀{M:List α} {n:Nat},M.length=n+1->∃L B,M=L++[B]
 |[],n,h=>by simp at h
 |[b],n,h=>⟨[],b,rfl⟩
 |b::c::l,n,h=>by
  obtain ⟨L,B,e⟩:=qoM (M:=c::l) (n:=l.length) (by simp);exact ⟨b::L,B,by rw [e];rfl⟩
theorem LR.init{M:List qR}{M':List Level}(h:LR M M'):LR (M++[[]]) (M'++[[]]) where
 len:=by simp [h.len]
 rel:=λl s=>by
  have key:=h.rel l s;unfold qaK qaV at key ⊢;have hl:=h.len;by_cases e:l<M.length
  ·rw [qh e,qh (by omega)];exact key
  ·rw [List.getElem?_append_right (by omega),List.getElem?_append_right (by omega),hl];cases l-M.length with
   |zero=>simp [qaf,qz,RB]
   |succ n=>simp [RB]
 nd:=λb hb=>by
  simp only [qk,List.mem_singleton]at hb;rcases hb with hb|rfl
  ·exact h.nd b hb
  ·simp
 mp:=λl s c hc hlt=>by
  have key:=h.mp l s c;unfold qaV at key hc;by_cases e:l<M'.length
  ·rw [qh e]at hc;exact key hc hlt
  ·rw [List.getElem?_append_right (by omega)]at hc;cases hm:l-M'.length with
   |zero=>rw [hm]at hc;simp [qz]at hc
   |succ n=>rw [hm]at hc;simp at hc
theorem LR.front{M:List qR}{M':List Level}{b:qR}{b':Level}(h:LR (M++[b]) (M'++[b'])):LR M M' where
 len:=by have:=h.len;simp at this;exact this
 rel:=λl s=>by
  have hl:M'.length=M.length:=by have:=h.len;simp at this;exact this
  have key:=h.rel l s;unfold qaK qaV at key ⊢;by_cases e:l<M.length
  ·rw [qh e,qh (by omega)]at key;exact key
  ·rw [List.getElem?_eq_none (by omega),List.getElem?_eq_none (by omega)];rfl
 nd:=λc hc=>h.nd c (by simp [hc])
 mp:=λl s c hc hlt=>by
  have key:=h.mp l s c;unfold qaV at key hc;by_cases e:l<M'.length
  ·rw [qh e]at key;exact key hc hlt
  ·rw [List.getElem?_eq_none (by omega)]at hc;cases hc
theorem qBj(st:TSt)(r:Root)(v:TV):(st.qtC r v).all=st.all.modify r.lvl (λb=>qzX b r.slot (some [v])):=qmk st r [v]
theorem qw7{st:TSt}{s:St}(hs:Rst st s){r:Root}{c0:List TV}(hb:st.cont r=some c0){x:LoopState}{pe:Option Code}{g:FuncId}{env:List TV}{env':List V}{ps:List Tmp}{a b:Code}(he:RVL env env') :
  Rst (st.qtC r (.lp x pe g env ps a b)) (s.qu r [.lp x pe g env' ps a b]):=by
 have e1:(st.qtC r (.lp x pe g env ps a b)).E=st.E:=(show (st.qu r [_]).E=st.E by unfold TSt.qu;split<;>rfl)
 have e2:(s.qu r [.lp x pe g env' ps a b]).E=s.E:=by unfold St.qu;split<;>rfl
 refine ⟨by rw [e1,e2];exact hs.E,?_⟩;rw [qBj,qtB];exact LR.qu hs.M _ _ (by rw [qf1 hb];simp) ⟨env',rfl,he⟩ (λ_=>rfl)
theorem qr7(st:TSt)(r:Root)(v:TV)(q:Root)(h:(st.cont q).isSome=true):((st.qtC r v).cont q).isSome=true:=qkm st r [v] q h
theorem quR{st:TSt}{s:St}(hs:Rst st s){r:Root}{x:LoopState}{pe:Option Code}{g:FuncId}{env:List TV}{ps:List Tmp}{a b:Code}(h:st.cont r=some [.lp x pe g env ps a b]) :
  ∃env',s.box r=some [.lp x pe g env' ps a b]/\RVL env env':=by
 have:=hs.M.rel r.lvl r.slot;rw [qf1 h]at this;obtain ⟨c',h1,env',rfl,h2⟩:=this;exact ⟨env',by rw [qT];exact h1,h2⟩
theorem qtQ:∀{E:Env} {E':List V} {ps:List Tmp} {asz:List TV} {vs:List V},RVL E.toL E'->RVL asz vs->RVL (qmn E ps asz).toL (qgx E' ps vs)
 |E,E',[],asz,vs,hE,ha=>by
  cases asz with
  |nil=>simp only [RVL]at ha;subst ha;exact hE
  |cons a asz=>simp only [RVL]at ha;obtain ⟨v,m,rfl,_⟩:=ha;exact hE
 |E,E',t::ps,[],vs,hE,ha=>by simp only [RVL]at ha;subst ha;exact hE
 |E,E',t::ps,a::asz,vs,hE,ha=>by
  simp only [RVL]at ha;obtain ⟨v,m,rfl,h1,h2⟩:=ha;simp only [qmn,qgx];exact qtQ (by rw [qfI];exact RVL.set _ hE h1) h2
theorem qGZ{E:List V}{L:List Level}{B:Level}{q:Root}(h:q.lvl<L.length):({E,L,B}:St).box q=qaV L q.lvl q.slot:=by
 rw [qT];unfold qaV qeo;simp only
 rw [qh h]
theorem qDB(hO:OOk P H lib O){d:Tmp}{r:Root}{args:List TV}{args':List V}{st:TSt}{s:St}{R:Type}{k:TV->TSt->Option R}{res:R}
  (ha:RVL args args') (hs:Rst st s) (h:qDA O ctx d r args st R k=some res) :
  ∃v st' u s',k v st'=some res/\Ev (λC=>qnJ C r args' s=some (u,s')) P H lib/\RV v u/\Rst st' s'/\Fr2 st st' s s'/\st'.E=st.E/\s'.E=s.E:=by
 unfold qDA at h;split at h
 ·rename_i g env ps asz bo hc1;obtain ⟨env',hb1,hre⟩:=quR hs hc1;split at h
  ·cases h
  ·rename_i hlen;have hlen':¬ args'.length≠ps.length:=by rw [ha.length];exact hlen
   have hE0:RVL (qmn (Env.qji env env.length) ps (dullL args)).toL (qgx env' ps (args'.map V.hand)):=by
    refine qtQ ?_ (ha.quz qn0 rfl);rw [qoT];simpa using hre
   have h0:Rst {E:=qmn (Env.qji env env.length) ps (dullL args),L:=st.L++[st.B],B:=[],Wt:=.empty,Wb:=[]} {E:=qgx env' ps (args'.map V.hand),L:=s.L++[s.B],B:=[]}:=⟨hE0,hs.M.init⟩
   obtain ⟨e1,t2,s2,hev1,hR2,hF2,h⟩:=hO.code _ _ _ _ _ _ _ _ _ h h0;cases e1 with
   |exit id=>cases h
   |ret=>cases h
   |normal =>
    simp only at h;split at h
    ·rename_i g2 env2 ps2 as2 bo2 hc2;obtain ⟨env2',hb2,hre2⟩:=quR hR2 hc2;have hset:=qw7 hR2 hc2 (x:=.busy) (pe:=none) (g:=g2) (ps:=ps2) (a:=as2) (b:=bo2) hre2;obtain ⟨e3,t3,s3,hev2,hR3,hF3,h⟩:=hO.code _ _ _ _ _ _ _ _ _ h hset;split at h
     ·rename_i x9 pe9 g3 env3 ps3 as3 bo3 hc3;obtain ⟨env3',hb3,hre3⟩:=quR hR3 hc3;have hset3:=qw7 hR3 hc3 (x:=if e3.code.isNone then .ready else .done) (pe:=e3.code) (g:=g3) (ps:=ps3) (a:=as3) (b:=bo3) hre3;split at h
      ·rename_i L B hsp;have hL3:=qiS hsp;split at h
       ·rename_i hL;have hlen0:=hs.len;have hlA:(s3.qu r [.lp (if e3.code.isNone then .ready else .done) e3.code g3 env3' ps3 as3 bo3]).L.length=L.length+1:=by
         have:=hset3.len;rw [hL3]at this;rw [this];simp
        obtain ⟨L',B',hL3'⟩:=qoM hlA;have hL':L'.length=s.L.length:=by rw [hL3']at hlA;simp at hlA;omega
        have hs3L:s3.L.length=s.L.length+1:=by
         have:=hF3.len;have:=hF2.len;have e9:(s2.qu r [.lp .busy none g2 env2' ps2 as2 bo2]).L.length=s2.L.length:=by unfold St.qu;split<;>simp
         simp only [List.length_append,List.length_singleton]at *;omega
        have ht2:∀q,q∉t3.Wb->q∉t2.Wb:=λq hq hh=>hq (hF3.wb q hh);have hbig:s2.L.length=s.L.length+1:=by have:=hF2.len;simpa using this
        have same2:∀q,q∉t3.Wb->s2.box q=({E:=qgx env' ps (args'.map V.hand),L:=s.L++[s.B],B:=[]}:St).box q:=λq hq=>by
         rcases hF2.b q (ht2 q hq)with h9|⟨h9,_⟩
         ·exact h9
         ·simp at h9
        have same3:∀q,q∉t3.Wb->s3.box q=(s2.qu r [.lp .busy none g2 env2' ps2 as2 bo2]).box q:=λq hq=>by
         rcases hF3.b q hq with h9|⟨h9,_⟩
         ·exact h9
         ·have e9:(s2.qu r [.lp .busy none g2 env2' ps2 as2 bo2]).L.length=s2.L.length:=by unfold St.qu;split<;>simp
          omega
        have low:∀q:Root,q.lvl<=s.L.length->({E:=qgx env' ps (args'.map V.hand),L:=s.L++[s.B],B:=[]}:St).box q=s.box q:=λq hq=>by
         rw [qGZ (by simp;omega),qT];rfl
        have hfin:∀q:Root,q.lvl<=s.L.length->({s with L:=L',B:=B'}:St).box q=(s3.qu r [.lp (if e3.code.isNone then .ready else .done) e3.code g3 env3' ps3 as3 bo3]).box q:=λq hq=>by
         rw [qT,qT];unfold qaV qeo;simp only
         rw [hL3',qh (l₁:=L'++[B']) (by simp;omega)]
        refine ⟨_,_,.val (.bool e3.code.isNone),{s with L:=L',B:=B'},h,((hev1.and hev2)).imp λC ⟨hC1,hC2⟩=>?_,by simp [RV,RTy],⟨hs.E,?_⟩,⟨λt ht=>ht,λq hq=>by simp [hq],λt ht=>.inl rfl,λt ht rs hE=>⟨rs,hE⟩,λq hq=>.inl ?_,λq hq hsm=>?_,hL',rfl⟩,rfl,rfl⟩
        ·unfold qnJ;rw [hb1];simp only
         rw [if_neg hlen',hC1];simp only
         rw [hb2];simp only
         rw [hC2];simp only
         rw [hb3];simp only
         rw [hL3',qiT];simp only [hL',if_true]
        ·have h9:=LR.front hset3.M;rw [hL3,hL3']at h9;exact h9
        ·simp only [qk,not_or]at hq;obtain ⟨hq0,hq3,_⟩:=hq;by_cases hlv:q.lvl<=s.L.length
         ·rw [hfin q hlv,qab];by_cases e:q=r
          ·subst e;rw [if_pos rfl,hb3];have hx:e3.code.isNone=true:=by
            cases hx:e3.code.isNone with
            |true=>rfl
            |false=>rw [hx]at hq0;simp at hq0
           have k2:=same2 q hq3;rw [low q hlv,hb1,hb2]at k2;have k3:=same3 q hq3;rw [qab,if_pos rfl,hb2,hb3]at k3;simp only [qj,qb,List.cons.injEq,V.lp.injEq,and_true,true_and]at k2 k3;obtain ⟨a1,a2,a3,a4,a5⟩:=k2;obtain ⟨_,_,b1,b2,b3,b4,b5⟩:=k3;subst a1 a2 a3 a4 a5 b1 b2 b3 b4 b5;rw [hx,hb1];simp only [qj,if_true,Option.isNone_iff_eq_none.1 hx]
          ·rw [if_neg e,same3 q hq3,qab,if_neg e,same2 q hq3,low q hlv]
         ·rw [qT,qT];unfold qaV qeo;simp only
          rw [List.getElem?_eq_none (by simp;omega),List.getElem?_eq_none (by simp;omega)]
        ·simp only [qk,not_or]at hq;obtain ⟨hq0,hq3,_⟩:=hq;have hlv:q.lvl<(st.L++[st.B]).length:=by
          obtain ⟨c,hc⟩:=Option.isSome_iff_exists.1 hsm;have:=qf1 hc;unfold qaK TSt.all at this;cases hM0:(st.L++[st.B])[q.lvl]? with
          |none=>rw [hM0]at this;cases this
          |some b=>exact (qn.1 hM0).1
         have i0:(({E:=qmn (Env.qji env env.length) ps (dullL args),L:=st.L++[st.B],B:=[],Wt:=.empty,Wb:=[]}:TSt).cont q).isSome=true:=by
          rw [qbA]at hsm ⊢;unfold qaK TSt.all at hsm ⊢;simp only at hsm ⊢;rw [qh hlv];exact hsm
         have i1:=hF2.bn q (ht2 q hq3) i0;have i2:=qr7 t2 r (.lp .busy none g2 env2 ps2 as2 bo2) q i1;have i3:=hF3.bn q hq3 i2;have i4:=qr7 t3 r (.lp (if e3.code.isNone then .ready else .done) e3.code g3 env3 ps3 as3 bo3) q i3;rw [qbA]at i4 ⊢;unfold qaK TSt.all at i4 ⊢;rw [hL3,qh (l₁:=L++[B]) (by simp at hlv ⊢;omega)]at i4;exact i4
       ·cases h
      ·cases h
     ·cases h
    ·cases h
 ·cases h
theorem qvH(hT:TOk P H lib T)(hO:OOk P H lib O){d:Tmp}{fv:TV}{fv':V}{args:List TV}{args':List V}{st:TSt}{s:St}{R:Type}{k:TV->TSt->Option R}{r:R}
  (hf:RV fv fv') (ha:RVL args args') (hs:Rst st s) (h:qsI H J T O ctx f d fv args st R k=some r) :
  ∃v st' u s',k v st'=some r/\Ev (λC=>qjk C fv' args' s=some (u,s')/\qdp C fv'=qfE H fv) P H lib/\RV v u/\Rst st' s'/\Fr2 st st' s s'/\st'.E=st.E/\s'.E=s.E/\qe6 fv' args'=qit fv args:=by
 unfold qsI at h;split at h
 ·rename_i g first cap;simp only [RV]at hf;obtain ⟨first',cap',rfl,hf1,hc1⟩:=hf;have hall:RVL (first++args++cap) (first'++args'++cap'):=(hf1.append ha).append hc1;split at h
  ·rename_i hk;have hpt:=RVL.ptrs_eq _ _ hk hall;have hpure:qe6 (.fn g first' cap') args'=qit (.fn g first cap) args:=by
    simp only [qe6,qit,hpt]
   split at h
   ·rename_i hp;have hp':(ptrsL (first'++args'++cap')).isEmpty=true:=by rw [hpt];exact hp
    have hshare:RVL (shareL (first++args++cap)) ((first'++args'++cap').map V.share):=by
     have:=RVL.share _ _ hall;rw [qbC]at this;exact this
    have fin:∀{x:TV} {v:V},k (if tightL (first++args++cap)then x else x.qbX) st=some r->RV x v->qyU P H lib g ((first'++args'++cap').map V.share) [] v [] ->
      ∃v st' u s',k v st'=some r/\Ev (λC=>qjk C (.fn g first' cap') args' s=some (u,s')/\qdp C (.fn g first' cap')=qfE H (.fn g first cap)) P H lib/\RV v u/\Rst st' s'/\Fr2 st st' s s'/\st'.E=st.E/\s'.E=s.E/\qe6 (.fn g first' cap') args'=qit (.fn g first cap) args:=by
     intro x v hkx hr hev;refine ⟨if tightL (first++args++cap)then x else x.qbX,st,if looseL (first'++args'++cap')=true then v.qbX else v,s,hkx,(hev.and Ev.qlu).imp λC ⟨hC,hCp⟩=>?_,?_,hs,Fr2.refl _ _,rfl,rfl,hpure⟩
     ·refine ⟨?_,by simp only [qdp,qfE,hCp]⟩;show qho C g (first'++args'++cap') s=_;unfold qho;rw [if_pos hp',hC]
     ·cases htg:tightL (first++args++cap)with
      |true =>
       rw [RVL.tight _ _ htg hall];simpa using hr
      |false =>
       simp only [qf,if_false];split
       ·exact RV.lo qvT _ _ hr
       ·exact hr.lo0
    split at h
    ·obtain ⟨x,N,wb,v,N',hkx,hr,hN,hlen,_,hev⟩:=hO.call _ _ _ _ _ _ _ _ [] h hshare ⟨rfl,λl s=>by simp [qaK,qaV,RB],by simp,λl s c h=>by simp [qaV]at h⟩;have hN0:N=[]:=List.eq_nil_of_length_eq_zero (by rw [hlen];rfl);subst hN0;have hN0':N'=[]:=List.eq_nil_of_length_eq_zero (by rw [hN.len];rfl);subst hN0';exact fin hkx hr hev
    ·obtain ⟨x,v,hkx,hr,hev⟩:=hT _ _ _ _ _ _ h hshare;exact fin hkx hr hev
   ·rename_i hp;have hp':¬ (ptrsL (first'++args'++cap')).isEmpty=true:=by rw [hpt];exact hp
    split at h
    ·rename_i hpk;split at h
     ·rename_i xs hxs;split at h
      ·rename_i hxp;obtain ⟨us,hus,hru⟩:=peekTL_ok (bt:=st.box) (bx:=s.box) (λr c hc=>by
        obtain ⟨c',h1,h2⟩:=hs.box hc;exact ⟨c',h1,h2,λhlt=>hs.M.mp r.lvl r.slot c' (by rw [<- qT];exact h1) hlt⟩) _ _ _ hxs hall
       obtain ⟨x,v,hkx,hr,hev⟩:=hT _ _ _ _ _ _ h hru;split at hkx
       ·rename_i hmine;refine ⟨x,st,v,s,hkx,(hev.and Ev.qlu).imp λC ⟨hC,hCp⟩=>⟨?_,by simp only [qdp,qfE,hCp]⟩,hr,hs,Fr2.refl _ _,rfl,rfl,hpure⟩;show qho C g (first'++args'++cap') s=_;have hup:(ptrsL us).isEmpty=true:=by
         rw [List.isEmpty_iff,List.eq_nil_iff_forall_not_mem];intro q hq;have:=RVL.qv _ _ hru q hq;rw [List.isEmpty_iff]at hxp;rw [hxp]at this;cases this
        unfold qho;rw [if_neg hp',hCp,if_pos hpk,hus];simp only [hup,if_true,hC,RV.qd0 x v hmine hr]
       ·cases hkx
      ·cases h
     ·cases h
    rename_i hpk;have hdull:RVL (dullL (first++args++cap)) ((first'++args'++cap').map V.hand):=hall.quz qn0 rfl;obtain ⟨x,N,wb,v,N',hkx,hr,hN,hlen,hfr,hev⟩:=hO.call _ _ _ _ _ _ _ _ (s.L++[s.B]) h hdull hs.M;split at hkx
    ·rename_i L B hsp;have hNe:=qiS hsp;subst hNe;split at hkx
     ·rename_i hL;obtain ⟨L',B',rfl⟩:=qoM (M:=N') (n:=L.length) (by rw [hN.len];simp);have hL':L'.length=s.L.length:=by have:=hN.len;have:=hs.len;simp at *;omega
      refine ⟨x,_,v,{s with L:=L',B:=B'},hkx,(hev.and Ev.qlu).imp λC ⟨hC,hCp⟩=>?_,hr,⟨hs.E,hN⟩,⟨λt ht=>ht,λq hq=>by simp [hq],λt ht=>.inl rfl,λt ht rs hE=>⟨rs,hE⟩,λq hq=>.inl ?_,λq hq hsm=>?_,hL',rfl⟩,rfl,rfl,hpure⟩
      ·refine ⟨?_,by simp only [qdp,qfE,hCp]⟩;show qho C g (first'++args'++cap') s=_;unfold qho;rw [if_neg hp',hCp,if_neg hpk,hC];simp only [qiT,hL',if_true]
      ·rw [qT,qT];simp only [qk,not_or]at hq;exact (hfr q.lvl q.slot hq.1).1
      ·simp only [qk,not_or]at hq;obtain ⟨c,hc⟩:=Option.isSome_iff_exists.1 hsm;obtain ⟨c',hc'⟩:=(hfr q.lvl q.slot hq.1).2 c (qf1 hc);rw [qbA];show (match qaK (L++[B]) q.lvl q.slot with
        |some (some c)=>some c
        |_=>none).isSome=true
       rw [hc'];rfl
     ·cases hkx
    ·cases hkx
  ·cases h
 ·rename_i q;simp only [RV]at hf;subst hf;obtain ⟨v,st',u,s',h1,h2,h3,h4,h5,h6,h7⟩:=qDB hO ha hs h;exact ⟨v,st',u,s',h1,h2.imp λC hC=>⟨hC,rfl⟩,h3,h4,h5,h6,h7,rfl⟩
 ·cases h
theorem qhf{x:TV}{ys:List V}(h:RVL [x] ys):∃v,ys=[v]/\RV x v:=by
 simp only [RVL]at h;obtain ⟨v,m,rfl,h1,rfl⟩:=h;exact ⟨v,rfl,h1⟩
def qB5(P:Program)(H:Hints)(f:FuncId)(o:Oper)(xs:List TV)(st:TSt)(R:Type)(k:TV->TSt->Fp->Option R):Option R :=
 if qmJ o.op xs then quy P H f o xs st R k else match qoE o.op xs with
  |none=>qef P H f (qax H f o) o.op xs none R λv c=>match c with
   |none=>k v st .none
   |some _=>none
  |some r=>if 16384<=r.slot then none else qef P H f (qax H f o) o.op xs (st.box r) R λv c=>match c with
   |none=>k v st (.root r (qde P o.op xs).1 (qde P o.op xs).2 false)
   |some c=>if (qAd o.op xs).all (λp=>decide (p.lvl<=r.lvl))&&decide ((qde P o.op xs).1+(qde P o.op xs).2<=c.length)then k v (st.qu r c) (.root r (qde P o.op xs).1 (qde P o.op xs).2 true)else none
theorem qyC{o:Oper}(h:qlk o.op=true)(xs:List TV)(st:TSt)(R:Type)(k:TV->TSt->Fp->Option R):qpl P H J T O ctx f o xs st R k=qB5 P H f o xs st R k:=by
 unfold qpl;split
 ·rename_i hop;rw [hop]at h;simp [qlk]at h
 ·rename_i hop;rw [hop]at h;simp [qlk]at h
 ·rename_i hop;rw [hop]at h;simp [qlk]at h
 ·rfl
theorem qyB{o:Oper}{c:Call}{fo:Operand}(hop:o.op=.call c)(hc:c.callee=.value fo)(xs:List TV)(st:TSt)(R:Type)(k:TV->TSt->Fp->Option R) :
  qpl P H J T O ctx f o xs st R k=match xs with
   |fv::args=>if quk H fv args then qFY H O ctx o.dst fv args st R k else qsI H J T O ctx f (o.dst.getD 0) fv args st R λv s=>k v s (if qit fv args then .none else if qfE H fv then .looks else .all)
   |[]=>none:=by
 unfold qpl;obtain ⟨cal,a1,a2⟩:=c;simp only at hc;subst hc;simp only [hop];cases xs<;>rfl
theorem LR.push{M:List qR}{M':List Level}{b:qR}{b':Level}{d:Nat}{c:List TV}{c':List V}(h:LR (M++[b]) (M'++[b']))(hl:M'.length=M.length)(hd:qaf b d=none)(hc:RC c c')(hmp:d<16384->qjn c'=false):LR (M++[(d,some c)::b]) (M'++[qel d c' b']):=by
 have hkey:∀k,RB (qaf b k) (qz b' k):=λk=>by
  have:=h.rel M.length k;unfold qaK qaV at this;rw [List.getElem?_append_right (Nat.le_refl _),<- hl,List.getElem?_append_right (Nat.le_refl _)]at this;simpa using this
 have hnone:qz b' d=none:=by
  have h2:=hkey d;rw [hd]at h2;exact h2
 refine ⟨by simp [hl],λl k=>?_,λq hq=>?_,λl k c2 h2 hlt=>?_⟩
 rotate_right
 ·have key:=h.mp l k;unfold qaV at key h2;by_cases e:l<M'.length
  ·rw [qh e]at key h2;exact key c2 h2 hlt
  ·rw [List.getElem?_append_right (by omega)]at key h2;cases hm:l-M'.length with
   |zero =>
    rw [hm]at key h2;simp only [List.getElem?_cons_zero]at key h2;by_cases e2:d=k
    ·subst e2;rw [qkD hnone]at h2;simp only [if_true,qb]at h2;subst h2;exact hmp hlt
    ·rw [qcQ e2]at h2;exact key c2 h2 hlt
   |succ n=>rw [hm]at h2;simp at h2
 ·have key:=h.rel l k;unfold qaK qaV at key ⊢;by_cases e:l<M.length
  ·rw [qh e,qh (by omega)]at key ⊢;exact key
  ·rw [List.getElem?_append_right (by omega),List.getElem?_append_right (by omega),hl]at key ⊢;cases hm:l-M.length with
   |zero =>
    simp only [List.getElem?_cons_zero];by_cases e2:d=k
    ·subst e2;simp only [qaf,qkD hnone,if_true];exact ⟨c',rfl,hc⟩
    ·simp only [qaf,qcQ e2,if_neg e2];exact hkey k
   |succ n=>simp [RB]
 ·simp only [qk,List.mem_singleton]at hq;rcases hq with hq|rfl
  ·exact h.nd q (by simp [hq])
  ·exact qs4 hnone (h.nd b' (by simp))
theorem qkE{st:TSt}{s:St}(hs:Rst st s){d:Nat}(h:qaf st.B d=none):qz s.B d=none:=by
 have:=hs.M.rel st.L.length d;unfold qaK qaV at this;have e1:st.all[st.L.length]?=some st.B:=by simp [TSt.all]
 have e2:(qeo s)[st.L.length]?=some s.B:=by rw [<- hs.len];simp [qeo]
 rw [e1,e2]at this;simp only at this;rw [h]at this;exact this
theorem qym{st:TSt}{s:St}(hs:Rst st s){d:Nat}{c:List TV}{c':List V}(hd:qaf st.B d=none)(hc:RC c c')(hmp:d<16384->qjn c'=false) :
  Rst {st with B:=(d,some c)::st.B,Wb:=⟨st.L.length,d⟩::st.Wb} {s with B:=qel d c' s.B}/\Fr2 st {st with B:=(d,some c)::st.B,Wb:=⟨st.L.length,d⟩::st.Wb} s {s with B:=qel d c' s.B}:=by
 refine ⟨⟨hs.E,LR.push hs.M hs.len hd hc hmp⟩,⟨λt ht=>ht,λr hr=>by simp [hr],λt ht=>.inl rfl,λt ht rs hE=>⟨rs,hE⟩,λr hr=>.inl ?_,λr hr hsm=>?_,rfl,rfl⟩⟩
 case refine_2 =>
  simp only [qm,not_or]at hr;obtain ⟨l,sl⟩:=r;unfold TSt.cont at hsm ⊢;simp only at hsm ⊢;by_cases e:l=st.L.length
  ·rw [if_pos e]at hsm ⊢;have:d≠sl:=λe2=>hr.1 (by rw [e2,e]);simp only [qaf,if_neg this];exact hsm
  ·rw [if_neg e]at hsm ⊢;exact hsm
 simp only [qm,not_or]at hr;obtain ⟨l,sl⟩:=r;rw [qT,qT];unfold qaV qeo;simp only
 have hlen:=hs.len;by_cases e:l<s.L.length
 ·rw [qh e,qh e]
 ·rw [List.getElem?_append_right (by omega),List.getElem?_append_right (by omega)];cases hm:l-s.L.length with
  |zero =>
   simp only [List.getElem?_cons_zero];have:d≠sl:=λe2=>hr.1 (by rw [e2];congr 1;omega);rw [qcQ this]
  |succ n=>simp
theorem qsf(st:TSt)(r:Root)(c:List TV):(st.qu r c).E=st.E/\(st.qu r c).Wt=st.Wt/\(st.qu r c).Wb=r::st.Wb/\(st.qu r c).L.length=st.L.length:=by
 unfold TSt.qu;split<;>simp
theorem qhI(s:St)(r:Root)(c:List V):(s.qu r c).E=s.E/\(s.qu r c).L.length=s.L.length:=by
 unfold St.qu;split<;>simp
theorem qr5{st:TSt}{s:St}(hs:Rst st s){r:Root}{c0 c:List TV}{c':List V}(hb:st.box r=some c0)(hc:RVL c c')(hmp:r.slot<16384->qjn c'=false):Rst (st.qu r c) (s.qu r c')/\Fr2 st (st.qu r c) s (s.qu r c'):=by
 obtain ⟨e1,e2,e3,e4⟩:=qsf st r c;obtain ⟨e5,e6⟩:=qhI s r c';refine ⟨⟨by rw [e1,e5];exact hs.E,?_⟩,⟨λt ht=>by rw [e2];exact ht,λq hq=>by rw [e3];simp [hq],λt ht=>.inl (by rw [e5]),λt ht rs hE=>⟨rs,by rw [<- e1];exact hE⟩,λq hq=>.inl ?_,λq hq hsm=>qkm st r c q hsm,e6,by rw [e5]⟩⟩
 ·rw [qmk,qtB];exact LR.qu hs.M _ _ (by rw [qt4 hb];simp) hc.rc hmp
 ·rw [e3]at hq;simp only [qm,not_or]at hq;rw [qab,if_neg hq.1]
theorem qzp{x:V}(h:x.oks=true):qjn x.cells=false:=by
 unfold V.oks at h;cases hc:x.cells with
 |nil=>rfl
 |cons y l =>
  rw [hc]at h;simp only [List.all_cons,qe]at h;cases y<;>first|rfl|(simp [V.one]at h)
theorem qh8{x:V}{l m:List V}:qjn (x::l)=qjn (x::m):=by cases x<;>rfl
theorem qqQ{cs ys:List V}{off:Nat}(h1:qjn cs=false)(h2:off=0\/cs=[]->qjn ys=false):qjn (qV cs off ys)=false:=by
 unfold qV;cases off with
 |zero =>
  simp only [List.take_zero,List.nil_append,Nat.zero_add];cases ys with
  |nil=>simpa using h1
  |cons y l=>rw [List.cons_append,qh8 (m:=l)];exact h2 (.inl rfl)
 |succ n =>
  cases cs with
  |nil=>simpa using h2 (.inr rfl)
  |cons c l=>simp only [List.take_succ_cons,List.cons_append];rw [qh8 (m:=l)];exact h1
theorem qx1{g:Fl->Fl}{l:List V}(h:qjn l=false):qjn (reflagL g l)=false:=by
 cases l with
 |nil=>rfl
 |cons x l=>cases x with
  |mp=>simp [qjn]at h
  |room s n =>
   simp only [reflagL,V.reflag];by_cases h1:g .own=.own
   ·rw [if_pos h1];rfl
   ·rw [if_neg h1];by_cases h2:n=0
    ·rw [if_pos h2];rfl
    ·rw [if_neg h2];rfl
  |_=>rfl
theorem qFl{tk:Bool}{o:Op}{ty:TypeId}{ys:List V}{q:Root}{bx:Option (List V)}{u:V}{c':List V}(hr:rootOf o ys=some q)(hb:∀c,bx=some c->qjn c=false)
  (h:qbv P H f tk o ty ys bx=some (u,some c')):qjn c'=false:=by
 obtain ⟨off,rest,rfl,⟨t,a,rfl⟩|⟨t,a,x,rfl⟩⟩:=qcU hr
 ·cases rest with
  |nil =>
   simp only [qbv]at h;split at h
   ·rename_i cs;split at h
    ·cases h
    ·split at h
     ·obtain ⟨y,_,he⟩:=qc.1 h;cases he;refine qqQ (hb cs rfl) λh0=>qx1 ?_;have h9:=hb cs rfl;cases cs with
      |nil=>simp [qjn]
      |cons c l =>
       rcases h0 with h0|h0
       ·subst h0;simp only [List.drop_zero];cases (if q8 P t=true then P.cellsOf t else 1)with
        |zero=>rfl
        |succ n=>simp only [List.take_succ_cons];rw [qh8 (m:=l)];exact h9
       ·cases h0
     ·obtain ⟨y,_,he⟩:=qc.1 h;cases he
   ·cases h
  |cons y l=>simp [qbv]at h
 ·match rest,h with
  |[y],h =>
   simp only [qbv]at h;split at h
   ·rename_i cs;split at h
    ·rename_i hc;simp only [qb,Prod.mk.injEq]at h;obtain ⟨_,rfl⟩:=h;exact qqQ (hb _ rfl) λ_=>qzp hc.2.2.2.2
    ·cases h
   ·cases h
  |[],h=>simp [qbv]at h
  |_::_::_,h=>simp [qbv]at h
theorem qAJ{op:Op}{xs:List TV}{ys:List V}(hx:RVL xs ys)(h:qmJ op xs=true):qew op ys=true:=by
 unfold qmJ at h;split at h
 ·rfl
 ·rfl
 ·rfl
 ·rfl
 ·simp only [RVL]at hx;obtain ⟨v,m,rfl,h1,rfl⟩:=hx;simp only [RV]at h1;subst h1;rfl
 ·cases h
theorem qAK{op:Op}{xs:List TV}{ys:List V}(hx:RVL xs ys)(hn:¬ qmJ op xs=true)(hm:qew op ys=true) :
  qoE op xs=none/\∀tk bx (R:Type) (k:TV->Option (List TV)->Option R),qef P H f tk op xs bx R k=none:=by
 unfold qew at hm;split at hm
 ·exact absurd rfl hn
 ·exact absurd rfl hn
 ·exact absurd rfl hn
 ·exact absurd rfl hn
 ·rename_i args argTypes q
  match xs,hx with
  |[x],hx =>
   obtain ⟨v,hv,hr⟩:=qhf hx;cases hv;cases x with
   |any rs=>exact ⟨rfl,λ_ _ _ _=>rfl⟩
   |mref r=>exact absurd rfl hn
   |t τ o x=>cases τ<;>simp [RV,RTy]at hr
   |_=>simp [RV]at hr
  |[],hx=>simp [RVL]at hx
  |x::y::l,hx =>
   have:=hx.length;simp at this
 ·cases hm
theorem qyd{o:Oper}{xs:List TV}{ys:List V}{st:TSt}{s:St}{R:Type}{k:TV->TSt->Fp->Option R}{r:R}(hx:RVL xs ys)(hs:Rst st s)(h:quy P H f o xs st R k=some r) :
  ∃v st' fp u s',k v st' fp=some r/\mapStep P H f o ys s=some (u,s',fp)/\RV v u/\Rst st' s'/\Fr2 st st' s s'/\st'.E=st.E/\s'.E=s.E:=by have h:(none:Option R)=some r:=h;cases h
theorem qEu(hO:OOk P H lib O){d:Option Tmp}{fv:TV}{fv':V}{args:List TV}{args':List V}{st:TSt}{s:St}{R:Type}{k:TV->TSt->Fp->Option R}{r:R}
  (hf:RV fv fv') (ha:RVL args args') (hs:Rst st s) (h:qEt O ctx d fv args st R k=some r) :
  ∃v st' fp u s',k v st' fp=some r/\Ev (λC=>qyP C d fv' args' s=some (u,s',fp)) P H lib/\RV v u/\Rst st' s'/\Fr2 st st' s s'/\st'.E=st.E/\s'.E=s.E:=by have h:(none:Option R)=some r:=h;cases h
theorem qAD{n:Nat}{q:Root}{c:List TV}(l sl:Nat):qaK (qCt n q c) l sl=if l=q.lvl/\sl=q.slot/\l<n then some (some c)else none:=by
 unfold qaK qCt;simp only [List.getElem?_map];by_cases hl:l<n
 ·rw [List.getElem?_range hl];simp only [qj];by_cases h1:l=q.lvl
  ·rw [if_pos h1];simp only [qaf];by_cases h2:q.slot=sl
   ·rw [if_pos h2,if_pos ⟨h1,h2.symm,hl⟩]
   ·rw [if_neg h2,if_neg (λe=>h2 e.2.1.symm)]
  ·rw [if_neg h1,if_neg (λe=>h1 e.1)];rfl
 ·rw [List.getElem?_eq_none (by simp;omega),if_neg (λe=>hl e.2.2)];rfl
theorem qs1{n:Nat}{q:Root}{c:List V}(l sl:Nat):qaV (qn4 n q c) l sl=if l=q.lvl/\sl=q.slot/\l<n then some c else none:=by
 unfold qaV qn4;simp only [List.getElem?_map];by_cases hl:l<n
 ·rw [List.getElem?_range hl];simp only [qj];by_cases h1:l=q.lvl
  ·rw [if_pos h1];simp only [qz];by_cases h2:q.slot=sl
   ·rw [if_pos h2,if_pos ⟨h1,h2.symm,hl⟩]
   ·rw [if_neg h2,if_neg (λe=>h2 e.2.1.symm)]
  ·rw [if_neg h1,if_neg (λe=>h1 e.1)];rfl
 ·rw [List.getElem?_eq_none (by simp;omega),if_neg (λe=>hl e.2.2)];rfl
theorem qCW(hO:OOk P H lib O){d:Tmp}{g:FuncId}{args:List TV}{args':List V}{q:Root}{st:TSt}{s:St}{R:Type}{k:TV->TSt->Option R}{r:R}
  (ha:RVL args args') (hs:Rst st s) (h:qCV O ctx d g args q st R k=some r) :
  ∃v st' u s',k v st'=some r/\Ev (λC=>qiz C g args' q s=some (u,s')) P H lib/\RV v u/\Rst st' s'/\Fr2 st st' s s'/\st'.E=st.E/\s'.E=s.E:=by
 unfold qCV at h;split at h
 ·rename_i τ o l hb;obtain ⟨c',hc',hcr⟩:=hs.box hb;obtain ⟨mv,rfl,hmv⟩:=qhf hcr;simp only [RV,RTy]at hmv;obtain ⟨hkt,rfl⟩:=hmv;have hsl:¬ q.slot<16384:=λhlt=>by
   have:=hs.M.mp q.lvl q.slot _ (by rw [<- qT];exact hc') hlt;simp [qjn]at this
  have hLR:LR (qCt (st.L.length+1) q [.t (.mset τ) o l]) (qn4 (s.L.length+1) q [.mp (l.map λx=>(qCE τ x,.bool true))]):=by
   refine ⟨by simp [qCt,qn4,hs.len],λl' sl=>?_,λb hb'=>?_,λl' sl c hc hlt=>?_⟩
   ·rw [qAD,qs1,hs.len];split
    ·exact ⟨_,rfl,hcr⟩
    ·rfl
   ·unfold qn4 at hb';obtain ⟨x,_,rfl⟩:=List.mem_map.1 hb';split<;>simp
   ·rw [qs1]at hc;split at hc
    ·rename_i e;exact absurd (by rw [<- e.2.1];exact hlt) hsl
    ·cases hc
  have hdull:RVL (dullL args) (args'.map V.hand):=ha.quz qn0 rfl;obtain ⟨x,N,wb,v,N',hkx,hr,hN,hlen,hfr,hev⟩:=hO.call _ _ _ _ _ _ _ _ _ h hdull hLR;split at hkx
  ·rename_i hc;simp only [qe,Bool.not_eq_true',List.isEmpty_iff]at hc;obtain ⟨⟨hkn,hp⟩,hown⟩:=hc;split at hkx
   ·rename_i τ' o' l' hlk;have hrel:=hN.rel q.lvl q.slot;rw [show qaK N q.lvl q.slot=some (some [.t (.mset τ') o' l'])from hlk]at hrel;obtain ⟨c2,hc2,hcr2⟩:=hrel;obtain ⟨mv2,rfl,hmv2⟩:=qhf hcr2;have hmv2':=hmv2;simp only [RV,RTy]at hmv2';obtain ⟨hkt2,rfl⟩:=hmv2';obtain ⟨hR,hF⟩:=qr5 hs hb (qC.2 ⟨hmv2,qaU⟩) (λhlt=>absurd hlt hsl);have hvo:v.owns=false:=by
     cases hvo:v.owns with
     |false=>rfl
     |true=>rw [RV.owns x v hr hvo]at hown;cases hown
    refine ⟨x,_,v,_,hkx,hev.imp λC hC=>?_,hr,hR,hF,(qsf _ _ _).1,(qhI _ _ _).1⟩;unfold qiz;simp only [hc',hC];rw [if_pos (by rw [RV.ptrs_eq x v hkn hr,hp,hvo];rfl)];rw [show qIo N' q=qaV N' q.lvl q.slot from rfl,hc2]
   ·cases hkx
  ·cases hkx
 ·cases h
theorem quj{fv:TV}{fv':V}{g:FuncId}{a b:List TV}(h:RV (.fn g a b) fv'):qwe H fv'=(H.seq g).isSome:=by
 simp only [RV]at h;obtain ⟨a',b',rfl,_⟩:=h;rfl
theorem qHP{d:Option Tmp}{fv:TV}{fv':V}{args:List TV}{args':List V}{st:TSt}{s:St}{R:Type}{k:TV->TSt->Fp->Option R}{r:R}
  (hf:RV fv fv') (ha:RVL args args') (hs:Rst st s) (h:qJN H d fv args st R k=some r) :
  ∃v st' fp u s',k v st' fp=some r/\Ev (λC=>qBC C d fv' args' s=some (u,s',fp)) P H lib/\RV v u/\Rst st' s'/\Fr2 st st' s s'/\st'.E=st.E/\s'.E=s.E:=by
 unfold qJN at h;split at h
 ·rename_i g first cap d;simp only [RV]at hf;obtain ⟨first',cap',rfl,hf1,hc1⟩:=hf;have hall:RVL (first++args++cap) (first'++args'++cap'):=(hf1.append ha).append hc1;split at h
  ·rename_i o1 str o2 sep hl;rw [hl]at hall;simp only [RVL,RV,RTy]at hall;obtain ⟨_,_,hl',rfl,_,_,rfl,rfl,rfl⟩:=hall;split at h
   ·rename_i clos hc;split at h
    ·rename_i hn;rw [Option.isNone_iff_eq_none]at hn;have hrv:RVL [.t .str 0 str] [.val (.string ⟨str.toArray⟩)]:=qC.2 ⟨by simp only [RV,RTy],qaU⟩;obtain ⟨hR,hF⟩:=qym hs hn (RVL.rc hrv) (λ_=>rfl);refine ⟨_,_,_,.fn clos [] [.cptr .shared [.val (.string ⟨sep.toArray⟩)],.ptr ⟨s.L.length,d⟩ 0,.cptr .shared [.val (.int .i64 0)]],_,h,⟨1,λm hm=>?_⟩,?_,hR,hF,rfl,rfl⟩
     ·obtain ⟨m',rfl⟩:∃m',m=m'+1:=⟨m-1,by omega⟩
      unfold qBC;simp only [hl',qvn,hc];rw [if_pos (by rw [Option.isNone_iff_eq_none];exact qkE hs hn),hs.len]
     ·simp only [RV];exact ⟨[],_,rfl,qaU,qC.2 ⟨by simp only [RV];exact ⟨.shared,_,rfl,by simp,λ_=>rfl,qC.2 ⟨by simp only [RV,RTy],qaU⟩⟩,qC.2 ⟨by simp only [RV,hs.len],qC.2 ⟨by simp only [RV];exact ⟨.shared,_,rfl,by simp,λ_=>rfl,qC.2 ⟨by simp only [RV,RTy],qaU⟩⟩,qaU⟩⟩⟩⟩
    ·cases h
   ·cases h
  ·cases h
 ·cases h
theorem qmI{fv:TV}{fv':V}{g:FuncId}{a b:List TV}(h:RV (.fn g a b) fv'):qmH H fv'=H.born g:=by
 simp only [RV]at h;obtain ⟨a',b',rfl,_⟩:=h;rfl
theorem qFZ(hO:OOk P H lib O){d:Option Tmp}{fv:TV}{fv':V}{args:List TV}{args':List V}{st:TSt}{s:St}{R:Type}{k:TV->TSt->Fp->Option R}{r:R}
  (hf:RV fv fv') (ha:RVL args args') (hs:Rst st s) (h:qFY H O ctx d fv args st R k=some r) :
  qll H fv' args'=true/\∃v st' fp u s',k v st' fp=some r/\Ev (λC=>qle H C d fv' args' s=some (u,s',fp)) P H lib/\RV v u/\Rst st' s'/\Fr2 st st' s s'/\st'.E=st.E/\s'.E=s.E:=by
 unfold qFY at h;split at h
 ·rename_i hbn;have hb':qmH H fv'=true:=by
   cases fv<;>first|(simp [qqM]at hbn;done)|(rw [qmI (fv:=.any []) hf];exact hbn)
  obtain ⟨v,st',fp,u,s',hk,hev,hr,hR,hF,e1,e2⟩:=qEu hO hf ha hs h;refine ⟨by unfold qll;rw [hb'];rfl,v,st',fp,u,s',hk,hev.imp λC hC=>?_,hr,hR,hF,e1,e2⟩;unfold qle;rw [if_pos hb'];exact hC
 rename_i hbn;split at h
 ·rename_i hsq;have hb':qmH H fv'=false:=by
   cases fv<;>first|(simp [qwf]at hsq;done)|(rw [qmI (fv:=.any []) hf];simpa [qqM]using hbn)
  have hs':qwe H fv'=true:=by
   cases fv<;>first|(simp [qwf]at hsq;done)|(rw [quj (fv:=.any []) hf];exact hsq)
  obtain ⟨v,st',fp,u,s',hk,hev,hr,hR,hF,e1,e2⟩:=qHP (P:=P) (lib:=lib) hf ha hs h;refine ⟨by unfold qll;rw [hs',hb'];rfl,v,st',fp,u,s',hk,hev.imp λC hC=>?_,hr,hR,hF,e1,e2⟩;unfold qle;rw [if_neg (by rw [hb'];simp),if_pos hs'];exact hC
 ·rename_i hsq;split at h
  ·rename_i g first cap q hq;have hb':qmH H fv'=false:=by
    rw [qmI (fv:=.any []) hf];simpa [qqM]using hbn
   have hs':qwe H fv'=false:=by
    rw [quj (fv:=.any []) hf];simpa [qwf]using hsq
   have hf':=hf;simp only [RV]at hf';obtain ⟨first',cap',rfl,hf1,hc1⟩:=hf';have hall:RVL (first++args++cap) (first'++args'++cap'):=(hf1.append ha).append hc1;have hkn:knownL (first++args++cap)=true:=by
    unfold qnb at hq;simp only at hq;split at hq
    ·assumption
    ·cases hq
   have hq':qj0 (.fn g first' cap') args'=some q:=by rw [qtc hkn hall];exact hq
   obtain ⟨v,st',u,s',hk,hev,hr,hR,hF,e1,e2⟩:=qCW hO hall hs h;refine ⟨by unfold qll;rw [hq'];simp,v,st',_,u,s',hk,hev.imp λC hC=>?_,hr,hR,hF,e1,e2⟩;unfold qle;rw [if_neg (by rw [hb'];simp),if_neg (by rw [hs'];simp),hq'];simp only [hC,qj]
  ·cases h
theorem qB6{o:Oper}{xs:List TV}{ys:List V}{st:TSt}{s:St}{R:Type}{k:TV->TSt->Fp->Option R}{r:R}(hx:RVL xs ys)(hs:Rst st s)(h:qB5 P H f o xs st R k=some r) :
  ∃v st' fp u s',k v st' fp=some r/\qfh P H f o ys s=some (u,s',fp)/\RV v u/\Rst st' s'/\Fr2 st st' s s'/\st'.E=st.E/\s'.E=s.E:=by
 unfold qB5 at h;split at h
 ·rename_i hmo;obtain ⟨v,st',fp,u,s',hk,hm,hr,hR,hF,e1,e2⟩:=qyd hx hs h;refine ⟨v,st',fp,u,s',hk,?_,hr,hR,hF,e1,e2⟩;unfold qfh;rw [if_pos (qAJ hx hmo),hm]
 rename_i hmo;have hmo':¬ qew o.op ys=true:=λhm=>by
  obtain ⟨h1,h2⟩:=qAK (P:=P) (H:=H) (f:=f) hx hmo hm;rw [h1]at h;simp only [h2]at h;cases h
 split at h
 ·rename_i hr;obtain ⟨z,c,u,c',hk,hsem,hrv,hbo⟩:=qxf (ty:=o.type) (bx:=none) (bx':=none) hx True.intro (by simp) h;split at hk
  ·have hc':c'=none:=hbo;subst hc';have hr':rootOf o.op ys=none:=by
    cases ho:o.op<;>try rfl
    case load t a =>
     rw [ho]at h hr
     match xs,hx,h,hr with
     |[],hx,h,hr=>simp [qef]at h
     |[x],hx,h,hr =>
      obtain ⟨v,rfl,hv⟩:=qhf hx;cases x<;>simp only [qef]at h<;>try (cases h;done)
      simp only [RV]at hv;obtain ⟨_,l',rfl,_⟩:=hv;rfl
     |x::y::xs,hx,h,hr =>
      cases x<;>simp [qef]at h
    case store t a b =>
     rw [ho]at h hr
     match xs,hx,h,hr with
     |[],hx,h,hr=>simp [qef]at h
     |[x],hx,h,hr=>cases x<;>simp [qef]at h
     |[x,y],hx,h,hr =>
      cases x<;>simp only [qef]at h<;>try (cases h;done)
     |x::y::z::xs,hx,h,hr=>cases x<;>simp [qef]at h
   refine ⟨z,st,.none,u,s,hk,?_,hrv,hs,Fr2.refl _ _,rfl,rfl⟩;unfold qfh;rw [if_neg hmo',hr'];simp only [hsem]
  ·cases hk
 ·rename_i q hr;split at h
  ·cases h
  rename_i hslot;have hslot:q.slot<16384:=Nat.lt_of_not_le hslot;have hmpq:∀c,s.box q=some c->qjn c=false:=λc hc=>hs.M.mp q.lvl q.slot c (by rw [<- qT];exact hc) hslot;obtain ⟨z,c,u,c',hk,hsem,hrv,hbo⟩:=qxf (ty:=o.type) hx (hs.bx q) hmpq h;have hshape:rootOf o.op ys=some q/\qav P o.op ys=qde P o.op xs/\(∀p∈qpM o.op ys,p∈qAd o.op xs)/\(∀d,c=some d->∃c0,st.box q=some c0):=by
   cases ho:o.op<;>rw [ho]at hr<;>try (simp [qoE]at hr;done)
   case load t a =>
    rw [ho]at h
    match xs,hx,h,hr with
    |[],hx,h,hr=>simp [qef]at h
    |[x],hx,h,hr =>
     obtain ⟨v,rfl,hv⟩:=qhf hx;cases x<;>simp only [qoE]at hr<;>try (cases hr;done)
     cases hr;simp only [RV]at hv;subst hv;refine ⟨rfl,rfl,λp hp=>by simp [qpM]at hp,λd _=>?_⟩;simp only [qef]at h;split at h
     ·rename_i cs hcs;exact ⟨cs,hcs⟩
     ·cases h
    |x::y::xs,hx,h,hr=>cases x<;>simp [qef]at h
   case store t a b =>
    rw [ho]at h
    match xs,hx,h,hr with
    |[],hx,h,hr=>simp [qef]at h
    |[x],hx,h,hr=>cases x<;>simp [qef]at h
    |[x,y],hx,h,hr =>
     cases x<;>simp only [qoE]at hr<;>try (cases hr;done)
     cases hr;simp only [RVL]at hx;obtain ⟨v,m,rfl,hv,v2,m2,rfl,hv2,rfl⟩:=hx;simp only [RV]at hv;subst hv;simp only [qef]at h;split at h
     ·rename_i cs hcs;split at h
      ·rename_i hcond;obtain ⟨hcells,_⟩:=RV.cells hcond.2.2.2 hv2;refine ⟨rfl,?_,λp hp=>?_,λd _=>⟨cs,hcs⟩⟩
       ·simp only [qav,qde,hcells.length]
       ·simp only [qpM]at hp;simp only [qAd];exact RV.qv _ _ hv2 p hp
      ·cases h
     ·cases h
    |x::y::z::xs,hx,h,hr=>cases x<;>simp [qef]at h
  obtain ⟨hroot,hrange,hwp,hbx⟩:=hshape;split at hk
  ·have hc':c'=none:=hbo;subst hc';refine ⟨z,st,_,u,s,hk,?_,hrv,hs,Fr2.refl _ _,rfl,rfl⟩;unfold qfh;rw [if_neg hmo',hroot];simp only [hsem,hrange]
  ·rename_i d;obtain ⟨d',rfl,hd⟩:=hbo;split at hk
   ·rename_i hcond;obtain ⟨c0,hc0⟩:=hbx d rfl;obtain ⟨hR,hF⟩:=qr5 hs hc0 hd (λ_=>qFl hroot hmpq hsem);refine ⟨z,_,_,u,s.qu q d',hk,?_,hrv,hR,hF,(qsf st q d).1,(qhI s q d').1⟩;unfold qfh;rw [if_neg hmo',hroot];simp only [hsem,hrange];rw [if_pos];simp only [qe,List.all_eq_true,decide_eq_true_eq]at hcond ⊢;exact ⟨λp hp=>hcond.1 p (hwp p hp),by rw [hd.length];exact hcond.2⟩
   ·cases hk
end
end Go.Tx
end
