/-
  ONE LAW OF A CHAPTER: its program side is run by an interpreter that is proved sound; what it computes is shown to be what the law says. No conditions. Part 4 of 8.
-/
import Derived.Test.YteiciemjanhdcaaGreatDoorMsdc
import Derived.Laws.Strings
set_option linter.unusedSimpArgs false
set_option linter.unusedVariables false
set_option linter.unnecessarySimpa false
section
namespace Go.Tx
open Go Go.Ab
section
inductive All2 {α β:Type} (R:α->β->Prop):List α->List β->Prop
 |nil:All2 R [] []
 |cons {a b l l'}:R a b->All2 R l l'->All2 R (a::l) (b::l')
section
variable {α β:Type} {R S:α->β->Prop}
theorem All2.length{l:List α}{l':List β}(h:All2 R l l'):l'.length=l.length:=by
 induction h with
 |nil=>rfl
 |cons _ _ ih=>simp [ih]
theorem All2.mono(hrs:∀a b,R a b->S a b){l:List α}{l':List β}(h:All2 R l l'):All2 S l l':=by
 induction h with
 |nil=>exact .nil
 |cons h1 _ ih=>exact .cons (hrs _ _ h1) ih
theorem All2.append{l m:List α}{l' m':List β}(h:All2 R l l')(h':All2 R m m'):All2 R (l++m) (l'++m'):=by
 induction h with
 |nil=>exact h'
 |cons h1 _ ih=>exact .cons h1 ih
theorem All2.take{l:List α}{l':List β}(h:All2 R l l'):∀n,All2 R (l.take n) (l'.take n):=by
 induction h with
 |nil=>intro n;simp;exact .nil
 |cons h1 _ ih=>intro n;cases n with
  |zero=>exact .nil
  |succ n=>exact .cons h1 (ih n)
theorem All2.drop{l:List α}{l':List β}(h:All2 R l l'):∀n,All2 R (l.drop n) (l'.drop n):=by
 induction h with
 |nil=>intro n;simp;exact .nil
 |cons h1 h2 ih=>intro n;cases n with
  |zero=>exact .cons h1 h2
  |succ n=>exact ih n
theorem All2.get{l:List α}{l':List β}(h:All2 R l l'):∀{i:Nat} {a:α},l[i]?=some a->∃b,l'[i]?=some b/\R a b:=by
 induction h with
 |nil=>intro i a h;simp at h
 |cons h1 h2 ih=>intro i a h;cases i with
  |zero=>simp at h;subst h;exact ⟨_,rfl,h1⟩
  |succ n=>exact ih (by simpa using h)
theorem All2.replicate{a:α}{b:β}(h:R a b):∀n,All2 R (List.replicate n a) (List.replicate n b)
 |0=>.nil
 |n+1=>.cons h (All2.replicate h n)
theorem All2.map{γ:Type}{g:β->γ}{S:α->γ->Prop}(hrs:∀a b,R a b->S a (g b)){l:List α}{l':List β}(h:All2 R l l'):All2 S l (l'.map g):=by
 induction h with
 |nil=>exact .nil
 |cons h1 _ ih=>exact .cons (hrs _ _ h1) ih
theorem All2.all{p:β->Prop}(hp:∀a b,R a b->p b){l:List α}{l':List β}(h:All2 R l l'):∀b∈l',p b:=by
 induction h with
 |nil=>simp
 |cons h1 _ ih =>
          intro b hb;rcases qp.1 hb with rfl|hb
          ·exact hp _ _ h1
          ·exact ih b hb
end
def FlR(o:Nat)(f:Fl):Prop:=(o≠2000->(f=.own↔qbm o=true))/\(o=1000->f=.shared)
def RTy:(τ:Ty)->Nat->τ.den->V->Prop
 |.int k,_,n,v=>v=.val (.int k n)
 |.bool,_,b,v=>v=.val (.bool b)
 |.str,_,s,v=>v=.val (.string ⟨s.toArray⟩)
 |.flt,_,n,v=>∃b,v=.val (.float .f64 b)/\Fl.IsF b n
 |.cx,_,p,v=>∃a b,v=.val (.complex .f64 a b)/\Fl.IsF a p.1/\Fl.IsF b p.2
 |.err,_,x,v=>(x=true/\v=.val .nilIface)\/(x=false/\∃t,v=.iface t .undef)
 |.mset t,_,l,v=>qhX t=true/\v=.mp (l.map λx=>(qcX t x,.bool true))
 |.sl t,o,l,v=>∃f c l',v=.sl f c l'/\FlR o f/\All2 (RTy t (nx o)) l l'
 |.unit,_,_,v=>v=.agg []
 |.pair a b,o,x,v=>∃v1 l,v=.agg (v1::l)/\RTy a o x.1 v1/\RTy b o x.2 (.agg l)
mutual
def RV:TV->V->Prop
 |.any rs,v=>(∀r∈v.qx,r∈rs)/\qat [v]=false
 |.t τ o x,v=>RTy τ o x v
 |.clp τ x,v=>∃f l',v=.sl f true l'/\f≠.own/\All2 (RTy τ 0) x l'
 |.room a s,v=>(a<2/\∃n,v=.room s n/\(a=0->n=0))\/(2<=a/\(v=.undef\/∃f,f≠.own/\v=.sl f false []))
 |.empty o,v=>∃f c,v=.sl f c []/\FlR o f
 |.val u,v=>v=.val u
 |.agg l,v=>∃l',v=.agg l'/\RVL l l'
 |.tuple l,v=>∃l',v=.tuple l'/\RVL l l'
 |.fn g a b,v=>∃a' b',v=.fn g a' b'/\RVL a a'/\RVL b b'
 |.ptr r o,v=>v=.ptr r o
 |.mref r,v=>v=.mref r
 |.bsl r o n,v=>v=.bsl r o n
 |.yld r,v=>v=.yld r
 |.lp ..,v=>False
 |.cptr s l,v=>∃f l',v=.cptr f l'/\f≠.own/\(s=true->f=.shared)/\RVL l l'
 |.iface t x,v=>∃y,v=.iface t y/\RV x y
def RVL:List TV->List V->Prop
 |[],l=>l=[]
 |x::l,l'=>∃v m,l'=v::m/\RV x v/\RVL l m
end
theorem qC{x:TV}{l:List TV}{v:V}{m:List V}:RVL (x::l) (v::m)↔RV x v/\RVL l m:=by
 simp only [RVL,List.cons.injEq];exact ⟨λ⟨_,_,⟨rfl,rfl⟩,h1,h2⟩=>⟨h1,h2⟩,λ⟨h1,h2⟩=>⟨_,_,⟨rfl,rfl⟩,h1,h2⟩⟩
theorem qak:RVL [] []:=by simp [RVL]
theorem RVL.length:∀{l:List TV} {l':List V},RVL l l'->l'.length=l.length
 |[],l',h=>by simp only [RVL]at h;simp [h]
 |x::l,l',h=>by simp only [RVL]at h;obtain ⟨v,m,rfl,_,h2⟩:=h;simp [RVL.length h2]
theorem RVL.append:∀{l m:List TV} {l' m':List V},RVL l l'->RVL m m'->RVL (l++m) (l'++m')
 |[],m,l',m',h,h'=>by simp only [RVL]at h;simpa [h]using h'
 |x::l,m,l',m',h,h'=>by
  simp only [RVL]at h;obtain ⟨v,n,rfl,h1,h2⟩:=h;exact qC.2 ⟨h1,RVL.append h2 h'⟩
theorem RVL.take:∀{l:List TV} {l':List V} (n:Nat),RVL l l'->RVL (l.take n) (l'.take n)
 |_,_,0,h=>by simp [RVL]
 |[],l',n+1,h=>by simp only [RVL]at h;simp [h,RVL]
 |x::l,l',n+1,h=>by
  simp only [RVL]at h;obtain ⟨v,m,rfl,h1,h2⟩:=h;exact qC.2 ⟨h1,RVL.take n h2⟩
theorem RVL.drop:∀{l:List TV} {l':List V} (n:Nat),RVL l l'->RVL (l.drop n) (l'.drop n)
 |_,_,0,h=>by simpa using h
 |[],l',n+1,h=>by simp only [RVL]at h;simp [h,RVL]
 |x::l,l',n+1,h=>by
  simp only [RVL]at h;obtain ⟨v,m,rfl,h1,h2⟩:=h;exact RVL.drop n h2
theorem RVL.get:∀{l:List TV} {l':List V} {i:Nat} {x:TV},RVL l l'->l[i]?=some x->∃v,l'[i]?=some v/\RV x v
 |[],l',i,x,h,hi=>by simp at hi
 |y::l,l',0,x,h,hi=>by
  simp only [RVL]at h;obtain ⟨v,m,rfl,h1,h2⟩:=h;simp at hi;subst hi;exact ⟨v,rfl,h1⟩
 |y::l,l',i+1,x,h,hi=>by
  simp only [RVL]at h;obtain ⟨v,m,rfl,h1,h2⟩:=h;have hi':l[i]?=some x:=by simpa using hi
  obtain ⟨u,hu,hr⟩:=RVL.get h2 hi';exact ⟨u,by simpa using hu,hr⟩
theorem RVL.set:∀{l:List TV} {l':List V} (i:Nat) {x:TV} {v:V},RVL l l'->RV x v->RVL (l.set i x) (l'.set i v)
 |[],l',i,x,v,h,hx=>by simp only [RVL]at h;simp [h,RVL]
 |y::l,l',0,x,v,h,hx=>by
  simp only [RVL]at h;obtain ⟨u,m,rfl,h1,h2⟩:=h;exact qC.2 ⟨hx,h2⟩
 |y::l,l',i+1,x,v,h,hx=>by
  simp only [RVL]at h;obtain ⟨u,m,rfl,h1,h2⟩:=h;exact qC.2 ⟨h1,RVL.set i h2 hx⟩
theorem qcV(rs:List Root):RV (.any rs) .undef:=by simp [RV,V.qx,qat]
theorem RVL.getD{l:List TV}{l':List V}(h:RVL l l')(i:Nat):RV (l.getD i (.any [])) (l'.getD i .undef):=by
 cases hi:l[i]? with
 |some x=>obtain ⟨v,hv,hr⟩:=h.get hi;simpa [hi,hv]using hr
 |none =>
  have:l'[i]?=none:=by rw [List.getElem?_eq_none_iff]at hi ⊢;rw [h.length];exact hi
  simp only [List.getD_eq_getElem?_getD,hi,this,Option.getD_none];exact qcV []
theorem RVL.replicate{x:TV}{v:V}(h:RV x v):∀n,RVL (List.replicate n x) (List.replicate n v)
 |0=>by simp [RVL]
 |n+1=>qC.2 ⟨h,RVL.replicate h n⟩
theorem RVL.flatten:∀{n:Nat} {l:List TV} {l':List V},RVL l l'->RVL (List.replicate n l).flatten (List.replicate n l').flatten
 |0,_,_,_=>by simp [RVL]
 |n+1,l,l',h=>by simp only [List.replicate_succ,List.flatten_cons];exact h.append (RVL.flatten h)
theorem RVL.head{l:List TV}{l':List V}{x:TV}(h:RVL l l')(hx:l.head?=some x):∃v,l'.head?=some v/\RV x v:=by
 cases l with
 |nil=>simp at hx
 |cons y l =>
  simp only [RVL]at h;obtain ⟨u,m,rfl,h1,h2⟩:=h;simp at hx;subst hx;exact ⟨u,rfl,h1⟩
theorem qeM{o:Nat}:qbm o=true↔o≠0/\o≠1000/\o≠2000:=by unfold qbm;simp
theorem qks{o:Nat}:qbm o=false↔o=0\/o=1000\/o=2000:=by
 have:=@qeM o;cases h:qbm o with
 |true=>rw [h]at this;simp at this;simp<;>omega
 |false=>rw [h]at this;simp at this;simp<;>omega
theorem FlR.own{o:Nat}{f:Fl}(h:FlR o f)(ho:qbm o=true):f=.own:=(h.1 (qeM.1 ho).2.2).2 ho
theorem FlR.not{o:Nat}{f:Fl}(h:FlR o f)(ho:qbm o=false)(h2:o≠2000):f≠.own:=λe=>by have:=(h.1 h2).1 e;rw [ho]at this;cases this
theorem qfA{o:Nat}(h:qbm o=true):FlR o .own:=⟨λ_=>by simp [h],λe=>absurd e (qeM.1 h).2.1⟩
theorem qhO{o:Nat}{f:Fl}(ho:qbm o=false)(hf:f≠.own)(h1:o=1000->f=.shared):FlR o f:=⟨λ_=>by simp [hf,ho],h1⟩
theorem qyV(o:Nat):qbm (dl o)=false/\dl o≠2000/\nx (dl o)=dl o:=by
 have h1:qbm (dl o)=false:=by rw [qks];unfold dl;split<;>simp
 refine ⟨h1,by unfold dl;split<;>simp,by unfold nx;rw [h1];rfl⟩
theorem qdW:∀(τ:Ty) (o:Nat) (x:τ.den) (v:V),RTy τ o x v->v.qx=[]
 |.int _,_,_,v,h=>by simp only [RTy]at h;simp [h,V.qx]
 |.bool,_,_,v,h=>by simp only [RTy]at h;simp [h,V.qx]
 |.str,_,_,v,h=>by simp only [RTy]at h;simp [h,V.qx]
 |.flt,_,_,v,h=>by simp only [RTy]at h;obtain ⟨b9,rfl,h9⟩:=h;simp [V.qx]
 |.cx,_,_,v,h=>by simp only [RTy]at h;obtain ⟨a9,b9,rfl,h8,h9⟩:=h;simp [V.qx]
 |.err,_,_,v,h=>by simp only [RTy]at h;rcases h with ⟨_,rfl⟩|⟨_,t9,rfl⟩<;>simp [V.qx]
 |.mset _,_,_,v,h=>by simp only [RTy]at h;obtain ⟨h8,rfl⟩:=h;simp [V.qx]
 |.sl t,o,l,v,h=>by simp only [RTy]at h;obtain ⟨f,c,l',rfl,_⟩:=h;simp [V.qx]
 |.unit,_,_,v,h=>by simp only [RTy]at h;simp [h,V.qx,ptrsL]
 |.pair a b,o,x,v,h=>by
  simp only [RTy]at h;obtain ⟨v1,l,rfl,h1,h2⟩:=h;have e1:=qdW a o _ _ h1;have e2:=qdW b o _ _ h2;simp only [V.qx]at e2;simp [V.qx,ptrsL,e1,e2]
theorem qoD{l:List V}{r:Root}:r∈ptrsL l↔∃v∈l,r∈v.qx:=by
 induction l with
 |nil=>simp [ptrsL]
 |cons v l ih=>simp [ptrsL,ih]
mutual
theorem RV.qx:∀(x:TV) (v:V),RV x v->∀r∈v.qx,r∈x.qx
 |.any rs,v,h,r,hr=>by simp only [RV]at h;exact h.1 r hr
 |.t τ o x,v,h,r,hr=>by simp only [RV]at h;rw [qdW τ o x v h]at hr;cases hr
 |.clp τ x,v,h,r,hr=>by simp only [RV]at h;obtain ⟨f,l',rfl,_⟩:=h;simp [V.qx]at hr
 |.room a s,v,h,r,hr=>by simp only [RV]at h;obtain ⟨_,n,rfl,_⟩|⟨_,rfl|⟨f,hf0,rfl⟩⟩:=h<;>simp [V.qx]at hr
 |.empty own,v,h,r,hr=>by simp only [RV]at h;obtain ⟨f,c,rfl,_⟩:=h;simp [V.qx]at hr
 |.val u,v,h,r,hr=>by simp only [RV]at h;simp [h,V.qx]at hr
 |.agg l,v,h,r,hr=>by simp only [RV]at h;obtain ⟨l',rfl,h⟩:=h;simp only [V.qx]at hr;exact RVL.qx l l' h r hr
 |.tuple l,v,h,r,hr=>by simp only [RV]at h;obtain ⟨l',rfl,h⟩:=h;simp only [V.qx]at hr;exact RVL.qx l l' h r hr
 |.fn g a b,v,h,r,hr=>by
  simp only [RV]at h;obtain ⟨a',b',rfl,h1,h2⟩:=h;simp only [V.qx,qo]at hr;simp only [TV.qx,qo];exact hr.imp (RVL.qx a a' h1 r) (RVL.qx b b' h2 r)
 |.ptr q o,v,h,r,hr=>by simp only [RV]at h;rw [h]at hr;simpa [V.qx,TV.qx]using hr
 |.mref q,v,h,r,hr=>by simp only [RV]at h;rw [h]at hr;simpa [V.qx,TV.qx]using hr
 |.bsl q _ _,v,h,r,hr=>by simp only [RV]at h;rw [h]at hr;simpa [V.qx,TV.qx]using hr
 |.yld q,v,h,r,hr=>by simp only [RV]at h;rw [h]at hr;simpa [V.qx,TV.qx]using hr
 |.lp ..,v,h,r,hr=>by simp only [RV]at h
 |.cptr _ l,v,h,r,hr=>by simp only [RV]at h;obtain ⟨_,l',rfl,_,_,h⟩:=h;simp only [V.qx]at hr;exact RVL.qx l l' h r hr
 |.iface t x,v,h,r,hr=>by simp only [RV]at h;obtain ⟨y,rfl,h⟩:=h;simp only [V.qx]at hr;exact RV.qx x y h r hr
theorem RVL.qx:∀(l:List TV) (l':List V),RVL l l'->∀r∈ptrsL l',r∈ptrsTL l
 |[],l',h,r,hr=>by simp only [RVL]at h;simp [h,ptrsL]at hr
 |x::l,l',h,r,hr=>by
  simp only [RVL]at h;obtain ⟨v,m,rfl,h1,h2⟩:=h;simp only [ptrsL,qo]at hr;simp only [ptrsTL,qo];exact hr.imp (RV.qx x v h1 r) (RVL.qx l m h2 r)
end
mutual
theorem RV.ptrs_eq:∀(x:TV) (v:V),x.known=true->RV x v->v.qx=x.qx
 |.any rs,v,hk,h=>by simp [TV.known]at hk
 |.t τ o x,v,_,h=>by simp only [RV]at h;rw [qdW τ o x v h];simp [TV.qx]
 |.clp τ x,v,_,h=>by simp only [RV]at h;obtain ⟨f,l',rfl,_⟩:=h;simp [V.qx,TV.qx]
 |.room a s,v,_,h=>by simp only [RV]at h;obtain ⟨_,n,rfl,_⟩|⟨_,rfl|⟨f,hf0,rfl⟩⟩:=h<;>simp [V.qx,TV.qx]
 |.empty own,v,_,h=>by simp only [RV]at h;obtain ⟨f,c,rfl,_⟩:=h;simp [V.qx,TV.qx]
 |.val u,v,_,h=>by simp only [RV]at h;simp [h,V.qx,TV.qx]
 |.agg l,v,hk,h=>by simp only [RV]at h;obtain ⟨l',rfl,h⟩:=h;simp only [TV.known]at hk;simp only [V.qx,TV.qx];exact RVL.ptrs_eq l l' hk h
 |.tuple l,v,hk,h=>by simp only [RV]at h;obtain ⟨l',rfl,h⟩:=h;simp only [TV.known]at hk;simp only [V.qx,TV.qx];exact RVL.ptrs_eq l l' hk h
 |.fn g a b,v,hk,h=>by
  simp only [RV]at h;obtain ⟨a',b',rfl,h1,h2⟩:=h;simp only [TV.known,qi]at hk;simp only [V.qx,TV.qx,RVL.ptrs_eq a a' hk.1 h1,RVL.ptrs_eq b b' hk.2 h2]
 |.ptr q o,v,_,h=>by simp only [RV]at h;simp [h,V.qx,TV.qx]
 |.mref q,v,_,h=>by simp only [RV]at h;simp [h,V.qx,TV.qx]
 |.bsl q _ _,v,_,h=>by simp only [RV]at h;simp [h,V.qx,TV.qx]
 |.yld q,v,_,h=>by simp only [RV]at h;simp [h,V.qx,TV.qx]
 |.lp ..,v,_,h=>by simp only [RV]at h
 |.cptr _ l,v,hk,h=>by simp only [RV]at h;obtain ⟨_,l',rfl,_,_,h⟩:=h;simp only [TV.known]at hk;simp only [V.qx,TV.qx];exact RVL.ptrs_eq l l' hk h
 |.iface t x,v,hk,h=>by simp [TV.known]at hk
theorem RVL.ptrs_eq:∀(l:List TV) (l':List V),knownL l=true->RVL l l'->ptrsL l'=ptrsTL l
 |[],l',_,h=>by simp only [RVL]at h;simp [h,ptrsL,ptrsTL]
 |x::l,l',hk,h=>by
  simp only [RVL]at h;obtain ⟨v,m,rfl,h1,h2⟩:=h;simp only [knownL,qi]at hk;simp only [ptrsL,ptrsTL,RV.ptrs_eq x v hk.1 h1,RVL.ptrs_eq l m hk.2 h2]
end
theorem qaV(g:Fl->Fl):∀l:List V,reflagL g l=l.map (V.reflag g)
 |[]=>rfl
 |v::l=>by simp [reflagL,qaV g l]
theorem qBQ{n:Nat}(h:qbm (n+1)=true):nx (n+1)=n/\n+1≠1000:=by
 have:=qeM.1 h;refine ⟨by unfold nx;rw [h];simp,this.2.1⟩
theorem ql5:∀(τ:Ty) (o:Nat) (x:τ.den) (v:V),RTy τ (dl o) x v->RTy τ 0 x v
 |.int _,_,_,v,h=>by simpa only [RTy]using h
 |.bool,_,_,v,h=>by simpa only [RTy]using h
 |.str,_,_,v,h=>by simpa only [RTy]using h
 |.flt,_,_,v,h=>by simpa only [RTy]using h
 |.cx,_,_,v,h=>by simpa only [RTy]using h
 |.err,_,_,v,h=>by simpa only [RTy]using h
 |.mset _,_,_,v,h=>by simpa only [RTy]using h
 |.sl t,o,l,v,h=>by
  obtain ⟨hno,h20,hnx⟩:=qyV o;simp only [RTy]at h ⊢;obtain ⟨f,c,l',rfl,h1,h⟩:=h;rw [hnx]at h;exact ⟨f,c,l',rfl,qhO rfl (h1.not hno h20) (λh=>by cases h),h.mono λa b hab=>ql5 t o a b hab⟩
 |.unit,_,_,v,h=>by simpa only [RTy]using h
 |.pair a b,o,x,v,h=>by
  simp only [RTy]at h ⊢;obtain ⟨v1,l,rfl,h1,h2⟩:=h;exact ⟨v1,l,rfl,ql5 a o _ _ h1,ql5 b o _ _ h2⟩
theorem qiU{g:Fl->Fl}(hg:∀f,g f≠.own)(hs:g .shared=.shared):∀(τ:Ty) (o:Nat) (x:τ.den) (v:V),RTy τ o x v->RTy τ (dl o) x (v.reflag g)
 |.int _,_,_,v,h=>by simp only [RTy]at h ⊢;simp [h,V.reflag]
 |.bool,_,_,v,h=>by simp only [RTy]at h ⊢;simp [h,V.reflag]
 |.str,_,_,v,h=>by simp only [RTy]at h ⊢;simp [h,V.reflag]
 |.flt,_,_,v,h=>by simp only [RTy]at h ⊢;obtain ⟨b9,rfl,h9⟩:=h;exact ⟨b9,by simp [V.reflag],h9⟩
 |.cx,_,_,v,h=>by simp only [RTy]at h ⊢;obtain ⟨a9,b9,rfl,h8,h9⟩:=h;exact ⟨a9,b9,by simp [V.reflag],h8,h9⟩
 |.err,_,_,v,h=>by simp only [RTy]at h ⊢;rcases h with ⟨hx,rfl⟩|⟨hx,t9,rfl⟩;exact .inl ⟨hx,by simp [V.reflag]⟩;exact .inr ⟨hx,t9,by simp [V.reflag]⟩
 |.mset _,_,_,v,h=>by simp only [RTy]at h ⊢;obtain ⟨h8,rfl⟩:=h;exact ⟨h8,by simp [V.reflag]⟩
 |.sl t,o,l,v,h=>by
  simp only [RTy]at h ⊢;obtain ⟨f,c,l',rfl,h0,h⟩:=h;obtain ⟨hno,h20,hnx⟩:=qyV o;refine ⟨g f,c,reflagL g l',by simp [V.reflag],qhO hno (hg f) (λh1=>?_),?_⟩
  ·have ho:o=1000:=by
    unfold dl at h1;split at h1
    ·assumption
    ·cases h1
   rw [h0.2 ho];exact hs
  ·rw [qaV,hnx];refine h.map λa b hab=>?_;have h3:=qiU hg hs t _ a b hab;by_cases ho:o=1000
   ·subst ho;exact h3
   ·have:dl o=0:=by unfold dl;rw [if_neg ho]
    rw [this];exact ql5 t _ a _ h3
 |.unit,_,_,v,h=>by simp only [RTy]at h ⊢;simp [h,V.reflag,reflagL]
 |.pair a b,o,x,v,h=>by
  simp only [RTy]at h ⊢;obtain ⟨v1,l,rfl,h1,h2⟩:=h;refine ⟨v1.reflag g,reflagL g l,by simp [V.reflag,reflagL],qiU hg hs a o _ _ h1,?_⟩;have:=qiU hg hs b o _ _ h2;simpa only [V.reflag]using this
theorem qk0{g:Fl->Fl}(hg:∀f,g f=.own↔f=.own)(hs:g .shared=.shared):∀(τ:Ty) (o:Nat) (x:τ.den) (v:V),RTy τ o x v->RTy τ o x (v.reflag g)
 |.int _,_,_,v,h=>by simp only [RTy]at h ⊢;simp [h,V.reflag]
 |.bool,_,_,v,h=>by simp only [RTy]at h ⊢;simp [h,V.reflag]
 |.str,_,_,v,h=>by simp only [RTy]at h ⊢;simp [h,V.reflag]
 |.flt,_,_,v,h=>by simp only [RTy]at h ⊢;obtain ⟨b9,rfl,h9⟩:=h;exact ⟨b9,by simp [V.reflag],h9⟩
 |.cx,_,_,v,h=>by simp only [RTy]at h ⊢;obtain ⟨a9,b9,rfl,h8,h9⟩:=h;exact ⟨a9,b9,by simp [V.reflag],h8,h9⟩
 |.err,_,_,v,h=>by simp only [RTy]at h ⊢;rcases h with ⟨hx,rfl⟩|⟨hx,t9,rfl⟩;exact .inl ⟨hx,by simp [V.reflag]⟩;exact .inr ⟨hx,t9,by simp [V.reflag]⟩
 |.mset _,_,_,v,h=>by simp only [RTy]at h ⊢;obtain ⟨h8,rfl⟩:=h;exact ⟨h8,by simp [V.reflag]⟩
 |.sl t,o,l,v,h=>by
  simp only [RTy]at h ⊢;obtain ⟨f,c,l',rfl,ho,h⟩:=h;refine ⟨g f,c,reflagL g l',by simp [V.reflag],⟨λh2=>by rw [hg f];exact ho.1 h2,λh1=>by rw [ho.2 h1];exact hs⟩,?_⟩;rw [qaV];exact h.map λa b hab=>qk0 hg hs t _ a b hab
 |.unit,_,_,v,h=>by simp only [RTy]at h ⊢;simp [h,V.reflag,reflagL]
 |.pair a b,o,x,v,h=>by
  simp only [RTy]at h ⊢;obtain ⟨v1,l,rfl,h1,h2⟩:=h;refine ⟨v1.reflag g,reflagL g l,by simp [V.reflag,reflagL],qk0 hg hs a o _ _ h1,?_⟩;have:=qk0 hg hs b o _ _ h2;simpa only [V.reflag]using this
theorem qrf{g:Fl->Fl}{l:List V}(h:qat l=false):qat (reflagL g l)=false:=by
 cases l with
 |nil=>rfl
 |cons x l=>cases x with
  |lp=>simp [qat]at h
  |room s n =>
   simp only [reflagL,V.reflag];by_cases h1:g .own=.own
   ·rw [if_pos h1];rfl
   ·rw [if_neg h1];by_cases h2:n=0
    ·rw [if_pos h2];rfl
    ·rw [if_neg h2];rfl
  |_=>rfl
theorem qew{g:Fl->Fl}{v:V}(h:qat [v]=false):qat [v.reflag g]=false:=qrf (g:=g) h
theorem qf7(g:Fl->Fl)(v:V):(v.reflag g).qx=v.qx:=by
 have:=ptrsL_reflag g [v];simpa [reflagL,ptrsL]using this
mutual
theorem RV.dull'{g:Fl->Fl}(hg:∀f,g f≠.own)(hs:g .shared=.shared):∀(x:TV) (v:V),RV x v->RV x.qai (v.reflag g)
 |.any rs,v,h=>by simp only [TV.qai,RV]at h ⊢;rw [qf7];exact ⟨h.1,qew h.2⟩
 |.t τ o x,v,h=>by simp only [TV.qai,RV]at h ⊢;exact qiU hg hs τ o x v h
 |.clp τ x,v,h=>by
  simp only [TV.qai,RV]at h ⊢;obtain ⟨f,l',rfl,_,h⟩:=h;refine ⟨g f,reflagL g l',by simp [V.reflag],hg f,?_⟩;rw [qaV];exact h.map λa b hab=>ql5 τ 0 a _ (qiU hg hs τ _ a b hab)
 |.room a s,v,h=>by
  simp only [RV]at h;rcases a with _|a
  ·obtain ⟨_,n,rfl,h0⟩|⟨h9,_⟩:=h
   ·obtain rfl:=h0 rfl;simp only [TV.qai,RV,V.reflag,if_neg (hg .own),if_true];exact ⟨_,_,rfl,qhO (by decide) (hg .own) (λh1=>by cases h1)⟩
   ·omega
  ·simp only [TV.qai,RV];refine .inr ⟨Nat.le_refl _,?_⟩;obtain ⟨_,n,rfl,_⟩|⟨_,rfl|⟨f,hf0,rfl⟩⟩:=h
   ·simp only [V.reflag,if_neg (hg .own)];split
    ·exact .inr ⟨_,hg _,rfl⟩
    ·exact .inl rfl
   ·exact .inl rfl
   ·exact .inr ⟨g f,hg f,by simp [V.reflag,reflagL]⟩
 |.empty o,v,h=>by
  simp only [TV.qai,RV]at h ⊢;obtain ⟨f,c,rfl,h0⟩:=h;refine ⟨g f,c,by simp [V.reflag,reflagL],qhO (qyV o).1 (hg f) (λh1=>?_)⟩;have ho:o=1000:=by
   unfold dl at h1;split at h1
   ·assumption
   ·cases h1
  rw [h0.2 ho];exact hs
 |.val u,v,h=>by simp only [TV.qai,RV]at h ⊢;simp [h,V.reflag]
 |.agg l,v,h=>by simp only [TV.qai,RV]at h ⊢;obtain ⟨l',rfl,h⟩:=h;exact ⟨_,by simp only [V.reflag],RVL.dull' hg hs l l' h⟩
 |.tuple l,v,h=>by simp only [TV.qai,RV]at h ⊢;obtain ⟨l',rfl,h⟩:=h;exact ⟨_,by simp only [V.reflag],RVL.dull' hg hs l l' h⟩
 |.fn g' a b,v,h=>by simp only [TV.qai,RV]at h ⊢;obtain ⟨a',b',rfl,h1,h2⟩:=h;exact ⟨_,_,by simp only [V.reflag],RVL.dull' hg hs a a' h1,RVL.dull' hg hs b b' h2⟩
 |.ptr q o,v,h=>by simp only [TV.qai,RV]at h ⊢;simp [h,V.reflag]
 |.mref q,v,h=>by simp only [TV.qai,RV]at h ⊢;simp [h,V.reflag]
 |.bsl q _ _,v,h=>by simp only [TV.qai,RV]at h ⊢;simp [h,V.reflag]
 |.yld q,v,h=>by simp only [TV.qai,RV]at h ⊢;simp [h,V.reflag]
 |.lp ..,v,h=>by simp only [RV]at h
 |.cptr s l,v,h=>by simp only [TV.qai,RV]at h ⊢;obtain ⟨f,l',rfl,_,hsh,h⟩:=h;exact ⟨g f,_,by simp only [V.reflag],hg f,λe=>(by rw [hsh e];exact hs),RVL.dull' hg hs l l' h⟩
 |.iface t x,v,h=>by simp only [TV.qai,RV]at h ⊢;obtain ⟨y,rfl,h⟩:=h;exact ⟨_,by simp only [V.reflag],RV.dull' hg hs x y h⟩
theorem RVL.dull'{g:Fl->Fl}(hg:∀f,g f≠.own)(hs:g .shared=.shared):∀(l:List TV) (l':List V),RVL l l'->RVL (dullL l) (reflagL g l')
 |[],l',h=>by simp only [RVL]at h;simp [h,dullL,reflagL,RVL]
 |x::l,l',h=>by
  simp only [RVL]at h;obtain ⟨v,m,rfl,h1,h2⟩:=h;simp only [dullL,reflagL];exact qC.2 ⟨RV.dull' hg hs x v h1,RVL.dull' hg hs l m h2⟩
end
mutual
theorem RV.qpt{g:Fl->Fl}(hg:∀f,g f=.own↔f=.own)(hs:g .shared=.shared):∀(x:TV) (v:V),RV x v->RV x (v.reflag g)
 |.any rs,v,h=>by simp only [RV]at h ⊢;rw [qf7];exact ⟨h.1,qew h.2⟩
 |.t τ o x,v,h=>by simp only [RV]at h ⊢;exact qk0 hg hs τ o x v h
 |.clp τ x,v,h=>by
  simp only [RV]at h ⊢;obtain ⟨f,l',rfl,h0,h⟩:=h;refine ⟨g f,reflagL g l',by simp [V.reflag],λe=>h0 ((hg f).1 e),?_⟩;rw [qaV];exact h.map λa b hab=>qk0 hg hs τ _ a b hab
 |.room a s,v,h=>by
  simp only [RV]at h ⊢;obtain ⟨h1,n,rfl,h0⟩|⟨h1,rfl|⟨f,hf0,rfl⟩⟩:=h
  ·exact .inl ⟨h1,n,by simp only [V.reflag,if_pos ((hg .own).2 rfl)],h0⟩
  ·exact .inr ⟨h1,.inl rfl⟩
  ·exact .inr ⟨h1,.inr ⟨g f,λe=>hf0 ((hg f).1 e),by simp [V.reflag,reflagL]⟩⟩
 |.empty o,v,h=>by simp only [RV]at h ⊢;obtain ⟨f,c,rfl,h0⟩:=h;exact ⟨g f,c,by simp [V.reflag,reflagL],⟨λh2=>by rw [hg f];exact h0.1 h2,λh1=>by rw [h0.2 h1];exact hs⟩⟩
 |.val u,v,h=>by simp only [RV]at h ⊢;simp [h,V.reflag]
 |.agg l,v,h=>by simp only [RV]at h ⊢;obtain ⟨l',rfl,h⟩:=h;exact ⟨_,by simp only [V.reflag],RVL.qpt hg hs l l' h⟩
 |.tuple l,v,h=>by simp only [RV]at h ⊢;obtain ⟨l',rfl,h⟩:=h;exact ⟨_,by simp only [V.reflag],RVL.qpt hg hs l l' h⟩
 |.fn g' a b,v,h=>by simp only [RV]at h ⊢;obtain ⟨a',b',rfl,h1,h2⟩:=h;exact ⟨_,_,by simp only [V.reflag],RVL.qpt hg hs a a' h1,RVL.qpt hg hs b b' h2⟩
 |.ptr q o,v,h=>by simp only [RV]at h ⊢;simp [h,V.reflag]
 |.mref q,v,h=>by simp only [RV]at h ⊢;simp [h,V.reflag]
 |.bsl q _ _,v,h=>by simp only [RV]at h ⊢;simp [h,V.reflag]
 |.yld q,v,h=>by simp only [RV]at h ⊢;simp [h,V.reflag]
 |.lp ..,v,h=>by simp only [RV]at h
 |.cptr s l,v,h=>by simp only [RV]at h ⊢;obtain ⟨f,l',rfl,h0,hsh,h⟩:=h;exact ⟨g f,_,by simp only [V.reflag],λe=>h0 ((hg f).1 e),λe=>(by rw [hsh e];exact hs),RVL.qpt hg hs l l' h⟩
 |.iface t x,v,h=>by simp only [RV]at h ⊢;obtain ⟨y,rfl,h⟩:=h;exact ⟨_,by simp only [V.reflag],RV.qpt hg hs x y h⟩
theorem RVL.qpt{g:Fl->Fl}(hg:∀f,g f=.own↔f=.own)(hs:g .shared=.shared):∀(l:List TV) (l':List V),RVL l l'->RVL l (reflagL g l')
 |[],l',h=>by simp only [RVL]at h;simp [h,reflagL,RVL]
 |x::l,l',h=>by
  simp only [RVL]at h;obtain ⟨v,m,rfl,h1,h2⟩:=h;simp only [reflagL];exact qC.2 ⟨RV.qpt hg hs x v h1,RVL.qpt hg hs l m h2⟩
end
theorem qlt(f:Fl):q9 f≠.own:=by cases f<;>simp [q9]
theorem RV.qai{x:TV}{v:V}(h:RV x v):RV x.qai v.qai:=RV.dull' qlt rfl x v h
theorem RVL.qai{l:List TV}{l':List V}(h:RVL l l'):RVL (dullL l) (reflagL q9 l'):=RVL.dull' qlt rfl l l' h
theorem RVL.qru{g:Fl->Fl}(hg:∀f,g f≠.own)(hs:g .shared=.shared){l:List TV}{l':List V}(h:RVL l l'):RVL (dullL l) (l'.map (V.reflag g)):=by
 rw [<- qaV];exact RVL.dull' hg hs l l' h
theorem qtC{l:List V}:ownsL l=true↔∃v∈l,v.owns=true:=by
 induction l with
 |nil=>simp [ownsL]
 |cons v l ih=>simp [ownsL,ih]
theorem qiv{α β:Type}{R:α->β->Prop}{l:List α}{l':List β}(h:All2 R l l'):∀b∈l',∃a∈l,R a b:=by
 induction h with
 |nil=>simp
 |cons h1 _ ih =>
  intro b hb;rcases qp.1 hb with rfl|hb
  ·exact ⟨_,by simp,h1⟩
  ·obtain ⟨a,ha,hr⟩:=ih b hb;exact ⟨a,by simp [ha],hr⟩
theorem qk1:∀(τ:Ty) (o:Nat) (x:τ.den) (v:V),RTy τ o x v->v.owns=true->(qbm o=true\/o=2000)/\0<τ.depth
 |.int _,_,_,v,h,ho=>by simp only [RTy]at h;simp [h,V.owns]at ho
 |.bool,_,_,v,h,ho=>by simp only [RTy]at h;simp [h,V.owns]at ho
 |.str,_,_,v,h,ho=>by simp only [RTy]at h;simp [h,V.owns]at ho
 |.flt,_,_,v,h,ho=>by simp only [RTy]at h;obtain ⟨b9,rfl,h9⟩:=h;simp [V.owns]at ho
 |.cx,_,_,v,h,ho=>by simp only [RTy]at h;obtain ⟨a9,b9,rfl,h8,h9⟩:=h;simp [V.owns]at ho
 |.err,_,_,v,h,ho=>by simp only [RTy]at h;rcases h with ⟨_,rfl⟩|⟨_,t9,rfl⟩<;>simp [V.owns]at ho
 |.mset _,_,_,v,h,ho=>by simp only [RTy]at h;obtain ⟨h8,rfl⟩:=h;simp [V.owns]at ho
 |.sl t,o,l,v,h,ho=>by
  simp only [RTy]at h;obtain ⟨f,c,l',rfl,hf,h⟩:=h;simp only [V.owns,Bool.or_eq_true,decide_eq_true_eq]at ho;simp only [Ty.depth];refine ⟨?_,by omega⟩;by_cases h2:o=2000
  ·exact .inr h2
  left
  rcases ho with ho|ho
  ·exact (hf.1 h2).1 ho
  ·obtain ⟨b,hb,hbo⟩:=qtC.1 ho;obtain ⟨a,_,hr⟩:=qiv h b hb;have:=(qk1 t _ a b hr hbo).1;cases hno:qbm o with
   |true=>rfl
   |false =>
    unfold nx at this;rw [hno]at this;simp only [qj,if_false,hno,false_or]at this;exact absurd this h2
 |.unit,_,_,v,h,ho=>by simp only [RTy]at h;simp [h,V.owns,ownsL]at ho
 |.pair a b,o,x,v,h,ho=>by
  simp only [RTy]at h;obtain ⟨v1,l,rfl,h1,h2⟩:=h;simp only [V.owns,ownsL,Bool.or_eq_true]at ho;simp only [Ty.depth];rcases ho with ho|ho
  ·have:=qk1 a o _ _ h1 ho;exact ⟨this.1,by omega⟩
  ·have:=qk1 b o _ _ h2 (by simpa only [V.owns]using ho);exact ⟨this.1,by omega⟩
mutual
theorem RV.owns:∀(x:TV) (v:V),RV x v->v.owns=true->x.owns=true
 |.any rs,v,h,ho=>by simp [TV.owns]
 |.t τ o x,v,h,ho=>by simp only [RV]at h;have:=qk1 τ o x v h ho;simpa [TV.owns]using this
 |.clp τ x,v,h,ho=>by
  simp only [RV]at h;obtain ⟨f,l',rfl,hf,h⟩:=h;simp only [V.owns,Bool.or_eq_true,decide_eq_true_eq]at ho;rcases ho with ho|ho
  ·exact absurd ho hf
  ·obtain ⟨b,hb,hbo⟩:=qtC.1 ho;obtain ⟨a,_,hr⟩:=qiv h b hb;have:=(qk1 τ _ a b hr hbo).1;simp [qbm]at this
 |.room a s,v,h,ho=>rfl
 |.empty o,v,h,ho=>by
  simp only [RV]at h;obtain ⟨f,c,rfl,hf⟩:=h;simp only [V.owns,ownsL,Bool.or_false,decide_eq_true_eq]at ho;simp only [TV.owns,Bool.or_eq_true,decide_eq_true_eq];by_cases h2:o=2000
  ·exact .inr h2
  ·exact .inl ((hf.1 h2).1 ho)
 |.val u,v,h,ho=>by simp only [RV]at h;simp [h,V.owns]at ho
 |.agg l,v,h,ho=>by simp only [RV]at h;obtain ⟨l',rfl,h⟩:=h;simp only [V.owns,TV.owns]at ho ⊢;exact RVL.owns l l' h ho
 |.tuple l,v,h,ho=>by simp only [RV]at h;obtain ⟨l',rfl,h⟩:=h;simp only [V.owns,TV.owns]at ho ⊢;exact RVL.owns l l' h ho
 |.fn g a b,v,h,ho=>by
  simp only [RV]at h;obtain ⟨a',b',rfl,h1,h2⟩:=h;simp only [V.owns,TV.owns,Bool.or_eq_true]at ho ⊢;exact ho.imp (RVL.owns a a' h1) (RVL.owns b b' h2)
 |.ptr q o,v,h,ho=>by simp only [RV]at h;simp [h,V.owns]at ho
 |.mref q,v,h,ho=>by simp only [RV]at h;simp [h,V.owns]at ho
 |.bsl q _ _,v,h,ho=>by simp only [RV]at h;simp [h,V.owns]at ho
 |.yld q,v,h,ho=>by simp only [RV]at h;simp [h,V.owns]at ho
 |.lp ..,v,h,ho=>by simp only [RV]at h
 |.cptr _ l,v,h,ho=>by simp only [RV]at h;obtain ⟨f,l',rfl,h0,_,h⟩:=h;simp only [V.owns,TV.owns,h0,decide_false,Bool.false_or]at ho ⊢;exact RVL.owns l l' h ho
 |.iface t x,v,h,ho=>by simp only [RV]at h;obtain ⟨y,rfl,h⟩:=h;simp only [V.owns,TV.owns]at ho ⊢;exact RV.owns x y h ho
theorem RVL.owns:∀(l:List TV) (l':List V),RVL l l'->ownsL l'=true->ownsTL l=true
 |[],l',h,ho=>by simp only [RVL]at h;simp [h,ownsL]at ho
 |x::l,l',h,ho=>by
  simp only [RVL]at h;obtain ⟨v,m,rfl,h1,h2⟩:=h;simp only [ownsL,ownsTL,Bool.or_eq_true]at ho ⊢;exact ho.imp (RV.owns x v h1) (RVL.owns l m h2)
end
theorem qAp{τ:Ty}(h1:τ.one=true){o:Nat}{x:τ.den}{v:V}(h:RTy τ o x v):v.one=true:=by
 cases τ with
 |unit=>simp [Ty.one]at h1
 |pair a b=>simp [Ty.one]at h1
 |sl t=>simp only [RTy]at h;obtain ⟨f,c,l',rfl,_⟩:=h;rfl
 |flt=>simp only [RTy]at h;obtain ⟨b9,rfl,_⟩:=h;rfl
 |cx=>simp only [RTy]at h;obtain ⟨a9,b9,rfl,_⟩:=h;rfl
 |err=>simp only [RTy]at h;rcases h with ⟨_,rfl⟩|⟨_,t9,rfl⟩<;>rfl
 |mset t=>simp [Ty.one]at h1
 |_=>simp only [RTy]at h;subst h;rfl
theorem RV.one{x:TV}{v:V}(h1:x.one=true)(h:RV x v):v.one=true:=by
 cases x with
 |any rs=>simp [TV.one]at h1
 |t τ o x=>simp only [RV]at h;exact qAp h1 h
 |clp τ x=>simp only [RV]at h;obtain ⟨f,l',rfl,_⟩:=h;rfl
 |room a s=>simp [TV.one]at h1
 |empty own=>simp only [RV]at h;obtain ⟨f,c,rfl,_⟩:=h;rfl
 |val u=>simp only [RV]at h;subst h;exact h1
 |agg l=>simp [TV.one]at h1
 |tuple l=>simp [TV.one]at h1
 |fn g a b=>simp only [RV]at h;obtain ⟨a',b',rfl,_⟩:=h;rfl
 |ptr r o=>simp only [RV]at h;subst h;rfl
 |mref r=>simp only [RV]at h;subst h;rfl
 |bsl r o n=>simp only [RV]at h;subst h;rfl
 |yld r=>simp only [RV]at h;subst h;rfl
 |lp s pe g env ps a b=>simp only [RV]at h
 |cptr _ l=>simp only [RV]at h;obtain ⟨_,l',rfl,_⟩:=h;rfl
 |iface t x=>simp only [RV]at h;obtain ⟨y,rfl,_⟩:=h;rfl
theorem qyN{v:V}(h:v.one=true):v.cells=[v]:=by cases v<;>first|rfl|simp [V.one]at h
theorem RVL.qFV:∀{l:List TV} {l':List V},l.all TV.one=true->RVL l l'->l'.all V.one=true
 |[],l',_,h=>by simp only [RVL]at h;simp [h]
 |x::l,l',h1,h=>by
  simp only [RVL]at h;obtain ⟨v,m,rfl,h2,h3⟩:=h;simp only [List.all_cons,qi]at h1 ⊢;exact ⟨RV.one h1.1 h2,RVL.qFV h1.2 h3⟩
theorem RV.cells{x:TV}{v:V}(hk:x.oks=true)(h:RV x v):RVL x.cells v.cells/\v.oks=true:=by
 by_cases hx:∃l,x=.agg l
 ·obtain ⟨l,rfl⟩:=hx;simp only [RV]at h;obtain ⟨l',rfl,h⟩:=h;simp only [TV.oks,TV.cells]at hk;exact ⟨h,RVL.qFV hk h⟩
 ·have hc:x.cells=[x]:=by cases x<;>first|rfl|exact absurd ⟨_,rfl⟩ hx
  have h1:x.one=true:=by simpa [TV.oks,hc]using hk
  have hv:=RV.one h1 h;have hcv:=qyN hv;rw [hc,hcv];exact ⟨qC.2 ⟨h,qak⟩,by simp [V.oks,hcv,hv]⟩
theorem qfj{c:List V}(h1:qat c=false)(h2:qhq c=false):qfC c=false:=by
 cases c with
 |nil=>rfl
 |cons x l=>cases x<;>first|rfl|(simp [qat]at h1;done)|(simp [qhq]at h2)
theorem qaY{l:List TV}{l':List V}(h:RVL l l'):qat l'=false:=by
 cases l with
 |nil=>simp only [RVL]at h;simp [h,qat]
 |cons x l =>
  simp only [RVL]at h;obtain ⟨v,m,rfl,h1,_⟩:=h;cases v with
  |lp s pe g env ps a b =>
   exfalso
   cases x with
   |any rs=>simp [RV,qat]at h1
   |t τ o x =>
    cases τ<;>simp [RV,RTy]at h1
   |lp=>simp only [RV]at h1
   |_=>simp [RV]at h1
  |_=>rfl
mutual
theorem rv_ofTy:∀(τ:Ty) (o:Nat) (x:τ.den) (v:V),RTy τ o x v->RV (ofTy τ o x) v
 |.int _,_,_,v,h=>by simpa only [ofTy,RV]using h
 |.bool,_,_,v,h=>by simpa only [ofTy,RV]using h
 |.str,_,_,v,h=>by simpa only [ofTy,RV]using h
 |.flt,_,_,v,h=>by simpa only [ofTy,RV]using h
 |.cx,_,_,v,h=>by simpa only [ofTy,RV]using h
 |.err,_,_,v,h=>by simpa only [ofTy,RV]using h
 |.mset _,_,_,v,h=>by simpa only [ofTy,RV]using h
 |.sl t,o,l,v,h=>by simpa only [ofTy,RV]using h
 |.unit,_,_,v,h=>by simp only [RTy]at h;simp [h,ofTy,RV,RVL]
 |.pair a b,o,x,v,h=>by
  simp only [RTy]at h;obtain ⟨v1,l,rfl,h1,h2⟩:=h;simp only [ofTy,RV];exact ⟨_,rfl,qC.2 ⟨rv_ofTy a o _ _ h1,rv_ofTyC b o _ l h2⟩⟩
theorem rv_ofTyC:∀(τ:Ty) (o:Nat) (x:τ.den) (l:List V),RTy τ o x (.agg l)->RVL (ofTyC τ o x) l
 |.int _,_,_,l,h=>by simp [RTy]at h
 |.bool,_,_,l,h=>by simp [RTy]at h
 |.str,_,_,l,h=>by simp [RTy]at h
 |.flt,_,_,l,h=>by simp [RTy]at h
 |.cx,_,_,l,h=>by simp [RTy]at h
 |.err,_,_,l,h=>by simp [RTy]at h
 |.mset _,_,_,l,h=>by simp [RTy]at h
 |.sl t,o,x,l,h=>by simp [RTy]at h
 |.unit,_,_,l,h=>by simp only [RTy,V.agg.injEq]at h;simp [h,ofTyC,RVL]
 |.pair a b,o,x,l,h=>by
  simp only [RTy,V.agg.injEq]at h;obtain ⟨v1,m,rfl,h1,h2⟩:=h;simp only [ofTyC];exact qC.2 ⟨rv_ofTy a o _ _ h1,rv_ofTyC b o _ m h2⟩
end
theorem qwp{τ:Ty}(h:τ.one=true)(o:Nat)(x:τ.den):(ofTy τ o x).one=true:=by cases τ<;>first|rfl|simp [Ty.one]at h
theorem qqf:∀(τ:Ty),τ.qoW=true->∀(o:Nat) (x:τ.den),(ofTyC τ o x).all TV.one=true
 |.unit,_,o,x=>rfl
 |.pair a b,h,o,x=>by
  simp only [Ty.qoW,qi]at h;simp only [ofTyC,List.all_cons,qi];exact ⟨qwp h.1 o _,qqf b h.2 o _⟩
 |.int _,h,_,_|.bool,h,_,_|.str,h,_,_|.flt,h,_,_|.cx,h,_,_|.err,h,_,_|.mset _,h,_,_|.sl _,h,_,_=>by simp [Ty.qoW]at h
theorem qrA{τ:Ty}(h:τ.qcq=true)(o:Nat)(x:τ.den):(ofTy τ o x).oks=true:=by
 cases τ with
 |unit=>rfl
 |pair a b =>
  simp only [Ty.qcq,qi]at h;simp only [ofTy,TV.oks,TV.cells,List.all_cons,qi];exact ⟨qwp h.1 o _,qqf b h.2 o _⟩
 |mset t=>simp [Ty.qcq]at h
 |_=>rfl
theorem qmB:∀(τ:Ty),τ.qoW=true->∀(o:Nat) (x:τ.den),(ofTyC τ o x).length=τ.qbv
 |.unit,_,o,x=>rfl
 |.pair a b,h,o,x=>by
  simp only [Ty.qoW,qi]at h;simp [ofTyC,Ty.qbv,qmB b h.2 o x.2]
 |.int _,h,_,_|.bool,h,_,_|.str,h,_,_|.flt,h,_,_|.cx,h,_,_|.err,h,_,_|.mset _,h,_,_|.sl _,h,_,_=>by simp [Ty.qoW]at h
theorem qu4{τ:Ty}(h:τ.qcq=true)(o:Nat)(x:τ.den):(ofTy τ o x).cells.length=τ.qbv:=by
 cases τ with
 |unit=>rfl
 |pair a b =>
  simp only [Ty.qcq,qi]at h;simp [ofTy,TV.cells,Ty.qbv,qmB b h.2 o x.2]
 |_=>rfl
theorem ql6{τ:Ty}(h:τ.qcq=true){o:Nat}{x:τ.den}{v:V}(hr:RTy τ o x v):v.cells.length=τ.qbv/\v.oks=true:=by
 obtain ⟨h1,h2⟩:=RV.cells (qrA h o x) (rv_ofTy τ o x v hr);exact ⟨by rw [h1.length,qu4 h],h2⟩
theorem quD:∀{d d':Nat} {o' o:Nat},d'<=d->fits d o' o=true->fits d' o' o=true
 |_,0,_,_,_,_=>rfl
 |0,d'+1,_,_,h,_=>by omega
 |d+1,d'+1,o',o,h,hf=>by
  simp only [fits,Bool.or_eq_true,qi]at hf ⊢;exact hf.imp id λhf=>⟨hf.1,quD (by omega) hf.2⟩
theorem qvW{o' o d:Nat}{f:Fl}(h:fits (d+1) o' o=true)(hf:FlR o' f):FlR o f/\(o=2000\/fits d (nx o') (nx o)=true):=by
 simp only [fits,Bool.or_eq_true,qi,decide_eq_true_eq,beq_iff_eq,Bool.not_eq_true',decide_eq_false_iff_not]at h;rcases h with rfl|⟨⟨⟨h1,h2⟩,h3⟩,h4⟩
 ·exact ⟨⟨λh=>absurd rfl h,λh=>by cases h⟩,.inl rfl⟩
 ·exact ⟨⟨λ_=>by rw [hf.1 h2,h1],λh=>hf.2 (h3.resolve_left λh5=>h5 h)⟩,.inr h4⟩
theorem qsM:∀(d o:Nat),fits d o 2000=true
 |0,_=>rfl
 |d+1,o=>by simp [fits]
theorem qik:∀(τ:Ty) (o o':Nat) (x:τ.den) (v:V),fits τ.depth o o'=true->RTy τ o x v->RTy τ o' x v
 |.int _,_,_,_,v,_,h=>by simpa only [RTy]using h
 |.bool,_,_,_,v,_,h=>by simpa only [RTy]using h
 |.str,_,_,_,v,_,h=>by simpa only [RTy]using h
 |.flt,_,_,_,v,_,h=>by simpa only [RTy]using h
 |.cx,_,_,_,v,_,h=>by simpa only [RTy]using h
 |.err,_,_,_,v,_,h=>by simpa only [RTy]using h
 |.mset _,_,_,_,v,_,h=>by simpa only [RTy]using h
 |.unit,_,_,_,v,_,h=>by simpa only [RTy]using h
 |.sl t,o,o',l,v,hm,h=>by
  simp only [Ty.depth]at hm;simp only [RTy]at h ⊢;obtain ⟨f,c,l',rfl,hf,h⟩:=h;obtain ⟨h1,h2⟩:=qvW hm hf;refine ⟨f,c,l',rfl,h1,h.mono λa b hab=>qik t _ _ a b ?_ hab⟩;rcases h2 with rfl|h2
  ·exact qsM _ _
  ·exact h2
 |.pair a b,o,o',x,v,hm,h=>by
  simp only [Ty.depth]at hm;simp only [RTy]at h ⊢;obtain ⟨v1,l,rfl,h3,h4⟩:=h;exact ⟨v1,l,rfl,qik a _ _ _ _ (quD (by omega) hm) h3,qik b _ _ _ _ (quD (by omega) hm) h4⟩
theorem qdu:∀(τ:Ty) (o:Nat) (w:TV) (x:τ.den) (v:V),qhm τ o w=some x->RV w v->RTy τ o x v:=by
 have dflt:∀(τ:Ty) (o:Nat) (τ':Ty) (o':Nat) (y:τ'.den) (x:τ.den) (v:V),(if h:τ'=τ then (if fits τ.depth o' o=true then some (cast' h y)else none)else none)=some x->RTy τ' o' y v->RTy τ o x v:=by
  intro τ o τ' o' y x v h hr;split at h
  ·rename_i he;split at h
   ·rename_i hm;simp only [qe]at h;subst h;subst he;exact qik _ _ _ _ _ hm hr
   ·cases h
  ·cases h
 intro τ;induction τ with
 |int k =>
  intro o w x v h hr;cases w<;>simp only [qhm]at h<;>first|cases h|exact dflt _ _ _ _ _ _ _ h (by simpa only [RV]using hr)
 |bool =>
  intro o w x v h hr;cases w<;>simp only [qhm]at h<;>first|cases h|exact dflt _ _ _ _ _ _ _ h (by simpa only [RV]using hr)
 |str =>
  intro o w x v h hr;cases w<;>simp only [qhm]at h<;>first|cases h|exact dflt _ _ _ _ _ _ _ h (by simpa only [RV]using hr)
 |flt =>
  intro o w x v h hr;cases w<;>simp only [qhm]at h<;>first|cases h|exact dflt _ _ _ _ _ _ _ h (by simpa only [RV]using hr)
 |cx =>
  intro o w x v h hr;cases w<;>simp only [qhm]at h<;>first|cases h|exact dflt _ _ _ _ _ _ _ h (by simpa only [RV]using hr)
 |err =>
  intro o w x v h hr;cases w<;>simp only [qhm]at h<;>first|cases h|exact dflt _ _ _ _ _ _ _ h (by simpa only [RV]using hr)
 |mset t =>
  intro o w x v h hr;cases w<;>simp only [qhm]at h<;>first|cases h|exact dflt _ _ _ _ _ _ _ h (by simpa only [RV]using hr)
 |sl t ih =>
  intro o w x v h hr;cases w with
  |empty own =>
   simp only [qhm]at h;split at h
   ·rename_i ho;simp only [qe]at h;subst h;simp only [RV]at hr;obtain ⟨f,c,rfl,hf⟩:=hr;simp only [RTy];exact ⟨f,c,[],rfl,(qvW ho hf).1,.nil⟩
   ·cases h
  |t τ' o' y=>simp only [qhm]at h;exact dflt _ _ _ _ _ _ _ h (by simpa only [RV]using hr)
  |_=>simp [qhm]at h
 |unit =>
  intro o w x v h hr;cases w with
  |agg l =>
   cases l with
   |nil=>simp only [RV]at hr;obtain ⟨l',rfl,h1⟩:=hr;simp only [RVL]at h1;simp [RTy,h1]
   |cons=>simp [qhm]at h
  |t τ' o' y=>simp only [qhm]at h;exact dflt _ _ _ _ _ _ _ h (by simpa only [RV]using hr)
  |_=>simp [qhm]at h
 |pair a b iha ihb =>
  intro o w x v h hr;cases w with
  |agg l =>
   cases l with
   |nil=>simp [qhm]at h
   |cons u l =>
    simp only [qhm]at h;obtain ⟨y,hy,h⟩:=qh.1 h;obtain ⟨z,hz,h⟩:=qh.1 h;simp only [qe]at h;subst h;simp only [RV]at hr;obtain ⟨l',rfl,hl⟩:=hr;simp only [RVL]at hl;obtain ⟨v1,m,rfl,h1,h2⟩:=hl;simp only [RTy];exact ⟨v1,m,rfl,iha _ _ _ _ hy h1,ihb _ _ _ _ hz (by simp only [RV];exact ⟨m,rfl,h2⟩)⟩
  |t τ' o' y=>simp only [qhm]at h;exact dflt _ _ _ _ _ _ _ h (by simpa only [RV]using hr)
  |_=>simp [qhm]at h
theorem qvN:∀(ps:List (Ty×Nat)) (l:List TV) (x:denL (ps.map (·.1))) (l':List V),asL ps l=some x->RVL l l'->RVL (ofL ps x) l'
 |[],l,x,l',h,hr=>by
  cases l with
  |nil=>simpa [ofL]using hr
  |cons=>simp [asL]at h
 |[(τ,o)],l,x,l',h,hr=>by
  match l,h,hr with
  |[v],h,hr =>
   simp only [asL]at h;simp only [RVL]at hr;obtain ⟨u,m,rfl,h1,rfl⟩:=hr;simp only [ofL];exact qC.2 ⟨rv_ofTy _ _ _ _ (qdu _ _ _ _ _ h h1),qak⟩
  |[],h,hr=>simp [asL]at h
  |_::_::_,h,hr=>simp [asL]at h
 |(τ,o)::q::ps,l,x,l',h,hr=>by
  match l,h,hr with
  |[],h,hr=>simp [asL]at h
  |v::l,h,hr =>
   simp only [asL]at h;obtain ⟨y,hy,h⟩:=qh.1 h;obtain ⟨z,hz,h⟩:=qh.1 h;simp only [qe]at h;subst h;simp only [RVL]at hr;obtain ⟨u,m,rfl,h1,h2⟩:=hr;simp only [ofL];exact qC.2 ⟨rv_ofTy _ _ _ _ (qdu _ _ _ _ _ hy h1),qvN (q::ps) l _ _ hz h2⟩
theorem qvM{τ:Ty}{o:Nat}:∀(l:List TV) (x:List τ.den) (l':List V),qyB τ o l=some x->RVL l l'->All2 (RTy τ o) x l'
 |[],x,l',h,hr=>by simp only [qyB,qe]at h;simp only [RVL]at hr;subst h;subst hr;exact .nil
 |v::l,x,l',h,hr=>by
  simp only [qyB]at h;obtain ⟨y,hy,h⟩:=qh.1 h;obtain ⟨z,hz,h⟩:=qh.1 h;simp only [qe]at h;subst h;simp only [RVL]at hr;obtain ⟨u,m,rfl,h1,h2⟩:=hr;exact .cons (qdu _ _ _ _ _ hy h1) (qvM l _ _ hz h2)
theorem qrW(p:Bool)(u:Value):RV (qmL p u) (qc7 p u):=by
 unfold qmL qc7;split
 ·simp [RV,RTy]
 ·simp [RV,RTy]
 ·simp [RV,RTy]
 ·simp only [RV,RTy];exact ⟨0,rfl,Fl.qre⟩
 ·simp only [RV,RTy];exact ⟨0,0,rfl,Fl.qre,Fl.qre⟩
 ·cases p
  ·simp only [RV,qfc,qj,if_false];exact ⟨_,_,rfl,qfA rfl⟩
  ·simp [RV,qfc]
 ·rename_i h1 h2 h3 h4 h5 h6;split
  ·exact absurd rfl h6
  ·simp [RV]
theorem qvk{g:Value->TV}{h:Value->V}(hr:∀u,RV (g u) (h u)):∀l:List Value,RVL (l.map g) (l.map h)
 |[]=>qak
 |u::l=>qC.2 ⟨hr u,qvk hr l⟩
theorem qwC(p:Bool)(u:Value):RV (qnA p u) (ofConst p u):=by
 have key:=qrW p u;cases u<;>first|exact key|(simp only [qnA,ofConst,RV];exact ⟨_,rfl,qvk (qrW p) _⟩)
theorem qgJ:∀(τ:Ty) (o:Nat) (x:τ.den) (v:V),RTy τ o x v->RTy τ 1000 x (v.reflag qW)
 |.int _,_,_,v,h=>by simp only [RTy]at h ⊢;simp [h,V.reflag]
 |.bool,_,_,v,h=>by simp only [RTy]at h ⊢;simp [h,V.reflag]
 |.str,_,_,v,h=>by simp only [RTy]at h ⊢;simp [h,V.reflag]
 |.flt,_,_,v,h=>by simp only [RTy]at h ⊢;obtain ⟨b9,rfl,h9⟩:=h;exact ⟨b9,by simp [V.reflag],h9⟩
 |.cx,_,_,v,h=>by simp only [RTy]at h ⊢;obtain ⟨a9,b9,rfl,h8,h9⟩:=h;exact ⟨a9,b9,by simp [V.reflag],h8,h9⟩
 |.err,_,_,v,h=>by simp only [RTy]at h ⊢;rcases h with ⟨hx,rfl⟩|⟨hx,t9,rfl⟩;exact .inl ⟨hx,by simp [V.reflag]⟩;exact .inr ⟨hx,t9,by simp [V.reflag]⟩
 |.mset _,_,_,v,h=>by simp only [RTy]at h ⊢;obtain ⟨h8,rfl⟩:=h;exact ⟨h8,by simp [V.reflag]⟩
 |.sl t,o,l,v,h=>by
  simp only [RTy]at h ⊢;obtain ⟨f,c,l',rfl,_,h⟩:=h;refine ⟨.shared,c,reflagL qW l',by simp [V.reflag,qW],qhO rfl (by simp) (λ_=>rfl),?_⟩;rw [qaV];exact h.map λa b hab=>qgJ t _ a b hab
 |.unit,_,_,v,h=>by simp only [RTy]at h ⊢;simp [h,V.reflag,reflagL]
 |.pair a b,o,x,v,h=>by
  simp only [RTy]at h ⊢;obtain ⟨v1,l,rfl,h1,h2⟩:=h;refine ⟨v1.reflag qW,reflagL qW l,by simp [V.reflag,reflagL],qgJ a o _ _ h1,?_⟩;have:=qgJ b o _ _ h2;simpa only [V.reflag]using this
mutual
theorem RV.share:∀(x:TV) (v:V),RV x v->RV x.share (v.reflag qW)
 |.any rs,v,h=>by simp only [TV.share,RV]at h ⊢;rw [qf7];exact ⟨h.1,qew h.2⟩
 |.t τ o x,v,h=>by simp only [TV.share,RV]at h ⊢;exact qgJ τ o x v h
 |.clp τ x,v,h=>by
  simp only [TV.share,RV,RTy]at h ⊢;obtain ⟨f,l',rfl,_,h⟩:=h;refine ⟨.shared,true,reflagL qW l',by simp [V.reflag,qW],qhO rfl (by simp) (λ_=>rfl),?_⟩;rw [qaV];exact h.map λa b hab=>qgJ τ _ a b hab
 |.room a s,v,h=>by
  simp only [RV]at h;rcases a with _|a
  ·obtain ⟨_,n,rfl,h0⟩|⟨h9,_⟩:=h
   ·obtain rfl:=h0 rfl;simp only [TV.share,RV,V.reflag,qW];exact ⟨.shared,false,by simp,qhO rfl (by simp) (λ_=>rfl)⟩
   ·omega
  ·simp only [TV.share,RV];refine .inr ⟨Nat.le_refl _,?_⟩;obtain ⟨_,n,rfl,_⟩|⟨_,rfl|⟨f,hf0,rfl⟩⟩:=h
   ·by_cases hn:n=0
    ·exact .inr ⟨.shared,by simp,by simp [V.reflag,qW,hn]⟩
    ·exact .inl (by simp [V.reflag,qW,hn])
   ·exact .inl rfl
   ·exact .inr ⟨.shared,by simp,by simp [V.reflag,reflagL,qW]⟩
 |.empty own,v,h=>by simp only [TV.share,RV]at h ⊢;obtain ⟨f,c,rfl,_⟩:=h;exact ⟨.shared,c,by simp [V.reflag,reflagL,qW],qhO rfl (by simp) (λ_=>rfl)⟩
 |.val u,v,h=>by simp only [TV.share,RV]at h ⊢;simp [h,V.reflag]
 |.agg l,v,h=>by simp only [TV.share,RV]at h ⊢;obtain ⟨l',rfl,h⟩:=h;exact ⟨_,by simp only [V.reflag],RVL.share l l' h⟩
 |.tuple l,v,h=>by simp only [TV.share,RV]at h ⊢;obtain ⟨l',rfl,h⟩:=h;exact ⟨_,by simp only [V.reflag],RVL.share l l' h⟩
 |.fn g' a b,v,h=>by simp only [TV.share,RV]at h ⊢;obtain ⟨a',b',rfl,h1,h2⟩:=h;exact ⟨_,_,by simp only [V.reflag],RVL.share a a' h1,RVL.share b b' h2⟩
 |.ptr q o,v,h=>by simp only [TV.share,RV]at h ⊢;simp [h,V.reflag]
 |.mref q,v,h=>by simp only [TV.share,RV]at h ⊢;simp [h,V.reflag]
 |.bsl q _ _,v,h=>by simp only [TV.share,RV]at h ⊢;simp [h,V.reflag]
 |.yld q,v,h=>by simp only [TV.share,RV]at h ⊢;simp [h,V.reflag]
 |.lp ..,v,h=>by simp only [RV]at h
 |.cptr _ l,v,h=>by simp only [TV.share,RV]at h ⊢;obtain ⟨f,l',rfl,_,_,h⟩:=h;exact ⟨.shared,_,by simp only [V.reflag,qW],by simp,λ_=>rfl,RVL.share l l' h⟩
 |.iface t x,v,h=>by simp only [TV.share,RV]at h ⊢;obtain ⟨y,rfl,h⟩:=h;exact ⟨_,by simp only [V.reflag],RV.share x y h⟩
theorem RVL.share:∀(l:List TV) (l':List V),RVL l l'->RVL (shareL l) (reflagL qW l')
 |[],l',h=>by simp only [RVL]at h;simp [h,shareL,reflagL,RVL]
 |x::l,l',h=>by
  simp only [RVL]at h;obtain ⟨v,m,rfl,h1,h2⟩:=h;simp only [shareL,reflagL];exact qC.2 ⟨RV.share x v h1,RVL.share l m h2⟩
end
theorem qwb{o:Nat}:qbm (lo o)=qbm o:=by
 rw [Bool.eq_iff_iff,qeM,qeM];unfold lo;split<;>omega
theorem qFU{o:Nat}:nx (lo o)=lo (nx o):=by
 have h1:=@qwb o;unfold nx;rw [h1];cases ho:qbm o with
 |false=>rfl
 |true =>
  have:=qeM.1 ho;simp only [if_true];unfold lo;split<;>split<;>omega
theorem qDO{o:Nat}:lo o=2000↔o=2000:=by unfold lo;split<;>omega
theorem qCR{g:Fl->Fl}(hg:∀f,g f=.own↔f=.own){o:Nat}{f:Fl}(h:FlR o f):FlR (lo o) (g f) :=
 ⟨λh2=>by rw [hg f,qwb];exact h.1 (λe=>h2 (qDO.2 e)),λh1=>by unfold lo at h1;split at h1<;>omega⟩
theorem qtT{g:Fl->Fl}(hg:∀f,g f=.own↔f=.own):∀(τ:Ty) (o:Nat) (x:τ.den) (v:V),RTy τ o x v->RTy τ (lo o) x (v.reflag g)
 |.int _,_,_,v,h=>by simp only [RTy]at h ⊢;simp [h,V.reflag]
 |.bool,_,_,v,h=>by simp only [RTy]at h ⊢;simp [h,V.reflag]
 |.str,_,_,v,h=>by simp only [RTy]at h ⊢;simp [h,V.reflag]
 |.flt,_,_,v,h=>by simp only [RTy]at h ⊢;obtain ⟨b9,rfl,h9⟩:=h;exact ⟨b9,by simp [V.reflag],h9⟩
 |.cx,_,_,v,h=>by simp only [RTy]at h ⊢;obtain ⟨a9,b9,rfl,h8,h9⟩:=h;exact ⟨a9,b9,by simp [V.reflag],h8,h9⟩
 |.err,_,_,v,h=>by simp only [RTy]at h ⊢;rcases h with ⟨hx,rfl⟩|⟨hx,t9,rfl⟩;exact .inl ⟨hx,by simp [V.reflag]⟩;exact .inr ⟨hx,t9,by simp [V.reflag]⟩
 |.mset _,_,_,v,h=>by simp only [RTy]at h ⊢;obtain ⟨h8,rfl⟩:=h;exact ⟨h8,by simp [V.reflag]⟩
 |.sl t,o,l,v,h=>by
  simp only [RTy]at h ⊢;obtain ⟨f,c,l',rfl,hf,h⟩:=h;refine ⟨g f,c,reflagL g l',by simp [V.reflag],qCR hg hf,?_⟩;rw [qaV,qFU];exact h.map λa b hab=>qtT hg t _ a b hab
 |.unit,_,_,v,h=>by simp only [RTy]at h ⊢;simp [h,V.reflag,reflagL]
 |.pair a b,o,x,v,h=>by
  simp only [RTy]at h ⊢;obtain ⟨v1,l,rfl,h1,h2⟩:=h;refine ⟨v1.reflag g,reflagL g l,by simp [V.reflag,reflagL],qtT hg a o _ _ h1,?_⟩;have:=qtT hg b o _ _ h2;simpa only [V.reflag]using this
mutual
theorem RV.lo{g:Fl->Fl}(hg:∀f,g f=.own↔f=.own):∀(x:TV) (v:V),RV x v->RV x.qbk (v.reflag g)
 |.any rs,v,h=>by simp only [TV.qbk,RV]at h ⊢;rw [qf7];exact ⟨h.1,qew h.2⟩
 |.t τ o x,v,h=>by simp only [TV.qbk,RV]at h ⊢;exact qtT hg τ o x v h
 |.clp τ x,v,h=>by
  simp only [TV.qbk,RV]at h ⊢;obtain ⟨f,l',rfl,h0,h⟩:=h;refine ⟨g f,reflagL g l',by simp [V.reflag],λe=>h0 ((hg f).1 e),?_⟩;rw [qaV];exact h.map λa b hab=>qtT hg τ 0 a b hab
 |.room a s,v,h=>by
  simp only [TV.qbk,RV]at h ⊢;obtain ⟨h1,n,rfl,h0⟩|⟨h1,rfl|⟨f,hf0,rfl⟩⟩:=h
  ·exact .inl ⟨h1,n,by simp only [V.reflag,if_pos ((hg .own).2 rfl)],h0⟩
  ·exact .inr ⟨h1,.inl rfl⟩
  ·exact .inr ⟨h1,.inr ⟨g f,λe=>hf0 ((hg f).1 e),by simp [V.reflag,reflagL]⟩⟩
 |.empty own,v,h=>by simp only [TV.qbk,RV]at h ⊢;obtain ⟨f,c,rfl,h0⟩:=h;exact ⟨g f,c,by simp [V.reflag,reflagL],qCR hg h0⟩
 |.val u,v,h=>by simp only [TV.qbk,RV]at h ⊢;simp [h,V.reflag]
 |.agg l,v,h=>by simp only [TV.qbk,RV]at h ⊢;obtain ⟨l',rfl,h⟩:=h;exact ⟨_,by simp only [V.reflag],RVL.lo hg l l' h⟩
 |.tuple l,v,h=>by simp only [TV.qbk,RV]at h ⊢;obtain ⟨l',rfl,h⟩:=h;exact ⟨_,by simp only [V.reflag],RVL.lo hg l l' h⟩
 |.fn g' a b,v,h=>by simp only [TV.qbk,RV]at h ⊢;obtain ⟨a',b',rfl,h1,h2⟩:=h;exact ⟨_,_,by simp only [V.reflag],RVL.lo hg a a' h1,RVL.lo hg b b' h2⟩
 |.ptr q o,v,h=>by simp only [TV.qbk,RV]at h ⊢;simp [h,V.reflag]
 |.mref q,v,h=>by simp only [TV.qbk,RV]at h ⊢;simp [h,V.reflag]
 |.bsl q _ _,v,h=>by simp only [TV.qbk,RV]at h ⊢;simp [h,V.reflag]
 |.yld q,v,h=>by simp only [TV.qbk,RV]at h ⊢;simp [h,V.reflag]
 |.lp ..,v,h=>by simp only [RV]at h
 |.cptr _ l,v,h=>by simp only [TV.qbk,RV]at h ⊢;obtain ⟨f,l',rfl,h0,_,h⟩:=h;exact ⟨g f,_,by simp only [V.reflag],λe=>h0 ((hg f).1 e),λe=>(by cases e),RVL.lo hg l l' h⟩
 |.iface t x,v,h=>by simp only [TV.qbk,RV]at h ⊢;obtain ⟨y,rfl,h⟩:=h;exact ⟨_,by simp only [V.reflag],RV.lo hg x y h⟩
theorem RVL.lo{g:Fl->Fl}(hg:∀f,g f=.own↔f=.own):∀(l:List TV) (l':List V),RVL l l'->RVL (loosenL l) (reflagL g l')
 |[],l',h=>by simp only [RVL]at h;simp [h,loosenL,reflagL,RVL]
 |x::l,l',h=>by
  simp only [RVL]at h;obtain ⟨v,m,rfl,h1,h2⟩:=h;simp only [loosenL,reflagL];exact qC.2 ⟨RV.lo hg x v h1,RVL.lo hg l m h2⟩
end
mutual
theorem reflag_id:∀v:V,v.reflag (λf=>f)=v
 |.undef|.val _|.ptr .. | .yld _|.mref _|.bsl .. | .mp _|.lp ..=>by simp [V.reflag]
 |.cptr _ l=>by simp only [V.reflag,reflagL_id l]
 |.room ..=>by simp [V.reflag]
 |.sl f c l=>by simp only [V.reflag,reflagL_id l]
 |.fn g a b=>by simp only [V.reflag,reflagL_id a,reflagL_id b]
 |.iface t x=>by simp only [V.reflag,reflag_id x]
 |.agg l=>by simp only [V.reflag,reflagL_id l]
 |.tuple l=>by simp only [V.reflag,reflagL_id l]
theorem reflagL_id:∀l:List V,reflagL (λf=>f) l=l
 |[]=>rfl
 |v::l=>by simp only [reflagL,reflag_id v,reflagL_id l]
end
theorem RV.lo0{x:TV}{v:V}(h:RV x v):RV x.qbk v:=by
 have:=RV.lo (g:=λf=>f) (λf=>Iff.rfl) x v h
 rwa [reflag_id]at this
theorem qEd{o d:Nat}(h:sure o (d+1)=true):sure (nx o) d=true:=by
 unfold nx;cases ho:qbm o with
 |false =>
  rcases qks.1 ho with rfl|rfl|rfl
  ·simp [sure]at h
  ·simp [sure]
  ·simp [sure]at h
 |true =>
  have:=qeM.1 ho;simp only [if_true];unfold sure at h ⊢;by_cases h1:o<1000
  ·rw [if_pos h1]at h;rw [if_pos (by omega)];simp only [decide_eq_true_eq]at h ⊢;omega
  ·by_cases h2:o<2000
   ·by_cases h3:o-1<1000
    ·omega
    ·rw [if_neg h3,if_pos (by omega)]
   ·rw [if_neg h1,if_neg h2]at h;simp only [decide_eq_true_eq]at h;rw [if_neg (by omega),if_neg (by omega)];simp only [decide_eq_true_eq]<;>omega
theorem qAG{o d d':Nat}(h:sure o d=true)(hd:d'<=d):sure o d'=true:=by
 unfold sure at h ⊢;by_cases h1:o<1000
 ·rw [if_pos h1]at h ⊢;simp only [decide_eq_true_eq]at h ⊢;omega
 ·by_cases h2:o<2000
  ·rw [if_neg h1,if_pos h2]
  ·rw [if_neg h1,if_neg h2]at h ⊢;simp only [decide_eq_true_eq]at h ⊢;omega
theorem qwI{o d:Nat}{f:Fl}(h:sure o (d+1)=true)(hf:FlR o f):f≠.qai:=by
 cases ho:qbm o with
 |true=>rw [hf.own ho];simp
 |false =>
  rcases qks.1 ho with rfl|rfl|rfl
  ·simp [sure]at h
  ·rw [hf.2 rfl];simp
  ·simp [sure]at h
theorem qBF{l:List V}(h:∀x∈l,x.loose=false):looseL l=false:=by
 induction l with
 |nil=>rfl
 |cons a l ih =>
  simp only [looseL,Bool.or_eq_false_iff];exact ⟨h a (by simp),ih λx hx=>h x (by simp [hx])⟩
theorem qil:∀(τ:Ty) (o:Nat) (x:τ.den) (v:V),sure o τ.depth=true->RTy τ o x v->v.soft=false/\v.loose=false
 |.int _,_,_,v,_,h=>by simp only [RTy]at h;subst h;exact ⟨rfl,rfl⟩
 |.bool,_,_,v,_,h=>by simp only [RTy]at h;subst h;exact ⟨rfl,rfl⟩
 |.str,_,_,v,_,h=>by simp only [RTy]at h;subst h;exact ⟨rfl,rfl⟩
 |.flt,_,_,v,_,h=>by simp only [RTy]at h;obtain ⟨b9,rfl,h9⟩:=h;exact ⟨rfl,rfl⟩
 |.cx,_,_,v,_,h=>by simp only [RTy]at h;obtain ⟨a9,b9,rfl,h8,h9⟩:=h;exact ⟨rfl,rfl⟩
 |.err,_,_,v,_,h=>by simp only [RTy]at h;rcases h with ⟨_,rfl⟩|⟨_,t9,rfl⟩<;>exact ⟨rfl,rfl⟩
 |.mset _,_,_,v,_,h=>by simp only [RTy]at h;obtain ⟨h8,rfl⟩:=h;exact ⟨rfl,rfl⟩
 |.sl t,o,l,v,hf,h=>by
  simp only [RTy]at h;obtain ⟨f,c,l',rfl,ho,h⟩:=h;simp only [Ty.depth]at hf;have hnd:=qwI hf ho;have hall:∀b∈l',b.soft=false/\b.loose=false:=λb hb=>by
   obtain ⟨a,_,hr⟩:=qiv h b hb;exact qil t _ a b (qEd hf) hr
  simp only [V.soft,V.loose,Bool.or_eq_false_iff,decide_eq_false_iff_not,Bool.and_eq_false_iff];exact ⟨⟨.inl hnd,qCi λb hb=>(hall b hb).1⟩,hnd,qBF λb hb=>(hall b hb).2⟩
 |.unit,_,_,v,_,h=>by simp only [RTy]at h;subst h;exact ⟨rfl,rfl⟩
 |.pair a b,o,x,v,hf,h=>by
  simp only [RTy]at h;obtain ⟨v1,l,rfl,h1,h2⟩:=h;simp only [Ty.depth]at hf;have e1:=qil a o _ _ (qAG hf (by omega)) h1;have e2:=qil b o _ _ (qAG hf (by omega)) h2;simp only [V.soft,softL,V.loose,looseL,Bool.or_eq_false_iff]at e2 ⊢;exact ⟨⟨e1.1,e2.1⟩,e1.2,e2.2⟩
mutual
theorem RV.firm:∀(x:TV) (v:V),x.firm=true->RV x v->v.soft=false
 |.any rs,v,hf,h=>by simp [TV.firm]at hf
 |.t τ o x,v,hf,h=>by simp only [TV.firm]at hf;simp only [RV]at h;exact (qil τ o x v hf h).1
 |.clp τ x,v,hf,h=>by simp [TV.firm]at hf
 |.room a s,v,hf,h=>by simp [TV.firm]at hf
 |.empty own,v,hf,h=>by simp only [RV]at h;obtain ⟨f,c,rfl,_⟩:=h;simp [V.soft,softL]
 |.val u,v,hf,h=>by simp only [RV]at h;subst h;rfl
 |.agg l,v,hf,h=>by simp only [RV]at h;obtain ⟨l',rfl,h⟩:=h;simp only [TV.firm]at hf;simp only [V.soft];exact RVL.firm l l' hf h
 |.tuple l,v,hf,h=>by simp only [RV]at h;obtain ⟨l',rfl,h⟩:=h;simp only [TV.firm]at hf;simp only [V.soft];exact RVL.firm l l' hf h
 |.fn g a b,v,hf,h=>by
  simp only [RV]at h;obtain ⟨a',b',rfl,h1,h2⟩:=h;simp only [TV.firm,qi]at hf;simp only [V.soft,Bool.or_eq_false_iff];exact ⟨RVL.firm a a' hf.1 h1,RVL.firm b b' hf.2 h2⟩
 |.ptr q o,v,hf,h=>by simp only [RV]at h;subst h;rfl
 |.mref q,v,hf,h=>by simp only [RV]at h;subst h;rfl
 |.bsl q _ _,v,hf,h=>by simp only [RV]at h;subst h;rfl
 |.yld q,v,hf,h=>by simp only [RV]at h;subst h;rfl
 |.lp ..,v,hf,h=>by simp only [RV]at h
 |.cptr s l,v,hf,h=>by
  simp only [TV.firm,qi]at hf;simp only [RV]at h;obtain ⟨f,l',rfl,_,hsh,h⟩:=h;have:=hsh hf.1;subst this;simp only [V.soft,RVL.firm l l' hf.2 h]<;>rfl
 |.iface t x,v,hf,h=>by simp only [RV]at h;obtain ⟨y,rfl,h⟩:=h;simp only [TV.firm]at hf;simp only [V.soft];exact RV.firm x y hf h
theorem RVL.firm:∀(l:List TV) (l':List V),firmL l=true->RVL l l'->softL l'=false
 |[],l',hf,h=>by simp only [RVL]at h;subst h;rfl
 |x::l,l',hf,h=>by
  simp only [RVL]at h;obtain ⟨v,m,rfl,h1,h2⟩:=h;simp only [firmL,qi]at hf;simp only [softL,Bool.or_eq_false_iff];exact ⟨RV.firm x v hf.1 h1,RVL.firm l m hf.2 h2⟩
end
mutual
theorem RV.tight:∀(x:TV) (v:V),x.tight=true->RV x v->v.loose=false
 |.any rs,v,hf,h=>by simp [TV.tight]at hf
 |.t τ o x,v,hf,h=>by simp only [TV.tight]at hf;simp only [RV]at h;exact (qil τ o x v hf h).2
 |.clp τ x,v,hf,h=>by simp [TV.tight]at hf
 |.room a s,v,hf,h=>by simp [TV.tight]at hf
 |.empty o,v,hf,h=>by simp only [TV.tight]at hf;simp only [RV]at h;obtain ⟨f,c,rfl,h0⟩:=h;simp [V.loose,looseL,qwI hf h0]
 |.val u,v,hf,h=>by simp only [RV]at h;subst h;rfl
 |.agg l,v,hf,h=>by simp only [RV]at h;obtain ⟨l',rfl,h⟩:=h;simp only [TV.tight]at hf;simp only [V.loose];exact RVL.tight l l' hf h
 |.tuple l,v,hf,h=>by simp only [RV]at h;obtain ⟨l',rfl,h⟩:=h;simp only [TV.tight]at hf;simp only [V.loose];exact RVL.tight l l' hf h
 |.fn g a b,v,hf,h=>by
  simp only [RV]at h;obtain ⟨a',b',rfl,h1,h2⟩:=h;simp only [TV.tight,qi]at hf;simp only [V.loose,Bool.or_eq_false_iff];exact ⟨RVL.tight a a' hf.1 h1,RVL.tight b b' hf.2 h2⟩
 |.ptr q o,v,hf,h=>by simp only [RV]at h;subst h;rfl
 |.mref q,v,hf,h=>by simp only [RV]at h;subst h;rfl
 |.bsl q _ _,v,hf,h=>by simp only [RV]at h;subst h;rfl
 |.yld q,v,hf,h=>by simp only [RV]at h;subst h;rfl
 |.lp ..,v,hf,h=>by simp only [RV]at h
 |.cptr s l,v,hf,h=>by
  simp only [TV.tight,qi]at hf;simp only [RV]at h;obtain ⟨f,l',rfl,_,hsh,h⟩:=h;have:=hsh hf.1;subst this;simp only [V.loose,RVL.tight l l' hf.2 h]<;>rfl
 |.iface t x,v,hf,h=>by simp only [RV]at h;obtain ⟨y,rfl,h⟩:=h;simp only [TV.tight]at hf;simp only [V.loose];exact RV.tight x y hf h
theorem RVL.tight:∀(l:List TV) (l':List V),tightL l=true->RVL l l'->looseL l'=false
 |[],l',hf,h=>by simp only [RVL]at h;subst h;rfl
 |x::l,l',hf,h=>by
  simp only [RVL]at h;obtain ⟨v,m,rfl,h1,h2⟩:=h;simp only [tightL,qi]at hf;simp only [looseL,Bool.or_eq_false_iff];exact ⟨RV.tight x v hf.1 h1,RVL.tight l m hf.2 h2⟩
end
theorem qrU{bx:Root->Option (List V)}:∀(τ:Ty) (o:Nat) (x:τ.den) (v:V),τ.isSet=false->RTy τ o x v->peekV bx v=some (v.reflag qW)
 |.int _,o,x,v,hns,h=>by simp only [RTy]at h;subst h;rfl
 |.bool,o,x,v,hns,h=>by simp only [RTy]at h;subst h;rfl
 |.str,o,x,v,hns,h=>by simp only [RTy]at h;subst h;rfl
 |.flt,o,x,v,hns,h=>by simp only [RTy]at h;obtain ⟨b9,rfl,h9⟩:=h;rfl
 |.cx,o,x,v,hns,h=>by simp only [RTy]at h;obtain ⟨a9,b9,rfl,h8,h9⟩:=h;rfl
 |.err,o,x,v,hns,h=>by simp only [RTy]at h;rcases h with ⟨_,rfl⟩|⟨_,t9,rfl⟩<;>rfl
 |.mset _,o,x,v,hns,h=>by simp [Ty.isSet]at hns
 |.sl _,o,x,v,hns,h=>by simp only [RTy]at h;obtain ⟨f,c,l',rfl,_⟩:=h;rfl
 |.unit,o,x,v,hns,h=>by simp only [RTy]at h;subst h;rfl
 |.pair a b,o,x,v,hns,h=>by
  simp only [RTy]at h;simp only [Ty.isSet,Bool.or_eq_false_iff]at hns;obtain ⟨v1,l,rfl,h1,h2⟩:=h;have e1:=qrU (bx:=bx) a o x.1 v1 hns.1 h1;have e2:=qrU (bx:=bx) b o x.2 _ hns.2 h2;simp only [peekV,V.reflag]at e2 ⊢;obtain ⟨m,hm,he⟩:=qf.1 e2;simp only [V.agg.injEq]at he;subst he;simp only [peekL,e1,hm,reflagL,qn]
theorem qsw{k:IntKind}:∀{l:List TV} {xs:List Int} {l':List V},qsv k l=some xs->RVL l l'->l'=xs.map λx=>V.val (.int k x)
 |[],xs,l',h,hr=>by
  simp only [qsv,qe]at h;subst h;simp only [RVL]at hr;rw [hr]<;>rfl
 |.t (.int k') o x::l,xs,l',h,hr=>by
  simp only [qsv]at h;split at h
  ·rename_i hk;obtain ⟨m,hm,rfl⟩:=qf.1 h;simp only [RVL]at hr;obtain ⟨v,vs,rfl,h1,h2⟩:=hr;simp only [RV,RTy]at h1;rw [h1,qsw hm h2,hk];rfl
  ·cases h
theorem qxk{k:IntKind}(xs:List Int):reflagL qW (xs.map λx=>V.val (.int k x))=(xs.map λx=>V.val (.int k x))/\(xs.map λx=>V.val (.int k x)).all V.one=true/\ptrsL (xs.map λx=>V.val (.int k x))=[]:=by
 induction xs with
 |nil=>exact ⟨rfl,rfl,rfl⟩
 |cons x xs ih=>simp only [qm,reflagL,V.reflag,List.all_cons,ptrsL,V.qx,ih.1,ih.2.1,ih.2.2];exact ⟨trivial,by simp [V.one],rfl⟩
theorem qsr{k:IntKind}{o:Nat}:∀(xs:List Int),All2 (RTy (.int k) o) xs (xs.map λx=>V.val (.int k x))
 |[]=>.nil
 |x::xs=>.cons (by simp only [RTy]) (qsr xs)
mutual
theorem peekTV_ok{bt:Root->Option (List TV)}{bx:Root->Option (List V)}(hb:∀r c,bt r=some c->∃c',bx r=some c'/\RVL c c'/\(r.slot<16384->qhq c'=false)):∀(x y:TV) (v:V),peekTV bt x=some y->RV x v->∃u,peekV bx v=some u/\RV y u
 |.any _,y,v,h,hr=>by simp [peekTV]at h
 |.val w,y,v,h,hr=>by
  simp only [peekTV,qe]at h;subst h;simp only [RV]at hr;subst hr;exact ⟨.val w,rfl,by simp [RV]⟩
 |.t τ o x,y,v,h,hr=>by
  simp only [peekTV]at h;cases hs:τ.isSet with
  |true=>rw [hs]at h;cases h
  |false =>
   rw [hs]at h;simp only [cond_false,qe]at h;subst h;simp only [RV]at hr;exact ⟨_,qrU τ o x v hs hr,by simp only [RV];exact qgJ τ o x v hr⟩
 |.mref _,y,v,h,hr=>by simp [peekTV]at h
 |.yld _,y,v,h,hr=>by simp [peekTV]at h
 |.lp ..,y,v,h,hr=>by simp [peekTV]at h
 |.bsl r off n,y,v,h,hr=>by
  simp only [peekTV]at h;split at h
  ·rename_i c hc;split at h
   ·rename_i hle;obtain ⟨xs,hxs,rfl⟩:=qf.1 h;simp only [RV]at hr;subst hr;obtain ⟨c',hc',hrc,hmp⟩:=hb r c hc;have hl:=qsw hxs ((hrc.drop off).take n);obtain ⟨e1,e2,e3⟩:=qxk (k:=.i64) xs;refine ⟨.sl .shared false (reflagL qW ((c'.drop off).take n)),?_,?_⟩
    ·simp only [peekV,hc'];rw [if_pos ⟨qfj (qaY hrc) (hmp hle.2),by rw [hrc.length];exact hle.1,by rw [hl,e1];exact e2,by rw [hl];exact e3⟩]
    ·simp only [RV,RTy];refine ⟨.shared,false,_,rfl,⟨λ_=>by simp [qbm],λ_=>rfl⟩,?_⟩;rw [hl,e1];exact qsr (o:=0) xs
   ·cases h
  ·cases h
 |.clp τ x,y,v,h,hr=>by
  simp only [peekTV,qe]at h;subst h;have h2:=RV.share (.clp τ x) v hr;simp only [RV]at hr;obtain ⟨f,l',rfl,_,_⟩:=hr;exact ⟨_,rfl,h2⟩
 |.room a s,y,v,h,hr=>by simp [peekTV]at h
 |.empty o,y,v,h,hr=>by
  simp only [peekTV,qe]at h;subst h;have h2:=RV.share (.empty o) v hr;simp only [RV]at hr;obtain ⟨f,c,rfl,_⟩:=hr;exact ⟨_,rfl,h2⟩
 |.agg l,y,v,h,hr=>by
  simp only [peekTV]at h;obtain ⟨m,hm,rfl⟩:=qf.1 h;simp only [RV]at hr;obtain ⟨l',rfl,hl⟩:=hr;obtain ⟨u,hu,hru⟩:=peekTL_ok hb l m l' hm hl;exact ⟨.agg u,by simp only [peekV,hu,qn],by simp only [RV];exact ⟨u,rfl,hru⟩⟩
 |.tuple l,y,v,h,hr=>by
  simp only [peekTV]at h;obtain ⟨m,hm,rfl⟩:=qf.1 h;simp only [RV]at hr;obtain ⟨l',rfl,hl⟩:=hr;obtain ⟨u,hu,hru⟩:=peekTL_ok hb l m l' hm hl;exact ⟨.tuple u,by simp only [peekV,hu,qn],by simp only [RV];exact ⟨u,rfl,hru⟩⟩
 |.fn g a b,y,v,h,hr=>by
  simp only [peekTV]at h;split at h
  ·rename_i p q hp hq;simp only [qe]at h;subst h;simp only [RV]at hr;obtain ⟨a',b',rfl,h1,h2⟩:=hr;obtain ⟨u,hu,hru⟩:=peekTL_ok hb a p a' hp h1;obtain ⟨w,hw,hrw⟩:=peekTL_ok hb b q b' hq h2;exact ⟨.fn g u w,by simp only [peekV,hu,hw],by simp only [RV];exact ⟨u,w,rfl,hru,hrw⟩⟩
  ·cases h
 |.ptr r off,y,v,h,hr=>by
  simp only [peekTV]at h;split at h
  ·rename_i c hc;split at h
   ·rename_i hle;simp only [qe]at h;subst h;simp only [RV]at hr;subst hr;obtain ⟨c',hc',hrc,hmp⟩:=hb r c hc;refine ⟨.cptr .shared (reflagL qW (c'.drop off)),?_,?_⟩
    ·simp only [peekV,hc'];rw [if_pos ⟨qfj (qaY hrc) (hmp hle.2),by rw [hrc.length];exact hle.1⟩]
    ·simp only [RV];exact ⟨.shared,_,rfl,by simp,λ_=>rfl,RVL.share _ _ (hrc.drop off)⟩
   ·cases h
  ·cases h
 |.cptr _ cs,y,v,h,hr=>by
  simp only [peekTV,qe]at h;subst h;simp only [RV]at hr;obtain ⟨f,l',rfl,_,_,hl⟩:=hr;refine ⟨.cptr .shared (reflagL qW l'),rfl,?_⟩;simp only [RV];exact ⟨.shared,_,rfl,by simp,λ_=>rfl,RVL.share _ _ hl⟩
 |.iface t x,y,v,h,hr=>by
  simp only [peekTV]at h;obtain ⟨m,hm,rfl⟩:=qf.1 h;simp only [RV]at hr;obtain ⟨l',rfl,hl⟩:=hr;obtain ⟨u,hu,hru⟩:=peekTV_ok hb x m l' hm hl;exact ⟨.iface t u,by simp only [peekV,hu,qn],by simp only [RV];exact ⟨u,rfl,hru⟩⟩
theorem peekTL_ok{bt:Root->Option (List TV)}{bx:Root->Option (List V)}(hb:∀r c,bt r=some c->∃c',bx r=some c'/\RVL c c'/\(r.slot<16384->qhq c'=false)):∀(l m:List TV) (l':List V),peekTL bt l=some m->RVL l l'->∃u,peekL bx l'=some u/\RVL m u
 |[],m,l',h,hr=>by
  simp only [peekTL,qe]at h;subst h;simp only [RVL]at hr;subst hr;exact ⟨[],rfl,qak⟩
 |x::l,m,l',h,hr=>by
  simp only [peekTL]at h;split at h
  ·rename_i p q hp hq;simp only [qe]at h;subst h;simp only [RVL]at hr;obtain ⟨v,vs,rfl,h1,h2⟩:=hr;obtain ⟨u,hu,hru⟩:=peekTV_ok hb x p v hp h1;obtain ⟨w,hw,hrw⟩:=peekTL_ok hb l q vs hq h2;exact ⟨u::w,by simp only [peekL,hu,hw],qC.2 ⟨hru,hrw⟩⟩
  ·cases h
end
theorem qBL{l:List V}(h:∀x∈l,x.qc2=true):mineL l=true:=by
 induction l with
 |nil=>rfl
 |cons x l ih=>simp only [mineL,qi];exact ⟨h x (by simp),ih λy hy=>h y (by simp [hy])⟩
theorem qnp:∀(τ:Ty) (o:Nat) (x:τ.den) (v:V),qt6 τ o=true->RTy τ o x v->v.qc2=true
 |.int _,o,x,v,hm,h=>by simp only [RTy]at h;subst h;rfl
 |.bool,o,x,v,hm,h=>by simp only [RTy]at h;subst h;rfl
 |.str,o,x,v,hm,h=>by simp only [RTy]at h;subst h;rfl
 |.flt,o,x,v,hm,h=>by simp only [RTy]at h;obtain ⟨b9,rfl,h9⟩:=h;rfl
 |.cx,o,x,v,hm,h=>by simp only [RTy]at h;obtain ⟨a9,b9,rfl,h8,h9⟩:=h;rfl
 |.err,o,x,v,hm,h=>by simp only [RTy]at h;rcases h with ⟨_,rfl⟩|⟨_,t9,rfl⟩<;>rfl
 |.mset _,o,x,v,hm,h=>by simp [qt6]at hm
 |.sl t,o,x,v,hm,h=>by
  simp only [qt6,qi]at hm;simp only [RTy]at h;obtain ⟨f,c,l',rfl,hf,hall⟩:=h;simp only [V.qc2,qi,decide_eq_true_eq];refine ⟨hf.own hm.1,qBL λy hy=>?_⟩;obtain ⟨a,_,ha⟩:=qiv hall y hy;exact qnp t _ a y hm.2 ha
 |.unit,o,x,v,hm,h=>by simp only [RTy]at h;subst h;rfl
 |.pair a b,o,x,v,hm,h=>by
  simp only [qt6,qi]at hm;simp only [RTy]at h;obtain ⟨v1,l,rfl,h1,h2⟩:=h;have e1:=qnp a o x.1 v1 hm.1 h1;have e2:=qnp b o x.2 _ hm.2 h2;simp only [V.qc2]at e2 ⊢;simp only [mineL,qi];exact ⟨e1,e2⟩
mutual
theorem RV.qc2:∀(x:TV) (v:V),x.qc2=true->RV x v->v.qc2=true
 |.any _,v,hm,hr=>by simp [TV.qc2]at hm
 |.val w,v,hm,hr=>by simp only [RV]at hr;subst hr;rfl
 |.t τ o x,v,hm,hr=>by simp only [RV]at hr;exact qnp τ o x v (by simpa only [TV.qc2]using hm) hr
 |.clp τ x,v,hm,hr=>by simp [TV.qc2]at hm
 |.room a s,v,hm,hr=>by simp [TV.qc2]at hm
 |.empty o,v,hm,hr=>by
  simp only [TV.qc2]at hm;simp only [RV]at hr;obtain ⟨f,c,rfl,hf⟩:=hr;simp only [V.qc2,qi,decide_eq_true_eq];exact ⟨hf.own hm,rfl⟩
 |.agg l,v,hm,hr=>by
  simp only [TV.qc2]at hm;simp only [RV]at hr;obtain ⟨l',rfl,hl⟩:=hr;simp only [V.qc2];exact RVL.qc2 l l' hm hl
 |.tuple l,v,hm,hr=>by
  simp only [TV.qc2]at hm;simp only [RV]at hr;obtain ⟨l',rfl,hl⟩:=hr;simp only [V.qc2];exact RVL.qc2 l l' hm hl
 |.fn g a b,v,hm,hr=>by
  simp only [TV.qc2,qi]at hm;simp only [RV]at hr;obtain ⟨a',b',rfl,h1,h2⟩:=hr;simp only [V.qc2,qi];exact ⟨RVL.qc2 a a' hm.1 h1,RVL.qc2 b b' hm.2 h2⟩
 |.ptr ..,v,hm,hr=>by simp [TV.qc2]at hm
 |.mref _,v,hm,hr=>by simp [TV.qc2]at hm
 |.bsl ..,v,hm,hr=>by simp [TV.qc2]at hm
 |.yld _,v,hm,hr=>by simp [TV.qc2]at hm
 |.lp ..,v,hm,hr=>by simp [TV.qc2]at hm
 |.cptr ..,v,hm,hr=>by simp [TV.qc2]at hm
 |.iface t x,v,hm,hr=>by
  simp only [TV.qc2]at hm;simp only [RV]at hr;obtain ⟨y,rfl,hy⟩:=hr;simp only [V.qc2];exact RV.qc2 x y hm hy
theorem RVL.qc2:∀(l:List TV) (l':List V),mineTL l=true->RVL l l'->mineL l'=true
 |[],l',hm,hr=>by simp only [RVL]at hr;subst hr;rfl
 |x::l,l',hm,hr=>by
  simp only [mineTL,qi]at hm;simp only [RVL]at hr;obtain ⟨v,m,rfl,h1,h2⟩:=hr;simp only [mineL,qi];exact ⟨RV.qc2 x v hm.1 h1,RVL.qc2 l m hm.2 h2⟩
end
end
section
variable {P:Program} {H:Hints} {f:FuncId}
theorem qw3(p:Bool)(u:Value):RVL (qmL p u).cells (qc7 p u).cells:=by
 have h:=qrW p u;have h1:(qmL p u).cells=[qmL p u]:=by unfold qmL;split<;>(try split)<;>rfl
 have h2:(qc7 p u).cells=[qc7 p u]:=by unfold qc7 qfc;split<;>(try split)<;>rfl
 rw [h1,h2];exact qC.2 ⟨h,qak⟩
theorem qun(p:Bool)(u:Value):RVL (qnA p u).cells (ofConst p u).cells:=by
 have key:=qw3 p u;cases u<;>first|exact key|exact qvk (qrW p) _
theorem qiZ{t:TypeId}{z:TV}(h:qud P H f t=some z):∃z',zeroOf P H f t=some z'/\RV z z'/\RVL z.cells z'.cells:=by
 unfold qud at h;obtain ⟨u,hu,rfl⟩:=qf.1 h;exact ⟨ofConst (H.precise f) u,by unfold zeroOf;rw [hu];rfl,qwC _ _,qun _ _⟩
theorem qk9{cs vs:List TV}{cs' vs':List V}{off:Nat}(h:RVL cs cs')(hv:RVL vs vs'):RVL (qma cs off vs) (qV cs' off vs'):=by
 unfold qma qV;rw [hv.length];exact ((h.take off).append hv).append (h.drop _)
theorem qnb(place:Nat->Option (Nat×Nat)):∀(is:List Nat) (xs:List TV) (ys:List V) (cs r:List TV) (cs':List V),RVL xs ys->RVL cs cs'->qsK place cs (is.zip xs)=some r ->
  ∃r',qhv place cs' (is.zip ys)=some r'/\RVL r r'
 |[],xs,ys,cs,r,cs',hx,hc,h=>by simp only [List.zip_nil_left,qsK,qe]at h;subst h;exact ⟨cs',by simp [qhv],hc⟩
 |i::is,[],ys,cs,r,cs',hx,hc,h=>by
  simp only [RVL]at hx;subst hx;simp only [List.zip_nil_right,qsK,qe]at h;subst h;exact ⟨cs',by simp [qhv],hc⟩
 |i::is,x::xs,ys,cs,r,cs',hx,hc,h=>by
  simp only [RVL]at hx;obtain ⟨v,m,rfl,h1,h2⟩:=hx;simp only [List.zip_cons_cons,qsK]at h;simp only [List.zip_cons_cons,qhv];split at h
  ·cases h
  ·rename_i off size hp;rw [hp];simp only
   split at h
   ·cases h
   ·rename_i hn;simp only [not_or,Decidable.not_not,Bool.not_eq_false]at hn;obtain ⟨hl,ho,hk⟩:=hn;obtain ⟨hcells,hko⟩:=RV.cells hk h1;rw [if_neg]
    ·exact qnb place is xs m _ r _ h2 (qk9 hc hcells) h
    ·rw [hcells.length,hc.length,hko];simp only [not_or,Decidable.not_not,Bool.not_eq_false];exact ⟨hl,ho,trivial⟩
theorem qAN{t:TypeId}{is:List Nat}{xs:List TV}{ys:List V}{x:TV}(hx:RVL xs ys)(h:qAM P H f t (is.zip xs)=some x) :
  ∃v,qqJ P H f t (is.zip ys)=some v/\RV x v:=by
 unfold qAM at h;unfold qqJ;split at h
 ·rename_i z fields hz hu;obtain ⟨z',hz',_,hcz⟩:=qiZ hz;split at h
  ·rename_i places hpl;obtain ⟨l,hl,rfl⟩:=qf.1 h;obtain ⟨l',hl',hr⟩:=qnb _ _ _ _ _ _ _ hx hcz hl;refine ⟨.agg l',?_,by simp only [RV];exact ⟨l',rfl,hr⟩⟩;rw [hz',hu];simp only [hpl,hl',qn]
  ·cases h
 ·rename_i z n elem hz hu;obtain ⟨z',hz',_,hcz⟩:=qiZ hz;split at h
  ·rename_i ie hie;obtain ⟨l,hl,rfl⟩:=qf.1 h;obtain ⟨l',hl',hr⟩:=qnb _ _ _ _ _ _ _ hx hcz hl;refine ⟨.agg l',?_,by simp only [RV];exact ⟨l',rfl,hr⟩⟩;rw [hz',hu];simp only [hie,hl',qn]
  ·cases h
 ·cases h
theorem qvQ{agg:Bool}{s:Nat}:∀(n:Nat) {cs:List TV} {cs':List V},RVL cs cs'->RVL (qmr agg s n cs) (chunk agg s n cs')
 |0,_,_,_=>by simp [qmr,chunk,RVL]
 |n+1,cs,cs',h=>by
  simp only [qmr,chunk];refine qC.2 ⟨?_,qvQ n (h.drop s)⟩;cases agg with
  |true=>simp only [if_true,RV];exact ⟨_,rfl,h.take s⟩
  |false =>
   simp only [qj,if_false];cases cs with
   |nil=>simp only [RVL]at h;subst h;exact qcV []
   |cons y cs=>simp only [RVL]at h;obtain ⟨v,m,rfl,h1,_⟩:=h;exact h1
theorem qpy{t:TypeId}{len:Nat}{is:List Nat}{xs:List TV}{ys:List V}{x:TV}(hx:RVL xs ys)(h:qjW P H f t len (is.zip xs)=some x) :
  ∃v,qer P H f t len (is.zip ys)=some v/\RV x v:=by
 unfold qjW at h;unfold qer;split at h
 ·rename_i elem hu;rw [hu];simp only;split at h
  ·rename_i ie z τ hie hz hτ;obtain ⟨z',hz',_,hcz⟩:=qiZ hz;rw [hie,hz'];simp only;split at h
   ·cases h
   ·rename_i hn;simp only [not_or]at hn;rw [if_neg (by rw [hcz.length];simp only [not_or];exact ⟨hn.1,hn.2.1,hn.2.2.1,hn.2.2.2.1⟩)];split at h
    ·rename_i cs hcs;obtain ⟨cs',hcs',hr⟩:=qnb _ _ _ _ _ _ _ hx (RVL.flatten hcz) hcs;rw [hcs'];simp only;split at h
     ·rename_i hc;simp only [qi,List.isEmpty_iff]at hc;obtain ⟨hc,hup⟩:=hc;obtain ⟨hup1,hup2⟩:=qBQ hup;obtain ⟨l,hl,rfl⟩:=qf.1 h;have hp:ptrsL cs'=[]:=by
       apply List.eq_nil_iff_forall_not_mem.2;intro r hrr;have:=RVL.qx cs cs' hr r hrr;rw [hc.2]at this;cases this
      rw [if_pos ⟨RVL.qFV hc.1 hr,by rw [hp];rfl⟩];refine ⟨_,rfl,?_⟩;simp only [RV,RTy];exact ⟨.own,false,_,rfl,qfA hup,by rw [hup1];exact qvM _ _ _ hl (qvQ _ hr)⟩
     ·cases h
    ·cases h
  ·cases h
 ·cases h
theorem qen{t:TypeId}{cs:List TV}{cs':List V}{x:TV}(h:qbd P t cs=some x)(hc:RVL cs cs'):∃v,qaj P t cs'=some v/\RV x v:=by
 unfold qbd at h;unfold qaj;split at h
 ·cases h
 ·rename_i d hd;rw [hd];simp only;split at h
  ·rename_i ha;rw [if_pos ha];split at h
   ·rename_i hl;cases h;rw [if_pos (by rw [hc.length];exact hl)];exact ⟨_,rfl,by simp only [RV];exact ⟨_,rfl,hc.take _⟩⟩
   ·cases h
  ·rename_i ha;rw [if_neg ha];obtain ⟨v,hv,hr⟩:=RVL.head hc h;exact ⟨v,hv,hr⟩
theorem qAP{t:TypeId}{x y:TV}{v:V}{fd:Nat}(h:qAO P t x fd=some y)(hx:RV x v):∃u,qqK P t v fd=some u/\RV y u:=by
 unfold qAO at h;split at h
 ·rename_i fields cs hu;simp only [RV]at hx;obtain ⟨cs',rfl,hc⟩:=hx;unfold qqK;rw [hu];simp only;split at h
  ·rename_i d hd;rw [hd];simp only;exact qen h (hc.drop _)
  ·cases h
 ·cases h
theorem qr8{t:TypeId}{x y:TV}{v:V}{fd:Nat}(h:qmh P t x fd=some y)(hx:RV x v):∃u,qcW P t v fd=some u/\RV y u:=by
 unfold qmh at h;unfold qcW;split at h
 ·rename_i fields hu;rw [hu];simp only;split at h
  ·rename_i d hd;rw [hd];simp only;split at h
   ·cases h
   ·rename_i h0;rw [if_neg h0];split at h
    ·rename_i r off;cases h;simp only [RV]at hx;subst hx;exact ⟨_,rfl,by simp [RV]⟩
    ·rename_i sh cs;simp only [RV]at hx;obtain ⟨f',cs',rfl,hf0,hsh,hc⟩:=hx;split at h
     ·rename_i hl;cases h;simp only
      rw [if_pos (by rw [hc.length];exact hl)];exact ⟨_,rfl,by simp only [RV];exact ⟨_,_,rfl,hf0,hsh,hc.drop _⟩⟩
     ·cases h
    ·cases h
  ·cases h
 ·cases h
theorem qld{R:Type}{i:Int}{k:Nat->Option R}{r:R}:∀{n j:Nat},qEj R i k n j=some r->∃m,j<=m/\m<j+n/\i=(m:Int)/\k m=some r
 |0,j,h=>by simp [qEj]at h
 |n+1,j,h=>by
  simp only [qEj]at h;cases hd:decide (i=(j:Int))with
  |true=>rw [hd]at h;exact ⟨j,Nat.le_refl _,by omega,of_decide_eq_true hd,h⟩
  |false =>
   rw [hd]at h;obtain ⟨m,h1,h2,h3,h4⟩:=qld (n:=n) (j:=j+1) h;exact ⟨m,by omega,by omega,h3,h4⟩
theorem qo6{x:TV}{n:Int}{v:V}(h:qya x=some n)(hx:RV x v):∃k,v=.val (.int k n):=by
 unfold qya at h;split at h
 ·rename_i k o m;cases h;simp only [RV,RTy]at hx;exact ⟨k,hx⟩
 ·cases h
theorem qgA{k:IntKind}{n:Int}(h:0<=n):qkO (.val (.int k n))=some n.toNat:=by simp [qkO,h]
theorem qr2{α:Type}{l r:List α}{a b:Int}(h:slc l a b=some r):0<=a/\a<=b/\b<=l.length/\r=(l.take b.toNat).drop a.toNat:=by
 unfold slc at h;split at h
 ·rename_i hc;cases h;exact ⟨hc.1,hc.2.1,hc.2.2,rfl⟩
 ·cases h
theorem qne{α:Type}{l:List α}{n:Int}{e:α}(h:idx l n=some e):0<=n/\l[n.toNat]?=some e:=by
 unfold idx at h;split at h
 ·rename_i hc;exact ⟨hc,h⟩
 ·cases h
theorem qfT{α:Type}{l l2 r:List α}(h:app l l2=some r):l.length+l2.length<=4294967296/\r=l++l2:=by
 unfold app at h;split at h
 ·rename_i hc;cases h;exact ⟨hc,rfl⟩
 ·cases h
theorem qBM{α:Type}{z:α}{n:Int}{r:List α}(h:mkS z n=some r):0<=n/\n<=4294967296/\r=List.replicate n.toNat z:=by
 unfold mkS at h;split at h
 ·rename_i hc;cases h;exact ⟨hc.1,hc.2,rfl⟩
 ·cases h
theorem qea{τ:Ty}(he:τ.qcq=true){o:Nat}{l:List τ.den}{l':List V}(h:All2 (RTy τ o) l l'):∀e∈l',e.cells.length=τ.qbv/\e.oks=true/\e.qx=[]:=λe he'=>by
 obtain ⟨a,_,hr⟩:=qiv h e he';obtain ⟨h1,h2⟩:=ql6 he hr;exact ⟨h1,h2,qdW _ _ _ _ hr⟩
theorem qyt{τ:Ty}{o:Nat}{l:List τ.den}{l':List V}(h:All2 (RTy τ o) l l'):ptrsL l'=[]:=by
 apply List.eq_nil_iff_forall_not_mem.2;intro r hr;obtain ⟨v,hv,hrv⟩:=qoD.1 hr;obtain ⟨a,_,h2⟩:=qiv h v hv;rw [qdW _ _ _ _ h2]at hrv;cases hrv
theorem qgl{v:V}(h:v.qx=[]):ptrsL v.cells=[]:=by
 cases v<;>first|exact h|(simp only [V.cells,ptrsL,List.append_nil];exact h)
theorem qi9{τ:Ty}{elem:TypeId}{o:Nat}{l:List τ.den}{l':List V}{n:Int}{e:τ.den}{k:IntKind}{t:TypeId}{fl:Fl}{c sh:Bool}(hsh:sh=true->fl=.shared)(hu:P.underlying t=some (.slice elem))(hall:All2 (RTy τ o) l l')(hc:P.cellsOf elem=τ.qbv)(h0:τ.qbv≠0)(he:τ.qcq=true)
  (h:idx l n=some e):∃v,qbr P t (.sl fl c l') (.val (.int k n))=some v/\RV (.cptr sh (ofTy τ (dl o) e).cells) v:=by
 obtain ⟨h1,h2⟩:=qne h;obtain ⟨b,hb,hr⟩:=hall.get h2;obtain ⟨hl,hk⟩:=ql6 he hr;refine ⟨.cptr (q9 fl) (reflagL q9 b.cells),?_,?_⟩
 ·simp only [qbr,hu];rw [if_pos h1,hb];simp only
  rw [if_pos ⟨by rw [hl,hc],hk,by rw [hc];exact h0,by rw [qgl (qdW _ _ _ _ hr)];rfl⟩]
 ·have hd:=qiU qlt rfl τ o e b hr;have hcells:=(RV.cells (qrA he (dl o) e) (rv_ofTy τ (dl o) e _ hd)).1;simp only [RV];refine ⟨_,_,rfl,by cases fl<;>simp [q9],λe=>(by rw [hsh e];rfl),?_⟩;have hre:(b.reflag q9).cells=reflagL q9 b.cells:=qmq q9 b;rw [<- hre];exact hcells
theorem qr9{t:TypeId}{x:TV}{k0:IntKind}{i:Int}{R:Type}{k:TV->Option R}{r:R}{v:V}(h:qmi P t x i R k=some r)(hx:RV x v) :
  ∃y u,k y=some r/\qbr P t v (.val (.int k0 i))=some u/\RV y u:=by
 unfold qmi at h;split at h
 ·rename_i len elem q off hu;split at h
  ·cases h
  ·rename_i h0;obtain ⟨m,_,hm,rfl,hk⟩:=qld h;simp only [RV]at hx;subst hx;refine ⟨_,.ptr q (off+m*P.cellsOf elem),hk,?_,by simp [RV]⟩;simp only [qbr,hu];rw [if_pos ⟨by omega,by omega,h0⟩];simp
 ·rename_i len elem sh cs hu;split at h
  ·cases h
  ·rename_i h0;obtain ⟨m,_,hm,rfl,hk⟩:=qld h;split at hk
   ·rename_i hl;simp only [RV]at hx;obtain ⟨f',cs',rfl,hf0,hsh,hc⟩:=hx;refine ⟨_,.cptr f' (cs'.drop (m*P.cellsOf elem)),hk,?_,by simp only [RV];exact ⟨_,_,rfl,hf0,hsh,hc.drop _⟩⟩;simp only [qbr,hu];rw [if_pos ⟨by omega,by omega,h0,by rw [hc.length];simpa using hl⟩];simp
   ·cases hk
 ·rename_i elem τ o l hu;split at h
  ·rename_i hc;obtain ⟨e,he,hk⟩:=qh.1 h;simp only [RV,RTy]at hx;obtain ⟨fl,c,l',rfl,hfl,hall⟩:=hx;obtain ⟨u,hu',hr⟩:=qi9 (k:=k0) (fl:=fl) (c:=c) (sh:=decide (o=1000)) (λe=>hfl.2 (of_decide_eq_true e)) hu hall hc.1 hc.2.1 hc.2.2.2 he;exact ⟨_,u,hk,hu',hr⟩
  ·cases h
 ·rename_i elem τ l hu;split at h
  ·rename_i hc;obtain ⟨e,he,hk⟩:=qh.1 h;simp only [RV]at hx;obtain ⟨fl,l',rfl,_,hall⟩:=hx;obtain ⟨u,hu',hr⟩:=qi9 (k:=k0) (fl:=fl) (c:=true) (sh:=false) (λe=>by cases e) hu hall hc.1 hc.2.1 hc.2.2.2 he;exact ⟨_,u,hk,hu',hr⟩
  ·cases h
 ·cases h
theorem qAR{elem t:TypeId}{len:Nat}{cs:List TV}{cs':List V}{k0:IntKind}{i:Int}{R:Type}{k:TV->Option R}{r:R}(hu:P.underlying t=some (.array len elem))(h:qAQ P elem len cs i R k=some r)(hc:RVL cs cs') :
  ∃y u,k y=some r/\qpd P t (.agg cs') (.val (.int k0 i))=some u/\RV y u:=by
 unfold qAQ at h;split at h
 ·cases h
 ·rename_i h0;obtain ⟨m,_,hm,rfl,hk⟩:=qld h;split at hk
  ·rename_i v hv;obtain ⟨u,hu',hr⟩:=qen hv (hc.drop _);refine ⟨_,u,hk,?_,hr⟩;simp only [qpd,hu];rw [if_pos ⟨by omega,by omega,h0⟩];simpa using hu'
  ·cases hk
def RVO:Option TV->Option V->Prop
 |none,none=>True
 |some x,some v=>RV x v
 |_,_=>False
theorem qeC{b:Option V}(h:RVO none b):b=none:=by cases b<;>simp_all [RVO]
theorem qnr{x:TV}{b:Option V}(h:RVO (some x) b):∃v,b=some v/\RV x v:=by
 cases b with
 |none=>simp [RVO]at h
 |some v=>exact ⟨v,rfl,h⟩
theorem qf2{d:Nat}{d0:Int}{lo:Option TV}{lo':Option V}{a:Int}(h:(match lo with|none=>some d0|some v=>qya v)=some a)(hlo:RVO lo lo')(hd:d0=d)(h0:0<=a):qgi d lo'=some a.toNat:=by
 cases lo with
 |none=>rw [qeC hlo];simp only [qe]at h;subst h;subst hd;simp [qgi]
 |some x =>
  obtain ⟨v,rfl,hr⟩:=qnr hlo;obtain ⟨k,rfl⟩:=qo6 h hr;simp [qgi,qgA h0]
theorem qDp{R:Type}{c:Prop}[Decidable c]{x:Option R}{r:R}(h:(bif decide c then x else none)=some r):c/\x=some r:=by
 cases hd:decide c with
 |true=>rw [hd]at h;exact ⟨of_decide_eq_true hd,h⟩
 |false=>rw [hd]at h;cases h
theorem qAU{t:TypeId}{x:TV}{v:V}{lo hi mx:Option TV}{lo' hi' mx':Option V}{R:Type}{k:TV->Option R}{r:R}(hx:RV x v)(hlo:RVO lo lo')(hhi:RVO hi hi')(hmx:RVO mx mx')
  (h:qAT P t x lo hi mx R k=some r):∃y u,k y=some r/\qeU P t v lo' hi' mx'=some u/\RV y u:=by
 unfold qAT at h;simp only at h;split at h
 ·rename_i elem τ oo l hu;simp only [RV,RTy]at hx;obtain ⟨fl,c,l',rfl,hfl,hall⟩:=hx;split at h
  ·cases h
  ·rename_i hn;simp only [not_or,Decidable.not_not,Bool.not_eq_false,Bool.not_eq_true]at hn;obtain ⟨hoo,hoo2,h0,hcl,hok,hel⟩:=hn;have hown:fl≠.own:=hfl.not hoo hoo2;have hnx:nx oo=oo:=by unfold nx;rw [hoo];rfl
   have hcells:l'.all (λe=>decide (e.cells.length=P.cellsOf elem))=true:=by
    rw [List.all_eq_true];intro e he;rw [(qea hel hall e he).1,hcl];simp
   have hvs:∀(mx:Option V),qeU P t (.sl fl c l') lo' hi' mx=(match qgi 0 lo',qgi l'.length hi' with
     |some a,some b =>
      match mx with
      |none=>if a<=b/\b<=l'.length then some (.sl fl (c&&decide (b=l'.length)) ((l'.take b).drop a))else none
      |some m=>if qkO m=some b/\hi'.isSome/\a<=b/\b<=l'.length then some (.sl fl true ((l'.take b).drop a))else none
     |_,_=>none):=λmx=>by
    unfold qeU;rw [hu];simp only;rw [if_neg (by simp only [not_or,Bool.not_eq_false];exact ⟨hown,h0,hcells⟩)];rfl
   split at h
   ·rename_i a b ha hb;have hfin:∀q,slc l a b=some q->qgi 0 lo'=some a.toNat/\qgi l'.length hi'=some b.toNat/\a.toNat<=b.toNat/\b.toNat<=l'.length/\All2 (RTy τ (nx oo)) q ((l'.take b.toNat).drop a.toNat):=λq hq=>by
     obtain ⟨h1,h2,h3,rfl⟩:=qr2 hq;have hl:=hall.length;refine ⟨qf2 ha hlo rfl h1,qf2 hb hhi (by rw [hl]) (by omega),by omega,by omega,(hall.take _).drop _⟩
    split at h
    ·obtain ⟨q,hq,hk⟩:=qh.1 h;obtain ⟨e1,e2,e3,e4,e5⟩:=hfin q hq;rw [qeC hmx];refine ⟨_,.sl fl (c&&decide (b.toNat=l'.length)) ((l'.take b.toNat).drop a.toNat),hk,?_,?_⟩
     ·rw [hvs,e1,e2];simp only;rw [if_pos ⟨e3,e4⟩]
     ·simp only [RV,RTy];exact ⟨fl,_,_,rfl,hfl,e5⟩
    ·rename_i m;obtain ⟨vm,hvm,hrm⟩:=qnr hmx;split at h
     ·rename_i cc hcc;split at h
      ·rename_i hs;obtain ⟨q,hq,hk⟩:=qh.1 h;obtain ⟨hcb,hk⟩:=qDp hk;obtain ⟨e1,e2,e3,e4,e5⟩:=hfin q hq;obtain ⟨h1,h2,_,_⟩:=qr2 hq;obtain ⟨k3,rfl⟩:=qo6 hcc hrm;have hs':hi'.isSome=true:=by
        cases hi with
        |none=>simp at hs
        |some x=>obtain ⟨v,rfl,_⟩:=qnr hhi;rfl
       refine ⟨_,.sl fl true ((l'.take b.toNat).drop a.toNat),hk,?_,?_⟩
       ·rw [hvm,hvs,e1,e2];simp only;rw [if_pos ⟨by rw [hcb];exact qgA (by omega),hs',e3,e4⟩]
       ·simp only [RV];exact ⟨fl,_,rfl,hown,e5.mono λx y hxy=>by
         rw [hnx]at hxy;refine ql5 τ oo x y ?_;rcases qks.1 hoo with h|h|h
         ·subst h;exact hxy
         ·subst h;exact hxy
         ·exact absurd h hoo2⟩
      ·cases h
     ·cases h
   ·cases h
 ·rename_i elem oo hu;simp only [RV]at hx;obtain ⟨fl,c,rfl,hfl⟩:=hx;split at h
  ·cases h
  ·rename_i hn0;simp only [not_or,Bool.not_eq_true]at hn0;obtain ⟨hoo,hoo2,h0⟩:=hn0;have hown:fl≠.own:=hfl.not hoo hoo2;split at h
   ·rename_i a b ha hb;cases hd:(decide (a=0)&&decide (b=0))with
    |false=>rw [hd]at h;cases h
    |true =>
     rw [hd]at h;simp only [qi,decide_eq_true_eq]at hd;obtain ⟨rfl,rfl⟩:=hd;rw [qeC hmx];refine ⟨_,.sl fl (c&&decide (0=([]:List V).length)) [],h,?_,?_⟩
     ·unfold qeU;rw [hu];simp only;rw [if_neg (by simp only [not_or];exact ⟨hown,h0,by simp⟩)];rw [qf2 (d:=0) ha hlo rfl (by omega),qf2 (d:=([]:List V).length) hb hhi rfl (by omega)];simp
     ·simp only [RV];exact ⟨fl,_,rfl,hfl⟩
   ·cases h
 ·rename_i s hu;simp only [RV,RTy]at hx;subst hx;split at h
  ·rename_i a b ha hb;obtain ⟨q,hq,hk⟩:=qh.1 h;obtain ⟨h1,h2,h3,rfl⟩:=qr2 hq;rw [qeC hmx];have hsz:(⟨s.toArray⟩:ByteArray).size=s.length:=by simp [ByteArray.size]
   refine ⟨_,.val (.string ((⟨s.toArray⟩:ByteArray).extract a.toNat b.toNat)),hk,?_,?_⟩
   ·unfold qeU;rw [hu];simp only;rw [qf2 (d:=0) ha hlo rfl h1,qf2 (d:=(⟨s.toArray⟩:ByteArray).size) hb hhi (by rw [hsz]) (by omega)];simp only
    rw [if_pos ⟨rfl,by omega,by rw [hsz];omega⟩]
   ·simp only [RV,RTy,V.val.injEq,Value.string.injEq];apply ByteArray.ext;rw [ByteArray.data_extract];apply Array.ext';simp [List.drop_take]
  ·cases h
 ·cases h
theorem qvF{t elem:TypeId}{s n:Nat}{lo hi mx:Option V}(hu:P.underlying t=some (.slice elem)):qeU P t (.room s n) lo hi mx=none:=by
 unfold qeU;rw [hu]
theorem qyb{t:TypeId}{x:TV}{v:V}{lo hi mx:Option TV}{lo' hi' mx':Option V}{R:Type}{k:TV->Option R}{r:R}(hx:RV x v)(hlo:RVO lo lo')(hhi:RVO hi hi')(hmx:RVO mx mx')
  (h:qvA P t x lo hi mx R k=some r):∃y u,k y=some r/\(qeU P t v lo' hi' mx').or (qj1 P t v lo' hi' mx')=some u/\RV y u:=by
 unfold qvA at h;split at h
 ·rename_i elem hu;simp only [RV]at hx;subst hx;split at h
  ·cases h
  ·rename_i h0;split at h
   ·rename_i a b ha hb;cases hd:(decide (a=0)&&decide (b=0))with
    |false=>rw [hd]at h;cases h
    |true =>
     rw [hd]at h;simp only [qi,decide_eq_true_eq]at hd;obtain ⟨rfl,rfl⟩:=hd;rw [qeC hmx];refine ⟨_,.val (.slice none 0 0),h,?_,by simp only [RV]⟩;have e:qeU P t (.val (.slice none 0 0)) lo' hi' none=some (.val (.slice none 0 0)):=by
      unfold qeU;rw [hu];simp only;rw [if_neg h0,qf2 (d:=0) ha hlo rfl (by omega),qf2 (d:=0) hb hhi rfl (by omega)];simp [qgi]
     rw [e];rfl
   ·cases h
 ·rename_i elem a s hu;split at h
  ·cases h
  ·rename_i hcond;simp only [not_or,Nat.not_le]at hcond;obtain ⟨h0,ha⟩:=hcond;simp only [RV]at hx;obtain ⟨_,n,rfl,_⟩|⟨h9,_⟩:=hx
   case inr=>omega
   split at h
   ·rename_i kk oo b;obtain ⟨rfl,hk⟩:=qDp h;rw [qeC hlo,qeC hmx];obtain ⟨w,rfl,hw⟩:=qnr hhi;simp only [RV,RTy]at hw;subst hw;refine ⟨_,.room s 0,hk,?_,by simp [RV]⟩;rw [qvF hu];unfold qj1;rw [hu];simp only;rw [if_pos h0];rfl
   ·cases h
 ·rename_i n elem r' off hu;split at h
  ·rename_i h1;simp only [RV]at hx;subst hx;split at h
   ·rw [qeC hlo,qeC hhi,qeC hmx];refine ⟨_,.bsl r' off n,h,?_,by simp only [RV]⟩;have e:qeU P t (.ptr r' off) none none none=none:=by unfold qeU;rw [hu]
    rw [e];unfold qj1;rw [hu];simp only;rw [if_pos h1];rfl
   ·cases h
  ·cases h
 ·cases h
end
section
variable {P:Program} {H:Hints} {f:FuncId}
theorem qsb{t:TypeId}{len cap:TV}{len' cap':V}{R:Type}{k:TV->Option R}{r:R}(hl:RV len len')(hc:RV cap cap')(h:qmj P H f t len cap R k=some r) :
  ∃y u,k y=some r/\qfp P H f t len' cap'=some u/\RV y u:=by
 unfold qmj at h;split at h
 ·rename_i elem hu;split at h
  ·rename_i z τ n c hz hτ hn hcc;obtain ⟨z',hz',hzr,hzc⟩:=qiZ hz;obtain ⟨k1,rfl⟩:=qo6 hn hl;obtain ⟨k2,rfl⟩:=qo6 hcc hc;split at h
   ·rename_i hcond;obtain ⟨h0,hcl,hok,hby,_,_,hup⟩:=hcond;obtain ⟨hup1,hup2⟩:=qBQ hup;split at h
    ·rename_i x hx;obtain ⟨q,hq,hk⟩:=qh.1 h;obtain ⟨hcn,hk1⟩:=qDp hk;subst hcn;obtain ⟨h1,h2,rfl⟩:=qBM hq;have hrt:=qdu _ _ _ _ _ hx hzr;refine ⟨_,.sl .own false (List.replicate c.toNat z'),hk1,?_,?_⟩
     ·unfold qfp;rw [hu];simp only;rw [hz',qgA h1,qgA h1];simp only
      have hbb:P.bytesOf elem*c.toNat<=8192*4294967296:=Nat.mul_le_mul hby (by omega);rw [if_pos ⟨Nat.le_refl _,λh=>h,h0,by rw [hzc.length];exact hcl,(RV.cells hok hzr).2,by rw [qdW _ _ _ _ hrt];rfl,by omega,by omega⟩]
     ·simp only [RV,RTy];exact ⟨.own,false,_,rfl,qfA hup,by rw [hup1];exact All2.replicate hrt _⟩
    ·cases h
   ·cases h
  ·cases h
 ·cases h
theorem big{s b:Nat}(h1:s<=4294967296)(h2:b<=8192):(s+512)*b<=70368744177664:=by
 have:=Nat.mul_le_mul (Nat.add_le_add_right h1 512) h2;omega
def qCr(yt:TypeDesc)(y:V):Option (List V):=match yt,y with
 |.slice _,.sl _ _ l=>some l
 |.slice _,.val (.slice none 0 0)=>some []
 |.string,.val (.string b)=>some (b.data.toList.map λc=>.val (.int .u8 c.toNat))
 |_,_=>none
theorem qmn{argTypes:Array TypeId}{elem:TypeId}{yt:TypeDesc}{x y:V}(h0:(argTypes[0]?).bind P.underlying=some (.slice elem))(h1:(argTypes[1]?).bind P.underlying=some yt) :
  qdo P argTypes x y=match qCr yt y with
  |none=>none
  |some l2 =>
   if P.cellsOf elem=0\/((P.info? elem).bind (·.zero)).map (λz=>z.cells.size)≠some (P.cellsOf elem)\/l2.all (λe=>decide (e.cells.length=P.cellsOf elem)&&e.oks)=false\/(ptrsL l2).isEmpty=false then none else
   match x with
   |.val (.slice none 0 0)=>if l2.isEmpty then some x else if (l2.length+512)*P.bytesOf elem<=70368744177664/\l2.length<=70368744177664 then some (.sl .own false l2)else none
   |.sl fl c l =>
    if l.all (λe=>decide (e.cells.length=P.cellsOf elem))=true/\(l.length+l2.length+512)*P.bytesOf elem<=70368744177664/\l.length+l2.length<=70368744177664 then
     (if fl=.own then some (.sl .own false (l++l2))
     else if c then (if l2.isEmpty then some x else some (.sl .own false (l++l2)))
     else none)
    else none
   |_=>none:=by
 unfold qdo;rw [h0,h1];rfl
theorem qAI{yt:TypeDesc}{y:TV}{τ:Ty}{o:Nat}{l:List τ.den}{v:V}(h:tail? yt y=some ⟨τ,(o,l)⟩)(hy:RV y v) :
  ∃l',qCr yt v=some l'/\All2 (RTy τ o) l l':=by
 unfold tail? at h;split at h
 ·split at h
  ·simp only [qe,Sigma.mk.injEq]at h;obtain ⟨rfl,h⟩:=h;obtain ⟨rfl,rfl⟩:=Prod.mk.inj (eq_of_heq h);simp only [RV,RTy]at hy;obtain ⟨f,c,l',rfl,_,hall⟩:=hy;exact ⟨l',rfl,hall⟩
  ·cases h
 ·split at h
  ·simp only [qe,Sigma.mk.injEq]at h;obtain ⟨rfl,h⟩:=h;obtain ⟨rfl,rfl⟩:=Prod.mk.inj (eq_of_heq h);simp only [RV]at hy;obtain ⟨f,l',rfl,_,hall⟩:=hy;exact ⟨l',rfl,hall⟩
  ·cases h
 ·rename_i s;split at h
  ·simp only [qe,Sigma.mk.injEq]at h;obtain ⟨rfl,h⟩:=h;obtain ⟨rfl,rfl⟩:=Prod.mk.inj (eq_of_heq h);simp only [RV,RTy]at hy;subst hy;refine ⟨_,rfl,?_⟩;simp only
   clear h;have:∀s':List UInt8,All2 (RTy (.int .u8) 0) (s'.map λc=>(c.toNat:Int)) (s'.map λc=>V.val (.int .u8 c.toNat)):=λs'=>by
    induction s' with
    |nil=>exact .nil
    |cons c s ih=>exact .cons (by simp [RTy]) ih
   simpa using this s
  ·cases h
 ·cases h
theorem qfL{argTypes:Array TypeId}{elem:TypeId}{yt:TypeDesc}{l l2:List V}{y:V}
  (h0:(argTypes[0]?).bind P.underlying=some (.slice elem)) (h1:(argTypes[1]?).bind P.underlying=some yt)
  (hy:qCr yt y=some l2)
  (hs0:P.cellsOf elem≠0) (hz:((P.info? elem).bind (·.zero)).map (λz=>z.cells.size)=some (P.cellsOf elem))
  (hl2:∀e∈l2,e.cells.length=P.cellsOf elem/\e.oks=true/\e.qx=[]) (hl:∀e∈l,e.cells.length=P.cellsOf elem)
  (hn:l.length+l2.length<=4294967296) (hb:P.bytesOf elem<=8192) :
  (∀c,qdo P argTypes (.sl .own c l) y=some (.sl .own false (l++l2)))/\(l2≠[]->∀f,f≠.own->qdo P argTypes (.sl f true l) y=some (.sl .own false (l++l2)))/\(l2=[]->∀f,f≠.own->qdo P argTypes (.sl f true l) y=some (.sl f true l)):=by
 have hp:ptrsL l2=[]:=by
  apply List.eq_nil_iff_forall_not_mem.2;intro r hr;obtain ⟨v,hv,hrv⟩:=qoD.1 hr;rw [(hl2 v hv).2.2]at hrv;cases hrv
 have hall2:l2.all (λe=>decide (e.cells.length=P.cellsOf elem)&&e.oks)=true:=by
  rw [List.all_eq_true];intro e he;simp [(hl2 e he).1,(hl2 e he).2.1]
 have hall:l.all (λe=>decide (e.cells.length=P.cellsOf elem))=true:=by
  rw [List.all_eq_true];intro e he;simp [hl e he]
 have hbig:=big (s:=l.length+l2.length) hn hb;have hun:∀(f:Fl) (c:Bool),qdo P argTypes (.sl f c l) y=if l.all (λe=>decide (e.cells.length=P.cellsOf elem))=true/\(l.length+l2.length+512)*P.bytesOf elem<=70368744177664/\l.length+l2.length<=70368744177664 then
     (if f=.own then some (.sl .own false (l++l2))
     else if c then (if l2.isEmpty then some (.sl f c l)else some (.sl .own false (l++l2)))
     else none)
    else none:=λf c=>by
  rw [qmn h0 h1,hy];simp only;rw [if_neg (by simp only [not_or,Decidable.not_not,Bool.not_eq_false];exact ⟨hs0,hz,hall2,by rw [hp];rfl⟩)]
 refine ⟨λc=>?_,λhne f hf=>?_,λhne f hf=>?_⟩
 ·rw [hun,if_pos ⟨hall,hbig,by omega⟩,if_pos rfl]
 ·rw [hun,if_pos ⟨hall,hbig,by omega⟩,if_neg hf,if_pos rfl,if_neg (by simpa using hne)]
 ·rw [hun,if_pos ⟨hall,hbig,by omega⟩,if_neg hf,if_pos rfl,if_pos (by simp [hne])]
theorem qx8{argTypes:Array TypeId}{x y:TV}{x' y':V}{R:Type}{k:TV->Option R}{r:R}(hx:RV x x')(hy:RV y y')(h:qvv P argTypes x y R k=some r) :
  ∃z u,k z=some r/\qdo P argTypes x' y'=some u/\RV z u:=by
 unfold qvv at h;split at h
 ·rename_i elem yt h0 h1;split at h
  ·-- nothing is appended
   rename_i ow;simp only [RV]at hy;obtain ⟨fy,cy,rfl,_⟩:=hy;split at h
   ·rename_i e τ o l;split at h
    ·rename_i hc;obtain ⟨ho,hcl,hs0,hz,hb,hok,hel⟩:=hc;obtain ⟨q,hq,hk⟩:=qh.1 h;obtain ⟨hn,rfl⟩:=qfT hq;simp only [RV,RTy]at hx;obtain ⟨fx,cx,l',rfl,hfx,hall⟩:=hx;have hfo:fx=.own:=hfx.own ho;subst hfo;have hv:=(qfL (l:=l') (l2:=[]) (y:=.sl fy cy []) h0 h1 rfl hs0 hz (by simp) (λe he=>by rw [(qea hel hall e he).1,hcl]) (by rw [hall.length];exact hn) hb).1 cx;refine ⟨_,_,hk,hv,?_⟩;simp only [RV,RTy];exact ⟨.own,false,_,rfl,qfA ho,by simpa using hall⟩
    ·cases h
   ·rename_i e;split at h
    ·rename_i hc;obtain ⟨hoe,hs0,hz,hb⟩:=hc;simp only [RV]at hx;obtain ⟨fx,cx,rfl,hfx⟩:=hx;have hfo:fx=.own:=hfx.own hoe;subst hfo;have hv:=(qfL (l:=[]) (l2:=[]) (y:=.sl fy cy []) h0 h1 rfl hs0 hz (by simp) (by simp) (by simp) hb).1 cx;exact ⟨_,_,h,hv,by simp only [RV];exact ⟨_,_,rfl,hfx⟩⟩
    ·cases h
   ·cases h
  ·split at h
   ·cases h
   ·rename_i τ o2 l2 ht;obtain ⟨l2',hl2',hall2⟩:=qAI ht hy;split at h
    ·rename_i hc;obtain ⟨hcl,hs0,hz,hb,hok,hel⟩:=hc;have hc2:∀e∈l2',e.cells.length=P.cellsOf elem/\e.oks=true/\e.qx=[]:=λe he=>by
      obtain ⟨h1,h2,h3⟩:=qea hel hall2 e he;exact ⟨by rw [h1,hcl],h2,h3⟩
     split at h
     ·rename_i τ' o l;split at h
      ·rename_i he;subst he;split at h
       ·rename_i hoo;obtain ⟨q,hq,hk⟩:=qh.1 h;obtain ⟨hn,rfl⟩:=qfT hq;simp only [RV,RTy]at hx;obtain ⟨fx,cx,l',rfl,hfx,hall⟩:=hx;have hfo:fx=.own:=hfx.own hoo;subst hfo;have hv:=(qfL (l:=l') (l2:=l2') h0 h1 hl2' hs0 hz hc2 (λe he=>by rw [(qea hel hall e he).1,hcl]) (by rw [hall.length,hall2.length];exact hn) hb).1 cx;refine ⟨_,_,hk,hv,?_⟩;simp only [RV,RTy];split
        ·rename_i hf;exact ⟨.own,false,_,rfl,qfA hoo,hall.append (hall2.mono λa b hab=>qik _ _ _ _ _ hf hab)⟩
        ·have hall':∀d o',fits d o' (nx 2001)=true:=λd o'=>by cases d<;>rfl
         exact ⟨.own,false,_,rfl,qfA rfl,(hall.mono λa b hab=>qik _ _ _ _ _ (hall' _ _) hab).append (hall2.mono λa b hab=>qik _ _ _ _ _ (hall' _ _) hab)⟩
       ·cases h
      ·cases h
     ·split at h
      ·rename_i hup0;obtain ⟨hoe,hup⟩:=hup0;obtain ⟨hup1,hup2⟩:=qBQ hup;obtain ⟨q,hq,hk⟩:=qh.1 h;obtain ⟨hn,rfl⟩:=qfT hq;simp only [RV]at hx;obtain ⟨fx,cx,rfl,hfx⟩:=hx;have hfo:fx=.own:=hfx.own hoe;subst hfo;have hv:=(qfL (l:=[]) (l2:=l2') h0 h1 hl2' hs0 hz hc2 (by simp) (by rw [hall2.length];simpa using hn) hb).1 cx;refine ⟨_,_,hk,hv,?_⟩;simp only [RV,RTy];exact ⟨.own,false,_,rfl,qfA hup,by rw [hup1];simpa using hall2⟩
      ·cases h
     ·rename_i τ' l;split at h
      ·rename_i he;subst he;obtain ⟨q,hq,hk⟩:=qh.1 h;obtain ⟨hn,rfl⟩:=qfT hq;simp only [RV]at hx;obtain ⟨fx,l',rfl,hfx,hall⟩:=hx;have hup:∀{o:Nat} {m:List τ'.den} {m':List V},All2 (RTy τ' o) m m'->All2 (RTy τ' (nx 2000)) m m':=λhm=>hm.mono λa b hab=>qik _ _ _ _ _ (qsM _ _) hab;have hv2:=qfL (l:=l') (l2:=l2') h0 h1 hl2' hs0 hz hc2 (λe he=>by rw [(qea hel hall e he).1,hcl]) (by rw [hall.length,hall2.length];exact hn) hb;by_cases hne:l2'=[]
       ·refine ⟨_,_,hk,hv2.2.2 hne fx hfx,?_⟩;subst hne;cases hall2;simp only [RV,RTy];exact ⟨fx,true,l',rfl,⟨λe=>absurd rfl e,λe=>by cases e⟩,by simpa [cast']using hup hall⟩
       ·refine ⟨_,_,hk,hv2.2.1 hne fx hfx,?_⟩;simp only [RV,RTy];exact ⟨.own,false,_,rfl,⟨λe=>absurd rfl e,λe=>by cases e⟩,(hup hall).append (hup hall2)⟩
      ·cases h
     ·cases h
    ·cases h
 ·cases h
theorem qao{op:BinOp}{t:TypeId}{xo yo:Operand}{a b u:Value}(h:Ab.valOf P (do eqGuard op t xo yo a b;Go.binOp op t a b)=some u):qnt P op t xo yo (.val a) (.val b)=some (qcT u):=by
 unfold qnt;simp only [V.toVal,h,qn]
theorem qu{α β:Type}(s:Sem α)(g:α->Sem β):Ab.valOf P (s >>= g)=(Ab.valOf P s).bind λa=>Ab.valOf P (g a):=by
 induction s with
 |pure a=>rfl
 |program k ih=>exact ih P
 |mark m k ih=>exact ih
 |_=>rfl
theorem qX{α:Type}(a:α):Ab.valOf P (pure a)=some a:=rfl
theorem qwR{t:TypeId}{xo yo:Operand}{k1 k2:IntKind}{a b n:Int}(h:qF3 k1 a b=some n):qnt P .shl t xo yo (.val (.int k1 a)) (.val (.int k2 b))=some (.val (.int k1 n)):=by
 unfold qF3 at h;split at h
 ·rename_i h0;cases h;exact qao (u:=.int k1 _) (by simp [eqGuard,Go.binOp,Op.shift,Int.not_lt.2 h0,qX])
 ·cases h
theorem qwS{t:TypeId}{xo yo:Operand}{k1 k2:IntKind}{a b n:Int}(h:qF4 k1 a b=some n):qnt P .shr t xo yo (.val (.int k1 a)) (.val (.int k2 b))=some (.val (.int k1 n)):=by
 unfold qF4 at h;split at h
 ·rename_i h0;cases h;exact qao (u:=.int k1 _) (by simp [eqGuard,Go.binOp,Op.shift,Int.not_lt.2 h0,qX])
 ·cases h
theorem qCu{op:BinOp}{t:TypeId}{xo yo:Operand}{k1:IntKind}{a b:Int}{R:Type}{k:TV->Option R}{r:R}{o1 o2:Nat}(h:qt3 P op t (.t (.int k1) o1 a) (.t (.int k1) o2 b) R k=some r) :
  ∃z u,k z=some r/\qnt P op t xo yo (.val (.int k1 a)) (.val (.int k1 b))=some u/\RV z u:=by
 have hrem:∀{z:TV},(bif decide (b=0)then none else k z)=some r->b≠0/\k z=some r:=λ{z} h=>by
  cases hd:decide (b=0)with
  |true=>rw [hd]at h;cases h
  |false=>rw [hd]at h;exact ⟨of_decide_eq_false hd,h⟩
 cases op<;>simp only [qt3,if_true]at h<;>try (cases h;done)
 case quo =>
  obtain ⟨h0,h⟩:=hrem h;refine ⟨_,.val (.int k1 (k1.wrap (a.tdiv b))),h,?_,by simp [RV,RTy]⟩;exact qao (u:=.int k1 (k1.wrap (a.tdiv b))) (by simp [eqGuard,Go.binOp,Op.intDiv,h0,qX])
 case rem =>
  obtain ⟨h0,h⟩:=hrem h;refine ⟨_,.val (.int k1 (a.tmod b)),h,?_,by simp [RV,RTy]⟩;exact qao (u:=.int k1 (a.tmod b)) (by simp [eqGuard,Go.binOp,Op.intDiv,h0,qX])
 case add =>
  refine ⟨_,.val (.int k1 (k1.wrap (a+b))),h,?_,by simp [RV,RTy]⟩;exact qao (u:=.int k1 (k1.wrap (a+b))) (by simp [eqGuard,Go.binOp,Op.intArith,qX])
 case sub =>
  refine ⟨_,.val (.int k1 (k1.wrap (a-b))),h,?_,by simp [RV,RTy]⟩;exact qao (u:=.int k1 (k1.wrap (a-b))) (by simp [eqGuard,Go.binOp,Op.intArith,qX])
 case mul =>
  refine ⟨_,.val (.int k1 (k1.wrap (a*b))),h,?_,by simp [RV,RTy]⟩;exact qao (u:=.int k1 (k1.wrap (a*b))) (by simp [eqGuard,Go.binOp,Op.intArith,qX])
 case eql =>
  refine ⟨_,.val (.bool (decide (a=b))),h,?_,by simp [RV,RTy]⟩;exact qao (u:=.bool (decide (a=b))) (by simp [eqGuard,Go.binOp,Op.intCmp,qX];rfl)
 case neq =>
  refine ⟨_,.val (.bool (!decide (a=b))),h,?_,by simp [RV,RTy]⟩;exact qao (u:=.bool (!decide (a=b))) (by simp [eqGuard,Go.binOp,Op.intCmp,qX,bne];rfl)
 case lss =>
  refine ⟨_,.val (.bool (decide (a<b))),h,?_,by simp [RV,RTy]⟩;exact qao (u:=.bool (decide (a<b))) (by simp [eqGuard,Go.binOp,Op.intCmp,qX])
 case leq =>
  refine ⟨_,.val (.bool (decide (a<=b))),h,?_,by simp [RV,RTy]⟩;exact qao (u:=.bool (decide (a<=b))) (by simp [eqGuard,Go.binOp,Op.intCmp,qX])
 case gtr =>
  refine ⟨_,.val (.bool (decide (a > b))),h,?_,by simp [RV,RTy]⟩;exact qao (u:=.bool (decide (a > b))) (by simp [eqGuard,Go.binOp,Op.intCmp,qX])
 case geq =>
  refine ⟨_,.val (.bool (decide (a>=b))),h,?_,by simp [RV,RTy]⟩;exact qao (u:=.bool (decide (a>=b))) (by simp [eqGuard,Go.binOp,Op.intCmp,qX])
 case and =>
  refine ⟨_,.val (.int k1 (qFw k1 a b)),h,?_,by simp [RV,RTy]⟩;exact qao (u:=.int k1 (qFw k1 a b)) (by simp [eqGuard,Go.binOp,Op.intBits,qX,qFw])
 case or =>
  refine ⟨_,.val (.int k1 (orI k1 a b)),h,?_,by simp [RV,RTy]⟩;exact qao (u:=.int k1 (orI k1 a b)) (by simp [eqGuard,Go.binOp,Op.intBits,qX,orI])
 case xor =>
  refine ⟨_,.val (.int k1 (qFA k1 a b)),h,?_,by simp [RV,RTy]⟩;exact qao (u:=.int k1 (qFA k1 a b)) (by simp [eqGuard,Go.binOp,Op.intBits,qX,qFA])
 case andNot =>
  refine ⟨_,.val (.int k1 (qqV k1 a b)),h,?_,by simp [RV,RTy]⟩;exact qao (u:=.int k1 (qqV k1 a b)) (by simp [eqGuard,Go.binOp,Op.intBits,qX,qqV])
 case shl =>
  obtain ⟨n,hn,hk⟩:=qh.1 h;exact ⟨_,_,hk,qwR hn,by simp [RV,RTy]⟩
 case shr =>
  obtain ⟨n,hn,hk⟩:=qh.1 h;exact ⟨_,_,hk,qwS hn,by simp [RV,RTy]⟩
theorem qx9{op:BinOp}(hop:op=.shl\/op=.shr){t:TypeId}{xo yo:Operand}{k1 k2:IntKind}{a b:Int}{R:Type}{k:TV->Option R}{r:R}{o1 o2:Nat}(h:qt3 P op t (.t (.int k1) o1 a) (.t (.int k2) o2 b) R k=some r) :
  ∃z u,k z=some r/\qnt P op t xo yo (.val (.int k1 a)) (.val (.int k2 b))=some u/\RV z u:=by
 rcases hop with rfl|rfl
 ·simp only [qt3]at h;obtain ⟨n,hn,hk⟩:=qh.1 h;exact ⟨_,_,hk,qwR hn,by simp [RV,RTy]⟩
 ·simp only [qt3]at h;obtain ⟨n,hn,hk⟩:=qh.1 h;exact ⟨_,_,hk,qwS hn,by simp [RV,RTy]⟩
theorem qm1{op:BinOp}{k:FloatKind}{x y r:Nat}(h:floatBits op k x y=some r):Ab.valOf P (Op.floatArith op k x y)=some (.float k r):=by
 unfold floatBits at h;cases op<;>simp only at h<;>first|(cases h;done)|skip
 all_goals (simp [Op.floatArith,h];rfl)
theorem qbW{op:BinOp}{k:FloatKind}{x y r:Nat}(h:floatBits op k x y=some r):Ab.valOf P (Op.Complex.arith op k x y)=some r:=by
 unfold Op.Complex.arith;rw [qu,qm1 h];rfl
theorem qyd{t:TypeId}{a b c d re im:Nat}(h:cSumBits .add .f64 a b c d=some (re,im)):Ab.valOf P (Go.binOp .add t (.complex .f64 a b) (.complex .f64 c d))=some (.complex .f64 re im):=by
 unfold cSumBits at h;obtain ⟨x,h1,h⟩:=qh.1 h;obtain ⟨y,h2,h⟩:=qh.1 h;cases h;simp only [Go.binOp,ne_eq,not_true,if_false,Op.complexOp];rw [qu,qbW h1,qb,qu,qbW h2];rfl
theorem qyc{t:TypeId}{a b c d re im:Nat}(h:cMulBits a b c d=some (re,im)):Ab.valOf P (Go.binOp .mul t (.complex .f64 a b) (.complex .f64 c d))=some (.complex .f64 re im):=by
 unfold cMulBits at h;obtain ⟨ac,h1,h⟩:=qh.1 h;obtain ⟨bd,h2,h⟩:=qh.1 h;obtain ⟨x,h3,h⟩:=qh.1 h;obtain ⟨ad,h4,h⟩:=qh.1 h;obtain ⟨bc,h5,h⟩:=qh.1 h;obtain ⟨y,h6,h⟩:=qh.1 h;cases h;have hp:Ab.valOf P (Op.Complex.product a b c d)=some (re,im):=by
  unfold Op.Complex.product Op.Complex.mul Op.Complex.sub Op.Complex.add;rw [qu,qbW h1,qb,qu,qbW h2,qb,qu,qbW h3,qb,qu,qbW h4,qb,qu,qbW h5,qb,qu,qbW h6];rfl
 have hc:∀x,Ab.valOf P (Op.Complex.conv .f64 x .f64)=some x:=λx=>by unfold Op.Complex.conv;simp [qX]
 simp only [Go.binOp,ne_eq,not_true,if_false,Op.complexOp];rw [qu,hc,qb,qu,hc,qb,qu,hc,qb,qu,hc,qb];simp only [beq_self_eq_true,if_true];rw [qu,hp,qb,qu,hc,qb,qu,hc];rfl
theorem qev{n m:Int}(h:flo n=some m):m=n/\n.natAbs<2 ^ 53:=by
 unfold flo at h;split at h
 ·rename_i h1;cases h;exact ⟨rfl,h1⟩
 ·cases h
theorem qEf{op:BinOp}{t:TypeId}{xo yo:Operand}{a b:Int×Int}{x y:V}{o1 o2:Nat}{R:Type}{k:TV->Option R}{r:R}(hx:RV (.t .cx o1 a) x)(hy:RV (.t .cx o2 b) y)(h:qt3 P op t (.t .cx o1 a) (.t .cx o2 b) R k=some r) :
  ∃z u,k z=some r/\qnt P op t xo yo x y=some u/\RV z u:=by
 simp only [RV,RTy]at hx hy;obtain ⟨b1,b2,rfl,i1,i2⟩:=hx;obtain ⟨c1,c2,rfl,j1,j2⟩:=hy;unfold qt3 at h;simp only at h;split at h
 ·obtain ⟨re,h1,h⟩:=qh.1 h;obtain ⟨im,h2,h⟩:=qh.1 h;obtain ⟨rfl,g1⟩:=qev h1;obtain ⟨rfl,g2⟩:=qev h2;obtain ⟨re,im,e,r1,r2⟩:=Fl.qDs i1 i2 j1 j2 g1 g2;refine ⟨_,.val (.complex .f64 re im),h,qao (u:=.complex .f64 re im) ?_,by simp only [RV,RTy];exact ⟨re,im,rfl,r1,r2⟩⟩;rw [qu];show (some ()).bind (λ_=>Ab.valOf P (Go.binOp .add t (.complex .f64 b1 b2) (.complex .f64 c1 c2)))=_;exact qyd e
 ·obtain ⟨ac,h1,h⟩:=qh.1 h;obtain ⟨bd,h2,h⟩:=qh.1 h;obtain ⟨rfl,g1⟩:=qev h1;obtain ⟨rfl,g2⟩:=qev h2;obtain ⟨x,h3,h⟩:=qh.1 h;obtain ⟨rfl,g3⟩:=qev h3;obtain ⟨ad,h4,h⟩:=qh.1 h;obtain ⟨bc,h5,h⟩:=qh.1 h;obtain ⟨rfl,g4⟩:=qev h4;obtain ⟨rfl,g5⟩:=qev h5;obtain ⟨y,h6,h⟩:=qh.1 h;obtain ⟨rfl,g6⟩:=qev h6;obtain ⟨re,im,e,r1,r2⟩:=Fl.qDr i1 i2 j1 j2 g1 g2 g3 g4 g5 g6;refine ⟨_,.val (.complex .f64 re im),h,qao (u:=.complex .f64 re im) ?_,by simp only [RV,RTy];exact ⟨re,im,rfl,r1,r2⟩⟩;rw [qu];show (some ()).bind (λ_=>Ab.valOf P (Go.binOp .mul t (.complex .f64 b1 b2) (.complex .f64 c1 c2)))=_;exact qyc e
 ·cases h
theorem qCv{op:BinOp}{t:TypeId}{xo yo:Operand}{a b:List UInt8}{R:Type}{k:TV->Option R}{r:R}{o1 o2:Nat}(h:qt3 P op t (.t .str o1 a) (.t .str o2 b) R k=some r) :
  ∃z u,k z=some r/\qnt P op t xo yo (.val (.string ⟨a.toArray⟩)) (.val (.string ⟨b.toArray⟩))=some u/\RV z u:=by
 cases op<;>simp only [qt3]at h<;>try (cases h;done)
 case eql =>
  refine ⟨_,.val (.bool (decide (a=b))),h,?_,by simp [RV,RTy]⟩;exact qao (u:=.bool (decide (a=b))) (by simp [eqGuard,binOp_string_eql,qX];rw [Bool.eq_iff_iff];simp)
 case neq =>
  refine ⟨_,.val (.bool (!decide (a=b))),h,?_,by simp [RV,RTy]⟩;exact qao (u:=.bool (!decide (a=b))) (by simp [eqGuard,binOp_string_neq,qX];rw [Bool.eq_iff_iff];simp)
 case lss =>
  refine ⟨_,.val (.bool (Op.bytesLess a b)),h,?_,by simp [RV,RTy]⟩;exact qao (u:=.bool (Op.bytesLess a b)) (by simp [eqGuard,binOp_string_lss,qX])
 case add =>
  obtain ⟨q,hq,hk⟩:=qh.1 h;obtain ⟨hn,rfl⟩:=qfT hq;refine ⟨_,.val (.string ⟨(a++b).toArray⟩),hk,?_,by simp [RV,RTy]⟩;refine qao (u:=.string ⟨(a++b).toArray⟩) ?_;have h1:(⟨a.toArray⟩:ByteArray).size=a.length:=by simp [ByteArray.size]
  have h2:(⟨b.toArray⟩:ByteArray).size=b.length:=by simp [ByteArray.size]
  have h3:(⟨a.toArray⟩++⟨b.toArray⟩:ByteArray)=⟨(a++b).toArray⟩:=by apply ByteArray.ext;simp
  have h4:¬ (((⟨a.toArray⟩:ByteArray).size+(⟨b.toArray⟩:ByteArray).size:Nat):Int) > IntKind.i64.max:=by
   rw [h1,h2];simp only [IntKind.max,IntKind.signed,IntKind.bits,if_true]<;>omega
  have h5:Go.binOp .add t (.string ⟨a.toArray⟩) (.string ⟨b.toArray⟩)=pure (.string ⟨(a++b).toArray⟩):=by
   simp only [Go.binOp,Op.stringOp];rw [if_neg h4,h3]
  simp only [eqGuard];rw [h5];rfl
theorem qy{t:TypeId}{d:TypeDesc}(h:P.underlying t=some d):Ab.valOf P (underlying t)=some d:=by
 unfold Go.underlying;simp only [qu];have h1:Ab.valOf P Go.program=some P:=rfl;simp only [h1,qb,h];rfl
theorem qmt{n:Nat}{t:TypeId}(h:P.underlying t=some .bool)(a b:Bool):Ab.valOf P (Op.equalIn (n+1) t (.bool a) (.bool b))=some (a==b):=by
 unfold Op.equalIn;rw [qu,qy h];rfl
theorem quy{n:Nat}{t:TypeId}{k0:IntKind}(h:P.underlying t=some (.int k0))(k:IntKind)(a b:Int):Ab.valOf P (Op.equalIn (n+1) t (.int k a) (.int k b))=some (decide (a=b)):=by
 unfold Op.equalIn;rw [qu,qy h];simp only [qb,if_true];rfl
theorem quz{n:Nat}{t:TypeId}(h:P.underlying t=some .string)(a b:List UInt8):Ab.valOf P (Op.equalIn (n+1) t (.string ⟨a.toArray⟩) (.string ⟨b.toArray⟩))=some (decide (a=b)):=by
 unfold Op.equalIn;rw [qu,qy h];simp only [qb];show some ((⟨a.toArray⟩:ByteArray)==⟨b.toArray⟩)=_;rw [qe,Bool.eq_iff_iff];first
 |(show (a.toArray==b.toArray)=true↔decide (a=b)=true;simp)
 |(show decide ((⟨a.toArray⟩:ByteArray)=⟨b.toArray⟩)=true↔decide (a=b)=true;simp)
def qFD(x:TV)(u:Value):Prop:=(qxZ x=true/\RV x (.val u))\/∃(l:List TV) (vs:List Value),x=.agg l/\u=.agg vs.toArray/\l.all qxZ=true/\RVL l (vs.map .val)
theorem qCc{x:TV}{v:V}(h:qxZ x=true)(hr:RV x v):∃u,v=.val u:=by
 cases x with
 |t τ o x=>cases τ<;>simp only [RV,RTy]at hr<;>first|exact ⟨_,hr⟩|simp [qxZ]at h
 |_=>simp [qxZ]at h
theorem qoZ:∀{l:List TV} {l':List V},l.all qxZ=true->RVL l l'->∃vs:List Value,l'=vs.map .val
 |[],l',_,h=>by simp only [RVL]at h;exact ⟨[],by simp [h]⟩
 |x::l,l',h1,h=>by
  simp only [RVL]at h;obtain ⟨v,m,rfl,h2,h3⟩:=h;simp only [List.all_cons,qi]at h1;obtain ⟨u,rfl⟩:=qCc h1.1 h2;obtain ⟨vs,rfl⟩:=qoZ h1.2 h3;exact ⟨u::vs,rfl⟩
theorem qjZ:∀vs:List Value,toValL (vs.map .val)=some vs
 |[]=>rfl
 |u::vs=>by simp [toValL,V.toVal,qjZ vs]
theorem qpA{t:TypeId}{i:TypeInfo}(h:P.info? t=some i):Ab.valOf P (typeInfo t)=some i:=by
 unfold typeInfo;simp only [qu];have h1:Ab.valOf P Go.program=some P:=rfl;simp only [h1,qb,h];rfl
theorem qpb{t:TypeId}{d:TypeDesc}(h:P.underlying t=some d):∃i,P.info? t=some i:=by
 unfold Program.underlying at h;cases hi:P.info? t with
 |none=>rw [hi]at h;cases h
 |some i=>exact ⟨i,rfl⟩
theorem qu7{t:TypeId}{xs:List TV}{vs:List Value}{off:Nat}{u:TV}(hs:xs.all qxZ=true)(hr:RVL xs (vs.map .val))(h:qbd P t (xs.drop off)=some u) :
  ∃w,Ab.valOf P (part t vs.toArray off)=some w/\qFD u w:=by
 unfold qbd at h;split at h
 ·cases h
 ·rename_i d hd;obtain ⟨i,hi⟩:=qpb hd;have hsz:Ab.valOf P (sizeOf t)=some (P.cellsOf t):=by
   unfold sizeOf;rw [qu,qpA hi];simp [Program.cellsOf,hi,qX]
  have hag:Ab.valOf P (isAgg t)=some (qY P t):=by
   unfold isAgg qY;rw [qu,qy hd,hd];cases d<;>rfl
  unfold part;rw [qu,hag];simp only [qb];split at h
  ·rename_i ha;rw [if_pos ha];split at h
   ·rename_i hl;cases h;rw [qu,hsz];refine ⟨_,rfl,.inr ⟨_,(vs.drop off).take (P.cellsOf t),rfl,?_,?_,?_⟩⟩
    ·congr 1
     apply Array.ext';simp [List.take_drop]
    ·rw [List.all_eq_true]at hs ⊢;exact λy hy=>hs y (List.mem_of_mem_drop (List.mem_of_mem_take hy))
    ·rw [List.map_take,List.map_drop];exact (hr.drop off).take _
   ·cases h
  ·rename_i ha;rw [if_neg ha];have hx:xs[off]?=some u:=by simpa [List.head?_drop]using h
   obtain ⟨v,hv,hrv⟩:=hr.get hx;rw [List.getElem?_map]at hv;obtain ⟨w,hw,rfl⟩:=qf.1 hv;have hw':vs.toArray[off]?=some w:=by simpa using hw
   rw [hw'];refine ⟨w,rfl,.inl ⟨?_,hrv⟩⟩;rw [List.all_eq_true]at hs;exact hs u (List.mem_of_getElem? hx)
theorem qwL:∀(d:Nat) (t:TypeId) (x y:TV) (b:Bool),teq P d t x y=some b->∀n,d<=n->∀u v,qFD x u->qFD y v->Ab.valOf P (Op.equalIn n t u v)=some b
 |0,t,x,y,b,h,n,hn,u,v,hu,hv=>by simp [teq]at h
 |d+1,t,x,y,b,h,n,hn,u,v,hu,hv=>by
  obtain ⟨n,rfl⟩:∃m,n=m+1:=⟨n-1,by omega⟩
  unfold teq at h;split at h
  ·rename_i k0 k o a k' o' a' ht;split at h
   ·rename_i hk;subst hk;cases h;rcases hu with ⟨_,hu⟩|⟨_,_,hu,_⟩
    ·rcases hv with ⟨_,hv⟩|⟨_,_,hv,_⟩
     ·simp only [RV,RTy,V.val.injEq]at hu hv;subst hu;subst hv;exact quy ht _ _ _
     ·cases hv
    ·cases hu
   ·cases h
  ·rename_i o a o' a' ht;cases h;rcases hu with ⟨_,hu⟩|⟨_,_,hu,_⟩
   ·rcases hv with ⟨_,hv⟩|⟨_,_,hv,_⟩
    ·simp only [RV,RTy,V.val.injEq]at hu hv;subst hu;subst hv;exact qmt ht _ _
    ·cases hv
   ·cases hu
  ·rename_i o a o' a' ht;cases h;rcases hu with ⟨_,hu⟩|⟨_,_,hu,_⟩
   ·rcases hv with ⟨_,hv⟩|⟨_,_,hv,_⟩
    ·simp only [RV,RTy,V.val.injEq]at hu hv;subst hu;subst hv;exact quz ht _ _
    ·cases hv
   ·cases hu
  ·rename_i fields xs ys ht;split at h
   ·cases h
   ·rename_i hheld;rcases hu with ⟨hu,_⟩|⟨l,vs,hl,rfl,hsx,hrx⟩
    ·simp [qxZ]at hu
    ·rcases hv with ⟨hv,_⟩|⟨m,ws,hm,rfl,hsy,hry⟩
     ·simp [qxZ]at hv
     ·cases hl;cases hm
      unfold Op.equalIn;rw [qu, qy ht];simp only [qb];rw [qu];have h1 : Ab.valOf P Go.program = some P := rfl;simp only [h1, qb];rw [if_neg hheld, qu, <- Array.forIn_toList];have key : ∀ (fs : List Field) (b : Bool), fs.foldr (fun fd acc => if fd.name = "_" then none else
        match qbd P fd.type (xs.drop fd.offset),qbd P fd.type (ys.drop fd.offset),acc with
        |some u,some v,some b=>(teq P d fd.type u v).map λa=>bif a then b else false
        |_,_,_=>none) (some true)=some b ->
        Ab.valOf P (forIn fs ((none:Option Bool),()) λf __s=>(
         if f.name ≠ "_" then do
          let __do_lift <- part f.type vs.toArray f.offset
          let __do_lift_1 <- part f.type ws.toArray f.offset
          let __do_lift <- Op.equalIn n f.type __do_lift __do_lift_1
          if (!__do_lift)=true then pure (ForInStep.done (some false,()))
           else pure (ForInStep.yield (none,()))
         else pure (ForInStep.yield (none,())):Sem _))=some (if b then (none,())else (some false,())):=by
       intro fs;induction fs with
       |nil=>intro b hb;simp only [List.foldr_nil,qe]at hb;subst hb;rfl
       |cons fd fs ih =>
        intro b hb;simp only [List.foldr_cons]at hb;split at hb
        ·cases hb
        ·rename_i qdJ;split at hb
         ·rename_i u v b' hu hv hacc;obtain ⟨a,ha,rfl⟩:=qf.1 hb;obtain ⟨w1,hw1,hr1⟩:=qu7 hsx hrx hu;obtain ⟨w2,hw2,hr2⟩:=qu7 hsy hry hv;have he:=qwL d fd.type u v a ha n (by omega) w1 w2 hr1 hr2;have ih':=ih b' hacc;rw [List.forIn_cons,qu,if_pos qdJ,qu,hw1];simp only [qb];rw [qu,hw2];simp only [qb];rw [qu,he];simp only [qb];cases a with
          |true =>
           simp only [Bool.not_true,qj,if_false,qX,qb,cond_true];exact ih'
          |false =>
           simp only [Bool.not_false,if_true,qX,qb,cond_false,qj,if_false]
         ·cases hb
      have hkey:=key fields.toList b h;rw [hkey];simp only [qb];cases b<;>rfl
  ·cases h
theorem qel:9<=Op.maxDepth:=by unfold Op.maxDepth;omega
theorem qCt{op:BinOp}{t:TypeId}{xo yo:Operand}{l m:List TV}{l' m':List V}{R:Type}{k:TV->Option R}{r:R}(hl:RVL l l')(hm:RVL m m')(h:qt3 P op t (.agg l) (.agg m) R k=some r) :
  ∃z u,k z=some r/\qnt P op t xo yo (.agg l') (.agg m')=some u/\RV z u:=by
 simp only [qt3]at h;split at h
 ·cases h
 ·rename_i hc;simp only [Bool.or_eq_true,Bool.not_eq_true',not_or,Bool.not_eq_true,Bool.not_eq_false,qi]at hc;obtain ⟨hg,hs1,hs2⟩:=hc;split at h
  ·rename_i b hb;obtain ⟨vs,rfl⟩:=qoZ hs1 hl;obtain ⟨ws,rfl⟩:=qoZ hs2 hm;have he:=qwL 9 t _ _ b hb Op.maxDepth qel _ _ (.inr ⟨l,vs,rfl,rfl,hs1,hl⟩) (.inr ⟨m,ws,rfl,rfl,hs2,hm⟩);have hv:∀u,Ab.valOf P (do eqGuard op t xo yo (.agg vs.toArray) (.agg ws.toArray);Go.binOp op t (.agg vs.toArray) (.agg ws.toArray))=some u->qnt P op t xo yo (.agg (vs.map .val)) (.agg (ws.map .val))=some (qcT u):=λu hu=>by
    unfold qnt;simp only [V.toVal,qjZ,qn,hu]
   have hguard:∀op,(op=.eql\/op=.neq)->Ab.valOf P (eqGuard op t xo yo (.agg vs.toArray) (.agg ws.toArray))=some ():=λop hop=>by
    have h1:Ab.valOf P Go.program=some P:=rfl;rcases hop with rfl|rfl<;>simp only [eqGuard]<;>(simp only [Bool.not_true,qj,if_false,qu,h1,qb,hg,Bool.not_false,if_true];rfl)
   split at h
   ·refine ⟨_,.val (.bool b),h,?_,by simp [RV,RTy]⟩;refine hv (.bool b) ?_;rw [qu,hguard .eql (.inl rfl)];simp only [qb];show Ab.valOf P (Op.equal t _ _ >>= λx=>(pure (Value.bool x):Sem Value))=_;rw [qu];unfold Op.equal;rw [he];rfl
   ·refine ⟨_,.val (.bool (!b)),h,?_,by simp [RV,RTy]⟩;refine hv (.bool (!b)) ?_;rw [qu,hguard .neq (.inr rfl)];simp only [qb];show Ab.valOf P (Op.equal t _ _ >>= λx=>(pure (Value.bool (!x)):Sem Value))=_;rw [qu];unfold Op.equal;rw [he];rfl
   ·cases h
  ·cases h
theorem qpL{t:TypeId}(h:P.underlying t=some .bool)(a b:Bool):Ab.valOf P (Op.equal t (.bool a) (.bool b))=some (a==b):=by
 unfold Op.equal;obtain ⟨n,hn⟩:∃n,Op.maxDepth=n+1:=⟨Op.maxDepth-1,by have:=qel;omega⟩
 rw [hn];exact qmt h a b
theorem qAL{op:BinOp}{t:TypeId}{xo yo:Operand}{a b:Bool}{R:Type}{k:TV->Option R}{r:R}{o1 o2:Nat}(h:qt3 P op t (.t .bool o1 a) (.t .bool o2 b) R k=some r) :
  ∃z u,k z=some r/\qnt P op t xo yo (.val (.bool a)) (.val (.bool b))=some u/\RV z u:=by
 simp only [qt3]at h;split at h
 ·rename_i hu;refine ⟨_,.val (.bool (a==b)),h,?_,by simp [RV,RTy]⟩;refine qao (u:=.bool (a==b)) ?_;show Ab.valOf P (Op.equal t _ _ >>= λx=>(pure (Value.bool x):Sem Value))=_;rw [qu,qpL hu];rfl
 ·rename_i hu;refine ⟨_,.val (.bool (!(a==b))),h,?_,by simp [RV,RTy]⟩;refine qao (u:=.bool (!(a==b))) ?_;show Ab.valOf P (Op.equal t _ _ >>= λx=>(pure (Value.bool (!x)):Sem Value))=_;rw [qu,qpL hu];rfl
 ·cases h
theorem qt9{argTypes:Array TypeId}{s n:Nat}{y:V}:qdo P argTypes (.room s n) y=none:=by
 unfold qdo;split
 ·simp only
  split
  ·rfl
  ·split
   ·rfl
   ·rfl
 ·rfl
theorem qsf{argTypes:Array TypeId}{s n:Nat}{y:V}:qff P argTypes (.room s n) y=none:=by
 unfold qff;split
 ·rename_i h;cases h
 ·rfl
theorem qvw{argTypes:Array TypeId}{x y:TV}{x' y':V}{R:Type}{k:TV->Option R}{r:R}(hx:RV x x')(hy:RV y y')(h:qr5 P argTypes x y R k=some r) :
  ∃z u,k z=some r/\(qdo P argTypes x' y').or ((qff P argTypes x' y').or (qhk P argTypes x' y'))=some u/\RV z u:=by
 unfold qr5 at h;split at h
 ·rename_i elem yt h0 h1;split at h
  ·rename_i hc0;obtain ⟨hs0,hz,hb⟩:=hc0;split at h
   ·rename_i ik o n;simp only [RV]at hx;subst hx;simp only [RV,RTy]at hy;subst hy;cases hd:(decide (0<n)&&decide (n<=4294967296))with
    |false=>rw [hd]at h;cases h
    |true =>
     rw [hd]at h;simp only [qi,decide_eq_true_eq]at hd;have key:∀m:Int,0<m->m<=4294967296->m.toNat<=4294967296/\m<=70368744177664:=λm _ _=>by omega
     obtain ⟨key1,key2⟩:=key n hd.1 hd.2;refine ⟨_,.room (P.cellsOf elem) n.toNat,h,?_,by simp [RV]⟩;have e1:qdo P argTypes (.val (.slice none 0 0)) (.val (.int .i64 n))=none:=by
      rw [qmn h0 h1];rfl
     have hbig:n.toNat*P.bytesOf elem<=4294967296*8192:=Nat.mul_le_mul key1 hb;have e2:qff P argTypes (.val (.slice none 0 0)) (.val (.int .i64 n))=some (.room (P.cellsOf elem) n.toNat):=by
      unfold qff;rw [h0,h1];simp only;rw [if_pos ⟨hd.1,key2,hs0,hz,by omega⟩]
     rw [e1,e2];rfl
   ·split at h
    ·cases h
    ·rename_i τ o2 l2 ht;obtain ⟨l2',hl2',hall2⟩:=qAI ht hy;split at h
     ·rename_i hc;obtain ⟨hcl,hok,hel,hup⟩:=hc;obtain ⟨hup1,hup2⟩:=qBQ hup;have hc2:∀e∈l2',e.cells.length=P.cellsOf elem/\e.oks=true/\e.qx=[]:=λe he=>by
       obtain ⟨h1,h2,h3⟩:=qea hel hall2 e he;exact ⟨by rw [h1,hcl],h2,h3⟩
      have hp:ptrsL l2'=[]:=by
       apply List.eq_nil_iff_forall_not_mem.2;intro r hr;obtain ⟨v,hv,hrv⟩:=qoD.1 hr;rw [(hc2 v hv).2.2]at hrv;cases hrv
      have hall2':l2'.all (λe=>decide (e.cells.length=P.cellsOf elem)&&e.oks)=true:=by
       rw [List.all_eq_true];intro e he;simp [(hc2 e he).1,(hc2 e he).2.1]
      have hlen:=hall2.length;split at h
      ·-- behind nil
       simp only [RV]at hx;subst hx;have hv:qdo P argTypes (.val (.slice none 0 0)) y'=if l2'.isEmpty then some (.val (.slice none 0 0))else if (l2'.length+512)*P.bytesOf elem<=70368744177664/\l2'.length<=70368744177664 then some (.sl .own false l2')else none:=by
        rw [qmn h0 h1,hl2'];simp only;rw [if_neg (by simp only [not_or,Decidable.not_not,Bool.not_eq_false];exact ⟨hs0,hz,hall2',by rw [hp];rfl⟩)]
       cases hem:List.isEmpty l2 with
       |true =>
        rw [hem]at h;have hem':l2'.isEmpty=true:=by rw [List.isEmpty_iff]at hem ⊢;subst hem;cases hall2;rfl
        exact ⟨_,.val (.slice none 0 0),h,by rw [hv,if_pos hem'];rfl,by simp only [RV]⟩
       |false =>
        rw [hem]at h;obtain ⟨q,hq,hk⟩:=qh.1 h;obtain ⟨hn,rfl⟩:=qfT hq;have hem':¬ l2'.isEmpty=true:=by
         intro h9;rw [List.isEmpty_iff]at h9;subst h9;cases hall2;cases hem
        have hbig:=big (s:=l2'.length) (by rw [hlen];simpa using hn) hb;refine ⟨_,.sl .own false l2',hk,by rw [hv,if_neg hem',if_pos ⟨hbig,by rw [hlen];simp at hn;omega⟩];rfl,?_⟩;simp only [RV,RTy];exact ⟨.own,false,_,rfl,qfA hup,by rw [hup1];simpa using hall2⟩
      ·rename_i s τ2 o3 y2 _;split at h
       ·rename_i hs;subst hs;split at h
        ·rename_i q0;simp only [RV]at hx;obtain ⟨_,n,rfl,hn0⟩|⟨h9,_⟩:=hx
         case inr=>omega
         obtain rfl:=hn0 trivial;have hy2:∃fl cl,y'=.sl fl cl l2':=by
          cases τ2 with
          |sl t2=>simp only [RV,RTy]at hy;obtain ⟨f,c,l',rfl,_,_⟩:=hy;simp only [qCr]at hl2';exact ⟨f,c,by simpa using hl2'⟩
          |_=>simp [tail?]at ht
         obtain ⟨fl,cl,rfl⟩:=hy2;have hn:l2.length<=4294967296\/List.isEmpty l2=true:=by
          cases hem:List.isEmpty l2 with
          |true=>exact .inr rfl
          |false =>
           rw [hem]at h;obtain ⟨q,hq,hk⟩:=qh.1 h;obtain ⟨hn,rfl⟩:=qfT hq;exact .inl (by simpa using hn)
         have hnl:l2'.length<=4294967296:=by
          rw [hlen];rcases hn with hn|hn
          ·exact hn
          ·rw [List.isEmpty_iff]at hn;rw [hn];simp
         have hbig:l2'.length*P.bytesOf elem<=4294967296*8192:=Nat.mul_le_mul hnl hb;have hv:qhk P argTypes (.room (P.cellsOf elem) 0) (.sl fl cl l2')=if l2'.isEmpty=true then some (.room (P.cellsOf elem) 0)else some (.sl .own false l2'):=by
          unfold qhk;rw [h0,h1];simp only;rw [if_pos ⟨trivial,hz,hall2',by rw [hp];rfl,by omega,by omega⟩]
         rw [qt9,qsf,hv];cases hem:List.isEmpty l2 with
         |true =>
          rw [hem]at h;have hem':l2'.isEmpty=true:=by rw [List.isEmpty_iff]at hem ⊢;subst hem;cases hall2;rfl
          exact ⟨_,.room (P.cellsOf elem) 0,h,by rw [if_pos hem'];rfl,by simp [RV]⟩
         |false =>
          rw [hem]at h;obtain ⟨q,hq,hk⟩:=qh.1 h;obtain ⟨hn,rfl⟩:=qfT hq;have hem':¬ l2'.isEmpty=true:=by
           intro h9;rw [List.isEmpty_iff]at h9;subst h9;cases hall2;cases hem
          refine ⟨_,.sl .own false l2',hk,by rw [if_neg hem'];rfl,?_⟩;simp only [RV,RTy];exact ⟨.own,false,_,rfl,qfA hup,by rw [hup1];simpa using hall2⟩
        ·cases h
       ·cases h
      ·cases h
     ·cases h
  ·cases h
 ·cases h
end
section
variable {P:Program} {H:Hints} {f:FuncId}
theorem qnE{t:TypeId}{d:TypeDesc}(hd:P.underlying t=some d){x y:Value}(h:(∃e,d=.slice e/\x=.slice none 0 0/\y=.slice none 0 0)\/(∃e,d=.pointer e/\x=.pointer none/\y=.pointer none)\/(∃a b c,d=.func a b c/\x=.nilFunc/\y=.nilFunc)) :
  Ab.valOf P (Op.equal t x y)=some true:=by
 unfold Op.equal;obtain ⟨n,hn⟩:∃n,Op.maxDepth=n+1:=⟨Op.maxDepth-1,by have:=qel;omega⟩
 rw [hn];unfold Op.equalIn;rw [qu,qy hd];rcases h with ⟨e,rfl,rfl,rfl⟩|⟨e,rfl,rfl,rfl⟩|⟨a,b,c,rfl,rfl,rfl⟩<;>rfl
theorem qw9{t:TypeId}{ms:_}(hd:P.underlying t=some (.interface ms)):Ab.valOf P (Op.equal t .nilIface .nilIface)=some true:=by
 unfold Op.equal;obtain ⟨n,hn⟩:∃n,Op.maxDepth=n+1:=⟨Op.maxDepth-1,by have:=qel;omega⟩
 rw [hn];unfold Op.equalIn;rw [qu,qy hd];rfl
theorem qEg{op:BinOp}{t:TypeId}{xo yo:Operand}{x y:TV}{x' y':V}{R:Type}{k:TV->Option R}{r:R}(hx:RV x x')(hy:RV y y')(h:qt3 P op t x y R k=some r) :
  ∃z u,k z=some r/\qnt P op t xo yo x' y'=some u/\RV z u:=by
 by_cases h1:∃k1 o1 a k2 o2 b,x=.t (.int k1) o1 a/\y=.t (.int k2) o2 b
 ·obtain ⟨k1,o1,a,k2,o2,b,rfl,rfl⟩:=h1;simp only [RV,RTy]at hx hy;subst hx;subst hy;by_cases hs:op=.shl\/op=.shr
  ·exact qx9 hs h
  by_cases hk:k1=k2
  ·subst hk;exact qCu h
  ·unfold qt3 at h;cases op<;>first|exact absurd (.inl rfl) hs|exact absurd (.inr rfl) hs|simp [hk]at h
 by_cases h2:∃o1 a o2 b,x=.t .str o1 a/\y=.t .str o2 b
 ·obtain ⟨o1,a,o2,b,rfl,rfl⟩:=h2;simp only [RV,RTy]at hx hy;subst hx;subst hy;exact qCv h
 by_cases h3:∃o1 a o2 b,x=.t .bool o1 a/\y=.t .bool o2 b
 ·obtain ⟨o1,a,o2,b,rfl,rfl⟩:=h3;simp only [RV,RTy]at hx hy;subst hx;subst hy;exact qAL h
 by_cases h5:∃o1 a o2 b,x=.t .cx o1 a/\y=.t .cx o2 b
 ·obtain ⟨o1,a,o2,b,rfl,rfl⟩:=h5;exact qEf hx hy h
 by_cases h4:∃l m,x=.agg l/\y=.agg m
 ·obtain ⟨l,m,rfl,rfl⟩:=h4;simp only [RV]at hx hy;obtain ⟨l',rfl,hl⟩:=hx;obtain ⟨m',rfl,hm⟩:=hy;exact qCt hl hm h
 unfold qt3 at h;split at h
 ·exact absurd ⟨_,_,_,_,_,_,rfl,rfl⟩ h1
 ·exact absurd ⟨_,_,_,_,rfl,rfl⟩ h5
 ·exact absurd ⟨_,_,_,_,rfl,rfl⟩ h2
 ·exact absurd ⟨_,_,_,_,rfl,rfl⟩ h3
 ·exact absurd ⟨_,_,rfl,rfl⟩ h4
 ·rename_i τ o l;simp only [RV,RTy]at hx hy;obtain ⟨fx,cx,l',rfl,_,hall⟩:=hx;subst hy;split at h
  ·rename_i el hu;cases hall with
   |nil=>simp at h
   |cons ha hb =>
    simp only [List.isEmpty_cons,cond_false]at h;have hv:∀v m op,qnt P op t xo yo (.sl fx cx (v::m)) (.val (.slice none 0 0))=(match op with
      |.eql=>some (.val (.bool false))
      |.neq=>some (.val (.bool true))
      |_=>none):=λv m op=>by
     unfold qnt;simp only [V.toVal,hu,notNil,if_true];cases op<;>rfl
    split at h
    ·exact ⟨_,_,h,hv _ _ _,by simp [RV,RTy]⟩
    ·exact ⟨_,_,h,hv _ _ _,by simp [RV,RTy]⟩
    ·cases h
  ·cases h
 ·split at h
  ·rename_i d hd;split at h
   ·rename_i hn;have hv:x'.toVal=none/\notNil d x' y'=true:=by
     unfold qzQ at hn;split at hn
     ·simp only [RV]at hx hy;subst hx;subst hy;exact ⟨rfl,rfl⟩
     ·simp only [RV]at hx hy;obtain ⟨_,l',rfl,_⟩:=hx;subst hy;exact ⟨rfl,rfl⟩
     ·simp only [RV]at hx hy;obtain ⟨a',b',rfl,_⟩:=hx;subst hy;exact ⟨rfl,rfl⟩
     ·cases hn
    have hv2:∀op,qnt P op t xo yo x' y'=(match op with
      |.eql=>some (.val (.bool false))
      |.neq=>some (.val (.bool true))
      |_=>none):=λop=>by
     unfold qnt;simp only [hv.1,hd,hv.2,if_true];cases op<;>rfl
    split at h
    ·exact ⟨_,_,h,hv2 _,by simp [RV,RTy]⟩
    ·exact ⟨_,_,h,hv2 _,by simp [RV,RTy]⟩
    ·cases h
   ·split at h
    ·rename_i hn;have hv:∃u v,x'=.val u/\y'=.val v/\Ab.valOf P (Op.equal t u v)=some true/\(∀op,op=.eql\/op=.neq->Ab.valOf P (do eqGuard op t xo yo u v;Go.binOp op t u v)=Ab.valOf P (Op.equal t u v >>= λb=>(pure (Value.bool (if op=.eql then b else !b)):Sem Value))):=by
      unfold qCW at hn;split at hn
      ·simp only [RV]at hx hy;subst hx;subst hy;refine ⟨_,_,rfl,rfl,qnE hd (.inl ⟨_,rfl,rfl,rfl⟩),?_⟩;rintro op (rfl|rfl)<;>rfl
      ·simp only [RV]at hx hy;subst hx;subst hy;refine ⟨_,_,rfl,rfl,qnE hd (.inr (.inl ⟨_,rfl,rfl,rfl⟩)),?_⟩;rintro op (rfl|rfl)<;>rfl
      ·simp only [RV]at hx hy;subst hx;subst hy;refine ⟨_,_,rfl,rfl,qnE hd (.inr (.inr ⟨_,_,_,rfl,rfl,rfl⟩)),?_⟩;rintro op (rfl|rfl)<;>rfl
      ·cases hn
     obtain ⟨u,v,rfl,rfl,he,hg⟩:=hv;split at h
     ·refine ⟨_,.val (.bool true),h,?_,by simp [RV,RTy]⟩;refine qao (u:=.bool true) ?_;rw [hg _ (.inl rfl),qu,he];rfl
     ·refine ⟨_,.val (.bool false),h,?_,by simp [RV,RTy]⟩;refine qao (u:=.bool false) ?_;rw [hg _ (.inr rfl),qu,he];rfl
     ·cases h
    ·cases h
  ·cases h
theorem qFo{op:UnOp}{x y:TV}{v:V}(hx:RV x v)(h:tun op x=some y):∃u,v.toVal.bind (λa=>(Ab.valOf P (Go.Op.unary op a)).map qcT)=some u/\RV y u:=by
 unfold tun at h;split at h
 ·cases h;simp only [RV,RTy]at hx;subst hx;exact ⟨_,rfl,by simp [RV,RTy,qcT]⟩
 ·cases h;simp only [RV,RTy]at hx;subst hx;exact ⟨_,rfl,by simp [RV,RTy,qcT]⟩
 ·cases h
theorem qCw{src dst:TypeId}{x:TV}{v:V}{R:Type}{k:TV->Option R}{r:R}(hx:RV x v)(h:qEh P src dst x R k=some r):∃z u,k z=some r/\qsg P src dst v=some u/\RV z u:=by
 unfold qEh at h;split at h
 ·rename_i d1 kk k0 o n h1 h2;simp only [RV,RTy]at hx;subst hx;refine ⟨_,.val (.int kk (kk.wrap n)),h,?_,by simp [RV,RTy]⟩;unfold qsg qhl;simp only [V.toVal];unfold Go.convert;rw [qu,qy h1];simp only [qb];rw [qu,qy h2];rfl
 ·rename_i d1 k0 o n h1 h2;obtain ⟨n',hn',hk'⟩:=qh.1 h;obtain ⟨rfl,hn⟩:=qev hn';simp only [RV,RTy]at hx;subst hx;refine ⟨_,.val (.float .f64 (FloatKind.f64.nearest n')),hk',?_,by simp only [RV,RTy];exact ⟨_,rfl,Fl.qxD hn⟩⟩;unfold qsg qhl;simp only [V.toVal];unfold Go.convert;rw [qu,qy h1];simp only [qb];rw [qu,qy h2];rfl
 ·rename_i o n h1 h2;obtain ⟨n',hn',hk'⟩:=qh.1 h;obtain ⟨rfl,hn⟩:=qev hn';simp only [RV,RTy]at hx;obtain ⟨b,rfl,hb⟩:=hx;refine ⟨_,.val (.int .i64 n'),hk',?_,by simp [RV,RTy]⟩;unfold qsg qhl;simp only [V.toVal];unfold Go.convert;rw [qu,qy h1];simp only [qb];rw [qu,qy h2];have h3:(FloatKind.f64.decode b).toInt .zero=some n':=Fl.qCx hb;have h4:IntKind.i64.min<=n'/\n'<=IntKind.i64.max:=by
   simp only [IntKind.min,IntKind.max,IntKind.signed,IntKind.bits,if_true]<;>omega
  show ((Ab.valOf P (Conv.floatToInt .f64 b .i64)).map qcT)=_;unfold Conv.floatToInt;simp only [h3];rw [if_pos h4];rfl
 ·rename_i d1 o s h1 h2;simp only [RV,RTy]at hx;subst hx;refine ⟨_,.val (.string ⟨s.toArray⟩),h,?_,by simp [RV,RTy]⟩;unfold qsg qhl;simp only [V.toVal];unfold Go.convert;rw [qu,qy h1];simp only [qb];rw [qu,qy h2];rfl
 ·rename_i e o l h1 h2;split at h
  ·rename_i he;simp only [RV,RTy]at hx;obtain ⟨f,c,l',rfl,_,hall⟩:=hx;refine ⟨_,.val (.string ⟨(l.map λn=>UInt8.ofNat n.toNat).toArray⟩),h,?_,by simp [RV,RTy]⟩;simp only [qsg,qua,h1,h2,he];have hb:∀{l:List Int} {l':List V},All2 (λ(n:Int) v=>v=.val (.int .u8 n)) l l'->bytesOf l'=some (l.map λn=>UInt8.ofNat n.toNat):=by
    intro l l' hall;induction hall with
    |nil=>rfl
    |cons h1 _ ih=>subst h1;simp only [bytesOf,ih,qn,qm]
   rw [hb (hall.mono λn v h=>by simpa only [RTy]using h)];rfl
  ·cases h
 ·cases h
theorem qsa{k:IntKind}:∀{xs:List TV} {ys:List V} {l:List Int},qt5 k xs=some l->RVL xs ys->ys=l.map λn=>.val (.int k n)
 |[],ys,l,h,hr=>by simp only [qt5,qe]at h;simp only [RVL]at hr;subst h;subst hr;rfl
 |x::xs,ys,l,h,hr=>by
  simp only [RVL]at hr;obtain ⟨v,m,rfl,h1,h2⟩:=hr;cases x with
  |t τ o x =>
   cases τ with
   |int k' =>
    simp only [qt5]at h;split at h
    ·rename_i hk;subst hk;obtain ⟨l',hl',rfl⟩:=qf.1 h;simp only [RV,RTy]at h1;subst h1;rw [qsa hl' h2];rfl
    ·cases h
   |_=>simp [qt5]at h
  |_=>simp [qt5]at h
theorem qjY(k:IntKind):∀l:List Int,toValL (l.map λn=>V.val (.int k n))=some (l.map λn=>Value.int k n)
 |[]=>rfl
 |n::l=>by simp [toValL,V.toVal,qjY k l]
theorem qzF(k:IntKind):∀(l:List Int) (n:Int),Ab.valOf P ((l.map λn=>Value.int k n).foldlM Go.Builtin.max2 (.int k n))=some (.int k (l.foldl max n))
 |[],n=>rfl
 |m::l,n=>by
  simp only [qm,List.foldlM_cons,List.foldl_cons];rw [qu];have:Ab.valOf P (Go.Builtin.max2 (.int k n) (.int k m))=some (.int k (max n m)):=by
   show some (Value.int k (if m > n then m else n))=_;congr 2;split<;>omega
  rw [this];exact qzF k l _
theorem qzM(k:IntKind):∀(l:List Int) (n:Int),Ab.valOf P ((l.map λn=>Value.int k n).foldlM Go.Builtin.min2 (.int k n))=some (.int k (l.foldl min n))
 |[],n=>rfl
 |m::l,n=>by
  simp only [qm,List.foldlM_cons,List.foldl_cons];rw [qu];have:Ab.valOf P (Go.Builtin.min2 (.int k n) (.int k m))=some (.int k (min n m)):=by
   show some (Value.int k (if m<n then m else n))=_;congr 2;split<;>omega
  rw [this];exact qzM k l _
theorem qvy{b:Builtin}{argTypes:Array TypeId}{ty:TypeId}{xs:List TV}{ys:List V}{R:Type}{k:TV->Option R}{r:R}(hx:RVL xs ys)(h:qr7 P b argTypes xs R k=some r) :
  ∃z u,k z=some r/\qeE P b argTypes ty ys=some u/\RV z u:=by
 unfold qr7 at h;split at h
 ·rename_i τ o l;simp only [RVL]at hx;obtain ⟨v,m,rfl,h1,rfl⟩:=hx;simp only [RV,RTy]at h1;obtain ⟨fx,c,l',rfl,_,hall⟩:=h1;split at h
  ·rename_i e he;refine ⟨_,.val (.int .i64 l'.length),h,?_,by simp [RV,RTy,hall.length]⟩;simp only [qeE,he]
  ·cases h
 ·rename_i τ l;simp only [RVL]at hx;obtain ⟨v,m,rfl,h1,rfl⟩:=hx;simp only [RV]at h1;obtain ⟨fx,l',rfl,_,hall⟩:=h1;split at h
  ·rename_i e he;refine ⟨_,.val (.int .i64 l'.length),h,?_,by simp [RV,RTy,hall.length]⟩;simp only [qeE,he]
  ·cases h
 ·rename_i ow;simp only [RVL]at hx;obtain ⟨v,m,rfl,h1,rfl⟩:=hx;simp only [RV]at h1;obtain ⟨fx,c,rfl,_⟩:=h1;split at h
  ·rename_i e he;refine ⟨_,.val (.int .i64 ([]:List V).length),h,?_,by simp [RV,RTy]⟩;simp only [qeE,he]
  ·cases h
 ·rename_i o s;simp only [RVL]at hx;obtain ⟨v,m,rfl,h1,rfl⟩:=hx;simp only [RV,RTy]at h1;subst h1;split at h
  ·rename_i he;refine ⟨_,.val (.int .i64 s.length),h,?_,by simp [RV,RTy]⟩;obtain ⟨t,ht,hu⟩:=qh.1 he;have hl:Ab.valOf P (Go.Builtin.len_ argTypes ty #[.string ⟨s.toArray⟩])=some (.int .i64 s.length):=by
    unfold Go.Builtin.len_;have ha:(#[Value.string ⟨s.toArray⟩]:Array Value)[0]?=some (.string ⟨s.toArray⟩):=rfl;simp only [ht,ha];rw [qu,qy hu];simp only [qb];show some (goInt (⟨s.toArray⟩:ByteArray).size)=_;simp [goInt,ByteArray.size]
   show ((toValL [V.val (.string ⟨s.toArray⟩)]).bind λvs=>(Ab.valOf P (Go.Builtin.len_ argTypes ty vs.toArray)).map qcT)=_;simp only [toValL,V.toVal,qb];rw [show [Value.string ⟨s.toArray⟩].toArray=#[Value.string ⟨s.toArray⟩]from rfl,hl];rfl
  ·cases h
 ·simp only [RVL]at hx;obtain ⟨v,m,rfl,h1,rfl⟩:=hx;simp only [RV]at h1;subst h1;split at h
  ·rename_i e he;refine ⟨_,.val (.int .i64 0),h,?_,by simp [RV,RTy]⟩;obtain ⟨t,ht,hu⟩:=qh.1 he;have hl:Ab.valOf P (Go.Builtin.cap_ argTypes ty #[.slice none 0 0])=some (.int .i64 0):=by
    unfold Go.Builtin.cap_;have ha:(#[Value.slice none 0 0]:Array Value)[0]?=some (.slice none 0 0):=rfl;simp only [ht,ha];rw [qu,qy hu];rfl
   show ((toValL [V.val (.slice none 0 0)]).bind λvs=>(Ab.valOf P (Go.Builtin.cap_ argTypes ty vs.toArray)).map qcT)=_;simp only [toValL,V.toVal,qb];rw [show [Value.slice none 0 0].toArray=#[Value.slice none 0 0]from rfl,hl];rfl
  ·cases h
 ·simp only [RVL]at hx;obtain ⟨v,m,rfl,h1,rfl⟩:=hx;simp only [RV]at h1;subst h1;split at h
  ·rename_i e he;refine ⟨_,.val (.int .i64 0),h,?_,by simp [RV,RTy]⟩;obtain ⟨t,ht,hu⟩:=qh.1 he;have hl:Ab.valOf P (Go.Builtin.len_ argTypes ty #[.slice none 0 0])=some (.int .i64 0):=by
    unfold Go.Builtin.len_;have ha:(#[Value.slice none 0 0]:Array Value)[0]?=some (.slice none 0 0):=rfl;simp only [ht,ha];rw [qu,qy hu];rfl
   show ((toValL [V.val (.slice none 0 0)]).bind λvs=>(Ab.valOf P (Go.Builtin.len_ argTypes ty vs.toArray)).map qcT)=_;simp only [toValL,V.toVal,qb];rw [show [Value.slice none 0 0].toArray=#[Value.slice none 0 0]from rfl,hl];rfl
  ·cases h
 ·rename_i x y;simp only [RVL]at hx;obtain ⟨v,m,rfl,h1,v2,m2,rfl,h2,rfl⟩:=hx;split at h
  ·obtain ⟨z,u,hz,hu,hr⟩:=qvw h1 h2 h;exact ⟨z,u,hz,by simp only [qeE,hu],hr⟩
  ·obtain ⟨z,u,hz,hu,hr⟩:=qx8 h1 h2 h;exact ⟨z,u,hz,by simp only [qeE,hu,Option.some_or],hr⟩
 ·rename_i o1 a o2 b;simp only [RVL]at hx;obtain ⟨v,m,rfl,h1,v2,m2,rfl,h2,rfl⟩:=hx;simp only [RV,RTy]at h1 h2;obtain ⟨b1,rfl,i1⟩:=h1;obtain ⟨b2,rfl,i2⟩:=h2;exact ⟨_,.val (.complex .f64 b1 b2),h,rfl,by simp only [RV,RTy];exact ⟨b1,b2,rfl,i1,i2⟩⟩
 ·rename_i o1 a;simp only [RVL]at hx;obtain ⟨v,m,rfl,h1,rfl⟩:=hx;simp only [RV,RTy]at h1;obtain ⟨b1,b2,rfl,i1,i2⟩:=h1;exact ⟨_,.val (.float .f64 b1),h,rfl,by simp only [RV,RTy];exact ⟨b1,rfl,i1⟩⟩
 ·rename_i o1 a;simp only [RVL]at hx;obtain ⟨v,m,rfl,h1,rfl⟩:=hx;simp only [RV,RTy]at h1;obtain ⟨b1,b2,rfl,i1,i2⟩:=h1;exact ⟨_,.val (.float .f64 b2),h,rfl,by simp only [RV,RTy];exact ⟨b2,rfl,i2⟩⟩
 ·rename_i kk o n xs;split at h
  ·rename_i l hl;simp only [RVL]at hx;obtain ⟨v,m,rfl,h1,h2⟩:=hx;simp only [RV,RTy]at h1;subst h1;rw [qsa hl h2];refine ⟨_,.val (.int kk (l.foldl max n)),h,?_,by simp [RV,RTy]⟩;show ((toValL ((n::l).map λn=>V.val (.int kk n))).bind λvs=>(Ab.valOf P (Go.Builtin.max_ argTypes ty vs.toArray)).map qcT)=_;rw [qjY];simp only [qb];have:Ab.valOf P (Go.Builtin.max_ argTypes ty ((n::l).map λn=>Value.int kk n).toArray)=some (.int kk (l.foldl max n)):=qzF kk l n;rw [this];rfl
  ·cases h
 ·rename_i kk o n xs;split at h
  ·rename_i l hl;simp only [RVL]at hx;obtain ⟨v,m,rfl,h1,h2⟩:=hx;simp only [RV,RTy]at h1;subst h1;rw [qsa hl h2];refine ⟨_,.val (.int kk (l.foldl min n)),h,?_,by simp [RV,RTy]⟩;show ((toValL ((n::l).map λn=>V.val (.int kk n))).bind λvs=>(Ab.valOf P (Go.Builtin.min_ argTypes ty vs.toArray)).map qcT)=_;rw [qjY];simp only [qb];have:Ab.valOf P (Go.Builtin.min_ argTypes ty ((n::l).map λn=>Value.int kk n).toArray)=some (.int kk (l.foldl min n)):=qzM kk l n;rw [this];rfl
  ·cases h
 ·cases h
def BxR:Option (List TV)->Option (List V)->Prop
 |none,b=>True
 |some c,b=>∃c',b=some c'/\RVL c c'
def BxO:Option (List TV)->Option (List V)->Prop
 |none,b=>b=none
 |some c,b=>∃c',b=some c'/\RVL c c'
theorem qAK{R:Type}{mk:Int->TV}{l:List Int}{r:R}:∀(n i:Nat) (acc:List TV) (k:List TV->Option R),qFn R mk l n i acc k=some r->i<=l.length->n+i<=l.length/\k (acc++((l.drop i).take n).map mk)=some r
 |0,i,acc,k,h,hi=>⟨by omega,by simpa [qFn]using h⟩
 |n+1,i,acc,k,h,hi=>by
  unfold qFn at h;obtain ⟨e,he,hk⟩:=qh.1 h;rw [show idx l (i:Int)=l[i]? from by simp [idx]]at he;have hlt:=(qq.1 he).1;obtain ⟨h1,h2⟩:=qAK n (i+1) _ k hk (by omega);refine ⟨by omega,?_⟩;have e1:(l.drop i).take (n+1)=e::(l.drop (i+1)).take n:=by
   rw [List.drop_eq_getElem_cons hlt,List.take_succ_cons];rw [(qq.1 he).2]
  rw [e1,qm];simpa using h2
theorem qvx{t:TypeId}{x:TV}{R:Type}{k:TV->Option R}{r:R}{v:V}(h:qr6 P t x R k=some r)(hx:RV x v):∃y u,k y=some r/\qiY P t v=some u/\RV y u:=by
 unfold qr6 at h;split at h
 ·rename_i n elem kk o l hu;split at h
  ·cases h
  ·rename_i h0;obtain ⟨h1,h2⟩:=qAK n 0 [] _ h (Nat.zero_le _);simp only [RV,RTy]at hx;obtain ⟨fl,c,l',rfl,hfl,hall⟩:=hx;have hl:=hall.length;have hv:∀{l:List Int} {l':List V},All2 (λ(n:Int) v=>v=.val (.int kk n)) l l'->(qht l').isSome=true:=by
    intro l l' h;induction h with
    |nil=>rfl
    |cons h1 _ ih=>subst h1;simpa [qht]using ih
   have hall':=hall.mono λn v (h:RTy (.int kk) (nx o) n v)=>(by simpa only [RTy]using h:v=.val (.int kk n))
   refine ⟨_,.cptr (q9 fl) (l'.take n),h2,?_,?_⟩
   ·simp only [qiY,hu];rw [if_pos ⟨by omega,h0,hv hall'⟩]
   ·simp only [RV];refine ⟨_,_,rfl,by cases fl<;>simp [q9],λe=>by rw [hfl.2 (of_decide_eq_true e)];rfl,?_⟩;have ht:∀{l:List Int} {l':List V},All2 (λ(n:Int) v=>v=.val (.int kk n)) l l'->∀n,RVL ((l.take n).map λe=>.t (.int kk) 0 e) (l'.take n):=by
     intro l l' h;induction h with
     |nil=>intro n;simp only [List.take_nil,List.map_nil];exact qak
     |cons h1 _ ih =>
      intro n;cases n with
      |zero=>simp only [List.take_zero,List.map_nil];exact qak
      |succ n =>
       subst h1;simp only [List.take_succ_cons,qm];exact qC.2 ⟨by simp only [RV,RTy],ih n⟩
    simpa using ht hall' n
 ·cases h
theorem qt7{tk:Bool}{o:Op}{ty:TypeId}{xs:List TV}{ys:List V}{bx:Option (List TV)}{bx':Option (List V)}{R:Type}{k:TV->Option (List TV)->Option R}{r:R}(hx:RVL xs ys)(hb:BxR bx bx')(hmp:∀c,bx'=some c->qhq c=false)
  (h:qda P H f tk o xs bx R k=some r):∃z c u c',k z c=some r/\qa6 P H f tk o ty ys bx'=some (u,c')/\RV z u/\BxO c c':=by
 have fin:∀{x:Option TV} {y:Option V},(match x with|some x=>k x none|none=>none)=some r->(∀z,x=some z->∃u,y=some u/\RV z u)->∃z c u c',k z c=some r/\(y.map λx=>(x,(none:Option (List V))))=some (u,c')/\RV z u/\BxO c c':=by
  intro x y h1 h2;cases x with
  |none=>cases h1
  |some z =>
   obtain ⟨u,hu,hr⟩:=h2 z rfl;exact ⟨z,none,u,none,h1,by rw [hu];rfl,hr,rfl⟩
 have fin2:∀{y:Option V},(∃z u,k z none=some r/\y=some u/\RV z u)->∃z c u c',k z c=some r/\(y.map λx=>(x,(none:Option (List V))))=some (u,c')/\RV z u/\BxO c c':=by
  rintro y ⟨z,u,h1,rfl,hr⟩;exact ⟨z,none,u,none,h1,rfl,hr,rfl⟩
 unfold qda at h;simp only at h;split at h
 ·simp only [RVL]at hx;obtain ⟨v,m,rfl,h1,rfl⟩:=hx;exact ⟨_,none,v,none,h,rfl,h1,rfl⟩
 ·simp only [RVL]at hx;obtain ⟨v,m,rfl,h1,rfl⟩:=hx;exact ⟨_,none,v,none,h,rfl,h1,rfl⟩
 ·rename_i o' c a b;simp only [RVL]at hx;obtain ⟨v,m,rfl,h1,va,ma,rfl,ha,vb,mb,rfl,hb',rfl⟩:=hx;simp only [RV,RTy]at h1;subst h1;cases c with
  |true=>exact ⟨_,none,va,none,h,rfl,ha,rfl⟩
  |false=>exact ⟨_,none,vb,none,h,rfl,hb',rfl⟩
 ·rename_i t parts xs;exact fin h λz hz=>qAN hx hz
 ·rename_i t len parts xs;exact fin h λz hz=>qpy hx hz
 ·rename_i t a cs;simp only [RVL]at hx;obtain ⟨v,m,rfl,h1,rfl⟩:=hx;simp only [RV]at h1;obtain ⟨_,cs',rfl,_,_,hc⟩:=h1;refine fin h λz hz=>?_;obtain ⟨w,hw,rfl⟩:=qf.1 hz;obtain ⟨u,hu,hr⟩:=qen hw hc;exact ⟨u.qai,by rw [hu];rfl,hr.qai⟩
 ·rename_i t a q off;simp only [RVL]at hx;obtain ⟨v,m,rfl,h1,rfl⟩:=hx;simp only [RV]at h1;subst h1;split at h
  ·rename_i cs;obtain ⟨cs',rfl,hc⟩:=hb;have hlp:=qfj (qaY hc) (hmp _ rfl);split at h
   ·rename_i htk;split at h
    ·rename_i x hxx;obtain ⟨u,hu,hr⟩:=qen hxx (hc.drop off);refine ⟨_,_,u,_,h,?_,hr,⟨_,rfl,qk9 hc (RVL.qai ((hc.drop off).take _))⟩⟩;simp only [qa6,hlp,qj,if_false,htk,if_true,hu,qn]
    ·cases h
   ·rename_i htk;obtain ⟨z,c,u,c',h1,h2,h3,h4⟩:=fin (y:=(qaj P t (cs'.drop off)).map V.qai) h λz hz=>by
     obtain ⟨w,hw,rfl⟩:=qf.1 hz;obtain ⟨u,hu,hr⟩:=qen hw (hc.drop off);exact ⟨u.qai,by rw [hu];rfl,hr.qai⟩
    refine ⟨z,c,u,c',h1,?_,h3,h4⟩;simp only [qa6,hlp,qj,if_false];rw [if_neg htk];exact h2
  ·cases h
 ·rename_i t a b q off x;simp only [RVL]at hx;obtain ⟨v,m,rfl,h1,v2,m2,rfl,h2,rfl⟩:=hx;simp only [RV]at h1;subst h1;split at h
  ·rename_i cs;obtain ⟨cs',rfl,hc⟩:=hb;have hlp:=qfj (qaY hc) (hmp _ rfl);split at h
   ·rename_i hcond;obtain ⟨h0,hl,ho,hk⟩:=hcond;obtain ⟨hcells,hko⟩:=RV.cells hk h2;refine ⟨_,_,.undef,_,h,?_,qcV [],⟨_,rfl,qk9 hc hcells⟩⟩;simp only [qa6];rw [if_pos ⟨hlp,h0,by rw [hcells.length];exact hl,by rw [hcells.length,hc.length];exact ho,hko⟩]
   ·cases h
  ·cases h
 ·simp only [RVL]at hx;obtain ⟨v,m,rfl,h1,rfl⟩:=hx;simp only [RV]at h1;subst h1;exact ⟨_,none,_,none,h,rfl,by simp [RV],rfl⟩
 ·simp only [RVL]at hx;obtain ⟨v,m,rfl,h1,rfl⟩:=hx;have h1':=h1;simp only [RV]at h1;obtain ⟨_,l',rfl,_,h1⟩:=h1;exact ⟨_,none,_,none,h,rfl,h1',rfl⟩
 ·simp only [RVL]at hx;obtain ⟨v,m,rfl,h1,rfl⟩:=hx;have h1':=h1;simp only [RV]at h1;obtain ⟨a',b',rfl,_⟩:=h1;exact ⟨_,none,_,none,h,rfl,h1',rfl⟩
 ·rename_i op' t xo c0 yt o0 b;simp only [RVL]at hx;obtain ⟨v,m,rfl,h1,v2,m2,rfl,h2,rfl⟩:=hx;simp only [RV,RTy]at h1 h2;subst h2;have hv:∀op ms,(op=.eql\/op=.neq)->P.underlying t=some (.interface ms)->qnt P op t xo (.const c0) v (.val .nilIface)=some (.val (.bool (if op=.eql then b else !b))):=by
   intro op ms hop hu;rcases h1 with ⟨rfl,rfl⟩|⟨rfl,t9,rfl⟩
   ·have he:Ab.valOf P (Op.equal t .nilIface .nilIface)=some true:=qw9 hu;have hg:∀op,Ab.valOf P (eqGuard op t xo (.const c0) .nilIface .nilIface)=some ():=by
     intro op;unfold eqGuard;cases op<;>cases xo<;>rfl
    unfold qnt;simp only [V.toVal];rcases hop with rfl|rfl
    ·rw [qu,hg];simp only [qb];show ((Ab.valOf P (Op.equal t .nilIface .nilIface >>= λb=>(pure (Value.bool b):Sem Value))).map qcT)=_;rw [qu,he];rfl
    ·rw [qu,hg];simp only [qb];show ((Ab.valOf P (Op.equal t .nilIface .nilIface >>= λb=>(pure (Value.bool (!b)):Sem Value))).map qcT)=_;rw [qu,he];rfl
   ·unfold qnt;simp only [V.toVal,Option.map_none,hu,notNil,if_true];rcases hop with rfl|rfl<;>rfl
  split at h
  ·rename_i ms hu;exact fin2 ⟨_,_,h,hv .eql ms (.inl rfl) hu,by simp [RV,RTy]⟩
  ·rename_i ms hu;exact fin2 ⟨_,_,h,hv .neq ms (.inr rfl) hu,by simp [RV,RTy]⟩
  ·cases h
 ·simp only [RVL]at hx;obtain ⟨v,m,rfl,h1,v2,m2,rfl,h2,rfl⟩:=hx;exact fin2 (qEg h1 h2 h)
 ·simp only [RVL]at hx;obtain ⟨v,m,rfl,h1,rfl⟩:=hx;exact fin h λz hz=>qFo h1 hz
 ·simp only [RVL]at hx;obtain ⟨v,m,rfl,h1,rfl⟩:=hx;exact fin2 (qCw h1 h)
 ·refine ⟨_,none,_,none,h,rfl,?_,rfl⟩;simp only [RV];exact ⟨_,_,rfl,hx.take _,hx.drop _⟩
 ·simp only [RVL]at hx;obtain ⟨v,m,rfl,h1,v2,m2,rfl,h2,rfl⟩:=hx;exact fin2 (qsb h1 h2 h)
 ·rename_i t a lo hi mx x rest;simp only [RVL]at hx;obtain ⟨v,m,rfl,h1,h2⟩:=hx;have hhead:∀{l:List TV} {l':List V},RVL l l'->RVO l.head? l'.head?:=λ{l l'} h=>by
   cases l with
   |nil=>simp only [RVL]at h;subst h;trivial
   |cons y l=>simp only [RVL]at h;obtain ⟨u,n,rfl,h3,_⟩:=h;exact h3
  have htail:∀{l:List TV} {l':List V},RVL l l'->RVL l.tail l'.tail:=λ{l l'} h=>by
   rw [<- List.drop_one,<- List.drop_one];exact h.drop 1
  have hr1:RVL (if lo.isSome=true then rest.tail else rest) (if lo.isSome=true then m.tail else m):=by
   split
   ·exact htail h2
   ·exact h2
  have hr2:RVL (if hi.isSome=true then (if lo.isSome=true then rest.tail else rest).tail else (if lo.isSome=true then rest.tail else rest)) (if hi.isSome=true then (if lo.isSome=true then m.tail else m).tail else (if lo.isSome=true then m.tail else m)):=by
   split
   ·exact htail hr1
   ·exact hr1
  have ho:∀{q:Bool} {l:List TV} {l':List V},RVL l l'->RVO (if q=true then l.head? else none) (if q=true then l'.head? else none):=λ{q l l'} h=>by
   split
   ·exact hhead h
   ·trivial
  split at h
  ·obtain ⟨y,u,hk,hv,hr⟩:=qyb h1 (ho h2) (ho hr1) (ho hr2) h;exact fin2 ⟨y,u,hk,hv,hr⟩
  ·obtain ⟨y,u,hk,hv,hr⟩:=qAU h1 (ho h2) (ho hr1) (ho hr2) h;exact fin2 ⟨y,u,hk,by rw [hv];rfl,hr⟩
 ·simp only [RVL]at hx;obtain ⟨v,m,rfl,h1,rfl⟩:=hx;exact fin h λz hz=>qr8 hz h1
 ·simp only [RVL]at hx;obtain ⟨v,m,rfl,h1,rfl⟩:=hx;exact fin h λz hz=>qAP hz h1
 ·simp only [RVL]at hx;obtain ⟨v,m,rfl,h1,rfl⟩:=hx;obtain ⟨y,u,hk,hu,hr⟩:=qvx h h1;exact fin2 ⟨y,u,hk,hu,hr⟩
 ·simp only [RVL]at hx;obtain ⟨v,m,rfl,h1,v2,m2,rfl,h2,rfl⟩:=hx;simp only [RV,RTy]at h2;subst h2;obtain ⟨y,u,hk,hu,hr⟩:=qr9 h h1;exact fin2 ⟨y,u,hk,hu,hr⟩
 ·simp only [RVL]at hx;obtain ⟨v,m,rfl,h1,v2,m2,rfl,h2,rfl⟩:=hx;simp only [RV,RTy]at h2;subst h2;split at h
  ·rename_i len elem cs hu;simp only [RV]at h1;obtain ⟨cs',rfl,hc⟩:=h1;obtain ⟨y,u,hk,hv,hr⟩:=qAR hu h hc;exact fin2 ⟨y,u,hk,hv,hr⟩
  ·rename_i o s hu;simp only [RV,RTy]at h1;subst h1;obtain ⟨b,hb',hk⟩:=qh.1 h;obtain ⟨h0,hi⟩:=qne hb';refine fin2 ⟨_,.val (.int .u8 b.toNat),hk,?_,by simp [RV,RTy]⟩;simp only [qpd,hu];rw [if_pos h0];have key:∀j:Nat,s[j]?=some b->(⟨s.toArray⟩:ByteArray)[j]?=some b:=λj hj=>by
    have hlt:=(qq.1 hj).1;rw [getElem?_pos (⟨s.toArray⟩:ByteArray) j (by simpa [ByteArray.size]using hlt)];have:=(qq.1 hj).2;simp only [qe];rw [<- this];rfl
   rw [key _ hi];rfl
  ·cases h
 ·simp only [RVL]at hx;obtain ⟨v,m,rfl,h1,rfl⟩:=hx;simp only [RV]at h1;obtain ⟨l',rfl,hl⟩:=h1;exact fin h λz hz=>hl.get hz
 ·exact fin2 (qvy hx h)
 ·cases h
end
section
variable {P:Program} {H:Hints} {f:FuncId}
theorem qrq{t:TypeId}{τ:Ty}(h:qjT P t τ=true):qog τ=true:=by
 unfold qjT at h;split at h<;>first|rfl|cases h
theorem qrp:∀(fs:List Field) (i:Nat) (τ:Ty),qkk P fs i τ=true->qro τ=true
 |[],i,.unit,_=>rfl
 |fd::fs,i,.pair a b,h=>by
  simp only [qkk,qi]at h;simp only [qro,qi];exact ⟨qrq h.1.2,qrp fs (i+1) b h.2⟩
 |[],i,.int _,h|[],i,.bool,h|[],i,.str,h|[],i,.flt,h|[],i,.cx,h|[],i,.err,h|[],i,.mset _,h|[],i,.sl _,h|[],i,.pair _ _,h=>by simp [qkk]at h
 |_::_,i,.int _,h|_::_,i,.bool,h|_::_,i,.str,h|_::_,i,.flt,h|_::_,i,.cx,h|_::_,i,.err,h|_::_,i,.mset _,h|_::_,i,.sl _,h|_::_,i,.unit,h=>by simp [qkk]at h
theorem qxv{τ:Ty}(h:qog τ=true):qhX τ=true:=by cases τ<;>first|rfl|(simp [qog]at h)
theorem qcy{τ:Ty}(h:qog τ=true)(x:τ.den):qcX τ x=qqH τ x:=by cases τ<;>first|rfl|(simp [qog]at h)
theorem qq6{τ:Ty}(h:qog τ=true)(x y:τ.den):eqK τ x y=eqS τ x y:=by cases τ<;>first|rfl|(simp [qog]at h)
theorem qnq{τ:Ty}(h:qog τ=true){o:Nat}{x:τ.den}{v:V}(hr:RTy τ o x v):v=.val (qqH τ x):=by
 cases τ<;>first|(simp only [RTy]at hr;exact hr)|(simp [qog]at h)
theorem qwB:∀{τ:Ty} (h:qro τ=true) {o:Nat} {x:τ.den} {l:List V},RTy τ o x (.agg l)->l=(qym τ x).map .val
 |.unit,h,o,x,l,hr=>by simp only [RTy,V.agg.injEq]at hr;subst hr;rfl
 |.pair a b,h,o,x,l,hr=>by
  simp only [qro,qi]at h;simp only [RTy]at hr;obtain ⟨v1,l',e,h1,h2⟩:=hr;cases e;rw [qnq h.1 h1,qwB h.2 h2];rfl
 |.int _,h,_,_,_,_|.bool,h,_,_,_,_|.str,h,_,_,_,_|.flt,h,_,_,_,_|.cx,h,_,_,_,_|.err,h,_,_,_,_|.mset _,h,_,_,_,_|.sl _,h,_,_,_,_=>by simp [qro]at h
theorem qAo{τ:Ty}(h:qhX τ=true){o:Nat}{x:τ.den}{v:V}(hr:RTy τ o x v):v.toVal=some (qcX τ x):=by
 by_cases hs:qog τ=true
 ·rw [qnq hs hr,qcy hs];rfl
 ·cases τ with
  |pair a b =>
   simp only [qhX,qi]at h;simp only [RTy]at hr;obtain ⟨v1,l',rfl,h1,h2⟩:=hr;rw [qnq h.1 h1,qwB h.2 h2];simp only [V.toVal,toValL,qjZ,qn,qcX]
  |_=>simp [qhX,qog]at h hs
theorem qCP{τ:Ty}{x y:τ.den}(h:eqS τ x y=true):x=y:=by
 cases τ<;>simp only [eqS]at h<;>first|exact of_decide_eq_true h|exact eq_of_beq h|cases h
theorem qCO:∀{τ:Ty} {x y:τ.den},qro τ=true->eqR τ x y=true->x=y
 |.unit,_,_,_,_=>rfl
 |.pair a b,x,y,hk,h=>by
  simp only [qro,qi]at hk;simp only [eqR]at h;cases h1:eqS a x.1 y.1 with
  |false=>rw [h1]at h;cases h
  |true=>rw [h1]at h;exact Prod.ext (qCP h1) (qCO hk.2 h)
 |.int _,_,_,h,_|.bool,_,_,h,_|.str,_,_,h,_|.flt,_,_,h,_|.cx,_,_,h,_|.err,_,_,h,_|.mset _,_,_,h,_|.sl _,_,_,h,_=>by simp [qro]at h
theorem qER{τ:Ty}(hk:qhX τ=true){x y:τ.den}(h:eqK τ x y=true):x=y:=by
 by_cases hs:qog τ=true
 ·rw [qq6 hs]at h;exact qCP h
 ·cases τ with
  |pair a b =>
   simp only [qhX,qi]at hk;exact qCO (τ:=.pair a b) (by simp [qro,hk.1,hk.2]) h
  |_=>simp [qhX,qog]at hk hs
def tvR:(τ:Ty)->τ.den->List TV
 |.pair a b,x=>.t a 0 x.1::tvR b x.2
 |_,_=>[]
theorem qAr{a:Ty}(h:qog a=true)(x:a.den):qxZ (.t a 0 x)=true/\RV (.t a 0 x) (.val (qqH a x)):=by
 cases a<;>first|exact ⟨rfl,by simp [RV,RTy,qqH]⟩|(simp [qog]at h)
theorem qwO:∀{τ:Ty} (h:qro τ=true) (x:τ.den),(tvR τ x).all qxZ=true/\RVL (tvR τ x) ((qym τ x).map .val)
 |.unit,_,_=>⟨rfl,qak⟩
 |.pair a b,h,x=>by
  simp only [qro,qi]at h;obtain ⟨h1,h2⟩:=qAr h.1 x.1;obtain ⟨h3,h4⟩:=qwO h.2 x.2;exact ⟨by simp [tvR,h1,h3],qC.2 ⟨h2,h4⟩⟩
 |.int _,h,_|.bool,h,_|.str,h,_|.flt,h,_|.cx,h,_|.err,h,_|.mset _,h,_|.sl _,h,_=>by simp [qro]at h
theorem qtX{t:TypeId}{τ:Ty}(h:qjT P t τ=true):∃d,P.underlying t=some d/\qY P t=false:=by
 unfold qjT at h;unfold qY;split at h
 ·rename_i h1;rw [h1];exact ⟨_,rfl,rfl⟩
 ·rename_i h1;rw [h1];exact ⟨_,rfl,rfl⟩
 ·rename_i h1;rw [h1];exact ⟨_,rfl,rfl⟩
 ·cases h
theorem qwM{t:TypeId}{τ:Ty}(h:qjT P t τ=true)(d:Nat)(x y:τ.den):teq P (d+1) t (.t τ 0 x) (.t τ 0 y)=some (eqS τ x y):=by
 unfold qjT at h;split at h
 ·rename_i k k' h1;simp only [decide_eq_true_eq]at h;subst h;simp [teq,h1,eqS]
 ·rename_i h1;simp [teq,h1,eqS]
 ·rename_i h1;simp [teq,h1,eqS]
 ·cases h
theorem qnx{t:TypeId}{τ:Ty}(h:qjT P t τ=true)(v:TV)(l:List TV):qbd P t (v::l)=some v:=by
 obtain ⟨d,h1,h2⟩:=qtX h;unfold qbd;rw [h1,h2];rfl
theorem qy2:∀(fs:List Field) (i:Nat) (τ:Ty) (x y:τ.den) (px py:List TV),qkk P fs i τ=true->px.length=i->py.length=i ->
  fs.foldr (fun fd acc => if fd.name = "_" then none else
    match qbd P fd.type ((px++tvR τ x).drop fd.offset),qbd P fd.type ((py++tvR τ y).drop fd.offset),acc with
    |some u,some v,some b=>(teq P 8 fd.type u v).map λa=>bif a then b else false
    |_,_,_=>none) (some true)=some (eqR τ x y)
 |[],i,.unit,_,_,_,_,_,_,_=>rfl
 |fd::fs,i,.pair a b,x,y,px,py,h,hx,hy=>by
  simp only [qkk,qi,decide_eq_true_eq]at h;obtain ⟨⟨⟨hn,ho⟩,hs⟩,hf⟩:=h;have ih:=qy2 fs (i+1) b x.2 y.2 (px++[.t a 0 x.1]) (py++[.t a 0 y.1]) hf (by simp [hx]) (by simp [hy]);simp only [List.append_assoc,List.singleton_append]at ih;simp only [List.foldr_cons,tvR];rw [ih,if_neg hn,ho];rw [List.drop_left' hx,List.drop_left' hy,qnx hs,qnx hs];simp only [qwM hs,qn,eqR]
 |[],i,.int _,_,_,_,_,h,_,_|[],i,.bool,_,_,_,_,h,_,_|[],i,.str,_,_,_,_,h,_,_|[],i,.flt,_,_,_,_,h,_,_|[],i,.cx,_,_,_,_,h,_,_|[],i,.err,_,_,_,_,h,_,_|[],i,.mset _,_,_,_,_,h,_,_|[],i,.sl _,_,_,_,_,h,_,_|[],i,.pair _ _,_,_,_,_,h,_,_=>by simp [qkk]at h
 |_::_,i,.int _,_,_,_,_,h,_,_|_::_,i,.bool,_,_,_,_,h,_,_|_::_,i,.str,_,_,_,_,h,_,_|_::_,i,.flt,_,_,_,_,h,_,_|_::_,i,.cx,_,_,_,_,h,_,_|_::_,i,.err,_,_,_,_,h,_,_|_::_,i,.mset _,_,_,_,_,h,_,_|_::_,i,.sl _,_,_,_,_,h,_,_|_::_,i,.unit,_,_,_,_,h,_,_=>by simp [qkk]at h
theorem qfa{t:TypeId}{τ:Ty}(h:qfD P t τ=true):(qog τ=true/\qjT P t τ=true)\/(∃fields a b,P.underlying t=some (.struct fields)/\τ=.pair a b/\P.stoodInHeld t=false/\qkk P fields.toList 0 (.pair a b)=true):=by
 unfold qfD at h;simp only [Bool.or_eq_true]at h;rcases h with h|h
 ·exact .inl ⟨qrq h,h⟩
 ·split at h
  ·rename_i fields a b hu;simp only [qi,Bool.not_eq_true']at h;exact .inr ⟨fields,a,b,hu,rfl,h.1,h.2⟩
  ·cases h
theorem qp1{t:TypeId}{τ:Ty}(h:qfD P t τ=true):qhX τ=true:=by
 rcases qfa h with ⟨h1,_⟩|⟨fields,a,b,_,rfl,_,h2⟩
 ·exact qxv h1
 ·have:=qrp _ _ _ h2;simpa [qhX,qro]using this
theorem qyW{t:TypeId}{τ:Ty}(h:qfD P t τ=true)(x y:τ.den):Ab.valOf P (Op.equal t (qcX τ x) (qcX τ y))=some (eqK τ x y):=by
 unfold Op.equal;rcases qfa h with ⟨h1,h2⟩|⟨fields,a,b,hu,rfl,hst,hf⟩
 ·rw [qcy h1,qcy h1,qq6 h1];obtain ⟨s1,r1⟩:=qAr h1 x;obtain ⟨s2,r2⟩:=qAr h1 y;exact qwL 1 t _ _ _ (qwM h2 0 x y) Op.maxDepth (by have:=qel;omega) _ _ (.inl ⟨s1,r1⟩) (.inl ⟨s2,r2⟩)
 ·have hk:=qrp _ _ _ hf;obtain ⟨s1,r1⟩:=qwO hk x;obtain ⟨s2,r2⟩:=qwO hk y;have ht:teq P 9 t (.agg (tvR (.pair a b) x)) (.agg (tvR (.pair a b) y))=some (eqK (.pair a b) x y):=by
   unfold teq;rw [hu];simp only [hst,qj,if_false];exact qy2 fields.toList 0 (.pair a b) x y [] [] hf rfl rfl
  exact qwL 9 t _ _ _ ht Op.maxDepth qel _ _ (.inr ⟨_,_,rfl,rfl,s1,r1⟩) (.inr ⟨_,_,rfl,rfl,s2,r2⟩)
theorem qpF{t:TypeId}{τ:Ty}(h:qjT P t τ=true)(e:Bool)(n:Nat)(x:τ.den):Ab.valOf P (Instr.checkKey e (n+1) t (qqH τ x))=some ():=by
 unfold Instr.checkKey;unfold qjT at h;split at h
 ·rename_i h1;rw [qu,qy h1];rfl
 ·rename_i h1;rw [qu,qy h1];rfl
 ·rename_i h1;rw [qu,qy h1];rfl
 ·cases h
theorem qsD{t:TypeId}{τ:Ty}(h:qfD P t τ=true)(e:Bool)(x:τ.den):Ab.valOf P (Instr.checkKey e 10000 t (qcX τ x))=some ():=by
 rcases qfa h with ⟨h1,h2⟩|⟨fields,a,b,hu,rfl,hst,hf⟩
 ·rw [qcy h1];exact qpF h2 e 9999 x
 ·have hk:=qrp _ _ _ hf;obtain ⟨s1,r1⟩:=qwO hk x;unfold Instr.checkKey;rw [qu,qy hu];simp only [qb,qcX];rw [<- Array.forIn_toList];have key:∀(fs:List Field) (i:Nat) (τ':Ty) (y:τ'.den) (px:List TV),qkk P fs i τ'=true->px.length=i->tvR (.pair a b) x=px++tvR τ' y ->
    Ab.valOf P (forIn fs PUnit.unit λf _=>(
     if f.name ≠ "_" then do
      let __do_lift <- part f.type (qqH a x.1::qym b x.2).toArray f.offset
      Instr.checkKey e 9999 f.type __do_lift
      pure (ForInStep.yield PUnit.unit)
     else pure (ForInStep.yield PUnit.unit):Sem (ForInStep PUnit)))=some PUnit.unit:=by
   intro fs;induction fs with
   |nil=>intro i τ' y px _ _ _;rfl
   |cons fd fs ih =>
    intro i τ' y px hf hl heq;cases τ' with
    |pair a' b' =>
     simp only [qkk,qi,decide_eq_true_eq]at hf;obtain ⟨⟨⟨hn,ho⟩,hs⟩,hf'⟩:=hf;have hc:qbd P fd.type ((tvR (.pair a b) x).drop fd.offset)=some (.t a' 0 y.1):=by
      rw [heq,ho,List.drop_left' hl];exact qnx hs _ _
     obtain ⟨w,hw,hrel⟩:=qu7 s1 r1 hc;have hwv:w=qqH a' y.1:=by
      rcases hrel with ⟨_,hr⟩|⟨l,vs,h9,_⟩
      ·have:=qnq (qrq hs) (show RTy a' 0 y.1 (.val w)from by simpa only [RV]using hr);simpa using this
      ·cases h9
     have hw':Ab.valOf P (part fd.type (qqH a x.1::qym b x.2).toArray fd.offset)=some w:=hw;rw [List.forIn_cons,qu,if_pos hn,qu,hw',qb,qu,hwv,qpF hs e 9998];simp only [qb,qX];exact ih (i+1) b' y.2 (px++[.t a' 0 y.1]) hf' (by simp [hl]) (by rw [heq];simp [tvR])
    |_=>simp [qkk]at hf
  first
  |exact key fields.toList 0 (.pair a b) x [] hf rfl rfl
  |(rw [qu,key fields.toList 0 (.pair a b) x [] hf rfl rfl];rfl)
def kvs(τ:Ty)(l:List τ.den):List (Value×Value):=l.map λx=>(qcX τ x,.bool true)
def qze(τ:Ty)(k:τ.den):List τ.den->Nat->Nat
 |[],i=>i
 |x::l,i=>if eqK τ k x=true then i else qze τ k l (i+1)
theorem qzf{τ:Ty}{k:τ.den}:∀{l:List τ.den} {i:Nat},qmA τ l k=true->∃j,qze τ k l i=i+j/\∃x,l[j]?=some x/\eqK τ k x=true
 |[],i,h=>by simp [qmA]at h
 |x::l,i,h=>by
  simp only [qze];by_cases hx:eqK τ k x=true
  ·rw [if_pos hx];exact ⟨0,by omega,x,rfl,hx⟩
  ·rw [if_neg hx];have hm:qmA τ l k=true:=by
    unfold qmA at h ⊢;simp only [List.any_cons,Bool.or_eq_true]at h;rcases h with h|h
    ·exact absurd h hx
    ·exact h
   obtain ⟨j,hj,y,hy,he⟩:=qzf (i:=i+1) hm;exact ⟨j+1,by omega,y,by simpa using hy,he⟩
theorem qCJ{t:TypeId}{τ:Ty}(h:qfD P t τ=true)(k:τ.den):∀(l:List τ.den) (i:Nat),Ab.valOf P (Instr.findAsking t (qcX τ k) (qfW (kvs τ l)) i)=some (if qmA τ l k then some (qze τ k l i,.bool true)else none)
 |[],i=>rfl
 |x::l,i=>by
  show Ab.valOf P (Instr.findAsking t (qcX τ k) (⟨qcX τ x,.bool true,0⟩::qfW (kvs τ l)) i)=_;simp only [Instr.findAsking];rw [qu,qyW h];simp only [qb];cases hx:eqK τ k x with
  |true =>
   have hm:qmA τ (x::l) k=true:=by simp [qmA,hx]
   rw [hm];simp only [if_true,qze,hx];rfl
  |false =>
   have hm:qmA τ (x::l) k=qmA τ l k:=by simp [qmA,hx]
   rw [hm];simp only [qj,if_false,qze,hx];exact qCJ h k l (i+1)
theorem qAq{t:TypeId}{τ:Ty}{d:TypeDesc}(h:qjT P t τ=true)(hd:P.underlying t=some d)(x y:τ.den):Instr.sameNow d (qqH τ x) (qqH τ y)=some (eqS τ x y):=by
 unfold qjT at h;split at h
 ·rename_i h1;rw [h1]at hd;cases hd;simp only [qqH,Instr.sameNow,if_true,eqS,qe];rw [Bool.eq_iff_iff];simp
 ·rename_i h1;rw [h1]at hd;cases hd;rfl
 ·rename_i h1;rw [h1]at hd;cases hd;simp only [qqH,Instr.sameNow,eqS,qe];rw [Bool.eq_iff_iff];first
  |(show (x.toArray==y.toArray)=true↔decide (x=y)=true;simp)
  |(show decide ((⟨x.toArray⟩:ByteArray)=⟨y.toArray⟩)=true↔decide (x=y)=true;simp)
 ·cases h
theorem qCZ{t:TypeId}{τ:Ty}{d:TypeDesc}(h:qjT P t τ=true)(hd:P.underlying t=some d)(k:τ.den):∀(l:List τ.den) (i:Nat),Instr.findNow d (qcX τ k) (qfW (kvs τ l)) i=some (if qmA τ l k then some (qze τ k l i,.bool true)else none)
 |[],i=>rfl
 |x::l,i=>by
  have hs:=qrq h;show Instr.findNow d (qcX τ k) (⟨qcX τ x,.bool true,0⟩::qfW (kvs τ l)) i=_;simp only [Instr.findNow];rw [qcy hs k,qcy hs x,qAq h hd,<- qq6 hs];cases hx:eqK τ k x with
  |true =>
   have hm:qmA τ (x::l) k=true:=by simp [qmA,hx]
   simp only [hm,if_true,qze,hx]
  |false =>
   have hm:qmA τ (x::l) k=qmA τ l k:=by simp [qmA,hx]
   simp only [hm,qj,if_false,qze,hx];rw [<- qcy hs k];exact qCZ h hd k l (i+1)
theorem qy0{t:TypeId}{τ:Ty}(h:qfD P t τ=true)(k:τ.den)(l:List τ.den):Ab.valOf P (Instr.findKey t (qcX τ k) (qfW (kvs τ l)))=some (if qmA τ l k then some (qze τ k l 0,.bool true)else none):=by
 unfold Instr.findKey;rcases qfa h with ⟨h1,h2⟩|⟨fields,a,b,hu,rfl,hst,hf⟩
 ·obtain ⟨d,hd,_⟩:=qtX h2;rw [qu,qy hd];simp only [qb,qCZ h2 hd k l 0];rfl
 ·rw [qu,qy hu];simp only [qb];cases l with
  |nil=>rfl
  |cons x l =>
   have:Instr.findNow (.struct fields) (qcX (.pair a b) k) (qfW (kvs (.pair a b) (x::l))) 0=none:=rfl;rw [this];exact qCJ h k (x::l) 0
theorem qtW{τ:Ty}(hk:qhX τ=true)(x:τ.den):Instr.sameBits 10000 (qcX τ x) (qcX τ x)=true:=by
 have hsc:∀(n:Nat) {a:Ty} (h:qog a=true) (x:a.den),Instr.sameBits n (qqH a x) (qqH a x)=true:=λn a h x=>by
  cases a<;>first|(simp [qqH,Instr.sameBits];done)|skip
  case str =>
   have e:∀s:ByteArray,Instr.sameBits n (.string s) (.string s)=(s==s):=λs=>by cases n<;>rfl
   show Instr.sameBits n (.string ⟨x.toArray⟩) (.string ⟨x.toArray⟩)=true;rw [e];first
   |exact beq_self_eq_true _
   |(show (x.toArray==x.toArray)=true;simp)
   |(show decide ((⟨x.toArray⟩:ByteArray)=⟨x.toArray⟩)=true;simp)
  all_goals simp [qog]at h
 by_cases hs:qog τ=true
 ·rw [qcy hs];exact hsc _ hs x
 ·cases τ with
  |pair a b =>
   simp only [qhX,qi]at hk;simp only [qcX];have hall:∀{τ:Ty} (h:qro τ=true) (x:τ.den),((qym τ x).zip (qym τ x)).all (λp=>Instr.sameBits 9999 p.1 p.2)=true:=λ{τ}=>by
    induction τ with
    |unit=>intro _ _;rfl
    |pair a b _ ih =>
     intro h x;simp only [qro,qi]at h;simp only [qym,List.zip_cons_cons,List.all_cons,qi];exact ⟨hsc _ h.1 x.1,ih h.2 x.2⟩
    |_=>intro h;simp [qro]at h
   have:=hall (τ:=.pair a b) (by simp [qro,hk.1,hk.2]) x;simp only [qym]at this;show ((qqH a x.1::qym b x.2).toArray.size==(qqH a x.1::qym b x.2).toArray.size&&_)=true;simp only [beq_self_eq_true,Bool.true_and];exact this
  |_=>simp [qhX,qog]at hk hs
theorem qzx{t kt vt:TypeId}{τ:Ty}{l:List τ.den}{x:TV}{v:V}{y:τ.den}{ok:Bool}{o:Nat}(hu:P.underlying t=some (.map kt vt))(hf:qfD P kt τ=true)(hz:qud P H f vt=some (.t .bool o false))(hy:qhm τ 0 x=some y)(hx:RV x v) :
  ∃u,qmo P H f t (kvs τ l) v ok=some u/\RV (if ok then .tuple [.t .bool 0 (qmA τ l y),.t .bool 0 (qmA τ l y)]else .t .bool 0 (qmA τ l y)) u:=by
 have hk:=qp1 hf;have hv:=qAo hk (qdu _ _ _ _ _ hy hx);obtain ⟨z',hz',hzr,_⟩:=qiZ hz;simp only [RV,RTy]at hzr;subst hzr;unfold qmo;rw [hu,hv];simp only [qsD hf,qy0 hf,hz'];cases hm:qmA τ l y with
 |true =>
  simp only [if_true];refine ⟨_,rfl,?_⟩;cases ok with
  |true=>simp [RV,RVL,RTy,qcT]
  |false=>simp [RV,RTy,qcT]
 |false =>
  simp only [qj,if_false];refine ⟨_,rfl,?_⟩;cases ok with
  |true=>simp [RV,RVL,RTy]
  |false=>simp [RV,RTy]
theorem qt8{t kt vt:TypeId}{τ:Ty}{l:List τ.den}{x:TV}{v w:V}{y:τ.den}(hu:P.underlying t=some (.map kt vt))(hf:qfD P kt τ=true)(hy:qhm τ 0 x=some y)(hx:RV x v)(hw:w=.val (.bool true)) :
  qj2 P t (kvs τ l) v w=some (kvs τ (qDF τ l y)):=by
 have hk:=qp1 hf;have hv:=qAo hk (qdu _ _ _ _ _ hy hx);subst hw;unfold qj2;rw [hu,hv];simp only [V.toVal,qsD hf,qy0 hf];unfold qDF;cases hm:qmA τ l y with
 |true =>
  obtain ⟨j,hj,x',hx',he⟩:=qzf (i:=0) hm;have hxy:x'=y:=(qER hk he).symm;subst hxy;simp only [if_true,cond_true];have hj':qze τ x' l 0=j:=by omega
  have hkj:(kvs τ l)[j]?=some (qcX τ x',.bool true):=by simp [kvs,hx']
  rw [hj',hkj];simp only [qtW hk,if_true,qe];apply List.ext_getElem?;intro i;rw [List.getElem?_set];split
  ·rename_i hij;subst hij;have hlt:=(qq.1 hkj).1;rw [if_pos hlt,hkj]
  ·rfl
 |false =>
  simp only [qj,if_false,cond_false];simp [kvs]
mutual
theorem adopt_id(q:Root):∀v:V,v.qx=[]->v.adopt q=v
 |.mref r,h=>by simp [V.qx]at h
 |.fn g a b,h=>by
  simp only [V.qx,List.append_eq_nil_iff]at h;simp only [V.adopt,adoptL_id q a h.1,adoptL_id q b h.2]
 |.agg l,h=>by simp only [V.qx]at h;simp only [V.adopt,adoptL_id q l h]
 |.cptr _ l,h=>by simp only [V.qx]at h;simp only [V.adopt,adoptL_id q l h]
 |.tuple l,h=>by simp only [V.qx]at h;simp only [V.adopt,adoptL_id q l h]
 |.undef,_|.val _,_|.ptr ..,_|.sl ..,_|.room ..,_|.yld _,_|.bsl ..,_|.iface ..,_|.mp _,_|.lp ..,_=>by simp [V.adopt]
theorem adoptL_id(q:Root):∀l:List V,ptrsL l=[]->Ab.adoptL q l=l
 |[],_=>by simp [Ab.adoptL]
 |v::l,h=>by
  simp only [ptrsL,List.append_eq_nil_iff]at h;simp only [Ab.adoptL,adopt_id q v h.1,adoptL_id q l h.2]
end
theorem qf9:∀(τ:Ty) (o:Nat) (x:τ.den) (v:V),RTy τ o x v->v.onlyMaps=true
 |.int _,_,_,v,h=>by simp only [RTy]at h;subst h;rfl
 |.bool,_,_,v,h=>by simp only [RTy]at h;subst h;rfl
 |.str,_,_,v,h=>by simp only [RTy]at h;subst h;rfl
 |.flt,_,_,v,h=>by simp only [RTy]at h;obtain ⟨_,rfl,_⟩:=h;rfl
 |.cx,_,_,v,h=>by simp only [RTy]at h;obtain ⟨_,_,rfl,_⟩:=h;rfl
 |.err,_,_,v,h=>by simp only [RTy]at h;rcases h with ⟨_,rfl⟩|⟨_,t9,rfl⟩<;>rfl
 |.mset _,_,_,v,h=>by simp only [RTy]at h;obtain ⟨_,rfl⟩:=h;rfl
 |.sl _,_,_,v,h=>by simp only [RTy]at h;obtain ⟨_,_,_,rfl,_⟩:=h;rfl
 |.unit,_,_,v,h=>by simp only [RTy]at h;subst h;rfl
 |.pair a b,o,x,v,h=>by
  simp only [RTy]at h;obtain ⟨v1,l,rfl,h1,h2⟩:=h;have h3:=qf9 a o x.1 v1 h1;have h4:=qf9 b o x.2 (.agg l) h2;simp only [V.onlyMaps]at h4 ⊢;simp only [Ab.onlyMapsL,h3,h4]<;>rfl
mutual
theorem rv_adopt(q:Root):∀(x:TV) (v:V),x.onlyMaps=true->RV x v->RV (x.adopt q) (v.adopt q)/\v.onlyMaps=true
 |.any _,v,ho,_|.ptr ..,v,ho,_|.bsl ..,v,ho,_|.iface ..,v,ho,_|.yld _,v,ho,_|.lp ..,v,ho,_=>by simp [TV.onlyMaps]at ho
 |.mref r,v,_,h=>by simp only [RV]at h;subst h;simp [TV.adopt,V.adopt,RV,V.onlyMaps]
 |.t τ o x,v,_,h=>by
  simp only [TV.adopt];have h':=h;simp only [RV]at h;rw [adopt_id q v (qdW τ o x v h)];exact ⟨h',qf9 τ o x v h⟩
 |.clp τ x,v,_,h=>by
  simp only [TV.adopt];have h':=h;simp only [RV]at h;obtain ⟨f,l',rfl,_⟩:=h;exact ⟨by simpa only [V.adopt]using h',rfl⟩
 |.room a s,v,_,h=>by
  simp only [TV.adopt];have h':=h;simp only [RV]at h;obtain ⟨_,n,rfl,_⟩|⟨_,rfl|⟨f,hf0,rfl⟩⟩:=h
  ·exact ⟨by simpa only [V.adopt]using h',rfl⟩
  ·exact ⟨by simpa only [V.adopt]using h',rfl⟩
  ·exact ⟨by simpa only [V.adopt]using h',rfl⟩
 |.empty o,v,_,h=>by
  simp only [TV.adopt];have h':=h;simp only [RV]at h;obtain ⟨f,c,rfl,_⟩:=h;exact ⟨by simpa only [V.adopt]using h',rfl⟩
 |.val u,v,_,h=>by
  simp only [TV.adopt];have h':=h;simp only [RV]at h;subst h;exact ⟨by simpa only [V.adopt]using h',rfl⟩
 |.agg l,v,ho,h=>by
  simp only [TV.onlyMaps]at ho;simp only [RV]at h;obtain ⟨l',rfl,h⟩:=h;obtain ⟨h1,h2⟩:=rvl_adopt q l l' ho h;exact ⟨by simp only [TV.adopt,V.adopt,RV];exact ⟨_,rfl,h1⟩,by simpa only [V.onlyMaps]using h2⟩
 |.cptr s l,v,ho,h=>by
  simp only [TV.onlyMaps]at ho;simp only [RV]at h;obtain ⟨f,l',rfl,hno,hsh,h⟩:=h;obtain ⟨h1,h2⟩:=rvl_adopt q l l' ho h;exact ⟨by simp only [TV.adopt,V.adopt,RV];exact ⟨_,_,rfl,hno,hsh,h1⟩,by simpa only [V.onlyMaps]using h2⟩
 |.tuple l,v,ho,h=>by
  simp only [TV.onlyMaps]at ho;simp only [RV]at h;obtain ⟨l',rfl,h⟩:=h;obtain ⟨h1,h2⟩:=rvl_adopt q l l' ho h;exact ⟨by simp only [TV.adopt,V.adopt,RV];exact ⟨_,rfl,h1⟩,by simpa only [V.onlyMaps]using h2⟩
 |.fn g a b,v,ho,h=>by
  simp only [TV.onlyMaps,qi]at ho;simp only [RV]at h;obtain ⟨a',b',rfl,ha,hb⟩:=h;obtain ⟨h1,h2⟩:=rvl_adopt q a a' ho.1 ha;obtain ⟨h3,h4⟩:=rvl_adopt q b b' ho.2 hb;exact ⟨by simp only [TV.adopt,V.adopt,RV];exact ⟨_,_,rfl,h1,h3⟩,by simp only [V.onlyMaps,h2,h4];rfl⟩
theorem rvl_adopt(q:Root):∀(l:List TV) (l':List V),onlyMapsTL l=true->RVL l l'->RVL (adoptTL q l) (Ab.adoptL q l')/\Ab.onlyMapsL l'=true
 |[],l',_,h=>by simp only [RVL]at h;subst h;exact ⟨by simp [adoptTL,Ab.adoptL,RVL],rfl⟩
 |x::l,l',ho,h=>by
  simp only [onlyMapsTL,qi]at ho;simp only [RVL]at h;obtain ⟨v,m,rfl,h1,h2⟩:=h;obtain ⟨h3,h4⟩:=rv_adopt q x v ho.1 h1;obtain ⟨h5,h6⟩:=rvl_adopt q l m ho.2 h2;exact ⟨by simp only [adoptTL,Ab.adoptL];exact qC.2 ⟨h3,h5⟩,by simp only [Ab.onlyMapsL,h4,h6];rfl⟩
end
mutual
theorem RV.onlyMaps_eq:∀(x:TV) (v:V),x.known=true->RV x v->v.onlyMaps=x.onlyMaps
 |.any _,v,hk,_=>by simp [TV.known]at hk
 |.t τ o x,v,_,h=>by simp only [RV]at h;rw [qf9 τ o x v h]<;>rfl
 |.clp τ x,v,_,h=>by simp only [RV]at h;obtain ⟨f,l',rfl,_⟩:=h;rfl
 |.room a s,v,_,h=>by simp only [RV]at h;obtain ⟨_,n,rfl,_⟩|⟨_,rfl|⟨f,hf0,rfl⟩⟩:=h<;>rfl
 |.empty o,v,_,h=>by simp only [RV]at h;obtain ⟨f,c,rfl,_⟩:=h;rfl
 |.val u,v,_,h=>by simp only [RV]at h;subst h;rfl
 |.agg l,v,hk,h=>by simp only [RV]at h;obtain ⟨l',rfl,h⟩:=h;simp only [TV.known]at hk;simp only [V.onlyMaps,TV.onlyMaps];exact RVL.onlyMaps_eq l l' hk h
 |.tuple l,v,hk,h=>by simp only [RV]at h;obtain ⟨l',rfl,h⟩:=h;simp only [TV.known]at hk;simp only [V.onlyMaps,TV.onlyMaps];exact RVL.onlyMaps_eq l l' hk h
 |.fn g a b,v,hk,h=>by
  simp only [RV]at h;obtain ⟨a',b',rfl,h1,h2⟩:=h;simp only [TV.known,qi]at hk;simp only [V.onlyMaps,TV.onlyMaps,RVL.onlyMaps_eq a a' hk.1 h1,RVL.onlyMaps_eq b b' hk.2 h2]
 |.ptr r o,v,_,h=>by simp only [RV]at h;subst h;rfl
 |.bsl r o n,v,_,h=>by simp only [RV]at h;subst h;rfl
 |.yld r,v,_,h=>by simp only [RV]at h;subst h;rfl
 |.lp ..,v,_,h=>by simp only [RV]at h
 |.mref r,v,_,h=>by simp only [RV]at h;subst h;rfl
 |.cptr s l,v,hk,h=>by simp only [RV]at h;obtain ⟨f,l',rfl,_,_,h⟩:=h;simp only [TV.known]at hk;simp only [V.onlyMaps,TV.onlyMaps];exact RVL.onlyMaps_eq l l' hk h
 |.iface t x,v,hk,h=>by simp [TV.known]at hk
theorem RVL.onlyMaps_eq:∀(l:List TV) (l':List V),knownL l=true->RVL l l'->Ab.onlyMapsL l'=onlyMapsTL l
 |[],l',_,h=>by simp only [RVL]at h;subst h;rfl
 |x::l,l',hk,h=>by
  simp only [RVL]at h;obtain ⟨v,m,rfl,h1,h2⟩:=h;simp only [knownL,qi]at hk;simp only [Ab.onlyMapsL,onlyMapsTL,RV.onlyMaps_eq x v hk.1 h1,RVL.onlyMaps_eq l m hk.2 h2]
end
theorem qp7{g:FuncId}{first cap args:List TV}{first' cap' args':List V}(hk:knownL (first++args++cap)=true)(h:RVL (first++args++cap) (first'++args'++cap')) :
  qh2 (.fn g first' cap') args'=qkN (.fn g first cap) args:=by
 unfold qh2 qkN;simp only [hk,if_true,RVL.ptrs_eq _ _ hk h,RVL.onlyMaps_eq _ _ hk h];cases ptrsTL (first++args++cap)<;>rfl
end
theorem qjX(e:Env):e.toL.length=e.n:=by simp [Env.toL]
theorem toL_get?(e:Env)(i:Nat):e.toL[i]?=if i<e.n then some (e.t.get (.any []) i)else none:=by
 unfold Env.toL;rw [List.getElem?_map];by_cases h:i<e.n
 ·rw [if_pos h];simp [h]
 ·rw [if_neg h,List.getElem?_eq_none (by simp;omega)];rfl
theorem qnd(e:Env)(i:Nat):e.get i=e.toL.getD i (.any []):=by
 rw [List.getD_eq_getElem?_getD,toL_get?];show Bool.rec (motive:=λ_=>TV) (.any []) (e.t.get (.any []) i) (Nat.ble (i+1) e.n)=_;rw [qyK];by_cases h:i<e.n
 ·rw [if_pos h,if_pos (by rw [Nat.ble_eq];omega)];rfl
 ·rw [if_neg h,if_neg (by rw [Nat.ble_eq];omega)];rfl
theorem get_some{e:Env}{i:Nat}{x:TV}(h:e.toL[i]?=some x):e.get i=x:=by
 rw [qnd,List.getD_eq_getElem?_getD,h];rfl
theorem some_get{e:Env}{i:Nat}{x:TV}(h:e.get i=x)(hx:∀rs,x≠.any rs):e.toL[i]?=some x:=by
 rw [qnd,List.getD_eq_getElem?_getD]at h;cases hh:e.toL[i]? with
 |none=>rw [hh]at h;exact absurd h.symm (hx [])
 |some y=>rw [hh]at h;simpa using h
theorem qeq(e:Env)(i:Nat)(v:TV):(e.set i v).toL=e.toL.set i v:=by
 apply List.ext_getElem?;intro j;rw [List.getElem?_set,toL_get?,toL_get?,qjX];show (if j<e.n then some ((e.t.set (.any []) i v).get (.any []) j)else none)=_;rw [Tr.qra];by_cases h:j<e.n
 ·rw [if_pos h,if_pos h];by_cases e1:i=j
  ·rw [if_pos e1,if_pos e1,if_pos (by omega)]
  ·rw [if_neg e1,if_neg e1]
 ·rw [if_neg h,if_neg h];by_cases e1:i=j
  ·rw [if_pos e1,if_neg (by omega)]
  ·rw [if_neg e1]
theorem qsc(f:Nat->TV->TV)(e:Env)(i:Nat):(e.quX f).toL[i]?=(e.toL[i]?).map (f i):=by
 rw [toL_get?,toL_get?];show (if i<e.n then some ((e.t.quX (.any []) e.n f 1 0).get (.any []) i)else none)=_;by_cases h:i<e.n
 ·rw [if_pos h,if_pos h,Tr.qq9 _ _ _ _ _ _ _ (Nat.le_refl _) (by omega)];simp
 ·rw [if_neg h,if_neg h];rfl
theorem qBJ(f:Nat->TV->TV)(e:Env):(e.quX f).toL.length=e.toL.length:=by rw [qjX,qjX];rfl
theorem qyu{p:Nat->TV->Bool}{e:Env}(h:e.all p=true)(hp:∀i,p i (.any [])=true){i:Nat}{x:TV}(hx:e.toL[i]?=some x):p i x=true:=by
 rw [toL_get?]at hx;split at hx
 ·cases hx;have:=Tr.qqU (.any []) hp e.t 1 0 i h;simpa using this
 ·cases hx
theorem qBK{p:TV->Bool}{e:Env}(hp:p (.any [])=false){i:Nat}{x:TV}(hx:e.toL[i]?=some x)(h:p x=true):i∈e.mask p:=by
 rw [toL_get?]at hx;split at hx
 ·cases hx;have:=Tr.qol (.any []) hp e.t 1 0 i h;rw [Mask.mem_iff];simpa [Mask.has,Env.mask]using this
 ·cases hx
theorem qpM:∀(l:List TV) (i:Nat) (t:Tr TV) (j:Nat),(qsL l i t).get (.any []) j=if i<=j/\j<i+l.length then l.getD (j-i) (.any [])else t.get (.any []) j
 |[],i,t,j=>by
  rw [if_neg (by simp)];rfl
 |v::l,i,t,j=>by
  show (qsL l (i+1) (t.set (.any []) i v)).get (.any []) j=_;rw [qpM l,Tr.qra];by_cases h1:i+1<=j/\j<i+1+l.length
  ·rw [if_pos h1,if_pos (by simp;omega)];have:j-i=(j-(i+1))+1:=by omega
   rw [this];simp
  ·rw [if_neg h1];by_cases h2:i=j
   ·rw [if_pos h2,if_pos (by simp;omega)];simp [h2]
   ·rw [if_neg h2,if_neg (by simp;omega)]
theorem qmk(args:List TV)(n:Nat):(Env.qhs args n).toL=args++List.replicate (n-args.length) (.any []):=by
 apply List.ext_getElem?;intro j;rw [toL_get?];show (if j<args.length+(n-args.length)then some ((qsL args 0 .nil).get (.any []) j)else none)=_;rw [qpM,List.getElem?_append];by_cases h1:j<args.length
 ·rw [if_pos (by omega),if_pos (by omega),if_pos h1];simp [h1]
 ·rw [if_neg h1];by_cases h2:j<args.length+(n-args.length)
  ·rw [if_pos h2,if_neg (by omega),Tr.get_nil,List.getElem?_replicate,if_pos (by omega)]
  ·rw [if_neg h2,List.getElem?_replicate,if_neg (by omega)]
theorem qjq(D:Mask)(rs:Nat->List Root)(e:Env)(i:Nat):(qej D rs e).toL[i]?=if i∈D then (e.toL[i]?).map (λ_=>.any (rs i))else e.toL[i]?:=by
 unfold qej;rw [qsc];by_cases h:i∈D
 ·rw [if_pos h];rw [Mask.mem_iff]at h;rw [h]
 ·rw [if_neg h];rw [Mask.mem_iff]at h;have:D.has i=false:=by simpa using h
  rw [this];show (e.toL[i]?).map (λv=>v)=_;simp
theorem qnK(D:Mask)(rs:Nat->List Root)(e:Env):(qej D rs e).toL.length=e.toL.length:=qBJ _ _
theorem qqF(E:Env)(t:Nat):(E.set t (E.get t).qai).toL=E.toL.modify t TV.qai:=by
 apply List.ext_getElem?;intro j;rw [qeq,List.getElem?_set,List.getElem?_modify];by_cases h:t=j
 ·rw [if_pos h];subst h;cases hh:E.toL[t]? with
  |none=>rw [if_neg (by have:=List.getElem?_eq_none_iff.1 hh;omega)];rfl
  |some x=>rw [if_pos (qq.1 hh).1,get_some hh];simp
 ·rw [if_neg h];cases E.toL[j]?<;>simp [h]
theorem qlo{x:Nat}:∀{l:List Nat},x∈qfV l↔x∈l
 |[]=>by simp [qfV]
 |a::l=>by
  simp only [qfV];split
  ·rename_i h;rw [qlo];simp at h;constructor
   ·intro hx;simp [hx]
   ·intro hx;rcases qp.1 hx with rfl|hx
    ·exact h
    ·exact hx
  ·simp [qlo (l:=l)]
def qDg(acc:List Mask)(acc':List (List Nat)):Prop:=acc.length=acc'.length/\∀i j,j∈acc.getD i .empty↔j∈acc'.getD i []
theorem qpP(acc:List Mask)(acc':List (List Nat))(h:qDg acc acc'):∀(l:List Nat) (m:Mask) (x:Nat),x∈l.foldl (λm j=>Mask.ins j (m++acc.getD j .empty)) m↔x∈m\/x∈l.flatMap λj=>j::acc'.getD j []
 |[],m,x=>by simp
 |j::l,m,x=>by
  simp only [List.foldl_cons];rw [qpP acc acc' h l];simp only [Mask.mem_ins,Mask.mem_append,List.flatMap_cons,qo,qp];rw [h.2 j x];constructor
  ·rintro ((h1|(h1|h1))|h1)
   ·exact .inr (.inl (.inl h1))
   ·exact .inl h1
   ·exact .inr (.inl (.inr h1))
   ·exact .inr (.inr h1)
  ·rintro (h1|((h1|h1)|h1))
   ·exact .inl (.inr (.inl h1))
   ·exact .inl (.inl h1)
   ·exact .inl (.inr (.inr h1))
   ·exact .inr h1
theorem qqx:∀(ops:List Oper) (acc:List Mask) (acc':List (List Nat)),qDg acc acc' ->
  qDg (ops.foldl (λacc o=>acc++[(qbJ o).foldl (λm j=>Mask.ins j (m++acc.getD j .empty)) .empty]) acc) (ops.foldl (λacc o=>acc++[qfV ((qbJ o).flatMap λj=>j::acc.getD j [])]) acc')
 |[],acc,acc',h=>h
 |o::ops,acc,acc',h=>by
  simp only [List.foldl_cons];refine qqx ops _ _ ⟨by simp [h.1],λi j=>?_⟩;simp only [List.getD_eq_getElem?_getD,List.getElem?_append];by_cases hi:i<acc.length
  ·rw [if_pos hi,if_pos (by rw [<- h.1];exact hi)];have:=h.2 i j;simpa only [List.getD_eq_getElem?_getD]using this
  ·rw [if_neg hi,if_neg (by rw [<- h.1];exact hi),h.1];by_cases h0:i-acc'.length=0
   ·rw [h0];simp only [List.getElem?_cons_zero,Option.getD_some];have:=qpP acc acc' h (qbJ o) .empty j;simp only [List.getD_eq_getElem?_getD]at this;rw [this,qlo];simp
   ·obtain ⟨k,hk⟩:∃k,i-acc'.length=k+1:=⟨i-acc'.length-1,by omega⟩
    rw [hk];simp
theorem qss(ops:List Oper)(i j:Nat):((qyv ops).getD i .empty).has j=((qj5 ops).getD i []).contains j:=by
 have h:=(qqx ops [] [] ⟨rfl,λi j=>by simp⟩).2 i j;have e:∀a b:Bool,(a=true↔b=true)->a=b:=λa b=>by cases a<;>cases b<;>simp
 apply e;rw [List.contains_iff_mem];exact h
theorem qtL(H:Hints)(f:FuncId)(U:List (Nat×Nat))(ops:Array Oper):qkW H f U ops=qfe H f U ops:=by
 unfold qkW qfe;simp only [qss];rfl
theorem qyF(draw:Bool)(ops:List Oper)(i c:Nat):qmp draw (qyv ops) i c=qll draw (qj5 ops) i c:=by
 unfold qmp qll;rw [qss]
theorem qxz(H:Hints)(f:FuncId)(draw:Bool)(ops:Array Oper):quV H f draw ops=qoi H f draw ops:=by
 have h:∀lone c oc,qrr H f draw (qyv ops.toList) ops lone c oc=qok H f draw (qj5 ops.toList) ops lone c oc:=λlone c oc=>by
  unfold qrr qok;simp only [qyF];rfl
 unfold quV qoi;simp only [h];rfl
section
variable {P:Program} {H:Hints} {f:FuncId}
def qav(M:List qT)(l s:Nat):Option (Option (List TV)):=match M[l]? with
 |some b=>q7 b s
 |none=>none
def qaC(M:List Level)(l s:Nat):Option (List V):=match M[l]? with
 |some b=>qD b s
 |none=>none
def RC:List TV->List V->Prop
 |[.lp s pe f env ps a b],c'=>∃env',c'=[.lp s pe f env' ps a b]/\RVL env env'
 |c,c'=>RVL c c'
theorem qqw{c:List TV}{c':List V}(h:RVL c c'):isRec c=false:=by
 cases c with
 |nil=>rfl
 |cons x l =>
  simp only [RVL]at h;obtain ⟨v,m,_,h1,_⟩:=h;cases x<;>first|rfl|(simp only [RV]at h1)
theorem RVL.rc{c:List TV}{c':List V}(h:RVL c c'):RC c c':=by
 have h0:=qqw h;unfold RC;split
 ·simp [isRec]at h0
 ·exact h
theorem RC.rvl{c:List TV}{c':List V}(h:RC c c')(hn:isRec c=false):RVL c c':=by
 unfold RC at h;split at h
 ·simp [isRec]at hn
 ·exact h
theorem RC.qx{c:List TV}{c':List V}(h:RC c c')(r:Root)(hr:r∈ptrsL c'):r∈ptrsTL c:=by
 unfold RC at h;split at h
 ·obtain ⟨env',rfl,h⟩:=h;simp only [ptrsL,V.qx,List.append_nil]at hr;simp only [ptrsTL,TV.qx,List.append_nil];exact RVL.qx _ _ h r hr
 ·exact RVL.qx _ _ h r hr
def RB:Option (Option (List TV))->Option (List V)->Prop
 |none,b=>b=none
 |some none,b=>∀c,b=some c->qat c=false
 |some (some c),b=>∃c',b=some c'/\RC c c'
structure LR (M:List qT) (M':List Level):Prop where
 len:M'.length=M.length
 rel:∀l s,RB (qav M l s) (qaC M' l s)
 nd:∀b∈M',(b.map (·.1)).Nodup
 mp:∀l s c,qaC M' l s=some c->s<16384->qhq c=false
def TSt.all(st:TSt):List qT:=st.L++[st.B]
def qdi(s:St):List Level:=s.L++[s.B]
structure Rst (st:TSt) (s:St):Prop where
 E:RVL st.E.toL s.E
 M:LR st.all (qdi s)
theorem Rst.len{st:TSt}{s:St}(h:Rst st s):s.L.length=st.L.length:=by
 have:=h.M.len;simp [TSt.all,qdi]at this;exact this
theorem qR{s:St}(r:Root):s.box r=qaC (qdi s) r.lvl r.slot:=by
 obtain ⟨l,sl⟩:=r;unfold St.box qaC qdi;by_cases h:l=s.L.length
 ·subst h;simp
 ·rw [if_neg h];by_cases hlt:l<s.L.length
  ·simp only [qk hlt]<;>rfl
  ·have h1:s.L[l]?=none:=by simp<;>omega
   have h2:(s.L++[s.B])[l]?=none:=by simp<;>omega
   simp only [h1,h2]
theorem qa7{st:TSt}(r:Root):st.cont r=match qav st.all r.lvl r.slot with
  |some (some c)=>some c
  |_=>none:=by
 obtain ⟨l,sl⟩:=r;unfold TSt.cont qav TSt.all;by_cases h:l=st.L.length
 ·subst h;simp<;>rfl
 ·rw [if_neg h];by_cases hlt:l<st.L.length
  ·simp only [qk hlt]<;>rfl
  ·have h1:st.L[l]?=none:=by simp<;>omega
   have h2:(st.L++[st.B])[l]?=none:=by simp<;>omega
   simp only [h1,h2]
theorem qeJ{st:TSt}{r:Root}{c:List TV}(h:st.cont r=some c):qav st.all r.lvl r.slot=some (some c):=by
 rw [qa7]at h;split at h
 ·rename_i c' hc;cases h;exact hc
 ·cases h
theorem qq2{st:TSt}{r:Root}{c:List TV}(h:st.box r=some c):st.cont r=some c/\isRec c=false:=by
 unfold TSt.box at h;split at h
 ·rename_i c' hc;split at h
  ·cases h
  ·rename_i hr;cases h;exact ⟨hc,by simpa using hr⟩
 ·cases h
theorem qq3{st:TSt}{r:Root}{c:List TV}(h:st.box r=some c):qav st.all r.lvl r.slot=some (some c):=qeJ (qq2 h).1
theorem qvR{st:TSt}{r:Root}{c:List TV}(h:st.cont r=some c)(hn:isRec c=false):st.box r=some c:=by
 unfold TSt.box;rw [h];simp [hn]
theorem Rst.box{st:TSt}{s:St}(h:Rst st s){r:Root}{c:List TV}(hc:st.box r=some c):∃c',s.box r=some c'/\RVL c c':=by
 have:=h.M.rel r.lvl r.slot;rw [qq3 hc]at this;rw [qR];obtain ⟨c',h1,h2⟩:=this;exact ⟨c',h1,h2.rvl (qq2 hc).2⟩
theorem Rst.bx{st:TSt}{s:St}(h:Rst st s)(r:Root):BxR (st.box r) (s.box r):=by
 cases hc:st.box r with
 |none=>trivial
 |some c=>exact h.box hc
theorem qiJ(b:qT)(s s':Nat)(c:Option (List TV)):q7 (qwE b s c) s'=if s'=s then (q7 b s).map (λ_=>c)else q7 b s':=by
 induction b with
 |nil=>simp [qwE,q7]
 |cons p b ih =>
  obtain ⟨k,d⟩:=p;by_cases h:k=s
  ·subst h;by_cases h2:k=s'
   ·subst h2;simp [qwE,q7]
   ·simp [qwE,q7,h2,Ne.symm h2]
  ·by_cases h2:k=s'
   ·subst h2;simp [qwE,q7,h]
   ·simp [qwE,q7,h,h2,ih]
theorem qgw(b:Level)(s s':Nat)(c:List V):qD (qe4 b s c) s'=if s'=s then (qD b s).map (λ_=>c)else qD b s':=by
 induction b with
 |nil=>simp [qe4,qD]
 |cons p b ih =>
  obtain ⟨k,d⟩:=p;by_cases h:k=s
  ·subst h;by_cases h2:k=s'
   ·subst h2;simp [qe4,qD]
   ·simp [qe4,qD,h2,Ne.symm h2]
  ·by_cases h2:k=s'
   ·subst h2;simp [qe4,qD,h]
   ·simp [qe4,qD,h,h2,ih]
theorem qzq(b:Level)(s:Nat)(c:List V):(qe4 b s c).map (·.1)=b.map (·.1):=by
 induction b with
 |nil=>rfl
 |cons p b ih =>
  obtain ⟨k,d⟩:=p;by_cases h:k=s<;>simp [qe4,h,ih]
theorem qh0(M:List qT)(l:Nat)(g:qT->qT)(l' s:Nat):qav (M.modify l g) l' s=if l'=l then (match M[l]? with|some b=>q7 (g b) s|none=>none)else qav M l' s:=by
 unfold qav;rw [List.getElem?_modify];by_cases h:l'=l
 ·subst h;rw [if_pos rfl];cases M[l']? with
  |none=>rfl
  |some b=>simp
 ·rw [if_neg h];cases M[l']? with
  |none=>rfl
  |some b=>simp [Ne.symm h]
theorem qmy(M:List Level)(l:Nat)(g:Level->Level)(l' s:Nat):qaC (M.modify l g) l' s=if l'=l then (match M[l]? with|some b=>qD (g b) s|none=>none)else qaC M l' s:=by
 unfold qaC;rw [List.getElem?_modify];by_cases h:l'=l
 ·subst h;rw [if_pos rfl];cases M[l']? with
  |none=>rfl
  |some b=>simp
 ·rw [if_neg h];cases M[l']? with
  |none=>rfl
  |some b=>simp [Ne.symm h]
theorem qg8{α:Type}(g:α->α)(b:α):∀L:List α,(L++[b]).modify L.length g=L++[g b]
 |[]=>rfl
 |x::L=>by simp [qg8 g b L]
theorem qg9{α:Type}(g:α->α)(b:α):∀(L:List α) {l:Nat},l≠L.length->(L++[b]).modify l g=L.modify l g++[b]
 |[],l,h=>by
  cases l with
  |zero=>simp at h
  |succ n=>simp
 |x::L,l,h=>by
  cases l with
  |zero=>simp
  |succ n =>
   have:=qg9 g b L (l:=n) (by simpa using h);simp [this]
theorem qqy(s:St)(r:Root)(c:List V):qdi (s.qv r c)=(qdi s).modify r.lvl (λb=>qe4 b r.slot c):=by
 unfold St.qv qdi;by_cases h:r.lvl=s.L.length
 ·rw [if_pos h,h,qg8]
 ·rw [if_neg h,qg9 _ _ _ h]
theorem qj0(st:TSt)(r:Root)(c:List TV):(st.qv r c).all=st.all.modify r.lvl (λb=>qwE b r.slot (some c)):=by
 unfold TSt.qv TSt.all;by_cases h:r.lvl=st.L.length
 ·rw [if_pos h,h,qg8]
 ·rw [if_neg h,qg9 _ _ _ h]
theorem qpQ(st:TSt)(rs:List Root)(r:Root):(st.forget rs r).all=st.all.modify r.lvl (λb=>qED rs b r.slot):=by
 unfold TSt.forget TSt.all;by_cases h:r.lvl=st.L.length
 ·rw [if_pos h,h,qg8]
 ·rw [if_neg h,qg9 _ _ _ h]
theorem mem_modify{α:Type}{g:α->α}{b:α}:∀{M:List α} {l:Nat},b∈M.modify l g->b∈M\/∃b'∈M,b=g b'
 |[],l,h=>by cases l<;>simp at h
 |x::M,0,h=>by
  simp only [List.modify_zero_cons,qp]at h;rcases h with rfl|h
  ·exact .inr ⟨x,by simp,rfl⟩
  ·exact .inl (by simp [h])
 |x::M,l+1,h=>by
  simp only [List.modify_succ_cons,qp]at h;rcases h with rfl|h
  ·exact .inl (by simp)
  ·rcases mem_modify h with h|⟨b',h1,h2⟩
   ·exact .inl (by simp [h])
   ·exact .inr ⟨b',by simp [h1],h2⟩
theorem LR.qv{M:List qT}{M':List Level}(h:LR M M')(l s:Nat){c:List TV}{c':List V}(hd:qav M l s≠some none)(hc:RC c c')(hmp:s<16384->qhq c'=false) :
  LR (M.modify l λb=>qwE b s (some c)) (M'.modify l λb=>qe4 b s c') where
 len:=by simp [h.len]
 rel:=λl2 s2=>by
  rw [qh0,qmy];by_cases e:l2=l
  ·subst e;rw [if_pos rfl,if_pos rfl];have key:=h.rel l2 s2;have key2:=h.rel l2 s;unfold qav qaC at key key2;cases h1:M[l2]? with
   |none =>
    have h2:M'[l2]?=none:=by rw [List.getElem?_eq_none_iff]at h1 ⊢;rw [h.len];exact h1
    rw [h2];rfl
   |some b =>
    have h2:∃b',M'[l2]?=some b':=by
     have:=(qq.1 h1).1;exact ⟨_,List.getElem?_eq_getElem (by rw [h.len];exact this)⟩
    obtain ⟨b',h2⟩:=h2;rw [h1,h2]at key key2;rw [h2];simp only at key key2 ⊢;rw [qiJ,qgw];by_cases e2:s2=s
    ·subst e2;rw [if_pos rfl,if_pos rfl];cases hl:q7 b s2 with
     |none=>rw [hl]at key;simp only [RB]at key;rw [key]<;>rfl
     |some o =>
      rw [hl]at key;cases o with
      |none =>
       exact absurd (by unfold qav;rw [h1];exact hl) hd
      |some d =>
       obtain ⟨d',hd',_⟩:=key;rw [hd'];exact ⟨c',rfl,hc⟩
    ·rw [if_neg e2,if_neg e2];exact key
  ·rw [if_neg e,if_neg e];exact h.rel l2 s2
 nd:=λb hb=>by
  rcases mem_modify hb with hb|⟨b',hb',rfl⟩
  ·exact h.nd b hb
  ·rw [qzq];exact h.nd b' hb'
 mp:=λl2 s2 c2 h2 hlt=>by
  rw [qmy]at h2;by_cases e:l2=l
  ·subst e;rw [if_pos rfl]at h2;have h0:=h.mp l2 s2;unfold qaC at h0;cases h1:M'[l2]? with
   |none=>rw [h1]at h2;cases h2
   |some b =>
    rw [h1]at h2 h0;simp only at h2 h0;rw [qgw]at h2;by_cases e2:s2=s
    ·subst e2;rw [if_pos rfl]at h2;obtain ⟨_,_,rfl⟩:=qf.1 h2;exact hmp hlt
    ·rw [if_neg e2]at h2;exact h0 c2 h2 hlt
  ·rw [if_neg e]at h2;exact h.mp l2 s2 c2 h2 hlt
structure Fr2 (st st':TSt) (s s':St):Prop where
 wt:∀t∈st.Wt,t∈st'.Wt
 wb:∀r∈st.Wb,r∈st'.Wb
 e:∀t,t∉st'.Wt->s'.E[t]?=s.E[t]?\/((∃rs,st.E.toL[t]?=some (.any rs))/\s'.E[t]?=some .undef)
 an:∀t,t∉st'.Wt->∀rs,st'.E.toL[t]?=some (.any rs)->∃rs',st.E.toL[t]?=some (.any rs')
 b:∀r,r∉st'.Wb->s'.box r=s.box r\/(s.L.length=0/\st.cont r=none/\(s'.box r).isSome=(s.box r).isSome/\∀c,s'.box r=some c->qat c=false)
 bn:∀r,r∉st'.Wb->(st.cont r).isSome=true->(st'.cont r).isSome=true
 len:s'.L.length=s.L.length
 elen:s'.E.length=s.E.length
theorem Fr2.refl(st:TSt)(s:St):Fr2 st st s s:=⟨λ_ h=>h,λ_ h=>h,λ_ _=>.inl rfl,λ_ _ rs h=>⟨rs,h⟩,λ_ _=>.inl rfl,λ_ _ h=>h,rfl,rfl⟩
theorem Fr2.trans{a b c:TSt}{s t u:St}(h:Fr2 a b s t)(h':Fr2 b c t u):Fr2 a c s u where
 wt:=λx hx=>h'.wt x (h.wt x hx)
 wb:=λx hx=>h'.wb x (h.wb x hx)
 e:=λx hx=>by
  have hx1:x∉b.Wt:=λhh=>hx (h'.wt x hh);rcases h'.e x hx with h1|⟨⟨rs,h1⟩,h2⟩
  ·rw [h1];exact h.e x hx1
  ·exact .inr ⟨h.an x hx1 rs h1,h2⟩
 an:=λx hx rs hr=>by
  obtain ⟨rs',h1⟩:=h'.an x hx rs hr;exact h.an x (λhh=>hx (h'.wt x hh)) rs' h1
 b:=λx hx=>by
  have hx1:x∉b.Wb:=λhh=>hx (h'.wb x hh);rcases h'.b x hx with h1|⟨h0,h1,h2,h3⟩
  ·rw [h1];exact h.b x hx1
  ·right
   have hn:a.cont x=none:=by
    cases hb:a.cont x with
    |none=>rfl
    |some c=>have:=h.bn x hx1 (by rw [hb];rfl);rw [h1]at this;cases this
   refine ⟨by rw [<- h.len];exact h0,hn,?_,h3⟩;rcases h.b x hx1 with h4|⟨_,_,h4,_⟩
   ·rw [h2,h4]
   ·rw [h2,h4]
 bn:=λx hx hs=>h'.bn x hx (h.bn x (λhh=>hx (h'.wb x hh)) hs)
 len:=by rw [h'.len,h.len]
 elen:=by rw [h'.elen,h.elen]
theorem qfn:∀{l:List TV} {l':List V},l'.length=l.length->(∀(i:Nat) x v,l[i]?=some x->l'[i]?=some v->RV x v)->RVL l l'
 |[],l',hl,_=>by simp at hl;simp [hl,RVL]
 |x::l,[],hl,_=>by simp at hl
 |x::l,v::m,hl,h=>qC.2 ⟨h 0 x v rfl rfl,qfn (by simpa using hl) λi y u h1 h2=>h (i+1) y u (by simpa using h1) (by simpa using h2)⟩
theorem qEa{α:Type}(E:List α)(t i:Nat)(a:α):(E.set t a)[i]?=if t=i then (E[i]?).map (λ_=>a)else E[i]?:=by
 rw [List.getElem?_set];by_cases e:t=i
 ·subst e;rw [if_pos rfl,if_pos rfl];by_cases hlt:t<E.length
  ·simp [hlt]
  ·simp [hlt]
 ·rw [if_neg e,if_neg e]
theorem qkl{α:Type}(a:α):∀(D:List Tmp) (E:List α) (i:Nat),(D.foldl (λE t=>E.set t a) E)[i]?=if i∈D then (E[i]?).map (λ_=>a)else E[i]?
 |[],E,i=>by simp
 |t::D,E,i=>by
  simp only [List.foldl_cons];rw [qkl a D,qEa];by_cases h:i∈D
  ·rw [if_pos h,if_pos (List.mem_cons_of_mem _ h)];split
   ·cases E[i]?<;>rfl
   ·rfl
  ·rw [if_neg h];by_cases e:t=i
   ·subst e;rw [if_pos rfl,if_pos List.mem_cons_self]
   ·rw [if_neg e,if_neg (by simp [h,Ne.symm e])]
theorem qeY{α:Type}(a:α):∀(D:List Tmp) (E:List α),(D.foldl (λE t=>E.set t a) E).length=E.length
 |[],E=>rfl
 |t::D,E=>by simp only [List.foldl_cons];rw [qeY a D];simp
def gone(rs:List Root):Option (Option (List TV))->Option (Option (List TV))
 |some (some cs)=>some (some (cs.map λ_=>.any rs))
 |_=>some none
theorem qy5(rs:List Root)(o:Option (Option (List TV))):gone rs (gone rs o)=gone rs o:=by
 cases o with
 |none=>rfl
 |some o=>cases o with
  |none=>rfl
  |some cs=>simp [gone]
theorem qxB(rs:List Root)(b:qT)(s s':Nat):q7 (qED rs b s) s'=if s'=s then gone rs (q7 b s)else q7 b s':=by
 unfold qED;split
 ·rename_i h;by_cases e:s'=s
  ·subst e;simp [q7,h,gone]
  ·simp [q7,e,Ne.symm e]
 ·rename_i h;by_cases e:s'=s
  ·subst e;simp [h,gone]
  ·simp [e]
 ·rename_i cs h;rw [qiJ];by_cases e:s'=s
  ·subst e;simp [h,gone]
  ·simp [e]
theorem qtj(st:TSt)(rs:List Root)(r:Root)(l s:Nat):qav (st.forget rs r).all l s=if l=r.lvl/\s=r.slot/\l<st.all.length then gone rs (qav st.all l s)else qav st.all l s:=by
 rw [qpQ,qh0];by_cases e:l=r.lvl
 ·subst e;rw [if_pos rfl];unfold qav;cases h:st.all[r.lvl]? with
  |none =>
   have:¬ r.lvl<st.all.length:=by rw [List.getElem?_eq_none_iff]at h;omega
   rw [if_neg (λhh=>this hh.2.2)]
  |some b =>
   have hlt:=(qq.1 h).1;simp only
   rw [qxB];by_cases e2:s=r.slot
   ·subst e2;simp [hlt]
   ·simp [e2]
 ·rw [if_neg e,if_neg (by simp [e])]
theorem qpR(st:TSt)(rs:List Root)(r:Root):(st.forget rs r).all.length=st.all.length:=by rw [qpQ];simp
theorem qBi(st:TSt)(rs:List Root)(r:Root):(st.forget rs r).E=st.E:=by unfold TSt.forget;split<;>rfl
theorem qg6(rs:List Root)(l s:Nat):∀(wr:List Root) (st:TSt),qav (wr.foldl (λst r=>st.forget rs r) st).all l s=if (⟨l,s⟩:Root)∈wr/\l<st.all.length then gone rs (qav st.all l s)else qav st.all l s
 |[],st=>by simp
 |r::wr,st=>by
  simp only [List.foldl_cons];rw [qg6 rs l s wr,qpR,qtj];by_cases h1:l=r.lvl/\s=r.slot/\l<st.all.length
  ·rw [if_pos h1];have hr:(⟨l,s⟩:Root)=r:=by obtain ⟨e1,e2,_⟩:=h1;cases r;simp_all
   rw [qy5,if_pos (⟨by simp [hr],h1.2.2⟩:(⟨l,s⟩:Root)∈r::wr/\l<st.all.length)];split<;>rfl
  ·rw [if_neg h1];by_cases h2:(⟨l,s⟩:Root)∈wr/\l<st.all.length
   ·rw [if_pos h2,if_pos ⟨by simp [h2.1],h2.2⟩]
   ·rw [if_neg h2,if_neg];rintro ⟨h3,h4⟩;rcases qp.1 h3 with h3|h3
    ·exact h1 ⟨by rw [<- h3],by rw [<- h3],h4⟩
    ·exact h2 ⟨h3,h4⟩
theorem qnL(rs:List Root):∀(wr:List Root) (st:TSt),(wr.foldl (λst r=>st.forget rs r) st).E=st.E
 |[],st=>rfl
 |r::wr,st=>by simp only [List.foldl_cons];rw [qnL rs wr,qBi]
theorem qnM(rs:List Root):∀(wr:List Root) (st:TSt),(wr.foldl (λst r=>st.forget rs r) st).all.length=st.all.length
 |[],st=>rfl
 |r::wr,st=>by simp only [List.foldl_cons];rw [qnM rs wr,qpR]
def qCD(s:St)(p:Place):Option V:=match p.lvl with
 |none=>s.E[p.slot]?
 |some l=>(s.box ⟨l,p.slot⟩).bind (·[p.cell]?)
theorem qin{l:List TV}{l':List V}(h:RVL l l')(i:Nat){x:TV}(hx:∀u,l'[i]?=some u->RV x u):RVL (l.set i x) l':=by
 refine qfn (by simp [h.length]) λk y v hy hv=>?_;rw [List.getElem?_set]at hy;split at hy
 ·rename_i e;subst e;split at hy
  ·cases hy;exact hx v hv
  ·cases hy
 ·obtain ⟨u,hu,hr⟩:=h.get hy;rw [hv]at hu;cases hu;exact hr
theorem Rst.qb7{st:TSt}{s:St}(h:Rst st s){p:Place}{v:TV}(hv:∀u,qCD s p=some u->RV v u):Rst (st.qb7 p v) s:=by
 unfold TSt.qb7;cases hl:p.lvl with
 |none=>exact ⟨by rw [qeq];exact qin h.E _ λu hu=>hv u (by unfold qCD;rw [hl];exact hu),h.M⟩
 |some l =>
  simp only
  cases hb:st.box ⟨l,p.slot⟩with
  |none=>exact h
  |some cs =>
   simp only
   obtain ⟨c',hc',hr⟩:=h.box hb;have hset:RVL (cs.set p.cell v) c':=qin hr _ λu hu=>hv u (by unfold qCD;rw [hl];simp only;rw [hc'];exact hu);refine ⟨?_,?_⟩
   ·have:({st.qv ⟨l,p.slot⟩ (cs.set p.cell v)with Wb:=st.Wb}:TSt).E=st.E:=by simp only [TSt.qv];split<;>rfl
    rw [this];exact h.E
   ·have e1:({st.qv ⟨l,p.slot⟩ (cs.set p.cell v)with Wb:=st.Wb}:TSt).all=(st.qv ⟨l,p.slot⟩ (cs.set p.cell v)).all:=rfl;rw [e1,qj0];refine ⟨by rw [h.M.len];simp,λl2 s2=>?_,h.M.nd,h.M.mp⟩;rw [qh0];have hlook:=qq3 hb;simp only at hlook ⊢;by_cases e:l2=l
    ·subst e;rw [if_pos rfl];have key:=h.M.rel l2 s2;unfold qav at key hlook;cases h1:st.all[l2]? with
     |none=>rw [h1]at hlook;cases hlook
     |some b =>
      rw [h1]at key hlook;simp only at key hlook ⊢;rw [qiJ];by_cases e2:s2=p.slot
      ·subst e2;rw [if_pos rfl,hlook];rw [qR]at hc';exact ⟨c',hc',hset.rc⟩
      ·rw [if_neg e2];exact key
    ·rw [if_neg e];exact h.M.rel l2 s2
theorem qmH{s:St}:∀(ps:List Place) (vs:List TV) (st:TSt),Rst st s->(∀p v,(p,v)∈ps.zip vs->∀u,qCD s p=some u->RV v u)->Rst (qc9 st ps vs) s
 |[],vs,st,h,_=>by cases vs<;>exact h
 |p::ps,[],st,h,_=>h
 |p::ps,v::vs,st,h,hv=>qmH ps vs _ (h.qb7 (hv p v (by simp))) λq w hq=>hv q w (by simp [hq])
theorem qvO:∀(τ:Ty) (o:Nat) (rs:List Root),qhm τ o (.any rs)=none
 |.int _,_,_|.bool,_,_|.str,_,_|.flt,_,_|.cx,_,_|.err,_,_|.mset _,_,_|.sl _,_,_|.unit,_,_|.pair ..,_,_=>rfl
theorem Rst.get{st:TSt}{s:St}(h:Rst st s){p:Place}(hp:∀rs,st.get p≠.any rs){u:V}(hu:qCD s p=some u):RV (st.get p) u:=by
 unfold TSt.get at hp ⊢;unfold qCD at hu;cases hl:p.lvl with
 |none =>
  rw [hl]at hu hp;simp only at hu hp ⊢;have:=h.E.getD p.slot;rw [<- qnd,List.getD_eq_getElem?_getD,hu]at this;exact this
 |some l =>
  rw [hl]at hu hp;simp only at hu hp ⊢;cases hb:st.box ⟨l,p.slot⟩with
  |none=>rw [hb]at hp;exact absurd rfl (hp [])
  |some cs =>
   obtain ⟨c',hc',hr⟩:=h.box hb;rw [hc']at hu;simp only [qb]at hu;have:=hr.getD p.cell;rw [List.getD_eq_getElem?_getD,List.getD_eq_getElem?_getD,hu]at this;simp only
   rw [List.getD_eq_getElem?_getD];exact this
theorem qpH{st:TSt}{s:St}(h:Rst st s):∀(ps:List (Ty×Nat)) (lv:List Place) (x:denL (ps.map (·.1))),asL ps (lv.map st.get)=some x ->
  ∀p v,(p,v)∈lv.zip (ofL ps x)->∀u,qCD s p=some u->RV v u/\u.qx=[]/\qat [u]=false
 |[],lv,x,hx,p,v,hm,u,hu=>by simp [ofL]at hm
 |[(τ,o)],lv,x,hx,p,v,hm,u,hu=>by
  match lv,hx,hm with
  |[q],hx,hm =>
   simp only [qm,List.map_nil,asL]at hx;simp only [ofL,List.zip_cons_cons,List.zip_nil_right,List.mem_singleton,Prod.mk.injEq]at hm;obtain ⟨rfl,rfl⟩:=hm;have hg:=h.get (p:=p) (λrs e=>by rw [e,qvO]at hx;cases hx) hu;have hr:=qdu _ _ _ _ _ hx hg;have hrv:=rv_ofTy _ _ _ _ hr;exact ⟨hrv,qdW _ _ _ _ hr,qaY (qC.2 ⟨hrv,qak⟩)⟩
  |[],hx,hm=>simp [asL]at hx
  |_::_::_,hx,hm=>simp [asL]at hx
 |(τ,o)::q'::ps,lv,x,hx,p,v,hm,u,hu=>by
  match lv,hx,hm with
  |[],hx,hm=>simp [asL]at hx
  |q::lv,hx,hm =>
   simp only [qm,asL]at hx;obtain ⟨y,hy,hx⟩:=qh.1 hx;obtain ⟨z,hz,hx⟩:=qh.1 hx;simp only [qe]at hx;subst hx;simp only [ofL,List.zip_cons_cons,qp,Prod.mk.injEq]at hm;rcases hm with ⟨rfl,rfl⟩|hm
   ·have hg:=h.get (p:=p) (λrs e=>by rw [e,qvO]at hy;cases hy) hu;have hr:=qdu _ _ _ _ _ hy hg;have hrv:=rv_ofTy _ _ _ _ hr;exact ⟨hrv,qdW _ _ _ _ hr,qaY (qC.2 ⟨hrv,qak⟩)⟩
   ·exact qpH h (q'::ps) lv z (by simpa using hz) p v hm u hu
theorem qix:∀(ps:List (Ty×Nat)) (l:List TV) (x:denL (ps.map (·.1))),asL ps l=some x->(ofL ps x).length=l.length
 |[],l,x,h=>by cases l with
  |nil=>rfl
  |cons=>simp [asL]at h
 |[(τ,o)],l,x,h=>by
  match l,h with
  |[v],h=>rfl
  |[],h=>simp [asL]at h
  |_::_::_,h=>simp [asL]at h
 |(τ,o)::q::ps,l,x,h=>by
  match l,h with
  |[],h=>simp [asL]at h
  |v::l,h =>
   simp only [asL]at h;obtain ⟨y,hy,h⟩:=qh.1 h;obtain ⟨z,hz,h⟩:=qh.1 h;simp only [qe]at h;subst h;simp [ofL,qix (q::ps) l z hz]
theorem qv9{lv:List Place}{l:Option Nat}{s c:Nat}(h:Place.qEV lv l s c=true):(⟨l,s,c⟩:Place)∈lv:=by
 unfold Place.qEV at h;rw [List.any_eq_true]at h;obtain ⟨p,hp,h⟩:=h;simp only [qi,decide_eq_true_eq]at h;obtain ⟨⟨rfl,rfl⟩,rfl⟩:=h;exact hp
theorem qs1{lv:List Place}{vs:List TV}(hl:vs.length=lv.length){p:Place}(h:p∈lv):∃v,(p,v)∈lv.zip vs:=by
 obtain ⟨i,hi⟩:=List.mem_iff_getElem?.1 h;have hlt:=(qq.1 hi).1;refine ⟨vs[i]'(by omega),List.mem_iff_getElem?.2 ⟨i,?_⟩⟩;rw [List.getElem?_zip_eq_some];exact ⟨hi,List.getElem?_eq_getElem _⟩
theorem qqD{l m:List Root}(h:Go.Tx.subset l m=true):∀r∈l,r∈m:=λr hr=>by
 unfold Go.Tx.subset at h;rw [List.all_eq_true]at h;simpa using h r hr
theorem qzo:∀{v:TV} {r:Root} {o:Nat},qzn v r o=true->v=.ptr r o
 |.ptr r o,r',o',h=>by
  simp only [qzn,qi,decide_eq_true_eq]at h;rw [h.1,h.2]
theorem qwv{s:St}:∀(l:List (Tmp×Root×Nat)) {st:TSt},Rst st s->(∀p∈l,s.E[p.1]?=some (.ptr p.2.1 p.2.2))->Rst (qtI st l) s
 |[],_,h,_=>h
 |p::l,st,h,hl=>by
  refine qwv l ⟨?_,h.M⟩ λq hq=>hl q (List.mem_cons_of_mem _ hq);show RVL (st.E.set p.1 (.ptr p.2.1 p.2.2)).toL s.E;rw [qeq];have h1:=hl p List.mem_cons_self;have h2:=RVL.set p.1 h.E (x:=.ptr p.2.1 p.2.2) (v:=.ptr p.2.1 p.2.2) (by simp only [RV]);have h3:s.E.set p.1 (.ptr p.2.1 p.2.2)=s.E:=by
   apply List.ext_getElem?;intro i;rw [List.getElem?_set];by_cases e:p.1=i
   ·rw [if_pos e,<- e,if_pos (qq.1 h1).1,h1]
   ·rw [if_neg e]
  rwa [h3]at h2
theorem qqj:∀(l:List (Tmp×Root×Nat)) (st:TSt),(qtI st l).Wt=st.Wt/\(qtI st l).Wb=st.Wb/\(qtI st l).L=st.L/\(qtI st l).B=st.B
 |[],_=>⟨rfl,rfl,rfl,rfl⟩
 |p::l,st=>qqj l {st with E:=st.E.set p.1 (.ptr p.2.1 p.2.2)}
theorem qz4:∀(l:List (Tmp×Root×Nat)) (st:TSt) (t:Nat) (rs:List Root),(qtI st l).E.toL[t]?=some (.any rs)->st.E.toL[t]?=some (.any rs)
 |[],_,_,_,h=>h
 |p::l,st,t,rs,h=>by
  have:=qz4 l _ t rs h;simp only at this;rw [qeq,List.getElem?_set]at this;split at this
  ·split at this
   ·cases this
   ·cases this
  ·exact this
theorem qBy{st:TSt}{s:St}(h:Rst st s){j:Join}(hk:st.keeps j=true):∀p∈j.kp,s.E[p.1]?=some (.ptr p.2.1 p.2.2):=by
 intro p hp;unfold TSt.keeps at hk;rw [List.all_eq_true]at hk;have h1:=qzo (hk p hp);obtain ⟨v,hv,hr⟩:=h.E.get (some_get h1 (by simp));simp only [RV]at hr;rw [hv,hr]
theorem qve{st st2:TSt}{s s':St}{j:Join}{x:denL (j.ps.map (·.1))}(h:Rst st s)(h2:Rst st2 s')(hf:Fr2 st.fresh st2 s s')(ho:st2.outs st j=some x):Rst (st.qez j (ofL j.ps x)) s':=by
 unfold TSt.outs at ho;split at ho
 ·rename_i hc;simp only [qi]at hc;obtain ⟨⟨hfor,hwr⟩,hlike⟩:=hc;have hcol:=qpH h2 j.ps j.lv x ho;have hlen:(ofL j.ps x).length=j.lv.length:=by rw [qix _ _ _ ho];simp
  unfold TSt.qlw at hfor;simp only [qi,List.all_eq_true]at hfor;obtain ⟨⟨hD0,hW⟩,_⟩:=hfor;have hD:∀t∈j.D,∀x,st2.E.toL[t]?=some x->(Place.qEV j.lv none t 0||Go.Tx.subset x.qx (j.qAn t))=true:=λt ht x hx=>by
   have:=qyu hD0 (λi=>by cases j.D.has i<;>simp [TV.qx,Go.Tx.subset]) hx;rw [Mask.mem_iff]at ht;rw [ht]at this;exact this
  unfold TSt.wrote at hwr;simp only [qi,List.all_eq_true]at hwr;obtain ⟨hwt0,hwb⟩:=hwr;have hwt:∀t∈st2.Wt,t∈j.D:=λt ht=>Mask.qAC hwt0 ht;unfold TSt.qFz at hlike;rw [List.all_eq_true]at hlike;unfold TSt.qez;refine qmH _ _ _ ⟨?_,?_⟩ λp v hm u hu=>(hcol p v hm u hu).1
  ·-- temporaries
   show RVL (j.wr.foldl (λ(st:TSt) r=>st.forget j.rb r) {st with E:=qej j.D j.qAn st.E}).E.toL s'.E;rw [qnL];refine qfn ?_ λi y v hy hv=>?_
   ·simp only;rw [qnK,hf.elen,h.E.length]
   ·simp only at hy;rw [qjq]at hy;split at hy
    ·rename_i hi;obtain ⟨z,hz,rfl⟩:=qf.1 hy;obtain ⟨x2,hx2⟩:∃x2,st2.E.toL[i]?=some x2:=by
      have hlt:=(qq.1 hv).1;have:=h2.E.length;exact ⟨_,List.getElem?_eq_getElem (by omega)⟩
     have hi':=hD i hi x2 hx2;simp only [Bool.or_eq_true]at hi';simp only [RV];rcases hi' with hi'|hi'
     ·obtain ⟨w,hw⟩:=qs1 hlen (qv9 hi');obtain ⟨_,hp,hlp⟩:=hcol _ w hw v (by unfold qCD;exact hv);exact ⟨by rw [hp];simp,hlp⟩
     ·obtain ⟨v2,hv2,hg⟩:=h2.E.get hx2;rw [hv]at hv2;cases hv2;refine ⟨λr hr=>qqD hi' r (RV.qx _ _ hg r hr),qaY (qC.2 ⟨hg,qak⟩)⟩
    ·rename_i hi;have:i∉st2.Wt:=λhh=>hi (hwt i hh);obtain ⟨u,hu,hr⟩:=h.E.get hy;rcases hf.e i this with he|⟨⟨rs,he1⟩,he2⟩
     ·rw [hv]at he;rw [<- he]at hu;cases hu;exact hr
     ·rw [he2]at hv;cases hv;have he1:st.E.toL[i]?=some (.any rs):=he1;rw [hy]at he1;cases he1;exact qcV rs
  ·-- boxes
   show LR (j.wr.foldl (λ(st:TSt) r=>st.forget j.rb r) {st with E:=qej j.D j.qAn st.E}).all (qdi s');refine ⟨?_,λl sl=>?_,h2.M.nd,h2.M.mp⟩
   ·rw [qnM];have:=hf.len;have:=h.M.len;simp [TSt.all,qdi]at this ⊢;omega
   ·rw [qg6];have hall:({st with E:=qej j.D j.qAn st.E}:TSt).all=st.all:=rfl;rw [hall];split
    ·rename_i hm;have hbx:=qR (s:=s') ⟨l,sl⟩;simp only at hbx;have key2:=h2.M.rel l sl;have hnl:∀c,qaC (qdi s') l sl=some c->qat c=false:=λc hc=>by
      cases hk:qav st2.all l sl with
      |none=>rw [hk]at key2;simp only [RB]at key2;rw [key2]at hc;cases hc
      |some o =>
       rw [hk]at key2;cases o with
       |none=>exact key2 c hc
       |some d =>
        obtain ⟨d',hd',hr⟩:=key2;rw [hd']at hc;cases hc;have hw:=hW _ hm.1;rw [qa7]at hw;simp only [hk,qi,Bool.not_eq_true']at hw;exact qaY (hr.rvl hw.1)
     cases hk:qav st.all l sl with
     |none=>exact hnl
     |some o =>
      cases o with
      |none=>exact hnl
      |some cs =>
       have hb:st.cont ⟨l,sl⟩=some cs:=by rw [qa7];simp only;rw [hk]
       have hli:=hlike _ hm.1;rw [hb]at hli;simp only at hli;split at hli
       ·rename_i cs2 hb2;simp only [decide_eq_true_eq]at hli;have hw:=hW _ hm.1;rw [hb2]at hw;simp only [qi,Bool.not_eq_true',List.all_eq_true]at hw;obtain ⟨c',hc',hr⟩:=h2.box (qvR hb2 hw.1);rw [hbx]at hc';refine ⟨c',hc',RVL.rc ?_⟩;refine qfn (by simp [hr.length,hli]) λi y v hy hv=>?_;rw [List.getElem?_map]at hy;obtain ⟨z,hz,rfl⟩:=qf.1 hy;have hi:i<cs2.length:=by have:=(qq.1 hz).1;omega
        have hw':=hw.2 i (by simpa using hi);simp only [Bool.or_eq_true]at hw';simp only [RV];rcases hw' with hw'|hw'
        ·obtain ⟨w,hww⟩:=qs1 hlen (qv9 hw');obtain ⟨_,hp,hlp⟩:=hcol _ w hww v (by unfold qCD;simp only;rw [hbx,hc'];exact hv);exact ⟨by rw [hp];simp,hlp⟩
        ·have hg:=hr.getD i;rw [List.getD_eq_getElem?_getD (l:=c'),hv]at hg;exact ⟨λr hrr=>qqD hw' r (RV.qx _ _ hg r hrr),qaY (qC.2 ⟨hg,qak⟩)⟩
       ·cases hli
    ·rename_i hm;have key:=h.M.rel l sl;by_cases hlt:l<st.all.length
     ·have hnr:(⟨l,sl⟩:Root)∉st2.Wb:=λhh=>by
       have:=hwb _ hh;simp only [Bool.or_eq_true,decide_eq_true_eq]at this;rcases this with h3|h3
       ·exact hm ⟨by simpa using h3,hlt⟩
       ·have h4:=h2.len;have h5:=hf.len;have h6:=h.len;simp [TSt.all]at hlt;omega
      rcases hf.b _ hnr with hb|⟨_,hb0,hb1,hb2⟩
      ·rw [qR,qR]at hb;simp only at hb;rw [hb];exact key
      ·rw [qR,qR]at hb1;rw [qR]at hb2;simp only at hb1 hb2;have hb0:st.cont ⟨l,sl⟩=none:=hb0;rw [qa7]at hb0;simp only at hb0;cases hk:qav st.all l sl with
       |none =>
        rw [hk]at key;simp only [RB]at key ⊢;rw [key]at hb1;simpa using hb1
       |some o =>
        cases o with
        |none=>exact hb2
        |some c=>rw [hk]at hb0;cases hb0
     ·have h1:qav st.all l sl=none:=by
       unfold qav;rw [List.getElem?_eq_none (by omega)]
      have h3:qaC (qdi s') l sl=none:=by
       unfold qaC;have hl:=hf.len;have hl2:=h.len;rw [List.getElem?_eq_none];simp [TSt.all,qdi]at hlt ⊢;omega
      rw [h1,h3];rfl
 ·cases ho
theorem qiR{st st2:TSt}{s s':St}{j:Join}{x:denL (j.ps.map (·.1))}(h:Rst st s)(h2:Rst st2 s')(hf:Fr2 st.fresh st2 s s')(ho:st2.outs st j=some x):Rst (st.qb3 j (ofL j.ps x)) s':=by
 refine qwv _ (qve h h2 hf ho) (qBy h2 ?_);unfold TSt.outs at ho;split at ho
 ·rename_i hc;simp only [qi]at hc;have:=hc.1.1;unfold TSt.qlw at this;simp only [qi]at this;exact this.2
 ·cases ho
theorem qfG(D:List Tmp)(b:qT)(s:Nat):q7 (qaJ D b) s=if D.contains s then none else q7 b s:=by
 induction b with
 |nil=>simp [qaJ,q7]
 |cons p b ih =>
  obtain ⟨k,c⟩:=p;simp only [qaJ];by_cases h:D.contains k=true
  ·rw [if_pos h,ih];by_cases e:k=s
   ·subst e;rw [if_pos h,if_pos h]
   ·simp only [q7,if_neg e]
  ·rw [if_neg h];by_cases e:k=s
   ·subst e;simp only [q7,if_true];rw [if_neg h]
   ·simp only [q7,if_neg e,ih]
theorem qaU(D:List Tmp)(b:Level)(s:Nat):qD (q5 D b) s=if D.contains s then none else qD b s:=by
 induction b with
 |nil=>simp [q5,qD]
 |cons p b ih =>
  obtain ⟨k,c⟩:=p;simp only [q5];by_cases h:D.contains k=true
  ·rw [if_pos h,ih];by_cases e:k=s
   ·subst e;rw [if_pos h,if_pos h]
   ·simp only [qD,if_neg e]
  ·rw [if_neg h];by_cases e:k=s
   ·subst e;simp only [qD,if_true];rw [if_neg h]
   ·simp only [qD,if_neg e,ih]
theorem qgv{b:Level}(hn:(b.map (·.1)).Nodup){k:Nat}{c:List V}(h:(k,c)∈b):qD b k=some c:=by
 induction b with
 |nil=>cases h
 |cons p b ih =>
  obtain ⟨k',c'⟩:=p;simp only [qm,List.nodup_cons]at hn;rcases qp.1 h with h|h
  ·cases h;simp [qD]
  ·have:k'≠k:=λe=>hn.1 (List.mem_map.2 ⟨_,h,e.symm⟩);simp only [qD,if_neg this];exact ih hn.2 h
theorem qdL{b:qT}{k:Nat}{c:Option (List TV)}(h:q7 b k=some c):(k,c)∈b:=by
 induction b with
 |nil=>cases h
 |cons p b ih =>
  obtain ⟨k',c'⟩:=p;simp only [q7]at h;split at h
  ·rename_i e;cases h;subst e;simp
  ·exact qp.2 (.inr (ih h))
theorem qtG{b:Level}{r:Root}(h:r∈qm0 b):∃k c,(k,c)∈b/\r∈ptrsL c:=by
 induction b with
 |nil=>simp [qm0]at h
 |cons p b ih =>
  obtain ⟨k,c⟩:=p;simp only [qm0,qo]at h;rcases h with h|h
  ·exact ⟨k,c,by simp,h⟩
  ·obtain ⟨k',c',h1,h2⟩:=ih h;exact ⟨k',c',by simp [h1],h2⟩
theorem qqb{b:qT}{k:Nat}{c:List TV}(h:(k,some c)∈b){r:Root}(hr:r∈ptrsTL c):r∈qkU b:=by
 induction b with
 |nil=>cases h
 |cons p b ih =>
  obtain ⟨k',c'⟩:=p;rcases qp.1 h with h|h'
  ·cases h;simp [qkU,hr]
  ·cases c' with
   |none=>simp only [qkU];exact ih h'
   |some d=>simp only [qkU,qo];exact .inr (ih h')
theorem qvY{b:qT}(hf:qxd b=true){k:Nat}{c:Option (List TV)}(h:(k,c)∈b):∃d,c=some d:=by
 induction b with
 |nil=>cases h
 |cons p b ih =>
  obtain ⟨k',c'⟩:=p;simp only [qxd,qi]at hf;rcases qp.1 h with h|h
  ·cases h;exact Option.isSome_iff_exists.1 hf.1
  ·exact ih hf.2 h
theorem qup{D:List Tmp}{b:qT}(h:(qaJ D b).length=b.length):∀k c,(k,c)∈b->D.contains k=false:=by
 induction b with
 |nil=>simp
 |cons p b ih =>
  obtain ⟨k',c'⟩:=p;have hle:∀b:qT,(qaJ D b).length<=b.length:=λb=>by
   induction b with
   |nil=>simp [qaJ]
   |cons p b ih=>obtain ⟨k,c⟩:=p;simp only [qaJ];split<;>simp<;>omega
  simp only [qaJ]at h;intro k c hk;split at h
  ·have:=hle b;simp at h;omega
  ·rename_i hn;rcases qp.1 hk with hk|hk
   ·cases hk;simpa using hn
   ·exact ih (by simpa using h) k c hk
theorem qgU{D:List Tmp}{b:Level}(h:∀k c,(k,c)∈b->D.contains k=false):q5 D b=b:=by
 induction b with
 |nil=>rfl
 |cons p b ih =>
  obtain ⟨k,c⟩:=p;simp only [q5];rw [if_neg (by rw [h k c (by simp)];simp),ih λk c hk=>h k c (by simp [hk])]
theorem qiz(D:List Tmp)(E:List V)(i:Nat):(qd5 D E)[i]?=if i∈D then (E[i]?).map (λ_=>.undef)else E[i]?:=qkl _ D E i
theorem qnz(D:List Tmp)(E:Env)(i:Nat):(qft D E).toL[i]?=if i∈D then (E.toL[i]?).map (λ_=>.any [])else E.toL[i]?:=by
 unfold qft;rw [qjq];by_cases h:i∈D
 ·rw [if_pos h,if_pos (Mask.mem_ofList.2 h)]
 ·rw [if_neg h,if_neg (λhh=>h (Mask.mem_ofList.1 hh))]
theorem qw5(D:List Tmp){E:Env}{E':List V}(h:RVL E.toL E'):RVL (qft D E).toL (qd5 D E'):=by
 refine qfn ?_ λi x v hx hv=>?_
 ·unfold qft qd5;rw [qnK,qeY,h.length]
 ·rw [qnz]at hx;rw [qiz]at hv;by_cases hm:i∈D
  ·rw [if_pos hm]at hx hv;obtain ⟨_,_,rfl⟩:=qf.1 hx;obtain ⟨_,_,rfl⟩:=qf.1 hv;exact qcV []
  ·rw [if_neg hm]at hx hv;obtain ⟨u,hu,hr⟩:=h.get hx;rw [hv]at hu;cases hu;exact hr
theorem qwt:∀{l:List V} {r:Root},r∈ptrsL l->∃(i:Nat) (v:V),l[i]?=some v/\r∈v.qx
 |[],r,h=>by simp [ptrsL]at h
 |v::l,r,h=>by
  simp only [ptrsL,qo]at h;rcases h with h|h
  ·exact ⟨0,v,rfl,h⟩
  ·obtain ⟨i,u,hu,hr⟩:=qwt h;exact ⟨i+1,u,by simpa using hu,hr⟩
theorem qv2{D:List Tmp}{n:Nat}{b:qT}{k:Nat}{c:Option (List TV)}(h:(k,c)∈b)(hk:D.contains k=true):(⟨n,k⟩:Root)∈qpk D n b:=by
 induction b with
 |nil=>cases h
 |cons p b ih =>
  obtain ⟨k',c'⟩:=p;simp only [qpk];rcases qp.1 h with h|h
  ·cases h;rw [if_pos hk];simp
  ·split
   ·exact qp.2 (.inr (ih h))
   ·exact ih h
theorem qln(D:List Tmp)(b:Level):(q5 D b).Sublist b:=by
 induction b with
 |nil=>exact .slnil
 |cons p b ih =>
  obtain ⟨k,c⟩:=p;simp only [q5];split
  ·exact ih.cons _
  ·exact ih.cons_cons _
theorem qiA{D:List Tmp}{st st1:TSt}{s:St}(h:Rst st s)(hc:st.clear D=some st1):∃s1,s.clear D=some s1/\Rst st1 s1/\Fr2 st st1 s s1:=by
 have hlen:=h.len;have hEl:s.E.length=st.E.n:=by rw [h.E.length,qjX]
 have hin:∀t,t∈inE st D↔t∈D/\t<st.E.n:=λt=>by simp [inE]
 have hEq:qd5 (inE st D) s.E=qd5 D s.E:=by
  apply List.ext_getElem?;intro i;rw [qiz,qiz];by_cases h1:i∈D
  ·rw [if_pos h1];by_cases h2:i<st.E.n
   ·rw [if_pos ((hin i).2 ⟨h1,h2⟩)]
   ·rw [if_neg (λh3=>h2 ((hin i).1 h3).2),List.getElem?_eq_none (by omega)];rfl
  ·rw [if_neg h1,if_neg (λh3=>h1 ((hin i).1 h3).1)]
 have hE:=qw5 (inE st D) h.E;rw [hEq]at hE;have hlastM:st.all[st.L.length]?=some st.B:=by simp [TSt.all]
 have hlastV:(qdi s)[st.L.length]?=some s.B:=by rw [<- hlen];simp [qdi]
 have hB:∀k,RB (q7 st.B k) (qD s.B k):=λk=>by
  have:=h.M.rel st.L.length k;unfold qav qaC at this;rw [hlastM,hlastV]at this;exact this
 have hnd:(s.B.map (·.1)).Nodup:=h.M.nd s.B (by simp [qdi]);unfold TSt.clear at hc;simp only at hc;split at hc
 ·rename_i hcond;cases hc;have hv:s.clear D=some {s with E:=qd5 D s.E,B:=q5 D s.B}:=by
   unfold St.clear;simp only
   rw [if_pos];simp only [Bool.or_eq_true,decide_eq_true_eq,qi]at hcond;rcases hcond with hl|⟨⟨h1,h2⟩,h3⟩
   ·left
    rw [qgU];intro k c hk;have hlk:=qgv hnd hk;have hb:=hB k;cases ht:q7 st.B k with
    |none=>rw [ht]at hb;simp only [RB]at hb;rw [hb]at hlk;cases hlk
    |some o=>exact qup hl k o (qdL ht)
   ·right
    unfold qdp at h2 ⊢;rw [List.all_eq_true]at h2;simp only [qi,List.all_eq_true];refine ⟨λr hr=>?_,λr hr=>?_⟩
    ·rw [hlen];obtain ⟨i,v,hv,hrv⟩:=qwt hr;obtain ⟨x,hx⟩:∃x,(qft (inE st D) st.E).toL[i]?=some x:=by
      have hlt:=(qq.1 hv).1;have:=hE.length;exact ⟨_,List.getElem?_eq_getElem (by omega)⟩
     obtain ⟨v2,hv2,hrx⟩:=hE.get hx;rw [hv]at hv2;cases hv2;have h3:=qyu h1 (λi=>by simp [TV.qx,qdp]) hx;unfold qdp at h3;rw [List.all_eq_true]at h3;exact h3 r (RV.qx _ _ hrx r hrv)
    ·rw [hlen];obtain ⟨k,c,hk,hrc⟩:=qtG hr;have hlk:=qgv (by exact List.Sublist.nodup ((qln D s.B).map _) hnd) hk;rw [qaU]at hlk;split at hlk
     ·cases hlk
     ·rename_i hkD;have hb:=hB k;cases ht:q7 st.B k with
      |none=>rw [ht]at hb;simp only [RB]at hb;rw [hb]at hlk;cases hlk
      |some o =>
       have ht2:q7 (qaJ D st.B) k=some o:=by rw [qfG,if_neg hkD];exact ht
       obtain ⟨d,rfl⟩:=qvY h3 (qdL ht2);rw [ht]at hb;obtain ⟨d',hd',hr'⟩:=hb;rw [hd']at hlk;cases hlk;exact h2 r (qqb (qdL ht2) (hr'.qx r hrc))
  refine ⟨_,hv,⟨hE,?_⟩,?_⟩
  ·refine ⟨by have:=h.M.len;simpa [TSt.all,qdi]using this,λl k=>?_,λb hb=>?_,λl k c hc hlt=>?_⟩
   rotate_right
   ·have key:=h.M.mp l k;unfold qaC at key hc;by_cases e:l=st.L.length
    ·subst e;have e2:(qdi {s with E:=qd5 D s.E,B:=q5 D s.B})[st.L.length]?=some (q5 D s.B):=by rw [<- hlen];simp [qdi]
     rw [e2]at hc;rw [hlastV]at key;simp only at hc key;rw [qaU]at hc;split at hc
     ·cases hc
     ·exact key c hc hlt
    ·have e2:(qdi {s with E:=qd5 D s.E,B:=q5 D s.B})[l]?=(qdi s)[l]?:=by
      simp only [qdi];by_cases hlt:l<s.L.length
      ·rw [qk hlt,qk hlt]
      ·rw [List.getElem?_eq_none (by simp;omega),List.getElem?_eq_none (by simp;omega)]
     rw [e2]at hc;exact key c hc hlt
   ·have key:=h.M.rel l k;unfold qav qaC at key ⊢;by_cases e:l=st.L.length
    ·subst e;have e1:({st with E:=qft (inE st D) st.E,B:=qaJ D st.B,Wt:=Mask.ofList (inE st D)++st.Wt,Wb:=qpk D st.L.length st.B++st.Wb}:TSt).all[st.L.length]?=some (qaJ D st.B):=by simp [TSt.all]
     have e2:(qdi {s with E:=qd5 D s.E,B:=q5 D s.B})[st.L.length]?=some (q5 D s.B):=by rw [<- hlen];simp [qdi]
     rw [e1,e2];simp only
     rw [qfG,qaU];split
     ·rfl
     ·exact hB k
    ·have e1:({st with E:=qft (inE st D) st.E,B:=qaJ D st.B,Wt:=Mask.ofList (inE st D)++st.Wt,Wb:=qpk D st.L.length st.B++st.Wb}:TSt).all[l]?=st.all[l]?:=by
      simp only [TSt.all];by_cases hlt:l<st.L.length
      ·rw [qk hlt,qk hlt]
      ·rw [List.getElem?_eq_none (by simp;omega),List.getElem?_eq_none (by simp;omega)]
     have e2:(qdi {s with E:=qd5 D s.E,B:=q5 D s.B})[l]?=(qdi s)[l]?:=by
      simp only [qdi];by_cases hlt:l<s.L.length
      ·rw [qk hlt,qk hlt]
      ·rw [List.getElem?_eq_none (by simp;omega),List.getElem?_eq_none (by simp;omega)]
     rw [e1,e2];exact key
   ·simp only [qdi,qo,List.mem_singleton]at hb;rcases hb with hb|rfl
    ·exact h.M.nd b (by simp [qdi,hb])
    ·exact List.Sublist.nodup ((qln D s.B).map _) hnd
  ·refine ⟨λt ht=>by simp [ht],λr hr=>by simp [hr],λt ht=>.inl ?_,λt ht rs hE=>⟨rs,?_⟩,λr hr=>.inl ?_,λr hr hsm=>?_,rfl,?_⟩
   ·simp only [Mask.mem_append,Mask.mem_ofList,not_or]at ht;simp only
    rw [qiz];by_cases hD:t∈D
    ·have hge:¬ t<st.E.n:=λhlt=>ht.1 ((hin t).2 ⟨hD,hlt⟩);rw [if_pos hD,List.getElem?_eq_none (by omega)];rfl
    ·rw [if_neg hD]
   ·simp only [Mask.mem_append,Mask.mem_ofList,not_or]at ht;rw [qnz,if_neg ht.1]at hE;exact hE
   ·simp only [qo,not_or]at hr;obtain ⟨l,k⟩:=r;rw [qR,qR];simp only
    unfold qaC;by_cases e:l=st.L.length
    ·subst e;have e2:(qdi {s with E:=qd5 D s.E,B:=q5 D s.B})[st.L.length]?=some (q5 D s.B):=by rw [<- hlen];simp [qdi]
     rw [e2,hlastV];simp only
     rw [qaU];split
     ·rename_i hk;have hb:=hB k;cases ht:q7 st.B k with
      |none=>rw [ht]at hb;simp only [RB]at hb;exact hb.symm
      |some o=>exact absurd (qv2 (qdL ht) hk) hr.1
     ·rfl
    ·have e2:(qdi {s with E:=qd5 D s.E,B:=q5 D s.B})[l]?=(qdi s)[l]?:=by
      simp only [qdi];by_cases hlt:l<s.L.length
      ·rw [qk hlt,qk hlt]
      ·rw [List.getElem?_eq_none (by simp;omega),List.getElem?_eq_none (by simp;omega)]
     rw [e2]
   ·simp only [qo,not_or]at hr;obtain ⟨l,k⟩:=r;obtain ⟨c,hc⟩:=Option.isSome_iff_exists.1 hsm;have hlk:=qeJ hc;simp only at hlk;have:qav ({st with E:=qft (inE st D) st.E,B:=qaJ D st.B,Wt:=Mask.ofList (inE st D)++st.Wt,Wb:=qpk D st.L.length st.B++st.Wb}:TSt).all l k=some (some c):=by
     unfold qav at hlk ⊢;by_cases e:l=st.L.length
     ·subst e;rw [hlastM]at hlk;simp only at hlk;have e1:({st with E:=qft (inE st D) st.E,B:=qaJ D st.B,Wt:=Mask.ofList (inE st D)++st.Wt,Wb:=qpk D st.L.length st.B++st.Wb}:TSt).all[st.L.length]?=some (qaJ D st.B):=by simp [TSt.all]
      rw [e1];simp only
      rw [qfG];split
      ·rename_i hk;exact absurd (qv2 (qdL hlk) hk) hr.1
      ·exact hlk
     ·have e1:({st with E:=qft (inE st D) st.E,B:=qaJ D st.B,Wt:=Mask.ofList (inE st D)++st.Wt,Wb:=qpk D st.L.length st.B++st.Wb}:TSt).all[l]?=st.all[l]?:=by
       simp only [TSt.all];by_cases hlt:l<st.L.length
       ·rw [qk hlt,qk hlt]
       ·rw [List.getElem?_eq_none (by simp;omega),List.getElem?_eq_none (by simp;omega)]
      rw [e1];exact hlk
    rw [qa7];simp only
    rw [this];rfl
   ·exact qeY _ D s.E
 ·cases hc
end
end Go.Tx
end
