/-
  ONE LAW OF A CHAPTER: its program side is run by an interpreter that is proved sound; what it computes is shown to be what the law says. No conditions. Part 4 of 8.
-/
import Derived.Test.YtkmcmngpifalcaaGreatDoorMSc
import Derived.Laws.Strings
set_option linter.unusedSimpArgs false
set_option linter.unusedVariables false
set_option linter.unnecessarySimpa false
section
namespace Go.Tx
open Go Go.Ab
section
inductive All2 {α β:Type} (R:α->β->Prop):List α->List β->Prop
 |nil:All2 R [] []
 |cons {a b l l'}:R a b->All2 R l l'->All2 R (a::l) (b::l')
section
variable {α β:Type} {R S:α->β->Prop}
theorem All2.length{l:List α}{l':List β}(h:All2 R l l'):l'.length=l.length:=by
 induction h with
 |nil=>rfl
 |cons _ _ ih=>simp [ih]
theorem All2.mono(hrs:∀a b,R a b->S a b){l:List α}{l':List β}(h:All2 R l l'):All2 S l l':=by
 induction h with
 |nil=>exact .nil
 |cons h1 _ ih=>exact .cons (hrs _ _ h1) ih
theorem All2.append{l m:List α}{l' m':List β}(h:All2 R l l')(h':All2 R m m'):All2 R (l++m) (l'++m'):=by
 induction h with
 |nil=>exact h'
 |cons h1 _ ih=>exact .cons h1 ih
theorem All2.take{l:List α}{l':List β}(h:All2 R l l'):∀n,All2 R (l.take n) (l'.take n):=by
 induction h with
 |nil=>intro n;simp;exact .nil
 |cons h1 _ ih=>intro n;cases n with
  |zero=>exact .nil
  |succ n=>exact .cons h1 (ih n)
theorem All2.drop{l:List α}{l':List β}(h:All2 R l l'):∀n,All2 R (l.drop n) (l'.drop n):=by
 induction h with
 |nil=>intro n;simp;exact .nil
 |cons h1 h2 ih=>intro n;cases n with
  |zero=>exact .cons h1 h2
  |succ n=>exact ih n
theorem All2.get{l:List α}{l':List β}(h:All2 R l l'):∀{i:Nat} {a:α},l[i]?=some a->∃b,l'[i]?=some b/\R a b:=by
 induction h with
 |nil=>intro i a h;simp at h
 |cons h1 h2 ih=>intro i a h;cases i with
  |zero=>simp at h;subst h;exact ⟨_,rfl,h1⟩
  |succ n=>exact ih (by simpa using h)
theorem All2.replicate{a:α}{b:β}(h:R a b):∀n,All2 R (List.replicate n a) (List.replicate n b)
 |0=>.nil
 |n+1=>.cons h (All2.replicate h n)
theorem All2.map{γ:Type}{g:β->γ}{S:α->γ->Prop}(hrs:∀a b,R a b->S a (g b)){l:List α}{l':List β}(h:All2 R l l'):All2 S l (l'.map g):=by
 induction h with
 |nil=>exact .nil
 |cons h1 _ ih=>exact .cons (hrs _ _ h1) ih
theorem All2.all{p:β->Prop}(hp:∀a b,R a b->p b){l:List α}{l':List β}(h:All2 R l l'):∀b∈l',p b:=by
 induction h with
 |nil=>simp
 |cons h1 _ ih =>
          intro b hb;rcases qk.1 hb with rfl|hb
          ·exact hp _ _ h1
          ·exact ih b hb
end
def FlR(o:Nat)(f:Fl):Prop:=(o≠2000->(f=.own↔qaY o=true))/\(o=1000->f=.shared)
def RTy:(τ:Ty)->Nat->τ.den->V->Prop
 |.int k,_,n,v=>v=.val (.int k n)
 |.bool,_,b,v=>v=.val (.bool b)
 |.str,_,s,v=>v=.val (.string ⟨s.toArray⟩)
 |.flt,_,n,v=>∃b,v=.val (.float .f64 b)/\Fl.IsF b n
 |.cx,_,p,v=>∃a b,v=.val (.complex .f64 a b)/\Fl.IsF a p.1/\Fl.IsF b p.2
 |.err,_,x,v=>(x=true/\v=.val .nilIface)\/(x=false/\∃t,v=.iface t .undef)
 |.mset t,_,l,v=>qfX t=true/\v=.mp (l.map λx=>(qcr t x,.bool true))
 |.sl t,o,l,v=>∃f c l',v=.sl f c l'/\FlR o f/\All2 (RTy t (nx o)) l l'
 |.unit,_,_,v=>v=.agg []
 |.pair a b,o,x,v=>∃v1 l,v=.agg (v1::l)/\RTy a o x.1 v1/\RTy b o x.2 (.agg l)
mutual
def RV:TV->V->Prop
 |.any rs,v=>(∀r∈v.qq,r∈rs)/\qae [v]=false
 |.t τ o x,v=>RTy τ o x v
 |.clp τ x,v=>∃f l',v=.sl f true l'/\f≠.own/\All2 (RTy τ 0) x l'
 |.room a s,v=>(a<2/\∃n,v=.room s n/\(a=0->n=0))\/(2<=a/\(v=.undef\/∃f,f≠.own/\v=.sl f false []))
 |.empty o,v=>∃f c,v=.sl f c []/\FlR o f
 |.val u,v=>v=.val u
 |.agg l,v=>∃l',v=.agg l'/\RVL l l'
 |.tuple l,v=>∃l',v=.tuple l'/\RVL l l'
 |.fn g a b,v=>∃a' b',v=.fn g a' b'/\RVL a a'/\RVL b b'
 |.ptr r o,v=>v=.ptr r o
 |.mref r,v=>v=.mref r
 |.bsl r o n,v=>v=.bsl r o n
 |.yld r,v=>v=.yld r
 |.lp ..,v=>False
 |.cptr s l,v=>∃f l',v=.cptr f l'/\f≠.own/\(s=true->f=.shared)/\RVL l l'
 |.iface t x,v=>∃y,v=.iface t y/\RV x y
def RVL:List TV->List V->Prop
 |[],l=>l=[]
 |x::l,l'=>∃v m,l'=v::m/\RV x v/\RVL l m
end
theorem qv{x:TV}{l:List TV}{v:V}{m:List V}:RVL (x::l) (v::m)↔RV x v/\RVL l m:=by
 simp only [RVL,List.cons.injEq];exact ⟨λ⟨_,_,⟨rfl,rfl⟩,h1,h2⟩=>⟨h1,h2⟩,λ⟨h1,h2⟩=>⟨_,_,⟨rfl,rfl⟩,h1,h2⟩⟩
theorem q5:RVL [] []:=by simp [RVL]
theorem RVL.length:∀{l:List TV} {l':List V},RVL l l'->l'.length=l.length
 |[],l',h=>by simp only [RVL]at h;simp [h]
 |x::l,l',h=>by simp only [RVL]at h;obtain ⟨v,m,rfl,_,h2⟩:=h;simp [RVL.length h2]
theorem RVL.append:∀{l m:List TV} {l' m':List V},RVL l l'->RVL m m'->RVL (l++m) (l'++m')
 |[],m,l',m',h,h'=>by simp only [RVL]at h;simpa [h]using h'
 |x::l,m,l',m',h,h'=>by
  simp only [RVL]at h;obtain ⟨v,n,rfl,h1,h2⟩:=h;exact qv.2 ⟨h1,RVL.append h2 h'⟩
theorem RVL.take:∀{l:List TV} {l':List V} (n:Nat),RVL l l'->RVL (l.take n) (l'.take n)
 |_,_,0,h=>by simp [RVL]
 |[],l',n+1,h=>by simp only [RVL]at h;simp [h,RVL]
 |x::l,l',n+1,h=>by
  simp only [RVL]at h;obtain ⟨v,m,rfl,h1,h2⟩:=h;exact qv.2 ⟨h1,RVL.take n h2⟩
theorem RVL.drop:∀{l:List TV} {l':List V} (n:Nat),RVL l l'->RVL (l.drop n) (l'.drop n)
 |_,_,0,h=>by simpa using h
 |[],l',n+1,h=>by simp only [RVL]at h;simp [h,RVL]
 |x::l,l',n+1,h=>by
  simp only [RVL]at h;obtain ⟨v,m,rfl,h1,h2⟩:=h;exact RVL.drop n h2
theorem RVL.get:∀{l:List TV} {l':List V} {i:Nat} {x:TV},RVL l l'->l[i]?=some x->∃v,l'[i]?=some v/\RV x v
 |[],l',i,x,h,hi=>by simp at hi
 |y::l,l',0,x,h,hi=>by
  simp only [RVL]at h;obtain ⟨v,m,rfl,h1,h2⟩:=h;simp at hi;subst hi;exact ⟨v,rfl,h1⟩
 |y::l,l',i+1,x,h,hi=>by
  simp only [RVL]at h;obtain ⟨v,m,rfl,h1,h2⟩:=h;have hi':l[i]?=some x:=by simpa using hi
  obtain ⟨u,hu,hr⟩:=RVL.get h2 hi';exact ⟨u,by simpa using hu,hr⟩
theorem RVL.set:∀{l:List TV} {l':List V} (i:Nat) {x:TV} {v:V},RVL l l'->RV x v->RVL (l.set i x) (l'.set i v)
 |[],l',i,x,v,h,hx=>by simp only [RVL]at h;simp [h,RVL]
 |y::l,l',0,x,v,h,hx=>by
  simp only [RVL]at h;obtain ⟨u,m,rfl,h1,h2⟩:=h;exact qv.2 ⟨hx,h2⟩
 |y::l,l',i+1,x,v,h,hx=>by
  simp only [RVL]at h;obtain ⟨u,m,rfl,h1,h2⟩:=h;exact qv.2 ⟨h1,RVL.set i h2 hx⟩
theorem qco(rs:List Root):RV (.any rs) .undef:=by simp [RV,V.qq,qae]
theorem RVL.getD{l:List TV}{l':List V}(h:RVL l l')(i:Nat):RV (l.getD i (.any [])) (l'.getD i .undef):=by
 cases hi:l[i]? with
 |some x=>obtain ⟨v,hv,hr⟩:=h.get hi;simpa [hi,hv]using hr
 |none =>
  have:l'[i]?=none:=by rw [List.getElem?_eq_none_iff]at hi ⊢;rw [h.length];exact hi
  simp only [List.getD_eq_getElem?_getD,hi,this,Option.getD_none];exact qco []
theorem RVL.replicate{x:TV}{v:V}(h:RV x v):∀n,RVL (List.replicate n x) (List.replicate n v)
 |0=>by simp [RVL]
 |n+1=>qv.2 ⟨h,RVL.replicate h n⟩
theorem RVL.flatten:∀{n:Nat} {l:List TV} {l':List V},RVL l l'->RVL (List.replicate n l).flatten (List.replicate n l').flatten
 |0,_,_,_=>by simp [RVL]
 |n+1,l,l',h=>by simp only [List.replicate_succ,List.flatten_cons];exact h.append (RVL.flatten h)
theorem RVL.head{l:List TV}{l':List V}{x:TV}(h:RVL l l')(hx:l.head?=some x):∃v,l'.head?=some v/\RV x v:=by
 cases l with
 |nil=>simp at hx
 |cons y l =>
  simp only [RVL]at h;obtain ⟨u,m,rfl,h1,h2⟩:=h;simp at hx;subst hx;exact ⟨u,rfl,h1⟩
theorem qeg{o:Nat}:qaY o=true↔o≠0/\o≠1000/\o≠2000:=by unfold qaY;simp
theorem qkz{o:Nat}:qaY o=false↔o=0\/o=1000\/o=2000:=by
 have:=@qeg o;cases h:qaY o with
 |true=>rw [h]at this;simp at this;simp<;>omega
 |false=>rw [h]at this;simp at this;simp<;>omega
theorem FlR.own{o:Nat}{f:Fl}(h:FlR o f)(ho:qaY o=true):f=.own:=(h.1 (qeg.1 ho).2.2).2 ho
theorem FlR.not{o:Nat}{f:Fl}(h:FlR o f)(ho:qaY o=false)(h2:o≠2000):f≠.own:=λe=>by have:=(h.1 h2).1 e;rw [ho]at this;cases this
theorem qfi{o:Nat}(h:qaY o=true):FlR o .own:=⟨λ_=>by simp [h],λe=>absurd e (qeg.1 h).2.1⟩
theorem qhb{o:Nat}{f:Fl}(ho:qaY o=false)(hf:f≠.own)(h1:o=1000->f=.shared):FlR o f:=⟨λ_=>by simp [hf,ho],h1⟩
theorem qzB(o:Nat):qaY (dl o)=false/\dl o≠2000/\nx (dl o)=dl o:=by
 have h1:qaY (dl o)=false:=by rw [qkz];unfold dl;split<;>simp
 refine ⟨h1,by unfold dl;split<;>simp,by unfold nx;rw [h1];rfl⟩
theorem qdr:∀(τ:Ty) (o:Nat) (x:τ.den) (v:V),RTy τ o x v->v.qq=[]
 |.int _,_,_,v,h=>by simp only [RTy]at h;simp [h,V.qq]
 |.bool,_,_,v,h=>by simp only [RTy]at h;simp [h,V.qq]
 |.str,_,_,v,h=>by simp only [RTy]at h;simp [h,V.qq]
 |.flt,_,_,v,h=>by simp only [RTy]at h;obtain ⟨b9,rfl,h9⟩:=h;simp [V.qq]
 |.cx,_,_,v,h=>by simp only [RTy]at h;obtain ⟨a9,b9,rfl,h8,h9⟩:=h;simp [V.qq]
 |.err,_,_,v,h=>by simp only [RTy]at h;rcases h with ⟨_,rfl⟩|⟨_,t9,rfl⟩<;>simp [V.qq]
 |.mset _,_,_,v,h=>by simp only [RTy]at h;obtain ⟨h8,rfl⟩:=h;simp [V.qq]
 |.sl t,o,l,v,h=>by simp only [RTy]at h;obtain ⟨f,c,l',rfl,_⟩:=h;simp [V.qq]
 |.unit,_,_,v,h=>by simp only [RTy]at h;simp [h,V.qq,ptrsL]
 |.pair a b,o,x,v,h=>by
  simp only [RTy]at h;obtain ⟨v1,l,rfl,h1,h2⟩:=h;have e1:=qdr a o _ _ h1;have e2:=qdr b o _ _ h2;simp only [V.qq]at e2;simp [V.qq,ptrsL,e1,e2]
theorem qpb{l:List V}{r:Root}:r∈ptrsL l↔∃v∈l,r∈v.qq:=by
 induction l with
 |nil=>simp [ptrsL]
 |cons v l ih=>simp [ptrsL,ih]
mutual
theorem RV.qq:∀(x:TV) (v:V),RV x v->∀r∈v.qq,r∈x.qq
 |.any rs,v,h,r,hr=>by simp only [RV]at h;exact h.1 r hr
 |.t τ o x,v,h,r,hr=>by simp only [RV]at h;rw [qdr τ o x v h]at hr;cases hr
 |.clp τ x,v,h,r,hr=>by simp only [RV]at h;obtain ⟨f,l',rfl,_⟩:=h;simp [V.qq]at hr
 |.room a s,v,h,r,hr=>by simp only [RV]at h;obtain ⟨_,n,rfl,_⟩|⟨_,rfl|⟨f,hf0,rfl⟩⟩:=h<;>simp [V.qq]at hr
 |.empty own,v,h,r,hr=>by simp only [RV]at h;obtain ⟨f,c,rfl,_⟩:=h;simp [V.qq]at hr
 |.val u,v,h,r,hr=>by simp only [RV]at h;simp [h,V.qq]at hr
 |.agg l,v,h,r,hr=>by simp only [RV]at h;obtain ⟨l',rfl,h⟩:=h;simp only [V.qq]at hr;exact RVL.qq l l' h r hr
 |.tuple l,v,h,r,hr=>by simp only [RV]at h;obtain ⟨l',rfl,h⟩:=h;simp only [V.qq]at hr;exact RVL.qq l l' h r hr
 |.fn g a b,v,h,r,hr=>by
  simp only [RV]at h;obtain ⟨a',b',rfl,h1,h2⟩:=h;simp only [V.qq,qj]at hr;simp only [TV.qq,qj];exact hr.imp (RVL.qq a a' h1 r) (RVL.qq b b' h2 r)
 |.ptr q o,v,h,r,hr=>by simp only [RV]at h;rw [h]at hr;simpa [V.qq,TV.qq]using hr
 |.mref q,v,h,r,hr=>by simp only [RV]at h;rw [h]at hr;simpa [V.qq,TV.qq]using hr
 |.bsl q _ _,v,h,r,hr=>by simp only [RV]at h;rw [h]at hr;simpa [V.qq,TV.qq]using hr
 |.yld q,v,h,r,hr=>by simp only [RV]at h;rw [h]at hr;simpa [V.qq,TV.qq]using hr
 |.lp ..,v,h,r,hr=>by simp only [RV]at h
 |.cptr _ l,v,h,r,hr=>by simp only [RV]at h;obtain ⟨_,l',rfl,_,_,h⟩:=h;simp only [V.qq]at hr;exact RVL.qq l l' h r hr
 |.iface t x,v,h,r,hr=>by simp only [RV]at h;obtain ⟨y,rfl,h⟩:=h;simp only [V.qq]at hr;exact RV.qq x y h r hr
theorem RVL.qq:∀(l:List TV) (l':List V),RVL l l'->∀r∈ptrsL l',r∈ptrsTL l
 |[],l',h,r,hr=>by simp only [RVL]at h;simp [h,ptrsL]at hr
 |x::l,l',h,r,hr=>by
  simp only [RVL]at h;obtain ⟨v,m,rfl,h1,h2⟩:=h;simp only [ptrsL,qj]at hr;simp only [ptrsTL,qj];exact hr.imp (RV.qq x v h1 r) (RVL.qq l m h2 r)
end
mutual
theorem RV.ptrs_eq:∀(x:TV) (v:V),x.known=true->RV x v->v.qq=x.qq
 |.any rs,v,hk,h=>by simp [TV.known]at hk
 |.t τ o x,v,_,h=>by simp only [RV]at h;rw [qdr τ o x v h];simp [TV.qq]
 |.clp τ x,v,_,h=>by simp only [RV]at h;obtain ⟨f,l',rfl,_⟩:=h;simp [V.qq,TV.qq]
 |.room a s,v,_,h=>by simp only [RV]at h;obtain ⟨_,n,rfl,_⟩|⟨_,rfl|⟨f,hf0,rfl⟩⟩:=h<;>simp [V.qq,TV.qq]
 |.empty own,v,_,h=>by simp only [RV]at h;obtain ⟨f,c,rfl,_⟩:=h;simp [V.qq,TV.qq]
 |.val u,v,_,h=>by simp only [RV]at h;simp [h,V.qq,TV.qq]
 |.agg l,v,hk,h=>by simp only [RV]at h;obtain ⟨l',rfl,h⟩:=h;simp only [TV.known]at hk;simp only [V.qq,TV.qq];exact RVL.ptrs_eq l l' hk h
 |.tuple l,v,hk,h=>by simp only [RV]at h;obtain ⟨l',rfl,h⟩:=h;simp only [TV.known]at hk;simp only [V.qq,TV.qq];exact RVL.ptrs_eq l l' hk h
 |.fn g a b,v,hk,h=>by
  simp only [RV]at h;obtain ⟨a',b',rfl,h1,h2⟩:=h;simp only [TV.known,qe]at hk;simp only [V.qq,TV.qq,RVL.ptrs_eq a a' hk.1 h1,RVL.ptrs_eq b b' hk.2 h2]
 |.ptr q o,v,_,h=>by simp only [RV]at h;simp [h,V.qq,TV.qq]
 |.mref q,v,_,h=>by simp only [RV]at h;simp [h,V.qq,TV.qq]
 |.bsl q _ _,v,_,h=>by simp only [RV]at h;simp [h,V.qq,TV.qq]
 |.yld q,v,_,h=>by simp only [RV]at h;simp [h,V.qq,TV.qq]
 |.lp ..,v,_,h=>by simp only [RV]at h
 |.cptr _ l,v,hk,h=>by simp only [RV]at h;obtain ⟨_,l',rfl,_,_,h⟩:=h;simp only [TV.known]at hk;simp only [V.qq,TV.qq];exact RVL.ptrs_eq l l' hk h
 |.iface t x,v,hk,h=>by simp [TV.known]at hk
theorem RVL.ptrs_eq:∀(l:List TV) (l':List V),knownL l=true->RVL l l'->ptrsL l'=ptrsTL l
 |[],l',_,h=>by simp only [RVL]at h;simp [h,ptrsL,ptrsTL]
 |x::l,l',hk,h=>by
  simp only [RVL]at h;obtain ⟨v,m,rfl,h1,h2⟩:=h;simp only [knownL,qe]at hk;simp only [ptrsL,ptrsTL,RV.ptrs_eq x v hk.1 h1,RVL.ptrs_eq l m hk.2 h2]
end
theorem qaA(g:Fl->Fl):∀l:List V,reflagL g l=l.map (V.reflag g)
 |[]=>rfl
 |v::l=>by simp [reflagL,qaA g l]
theorem qCn{n:Nat}(h:qaY (n+1)=true):nx (n+1)=n/\n+1≠1000:=by
 have:=qeg.1 h;refine ⟨by unfold nx;rw [h];simp,this.2.1⟩
theorem qmb:∀(τ:Ty) (o:Nat) (x:τ.den) (v:V),RTy τ (dl o) x v->RTy τ 0 x v
 |.int _,_,_,v,h=>by simpa only [RTy]using h
 |.bool,_,_,v,h=>by simpa only [RTy]using h
 |.str,_,_,v,h=>by simpa only [RTy]using h
 |.flt,_,_,v,h=>by simpa only [RTy]using h
 |.cx,_,_,v,h=>by simpa only [RTy]using h
 |.err,_,_,v,h=>by simpa only [RTy]using h
 |.mset _,_,_,v,h=>by simpa only [RTy]using h
 |.sl t,o,l,v,h=>by
  obtain ⟨hno,h20,hnx⟩:=qzB o;simp only [RTy]at h ⊢;obtain ⟨f,c,l',rfl,h1,h⟩:=h;rw [hnx]at h;exact ⟨f,c,l',rfl,qhb rfl (h1.not hno h20) (λh=>by cases h),h.mono λa b hab=>qmb t o a b hab⟩
 |.unit,_,_,v,h=>by simpa only [RTy]using h
 |.pair a b,o,x,v,h=>by
  simp only [RTy]at h ⊢;obtain ⟨v1,l,rfl,h1,h2⟩:=h;exact ⟨v1,l,rfl,qmb a o _ _ h1,qmb b o _ _ h2⟩
theorem qiL{g:Fl->Fl}(hg:∀f,g f≠.own)(hs:g .shared=.shared):∀(τ:Ty) (o:Nat) (x:τ.den) (v:V),RTy τ o x v->RTy τ (dl o) x (v.reflag g)
 |.int _,_,_,v,h=>by simp only [RTy]at h ⊢;simp [h,V.reflag]
 |.bool,_,_,v,h=>by simp only [RTy]at h ⊢;simp [h,V.reflag]
 |.str,_,_,v,h=>by simp only [RTy]at h ⊢;simp [h,V.reflag]
 |.flt,_,_,v,h=>by simp only [RTy]at h ⊢;obtain ⟨b9,rfl,h9⟩:=h;exact ⟨b9,by simp [V.reflag],h9⟩
 |.cx,_,_,v,h=>by simp only [RTy]at h ⊢;obtain ⟨a9,b9,rfl,h8,h9⟩:=h;exact ⟨a9,b9,by simp [V.reflag],h8,h9⟩
 |.err,_,_,v,h=>by simp only [RTy]at h ⊢;rcases h with ⟨hx,rfl⟩|⟨hx,t9,rfl⟩;exact .inl ⟨hx,by simp [V.reflag]⟩;exact .inr ⟨hx,t9,by simp [V.reflag]⟩
 |.mset _,_,_,v,h=>by simp only [RTy]at h ⊢;obtain ⟨h8,rfl⟩:=h;exact ⟨h8,by simp [V.reflag]⟩
 |.sl t,o,l,v,h=>by
  simp only [RTy]at h ⊢;obtain ⟨f,c,l',rfl,h0,h⟩:=h;obtain ⟨hno,h20,hnx⟩:=qzB o;refine ⟨g f,c,reflagL g l',by simp [V.reflag],qhb hno (hg f) (λh1=>?_),?_⟩
  ·have ho:o=1000:=by
    unfold dl at h1;split at h1
    ·assumption
    ·cases h1
   rw [h0.2 ho];exact hs
  ·rw [qaA,hnx];refine h.map λa b hab=>?_;have h3:=qiL hg hs t _ a b hab;by_cases ho:o=1000
   ·subst ho;exact h3
   ·have:dl o=0:=by unfold dl;rw [if_neg ho]
    rw [this];exact qmb t _ a _ h3
 |.unit,_,_,v,h=>by simp only [RTy]at h ⊢;simp [h,V.reflag,reflagL]
 |.pair a b,o,x,v,h=>by
  simp only [RTy]at h ⊢;obtain ⟨v1,l,rfl,h1,h2⟩:=h;refine ⟨v1.reflag g,reflagL g l,by simp [V.reflag,reflagL],qiL hg hs a o _ _ h1,?_⟩;have:=qiL hg hs b o _ _ h2;simpa only [V.reflag]using this
theorem qk8{g:Fl->Fl}(hg:∀f,g f=.own↔f=.own)(hs:g .shared=.shared):∀(τ:Ty) (o:Nat) (x:τ.den) (v:V),RTy τ o x v->RTy τ o x (v.reflag g)
 |.int _,_,_,v,h=>by simp only [RTy]at h ⊢;simp [h,V.reflag]
 |.bool,_,_,v,h=>by simp only [RTy]at h ⊢;simp [h,V.reflag]
 |.str,_,_,v,h=>by simp only [RTy]at h ⊢;simp [h,V.reflag]
 |.flt,_,_,v,h=>by simp only [RTy]at h ⊢;obtain ⟨b9,rfl,h9⟩:=h;exact ⟨b9,by simp [V.reflag],h9⟩
 |.cx,_,_,v,h=>by simp only [RTy]at h ⊢;obtain ⟨a9,b9,rfl,h8,h9⟩:=h;exact ⟨a9,b9,by simp [V.reflag],h8,h9⟩
 |.err,_,_,v,h=>by simp only [RTy]at h ⊢;rcases h with ⟨hx,rfl⟩|⟨hx,t9,rfl⟩;exact .inl ⟨hx,by simp [V.reflag]⟩;exact .inr ⟨hx,t9,by simp [V.reflag]⟩
 |.mset _,_,_,v,h=>by simp only [RTy]at h ⊢;obtain ⟨h8,rfl⟩:=h;exact ⟨h8,by simp [V.reflag]⟩
 |.sl t,o,l,v,h=>by
  simp only [RTy]at h ⊢;obtain ⟨f,c,l',rfl,ho,h⟩:=h;refine ⟨g f,c,reflagL g l',by simp [V.reflag],⟨λh2=>by rw [hg f];exact ho.1 h2,λh1=>by rw [ho.2 h1];exact hs⟩,?_⟩;rw [qaA];exact h.map λa b hab=>qk8 hg hs t _ a b hab
 |.unit,_,_,v,h=>by simp only [RTy]at h ⊢;simp [h,V.reflag,reflagL]
 |.pair a b,o,x,v,h=>by
  simp only [RTy]at h ⊢;obtain ⟨v1,l,rfl,h1,h2⟩:=h;refine ⟨v1.reflag g,reflagL g l,by simp [V.reflag,reflagL],qk8 hg hs a o _ _ h1,?_⟩;have:=qk8 hg hs b o _ _ h2;simpa only [V.reflag]using this
theorem qrI{g:Fl->Fl}{l:List V}(h:qae l=false):qae (reflagL g l)=false:=by
 cases l with
 |nil=>rfl
 |cons x l=>cases x with
  |lp=>simp [qae]at h
  |room s n =>
   simp only [reflagL,V.reflag];by_cases h1:g .own=.own
   ·rw [if_pos h1];rfl
   ·rw [if_neg h1];by_cases h2:n=0
    ·rw [if_pos h2];rfl
    ·rw [if_neg h2];rfl
  |_=>rfl
theorem qdW{g:Fl->Fl}{v:V}(h:qae [v]=false):qae [v.reflag g]=false:=qrI (g:=g) h
theorem qfO(g:Fl->Fl)(v:V):(v.reflag g).qq=v.qq:=by
 have:=ptrsL_reflag g [v];simpa [reflagL,ptrsL]using this
mutual
theorem RV.dull'{g:Fl->Fl}(hg:∀f,g f≠.own)(hs:g .shared=.shared):∀(x:TV) (v:V),RV x v->RV x.q6 (v.reflag g)
 |.any rs,v,h=>by simp only [TV.q6,RV]at h ⊢;rw [qfO];exact ⟨h.1,qdW h.2⟩
 |.t τ o x,v,h=>by simp only [TV.q6,RV]at h ⊢;exact qiL hg hs τ o x v h
 |.clp τ x,v,h=>by
  simp only [TV.q6,RV]at h ⊢;obtain ⟨f,l',rfl,_,h⟩:=h;refine ⟨g f,reflagL g l',by simp [V.reflag],hg f,?_⟩;rw [qaA];exact h.map λa b hab=>qmb τ 0 a _ (qiL hg hs τ _ a b hab)
 |.room a s,v,h=>by
  simp only [RV]at h;rcases a with _|a
  ·obtain ⟨_,n,rfl,h0⟩|⟨h9,_⟩:=h
   ·obtain rfl:=h0 rfl;simp only [TV.q6,RV,V.reflag,if_neg (hg .own),if_true];exact ⟨_,_,rfl,qhb (by decide) (hg .own) (λh1=>by cases h1)⟩
   ·omega
  ·simp only [TV.q6,RV];refine .inr ⟨Nat.le_refl _,?_⟩;obtain ⟨_,n,rfl,_⟩|⟨_,rfl|⟨f,hf0,rfl⟩⟩:=h
   ·simp only [V.reflag,if_neg (hg .own)];split
    ·exact .inr ⟨_,hg _,rfl⟩
    ·exact .inl rfl
   ·exact .inl rfl
   ·exact .inr ⟨g f,hg f,by simp [V.reflag,reflagL]⟩
 |.empty o,v,h=>by
  simp only [TV.q6,RV]at h ⊢;obtain ⟨f,c,rfl,h0⟩:=h;refine ⟨g f,c,by simp [V.reflag,reflagL],qhb (qzB o).1 (hg f) (λh1=>?_)⟩;have ho:o=1000:=by
   unfold dl at h1;split at h1
   ·assumption
   ·cases h1
  rw [h0.2 ho];exact hs
 |.val u,v,h=>by simp only [TV.q6,RV]at h ⊢;simp [h,V.reflag]
 |.agg l,v,h=>by simp only [TV.q6,RV]at h ⊢;obtain ⟨l',rfl,h⟩:=h;exact ⟨_,by simp only [V.reflag],RVL.dull' hg hs l l' h⟩
 |.tuple l,v,h=>by simp only [TV.q6,RV]at h ⊢;obtain ⟨l',rfl,h⟩:=h;exact ⟨_,by simp only [V.reflag],RVL.dull' hg hs l l' h⟩
 |.fn g' a b,v,h=>by simp only [TV.q6,RV]at h ⊢;obtain ⟨a',b',rfl,h1,h2⟩:=h;exact ⟨_,_,by simp only [V.reflag],RVL.dull' hg hs a a' h1,RVL.dull' hg hs b b' h2⟩
 |.ptr q o,v,h=>by simp only [TV.q6,RV]at h ⊢;simp [h,V.reflag]
 |.mref q,v,h=>by simp only [TV.q6,RV]at h ⊢;simp [h,V.reflag]
 |.bsl q _ _,v,h=>by simp only [TV.q6,RV]at h ⊢;simp [h,V.reflag]
 |.yld q,v,h=>by simp only [TV.q6,RV]at h ⊢;simp [h,V.reflag]
 |.lp ..,v,h=>by simp only [RV]at h
 |.cptr s l,v,h=>by simp only [TV.q6,RV]at h ⊢;obtain ⟨f,l',rfl,_,hsh,h⟩:=h;exact ⟨g f,_,by simp only [V.reflag],hg f,λe=>(by rw [hsh e];exact hs),RVL.dull' hg hs l l' h⟩
 |.iface t x,v,h=>by simp only [TV.q6,RV]at h ⊢;obtain ⟨y,rfl,h⟩:=h;exact ⟨_,by simp only [V.reflag],RV.dull' hg hs x y h⟩
theorem RVL.dull'{g:Fl->Fl}(hg:∀f,g f≠.own)(hs:g .shared=.shared):∀(l:List TV) (l':List V),RVL l l'->RVL (dullL l) (reflagL g l')
 |[],l',h=>by simp only [RVL]at h;simp [h,dullL,reflagL,RVL]
 |x::l,l',h=>by
  simp only [RVL]at h;obtain ⟨v,m,rfl,h1,h2⟩:=h;simp only [dullL,reflagL];exact qv.2 ⟨RV.dull' hg hs x v h1,RVL.dull' hg hs l m h2⟩
end
mutual
theorem RV.qpV{g:Fl->Fl}(hg:∀f,g f=.own↔f=.own)(hs:g .shared=.shared):∀(x:TV) (v:V),RV x v->RV x (v.reflag g)
 |.any rs,v,h=>by simp only [RV]at h ⊢;rw [qfO];exact ⟨h.1,qdW h.2⟩
 |.t τ o x,v,h=>by simp only [RV]at h ⊢;exact qk8 hg hs τ o x v h
 |.clp τ x,v,h=>by
  simp only [RV]at h ⊢;obtain ⟨f,l',rfl,h0,h⟩:=h;refine ⟨g f,reflagL g l',by simp [V.reflag],λe=>h0 ((hg f).1 e),?_⟩;rw [qaA];exact h.map λa b hab=>qk8 hg hs τ _ a b hab
 |.room a s,v,h=>by
  simp only [RV]at h ⊢;obtain ⟨h1,n,rfl,h0⟩|⟨h1,rfl|⟨f,hf0,rfl⟩⟩:=h
  ·exact .inl ⟨h1,n,by simp only [V.reflag,if_pos ((hg .own).2 rfl)],h0⟩
  ·exact .inr ⟨h1,.inl rfl⟩
  ·exact .inr ⟨h1,.inr ⟨g f,λe=>hf0 ((hg f).1 e),by simp [V.reflag,reflagL]⟩⟩
 |.empty o,v,h=>by simp only [RV]at h ⊢;obtain ⟨f,c,rfl,h0⟩:=h;exact ⟨g f,c,by simp [V.reflag,reflagL],⟨λh2=>by rw [hg f];exact h0.1 h2,λh1=>by rw [h0.2 h1];exact hs⟩⟩
 |.val u,v,h=>by simp only [RV]at h ⊢;simp [h,V.reflag]
 |.agg l,v,h=>by simp only [RV]at h ⊢;obtain ⟨l',rfl,h⟩:=h;exact ⟨_,by simp only [V.reflag],RVL.qpV hg hs l l' h⟩
 |.tuple l,v,h=>by simp only [RV]at h ⊢;obtain ⟨l',rfl,h⟩:=h;exact ⟨_,by simp only [V.reflag],RVL.qpV hg hs l l' h⟩
 |.fn g' a b,v,h=>by simp only [RV]at h ⊢;obtain ⟨a',b',rfl,h1,h2⟩:=h;exact ⟨_,_,by simp only [V.reflag],RVL.qpV hg hs a a' h1,RVL.qpV hg hs b b' h2⟩
 |.ptr q o,v,h=>by simp only [RV]at h ⊢;simp [h,V.reflag]
 |.mref q,v,h=>by simp only [RV]at h ⊢;simp [h,V.reflag]
 |.bsl q _ _,v,h=>by simp only [RV]at h ⊢;simp [h,V.reflag]
 |.yld q,v,h=>by simp only [RV]at h ⊢;simp [h,V.reflag]
 |.lp ..,v,h=>by simp only [RV]at h
 |.cptr s l,v,h=>by simp only [RV]at h ⊢;obtain ⟨f,l',rfl,h0,hsh,h⟩:=h;exact ⟨g f,_,by simp only [V.reflag],λe=>h0 ((hg f).1 e),λe=>(by rw [hsh e];exact hs),RVL.qpV hg hs l l' h⟩
 |.iface t x,v,h=>by simp only [RV]at h ⊢;obtain ⟨y,rfl,h⟩:=h;exact ⟨_,by simp only [V.reflag],RV.qpV hg hs x y h⟩
theorem RVL.qpV{g:Fl->Fl}(hg:∀f,g f=.own↔f=.own)(hs:g .shared=.shared):∀(l:List TV) (l':List V),RVL l l'->RVL l (reflagL g l')
 |[],l',h=>by simp only [RVL]at h;simp [h,reflagL,RVL]
 |x::l,l',h=>by
  simp only [RVL]at h;obtain ⟨v,m,rfl,h1,h2⟩:=h;simp only [reflagL];exact qv.2 ⟨RV.qpV hg hs x v h1,RVL.qpV hg hs l m h2⟩
end
theorem qlF(f:Fl):qV f≠.own:=by cases f<;>simp [qV]
theorem RV.q6{x:TV}{v:V}(h:RV x v):RV x.q6 v.q6:=RV.dull' qlF rfl x v h
theorem RVL.q6{l:List TV}{l':List V}(h:RVL l l'):RVL (dullL l) (reflagL qV l'):=RVL.dull' qlF rfl l l' h
theorem RVL.qr5{g:Fl->Fl}(hg:∀f,g f≠.own)(hs:g .shared=.shared){l:List TV}{l':List V}(h:RVL l l'):RVL (dullL l) (l'.map (V.reflag g)):=by
 rw [<- qaA];exact RVL.dull' hg hs l l' h
theorem qua{l:List V}:ownsL l=true↔∃v∈l,v.owns=true:=by
 induction l with
 |nil=>simp [ownsL]
 |cons v l ih=>simp [ownsL,ih]
theorem qil{α β:Type}{R:α->β->Prop}{l:List α}{l':List β}(h:All2 R l l'):∀b∈l',∃a∈l,R a b:=by
 induction h with
 |nil=>simp
 |cons h1 _ ih =>
  intro b hb;rcases qk.1 hb with rfl|hb
  ·exact ⟨_,by simp,h1⟩
  ·obtain ⟨a,ha,hr⟩:=ih b hb;exact ⟨a,by simp [ha],hr⟩
theorem qk9:∀(τ:Ty) (o:Nat) (x:τ.den) (v:V),RTy τ o x v->v.owns=true->(qaY o=true\/o=2000)/\0<τ.depth
 |.int _,_,_,v,h,ho=>by simp only [RTy]at h;simp [h,V.owns]at ho
 |.bool,_,_,v,h,ho=>by simp only [RTy]at h;simp [h,V.owns]at ho
 |.str,_,_,v,h,ho=>by simp only [RTy]at h;simp [h,V.owns]at ho
 |.flt,_,_,v,h,ho=>by simp only [RTy]at h;obtain ⟨b9,rfl,h9⟩:=h;simp [V.owns]at ho
 |.cx,_,_,v,h,ho=>by simp only [RTy]at h;obtain ⟨a9,b9,rfl,h8,h9⟩:=h;simp [V.owns]at ho
 |.err,_,_,v,h,ho=>by simp only [RTy]at h;rcases h with ⟨_,rfl⟩|⟨_,t9,rfl⟩<;>simp [V.owns]at ho
 |.mset _,_,_,v,h,ho=>by simp only [RTy]at h;obtain ⟨h8,rfl⟩:=h;simp [V.owns]at ho
 |.sl t,o,l,v,h,ho=>by
  simp only [RTy]at h;obtain ⟨f,c,l',rfl,hf,h⟩:=h;simp only [V.owns,Bool.or_eq_true,decide_eq_true_eq]at ho;simp only [Ty.depth];refine ⟨?_,by omega⟩;by_cases h2:o=2000
  ·exact .inr h2
  left
  rcases ho with ho|ho
  ·exact (hf.1 h2).1 ho
  ·obtain ⟨b,hb,hbo⟩:=qua.1 ho;obtain ⟨a,_,hr⟩:=qil h b hb;have:=(qk9 t _ a b hr hbo).1;cases hno:qaY o with
   |true=>rfl
   |false =>
    unfold nx at this;rw [hno]at this;simp only [qf,if_false,hno,false_or]at this;exact absurd this h2
 |.unit,_,_,v,h,ho=>by simp only [RTy]at h;simp [h,V.owns,ownsL]at ho
 |.pair a b,o,x,v,h,ho=>by
  simp only [RTy]at h;obtain ⟨v1,l,rfl,h1,h2⟩:=h;simp only [V.owns,ownsL,Bool.or_eq_true]at ho;simp only [Ty.depth];rcases ho with ho|ho
  ·have:=qk9 a o _ _ h1 ho;exact ⟨this.1,by omega⟩
  ·have:=qk9 b o _ _ h2 (by simpa only [V.owns]using ho);exact ⟨this.1,by omega⟩
mutual
theorem RV.owns:∀(x:TV) (v:V),RV x v->v.owns=true->x.owns=true
 |.any rs,v,h,ho=>by simp [TV.owns]
 |.t τ o x,v,h,ho=>by simp only [RV]at h;have:=qk9 τ o x v h ho;simpa [TV.owns]using this
 |.clp τ x,v,h,ho=>by
  simp only [RV]at h;obtain ⟨f,l',rfl,hf,h⟩:=h;simp only [V.owns,Bool.or_eq_true,decide_eq_true_eq]at ho;rcases ho with ho|ho
  ·exact absurd ho hf
  ·obtain ⟨b,hb,hbo⟩:=qua.1 ho;obtain ⟨a,_,hr⟩:=qil h b hb;have:=(qk9 τ _ a b hr hbo).1;simp [qaY]at this
 |.room a s,v,h,ho=>rfl
 |.empty o,v,h,ho=>by
  simp only [RV]at h;obtain ⟨f,c,rfl,hf⟩:=h;simp only [V.owns,ownsL,Bool.or_false,decide_eq_true_eq]at ho;simp only [TV.owns,Bool.or_eq_true,decide_eq_true_eq];by_cases h2:o=2000
  ·exact .inr h2
  ·exact .inl ((hf.1 h2).1 ho)
 |.val u,v,h,ho=>by simp only [RV]at h;simp [h,V.owns]at ho
 |.agg l,v,h,ho=>by simp only [RV]at h;obtain ⟨l',rfl,h⟩:=h;simp only [V.owns,TV.owns]at ho ⊢;exact RVL.owns l l' h ho
 |.tuple l,v,h,ho=>by simp only [RV]at h;obtain ⟨l',rfl,h⟩:=h;simp only [V.owns,TV.owns]at ho ⊢;exact RVL.owns l l' h ho
 |.fn g a b,v,h,ho=>by
  simp only [RV]at h;obtain ⟨a',b',rfl,h1,h2⟩:=h;simp only [V.owns,TV.owns,Bool.or_eq_true]at ho ⊢;exact ho.imp (RVL.owns a a' h1) (RVL.owns b b' h2)
 |.ptr q o,v,h,ho=>by simp only [RV]at h;simp [h,V.owns]at ho
 |.mref q,v,h,ho=>by simp only [RV]at h;simp [h,V.owns]at ho
 |.bsl q _ _,v,h,ho=>by simp only [RV]at h;simp [h,V.owns]at ho
 |.yld q,v,h,ho=>by simp only [RV]at h;simp [h,V.owns]at ho
 |.lp ..,v,h,ho=>by simp only [RV]at h
 |.cptr _ l,v,h,ho=>by simp only [RV]at h;obtain ⟨f,l',rfl,h0,_,h⟩:=h;simp only [V.owns,TV.owns,h0,decide_false,Bool.false_or]at ho ⊢;exact RVL.owns l l' h ho
 |.iface t x,v,h,ho=>by simp only [RV]at h;obtain ⟨y,rfl,h⟩:=h;simp only [V.owns,TV.owns]at ho ⊢;exact RV.owns x y h ho
theorem RVL.owns:∀(l:List TV) (l':List V),RVL l l'->ownsL l'=true->ownsTL l=true
 |[],l',h,ho=>by simp only [RVL]at h;simp [h,ownsL]at ho
 |x::l,l',h,ho=>by
  simp only [RVL]at h;obtain ⟨v,m,rfl,h1,h2⟩:=h;simp only [ownsL,ownsTL,Bool.or_eq_true]at ho ⊢;exact ho.imp (RV.owns x v h1) (RVL.owns l m h2)
end
theorem qAZ{τ:Ty}(h1:τ.one=true){o:Nat}{x:τ.den}{v:V}(h:RTy τ o x v):v.one=true:=by
 cases τ with
 |unit=>simp [Ty.one]at h1
 |pair a b=>simp [Ty.one]at h1
 |sl t=>simp only [RTy]at h;obtain ⟨f,c,l',rfl,_⟩:=h;rfl
 |flt=>simp only [RTy]at h;obtain ⟨b9,rfl,_⟩:=h;rfl
 |cx=>simp only [RTy]at h;obtain ⟨a9,b9,rfl,_⟩:=h;rfl
 |err=>simp only [RTy]at h;rcases h with ⟨_,rfl⟩|⟨_,t9,rfl⟩<;>rfl
 |mset t=>simp [Ty.one]at h1
 |_=>simp only [RTy]at h;subst h;rfl
theorem RV.one{x:TV}{v:V}(h1:x.one=true)(h:RV x v):v.one=true:=by
 cases x with
 |any rs=>simp [TV.one]at h1
 |t τ o x=>simp only [RV]at h;exact qAZ h1 h
 |clp τ x=>simp only [RV]at h;obtain ⟨f,l',rfl,_⟩:=h;rfl
 |room a s=>simp [TV.one]at h1
 |empty own=>simp only [RV]at h;obtain ⟨f,c,rfl,_⟩:=h;rfl
 |val u=>simp only [RV]at h;subst h;exact h1
 |agg l=>simp [TV.one]at h1
 |tuple l=>simp [TV.one]at h1
 |fn g a b=>simp only [RV]at h;obtain ⟨a',b',rfl,_⟩:=h;rfl
 |ptr r o=>simp only [RV]at h;subst h;rfl
 |mref r=>simp only [RV]at h;subst h;rfl
 |bsl r o n=>simp only [RV]at h;subst h;rfl
 |yld r=>simp only [RV]at h;subst h;rfl
 |lp s pe g env ps a b=>simp only [RV]at h
 |cptr _ l=>simp only [RV]at h;obtain ⟨_,l',rfl,_⟩:=h;rfl
 |iface t x=>simp only [RV]at h;obtain ⟨y,rfl,_⟩:=h;rfl
theorem qzu{v:V}(h:v.one=true):v.cells=[v]:=by cases v<;>first|rfl|simp [V.one]at h
theorem RVL.qFR:∀{l:List TV} {l':List V},l.all TV.one=true->RVL l l'->l'.all V.one=true
 |[],l',_,h=>by simp only [RVL]at h;simp [h]
 |x::l,l',h1,h=>by
  simp only [RVL]at h;obtain ⟨v,m,rfl,h2,h3⟩:=h;simp only [List.all_cons,qe]at h1 ⊢;exact ⟨RV.one h1.1 h2,RVL.qFR h1.2 h3⟩
theorem RV.cells{x:TV}{v:V}(hk:x.oks=true)(h:RV x v):RVL x.cells v.cells/\v.oks=true:=by
 by_cases hx:∃l,x=.agg l
 ·obtain ⟨l,rfl⟩:=hx;simp only [RV]at h;obtain ⟨l',rfl,h⟩:=h;simp only [TV.oks,TV.cells]at hk;exact ⟨h,RVL.qFR hk h⟩
 ·have hc:x.cells=[x]:=by cases x<;>first|rfl|exact absurd ⟨_,rfl⟩ hx
  have h1:x.one=true:=by simpa [TV.oks,hc]using hk
  have hv:=RV.one h1 h;have hcv:=qzu hv;rw [hc,hcv];exact ⟨qv.2 ⟨h,q5⟩,by simp [V.oks,hcv,hv]⟩
theorem qe1{c:List V}(h1:qae c=false)(h2:qhk c=false):qfy c=false:=by
 cases c with
 |nil=>rfl
 |cons x l=>cases x<;>first|rfl|(simp [qae]at h1;done)|(simp [qhk]at h2)
theorem qaD{l:List TV}{l':List V}(h:RVL l l'):qae l'=false:=by
 cases l with
 |nil=>simp only [RVL]at h;simp [h,qae]
 |cons x l =>
  simp only [RVL]at h;obtain ⟨v,m,rfl,h1,_⟩:=h;cases v with
  |lp s pe g env ps a b =>
   exfalso
   cases x with
   |any rs=>simp [RV,qae]at h1
   |t τ o x =>
    cases τ<;>simp [RV,RTy]at h1
   |lp=>simp only [RV]at h1
   |_=>simp [RV]at h1
  |_=>rfl
mutual
theorem rv_ofTy:∀(τ:Ty) (o:Nat) (x:τ.den) (v:V),RTy τ o x v->RV (ofTy τ o x) v
 |.int _,_,_,v,h=>by simpa only [ofTy,RV]using h
 |.bool,_,_,v,h=>by simpa only [ofTy,RV]using h
 |.str,_,_,v,h=>by simpa only [ofTy,RV]using h
 |.flt,_,_,v,h=>by simpa only [ofTy,RV]using h
 |.cx,_,_,v,h=>by simpa only [ofTy,RV]using h
 |.err,_,_,v,h=>by simpa only [ofTy,RV]using h
 |.mset _,_,_,v,h=>by simpa only [ofTy,RV]using h
 |.sl t,o,l,v,h=>by simpa only [ofTy,RV]using h
 |.unit,_,_,v,h=>by simp only [RTy]at h;simp [h,ofTy,RV,RVL]
 |.pair a b,o,x,v,h=>by
  simp only [RTy]at h;obtain ⟨v1,l,rfl,h1,h2⟩:=h;simp only [ofTy,RV];exact ⟨_,rfl,qv.2 ⟨rv_ofTy a o _ _ h1,rv_ofTyC b o _ l h2⟩⟩
theorem rv_ofTyC:∀(τ:Ty) (o:Nat) (x:τ.den) (l:List V),RTy τ o x (.agg l)->RVL (ofTyC τ o x) l
 |.int _,_,_,l,h=>by simp [RTy]at h
 |.bool,_,_,l,h=>by simp [RTy]at h
 |.str,_,_,l,h=>by simp [RTy]at h
 |.flt,_,_,l,h=>by simp [RTy]at h
 |.cx,_,_,l,h=>by simp [RTy]at h
 |.err,_,_,l,h=>by simp [RTy]at h
 |.mset _,_,_,l,h=>by simp [RTy]at h
 |.sl t,o,x,l,h=>by simp [RTy]at h
 |.unit,_,_,l,h=>by simp only [RTy,V.agg.injEq]at h;simp [h,ofTyC,RVL]
 |.pair a b,o,x,l,h=>by
  simp only [RTy,V.agg.injEq]at h;obtain ⟨v1,m,rfl,h1,h2⟩:=h;simp only [ofTyC];exact qv.2 ⟨rv_ofTy a o _ _ h1,rv_ofTyC b o _ m h2⟩
end
theorem qw5{τ:Ty}(h:τ.one=true)(o:Nat)(x:τ.den):(ofTy τ o x).one=true:=by cases τ<;>first|rfl|simp [Ty.one]at h
theorem qqI:∀(τ:Ty),τ.qpq=true->∀(o:Nat) (x:τ.den),(ofTyC τ o x).all TV.one=true
 |.unit,_,o,x=>rfl
 |.pair a b,h,o,x=>by
  simp only [Ty.qpq,qe]at h;simp only [ofTyC,List.all_cons,qe];exact ⟨qw5 h.1 o _,qqI b h.2 o _⟩
 |.int _,h,_,_|.bool,h,_,_|.str,h,_,_|.flt,h,_,_|.cx,h,_,_|.err,h,_,_|.mset _,h,_,_|.sl _,h,_,_=>by simp [Ty.qpq]at h
theorem qsd{τ:Ty}(h:τ.qbY=true)(o:Nat)(x:τ.den):(ofTy τ o x).oks=true:=by
 cases τ with
 |unit=>rfl
 |pair a b =>
  simp only [Ty.qbY,qe]at h;simp only [ofTy,TV.oks,TV.cells,List.all_cons,qe];exact ⟨qw5 h.1 o _,qqI b h.2 o _⟩
 |mset t=>simp [Ty.qbY]at h
 |_=>rfl
theorem qmJ:∀(τ:Ty),τ.qpq=true->∀(o:Nat) (x:τ.den),(ofTyC τ o x).length=τ.qba
 |.unit,_,o,x=>rfl
 |.pair a b,h,o,x=>by
  simp only [Ty.qpq,qe]at h;simp [ofTyC,Ty.qba,qmJ b h.2 o x.2]
 |.int _,h,_,_|.bool,h,_,_|.str,h,_,_|.flt,h,_,_|.cx,h,_,_|.err,h,_,_|.mset _,h,_,_|.sl _,h,_,_=>by simp [Ty.qpq]at h
theorem qvG{τ:Ty}(h:τ.qbY=true)(o:Nat)(x:τ.den):(ofTy τ o x).cells.length=τ.qba:=by
 cases τ with
 |unit=>rfl
 |pair a b =>
  simp only [Ty.qbY,qe]at h;simp [ofTy,TV.cells,Ty.qba,qmJ b h.2 o x.2]
 |_=>rfl
theorem qmc{τ:Ty}(h:τ.qbY=true){o:Nat}{x:τ.den}{v:V}(hr:RTy τ o x v):v.cells.length=τ.qba/\v.oks=true:=by
 obtain ⟨h1,h2⟩:=RV.cells (qsd h o x) (rv_ofTy τ o x v hr);exact ⟨by rw [h1.length,qvG h],h2⟩
theorem qvh:∀{d d':Nat} {o' o:Nat},d'<=d->fits d o' o=true->fits d' o' o=true
 |_,0,_,_,_,_=>rfl
 |0,d'+1,_,_,h,_=>by omega
 |d+1,d'+1,o',o,h,hf=>by
  simp only [fits,Bool.or_eq_true,qe]at hf ⊢;exact hf.imp id λhf=>⟨hf.1,qvh (by omega) hf.2⟩
theorem qwG{o' o d:Nat}{f:Fl}(h:fits (d+1) o' o=true)(hf:FlR o' f):FlR o f/\(o=2000\/fits d (nx o') (nx o)=true):=by
 simp only [fits,Bool.or_eq_true,qe,decide_eq_true_eq,beq_iff_eq,Bool.not_eq_true',decide_eq_false_iff_not]at h;rcases h with rfl|⟨⟨⟨h1,h2⟩,h3⟩,h4⟩
 ·exact ⟨⟨λh=>absurd rfl h,λh=>by cases h⟩,.inl rfl⟩
 ·exact ⟨⟨λ_=>by rw [hf.1 h2,h1],λh=>hf.2 (h3.resolve_left λh5=>h5 h)⟩,.inr h4⟩
theorem qtd:∀(d o:Nat),fits d o 2000=true
 |0,_=>rfl
 |d+1,o=>by simp [fits]
theorem qh6:∀(τ:Ty) (o o':Nat) (x:τ.den) (v:V),fits τ.depth o o'=true->RTy τ o x v->RTy τ o' x v
 |.int _,_,_,_,v,_,h=>by simpa only [RTy]using h
 |.bool,_,_,_,v,_,h=>by simpa only [RTy]using h
 |.str,_,_,_,v,_,h=>by simpa only [RTy]using h
 |.flt,_,_,_,v,_,h=>by simpa only [RTy]using h
 |.cx,_,_,_,v,_,h=>by simpa only [RTy]using h
 |.err,_,_,_,v,_,h=>by simpa only [RTy]using h
 |.mset _,_,_,_,v,_,h=>by simpa only [RTy]using h
 |.unit,_,_,_,v,_,h=>by simpa only [RTy]using h
 |.sl t,o,o',l,v,hm,h=>by
  simp only [Ty.depth]at hm;simp only [RTy]at h ⊢;obtain ⟨f,c,l',rfl,hf,h⟩:=h;obtain ⟨h1,h2⟩:=qwG hm hf;refine ⟨f,c,l',rfl,h1,h.mono λa b hab=>qh6 t _ _ a b ?_ hab⟩;rcases h2 with rfl|h2
  ·exact qtd _ _
  ·exact h2
 |.pair a b,o,o',x,v,hm,h=>by
  simp only [Ty.depth]at hm;simp only [RTy]at h ⊢;obtain ⟨v1,l,rfl,h3,h4⟩:=h;exact ⟨v1,l,rfl,qh6 a _ _ _ _ (qvh (by omega) hm) h3,qh6 b _ _ _ _ (qvh (by omega) hm) h4⟩
theorem qc5:∀(τ:Ty) (o:Nat) (w:TV) (x:τ.den) (v:V),qg8 τ o w=some x->RV w v->RTy τ o x v:=by
 have dflt:∀(τ:Ty) (o:Nat) (τ':Ty) (o':Nat) (y:τ'.den) (x:τ.den) (v:V),(if h:τ'=τ then (if fits τ.depth o' o=true then some (cast' h y)else none)else none)=some x->RTy τ' o' y v->RTy τ o x v:=by
  intro τ o τ' o' y x v h hr;split at h
  ·rename_i he;split at h
   ·rename_i hm;simp only [qb]at h;subst h;subst he;exact qh6 _ _ _ _ _ hm hr
   ·cases h
  ·cases h
 intro τ;induction τ with
 |int k =>
  intro o w x v h hr;cases w<;>simp only [qg8]at h<;>first|cases h|exact dflt _ _ _ _ _ _ _ h (by simpa only [RV]using hr)
 |bool =>
  intro o w x v h hr;cases w<;>simp only [qg8]at h<;>first|cases h|exact dflt _ _ _ _ _ _ _ h (by simpa only [RV]using hr)
 |str =>
  intro o w x v h hr;cases w<;>simp only [qg8]at h<;>first|cases h|exact dflt _ _ _ _ _ _ _ h (by simpa only [RV]using hr)
 |flt =>
  intro o w x v h hr;cases w<;>simp only [qg8]at h<;>first|cases h|exact dflt _ _ _ _ _ _ _ h (by simpa only [RV]using hr)
 |cx =>
  intro o w x v h hr;cases w<;>simp only [qg8]at h<;>first|cases h|exact dflt _ _ _ _ _ _ _ h (by simpa only [RV]using hr)
 |err =>
  intro o w x v h hr;cases w<;>simp only [qg8]at h<;>first|cases h|exact dflt _ _ _ _ _ _ _ h (by simpa only [RV]using hr)
 |mset t =>
  intro o w x v h hr;cases w<;>simp only [qg8]at h<;>first|cases h|exact dflt _ _ _ _ _ _ _ h (by simpa only [RV]using hr)
 |sl t ih =>
  intro o w x v h hr;cases w with
  |empty own =>
   simp only [qg8]at h;split at h
   ·rename_i ho;simp only [qb]at h;subst h;simp only [RV]at hr;obtain ⟨f,c,rfl,hf⟩:=hr;simp only [RTy];exact ⟨f,c,[],rfl,(qwG ho hf).1,.nil⟩
   ·cases h
  |t τ' o' y=>simp only [qg8]at h;exact dflt _ _ _ _ _ _ _ h (by simpa only [RV]using hr)
  |_=>simp [qg8]at h
 |unit =>
  intro o w x v h hr;cases w with
  |agg l =>
   cases l with
   |nil=>simp only [RV]at hr;obtain ⟨l',rfl,h1⟩:=hr;simp only [RVL]at h1;simp [RTy,h1]
   |cons=>simp [qg8]at h
  |t τ' o' y=>simp only [qg8]at h;exact dflt _ _ _ _ _ _ _ h (by simpa only [RV]using hr)
  |_=>simp [qg8]at h
 |pair a b iha ihb =>
  intro o w x v h hr;cases w with
  |agg l =>
   cases l with
   |nil=>simp [qg8]at h
   |cons u l =>
    simp only [qg8]at h;obtain ⟨y,hy,h⟩:=qd.1 h;obtain ⟨z,hz,h⟩:=qd.1 h;simp only [qb]at h;subst h;simp only [RV]at hr;obtain ⟨l',rfl,hl⟩:=hr;simp only [RVL]at hl;obtain ⟨v1,m,rfl,h1,h2⟩:=hl;simp only [RTy];exact ⟨v1,m,rfl,iha _ _ _ _ hy h1,ihb _ _ _ _ hz (by simp only [RV];exact ⟨m,rfl,h2⟩)⟩
  |t τ' o' y=>simp only [qg8]at h;exact dflt _ _ _ _ _ _ _ h (by simpa only [RV]using hr)
  |_=>simp [qg8]at h
theorem qww:∀(ps:List (Ty×Nat)) (l:List TV) (x:denL (ps.map (·.1))) (l':List V),asL ps l=some x->RVL l l'->RVL (ofL ps x) l'
 |[],l,x,l',h,hr=>by
  cases l with
  |nil=>simpa [ofL]using hr
  |cons=>simp [asL]at h
 |[(τ,o)],l,x,l',h,hr=>by
  match l,h,hr with
  |[v],h,hr =>
   simp only [asL]at h;simp only [RVL]at hr;obtain ⟨u,m,rfl,h1,rfl⟩:=hr;simp only [ofL];exact qv.2 ⟨rv_ofTy _ _ _ _ (qc5 _ _ _ _ _ h h1),q5⟩
  |[],h,hr=>simp [asL]at h
  |_::_::_,h,hr=>simp [asL]at h
 |(τ,o)::q::ps,l,x,l',h,hr=>by
  match l,h,hr with
  |[],h,hr=>simp [asL]at h
  |v::l,h,hr =>
   simp only [asL]at h;obtain ⟨y,hy,h⟩:=qd.1 h;obtain ⟨z,hz,h⟩:=qd.1 h;simp only [qb]at h;subst h;simp only [RVL]at hr;obtain ⟨u,m,rfl,h1,h2⟩:=hr;simp only [ofL];exact qv.2 ⟨rv_ofTy _ _ _ _ (qc5 _ _ _ _ _ hy h1),qww (q::ps) l _ _ hz h2⟩
theorem qwv{τ:Ty}{o:Nat}:∀(l:List TV) (x:List τ.den) (l':List V),qzh τ o l=some x->RVL l l'->All2 (RTy τ o) x l'
 |[],x,l',h,hr=>by simp only [qzh,qb]at h;simp only [RVL]at hr;subst h;subst hr;exact .nil
 |v::l,x,l',h,hr=>by
  simp only [qzh]at h;obtain ⟨y,hy,h⟩:=qd.1 h;obtain ⟨z,hz,h⟩:=qd.1 h;simp only [qb]at h;subst h;simp only [RVL]at hr;obtain ⟨u,m,rfl,h1,h2⟩:=hr;exact .cons (qc5 _ _ _ _ _ hy h1) (qwv l _ _ hz h2)
theorem qsq(p:Bool)(u:Value):RV (qmT p u) (qcJ p u):=by
 unfold qmT qcJ;split
 ·simp [RV,RTy]
 ·simp [RV,RTy]
 ·simp [RV,RTy]
 ·simp only [RV,RTy];exact ⟨0,rfl,Fl.qrH⟩
 ·simp only [RV,RTy];exact ⟨0,0,rfl,Fl.qrH,Fl.qrH⟩
 ·cases p
  ·simp only [RV,qeR,qf,if_false];exact ⟨_,_,rfl,qfi rfl⟩
  ·simp [RV,qeR]
 ·rename_i h1 h2 h3 h4 h5 h6;split
  ·exact absurd rfl h6
  ·simp [RV]
theorem qvY{g:Value->TV}{h:Value->V}(hr:∀u,RV (g u) (h u)):∀l:List Value,RVL (l.map g) (l.map h)
 |[]=>q5
 |u::l=>qv.2 ⟨hr u,qvY hr l⟩
theorem qxi(p:Bool)(u:Value):RV (qn8 p u) (ofConst p u):=by
 have key:=qsq p u;cases u<;>first|exact key|(simp only [qn8,ofConst,RV];exact ⟨_,rfl,qvY (qsq p) _⟩)
theorem qgm:∀(τ:Ty) (o:Nat) (x:τ.den) (v:V),RTy τ o x v->RTy τ 1000 x (v.reflag qK)
 |.int _,_,_,v,h=>by simp only [RTy]at h ⊢;simp [h,V.reflag]
 |.bool,_,_,v,h=>by simp only [RTy]at h ⊢;simp [h,V.reflag]
 |.str,_,_,v,h=>by simp only [RTy]at h ⊢;simp [h,V.reflag]
 |.flt,_,_,v,h=>by simp only [RTy]at h ⊢;obtain ⟨b9,rfl,h9⟩:=h;exact ⟨b9,by simp [V.reflag],h9⟩
 |.cx,_,_,v,h=>by simp only [RTy]at h ⊢;obtain ⟨a9,b9,rfl,h8,h9⟩:=h;exact ⟨a9,b9,by simp [V.reflag],h8,h9⟩
 |.err,_,_,v,h=>by simp only [RTy]at h ⊢;rcases h with ⟨hx,rfl⟩|⟨hx,t9,rfl⟩;exact .inl ⟨hx,by simp [V.reflag]⟩;exact .inr ⟨hx,t9,by simp [V.reflag]⟩
 |.mset _,_,_,v,h=>by simp only [RTy]at h ⊢;obtain ⟨h8,rfl⟩:=h;exact ⟨h8,by simp [V.reflag]⟩
 |.sl t,o,l,v,h=>by
  simp only [RTy]at h ⊢;obtain ⟨f,c,l',rfl,_,h⟩:=h;refine ⟨.shared,c,reflagL qK l',by simp [V.reflag,qK],qhb rfl (by simp) (λ_=>rfl),?_⟩;rw [qaA];exact h.map λa b hab=>qgm t _ a b hab
 |.unit,_,_,v,h=>by simp only [RTy]at h ⊢;simp [h,V.reflag,reflagL]
 |.pair a b,o,x,v,h=>by
  simp only [RTy]at h ⊢;obtain ⟨v1,l,rfl,h1,h2⟩:=h;refine ⟨v1.reflag qK,reflagL qK l,by simp [V.reflag,reflagL],qgm a o _ _ h1,?_⟩;have:=qgm b o _ _ h2;simpa only [V.reflag]using this
mutual
theorem RV.share:∀(x:TV) (v:V),RV x v->RV x.share (v.reflag qK)
 |.any rs,v,h=>by simp only [TV.share,RV]at h ⊢;rw [qfO];exact ⟨h.1,qdW h.2⟩
 |.t τ o x,v,h=>by simp only [TV.share,RV]at h ⊢;exact qgm τ o x v h
 |.clp τ x,v,h=>by
  simp only [TV.share,RV,RTy]at h ⊢;obtain ⟨f,l',rfl,_,h⟩:=h;refine ⟨.shared,true,reflagL qK l',by simp [V.reflag,qK],qhb rfl (by simp) (λ_=>rfl),?_⟩;rw [qaA];exact h.map λa b hab=>qgm τ _ a b hab
 |.room a s,v,h=>by
  simp only [RV]at h;rcases a with _|a
  ·obtain ⟨_,n,rfl,h0⟩|⟨h9,_⟩:=h
   ·obtain rfl:=h0 rfl;simp only [TV.share,RV,V.reflag,qK];exact ⟨.shared,false,by simp,qhb rfl (by simp) (λ_=>rfl)⟩
   ·omega
  ·simp only [TV.share,RV];refine .inr ⟨Nat.le_refl _,?_⟩;obtain ⟨_,n,rfl,_⟩|⟨_,rfl|⟨f,hf0,rfl⟩⟩:=h
   ·by_cases hn:n=0
    ·exact .inr ⟨.shared,by simp,by simp [V.reflag,qK,hn]⟩
    ·exact .inl (by simp [V.reflag,qK,hn])
   ·exact .inl rfl
   ·exact .inr ⟨.shared,by simp,by simp [V.reflag,reflagL,qK]⟩
 |.empty own,v,h=>by simp only [TV.share,RV]at h ⊢;obtain ⟨f,c,rfl,_⟩:=h;exact ⟨.shared,c,by simp [V.reflag,reflagL,qK],qhb rfl (by simp) (λ_=>rfl)⟩
 |.val u,v,h=>by simp only [TV.share,RV]at h ⊢;simp [h,V.reflag]
 |.agg l,v,h=>by simp only [TV.share,RV]at h ⊢;obtain ⟨l',rfl,h⟩:=h;exact ⟨_,by simp only [V.reflag],RVL.share l l' h⟩
 |.tuple l,v,h=>by simp only [TV.share,RV]at h ⊢;obtain ⟨l',rfl,h⟩:=h;exact ⟨_,by simp only [V.reflag],RVL.share l l' h⟩
 |.fn g' a b,v,h=>by simp only [TV.share,RV]at h ⊢;obtain ⟨a',b',rfl,h1,h2⟩:=h;exact ⟨_,_,by simp only [V.reflag],RVL.share a a' h1,RVL.share b b' h2⟩
 |.ptr q o,v,h=>by simp only [TV.share,RV]at h ⊢;simp [h,V.reflag]
 |.mref q,v,h=>by simp only [TV.share,RV]at h ⊢;simp [h,V.reflag]
 |.bsl q _ _,v,h=>by simp only [TV.share,RV]at h ⊢;simp [h,V.reflag]
 |.yld q,v,h=>by simp only [TV.share,RV]at h ⊢;simp [h,V.reflag]
 |.lp ..,v,h=>by simp only [RV]at h
 |.cptr _ l,v,h=>by simp only [TV.share,RV]at h ⊢;obtain ⟨f,l',rfl,_,_,h⟩:=h;exact ⟨.shared,_,by simp only [V.reflag,qK],by simp,λ_=>rfl,RVL.share l l' h⟩
 |.iface t x,v,h=>by simp only [TV.share,RV]at h ⊢;obtain ⟨y,rfl,h⟩:=h;exact ⟨_,by simp only [V.reflag],RV.share x y h⟩
theorem RVL.share:∀(l:List TV) (l':List V),RVL l l'->RVL (shareL l) (reflagL qK l')
 |[],l',h=>by simp only [RVL]at h;simp [h,shareL,reflagL,RVL]
 |x::l,l',h=>by
  simp only [RVL]at h;obtain ⟨v,m,rfl,h1,h2⟩:=h;simp only [shareL,reflagL];exact qv.2 ⟨RV.share x v h1,RVL.share l m h2⟩
end
theorem qwS{o:Nat}:qaY (lo o)=qaY o:=by
 rw [Bool.eq_iff_iff,qeg,qeg];unfold lo;split<;>omega
theorem qFQ{o:Nat}:nx (lo o)=lo (nx o):=by
 have h1:=@qwS o;unfold nx;rw [h1];cases ho:qaY o with
 |false=>rfl
 |true =>
  have:=qeg.1 ho;simp only [if_true];unfold lo;split<;>split<;>omega
theorem qD9{o:Nat}:lo o=2000↔o=2000:=by unfold lo;split<;>omega
theorem qDn{g:Fl->Fl}(hg:∀f,g f=.own↔f=.own){o:Nat}{f:Fl}(h:FlR o f):FlR (lo o) (g f) :=
 ⟨λh2=>by rw [hg f,qwS];exact h.1 (λe=>h2 (qD9.2 e)),λh1=>by unfold lo at h1;split at h1<;>omega⟩
theorem qur{g:Fl->Fl}(hg:∀f,g f=.own↔f=.own):∀(τ:Ty) (o:Nat) (x:τ.den) (v:V),RTy τ o x v->RTy τ (lo o) x (v.reflag g)
 |.int _,_,_,v,h=>by simp only [RTy]at h ⊢;simp [h,V.reflag]
 |.bool,_,_,v,h=>by simp only [RTy]at h ⊢;simp [h,V.reflag]
 |.str,_,_,v,h=>by simp only [RTy]at h ⊢;simp [h,V.reflag]
 |.flt,_,_,v,h=>by simp only [RTy]at h ⊢;obtain ⟨b9,rfl,h9⟩:=h;exact ⟨b9,by simp [V.reflag],h9⟩
 |.cx,_,_,v,h=>by simp only [RTy]at h ⊢;obtain ⟨a9,b9,rfl,h8,h9⟩:=h;exact ⟨a9,b9,by simp [V.reflag],h8,h9⟩
 |.err,_,_,v,h=>by simp only [RTy]at h ⊢;rcases h with ⟨hx,rfl⟩|⟨hx,t9,rfl⟩;exact .inl ⟨hx,by simp [V.reflag]⟩;exact .inr ⟨hx,t9,by simp [V.reflag]⟩
 |.mset _,_,_,v,h=>by simp only [RTy]at h ⊢;obtain ⟨h8,rfl⟩:=h;exact ⟨h8,by simp [V.reflag]⟩
 |.sl t,o,l,v,h=>by
  simp only [RTy]at h ⊢;obtain ⟨f,c,l',rfl,hf,h⟩:=h;refine ⟨g f,c,reflagL g l',by simp [V.reflag],qDn hg hf,?_⟩;rw [qaA,qFQ];exact h.map λa b hab=>qur hg t _ a b hab
 |.unit,_,_,v,h=>by simp only [RTy]at h ⊢;simp [h,V.reflag,reflagL]
 |.pair a b,o,x,v,h=>by
  simp only [RTy]at h ⊢;obtain ⟨v1,l,rfl,h1,h2⟩:=h;refine ⟨v1.reflag g,reflagL g l,by simp [V.reflag,reflagL],qur hg a o _ _ h1,?_⟩;have:=qur hg b o _ _ h2;simpa only [V.reflag]using this
mutual
theorem RV.lo{g:Fl->Fl}(hg:∀f,g f=.own↔f=.own):∀(x:TV) (v:V),RV x v->RV x.qa9 (v.reflag g)
 |.any rs,v,h=>by simp only [TV.qa9,RV]at h ⊢;rw [qfO];exact ⟨h.1,qdW h.2⟩
 |.t τ o x,v,h=>by simp only [TV.qa9,RV]at h ⊢;exact qur hg τ o x v h
 |.clp τ x,v,h=>by
  simp only [TV.qa9,RV]at h ⊢;obtain ⟨f,l',rfl,h0,h⟩:=h;refine ⟨g f,reflagL g l',by simp [V.reflag],λe=>h0 ((hg f).1 e),?_⟩;rw [qaA];exact h.map λa b hab=>qur hg τ 0 a b hab
 |.room a s,v,h=>by
  simp only [TV.qa9,RV]at h ⊢;obtain ⟨h1,n,rfl,h0⟩|⟨h1,rfl|⟨f,hf0,rfl⟩⟩:=h
  ·exact .inl ⟨h1,n,by simp only [V.reflag,if_pos ((hg .own).2 rfl)],h0⟩
  ·exact .inr ⟨h1,.inl rfl⟩
  ·exact .inr ⟨h1,.inr ⟨g f,λe=>hf0 ((hg f).1 e),by simp [V.reflag,reflagL]⟩⟩
 |.empty own,v,h=>by simp only [TV.qa9,RV]at h ⊢;obtain ⟨f,c,rfl,h0⟩:=h;exact ⟨g f,c,by simp [V.reflag,reflagL],qDn hg h0⟩
 |.val u,v,h=>by simp only [TV.qa9,RV]at h ⊢;simp [h,V.reflag]
 |.agg l,v,h=>by simp only [TV.qa9,RV]at h ⊢;obtain ⟨l',rfl,h⟩:=h;exact ⟨_,by simp only [V.reflag],RVL.lo hg l l' h⟩
 |.tuple l,v,h=>by simp only [TV.qa9,RV]at h ⊢;obtain ⟨l',rfl,h⟩:=h;exact ⟨_,by simp only [V.reflag],RVL.lo hg l l' h⟩
 |.fn g' a b,v,h=>by simp only [TV.qa9,RV]at h ⊢;obtain ⟨a',b',rfl,h1,h2⟩:=h;exact ⟨_,_,by simp only [V.reflag],RVL.lo hg a a' h1,RVL.lo hg b b' h2⟩
 |.ptr q o,v,h=>by simp only [TV.qa9,RV]at h ⊢;simp [h,V.reflag]
 |.mref q,v,h=>by simp only [TV.qa9,RV]at h ⊢;simp [h,V.reflag]
 |.bsl q _ _,v,h=>by simp only [TV.qa9,RV]at h ⊢;simp [h,V.reflag]
 |.yld q,v,h=>by simp only [TV.qa9,RV]at h ⊢;simp [h,V.reflag]
 |.lp ..,v,h=>by simp only [RV]at h
 |.cptr _ l,v,h=>by simp only [TV.qa9,RV]at h ⊢;obtain ⟨f,l',rfl,h0,_,h⟩:=h;exact ⟨g f,_,by simp only [V.reflag],λe=>h0 ((hg f).1 e),λe=>(by cases e),RVL.lo hg l l' h⟩
 |.iface t x,v,h=>by simp only [TV.qa9,RV]at h ⊢;obtain ⟨y,rfl,h⟩:=h;exact ⟨_,by simp only [V.reflag],RV.lo hg x y h⟩
theorem RVL.lo{g:Fl->Fl}(hg:∀f,g f=.own↔f=.own):∀(l:List TV) (l':List V),RVL l l'->RVL (loosenL l) (reflagL g l')
 |[],l',h=>by simp only [RVL]at h;simp [h,loosenL,reflagL,RVL]
 |x::l,l',h=>by
  simp only [RVL]at h;obtain ⟨v,m,rfl,h1,h2⟩:=h;simp only [loosenL,reflagL];exact qv.2 ⟨RV.lo hg x v h1,RVL.lo hg l m h2⟩
end
mutual
theorem reflag_id:∀v:V,v.reflag (λf=>f)=v
 |.undef|.val _|.ptr .. | .yld _|.mref _|.bsl .. | .mp _|.lp ..=>by simp [V.reflag]
 |.cptr _ l=>by simp only [V.reflag,reflagL_id l]
 |.room ..=>by simp [V.reflag]
 |.sl f c l=>by simp only [V.reflag,reflagL_id l]
 |.fn g a b=>by simp only [V.reflag,reflagL_id a,reflagL_id b]
 |.iface t x=>by simp only [V.reflag,reflag_id x]
 |.agg l=>by simp only [V.reflag,reflagL_id l]
 |.tuple l=>by simp only [V.reflag,reflagL_id l]
theorem reflagL_id:∀l:List V,reflagL (λf=>f) l=l
 |[]=>rfl
 |v::l=>by simp only [reflagL,reflag_id v,reflagL_id l]
end
theorem RV.lo0{x:TV}{v:V}(h:RV x v):RV x.qa9 v:=by
 have:=RV.lo (g:=λf=>f) (λf=>Iff.rfl) x v h
 rwa [reflag_id]at this
theorem qEr{o d:Nat}(h:sure o (d+1)=true):sure (nx o) d=true:=by
 unfold nx;cases ho:qaY o with
 |false =>
  rcases qkz.1 ho with rfl|rfl|rfl
  ·simp [sure]at h
  ·simp [sure]
  ·simp [sure]at h
 |true =>
  have:=qeg.1 ho;simp only [if_true];unfold sure at h ⊢;by_cases h1:o<1000
  ·rw [if_pos h1]at h;rw [if_pos (by omega)];simp only [decide_eq_true_eq]at h ⊢;omega
  ·by_cases h2:o<2000
   ·by_cases h3:o-1<1000
    ·omega
    ·rw [if_neg h3,if_pos (by omega)]
   ·rw [if_neg h1,if_neg h2]at h;simp only [decide_eq_true_eq]at h;rw [if_neg (by omega),if_neg (by omega)];simp only [decide_eq_true_eq]<;>omega
theorem qBe{o d d':Nat}(h:sure o d=true)(hd:d'<=d):sure o d'=true:=by
 unfold sure at h ⊢;by_cases h1:o<1000
 ·rw [if_pos h1]at h ⊢;simp only [decide_eq_true_eq]at h ⊢;omega
 ·by_cases h2:o<2000
  ·rw [if_neg h1,if_pos h2]
  ·rw [if_neg h1,if_neg h2]at h ⊢;simp only [decide_eq_true_eq]at h ⊢;omega
theorem qxp{o d:Nat}{f:Fl}(h:sure o (d+1)=true)(hf:FlR o f):f≠.q6:=by
 cases ho:qaY o with
 |true=>rw [hf.own ho];simp
 |false =>
  rcases qkz.1 ho with rfl|rfl|rfl
  ·simp [sure]at h
  ·rw [hf.2 rfl];simp
  ·simp [sure]at h
theorem qCe{l:List V}(h:∀x∈l,x.loose=false):looseL l=false:=by
 induction l with
 |nil=>rfl
 |cons a l ih =>
  simp only [looseL,Bool.or_eq_false_iff];exact ⟨h a (by simp),ih λx hx=>h x (by simp [hx])⟩
theorem qh7:∀(τ:Ty) (o:Nat) (x:τ.den) (v:V),sure o τ.depth=true->RTy τ o x v->v.soft=false/\v.loose=false
 |.int _,_,_,v,_,h=>by simp only [RTy]at h;subst h;exact ⟨rfl,rfl⟩
 |.bool,_,_,v,_,h=>by simp only [RTy]at h;subst h;exact ⟨rfl,rfl⟩
 |.str,_,_,v,_,h=>by simp only [RTy]at h;subst h;exact ⟨rfl,rfl⟩
 |.flt,_,_,v,_,h=>by simp only [RTy]at h;obtain ⟨b9,rfl,h9⟩:=h;exact ⟨rfl,rfl⟩
 |.cx,_,_,v,_,h=>by simp only [RTy]at h;obtain ⟨a9,b9,rfl,h8,h9⟩:=h;exact ⟨rfl,rfl⟩
 |.err,_,_,v,_,h=>by simp only [RTy]at h;rcases h with ⟨_,rfl⟩|⟨_,t9,rfl⟩<;>exact ⟨rfl,rfl⟩
 |.mset _,_,_,v,_,h=>by simp only [RTy]at h;obtain ⟨h8,rfl⟩:=h;exact ⟨rfl,rfl⟩
 |.sl t,o,l,v,hf,h=>by
  simp only [RTy]at h;obtain ⟨f,c,l',rfl,ho,h⟩:=h;simp only [Ty.depth]at hf;have hnd:=qxp hf ho;have hall:∀b∈l',b.soft=false/\b.loose=false:=λb hb=>by
   obtain ⟨a,_,hr⟩:=qil h b hb;exact qh7 t _ a b (qEr hf) hr
  simp only [V.soft,V.loose,Bool.or_eq_false_iff,decide_eq_false_iff_not,Bool.and_eq_false_iff];exact ⟨⟨.inl hnd,qCQ λb hb=>(hall b hb).1⟩,hnd,qCe λb hb=>(hall b hb).2⟩
 |.unit,_,_,v,_,h=>by simp only [RTy]at h;subst h;exact ⟨rfl,rfl⟩
 |.pair a b,o,x,v,hf,h=>by
  simp only [RTy]at h;obtain ⟨v1,l,rfl,h1,h2⟩:=h;simp only [Ty.depth]at hf;have e1:=qh7 a o _ _ (qBe hf (by omega)) h1;have e2:=qh7 b o _ _ (qBe hf (by omega)) h2;simp only [V.soft,softL,V.loose,looseL,Bool.or_eq_false_iff]at e2 ⊢;exact ⟨⟨e1.1,e2.1⟩,e1.2,e2.2⟩
mutual
theorem RV.firm:∀(x:TV) (v:V),x.firm=true->RV x v->v.soft=false
 |.any rs,v,hf,h=>by simp [TV.firm]at hf
 |.t τ o x,v,hf,h=>by simp only [TV.firm]at hf;simp only [RV]at h;exact (qh7 τ o x v hf h).1
 |.clp τ x,v,hf,h=>by simp [TV.firm]at hf
 |.room a s,v,hf,h=>by simp [TV.firm]at hf
 |.empty own,v,hf,h=>by simp only [RV]at h;obtain ⟨f,c,rfl,_⟩:=h;simp [V.soft,softL]
 |.val u,v,hf,h=>by simp only [RV]at h;subst h;rfl
 |.agg l,v,hf,h=>by simp only [RV]at h;obtain ⟨l',rfl,h⟩:=h;simp only [TV.firm]at hf;simp only [V.soft];exact RVL.firm l l' hf h
 |.tuple l,v,hf,h=>by simp only [RV]at h;obtain ⟨l',rfl,h⟩:=h;simp only [TV.firm]at hf;simp only [V.soft];exact RVL.firm l l' hf h
 |.fn g a b,v,hf,h=>by
  simp only [RV]at h;obtain ⟨a',b',rfl,h1,h2⟩:=h;simp only [TV.firm,qe]at hf;simp only [V.soft,Bool.or_eq_false_iff];exact ⟨RVL.firm a a' hf.1 h1,RVL.firm b b' hf.2 h2⟩
 |.ptr q o,v,hf,h=>by simp only [RV]at h;subst h;rfl
 |.mref q,v,hf,h=>by simp only [RV]at h;subst h;rfl
 |.bsl q _ _,v,hf,h=>by simp only [RV]at h;subst h;rfl
 |.yld q,v,hf,h=>by simp only [RV]at h;subst h;rfl
 |.lp ..,v,hf,h=>by simp only [RV]at h
 |.cptr s l,v,hf,h=>by
  simp only [TV.firm,qe]at hf;simp only [RV]at h;obtain ⟨f,l',rfl,_,hsh,h⟩:=h;have:=hsh hf.1;subst this;simp only [V.soft,RVL.firm l l' hf.2 h]<;>rfl
 |.iface t x,v,hf,h=>by simp only [RV]at h;obtain ⟨y,rfl,h⟩:=h;simp only [TV.firm]at hf;simp only [V.soft];exact RV.firm x y hf h
theorem RVL.firm:∀(l:List TV) (l':List V),firmL l=true->RVL l l'->softL l'=false
 |[],l',hf,h=>by simp only [RVL]at h;subst h;rfl
 |x::l,l',hf,h=>by
  simp only [RVL]at h;obtain ⟨v,m,rfl,h1,h2⟩:=h;simp only [firmL,qe]at hf;simp only [softL,Bool.or_eq_false_iff];exact ⟨RV.firm x v hf.1 h1,RVL.firm l m hf.2 h2⟩
end
mutual
theorem RV.tight:∀(x:TV) (v:V),x.tight=true->RV x v->v.loose=false
 |.any rs,v,hf,h=>by simp [TV.tight]at hf
 |.t τ o x,v,hf,h=>by simp only [TV.tight]at hf;simp only [RV]at h;exact (qh7 τ o x v hf h).2
 |.clp τ x,v,hf,h=>by simp [TV.tight]at hf
 |.room a s,v,hf,h=>by simp [TV.tight]at hf
 |.empty o,v,hf,h=>by simp only [TV.tight]at hf;simp only [RV]at h;obtain ⟨f,c,rfl,h0⟩:=h;simp [V.loose,looseL,qxp hf h0]
 |.val u,v,hf,h=>by simp only [RV]at h;subst h;rfl
 |.agg l,v,hf,h=>by simp only [RV]at h;obtain ⟨l',rfl,h⟩:=h;simp only [TV.tight]at hf;simp only [V.loose];exact RVL.tight l l' hf h
 |.tuple l,v,hf,h=>by simp only [RV]at h;obtain ⟨l',rfl,h⟩:=h;simp only [TV.tight]at hf;simp only [V.loose];exact RVL.tight l l' hf h
 |.fn g a b,v,hf,h=>by
  simp only [RV]at h;obtain ⟨a',b',rfl,h1,h2⟩:=h;simp only [TV.tight,qe]at hf;simp only [V.loose,Bool.or_eq_false_iff];exact ⟨RVL.tight a a' hf.1 h1,RVL.tight b b' hf.2 h2⟩
 |.ptr q o,v,hf,h=>by simp only [RV]at h;subst h;rfl
 |.mref q,v,hf,h=>by simp only [RV]at h;subst h;rfl
 |.bsl q _ _,v,hf,h=>by simp only [RV]at h;subst h;rfl
 |.yld q,v,hf,h=>by simp only [RV]at h;subst h;rfl
 |.lp ..,v,hf,h=>by simp only [RV]at h
 |.cptr s l,v,hf,h=>by
  simp only [TV.tight,qe]at hf;simp only [RV]at h;obtain ⟨f,l',rfl,_,hsh,h⟩:=h;have:=hsh hf.1;subst this;simp only [V.loose,RVL.tight l l' hf.2 h]<;>rfl
 |.iface t x,v,hf,h=>by simp only [RV]at h;obtain ⟨y,rfl,h⟩:=h;simp only [TV.tight]at hf;simp only [V.loose];exact RV.tight x y hf h
theorem RVL.tight:∀(l:List TV) (l':List V),tightL l=true->RVL l l'->looseL l'=false
 |[],l',hf,h=>by simp only [RVL]at h;subst h;rfl
 |x::l,l',hf,h=>by
  simp only [RVL]at h;obtain ⟨v,m,rfl,h1,h2⟩:=h;simp only [tightL,qe]at hf;simp only [looseL,Bool.or_eq_false_iff];exact ⟨RV.tight x v hf.1 h1,RVL.tight l m hf.2 h2⟩
end
theorem qso{bx:Root->Option (List V)}:∀(τ:Ty) (o:Nat) (x:τ.den) (v:V),τ.isSet=false->RTy τ o x v->peekV bx v=some (v.reflag qK)
 |.int _,o,x,v,hns,h=>by simp only [RTy]at h;subst h;rfl
 |.bool,o,x,v,hns,h=>by simp only [RTy]at h;subst h;rfl
 |.str,o,x,v,hns,h=>by simp only [RTy]at h;subst h;rfl
 |.flt,o,x,v,hns,h=>by simp only [RTy]at h;obtain ⟨b9,rfl,h9⟩:=h;rfl
 |.cx,o,x,v,hns,h=>by simp only [RTy]at h;obtain ⟨a9,b9,rfl,h8,h9⟩:=h;rfl
 |.err,o,x,v,hns,h=>by simp only [RTy]at h;rcases h with ⟨_,rfl⟩|⟨_,t9,rfl⟩<;>rfl
 |.mset _,o,x,v,hns,h=>by simp [Ty.isSet]at hns
 |.sl _,o,x,v,hns,h=>by simp only [RTy]at h;obtain ⟨f,c,l',rfl,_⟩:=h;rfl
 |.unit,o,x,v,hns,h=>by simp only [RTy]at h;subst h;rfl
 |.pair a b,o,x,v,hns,h=>by
  simp only [RTy]at h;simp only [Ty.isSet,Bool.or_eq_false_iff]at hns;obtain ⟨v1,l,rfl,h1,h2⟩:=h;have e1:=qso (bx:=bx) a o x.1 v1 hns.1 h1;have e2:=qso (bx:=bx) b o x.2 _ hns.2 h2;simp only [peekV,V.reflag]at e2 ⊢;obtain ⟨m,hm,he⟩:=qc.1 e2;simp only [V.agg.injEq]at he;subst he;simp only [peekL,e1,hm,reflagL,qi]
theorem qsX{k:IntKind}:∀{l:List TV} {xs:List Int} {l':List V},qsW k l=some xs->RVL l l'->l'=xs.map λx=>V.val (.int k x)
 |[],xs,l',h,hr=>by
  simp only [qsW,qb]at h;subst h;simp only [RVL]at hr;rw [hr]<;>rfl
 |.t (.int k') o x::l,xs,l',h,hr=>by
  simp only [qsW]at h;split at h
  ·rename_i hk;obtain ⟨m,hm,rfl⟩:=qc.1 h;simp only [RVL]at hr;obtain ⟨v,vs,rfl,h1,h2⟩:=hr;simp only [RV,RTy]at h1;rw [h1,qsX hm h2,hk];rfl
  ·cases h
theorem qxX{k:IntKind}(xs:List Int):reflagL qK (xs.map λx=>V.val (.int k x))=(xs.map λx=>V.val (.int k x))/\(xs.map λx=>V.val (.int k x)).all V.one=true/\ptrsL (xs.map λx=>V.val (.int k x))=[]:=by
 induction xs with
 |nil=>exact ⟨rfl,rfl,rfl⟩
 |cons x xs ih=>simp only [qh,reflagL,V.reflag,List.all_cons,ptrsL,V.qq,ih.1,ih.2.1,ih.2.2];exact ⟨trivial,by simp [V.one],rfl⟩
theorem qsS{k:IntKind}{o:Nat}:∀(xs:List Int),All2 (RTy (.int k) o) xs (xs.map λx=>V.val (.int k x))
 |[]=>.nil
 |x::xs=>.cons (by simp only [RTy]) (qsS xs)
mutual
theorem peekTV_ok{bt:Root->Option (List TV)}{bx:Root->Option (List V)}(hb:∀r c,bt r=some c->∃c',bx r=some c'/\RVL c c'/\(r.slot<16384->qhk c'=false)):∀(x y:TV) (v:V),peekTV bt x=some y->RV x v->∃u,peekV bx v=some u/\RV y u
 |.any _,y,v,h,hr=>by simp [peekTV]at h
 |.val w,y,v,h,hr=>by
  simp only [peekTV,qb]at h;subst h;simp only [RV]at hr;subst hr;exact ⟨.val w,rfl,by simp [RV]⟩
 |.t τ o x,y,v,h,hr=>by
  simp only [peekTV]at h;cases hs:τ.isSet with
  |true=>rw [hs]at h;cases h
  |false =>
   rw [hs]at h;simp only [cond_false,qb]at h;subst h;simp only [RV]at hr;exact ⟨_,qso τ o x v hs hr,by simp only [RV];exact qgm τ o x v hr⟩
 |.mref _,y,v,h,hr=>by simp [peekTV]at h
 |.yld _,y,v,h,hr=>by simp [peekTV]at h
 |.lp ..,y,v,h,hr=>by simp [peekTV]at h
 |.bsl r off n,y,v,h,hr=>by
  simp only [peekTV]at h;split at h
  ·rename_i c hc;split at h
   ·rename_i hle;obtain ⟨xs,hxs,rfl⟩:=qc.1 h;simp only [RV]at hr;subst hr;obtain ⟨c',hc',hrc,hmp⟩:=hb r c hc;have hl:=qsX hxs ((hrc.drop off).take n);obtain ⟨e1,e2,e3⟩:=qxX (k:=.i64) xs;refine ⟨.sl .shared false (reflagL qK ((c'.drop off).take n)),?_,?_⟩
    ·simp only [peekV,hc'];rw [if_pos ⟨qe1 (qaD hrc) (hmp hle.2),by rw [hrc.length];exact hle.1,by rw [hl,e1];exact e2,by rw [hl];exact e3⟩]
    ·simp only [RV,RTy];refine ⟨.shared,false,_,rfl,⟨λ_=>by simp [qaY],λ_=>rfl⟩,?_⟩;rw [hl,e1];exact qsS (o:=0) xs
   ·cases h
  ·cases h
 |.clp τ x,y,v,h,hr=>by
  simp only [peekTV,qb]at h;subst h;have h2:=RV.share (.clp τ x) v hr;simp only [RV]at hr;obtain ⟨f,l',rfl,_,_⟩:=hr;exact ⟨_,rfl,h2⟩
 |.room a s,y,v,h,hr=>by simp [peekTV]at h
 |.empty o,y,v,h,hr=>by
  simp only [peekTV,qb]at h;subst h;have h2:=RV.share (.empty o) v hr;simp only [RV]at hr;obtain ⟨f,c,rfl,_⟩:=hr;exact ⟨_,rfl,h2⟩
 |.agg l,y,v,h,hr=>by
  simp only [peekTV]at h;obtain ⟨m,hm,rfl⟩:=qc.1 h;simp only [RV]at hr;obtain ⟨l',rfl,hl⟩:=hr;obtain ⟨u,hu,hru⟩:=peekTL_ok hb l m l' hm hl;exact ⟨.agg u,by simp only [peekV,hu,qi],by simp only [RV];exact ⟨u,rfl,hru⟩⟩
 |.tuple l,y,v,h,hr=>by
  simp only [peekTV]at h;obtain ⟨m,hm,rfl⟩:=qc.1 h;simp only [RV]at hr;obtain ⟨l',rfl,hl⟩:=hr;obtain ⟨u,hu,hru⟩:=peekTL_ok hb l m l' hm hl;exact ⟨.tuple u,by simp only [peekV,hu,qi],by simp only [RV];exact ⟨u,rfl,hru⟩⟩
 |.fn g a b,y,v,h,hr=>by
  simp only [peekTV]at h;split at h
  ·rename_i p q hp hq;simp only [qb]at h;subst h;simp only [RV]at hr;obtain ⟨a',b',rfl,h1,h2⟩:=hr;obtain ⟨u,hu,hru⟩:=peekTL_ok hb a p a' hp h1;obtain ⟨w,hw,hrw⟩:=peekTL_ok hb b q b' hq h2;exact ⟨.fn g u w,by simp only [peekV,hu,hw],by simp only [RV];exact ⟨u,w,rfl,hru,hrw⟩⟩
  ·cases h
 |.ptr r off,y,v,h,hr=>by
  simp only [peekTV]at h;split at h
  ·rename_i c hc;split at h
   ·rename_i hle;simp only [qb]at h;subst h;simp only [RV]at hr;subst hr;obtain ⟨c',hc',hrc,hmp⟩:=hb r c hc;refine ⟨.cptr .shared (reflagL qK (c'.drop off)),?_,?_⟩
    ·simp only [peekV,hc'];rw [if_pos ⟨qe1 (qaD hrc) (hmp hle.2),by rw [hrc.length];exact hle.1⟩]
    ·simp only [RV];exact ⟨.shared,_,rfl,by simp,λ_=>rfl,RVL.share _ _ (hrc.drop off)⟩
   ·cases h
  ·cases h
 |.cptr _ cs,y,v,h,hr=>by
  simp only [peekTV,qb]at h;subst h;simp only [RV]at hr;obtain ⟨f,l',rfl,_,_,hl⟩:=hr;refine ⟨.cptr .shared (reflagL qK l'),rfl,?_⟩;simp only [RV];exact ⟨.shared,_,rfl,by simp,λ_=>rfl,RVL.share _ _ hl⟩
 |.iface t x,y,v,h,hr=>by
  simp only [peekTV]at h;obtain ⟨m,hm,rfl⟩:=qc.1 h;simp only [RV]at hr;obtain ⟨l',rfl,hl⟩:=hr;obtain ⟨u,hu,hru⟩:=peekTV_ok hb x m l' hm hl;exact ⟨.iface t u,by simp only [peekV,hu,qi],by simp only [RV];exact ⟨u,rfl,hru⟩⟩
theorem peekTL_ok{bt:Root->Option (List TV)}{bx:Root->Option (List V)}(hb:∀r c,bt r=some c->∃c',bx r=some c'/\RVL c c'/\(r.slot<16384->qhk c'=false)):∀(l m:List TV) (l':List V),peekTL bt l=some m->RVL l l'->∃u,peekL bx l'=some u/\RVL m u
 |[],m,l',h,hr=>by
  simp only [peekTL,qb]at h;subst h;simp only [RVL]at hr;subst hr;exact ⟨[],rfl,q5⟩
 |x::l,m,l',h,hr=>by
  simp only [peekTL]at h;split at h
  ·rename_i p q hp hq;simp only [qb]at h;subst h;simp only [RVL]at hr;obtain ⟨v,vs,rfl,h1,h2⟩:=hr;obtain ⟨u,hu,hru⟩:=peekTV_ok hb x p v hp h1;obtain ⟨w,hw,hrw⟩:=peekTL_ok hb l q vs hq h2;exact ⟨u::w,by simp only [peekL,hu,hw],qv.2 ⟨hru,hrw⟩⟩
  ·cases h
end
theorem qCl{l:List V}(h:∀x∈l,x.qcB=true):mineL l=true:=by
 induction l with
 |nil=>rfl
 |cons x l ih=>simp only [mineL,qe];exact ⟨h x (by simp),ih λy hy=>h y (by simp [hy])⟩
theorem qnQ:∀(τ:Ty) (o:Nat) (x:τ.den) (v:V),quI τ o=true->RTy τ o x v->v.qcB=true
 |.int _,o,x,v,hm,h=>by simp only [RTy]at h;subst h;rfl
 |.bool,o,x,v,hm,h=>by simp only [RTy]at h;subst h;rfl
 |.str,o,x,v,hm,h=>by simp only [RTy]at h;subst h;rfl
 |.flt,o,x,v,hm,h=>by simp only [RTy]at h;obtain ⟨b9,rfl,h9⟩:=h;rfl
 |.cx,o,x,v,hm,h=>by simp only [RTy]at h;obtain ⟨a9,b9,rfl,h8,h9⟩:=h;rfl
 |.err,o,x,v,hm,h=>by simp only [RTy]at h;rcases h with ⟨_,rfl⟩|⟨_,t9,rfl⟩<;>rfl
 |.mset _,o,x,v,hm,h=>by simp [quI]at hm
 |.sl t,o,x,v,hm,h=>by
  simp only [quI,qe]at hm;simp only [RTy]at h;obtain ⟨f,c,l',rfl,hf,hall⟩:=h;simp only [V.qcB,qe,decide_eq_true_eq];refine ⟨hf.own hm.1,qCl λy hy=>?_⟩;obtain ⟨a,_,ha⟩:=qil hall y hy;exact qnQ t _ a y hm.2 ha
 |.unit,o,x,v,hm,h=>by simp only [RTy]at h;subst h;rfl
 |.pair a b,o,x,v,hm,h=>by
  simp only [quI,qe]at hm;simp only [RTy]at h;obtain ⟨v1,l,rfl,h1,h2⟩:=h;have e1:=qnQ a o x.1 v1 hm.1 h1;have e2:=qnQ b o x.2 _ hm.2 h2;simp only [V.qcB]at e2 ⊢;simp only [mineL,qe];exact ⟨e1,e2⟩
mutual
theorem RV.qcB:∀(x:TV) (v:V),x.qcB=true->RV x v->v.qcB=true
 |.any _,v,hm,hr=>by simp [TV.qcB]at hm
 |.val w,v,hm,hr=>by simp only [RV]at hr;subst hr;rfl
 |.t τ o x,v,hm,hr=>by simp only [RV]at hr;exact qnQ τ o x v (by simpa only [TV.qcB]using hm) hr
 |.clp τ x,v,hm,hr=>by simp [TV.qcB]at hm
 |.room a s,v,hm,hr=>by simp [TV.qcB]at hm
 |.empty o,v,hm,hr=>by
  simp only [TV.qcB]at hm;simp only [RV]at hr;obtain ⟨f,c,rfl,hf⟩:=hr;simp only [V.qcB,qe,decide_eq_true_eq];exact ⟨hf.own hm,rfl⟩
 |.agg l,v,hm,hr=>by
  simp only [TV.qcB]at hm;simp only [RV]at hr;obtain ⟨l',rfl,hl⟩:=hr;simp only [V.qcB];exact RVL.qcB l l' hm hl
 |.tuple l,v,hm,hr=>by
  simp only [TV.qcB]at hm;simp only [RV]at hr;obtain ⟨l',rfl,hl⟩:=hr;simp only [V.qcB];exact RVL.qcB l l' hm hl
 |.fn g a b,v,hm,hr=>by
  simp only [TV.qcB,qe]at hm;simp only [RV]at hr;obtain ⟨a',b',rfl,h1,h2⟩:=hr;simp only [V.qcB,qe];exact ⟨RVL.qcB a a' hm.1 h1,RVL.qcB b b' hm.2 h2⟩
 |.ptr ..,v,hm,hr=>by simp [TV.qcB]at hm
 |.mref _,v,hm,hr=>by simp [TV.qcB]at hm
 |.bsl ..,v,hm,hr=>by simp [TV.qcB]at hm
 |.yld _,v,hm,hr=>by simp [TV.qcB]at hm
 |.lp ..,v,hm,hr=>by simp [TV.qcB]at hm
 |.cptr ..,v,hm,hr=>by simp [TV.qcB]at hm
 |.iface t x,v,hm,hr=>by
  simp only [TV.qcB]at hm;simp only [RV]at hr;obtain ⟨y,rfl,hy⟩:=hr;simp only [V.qcB];exact RV.qcB x y hm hy
theorem RVL.qcB:∀(l:List TV) (l':List V),mineTL l=true->RVL l l'->mineL l'=true
 |[],l',hm,hr=>by simp only [RVL]at hr;subst hr;rfl
 |x::l,l',hm,hr=>by
  simp only [mineTL,qe]at hm;simp only [RVL]at hr;obtain ⟨v,m,rfl,h1,h2⟩:=hr;simp only [mineL,qe];exact ⟨RV.qcB x v hm.1 h1,RVL.qcB l m hm.2 h2⟩
end
end
section
variable {P:Program} {H:Hints} {f:FuncId}
theorem qxJ(p:Bool)(u:Value):RVL (qmT p u).cells (qcJ p u).cells:=by
 have h:=qsq p u;have h1:(qmT p u).cells=[qmT p u]:=by unfold qmT;split<;>(try split)<;>rfl
 have h2:(qcJ p u).cells=[qcJ p u]:=by unfold qcJ qeR;split<;>(try split)<;>rfl
 rw [h1,h2];exact qv.2 ⟨h,q5⟩
theorem qu3(p:Bool)(u:Value):RVL (qn8 p u).cells (ofConst p u).cells:=by
 have key:=qxJ p u;cases u<;>first|exact key|exact qvY (qsq p) _
theorem qiQ{t:TypeId}{z:TV}(h:quS P H f t=some z):∃z',zeroOf P H f t=some z'/\RV z z'/\RVL z.cells z'.cells:=by
 unfold quS at h;obtain ⟨u,hu,rfl⟩:=qc.1 h;exact ⟨ofConst (H.precise f) u,by unfold zeroOf;rw [hu];rfl,qxi _ _,qu3 _ _⟩
theorem qlj{cs vs:List TV}{cs' vs':List V}{off:Nat}(h:RVL cs cs')(hv:RVL vs vs'):RVL (qmg cs off vs) (qJ cs' off vs'):=by
 unfold qmg qJ;rw [hv.length];exact ((h.take off).append hv).append (h.drop _)
theorem qny(place:Nat->Option (Nat×Nat)):∀(is:List Nat) (xs:List TV) (ys:List V) (cs r:List TV) (cs':List V),RVL xs ys->RVL cs cs'->qtb place cs (is.zip xs)=some r ->
  ∃r',qhj place cs' (is.zip ys)=some r'/\RVL r r'
 |[],xs,ys,cs,r,cs',hx,hc,h=>by simp only [List.zip_nil_left,qtb,qb]at h;subst h;exact ⟨cs',by simp [qhj],hc⟩
 |i::is,[],ys,cs,r,cs',hx,hc,h=>by
  simp only [RVL]at hx;subst hx;simp only [List.zip_nil_right,qtb,qb]at h;subst h;exact ⟨cs',by simp [qhj],hc⟩
 |i::is,x::xs,ys,cs,r,cs',hx,hc,h=>by
  simp only [RVL]at hx;obtain ⟨v,m,rfl,h1,h2⟩:=hx;simp only [List.zip_cons_cons,qtb]at h;simp only [List.zip_cons_cons,qhj];split at h
  ·cases h
  ·rename_i off size hp;rw [hp];simp only
   split at h
   ·cases h
   ·rename_i hn;simp only [not_or,Decidable.not_not,Bool.not_eq_false]at hn;obtain ⟨hl,ho,hk⟩:=hn;obtain ⟨hcells,hko⟩:=RV.cells hk h1;rw [if_neg]
    ·exact qny place is xs m _ r _ h2 (qlj hc hcells) h
    ·rw [hcells.length,hc.length,hko];simp only [not_or,Decidable.not_not,Bool.not_eq_false];exact ⟨hl,ho,trivial⟩
theorem qBm{t:TypeId}{is:List Nat}{xs:List TV}{ys:List V}{x:TV}(hx:RVL xs ys)(h:qBl P H f t (is.zip xs)=some x) :
  ∃v,qrc P H f t (is.zip ys)=some v/\RV x v:=by
 unfold qBl at h;unfold qrc;split at h
 ·rename_i z fields hz hu;obtain ⟨z',hz',_,hcz⟩:=qiQ hz;split at h
  ·rename_i places hpl;obtain ⟨l,hl,rfl⟩:=qc.1 h;obtain ⟨l',hl',hr⟩:=qny _ _ _ _ _ _ _ hx hcz hl;refine ⟨.agg l',?_,by simp only [RV];exact ⟨l',rfl,hr⟩⟩;rw [hz',hu];simp only [hpl,hl',qi]
  ·cases h
 ·rename_i z n elem hz hu;obtain ⟨z',hz',_,hcz⟩:=qiQ hz;split at h
  ·rename_i ie hie;obtain ⟨l,hl,rfl⟩:=qc.1 h;obtain ⟨l',hl',hr⟩:=qny _ _ _ _ _ _ _ hx hcz hl;refine ⟨.agg l',?_,by simp only [RV];exact ⟨l',rfl,hr⟩⟩;rw [hz',hu];simp only [hie,hl',qi]
  ·cases h
 ·cases h
theorem qwz{agg:Bool}{s:Nat}:∀(n:Nat) {cs:List TV} {cs':List V},RVL cs cs'->RVL (qmz agg s n cs) (chunk agg s n cs')
 |0,_,_,_=>by simp [qmz,chunk,RVL]
 |n+1,cs,cs',h=>by
  simp only [qmz,chunk];refine qv.2 ⟨?_,qwz n (h.drop s)⟩;cases agg with
  |true=>simp only [if_true,RV];exact ⟨_,rfl,h.take s⟩
  |false =>
   simp only [qf,if_false];cases cs with
   |nil=>simp only [RVL]at h;subst h;exact qco []
   |cons y cs=>simp only [RVL]at h;obtain ⟨v,m,rfl,h1,_⟩:=h;exact h1
theorem qp2{t:TypeId}{len:Nat}{is:List Nat}{xs:List TV}{ys:List V}{x:TV}(hx:RVL xs ys)(h:qj2 P H f t len (is.zip xs)=some x) :
  ∃v,qdR P H f t len (is.zip ys)=some v/\RV x v:=by
 unfold qj2 at h;unfold qdR;split at h
 ·rename_i elem hu;rw [hu];simp only;split at h
  ·rename_i ie z τ hie hz hτ;obtain ⟨z',hz',_,hcz⟩:=qiQ hz;rw [hie,hz'];simp only;split at h
   ·cases h
   ·rename_i hn;simp only [not_or]at hn;rw [if_neg (by rw [hcz.length];simp only [not_or];exact ⟨hn.1,hn.2.1,hn.2.2.1,hn.2.2.2.1⟩)];split at h
    ·rename_i cs hcs;obtain ⟨cs',hcs',hr⟩:=qny _ _ _ _ _ _ _ hx (RVL.flatten hcz) hcs;rw [hcs'];simp only;split at h
     ·rename_i hc;simp only [qe,List.isEmpty_iff]at hc;obtain ⟨hc,hup⟩:=hc;obtain ⟨hup1,hup2⟩:=qCn hup;obtain ⟨l,hl,rfl⟩:=qc.1 h;have hp:ptrsL cs'=[]:=by
       apply List.eq_nil_iff_forall_not_mem.2;intro r hrr;have:=RVL.qq cs cs' hr r hrr;rw [hc.2]at this;cases this
      rw [if_pos ⟨RVL.qFR hc.1 hr,by rw [hp];rfl⟩];refine ⟨_,rfl,?_⟩;simp only [RV,RTy];exact ⟨.own,false,_,rfl,qfi hup,by rw [hup1];exact qwv _ _ _ hl (qwz _ hr)⟩
     ·cases h
    ·cases h
  ·cases h
 ·cases h
theorem qdN{t:TypeId}{cs:List TV}{cs':List V}{x:TV}(h:qaQ P t cs=some x)(hc:RVL cs cs'):∃v,q4 P t cs'=some v/\RV x v:=by
 unfold qaQ at h;unfold q4;split at h
 ·cases h
 ·rename_i d hd;rw [hd];simp only;split at h
  ·rename_i ha;rw [if_pos ha];split at h
   ·rename_i hl;cases h;rw [if_pos (by rw [hc.length];exact hl)];exact ⟨_,rfl,by simp only [RV];exact ⟨_,rfl,hc.take _⟩⟩
   ·cases h
  ·rename_i ha;rw [if_neg ha];obtain ⟨v,hv,hr⟩:=RVL.head hc h;exact ⟨v,hv,hr⟩
theorem qBo{t:TypeId}{x y:TV}{v:V}{fd:Nat}(h:qBn P t x fd=some y)(hx:RV x v):∃u,qrd P t v fd=some u/\RV y u:=by
 unfold qBn at h;split at h
 ·rename_i fields cs hu;simp only [RV]at hx;obtain ⟨cs',rfl,hc⟩:=hx;unfold qrd;rw [hu];simp only;split at h
  ·rename_i d hd;rw [hd];simp only;exact qdN h (hc.drop _)
  ·cases h
 ·cases h
theorem qsC{t:TypeId}{x y:TV}{v:V}{fd:Nat}(h:qmm P t x fd=some y)(hx:RV x v):∃u,qcq P t v fd=some u/\RV y u:=by
 unfold qmm at h;unfold qcq;split at h
 ·rename_i fields hu;rw [hu];simp only;split at h
  ·rename_i d hd;rw [hd];simp only;split at h
   ·cases h
   ·rename_i h0;rw [if_neg h0];split at h
    ·rename_i r off;cases h;simp only [RV]at hx;subst hx;exact ⟨_,rfl,by simp [RV]⟩
    ·rename_i sh cs;simp only [RV]at hx;obtain ⟨f',cs',rfl,hf0,hsh,hc⟩:=hx;split at h
     ·rename_i hl;cases h;simp only
      rw [if_pos (by rw [hc.length];exact hl)];exact ⟨_,rfl,by simp only [RV];exact ⟨_,_,rfl,hf0,hsh,hc.drop _⟩⟩
     ·cases h
    ·cases h
  ·cases h
 ·cases h
theorem qlo{R:Type}{i:Int}{k:Nat->Option R}{r:R}:∀{n j:Nat},qEx R i k n j=some r->∃m,j<=m/\m<j+n/\i=(m:Int)/\k m=some r
 |0,j,h=>by simp [qEx]at h
 |n+1,j,h=>by
  simp only [qEx]at h;cases hd:decide (i=(j:Int))with
  |true=>rw [hd]at h;exact ⟨j,Nat.le_refl _,by omega,of_decide_eq_true hd,h⟩
  |false =>
   rw [hd]at h;obtain ⟨m,h1,h2,h3,h4⟩:=qlo (n:=n) (j:=j+1) h;exact ⟨m,by omega,by omega,h3,h4⟩
theorem qpD{x:TV}{n:Int}{v:V}(h:qyT x=some n)(hx:RV x v):∃k,v=.val (.int k n):=by
 unfold qyT at h;split at h
 ·rename_i k o m;cases h;simp only [RV,RTy]at hx;exact ⟨k,hx⟩
 ·cases h
theorem qgf{k:IntKind}{n:Int}(h:0<=n):qkS (.val (.int k n))=some n.toNat:=by simp [qkS,h]
theorem qsv{α:Type}{l r:List α}{a b:Int}(h:slc l a b=some r):0<=a/\a<=b/\b<=l.length/\r=(l.take b.toNat).drop a.toNat:=by
 unfold slc at h;split at h
 ·rename_i hc;cases h;exact ⟨hc.1,hc.2.1,hc.2.2,rfl⟩
 ·cases h
theorem qnC{α:Type}{l:List α}{n:Int}{e:α}(h:idx l n=some e):0<=n/\l[n.toNat]?=some e:=by
 unfold idx at h;split at h
 ·rename_i hc;exact ⟨hc,h⟩
 ·cases h
theorem qfD{α:Type}{l l2 r:List α}(h:app l l2=some r):l.length+l2.length<=4294967296/\r=l++l2:=by
 unfold app at h;split at h
 ·rename_i hc;cases h;exact ⟨hc,rfl⟩
 ·cases h
theorem qCm{α:Type}{z:α}{n:Int}{r:List α}(h:mkS z n=some r):0<=n/\n<=4294967296/\r=List.replicate n.toNat z:=by
 unfold mkS at h;split at h
 ·rename_i hc;cases h;exact ⟨hc.1,hc.2,rfl⟩
 ·cases h
theorem qdC{τ:Ty}(he:τ.qbY=true){o:Nat}{l:List τ.den}{l':List V}(h:All2 (RTy τ o) l l'):∀e∈l',e.cells.length=τ.qba/\e.oks=true/\e.qq=[]:=λe he'=>by
 obtain ⟨a,_,hr⟩:=qil h e he';obtain ⟨h1,h2⟩:=qmc he hr;exact ⟨h1,h2,qdr _ _ _ _ hr⟩
theorem qza{τ:Ty}{o:Nat}{l:List τ.den}{l':List V}(h:All2 (RTy τ o) l l'):ptrsL l'=[]:=by
 apply List.eq_nil_iff_forall_not_mem.2;intro r hr;obtain ⟨v,hv,hrv⟩:=qpb.1 hr;obtain ⟨a,_,h2⟩:=qil h v hv;rw [qdr _ _ _ _ h2]at hrv;cases hrv
theorem qf3{v:V}(h:v.qq=[]):ptrsL v.cells=[]:=by
 cases v<;>first|exact h|(simp only [V.cells,ptrsL,List.append_nil];exact h)
theorem qjd{τ:Ty}{elem:TypeId}{o:Nat}{l:List τ.den}{l':List V}{n:Int}{e:τ.den}{k:IntKind}{t:TypeId}{fl:Fl}{c sh:Bool}(hsh:sh=true->fl=.shared)(hu:P.underlying t=some (.slice elem))(hall:All2 (RTy τ o) l l')(hc:P.cellsOf elem=τ.qba)(h0:τ.qba≠0)(he:τ.qbY=true)
  (h:idx l n=some e):∃v,qa4 P t (.sl fl c l') (.val (.int k n))=some v/\RV (.cptr sh (ofTy τ (dl o) e).cells) v:=by
 obtain ⟨h1,h2⟩:=qnC h;obtain ⟨b,hb,hr⟩:=hall.get h2;obtain ⟨hl,hk⟩:=qmc he hr;refine ⟨.cptr (qV fl) (reflagL qV b.cells),?_,?_⟩
 ·simp only [qa4,hu];rw [if_pos h1,hb];simp only
  rw [if_pos ⟨by rw [hl,hc],hk,by rw [hc];exact h0,by rw [qf3 (qdr _ _ _ _ hr)];rfl⟩]
 ·have hd:=qiL qlF rfl τ o e b hr;have hcells:=(RV.cells (qsd he (dl o) e) (rv_ofTy τ (dl o) e _ hd)).1;simp only [RV];refine ⟨_,_,rfl,by cases fl<;>simp [qV],λe=>(by rw [hsh e];rfl),?_⟩;have hre:(b.reflag qV).cells=reflagL qV b.cells:=qmy qV b;rw [<- hre];exact hcells
theorem qsD{t:TypeId}{x:TV}{k0:IntKind}{i:Int}{R:Type}{k:TV->Option R}{r:R}{v:V}(h:qmn P t x i R k=some r)(hx:RV x v) :
  ∃y u,k y=some r/\qa4 P t v (.val (.int k0 i))=some u/\RV y u:=by
 unfold qmn at h;split at h
 ·rename_i len elem q off hu;split at h
  ·cases h
  ·rename_i h0;obtain ⟨m,_,hm,rfl,hk⟩:=qlo h;simp only [RV]at hx;subst hx;refine ⟨_,.ptr q (off+m*P.cellsOf elem),hk,?_,by simp [RV]⟩;simp only [qa4,hu];rw [if_pos ⟨by omega,by omega,h0⟩];simp
 ·rename_i len elem sh cs hu;split at h
  ·cases h
  ·rename_i h0;obtain ⟨m,_,hm,rfl,hk⟩:=qlo h;split at hk
   ·rename_i hl;simp only [RV]at hx;obtain ⟨f',cs',rfl,hf0,hsh,hc⟩:=hx;refine ⟨_,.cptr f' (cs'.drop (m*P.cellsOf elem)),hk,?_,by simp only [RV];exact ⟨_,_,rfl,hf0,hsh,hc.drop _⟩⟩;simp only [qa4,hu];rw [if_pos ⟨by omega,by omega,h0,by rw [hc.length];simpa using hl⟩];simp
   ·cases hk
 ·rename_i elem τ o l hu;split at h
  ·rename_i hc;obtain ⟨e,he,hk⟩:=qd.1 h;simp only [RV,RTy]at hx;obtain ⟨fl,c,l',rfl,hfl,hall⟩:=hx;obtain ⟨u,hu',hr⟩:=qjd (k:=k0) (fl:=fl) (c:=c) (sh:=decide (o=1000)) (λe=>hfl.2 (of_decide_eq_true e)) hu hall hc.1 hc.2.1 hc.2.2.2 he;exact ⟨_,u,hk,hu',hr⟩
  ·cases h
 ·rename_i elem τ l hu;split at h
  ·rename_i hc;obtain ⟨e,he,hk⟩:=qd.1 h;simp only [RV]at hx;obtain ⟨fl,l',rfl,_,hall⟩:=hx;obtain ⟨u,hu',hr⟩:=qjd (k:=k0) (fl:=fl) (c:=true) (sh:=false) (λe=>by cases e) hu hall hc.1 hc.2.1 hc.2.2.2 he;exact ⟨_,u,hk,hu',hr⟩
  ·cases h
 ·cases h
theorem qBq{elem t:TypeId}{len:Nat}{cs:List TV}{cs':List V}{k0:IntKind}{i:Int}{R:Type}{k:TV->Option R}{r:R}(hu:P.underlying t=some (.array len elem))(h:qBp P elem len cs i R k=some r)(hc:RVL cs cs') :
  ∃y u,k y=some r/\qpL P t (.agg cs') (.val (.int k0 i))=some u/\RV y u:=by
 unfold qBp at h;split at h
 ·cases h
 ·rename_i h0;obtain ⟨m,_,hm,rfl,hk⟩:=qlo h;split at hk
  ·rename_i v hv;obtain ⟨u,hu',hr⟩:=qdN hv (hc.drop _);refine ⟨_,u,hk,?_,hr⟩;simp only [qpL,hu];rw [if_pos ⟨by omega,by omega,h0⟩];simpa using hu'
  ·cases hk
def RVO:Option TV->Option V->Prop
 |none,none=>True
 |some x,some v=>RV x v
 |_,_=>False
theorem qd3{b:Option V}(h:RVO none b):b=none:=by cases b<;>simp_all [RVO]
theorem qnS{x:TV}{b:Option V}(h:RVO (some x) b):∃v,b=some v/\RV x v:=by
 cases b with
 |none=>simp [RVO]at h
 |some v=>exact ⟨v,rfl,h⟩
theorem qfK{d:Nat}{d0:Int}{lo:Option TV}{lo':Option V}{a:Int}(h:(match lo with|none=>some d0|some v=>qyT v)=some a)(hlo:RVO lo lo')(hd:d0=d)(h0:0<=a):qfY d lo'=some a.toNat:=by
 cases lo with
 |none=>rw [qd3 hlo];simp only [qb]at h;subst h;subst hd;simp [qfY]
 |some x =>
  obtain ⟨v,rfl,hr⟩:=qnS hlo;obtain ⟨k,rfl⟩:=qpD h hr;simp [qfY,qgf h0]
theorem qDP{R:Type}{c:Prop}[Decidable c]{x:Option R}{r:R}(h:(bif decide c then x else none)=some r):c/\x=some r:=by
 cases hd:decide c with
 |true=>rw [hd]at h;exact ⟨of_decide_eq_true hd,h⟩
 |false=>rw [hd]at h;cases h
theorem qBv{t:TypeId}{x:TV}{v:V}{lo hi mx:Option TV}{lo' hi' mx':Option V}{R:Type}{k:TV->Option R}{r:R}(hx:RV x v)(hlo:RVO lo lo')(hhi:RVO hi hi')(hmx:RVO mx mx')
  (h:qBu P t x lo hi mx R k=some r):∃y u,k y=some r/\qeo P t v lo' hi' mx'=some u/\RV y u:=by
 unfold qBu at h;simp only at h;split at h
 ·rename_i elem τ oo l hu;simp only [RV,RTy]at hx;obtain ⟨fl,c,l',rfl,hfl,hall⟩:=hx;split at h
  ·cases h
  ·rename_i hn;simp only [not_or,Decidable.not_not,Bool.not_eq_false,Bool.not_eq_true]at hn;obtain ⟨hoo,hoo2,h0,hcl,hok,hel⟩:=hn;have hown:fl≠.own:=hfl.not hoo hoo2;have hnx:nx oo=oo:=by unfold nx;rw [hoo];rfl
   have hcells:l'.all (λe=>decide (e.cells.length=P.cellsOf elem))=true:=by
    rw [List.all_eq_true];intro e he;rw [(qdC hel hall e he).1,hcl];simp
   have hvs:∀(mx:Option V),qeo P t (.sl fl c l') lo' hi' mx=(match qfY 0 lo',qfY l'.length hi' with
     |some a,some b =>
      match mx with
      |none=>if a<=b/\b<=l'.length then some (.sl fl (c&&decide (b=l'.length)) ((l'.take b).drop a))else none
      |some m=>if qkS m=some b/\hi'.isSome/\a<=b/\b<=l'.length then some (.sl fl true ((l'.take b).drop a))else none
     |_,_=>none):=λmx=>by
    unfold qeo;rw [hu];simp only;rw [if_neg (by simp only [not_or,Bool.not_eq_false];exact ⟨hown,h0,hcells⟩)];rfl
   split at h
   ·rename_i a b ha hb;have hfin:∀q,slc l a b=some q->qfY 0 lo'=some a.toNat/\qfY l'.length hi'=some b.toNat/\a.toNat<=b.toNat/\b.toNat<=l'.length/\All2 (RTy τ (nx oo)) q ((l'.take b.toNat).drop a.toNat):=λq hq=>by
     obtain ⟨h1,h2,h3,rfl⟩:=qsv hq;have hl:=hall.length;refine ⟨qfK ha hlo rfl h1,qfK hb hhi (by rw [hl]) (by omega),by omega,by omega,(hall.take _).drop _⟩
    split at h
    ·obtain ⟨q,hq,hk⟩:=qd.1 h;obtain ⟨e1,e2,e3,e4,e5⟩:=hfin q hq;rw [qd3 hmx];refine ⟨_,.sl fl (c&&decide (b.toNat=l'.length)) ((l'.take b.toNat).drop a.toNat),hk,?_,?_⟩
     ·rw [hvs,e1,e2];simp only;rw [if_pos ⟨e3,e4⟩]
     ·simp only [RV,RTy];exact ⟨fl,_,_,rfl,hfl,e5⟩
    ·rename_i m;obtain ⟨vm,hvm,hrm⟩:=qnS hmx;split at h
     ·rename_i cc hcc;split at h
      ·rename_i hs;obtain ⟨q,hq,hk⟩:=qd.1 h;obtain ⟨hcb,hk⟩:=qDP hk;obtain ⟨e1,e2,e3,e4,e5⟩:=hfin q hq;obtain ⟨h1,h2,_,_⟩:=qsv hq;obtain ⟨k3,rfl⟩:=qpD hcc hrm;have hs':hi'.isSome=true:=by
        cases hi with
        |none=>simp at hs
        |some x=>obtain ⟨v,rfl,_⟩:=qnS hhi;rfl
       refine ⟨_,.sl fl true ((l'.take b.toNat).drop a.toNat),hk,?_,?_⟩
       ·rw [hvm,hvs,e1,e2];simp only;rw [if_pos ⟨by rw [hcb];exact qgf (by omega),hs',e3,e4⟩]
       ·simp only [RV];exact ⟨fl,_,rfl,hown,e5.mono λx y hxy=>by
         rw [hnx]at hxy;refine qmb τ oo x y ?_;rcases qkz.1 hoo with h|h|h
         ·subst h;exact hxy
         ·subst h;exact hxy
         ·exact absurd h hoo2⟩
      ·cases h
     ·cases h
   ·cases h
 ·rename_i elem oo hu;simp only [RV]at hx;obtain ⟨fl,c,rfl,hfl⟩:=hx;split at h
  ·cases h
  ·rename_i hn0;simp only [not_or,Bool.not_eq_true]at hn0;obtain ⟨hoo,hoo2,h0⟩:=hn0;have hown:fl≠.own:=hfl.not hoo hoo2;split at h
   ·rename_i a b ha hb;cases hd:(decide (a=0)&&decide (b=0))with
    |false=>rw [hd]at h;cases h
    |true =>
     rw [hd]at h;simp only [qe,decide_eq_true_eq]at hd;obtain ⟨rfl,rfl⟩:=hd;rw [qd3 hmx];refine ⟨_,.sl fl (c&&decide (0=([]:List V).length)) [],h,?_,?_⟩
     ·unfold qeo;rw [hu];simp only;rw [if_neg (by simp only [not_or];exact ⟨hown,h0,by simp⟩)];rw [qfK (d:=0) ha hlo rfl (by omega),qfK (d:=([]:List V).length) hb hhi rfl (by omega)];simp
     ·simp only [RV];exact ⟨fl,_,rfl,hfl⟩
   ·cases h
 ·rename_i s hu;simp only [RV,RTy]at hx;subst hx;split at h
  ·rename_i a b ha hb;obtain ⟨q,hq,hk⟩:=qd.1 h;obtain ⟨h1,h2,h3,rfl⟩:=qsv hq;rw [qd3 hmx];have hsz:(⟨s.toArray⟩:ByteArray).size=s.length:=by simp [ByteArray.size]
   refine ⟨_,.val (.string ((⟨s.toArray⟩:ByteArray).extract a.toNat b.toNat)),hk,?_,?_⟩
   ·unfold qeo;rw [hu];simp only;rw [qfK (d:=0) ha hlo rfl h1,qfK (d:=(⟨s.toArray⟩:ByteArray).size) hb hhi (by rw [hsz]) (by omega)];simp only
    rw [if_pos ⟨rfl,by omega,by rw [hsz];omega⟩]
   ·simp only [RV,RTy,V.val.injEq,Value.string.injEq];apply ByteArray.ext;rw [ByteArray.data_extract];apply Array.ext';simp [List.drop_take]
  ·cases h
 ·cases h
theorem qwo{t elem:TypeId}{s n:Nat}{lo hi mx:Option V}(hu:P.underlying t=some (.slice elem)):qeo P t (.room s n) lo hi mx=none:=by
 unfold qeo;rw [hu]
theorem qyU{t:TypeId}{x:TV}{v:V}{lo hi mx:Option TV}{lo' hi' mx':Option V}{R:Type}{k:TV->Option R}{r:R}(hx:RV x v)(hlo:RVO lo lo')(hhi:RVO hi hi')(hmx:RVO mx mx')
  (h:qwj P t x lo hi mx R k=some r):∃y u,k y=some r/\(qeo P t v lo' hi' mx').or (qj7 P t v lo' hi' mx')=some u/\RV y u:=by
 unfold qwj at h;split at h
 ·rename_i elem hu;simp only [RV]at hx;subst hx;split at h
  ·cases h
  ·rename_i h0;split at h
   ·rename_i a b ha hb;cases hd:(decide (a=0)&&decide (b=0))with
    |false=>rw [hd]at h;cases h
    |true =>
     rw [hd]at h;simp only [qe,decide_eq_true_eq]at hd;obtain ⟨rfl,rfl⟩:=hd;rw [qd3 hmx];refine ⟨_,.val (.slice none 0 0),h,?_,by simp only [RV]⟩;have e:qeo P t (.val (.slice none 0 0)) lo' hi' none=some (.val (.slice none 0 0)):=by
      unfold qeo;rw [hu];simp only;rw [if_neg h0,qfK (d:=0) ha hlo rfl (by omega),qfK (d:=0) hb hhi rfl (by omega)];simp [qfY]
     rw [e];rfl
   ·cases h
 ·rename_i elem a s hu;split at h
  ·cases h
  ·rename_i hcond;simp only [not_or,Nat.not_le]at hcond;obtain ⟨h0,ha⟩:=hcond;simp only [RV]at hx;obtain ⟨_,n,rfl,_⟩|⟨h9,_⟩:=hx
   case inr=>omega
   split at h
   ·rename_i kk oo b;obtain ⟨rfl,hk⟩:=qDP h;rw [qd3 hlo,qd3 hmx];obtain ⟨w,rfl,hw⟩:=qnS hhi;simp only [RV,RTy]at hw;subst hw;refine ⟨_,.room s 0,hk,?_,by simp [RV]⟩;rw [qwo hu];unfold qj7;rw [hu];simp only;rw [if_pos h0];rfl
   ·cases h
 ·rename_i n elem r' off hu;split at h
  ·rename_i h1;simp only [RV]at hx;subst hx;split at h
   ·rw [qd3 hlo,qd3 hhi,qd3 hmx];refine ⟨_,.bsl r' off n,h,?_,by simp only [RV]⟩;have e:qeo P t (.ptr r' off) none none none=none:=by unfold qeo;rw [hu]
    rw [e];unfold qj7;rw [hu];simp only;rw [if_pos h1];rfl
   ·cases h
  ·cases h
 ·cases h
end
section
variable {P:Program} {H:Hints} {f:FuncId}
theorem qsF{t:TypeId}{len cap:TV}{len' cap':V}{R:Type}{k:TV->Option R}{r:R}(hl:RV len len')(hc:RV cap cap')(h:qmo P H f t len cap R k=some r) :
  ∃y u,k y=some r/\qe9 P H f t len' cap'=some u/\RV y u:=by
 unfold qmo at h;split at h
 ·rename_i elem hu;split at h
  ·rename_i z τ n c hz hτ hn hcc;obtain ⟨z',hz',hzr,hzc⟩:=qiQ hz;obtain ⟨k1,rfl⟩:=qpD hn hl;obtain ⟨k2,rfl⟩:=qpD hcc hc;split at h
   ·rename_i hcond;obtain ⟨h0,hcl,hok,hby,_,_,hup⟩:=hcond;obtain ⟨hup1,hup2⟩:=qCn hup;split at h
    ·rename_i x hx;obtain ⟨q,hq,hk⟩:=qd.1 h;obtain ⟨hcn,hk1⟩:=qDP hk;subst hcn;obtain ⟨h1,h2,rfl⟩:=qCm hq;have hrt:=qc5 _ _ _ _ _ hx hzr;refine ⟨_,.sl .own false (List.replicate c.toNat z'),hk1,?_,?_⟩
     ·unfold qe9;rw [hu];simp only;rw [hz',qgf h1,qgf h1];simp only
      have hbb:P.bytesOf elem*c.toNat<=8192*4294967296:=Nat.mul_le_mul hby (by omega);rw [if_pos ⟨Nat.le_refl _,λh=>h,h0,by rw [hzc.length];exact hcl,(RV.cells hok hzr).2,by rw [qdr _ _ _ _ hrt];rfl,by omega,by omega⟩]
     ·simp only [RV,RTy];exact ⟨.own,false,_,rfl,qfi hup,by rw [hup1];exact All2.replicate hrt _⟩
    ·cases h
   ·cases h
  ·cases h
 ·cases h
theorem big{s b:Nat}(h1:s<=4294967296)(h2:b<=8192):(s+512)*b<=70368744177664:=by
 have:=Nat.mul_le_mul (Nat.add_le_add_right h1 512) h2;omega
def qCY(yt:TypeDesc)(y:V):Option (List V):=match yt,y with
 |.slice _,.sl _ _ l=>some l
 |.slice _,.val (.slice none 0 0)=>some []
 |.string,.val (.string b)=>some (b.data.toList.map λc=>.val (.int .u8 c.toNat))
 |_,_=>none
theorem qmt{argTypes:Array TypeId}{elem:TypeId}{yt:TypeDesc}{x y:V}(h0:(argTypes[0]?).bind P.underlying=some (.slice elem))(h1:(argTypes[1]?).bind P.underlying=some yt) :
  qc2 P argTypes x y=match qCY yt y with
  |none=>none
  |some l2 =>
   if P.cellsOf elem=0\/((P.info? elem).bind (·.zero)).map (λz=>z.cells.size)≠some (P.cellsOf elem)\/l2.all (λe=>decide (e.cells.length=P.cellsOf elem)&&e.oks)=false\/(ptrsL l2).isEmpty=false then none else
   match x with
   |.val (.slice none 0 0)=>if l2.isEmpty then some x else if (l2.length+512)*P.bytesOf elem<=70368744177664/\l2.length<=70368744177664 then some (.sl .own false l2)else none
   |.sl fl c l =>
    if l.all (λe=>decide (e.cells.length=P.cellsOf elem))=true/\(l.length+l2.length+512)*P.bytesOf elem<=70368744177664/\l.length+l2.length<=70368744177664 then
     (if fl=.own then some (.sl .own false (l++l2))
     else if c then (if l2.isEmpty then some x else some (.sl .own false (l++l2)))
     else none)
    else none
   |_=>none:=by
 unfold qc2;rw [h0,h1];rfl
theorem qBg{yt:TypeDesc}{y:TV}{τ:Ty}{o:Nat}{l:List τ.den}{v:V}(h:tail? yt y=some ⟨τ,(o,l)⟩)(hy:RV y v) :
  ∃l',qCY yt v=some l'/\All2 (RTy τ o) l l':=by
 unfold tail? at h;split at h
 ·split at h
  ·simp only [qb,Sigma.mk.injEq]at h;obtain ⟨rfl,h⟩:=h;obtain ⟨rfl,rfl⟩:=Prod.mk.inj (eq_of_heq h);simp only [RV,RTy]at hy;obtain ⟨f,c,l',rfl,_,hall⟩:=hy;exact ⟨l',rfl,hall⟩
  ·cases h
 ·split at h
  ·simp only [qb,Sigma.mk.injEq]at h;obtain ⟨rfl,h⟩:=h;obtain ⟨rfl,rfl⟩:=Prod.mk.inj (eq_of_heq h);simp only [RV]at hy;obtain ⟨f,l',rfl,_,hall⟩:=hy;exact ⟨l',rfl,hall⟩
  ·cases h
 ·rename_i s;split at h
  ·simp only [qb,Sigma.mk.injEq]at h;obtain ⟨rfl,h⟩:=h;obtain ⟨rfl,rfl⟩:=Prod.mk.inj (eq_of_heq h);simp only [RV,RTy]at hy;subst hy;refine ⟨_,rfl,?_⟩;simp only
   clear h;have:∀s':List UInt8,All2 (RTy (.int .u8) 0) (s'.map λc=>(c.toNat:Int)) (s'.map λc=>V.val (.int .u8 c.toNat)):=λs'=>by
    induction s' with
    |nil=>exact .nil
    |cons c s ih=>exact .cons (by simp [RTy]) ih
   simpa using this s
  ·cases h
 ·cases h
theorem qfx{argTypes:Array TypeId}{elem:TypeId}{yt:TypeDesc}{l l2:List V}{y:V}
  (h0:(argTypes[0]?).bind P.underlying=some (.slice elem)) (h1:(argTypes[1]?).bind P.underlying=some yt)
  (hy:qCY yt y=some l2)
  (hs0:P.cellsOf elem≠0) (hz:((P.info? elem).bind (·.zero)).map (λz=>z.cells.size)=some (P.cellsOf elem))
  (hl2:∀e∈l2,e.cells.length=P.cellsOf elem/\e.oks=true/\e.qq=[]) (hl:∀e∈l,e.cells.length=P.cellsOf elem)
  (hn:l.length+l2.length<=4294967296) (hb:P.bytesOf elem<=8192) :
  (∀c,qc2 P argTypes (.sl .own c l) y=some (.sl .own false (l++l2)))/\(l2≠[]->∀f,f≠.own->qc2 P argTypes (.sl f true l) y=some (.sl .own false (l++l2)))/\(l2=[]->∀f,f≠.own->qc2 P argTypes (.sl f true l) y=some (.sl f true l)):=by
 have hp:ptrsL l2=[]:=by
  apply List.eq_nil_iff_forall_not_mem.2;intro r hr;obtain ⟨v,hv,hrv⟩:=qpb.1 hr;rw [(hl2 v hv).2.2]at hrv;cases hrv
 have hall2:l2.all (λe=>decide (e.cells.length=P.cellsOf elem)&&e.oks)=true:=by
  rw [List.all_eq_true];intro e he;simp [(hl2 e he).1,(hl2 e he).2.1]
 have hall:l.all (λe=>decide (e.cells.length=P.cellsOf elem))=true:=by
  rw [List.all_eq_true];intro e he;simp [hl e he]
 have hbig:=big (s:=l.length+l2.length) hn hb;have hun:∀(f:Fl) (c:Bool),qc2 P argTypes (.sl f c l) y=if l.all (λe=>decide (e.cells.length=P.cellsOf elem))=true/\(l.length+l2.length+512)*P.bytesOf elem<=70368744177664/\l.length+l2.length<=70368744177664 then
     (if f=.own then some (.sl .own false (l++l2))
     else if c then (if l2.isEmpty then some (.sl f c l)else some (.sl .own false (l++l2)))
     else none)
    else none:=λf c=>by
  rw [qmt h0 h1,hy];simp only;rw [if_neg (by simp only [not_or,Decidable.not_not,Bool.not_eq_false];exact ⟨hs0,hz,hall2,by rw [hp];rfl⟩)]
 refine ⟨λc=>?_,λhne f hf=>?_,λhne f hf=>?_⟩
 ·rw [hun,if_pos ⟨hall,hbig,by omega⟩,if_pos rfl]
 ·rw [hun,if_pos ⟨hall,hbig,by omega⟩,if_neg hf,if_pos rfl,if_neg (by simpa using hne)]
 ·rw [hun,if_pos ⟨hall,hbig,by omega⟩,if_neg hf,if_pos rfl,if_pos (by simp [hne])]
theorem qyR{argTypes:Array TypeId}{x y:TV}{x' y':V}{R:Type}{k:TV->Option R}{r:R}(hx:RV x x')(hy:RV y y')(h:qwd P argTypes x y R k=some r) :
  ∃z u,k z=some r/\qc2 P argTypes x' y'=some u/\RV z u:=by
 unfold qwd at h;split at h
 ·rename_i elem yt h0 h1;split at h
  ·-- nothing is appended
   rename_i ow;simp only [RV]at hy;obtain ⟨fy,cy,rfl,_⟩:=hy;split at h
   ·rename_i e τ o l;split at h
    ·rename_i hc;obtain ⟨ho,hcl,hs0,hz,hb,hok,hel⟩:=hc;obtain ⟨q,hq,hk⟩:=qd.1 h;obtain ⟨hn,rfl⟩:=qfD hq;simp only [RV,RTy]at hx;obtain ⟨fx,cx,l',rfl,hfx,hall⟩:=hx;have hfo:fx=.own:=hfx.own ho;subst hfo;have hv:=(qfx (l:=l') (l2:=[]) (y:=.sl fy cy []) h0 h1 rfl hs0 hz (by simp) (λe he=>by rw [(qdC hel hall e he).1,hcl]) (by rw [hall.length];exact hn) hb).1 cx;refine ⟨_,_,hk,hv,?_⟩;simp only [RV,RTy];exact ⟨.own,false,_,rfl,qfi ho,by simpa using hall⟩
    ·cases h
   ·rename_i e;split at h
    ·rename_i hc;obtain ⟨hoe,hs0,hz,hb⟩:=hc;simp only [RV]at hx;obtain ⟨fx,cx,rfl,hfx⟩:=hx;have hfo:fx=.own:=hfx.own hoe;subst hfo;have hv:=(qfx (l:=[]) (l2:=[]) (y:=.sl fy cy []) h0 h1 rfl hs0 hz (by simp) (by simp) (by simp) hb).1 cx;exact ⟨_,_,h,hv,by simp only [RV];exact ⟨_,_,rfl,hfx⟩⟩
    ·cases h
   ·cases h
  ·split at h
   ·cases h
   ·rename_i τ o2 l2 ht;obtain ⟨l2',hl2',hall2⟩:=qBg ht hy;split at h
    ·rename_i hc;obtain ⟨hcl,hs0,hz,hb,hok,hel⟩:=hc;have hc2:∀e∈l2',e.cells.length=P.cellsOf elem/\e.oks=true/\e.qq=[]:=λe he=>by
      obtain ⟨h1,h2,h3⟩:=qdC hel hall2 e he;exact ⟨by rw [h1,hcl],h2,h3⟩
     split at h
     ·rename_i τ' o l;split at h
      ·rename_i he;subst he;split at h
       ·rename_i hoo;obtain ⟨q,hq,hk⟩:=qd.1 h;obtain ⟨hn,rfl⟩:=qfD hq;simp only [RV,RTy]at hx;obtain ⟨fx,cx,l',rfl,hfx,hall⟩:=hx;have hfo:fx=.own:=hfx.own hoo;subst hfo;have hv:=(qfx (l:=l') (l2:=l2') h0 h1 hl2' hs0 hz hc2 (λe he=>by rw [(qdC hel hall e he).1,hcl]) (by rw [hall.length,hall2.length];exact hn) hb).1 cx;refine ⟨_,_,hk,hv,?_⟩;simp only [RV,RTy];split
        ·rename_i hf;exact ⟨.own,false,_,rfl,qfi hoo,hall.append (hall2.mono λa b hab=>qh6 _ _ _ _ _ hf hab)⟩
        ·have hall':∀d o',fits d o' (nx 2001)=true:=λd o'=>by cases d<;>rfl
         exact ⟨.own,false,_,rfl,qfi rfl,(hall.mono λa b hab=>qh6 _ _ _ _ _ (hall' _ _) hab).append (hall2.mono λa b hab=>qh6 _ _ _ _ _ (hall' _ _) hab)⟩
       ·cases h
      ·cases h
     ·split at h
      ·rename_i hup0;obtain ⟨hoe,hup⟩:=hup0;obtain ⟨hup1,hup2⟩:=qCn hup;obtain ⟨q,hq,hk⟩:=qd.1 h;obtain ⟨hn,rfl⟩:=qfD hq;simp only [RV]at hx;obtain ⟨fx,cx,rfl,hfx⟩:=hx;have hfo:fx=.own:=hfx.own hoe;subst hfo;have hv:=(qfx (l:=[]) (l2:=l2') h0 h1 hl2' hs0 hz hc2 (by simp) (by rw [hall2.length];simpa using hn) hb).1 cx;refine ⟨_,_,hk,hv,?_⟩;simp only [RV,RTy];exact ⟨.own,false,_,rfl,qfi hup,by rw [hup1];simpa using hall2⟩
      ·cases h
     ·rename_i τ' l;split at h
      ·rename_i he;subst he;obtain ⟨q,hq,hk⟩:=qd.1 h;obtain ⟨hn,rfl⟩:=qfD hq;simp only [RV]at hx;obtain ⟨fx,l',rfl,hfx,hall⟩:=hx;have hup:∀{o:Nat} {m:List τ'.den} {m':List V},All2 (RTy τ' o) m m'->All2 (RTy τ' (nx 2000)) m m':=λhm=>hm.mono λa b hab=>qh6 _ _ _ _ _ (qtd _ _) hab;have hv2:=qfx (l:=l') (l2:=l2') h0 h1 hl2' hs0 hz hc2 (λe he=>by rw [(qdC hel hall e he).1,hcl]) (by rw [hall.length,hall2.length];exact hn) hb;by_cases hne:l2'=[]
       ·refine ⟨_,_,hk,hv2.2.2 hne fx hfx,?_⟩;subst hne;cases hall2;simp only [RV,RTy];exact ⟨fx,true,l',rfl,⟨λe=>absurd rfl e,λe=>by cases e⟩,by simpa [cast']using hup hall⟩
       ·refine ⟨_,_,hk,hv2.2.1 hne fx hfx,?_⟩;simp only [RV,RTy];exact ⟨.own,false,_,rfl,⟨λe=>absurd rfl e,λe=>by cases e⟩,(hup hall).append (hup hall2)⟩
      ·cases h
     ·cases h
    ·cases h
 ·cases h
theorem qac{op:BinOp}{t:TypeId}{xo yo:Operand}{a b u:Value}(h:Ab.valOf P (do eqGuard op t xo yo a b;Go.binOp op t a b)=some u):qnV P op t xo yo (.val a) (.val b)=some (qcl u):=by
 unfold qnV;simp only [V.toVal,h,qi]
theorem qo{α β:Type}(s:Sem α)(g:α->Sem β):Ab.valOf P (s >>= g)=(Ab.valOf P s).bind λa=>Ab.valOf P (g a):=by
 induction s with
 |pure a=>rfl
 |program k ih=>exact ih P
 |mark m k ih=>exact ih
 |_=>rfl
theorem qM{α:Type}(a:α):Ab.valOf P (pure a)=some a:=rfl
theorem qxz{t:TypeId}{xo yo:Operand}{k1 k2:IntKind}{a b n:Int}(h:qFZ k1 a b=some n):qnV P .shl t xo yo (.val (.int k1 a)) (.val (.int k2 b))=some (.val (.int k1 n)):=by
 unfold qFZ at h;split at h
 ·rename_i h0;cases h;exact qac (u:=.int k1 _) (by simp [eqGuard,Go.binOp,Op.shift,Int.not_lt.2 h0,qM])
 ·cases h
theorem qxA{t:TypeId}{xo yo:Operand}{k1 k2:IntKind}{a b n:Int}(h:qF0 k1 a b=some n):qnV P .shr t xo yo (.val (.int k1 a)) (.val (.int k2 b))=some (.val (.int k1 n)):=by
 unfold qF0 at h;split at h
 ·rename_i h0;cases h;exact qac (u:=.int k1 _) (by simp [eqGuard,Go.binOp,Op.shift,Int.not_lt.2 h0,qM])
 ·cases h
theorem qC1{op:BinOp}{t:TypeId}{xo yo:Operand}{k1:IntKind}{a b:Int}{R:Type}{k:TV->Option R}{r:R}{o1 o2:Nat}(h:quF P op t (.t (.int k1) o1 a) (.t (.int k1) o2 b) R k=some r) :
  ∃z u,k z=some r/\qnV P op t xo yo (.val (.int k1 a)) (.val (.int k1 b))=some u/\RV z u:=by
 have hrem:∀{z:TV},(bif decide (b=0)then none else k z)=some r->b≠0/\k z=some r:=λ{z} h=>by
  cases hd:decide (b=0)with
  |true=>rw [hd]at h;cases h
  |false=>rw [hd]at h;exact ⟨of_decide_eq_false hd,h⟩
 cases op<;>simp only [quF,if_true]at h<;>try (cases h;done)
 case quo =>
  obtain ⟨h0,h⟩:=hrem h;refine ⟨_,.val (.int k1 (k1.wrap (a.tdiv b))),h,?_,by simp [RV,RTy]⟩;exact qac (u:=.int k1 (k1.wrap (a.tdiv b))) (by simp [eqGuard,Go.binOp,Op.intDiv,h0,qM])
 case rem =>
  obtain ⟨h0,h⟩:=hrem h;refine ⟨_,.val (.int k1 (a.tmod b)),h,?_,by simp [RV,RTy]⟩;exact qac (u:=.int k1 (a.tmod b)) (by simp [eqGuard,Go.binOp,Op.intDiv,h0,qM])
 case add =>
  refine ⟨_,.val (.int k1 (k1.wrap (a+b))),h,?_,by simp [RV,RTy]⟩;exact qac (u:=.int k1 (k1.wrap (a+b))) (by simp [eqGuard,Go.binOp,Op.intArith,qM])
 case sub =>
  refine ⟨_,.val (.int k1 (k1.wrap (a-b))),h,?_,by simp [RV,RTy]⟩;exact qac (u:=.int k1 (k1.wrap (a-b))) (by simp [eqGuard,Go.binOp,Op.intArith,qM])
 case mul =>
  refine ⟨_,.val (.int k1 (k1.wrap (a*b))),h,?_,by simp [RV,RTy]⟩;exact qac (u:=.int k1 (k1.wrap (a*b))) (by simp [eqGuard,Go.binOp,Op.intArith,qM])
 case eql =>
  refine ⟨_,.val (.bool (decide (a=b))),h,?_,by simp [RV,RTy]⟩;exact qac (u:=.bool (decide (a=b))) (by simp [eqGuard,Go.binOp,Op.intCmp,qM];rfl)
 case neq =>
  refine ⟨_,.val (.bool (!decide (a=b))),h,?_,by simp [RV,RTy]⟩;exact qac (u:=.bool (!decide (a=b))) (by simp [eqGuard,Go.binOp,Op.intCmp,qM,bne];rfl)
 case lss =>
  refine ⟨_,.val (.bool (decide (a<b))),h,?_,by simp [RV,RTy]⟩;exact qac (u:=.bool (decide (a<b))) (by simp [eqGuard,Go.binOp,Op.intCmp,qM])
 case leq =>
  refine ⟨_,.val (.bool (decide (a<=b))),h,?_,by simp [RV,RTy]⟩;exact qac (u:=.bool (decide (a<=b))) (by simp [eqGuard,Go.binOp,Op.intCmp,qM])
 case gtr =>
  refine ⟨_,.val (.bool (decide (a > b))),h,?_,by simp [RV,RTy]⟩;exact qac (u:=.bool (decide (a > b))) (by simp [eqGuard,Go.binOp,Op.intCmp,qM])
 case geq =>
  refine ⟨_,.val (.bool (decide (a>=b))),h,?_,by simp [RV,RTy]⟩;exact qac (u:=.bool (decide (a>=b))) (by simp [eqGuard,Go.binOp,Op.intCmp,qM])
 case and =>
  refine ⟨_,.val (.int k1 (qFC k1 a b)),h,?_,by simp [RV,RTy]⟩;exact qac (u:=.int k1 (qFC k1 a b)) (by simp [eqGuard,Go.binOp,Op.intBits,qM,qFC])
 case or =>
  refine ⟨_,.val (.int k1 (orI k1 a b)),h,?_,by simp [RV,RTy]⟩;exact qac (u:=.int k1 (orI k1 a b)) (by simp [eqGuard,Go.binOp,Op.intBits,qM,orI])
 case xor =>
  refine ⟨_,.val (.int k1 (qFE k1 a b)),h,?_,by simp [RV,RTy]⟩;exact qac (u:=.int k1 (qFE k1 a b)) (by simp [eqGuard,Go.binOp,Op.intBits,qM,qFE])
 case andNot =>
  refine ⟨_,.val (.int k1 (qro k1 a b)),h,?_,by simp [RV,RTy]⟩;exact qac (u:=.int k1 (qro k1 a b)) (by simp [eqGuard,Go.binOp,Op.intBits,qM,qro])
 case shl =>
  obtain ⟨n,hn,hk⟩:=qd.1 h;exact ⟨_,_,hk,qxz hn,by simp [RV,RTy]⟩
 case shr =>
  obtain ⟨n,hn,hk⟩:=qd.1 h;exact ⟨_,_,hk,qxA hn,by simp [RV,RTy]⟩
theorem qyS{op:BinOp}(hop:op=.shl\/op=.shr){t:TypeId}{xo yo:Operand}{k1 k2:IntKind}{a b:Int}{R:Type}{k:TV->Option R}{r:R}{o1 o2:Nat}(h:quF P op t (.t (.int k1) o1 a) (.t (.int k2) o2 b) R k=some r) :
  ∃z u,k z=some r/\qnV P op t xo yo (.val (.int k1 a)) (.val (.int k2 b))=some u/\RV z u:=by
 rcases hop with rfl|rfl
 ·simp only [quF]at h;obtain ⟨n,hn,hk⟩:=qd.1 h;exact ⟨_,_,hk,qxz hn,by simp [RV,RTy]⟩
 ·simp only [quF]at h;obtain ⟨n,hn,hk⟩:=qd.1 h;exact ⟨_,_,hk,qxA hn,by simp [RV,RTy]⟩
theorem qno{op:BinOp}{k:FloatKind}{x y r:Nat}(h:floatBits op k x y=some r):Ab.valOf P (Op.floatArith op k x y)=some (.float k r):=by
 unfold floatBits at h;cases op<;>simp only at h<;>first|(cases h;done)|skip
 all_goals (simp [Op.floatArith,h];rfl)
theorem qbA{op:BinOp}{k:FloatKind}{x y r:Nat}(h:floatBits op k x y=some r):Ab.valOf P (Op.Complex.arith op k x y)=some r:=by
 unfold Op.Complex.arith;rw [qo,qno h];rfl
theorem qyW{t:TypeId}{a b c d re im:Nat}(h:cSumBits .add .f64 a b c d=some (re,im)):Ab.valOf P (Go.binOp .add t (.complex .f64 a b) (.complex .f64 c d))=some (.complex .f64 re im):=by
 unfold cSumBits at h;obtain ⟨x,h1,h⟩:=qd.1 h;obtain ⟨y,h2,h⟩:=qd.1 h;cases h;simp only [Go.binOp,ne_eq,not_true,if_false,Op.complexOp];rw [qo,qbA h1,qa,qo,qbA h2];rfl
theorem qyV{t:TypeId}{a b c d re im:Nat}(h:cMulBits a b c d=some (re,im)):Ab.valOf P (Go.binOp .mul t (.complex .f64 a b) (.complex .f64 c d))=some (.complex .f64 re im):=by
 unfold cMulBits at h;obtain ⟨ac,h1,h⟩:=qd.1 h;obtain ⟨bd,h2,h⟩:=qd.1 h;obtain ⟨x,h3,h⟩:=qd.1 h;obtain ⟨ad,h4,h⟩:=qd.1 h;obtain ⟨bc,h5,h⟩:=qd.1 h;obtain ⟨y,h6,h⟩:=qd.1 h;cases h;have hp:Ab.valOf P (Op.Complex.product a b c d)=some (re,im):=by
  unfold Op.Complex.product Op.Complex.mul Op.Complex.sub Op.Complex.add;rw [qo,qbA h1,qa,qo,qbA h2,qa,qo,qbA h3,qa,qo,qbA h4,qa,qo,qbA h5,qa,qo,qbA h6];rfl
 have hc:∀x,Ab.valOf P (Op.Complex.conv .f64 x .f64)=some x:=λx=>by unfold Op.Complex.conv;simp [qM]
 simp only [Go.binOp,ne_eq,not_true,if_false,Op.complexOp];rw [qo,hc,qa,qo,hc,qa,qo,hc,qa,qo,hc,qa];simp only [beq_self_eq_true,if_true];rw [qo,hp,qa,qo,hc,qa,qo,hc];rfl
theorem qdV{n m:Int}(h:flo n=some m):m=n/\n.natAbs<2 ^ 53:=by
 unfold flo at h;split at h
 ·rename_i h1;cases h;exact ⟨rfl,h1⟩
 ·cases h
theorem qEt{op:BinOp}{t:TypeId}{xo yo:Operand}{a b:Int×Int}{x y:V}{o1 o2:Nat}{R:Type}{k:TV->Option R}{r:R}(hx:RV (.t .cx o1 a) x)(hy:RV (.t .cx o2 b) y)(h:quF P op t (.t .cx o1 a) (.t .cx o2 b) R k=some r) :
  ∃z u,k z=some r/\qnV P op t xo yo x y=some u/\RV z u:=by
 simp only [RV,RTy]at hx hy;obtain ⟨b1,b2,rfl,i1,i2⟩:=hx;obtain ⟨c1,c2,rfl,j1,j2⟩:=hy;unfold quF at h;simp only at h;split at h
 ·obtain ⟨re,h1,h⟩:=qd.1 h;obtain ⟨im,h2,h⟩:=qd.1 h;obtain ⟨rfl,g1⟩:=qdV h1;obtain ⟨rfl,g2⟩:=qdV h2;obtain ⟨re,im,e,r1,r2⟩:=Fl.qDS i1 i2 j1 j2 g1 g2;refine ⟨_,.val (.complex .f64 re im),h,qac (u:=.complex .f64 re im) ?_,by simp only [RV,RTy];exact ⟨re,im,rfl,r1,r2⟩⟩;rw [qo];show (some ()).bind (λ_=>Ab.valOf P (Go.binOp .add t (.complex .f64 b1 b2) (.complex .f64 c1 c2)))=_;exact qyW e
 ·obtain ⟨ac,h1,h⟩:=qd.1 h;obtain ⟨bd,h2,h⟩:=qd.1 h;obtain ⟨rfl,g1⟩:=qdV h1;obtain ⟨rfl,g2⟩:=qdV h2;obtain ⟨x,h3,h⟩:=qd.1 h;obtain ⟨rfl,g3⟩:=qdV h3;obtain ⟨ad,h4,h⟩:=qd.1 h;obtain ⟨bc,h5,h⟩:=qd.1 h;obtain ⟨rfl,g4⟩:=qdV h4;obtain ⟨rfl,g5⟩:=qdV h5;obtain ⟨y,h6,h⟩:=qd.1 h;obtain ⟨rfl,g6⟩:=qdV h6;obtain ⟨re,im,e,r1,r2⟩:=Fl.qDR i1 i2 j1 j2 g1 g2 g3 g4 g5 g6;refine ⟨_,.val (.complex .f64 re im),h,qac (u:=.complex .f64 re im) ?_,by simp only [RV,RTy];exact ⟨re,im,rfl,r1,r2⟩⟩;rw [qo];show (some ()).bind (λ_=>Ab.valOf P (Go.binOp .mul t (.complex .f64 b1 b2) (.complex .f64 c1 c2)))=_;exact qyV e
 ·cases h
theorem qC2{op:BinOp}{t:TypeId}{xo yo:Operand}{a b:List UInt8}{R:Type}{k:TV->Option R}{r:R}{o1 o2:Nat}(h:quF P op t (.t .str o1 a) (.t .str o2 b) R k=some r) :
  ∃z u,k z=some r/\qnV P op t xo yo (.val (.string ⟨a.toArray⟩)) (.val (.string ⟨b.toArray⟩))=some u/\RV z u:=by
 cases op<;>simp only [quF]at h<;>try (cases h;done)
 case eql =>
  refine ⟨_,.val (.bool (decide (a=b))),h,?_,by simp [RV,RTy]⟩;exact qac (u:=.bool (decide (a=b))) (by simp [eqGuard,binOp_string_eql,qM];rw [Bool.eq_iff_iff];simp)
 case neq =>
  refine ⟨_,.val (.bool (!decide (a=b))),h,?_,by simp [RV,RTy]⟩;exact qac (u:=.bool (!decide (a=b))) (by simp [eqGuard,binOp_string_neq,qM];rw [Bool.eq_iff_iff];simp)
 case lss =>
  refine ⟨_,.val (.bool (Op.bytesLess a b)),h,?_,by simp [RV,RTy]⟩;exact qac (u:=.bool (Op.bytesLess a b)) (by simp [eqGuard,binOp_string_lss,qM])
 case add =>
  obtain ⟨q,hq,hk⟩:=qd.1 h;obtain ⟨hn,rfl⟩:=qfD hq;refine ⟨_,.val (.string ⟨(a++b).toArray⟩),hk,?_,by simp [RV,RTy]⟩;refine qac (u:=.string ⟨(a++b).toArray⟩) ?_;have h1:(⟨a.toArray⟩:ByteArray).size=a.length:=by simp [ByteArray.size]
  have h2:(⟨b.toArray⟩:ByteArray).size=b.length:=by simp [ByteArray.size]
  have h3:(⟨a.toArray⟩++⟨b.toArray⟩:ByteArray)=⟨(a++b).toArray⟩:=by apply ByteArray.ext;simp
  have h4:¬ (((⟨a.toArray⟩:ByteArray).size+(⟨b.toArray⟩:ByteArray).size:Nat):Int) > IntKind.i64.max:=by
   rw [h1,h2];simp only [IntKind.max,IntKind.signed,IntKind.bits,if_true]<;>omega
  have h5:Go.binOp .add t (.string ⟨a.toArray⟩) (.string ⟨b.toArray⟩)=pure (.string ⟨(a++b).toArray⟩):=by
   simp only [Go.binOp,Op.stringOp];rw [if_neg h4,h3]
  simp only [eqGuard];rw [h5];rfl
theorem qt{t:TypeId}{d:TypeDesc}(h:P.underlying t=some d):Ab.valOf P (underlying t)=some d:=by
 unfold Go.underlying;simp only [qo];have h1:Ab.valOf P Go.program=some P:=rfl;simp only [h1,qa,h];rfl
theorem qmA{n:Nat}{t:TypeId}(h:P.underlying t=some .bool)(a b:Bool):Ab.valOf P (Op.equalIn (n+1) t (.bool a) (.bool b))=some (a==b):=by
 unfold Op.equalIn;rw [qo,qt h];rfl
theorem qvb{n:Nat}{t:TypeId}{k0:IntKind}(h:P.underlying t=some (.int k0))(k:IntKind)(a b:Int):Ab.valOf P (Op.equalIn (n+1) t (.int k a) (.int k b))=some (decide (a=b)):=by
 unfold Op.equalIn;rw [qo,qt h];simp only [qa,if_true];rfl
theorem qvc{n:Nat}{t:TypeId}(h:P.underlying t=some .string)(a b:List UInt8):Ab.valOf P (Op.equalIn (n+1) t (.string ⟨a.toArray⟩) (.string ⟨b.toArray⟩))=some (decide (a=b)):=by
 unfold Op.equalIn;rw [qo,qt h];simp only [qa];show some ((⟨a.toArray⟩:ByteArray)==⟨b.toArray⟩)=_;rw [qb,Bool.eq_iff_iff];first
 |(show (a.toArray==b.toArray)=true↔decide (a=b)=true;simp)
 |(show decide ((⟨a.toArray⟩:ByteArray)=⟨b.toArray⟩)=true↔decide (a=b)=true;simp)
def qFH(x:TV)(u:Value):Prop:=(qyF x=true/\RV x (.val u))\/∃(l:List TV) (vs:List Value),x=.agg l/\u=.agg vs.toArray/\l.all qyF=true/\RVL l (vs.map .val)
theorem qCL{x:TV}{v:V}(h:qyF x=true)(hr:RV x v):∃u,v=.val u:=by
 cases x with
 |t τ o x=>cases τ<;>simp only [RV,RTy]at hr<;>first|exact ⟨_,hr⟩|simp [qyF]at h
 |_=>simp [qyF]at h
theorem qpt:∀{l:List TV} {l':List V},l.all qyF=true->RVL l l'->∃vs:List Value,l'=vs.map .val
 |[],l',_,h=>by simp only [RVL]at h;exact ⟨[],by simp [h]⟩
 |x::l,l',h1,h=>by
  simp only [RVL]at h;obtain ⟨v,m,rfl,h2,h3⟩:=h;simp only [List.all_cons,qe]at h1;obtain ⟨u,rfl⟩:=qCL h1.1 h2;obtain ⟨vs,rfl⟩:=qpt h1.2 h3;exact ⟨u::vs,rfl⟩
theorem qj5:∀vs:List Value,toValL (vs.map .val)=some vs
 |[]=>rfl
 |u::vs=>by simp [toValL,V.toVal,qj5 vs]
theorem qp4{t:TypeId}{i:TypeInfo}(h:P.info? t=some i):Ab.valOf P (typeInfo t)=some i:=by
 unfold typeInfo;simp only [qo];have h1:Ab.valOf P Go.program=some P:=rfl;simp only [h1,qa,h];rfl
theorem qpJ{t:TypeId}{d:TypeDesc}(h:P.underlying t=some d):∃i,P.info? t=some i:=by
 unfold Program.underlying at h;cases hi:P.info? t with
 |none=>rw [hi]at h;cases h
 |some i=>exact ⟨i,rfl⟩
theorem qvK{t:TypeId}{xs:List TV}{vs:List Value}{off:Nat}{u:TV}(hs:xs.all qyF=true)(hr:RVL xs (vs.map .val))(h:qaQ P t (xs.drop off)=some u) :
  ∃w,Ab.valOf P (part t vs.toArray off)=some w/\qFH u w:=by
 unfold qaQ at h;split at h
 ·cases h
 ·rename_i d hd;obtain ⟨i,hi⟩:=qpJ hd;have hsz:Ab.valOf P (sizeOf t)=some (P.cellsOf t):=by
   unfold sizeOf;rw [qo,qp4 hi];simp [Program.cellsOf,hi,qM]
  have hag:Ab.valOf P (isAgg t)=some (qN P t):=by
   unfold isAgg qN;rw [qo,qt hd,hd];cases d<;>rfl
  unfold part;rw [qo,hag];simp only [qa];split at h
  ·rename_i ha;rw [if_pos ha];split at h
   ·rename_i hl;cases h;rw [qo,hsz];refine ⟨_,rfl,.inr ⟨_,(vs.drop off).take (P.cellsOf t),rfl,?_,?_,?_⟩⟩
    ·congr 1
     apply Array.ext';simp [List.take_drop]
    ·rw [List.all_eq_true]at hs ⊢;exact λy hy=>hs y (List.mem_of_mem_drop (List.mem_of_mem_take hy))
    ·rw [List.map_take,List.map_drop];exact (hr.drop off).take _
   ·cases h
  ·rename_i ha;rw [if_neg ha];have hx:xs[off]?=some u:=by simpa [List.head?_drop]using h
   obtain ⟨v,hv,hrv⟩:=hr.get hx;rw [List.getElem?_map]at hv;obtain ⟨w,hw,rfl⟩:=qc.1 hv;have hw':vs.toArray[off]?=some w:=by simpa using hw
   rw [hw'];refine ⟨w,rfl,.inl ⟨?_,hrv⟩⟩;rw [List.all_eq_true]at hs;exact hs u (List.mem_of_getElem? hx)
theorem qxr:∀(d:Nat) (t:TypeId) (x y:TV) (b:Bool),teq P d t x y=some b->∀n,d<=n->∀u v,qFH x u->qFH y v->Ab.valOf P (Op.equalIn n t u v)=some b
 |0,t,x,y,b,h,n,hn,u,v,hu,hv=>by simp [teq]at h
 |d+1,t,x,y,b,h,n,hn,u,v,hu,hv=>by
  obtain ⟨n,rfl⟩:∃m,n=m+1:=⟨n-1,by omega⟩
  unfold teq at h;split at h
  ·rename_i k0 k o a k' o' a' ht;split at h
   ·rename_i hk;subst hk;cases h;rcases hu with ⟨_,hu⟩|⟨_,_,hu,_⟩
    ·rcases hv with ⟨_,hv⟩|⟨_,_,hv,_⟩
     ·simp only [RV,RTy,V.val.injEq]at hu hv;subst hu;subst hv;exact qvb ht _ _ _
     ·cases hv
    ·cases hu
   ·cases h
  ·rename_i o a o' a' ht;cases h;rcases hu with ⟨_,hu⟩|⟨_,_,hu,_⟩
   ·rcases hv with ⟨_,hv⟩|⟨_,_,hv,_⟩
    ·simp only [RV,RTy,V.val.injEq]at hu hv;subst hu;subst hv;exact qmA ht _ _
    ·cases hv
   ·cases hu
  ·rename_i o a o' a' ht;cases h;rcases hu with ⟨_,hu⟩|⟨_,_,hu,_⟩
   ·rcases hv with ⟨_,hv⟩|⟨_,_,hv,_⟩
    ·simp only [RV,RTy,V.val.injEq]at hu hv;subst hu;subst hv;exact qvc ht _ _
    ·cases hv
   ·cases hu
  ·rename_i fields xs ys ht;split at h
   ·cases h
   ·rename_i hheld;rcases hu with ⟨hu,_⟩|⟨l,vs,hl,rfl,hsx,hrx⟩
    ·simp [qyF]at hu
    ·rcases hv with ⟨hv,_⟩|⟨m,ws,hm,rfl,hsy,hry⟩
     ·simp [qyF]at hv
     ·cases hl;cases hm
      unfold Op.equalIn;rw [qo, qt ht];simp only [qa];rw [qo];have h1 : Ab.valOf P Go.program = some P := rfl;simp only [h1, qa];rw [if_neg hheld, qo, <- Array.forIn_toList];have key : ∀ (fs : List Field) (b : Bool), fs.foldr (fun fd acc => if fd.name = "_" then none else
        match qaQ P fd.type (xs.drop fd.offset),qaQ P fd.type (ys.drop fd.offset),acc with
        |some u,some v,some b=>(teq P d fd.type u v).map λa=>bif a then b else false
        |_,_,_=>none) (some true)=some b ->
        Ab.valOf P (forIn fs ((none:Option Bool),()) λf __s=>(
         if f.name ≠ "_" then do
          let __do_lift <- part f.type vs.toArray f.offset
          let __do_lift_1 <- part f.type ws.toArray f.offset
          let __do_lift <- Op.equalIn n f.type __do_lift __do_lift_1
          if (!__do_lift)=true then pure (ForInStep.done (some false,()))
           else pure (ForInStep.yield (none,()))
         else pure (ForInStep.yield (none,())):Sem _))=some (if b then (none,())else (some false,())):=by
       intro fs;induction fs with
       |nil=>intro b hb;simp only [List.foldr_nil,qb]at hb;subst hb;rfl
       |cons fd fs ih =>
        intro b hb;simp only [List.foldr_cons]at hb;split at hb
        ·cases hb
        ·rename_i qcw;split at hb
         ·rename_i u v b' hu hv hacc;obtain ⟨a,ha,rfl⟩:=qc.1 hb;obtain ⟨w1,hw1,hr1⟩:=qvK hsx hrx hu;obtain ⟨w2,hw2,hr2⟩:=qvK hsy hry hv;have he:=qxr d fd.type u v a ha n (by omega) w1 w2 hr1 hr2;have ih':=ih b' hacc;rw [List.forIn_cons,qo,if_pos qcw,qo,hw1];simp only [qa];rw [qo,hw2];simp only [qa];rw [qo,he];simp only [qa];cases a with
          |true =>
           simp only [Bool.not_true,qf,if_false,qM,qa,cond_true];exact ih'
          |false =>
           simp only [Bool.not_false,if_true,qM,qa,cond_false,qf,if_false]
         ·cases hb
      have hkey:=key fields.toList b h;rw [hkey];simp only [qa];cases b<;>rfl
  ·cases h
theorem qdM:9<=Op.maxDepth:=by unfold Op.maxDepth;omega
theorem qC0{op:BinOp}{t:TypeId}{xo yo:Operand}{l m:List TV}{l' m':List V}{R:Type}{k:TV->Option R}{r:R}(hl:RVL l l')(hm:RVL m m')(h:quF P op t (.agg l) (.agg m) R k=some r) :
  ∃z u,k z=some r/\qnV P op t xo yo (.agg l') (.agg m')=some u/\RV z u:=by
 simp only [quF]at h;split at h
 ·cases h
 ·rename_i hc;simp only [Bool.or_eq_true,Bool.not_eq_true',not_or,Bool.not_eq_true,Bool.not_eq_false,qe]at hc;obtain ⟨hg,hs1,hs2⟩:=hc;split at h
  ·rename_i b hb;obtain ⟨vs,rfl⟩:=qpt hs1 hl;obtain ⟨ws,rfl⟩:=qpt hs2 hm;have he:=qxr 9 t _ _ b hb Op.maxDepth qdM _ _ (.inr ⟨l,vs,rfl,rfl,hs1,hl⟩) (.inr ⟨m,ws,rfl,rfl,hs2,hm⟩);have hv:∀u,Ab.valOf P (do eqGuard op t xo yo (.agg vs.toArray) (.agg ws.toArray);Go.binOp op t (.agg vs.toArray) (.agg ws.toArray))=some u->qnV P op t xo yo (.agg (vs.map .val)) (.agg (ws.map .val))=some (qcl u):=λu hu=>by
    unfold qnV;simp only [V.toVal,qj5,qi,hu]
   have hguard:∀op,(op=.eql\/op=.neq)->Ab.valOf P (eqGuard op t xo yo (.agg vs.toArray) (.agg ws.toArray))=some ():=λop hop=>by
    have h1:Ab.valOf P Go.program=some P:=rfl;rcases hop with rfl|rfl<;>simp only [eqGuard]<;>(simp only [Bool.not_true,qf,if_false,qo,h1,qa,hg,Bool.not_false,if_true];rfl)
   split at h
   ·refine ⟨_,.val (.bool b),h,?_,by simp [RV,RTy]⟩;refine hv (.bool b) ?_;rw [qo,hguard .eql (.inl rfl)];simp only [qa];show Ab.valOf P (Op.equal t _ _ >>= λx=>(pure (Value.bool x):Sem Value))=_;rw [qo];unfold Op.equal;rw [he];rfl
   ·refine ⟨_,.val (.bool (!b)),h,?_,by simp [RV,RTy]⟩;refine hv (.bool (!b)) ?_;rw [qo,hguard .neq (.inr rfl)];simp only [qa];show Ab.valOf P (Op.equal t _ _ >>= λx=>(pure (Value.bool (!x)):Sem Value))=_;rw [qo];unfold Op.equal;rw [he];rfl
   ·cases h
  ·cases h
theorem qqh{t:TypeId}(h:P.underlying t=some .bool)(a b:Bool):Ab.valOf P (Op.equal t (.bool a) (.bool b))=some (a==b):=by
 unfold Op.equal;obtain ⟨n,hn⟩:∃n,Op.maxDepth=n+1:=⟨Op.maxDepth-1,by have:=qdM;omega⟩
 rw [hn];exact qmA h a b
theorem qBk{op:BinOp}{t:TypeId}{xo yo:Operand}{a b:Bool}{R:Type}{k:TV->Option R}{r:R}{o1 o2:Nat}(h:quF P op t (.t .bool o1 a) (.t .bool o2 b) R k=some r) :
  ∃z u,k z=some r/\qnV P op t xo yo (.val (.bool a)) (.val (.bool b))=some u/\RV z u:=by
 simp only [quF]at h;split at h
 ·rename_i hu;refine ⟨_,.val (.bool (a==b)),h,?_,by simp [RV,RTy]⟩;refine qac (u:=.bool (a==b)) ?_;show Ab.valOf P (Op.equal t _ _ >>= λx=>(pure (Value.bool x):Sem Value))=_;rw [qo,qqh hu];rfl
 ·rename_i hu;refine ⟨_,.val (.bool (!(a==b))),h,?_,by simp [RV,RTy]⟩;refine qac (u:=.bool (!(a==b))) ?_;show Ab.valOf P (Op.equal t _ _ >>= λx=>(pure (Value.bool (!x)):Sem Value))=_;rw [qo,qqh hu];rfl
 ·cases h
theorem quL{argTypes:Array TypeId}{s n:Nat}{y:V}:qc2 P argTypes (.room s n) y=none:=by
 unfold qc2;split
 ·simp only
  split
  ·rfl
  ·split
   ·rfl
   ·rfl
 ·rfl
theorem qsH{argTypes:Array TypeId}{s n:Nat}{y:V}:qeZ P argTypes (.room s n) y=none:=by
 unfold qeZ;split
 ·rename_i h;cases h
 ·rfl
theorem qwe{argTypes:Array TypeId}{x y:TV}{x' y':V}{R:Type}{k:TV->Option R}{r:R}(hx:RV x x')(hy:RV y y')(h:qsz P argTypes x y R k=some r) :
  ∃z u,k z=some r/\(qc2 P argTypes x' y').or ((qeZ P argTypes x' y').or (qg6 P argTypes x' y'))=some u/\RV z u:=by
 unfold qsz at h;split at h
 ·rename_i elem yt h0 h1;split at h
  ·rename_i hc0;obtain ⟨hs0,hz,hb⟩:=hc0;split at h
   ·rename_i ik o n;simp only [RV]at hx;subst hx;simp only [RV,RTy]at hy;subst hy;cases hd:(decide (0<n)&&decide (n<=4294967296))with
    |false=>rw [hd]at h;cases h
    |true =>
     rw [hd]at h;simp only [qe,decide_eq_true_eq]at hd;have key:∀m:Int,0<m->m<=4294967296->m.toNat<=4294967296/\m<=70368744177664:=λm _ _=>by omega
     obtain ⟨key1,key2⟩:=key n hd.1 hd.2;refine ⟨_,.room (P.cellsOf elem) n.toNat,h,?_,by simp [RV]⟩;have e1:qc2 P argTypes (.val (.slice none 0 0)) (.val (.int .i64 n))=none:=by
      rw [qmt h0 h1];rfl
     have hbig:n.toNat*P.bytesOf elem<=4294967296*8192:=Nat.mul_le_mul key1 hb;have e2:qeZ P argTypes (.val (.slice none 0 0)) (.val (.int .i64 n))=some (.room (P.cellsOf elem) n.toNat):=by
      unfold qeZ;rw [h0,h1];simp only;rw [if_pos ⟨hd.1,key2,hs0,hz,by omega⟩]
     rw [e1,e2];rfl
   ·split at h
    ·cases h
    ·rename_i τ o2 l2 ht;obtain ⟨l2',hl2',hall2⟩:=qBg ht hy;split at h
     ·rename_i hc;obtain ⟨hcl,hok,hel,hup⟩:=hc;obtain ⟨hup1,hup2⟩:=qCn hup;have hc2:∀e∈l2',e.cells.length=P.cellsOf elem/\e.oks=true/\e.qq=[]:=λe he=>by
       obtain ⟨h1,h2,h3⟩:=qdC hel hall2 e he;exact ⟨by rw [h1,hcl],h2,h3⟩
      have hp:ptrsL l2'=[]:=by
       apply List.eq_nil_iff_forall_not_mem.2;intro r hr;obtain ⟨v,hv,hrv⟩:=qpb.1 hr;rw [(hc2 v hv).2.2]at hrv;cases hrv
      have hall2':l2'.all (λe=>decide (e.cells.length=P.cellsOf elem)&&e.oks)=true:=by
       rw [List.all_eq_true];intro e he;simp [(hc2 e he).1,(hc2 e he).2.1]
      have hlen:=hall2.length;split at h
      ·-- behind nil
       simp only [RV]at hx;subst hx;have hv:qc2 P argTypes (.val (.slice none 0 0)) y'=if l2'.isEmpty then some (.val (.slice none 0 0))else if (l2'.length+512)*P.bytesOf elem<=70368744177664/\l2'.length<=70368744177664 then some (.sl .own false l2')else none:=by
        rw [qmt h0 h1,hl2'];simp only;rw [if_neg (by simp only [not_or,Decidable.not_not,Bool.not_eq_false];exact ⟨hs0,hz,hall2',by rw [hp];rfl⟩)]
       cases hem:List.isEmpty l2 with
       |true =>
        rw [hem]at h;have hem':l2'.isEmpty=true:=by rw [List.isEmpty_iff]at hem ⊢;subst hem;cases hall2;rfl
        exact ⟨_,.val (.slice none 0 0),h,by rw [hv,if_pos hem'];rfl,by simp only [RV]⟩
       |false =>
        rw [hem]at h;obtain ⟨q,hq,hk⟩:=qd.1 h;obtain ⟨hn,rfl⟩:=qfD hq;have hem':¬ l2'.isEmpty=true:=by
         intro h9;rw [List.isEmpty_iff]at h9;subst h9;cases hall2;cases hem
        have hbig:=big (s:=l2'.length) (by rw [hlen];simpa using hn) hb;refine ⟨_,.sl .own false l2',hk,by rw [hv,if_neg hem',if_pos ⟨hbig,by rw [hlen];simp at hn;omega⟩];rfl,?_⟩;simp only [RV,RTy];exact ⟨.own,false,_,rfl,qfi hup,by rw [hup1];simpa using hall2⟩
      ·rename_i s τ2 o3 y2 _;split at h
       ·rename_i hs;subst hs;split at h
        ·rename_i q0;simp only [RV]at hx;obtain ⟨_,n,rfl,hn0⟩|⟨h9,_⟩:=hx
         case inr=>omega
         obtain rfl:=hn0 trivial;have hy2:∃fl cl,y'=.sl fl cl l2':=by
          cases τ2 with
          |sl t2=>simp only [RV,RTy]at hy;obtain ⟨f,c,l',rfl,_,_⟩:=hy;simp only [qCY]at hl2';exact ⟨f,c,by simpa using hl2'⟩
          |_=>simp [tail?]at ht
         obtain ⟨fl,cl,rfl⟩:=hy2;have hn:l2.length<=4294967296\/List.isEmpty l2=true:=by
          cases hem:List.isEmpty l2 with
          |true=>exact .inr rfl
          |false =>
           rw [hem]at h;obtain ⟨q,hq,hk⟩:=qd.1 h;obtain ⟨hn,rfl⟩:=qfD hq;exact .inl (by simpa using hn)
         have hnl:l2'.length<=4294967296:=by
          rw [hlen];rcases hn with hn|hn
          ·exact hn
          ·rw [List.isEmpty_iff]at hn;rw [hn];simp
         have hbig:l2'.length*P.bytesOf elem<=4294967296*8192:=Nat.mul_le_mul hnl hb;have hv:qg6 P argTypes (.room (P.cellsOf elem) 0) (.sl fl cl l2')=if l2'.isEmpty=true then some (.room (P.cellsOf elem) 0)else some (.sl .own false l2'):=by
          unfold qg6;rw [h0,h1];simp only;rw [if_pos ⟨trivial,hz,hall2',by rw [hp];rfl,by omega,by omega⟩]
         rw [quL,qsH,hv];cases hem:List.isEmpty l2 with
         |true =>
          rw [hem]at h;have hem':l2'.isEmpty=true:=by rw [List.isEmpty_iff]at hem ⊢;subst hem;cases hall2;rfl
          exact ⟨_,.room (P.cellsOf elem) 0,h,by rw [if_pos hem'];rfl,by simp [RV]⟩
         |false =>
          rw [hem]at h;obtain ⟨q,hq,hk⟩:=qd.1 h;obtain ⟨hn,rfl⟩:=qfD hq;have hem':¬ l2'.isEmpty=true:=by
           intro h9;rw [List.isEmpty_iff]at h9;subst h9;cases hall2;cases hem
          refine ⟨_,.sl .own false l2',hk,by rw [if_neg hem'];rfl,?_⟩;simp only [RV,RTy];exact ⟨.own,false,_,rfl,qfi hup,by rw [hup1];simpa using hall2⟩
        ·cases h
       ·cases h
      ·cases h
     ·cases h
  ·cases h
 ·cases h
end
section
variable {P:Program} {H:Hints} {f:FuncId}
theorem qoc{t:TypeId}{d:TypeDesc}(hd:P.underlying t=some d){x y:Value}(h:(∃e,d=.slice e/\x=.slice none 0 0/\y=.slice none 0 0)\/(∃e,d=.pointer e/\x=.pointer none/\y=.pointer none)\/(∃a b c,d=.func a b c/\x=.nilFunc/\y=.nilFunc)) :
  Ab.valOf P (Op.equal t x y)=some true:=by
 unfold Op.equal;obtain ⟨n,hn⟩:∃n,Op.maxDepth=n+1:=⟨Op.maxDepth-1,by have:=qdM;omega⟩
 rw [hn];unfold Op.equalIn;rw [qo,qt hd];rcases h with ⟨e,rfl,rfl,rfl⟩|⟨e,rfl,rfl,rfl⟩|⟨a,b,c,rfl,rfl,rfl⟩<;>rfl
theorem qxN{t:TypeId}{ms:_}(hd:P.underlying t=some (.interface ms)):Ab.valOf P (Op.equal t .nilIface .nilIface)=some true:=by
 unfold Op.equal;obtain ⟨n,hn⟩:∃n,Op.maxDepth=n+1:=⟨Op.maxDepth-1,by have:=qdM;omega⟩
 rw [hn];unfold Op.equalIn;rw [qo,qt hd];rfl
theorem qEu{op:BinOp}{t:TypeId}{xo yo:Operand}{x y:TV}{x' y':V}{R:Type}{k:TV->Option R}{r:R}(hx:RV x x')(hy:RV y y')(h:quF P op t x y R k=some r) :
  ∃z u,k z=some r/\qnV P op t xo yo x' y'=some u/\RV z u:=by
 by_cases h1:∃k1 o1 a k2 o2 b,x=.t (.int k1) o1 a/\y=.t (.int k2) o2 b
 ·obtain ⟨k1,o1,a,k2,o2,b,rfl,rfl⟩:=h1;simp only [RV,RTy]at hx hy;subst hx;subst hy;by_cases hs:op=.shl\/op=.shr
  ·exact qyS hs h
  by_cases hk:k1=k2
  ·subst hk;exact qC1 h
  ·unfold quF at h;cases op<;>first|exact absurd (.inl rfl) hs|exact absurd (.inr rfl) hs|simp [hk]at h
 by_cases h2:∃o1 a o2 b,x=.t .str o1 a/\y=.t .str o2 b
 ·obtain ⟨o1,a,o2,b,rfl,rfl⟩:=h2;simp only [RV,RTy]at hx hy;subst hx;subst hy;exact qC2 h
 by_cases h3:∃o1 a o2 b,x=.t .bool o1 a/\y=.t .bool o2 b
 ·obtain ⟨o1,a,o2,b,rfl,rfl⟩:=h3;simp only [RV,RTy]at hx hy;subst hx;subst hy;exact qBk h
 by_cases h5:∃o1 a o2 b,x=.t .cx o1 a/\y=.t .cx o2 b
 ·obtain ⟨o1,a,o2,b,rfl,rfl⟩:=h5;exact qEt hx hy h
 by_cases h4:∃l m,x=.agg l/\y=.agg m
 ·obtain ⟨l,m,rfl,rfl⟩:=h4;simp only [RV]at hx hy;obtain ⟨l',rfl,hl⟩:=hx;obtain ⟨m',rfl,hm⟩:=hy;exact qC0 hl hm h
 unfold quF at h;split at h
 ·exact absurd ⟨_,_,_,_,_,_,rfl,rfl⟩ h1
 ·exact absurd ⟨_,_,_,_,rfl,rfl⟩ h5
 ·exact absurd ⟨_,_,_,_,rfl,rfl⟩ h2
 ·exact absurd ⟨_,_,_,_,rfl,rfl⟩ h3
 ·exact absurd ⟨_,_,rfl,rfl⟩ h4
 ·rename_i τ o l;simp only [RV,RTy]at hx hy;obtain ⟨fx,cx,l',rfl,_,hall⟩:=hx;subst hy;split at h
  ·rename_i el hu;cases hall with
   |nil=>simp at h
   |cons ha hb =>
    simp only [List.isEmpty_cons,cond_false]at h;have hv:∀v m op,qnV P op t xo yo (.sl fx cx (v::m)) (.val (.slice none 0 0))=(match op with
      |.eql=>some (.val (.bool false))
      |.neq=>some (.val (.bool true))
      |_=>none):=λv m op=>by
     unfold qnV;simp only [V.toVal,hu,notNil,if_true];cases op<;>rfl
    split at h
    ·exact ⟨_,_,h,hv _ _ _,by simp [RV,RTy]⟩
    ·exact ⟨_,_,h,hv _ _ _,by simp [RV,RTy]⟩
    ·cases h
  ·cases h
 ·split at h
  ·rename_i d hd;split at h
   ·rename_i hn;have hv:x'.toVal=none/\notNil d x' y'=true:=by
     unfold qAq at hn;split at hn
     ·simp only [RV]at hx hy;subst hx;subst hy;exact ⟨rfl,rfl⟩
     ·simp only [RV]at hx hy;obtain ⟨_,l',rfl,_⟩:=hx;subst hy;exact ⟨rfl,rfl⟩
     ·simp only [RV]at hx hy;obtain ⟨a',b',rfl,_⟩:=hx;subst hy;exact ⟨rfl,rfl⟩
     ·cases hn
    have hv2:∀op,qnV P op t xo yo x' y'=(match op with
      |.eql=>some (.val (.bool false))
      |.neq=>some (.val (.bool true))
      |_=>none):=λop=>by
     unfold qnV;simp only [hv.1,hd,hv.2,if_true];cases op<;>rfl
    split at h
    ·exact ⟨_,_,h,hv2 _,by simp [RV,RTy]⟩
    ·exact ⟨_,_,h,hv2 _,by simp [RV,RTy]⟩
    ·cases h
   ·split at h
    ·rename_i hn;have hv:∃u v,x'=.val u/\y'=.val v/\Ab.valOf P (Op.equal t u v)=some true/\(∀op,op=.eql\/op=.neq->Ab.valOf P (do eqGuard op t xo yo u v;Go.binOp op t u v)=Ab.valOf P (Op.equal t u v >>= λb=>(pure (Value.bool (if op=.eql then b else !b)):Sem Value))):=by
      unfold qDr at hn;split at hn
      ·simp only [RV]at hx hy;subst hx;subst hy;refine ⟨_,_,rfl,rfl,qoc hd (.inl ⟨_,rfl,rfl,rfl⟩),?_⟩;rintro op (rfl|rfl)<;>rfl
      ·simp only [RV]at hx hy;subst hx;subst hy;refine ⟨_,_,rfl,rfl,qoc hd (.inr (.inl ⟨_,rfl,rfl,rfl⟩)),?_⟩;rintro op (rfl|rfl)<;>rfl
      ·simp only [RV]at hx hy;subst hx;subst hy;refine ⟨_,_,rfl,rfl,qoc hd (.inr (.inr ⟨_,_,_,rfl,rfl,rfl⟩)),?_⟩;rintro op (rfl|rfl)<;>rfl
      ·cases hn
     obtain ⟨u,v,rfl,rfl,he,hg⟩:=hv;split at h
     ·refine ⟨_,.val (.bool true),h,?_,by simp [RV,RTy]⟩;refine qac (u:=.bool true) ?_;rw [hg _ (.inl rfl),qo,he];rfl
     ·refine ⟨_,.val (.bool false),h,?_,by simp [RV,RTy]⟩;refine qac (u:=.bool false) ?_;rw [hg _ (.inr rfl),qo,he];rfl
     ·cases h
    ·cases h
  ·cases h
theorem qFv{op:UnOp}{x y:TV}{v:V}(hx:RV x v)(h:tun op x=some y):∃u,v.toVal.bind (λa=>(Ab.valOf P (Go.Op.unary op a)).map qcl)=some u/\RV y u:=by
 unfold tun at h;split at h
 ·cases h;simp only [RV,RTy]at hx;subst hx;exact ⟨_,rfl,by simp [RV,RTy,qcl]⟩
 ·cases h;simp only [RV,RTy]at hx;subst hx;exact ⟨_,rfl,by simp [RV,RTy,qcl]⟩
 ·cases h
theorem qC3{src dst:TypeId}{x:TV}{v:V}{R:Type}{k:TV->Option R}{r:R}(hx:RV x v)(h:qEv P src dst x R k=some r):∃z u,k z=some r/\qsI P src dst v=some u/\RV z u:=by
 unfold qEv at h;split at h
 ·rename_i d1 kk k0 o n h1 h2;simp only [RV,RTy]at hx;subst hx;refine ⟨_,.val (.int kk (kk.wrap n)),h,?_,by simp [RV,RTy]⟩;unfold qsI qg7;simp only [V.toVal];unfold Go.convert;rw [qo,qt h1];simp only [qa];rw [qo,qt h2];rfl
 ·rename_i d1 k0 o n h1 h2;obtain ⟨n',hn',hk'⟩:=qd.1 h;obtain ⟨rfl,hn⟩:=qdV hn';simp only [RV,RTy]at hx;subst hx;refine ⟨_,.val (.float .f64 (FloatKind.f64.nearest n')),hk',?_,by simp only [RV,RTy];exact ⟨_,rfl,Fl.qyk hn⟩⟩;unfold qsI qg7;simp only [V.toVal];unfold Go.convert;rw [qo,qt h1];simp only [qa];rw [qo,qt h2];rfl
 ·rename_i o n h1 h2;obtain ⟨n',hn',hk'⟩:=qd.1 h;obtain ⟨rfl,hn⟩:=qdV hn';simp only [RV,RTy]at hx;obtain ⟨b,rfl,hb⟩:=hx;refine ⟨_,.val (.int .i64 n'),hk',?_,by simp [RV,RTy]⟩;unfold qsI qg7;simp only [V.toVal];unfold Go.convert;rw [qo,qt h1];simp only [qa];rw [qo,qt h2];have h3:(FloatKind.f64.decode b).toInt .zero=some n':=Fl.qC4 hb;have h4:IntKind.i64.min<=n'/\n'<=IntKind.i64.max:=by
   simp only [IntKind.min,IntKind.max,IntKind.signed,IntKind.bits,if_true]<;>omega
  show ((Ab.valOf P (Conv.floatToInt .f64 b .i64)).map qcl)=_;unfold Conv.floatToInt;simp only [h3];rw [if_pos h4];rfl
 ·rename_i d1 o s h1 h2;simp only [RV,RTy]at hx;subst hx;refine ⟨_,.val (.string ⟨s.toArray⟩),h,?_,by simp [RV,RTy]⟩;unfold qsI qg7;simp only [V.toVal];unfold Go.convert;rw [qo,qt h1];simp only [qa];rw [qo,qt h2];rfl
 ·rename_i e o l h1 h2;split at h
  ·rename_i he;simp only [RV,RTy]at hx;obtain ⟨f,c,l',rfl,_,hall⟩:=hx;refine ⟨_,.val (.string ⟨(l.map λn=>UInt8.ofNat n.toNat).toArray⟩),h,?_,by simp [RV,RTy]⟩;simp only [qsI,quM,h1,h2,he];have hb:∀{l:List Int} {l':List V},All2 (λ(n:Int) v=>v=.val (.int .u8 n)) l l'->bytesOf l'=some (l.map λn=>UInt8.ofNat n.toNat):=by
    intro l l' hall;induction hall with
    |nil=>rfl
    |cons h1 _ ih=>subst h1;simp only [bytesOf,ih,qi,qh]
   rw [hb (hall.mono λn v h=>by simpa only [RTy]using h)];rfl
  ·cases h
 ·cases h
theorem qsE{k:IntKind}:∀{xs:List TV} {ys:List V} {l:List Int},quH k xs=some l->RVL xs ys->ys=l.map λn=>.val (.int k n)
 |[],ys,l,h,hr=>by simp only [quH,qb]at h;simp only [RVL]at hr;subst h;subst hr;rfl
 |x::xs,ys,l,h,hr=>by
  simp only [RVL]at hr;obtain ⟨v,m,rfl,h1,h2⟩:=hr;cases x with
  |t τ o x =>
   cases τ with
   |int k' =>
    simp only [quH]at h;split at h
    ·rename_i hk;subst hk;obtain ⟨l',hl',rfl⟩:=qc.1 h;simp only [RV,RTy]at h1;subst h1;rw [qsE hl' h2];rfl
    ·cases h
   |_=>simp [quH]at h
  |_=>simp [quH]at h
theorem qj4(k:IntKind):∀l:List Int,toValL (l.map λn=>V.val (.int k n))=some (l.map λn=>Value.int k n)
 |[]=>rfl
 |n::l=>by simp [toValL,V.toVal,qj4 k l]
theorem qAi(k:IntKind):∀(l:List Int) (n:Int),Ab.valOf P ((l.map λn=>Value.int k n).foldlM Go.Builtin.max2 (.int k n))=some (.int k (l.foldl max n))
 |[],n=>rfl
 |m::l,n=>by
  simp only [qh,List.foldlM_cons,List.foldl_cons];rw [qo];have:Ab.valOf P (Go.Builtin.max2 (.int k n) (.int k m))=some (.int k (max n m)):=by
   show some (Value.int k (if m > n then m else n))=_;congr 2;split<;>omega
  rw [this];exact qAi k l _
theorem qAn(k:IntKind):∀(l:List Int) (n:Int),Ab.valOf P ((l.map λn=>Value.int k n).foldlM Go.Builtin.min2 (.int k n))=some (.int k (l.foldl min n))
 |[],n=>rfl
 |m::l,n=>by
  simp only [qh,List.foldlM_cons,List.foldl_cons];rw [qo];have:Ab.valOf P (Go.Builtin.min2 (.int k n) (.int k m))=some (.int k (min n m)):=by
   show some (Value.int k (if m<n then m else n))=_;congr 2;split<;>omega
  rw [this];exact qAn k l _
theorem qwg{b:Builtin}{argTypes:Array TypeId}{ty:TypeId}{xs:List TV}{ys:List V}{R:Type}{k:TV->Option R}{r:R}(hx:RVL xs ys)(h:qsB P b argTypes xs R k=some r) :
  ∃z u,k z=some r/\qd6 P b argTypes ty ys=some u/\RV z u:=by
 unfold qsB at h;split at h
 ·rename_i τ o l;simp only [RVL]at hx;obtain ⟨v,m,rfl,h1,rfl⟩:=hx;simp only [RV,RTy]at h1;obtain ⟨fx,c,l',rfl,_,hall⟩:=h1;split at h
  ·rename_i e he;refine ⟨_,.val (.int .i64 l'.length),h,?_,by simp [RV,RTy,hall.length]⟩;simp only [qd6,he]
  ·cases h
 ·rename_i τ l;simp only [RVL]at hx;obtain ⟨v,m,rfl,h1,rfl⟩:=hx;simp only [RV]at h1;obtain ⟨fx,l',rfl,_,hall⟩:=h1;split at h
  ·rename_i e he;refine ⟨_,.val (.int .i64 l'.length),h,?_,by simp [RV,RTy,hall.length]⟩;simp only [qd6,he]
  ·cases h
 ·rename_i ow;simp only [RVL]at hx;obtain ⟨v,m,rfl,h1,rfl⟩:=hx;simp only [RV]at h1;obtain ⟨fx,c,rfl,_⟩:=h1;split at h
  ·rename_i e he;refine ⟨_,.val (.int .i64 ([]:List V).length),h,?_,by simp [RV,RTy]⟩;simp only [qd6,he]
  ·cases h
 ·rename_i o s;simp only [RVL]at hx;obtain ⟨v,m,rfl,h1,rfl⟩:=hx;simp only [RV,RTy]at h1;subst h1;split at h
  ·rename_i he;refine ⟨_,.val (.int .i64 s.length),h,?_,by simp [RV,RTy]⟩;obtain ⟨t,ht,hu⟩:=qd.1 he;have hl:Ab.valOf P (Go.Builtin.len_ argTypes ty #[.string ⟨s.toArray⟩])=some (.int .i64 s.length):=by
    unfold Go.Builtin.len_;have ha:(#[Value.string ⟨s.toArray⟩]:Array Value)[0]?=some (.string ⟨s.toArray⟩):=rfl;simp only [ht,ha];rw [qo,qt hu];simp only [qa];show some (goInt (⟨s.toArray⟩:ByteArray).size)=_;simp [goInt,ByteArray.size]
   show ((toValL [V.val (.string ⟨s.toArray⟩)]).bind λvs=>(Ab.valOf P (Go.Builtin.len_ argTypes ty vs.toArray)).map qcl)=_;simp only [toValL,V.toVal,qa];rw [show [Value.string ⟨s.toArray⟩].toArray=#[Value.string ⟨s.toArray⟩]from rfl,hl];rfl
  ·cases h
 ·simp only [RVL]at hx;obtain ⟨v,m,rfl,h1,rfl⟩:=hx;simp only [RV]at h1;subst h1;split at h
  ·rename_i e he;refine ⟨_,.val (.int .i64 0),h,?_,by simp [RV,RTy]⟩;obtain ⟨t,ht,hu⟩:=qd.1 he;have hl:Ab.valOf P (Go.Builtin.cap_ argTypes ty #[.slice none 0 0])=some (.int .i64 0):=by
    unfold Go.Builtin.cap_;have ha:(#[Value.slice none 0 0]:Array Value)[0]?=some (.slice none 0 0):=rfl;simp only [ht,ha];rw [qo,qt hu];rfl
   show ((toValL [V.val (.slice none 0 0)]).bind λvs=>(Ab.valOf P (Go.Builtin.cap_ argTypes ty vs.toArray)).map qcl)=_;simp only [toValL,V.toVal,qa];rw [show [Value.slice none 0 0].toArray=#[Value.slice none 0 0]from rfl,hl];rfl
  ·cases h
 ·simp only [RVL]at hx;obtain ⟨v,m,rfl,h1,rfl⟩:=hx;simp only [RV]at h1;subst h1;split at h
  ·rename_i e he;refine ⟨_,.val (.int .i64 0),h,?_,by simp [RV,RTy]⟩;obtain ⟨t,ht,hu⟩:=qd.1 he;have hl:Ab.valOf P (Go.Builtin.len_ argTypes ty #[.slice none 0 0])=some (.int .i64 0):=by
    unfold Go.Builtin.len_;have ha:(#[Value.slice none 0 0]:Array Value)[0]?=some (.slice none 0 0):=rfl;simp only [ht,ha];rw [qo,qt hu];rfl
   show ((toValL [V.val (.slice none 0 0)]).bind λvs=>(Ab.valOf P (Go.Builtin.len_ argTypes ty vs.toArray)).map qcl)=_;simp only [toValL,V.toVal,qa];rw [show [Value.slice none 0 0].toArray=#[Value.slice none 0 0]from rfl,hl];rfl
  ·cases h
 ·rename_i x y;simp only [RVL]at hx;obtain ⟨v,m,rfl,h1,v2,m2,rfl,h2,rfl⟩:=hx;split at h
  ·obtain ⟨z,u,hz,hu,hr⟩:=qwe h1 h2 h;exact ⟨z,u,hz,by simp only [qd6,hu],hr⟩
  ·obtain ⟨z,u,hz,hu,hr⟩:=qyR h1 h2 h;exact ⟨z,u,hz,by simp only [qd6,hu,Option.some_or],hr⟩
 ·rename_i o1 a o2 b;simp only [RVL]at hx;obtain ⟨v,m,rfl,h1,v2,m2,rfl,h2,rfl⟩:=hx;simp only [RV,RTy]at h1 h2;obtain ⟨b1,rfl,i1⟩:=h1;obtain ⟨b2,rfl,i2⟩:=h2;exact ⟨_,.val (.complex .f64 b1 b2),h,rfl,by simp only [RV,RTy];exact ⟨b1,b2,rfl,i1,i2⟩⟩
 ·rename_i o1 a;simp only [RVL]at hx;obtain ⟨v,m,rfl,h1,rfl⟩:=hx;simp only [RV,RTy]at h1;obtain ⟨b1,b2,rfl,i1,i2⟩:=h1;exact ⟨_,.val (.float .f64 b1),h,rfl,by simp only [RV,RTy];exact ⟨b1,rfl,i1⟩⟩
 ·rename_i o1 a;simp only [RVL]at hx;obtain ⟨v,m,rfl,h1,rfl⟩:=hx;simp only [RV,RTy]at h1;obtain ⟨b1,b2,rfl,i1,i2⟩:=h1;exact ⟨_,.val (.float .f64 b2),h,rfl,by simp only [RV,RTy];exact ⟨b2,rfl,i2⟩⟩
 ·rename_i kk o n xs;split at h
  ·rename_i l hl;simp only [RVL]at hx;obtain ⟨v,m,rfl,h1,h2⟩:=hx;simp only [RV,RTy]at h1;subst h1;rw [qsE hl h2];refine ⟨_,.val (.int kk (l.foldl max n)),h,?_,by simp [RV,RTy]⟩;show ((toValL ((n::l).map λn=>V.val (.int kk n))).bind λvs=>(Ab.valOf P (Go.Builtin.max_ argTypes ty vs.toArray)).map qcl)=_;rw [qj4];simp only [qa];have:Ab.valOf P (Go.Builtin.max_ argTypes ty ((n::l).map λn=>Value.int kk n).toArray)=some (.int kk (l.foldl max n)):=qAi kk l n;rw [this];rfl
  ·cases h
 ·rename_i kk o n xs;split at h
  ·rename_i l hl;simp only [RVL]at hx;obtain ⟨v,m,rfl,h1,h2⟩:=hx;simp only [RV,RTy]at h1;subst h1;rw [qsE hl h2];refine ⟨_,.val (.int kk (l.foldl min n)),h,?_,by simp [RV,RTy]⟩;show ((toValL ((n::l).map λn=>V.val (.int kk n))).bind λvs=>(Ab.valOf P (Go.Builtin.min_ argTypes ty vs.toArray)).map qcl)=_;rw [qj4];simp only [qa];have:Ab.valOf P (Go.Builtin.min_ argTypes ty ((n::l).map λn=>Value.int kk n).toArray)=some (.int kk (l.foldl min n)):=qAn kk l n;rw [this];rfl
  ·cases h
 ·cases h
def BxR:Option (List TV)->Option (List V)->Prop
 |none,b=>True
 |some c,b=>∃c',b=some c'/\RVL c c'
def BxO:Option (List TV)->Option (List V)->Prop
 |none,b=>b=none
 |some c,b=>∃c',b=some c'/\RVL c c'
theorem qBj{R:Type}{mk:Int->TV}{l:List Int}{r:R}:∀(n i:Nat) (acc:List TV) (k:List TV->Option R),qFu R mk l n i acc k=some r->i<=l.length->n+i<=l.length/\k (acc++((l.drop i).take n).map mk)=some r
 |0,i,acc,k,h,hi=>⟨by omega,by simpa [qFu]using h⟩
 |n+1,i,acc,k,h,hi=>by
  unfold qFu at h;obtain ⟨e,he,hk⟩:=qd.1 h;rw [show idx l (i:Int)=l[i]? from by simp [idx]]at he;have hlt:=(qm.1 he).1;obtain ⟨h1,h2⟩:=qBj n (i+1) _ k hk (by omega);refine ⟨by omega,?_⟩;have e1:(l.drop i).take (n+1)=e::(l.drop (i+1)).take n:=by
   rw [List.drop_eq_getElem_cons hlt,List.take_succ_cons];rw [(qm.1 he).2]
  rw [e1,qh];simpa using h2
theorem qwf{t:TypeId}{x:TV}{R:Type}{k:TV->Option R}{r:R}{v:V}(h:qsA P t x R k=some r)(hx:RV x v):∃y u,k y=some r/\qiP P t v=some u/\RV y u:=by
 unfold qsA at h;split at h
 ·rename_i n elem kk o l hu;split at h
  ·cases h
  ·rename_i h0;obtain ⟨h1,h2⟩:=qBj n 0 [] _ h (Nat.zero_le _);simp only [RV,RTy]at hx;obtain ⟨fl,c,l',rfl,hfl,hall⟩:=hx;have hl:=hall.length;have hv:∀{l:List Int} {l':List V},All2 (λ(n:Int) v=>v=.val (.int kk n)) l l'->(qhg l').isSome=true:=by
    intro l l' h;induction h with
    |nil=>rfl
    |cons h1 _ ih=>subst h1;simpa [qhg]using ih
   have hall':=hall.mono λn v (h:RTy (.int kk) (nx o) n v)=>(by simpa only [RTy]using h:v=.val (.int kk n))
   refine ⟨_,.cptr (qV fl) (l'.take n),h2,?_,?_⟩
   ·simp only [qiP,hu];rw [if_pos ⟨by omega,h0,hv hall'⟩]
   ·simp only [RV];refine ⟨_,_,rfl,by cases fl<;>simp [qV],λe=>by rw [hfl.2 (of_decide_eq_true e)];rfl,?_⟩;have ht:∀{l:List Int} {l':List V},All2 (λ(n:Int) v=>v=.val (.int kk n)) l l'->∀n,RVL ((l.take n).map λe=>.t (.int kk) 0 e) (l'.take n):=by
     intro l l' h;induction h with
     |nil=>intro n;simp only [List.take_nil,List.map_nil];exact q5
     |cons h1 _ ih =>
      intro n;cases n with
      |zero=>simp only [List.take_zero,List.map_nil];exact q5
      |succ n =>
       subst h1;simp only [List.take_succ_cons,qh];exact qv.2 ⟨by simp only [RV,RTy],ih n⟩
    simpa using ht hall' n
 ·cases h
theorem quJ{tk:Bool}{o:Op}{ty:TypeId}{xs:List TV}{ys:List V}{bx:Option (List TV)}{bx':Option (List V)}{R:Type}{k:TV->Option (List TV)->Option R}{r:R}(hx:RVL xs ys)(hb:BxR bx bx')(hmp:∀c,bx'=some c->qhk c=false)
  (h:qcM P H f tk o xs bx R k=some r):∃z c u c',k z c=some r/\qaL P H f tk o ty ys bx'=some (u,c')/\RV z u/\BxO c c':=by
 have fin:∀{x:Option TV} {y:Option V},(match x with|some x=>k x none|none=>none)=some r->(∀z,x=some z->∃u,y=some u/\RV z u)->∃z c u c',k z c=some r/\(y.map λx=>(x,(none:Option (List V))))=some (u,c')/\RV z u/\BxO c c':=by
  intro x y h1 h2;cases x with
  |none=>cases h1
  |some z =>
   obtain ⟨u,hu,hr⟩:=h2 z rfl;exact ⟨z,none,u,none,h1,by rw [hu];rfl,hr,rfl⟩
 have fin2:∀{y:Option V},(∃z u,k z none=some r/\y=some u/\RV z u)->∃z c u c',k z c=some r/\(y.map λx=>(x,(none:Option (List V))))=some (u,c')/\RV z u/\BxO c c':=by
  rintro y ⟨z,u,h1,rfl,hr⟩;exact ⟨z,none,u,none,h1,rfl,hr,rfl⟩
 unfold qcM at h;simp only at h;split at h
 ·simp only [RVL]at hx;obtain ⟨v,m,rfl,h1,rfl⟩:=hx;exact ⟨_,none,v,none,h,rfl,h1,rfl⟩
 ·simp only [RVL]at hx;obtain ⟨v,m,rfl,h1,rfl⟩:=hx;exact ⟨_,none,v,none,h,rfl,h1,rfl⟩
 ·rename_i o' c a b;simp only [RVL]at hx;obtain ⟨v,m,rfl,h1,va,ma,rfl,ha,vb,mb,rfl,hb',rfl⟩:=hx;simp only [RV,RTy]at h1;subst h1;cases c with
  |true=>exact ⟨_,none,va,none,h,rfl,ha,rfl⟩
  |false=>exact ⟨_,none,vb,none,h,rfl,hb',rfl⟩
 ·rename_i t parts xs;exact fin h λz hz=>qBm hx hz
 ·rename_i t len parts xs;exact fin h λz hz=>qp2 hx hz
 ·rename_i t a cs;simp only [RVL]at hx;obtain ⟨v,m,rfl,h1,rfl⟩:=hx;simp only [RV]at h1;obtain ⟨_,cs',rfl,_,_,hc⟩:=h1;refine fin h λz hz=>?_;obtain ⟨w,hw,rfl⟩:=qc.1 hz;obtain ⟨u,hu,hr⟩:=qdN hw hc;exact ⟨u.q6,by rw [hu];rfl,hr.q6⟩
 ·rename_i t a q off;simp only [RVL]at hx;obtain ⟨v,m,rfl,h1,rfl⟩:=hx;simp only [RV]at h1;subst h1;split at h
  ·rename_i cs;obtain ⟨cs',rfl,hc⟩:=hb;have hlp:=qe1 (qaD hc) (hmp _ rfl);split at h
   ·rename_i htk;split at h
    ·rename_i x hxx;obtain ⟨u,hu,hr⟩:=qdN hxx (hc.drop off);refine ⟨_,_,u,_,h,?_,hr,⟨_,rfl,qlj hc (RVL.q6 ((hc.drop off).take _))⟩⟩;simp only [qaL,hlp,qf,if_false,htk,if_true,hu,qi]
    ·cases h
   ·rename_i htk;obtain ⟨z,c,u,c',h1,h2,h3,h4⟩:=fin (y:=(q4 P t (cs'.drop off)).map V.q6) h λz hz=>by
     obtain ⟨w,hw,rfl⟩:=qc.1 hz;obtain ⟨u,hu,hr⟩:=qdN hw (hc.drop off);exact ⟨u.q6,by rw [hu];rfl,hr.q6⟩
    refine ⟨z,c,u,c',h1,?_,h3,h4⟩;simp only [qaL,hlp,qf,if_false];rw [if_neg htk];exact h2
  ·cases h
 ·rename_i t a b q off x;simp only [RVL]at hx;obtain ⟨v,m,rfl,h1,v2,m2,rfl,h2,rfl⟩:=hx;simp only [RV]at h1;subst h1;split at h
  ·rename_i cs;obtain ⟨cs',rfl,hc⟩:=hb;have hlp:=qe1 (qaD hc) (hmp _ rfl);split at h
   ·rename_i hcond;obtain ⟨h0,hl,ho,hk⟩:=hcond;obtain ⟨hcells,hko⟩:=RV.cells hk h2;refine ⟨_,_,.undef,_,h,?_,qco [],⟨_,rfl,qlj hc hcells⟩⟩;simp only [qaL];rw [if_pos ⟨hlp,h0,by rw [hcells.length];exact hl,by rw [hcells.length,hc.length];exact ho,hko⟩]
   ·cases h
  ·cases h
 ·simp only [RVL]at hx;obtain ⟨v,m,rfl,h1,rfl⟩:=hx;simp only [RV]at h1;subst h1;exact ⟨_,none,_,none,h,rfl,by simp [RV],rfl⟩
 ·simp only [RVL]at hx;obtain ⟨v,m,rfl,h1,rfl⟩:=hx;have h1':=h1;simp only [RV]at h1;obtain ⟨_,l',rfl,_,h1⟩:=h1;exact ⟨_,none,_,none,h,rfl,h1',rfl⟩
 ·simp only [RVL]at hx;obtain ⟨v,m,rfl,h1,rfl⟩:=hx;have h1':=h1;simp only [RV]at h1;obtain ⟨a',b',rfl,_⟩:=h1;exact ⟨_,none,_,none,h,rfl,h1',rfl⟩
 ·rename_i op' t xo c0 yt o0 b;simp only [RVL]at hx;obtain ⟨v,m,rfl,h1,v2,m2,rfl,h2,rfl⟩:=hx;simp only [RV,RTy]at h1 h2;subst h2;have hv:∀op ms,(op=.eql\/op=.neq)->P.underlying t=some (.interface ms)->qnV P op t xo (.const c0) v (.val .nilIface)=some (.val (.bool (if op=.eql then b else !b))):=by
   intro op ms hop hu;rcases h1 with ⟨rfl,rfl⟩|⟨rfl,t9,rfl⟩
   ·have he:Ab.valOf P (Op.equal t .nilIface .nilIface)=some true:=qxN hu;have hg:∀op,Ab.valOf P (eqGuard op t xo (.const c0) .nilIface .nilIface)=some ():=by
     intro op;unfold eqGuard;cases op<;>cases xo<;>rfl
    unfold qnV;simp only [V.toVal];rcases hop with rfl|rfl
    ·rw [qo,hg];simp only [qa];show ((Ab.valOf P (Op.equal t .nilIface .nilIface >>= λb=>(pure (Value.bool b):Sem Value))).map qcl)=_;rw [qo,he];rfl
    ·rw [qo,hg];simp only [qa];show ((Ab.valOf P (Op.equal t .nilIface .nilIface >>= λb=>(pure (Value.bool (!b)):Sem Value))).map qcl)=_;rw [qo,he];rfl
   ·unfold qnV;simp only [V.toVal,Option.map_none,hu,notNil,if_true];rcases hop with rfl|rfl<;>rfl
  split at h
  ·rename_i ms hu;exact fin2 ⟨_,_,h,hv .eql ms (.inl rfl) hu,by simp [RV,RTy]⟩
  ·rename_i ms hu;exact fin2 ⟨_,_,h,hv .neq ms (.inr rfl) hu,by simp [RV,RTy]⟩
  ·cases h
 ·simp only [RVL]at hx;obtain ⟨v,m,rfl,h1,v2,m2,rfl,h2,rfl⟩:=hx;exact fin2 (qEu h1 h2 h)
 ·simp only [RVL]at hx;obtain ⟨v,m,rfl,h1,rfl⟩:=hx;exact fin h λz hz=>qFv h1 hz
 ·simp only [RVL]at hx;obtain ⟨v,m,rfl,h1,rfl⟩:=hx;exact fin2 (qC3 h1 h)
 ·refine ⟨_,none,_,none,h,rfl,?_,rfl⟩;simp only [RV];exact ⟨_,_,rfl,hx.take _,hx.drop _⟩
 ·simp only [RVL]at hx;obtain ⟨v,m,rfl,h1,v2,m2,rfl,h2,rfl⟩:=hx;exact fin2 (qsF h1 h2 h)
 ·rename_i t a lo hi mx x rest;simp only [RVL]at hx;obtain ⟨v,m,rfl,h1,h2⟩:=hx;have hhead:∀{l:List TV} {l':List V},RVL l l'->RVO l.head? l'.head?:=λ{l l'} h=>by
   cases l with
   |nil=>simp only [RVL]at h;subst h;trivial
   |cons y l=>simp only [RVL]at h;obtain ⟨u,n,rfl,h3,_⟩:=h;exact h3
  have htail:∀{l:List TV} {l':List V},RVL l l'->RVL l.tail l'.tail:=λ{l l'} h=>by
   rw [<- List.drop_one,<- List.drop_one];exact h.drop 1
  have hr1:RVL (if lo.isSome=true then rest.tail else rest) (if lo.isSome=true then m.tail else m):=by
   split
   ·exact htail h2
   ·exact h2
  have hr2:RVL (if hi.isSome=true then (if lo.isSome=true then rest.tail else rest).tail else (if lo.isSome=true then rest.tail else rest)) (if hi.isSome=true then (if lo.isSome=true then m.tail else m).tail else (if lo.isSome=true then m.tail else m)):=by
   split
   ·exact htail hr1
   ·exact hr1
  have ho:∀{q:Bool} {l:List TV} {l':List V},RVL l l'->RVO (if q=true then l.head? else none) (if q=true then l'.head? else none):=λ{q l l'} h=>by
   split
   ·exact hhead h
   ·trivial
  split at h
  ·obtain ⟨y,u,hk,hv,hr⟩:=qyU h1 (ho h2) (ho hr1) (ho hr2) h;exact fin2 ⟨y,u,hk,hv,hr⟩
  ·obtain ⟨y,u,hk,hv,hr⟩:=qBv h1 (ho h2) (ho hr1) (ho hr2) h;exact fin2 ⟨y,u,hk,by rw [hv];rfl,hr⟩
 ·simp only [RVL]at hx;obtain ⟨v,m,rfl,h1,rfl⟩:=hx;exact fin h λz hz=>qsC hz h1
 ·simp only [RVL]at hx;obtain ⟨v,m,rfl,h1,rfl⟩:=hx;exact fin h λz hz=>qBo hz h1
 ·simp only [RVL]at hx;obtain ⟨v,m,rfl,h1,rfl⟩:=hx;obtain ⟨y,u,hk,hu,hr⟩:=qwf h h1;exact fin2 ⟨y,u,hk,hu,hr⟩
 ·simp only [RVL]at hx;obtain ⟨v,m,rfl,h1,v2,m2,rfl,h2,rfl⟩:=hx;simp only [RV,RTy]at h2;subst h2;obtain ⟨y,u,hk,hu,hr⟩:=qsD h h1;exact fin2 ⟨y,u,hk,hu,hr⟩
 ·simp only [RVL]at hx;obtain ⟨v,m,rfl,h1,v2,m2,rfl,h2,rfl⟩:=hx;simp only [RV,RTy]at h2;subst h2;split at h
  ·rename_i len elem cs hu;simp only [RV]at h1;obtain ⟨cs',rfl,hc⟩:=h1;obtain ⟨y,u,hk,hv,hr⟩:=qBq hu h hc;exact fin2 ⟨y,u,hk,hv,hr⟩
  ·rename_i o s hu;simp only [RV,RTy]at h1;subst h1;obtain ⟨b,hb',hk⟩:=qd.1 h;obtain ⟨h0,hi⟩:=qnC hb';refine fin2 ⟨_,.val (.int .u8 b.toNat),hk,?_,by simp [RV,RTy]⟩;simp only [qpL,hu];rw [if_pos h0];have key:∀j:Nat,s[j]?=some b->(⟨s.toArray⟩:ByteArray)[j]?=some b:=λj hj=>by
    have hlt:=(qm.1 hj).1;rw [getElem?_pos (⟨s.toArray⟩:ByteArray) j (by simpa [ByteArray.size]using hlt)];have:=(qm.1 hj).2;simp only [qb];rw [<- this];rfl
   rw [key _ hi];rfl
  ·cases h
 ·simp only [RVL]at hx;obtain ⟨v,m,rfl,h1,rfl⟩:=hx;simp only [RV]at h1;obtain ⟨l',rfl,hl⟩:=h1;exact fin h λz hz=>hl.get hz
 ·exact fin2 (qwg hx h)
 ·cases h
end
section
variable {P:Program} {H:Hints} {f:FuncId}
theorem qr1{t:TypeId}{τ:Ty}(h:qjZ P t τ=true):qlW τ=true:=by
 unfold qjZ at h;split at h<;>first|rfl|cases h
theorem qr0:∀(fs:List Field) (i:Nat) (τ:Ty),qko P fs i τ=true->qoM τ=true
 |[],i,.unit,_=>rfl
 |fd::fs,i,.pair a b,h=>by
  simp only [qko,qe]at h;simp only [qoM,qe];exact ⟨qr1 h.1.2,qr0 fs (i+1) b h.2⟩
 |[],i,.int _,h|[],i,.bool,h|[],i,.str,h|[],i,.flt,h|[],i,.cx,h|[],i,.err,h|[],i,.mset _,h|[],i,.sl _,h|[],i,.pair _ _,h=>by simp [qko]at h
 |_::_,i,.int _,h|_::_,i,.bool,h|_::_,i,.str,h|_::_,i,.flt,h|_::_,i,.cx,h|_::_,i,.err,h|_::_,i,.mset _,h|_::_,i,.sl _,h|_::_,i,.unit,h=>by simp [qko]at h
theorem qx9{τ:Ty}(h:qlW τ=true):qfX τ=true:=by cases τ<;>first|rfl|(simp [qlW]at h)
theorem qca{τ:Ty}(h:qlW τ=true)(x:τ.den):qcr τ x=qra τ x:=by cases τ<;>first|rfl|(simp [qlW]at h)
theorem qnv{τ:Ty}(h:qlW τ=true)(x y:τ.den):eqK τ x y=eqS τ x y:=by cases τ<;>first|rfl|(simp [qlW]at h)
theorem qnR{τ:Ty}(h:qlW τ=true){o:Nat}{x:τ.den}{v:V}(hr:RTy τ o x v):v=.val (qra τ x):=by
 cases τ<;>first|(simp only [RTy]at hr;exact hr)|(simp [qlW]at h)
theorem qxh:∀{τ:Ty} (h:qoM τ=true) {o:Nat} {x:τ.den} {l:List V},RTy τ o x (.agg l)->l=(qy2 τ x).map .val
 |.unit,h,o,x,l,hr=>by simp only [RTy,V.agg.injEq]at hr;subst hr;rfl
 |.pair a b,h,o,x,l,hr=>by
  simp only [qoM,qe]at h;simp only [RTy]at hr;obtain ⟨v1,l',e,h1,h2⟩:=hr;cases e;rw [qnR h.1 h1,qxh h.2 h2];rfl
 |.int _,h,_,_,_,_|.bool,h,_,_,_,_|.str,h,_,_,_,_|.flt,h,_,_,_,_|.cx,h,_,_,_,_|.err,h,_,_,_,_|.mset _,h,_,_,_,_|.sl _,h,_,_,_,_=>by simp [qoM]at h
theorem qAY{τ:Ty}(h:qfX τ=true){o:Nat}{x:τ.den}{v:V}(hr:RTy τ o x v):v.toVal=some (qcr τ x):=by
 by_cases hs:qlW τ=true
 ·rw [qnR hs hr,qca hs];rfl
 ·cases τ with
  |pair a b =>
   simp only [qfX,qe]at h;simp only [RTy]at hr;obtain ⟨v1,l',rfl,h1,h2⟩:=hr;rw [qnR h.1 h1,qxh h.2 h2];simp only [V.toVal,toValL,qj5,qi,qcr]
  |_=>simp [qfX,qlW]at h hs
theorem qDm{τ:Ty}{x y:τ.den}(h:eqS τ x y=true):x=y:=by
 cases τ<;>simp only [eqS]at h<;>first|exact of_decide_eq_true h|exact eq_of_beq h|cases h
theorem qDl:∀{τ:Ty} {x y:τ.den},qoM τ=true->eqR τ x y=true->x=y
 |.unit,_,_,_,_=>rfl
 |.pair a b,x,y,hk,h=>by
  simp only [qoM,qe]at hk;simp only [eqR]at h;cases h1:eqS a x.1 y.1 with
  |false=>rw [h1]at h;cases h
  |true=>rw [h1]at h;exact Prod.ext (qDm h1) (qDl hk.2 h)
 |.int _,_,_,h,_|.bool,_,_,h,_|.str,_,_,h,_|.flt,_,_,h,_|.cx,_,_,h,_|.err,_,_,h,_|.mset _,_,_,h,_|.sl _,_,_,h,_=>by simp [qoM]at h
theorem qDk{τ:Ty}(hk:qfX τ=true){x y:τ.den}(h:eqK τ x y=true):x=y:=by
 by_cases hs:qlW τ=true
 ·rw [qnv hs]at h;exact qDm h
 ·cases τ with
  |pair a b =>
   simp only [qfX,qe]at hk;exact qDl (τ:=.pair a b) (by simp [qoM,hk.1,hk.2]) h
  |_=>simp [qfX,qlW]at hk hs
theorem qwD{τ:Ty}(h:qlW τ=true)(x:τ.den):eqS τ x x=true:=by
 cases τ<;>first|(simp [eqS];done)|(simp [qlW]at h)
theorem qwC:∀{τ:Ty} (h:qoM τ=true) (x:τ.den),eqR τ x x=true
 |.unit,_,_=>rfl
 |.pair a b,h,x=>by
  simp only [qoM,qe]at h;simp only [eqR,qwD h.1,cond_true];exact qwC h.2 x.2
 |.int _,h,_|.bool,h,_|.str,h,_|.flt,h,_|.cx,h,_|.err,h,_|.mset _,h,_|.sl _,h,_=>by simp [qoM]at h
theorem qBN{τ:Ty}(hk:qfX τ=true)(x:τ.den):eqK τ x x=true:=by
 by_cases hs:qlW τ=true
 ·rw [qnv hs];exact qwD hs x
 ·cases τ with
  |pair a b =>
   simp only [qfX,qe]at hk;exact qwC (τ:=.pair a b) (by simp [qoM,hk.1,hk.2]) x
  |_=>simp [qfX,qlW]at hk hs
theorem qCk{τ:Ty}(hk:qfX τ=true){l:List τ.den}{k:τ.den}:qgN τ l k=true↔k∈l:=by
 unfold qgN;rw [List.any_eq_true];constructor
 ·rintro ⟨x,hx,h⟩;rw [qDk hk h];exact hx
 ·intro h;exact ⟨k,h,qBN hk k⟩
def tvR:(τ:Ty)->τ.den->List TV
 |.pair a b,x=>.t a 0 x.1::tvR b x.2
 |_,_=>[]
theorem qA1{a:Ty}(h:qlW a=true)(x:a.den):qyF (.t a 0 x)=true/\RV (.t a 0 x) (.val (qra a x)):=by
 cases a<;>first|exact ⟨rfl,by simp [RV,RTy,qra]⟩|(simp [qlW]at h)
theorem qxv:∀{τ:Ty} (h:qoM τ=true) (x:τ.den),(tvR τ x).all qyF=true/\RVL (tvR τ x) ((qy2 τ x).map .val)
 |.unit,_,_=>⟨rfl,q5⟩
 |.pair a b,h,x=>by
  simp only [qoM,qe]at h;obtain ⟨h1,h2⟩:=qA1 h.1 x.1;obtain ⟨h3,h4⟩:=qxv h.2 x.2;exact ⟨by simp [tvR,h1,h3],qv.2 ⟨h2,h4⟩⟩
 |.int _,h,_|.bool,h,_|.str,h,_|.flt,h,_|.cx,h,_|.err,h,_|.mset _,h,_|.sl _,h,_=>by simp [qoM]at h
theorem quv{t:TypeId}{τ:Ty}(h:qjZ P t τ=true):∃d,P.underlying t=some d/\qN P t=false:=by
 unfold qjZ at h;unfold qN;split at h
 ·rename_i h1;rw [h1];exact ⟨_,rfl,rfl⟩
 ·rename_i h1;rw [h1];exact ⟨_,rfl,rfl⟩
 ·rename_i h1;rw [h1];exact ⟨_,rfl,rfl⟩
 ·cases h
theorem qxs{t:TypeId}{τ:Ty}(h:qjZ P t τ=true)(d:Nat)(x y:τ.den):teq P (d+1) t (.t τ 0 x) (.t τ 0 y)=some (eqS τ x y):=by
 unfold qjZ at h;split at h
 ·rename_i k k' h1;simp only [decide_eq_true_eq]at h;subst h;simp [teq,h1,eqS]
 ·rename_i h1;simp [teq,h1,eqS]
 ·rename_i h1;simp [teq,h1,eqS]
 ·cases h
theorem qn4{t:TypeId}{τ:Ty}(h:qjZ P t τ=true)(v:TV)(l:List TV):qaQ P t (v::l)=some v:=by
 obtain ⟨d,h1,h2⟩:=quv h;unfold qaQ;rw [h1,h2];rfl
theorem qzJ:∀(fs:List Field) (i:Nat) (τ:Ty) (x y:τ.den) (px py:List TV),qko P fs i τ=true->px.length=i->py.length=i ->
  fs.foldr (fun fd acc => if fd.name = "_" then none else
    match qaQ P fd.type ((px++tvR τ x).drop fd.offset),qaQ P fd.type ((py++tvR τ y).drop fd.offset),acc with
    |some u,some v,some b=>(teq P 8 fd.type u v).map λa=>bif a then b else false
    |_,_,_=>none) (some true)=some (eqR τ x y)
 |[],i,.unit,_,_,_,_,_,_,_=>rfl
 |fd::fs,i,.pair a b,x,y,px,py,h,hx,hy=>by
  simp only [qko,qe,decide_eq_true_eq]at h;obtain ⟨⟨⟨hn,ho⟩,hs⟩,hf⟩:=h;have ih:=qzJ fs (i+1) b x.2 y.2 (px++[.t a 0 x.1]) (py++[.t a 0 y.1]) hf (by simp [hx]) (by simp [hy]);simp only [List.append_assoc,List.singleton_append]at ih;simp only [List.foldr_cons,tvR];rw [ih,if_neg hn,ho];rw [List.drop_left' hx,List.drop_left' hy,qn4 hs,qn4 hs];simp only [qxs hs,qi,eqR]
 |[],i,.int _,_,_,_,_,h,_,_|[],i,.bool,_,_,_,_,h,_,_|[],i,.str,_,_,_,_,h,_,_|[],i,.flt,_,_,_,_,h,_,_|[],i,.cx,_,_,_,_,h,_,_|[],i,.err,_,_,_,_,h,_,_|[],i,.mset _,_,_,_,_,h,_,_|[],i,.sl _,_,_,_,_,h,_,_|[],i,.pair _ _,_,_,_,_,h,_,_=>by simp [qko]at h
 |_::_,i,.int _,_,_,_,_,h,_,_|_::_,i,.bool,_,_,_,_,h,_,_|_::_,i,.str,_,_,_,_,h,_,_|_::_,i,.flt,_,_,_,_,h,_,_|_::_,i,.cx,_,_,_,_,h,_,_|_::_,i,.err,_,_,_,_,h,_,_|_::_,i,.mset _,_,_,_,_,h,_,_|_::_,i,.sl _,_,_,_,_,h,_,_|_::_,i,.unit,_,_,_,_,h,_,_=>by simp [qko]at h
theorem qeP{t:TypeId}{τ:Ty}(h:qfo P t τ=true):(qlW τ=true/\qjZ P t τ=true)\/(∃fields a b,P.underlying t=some (.struct fields)/\τ=.pair a b/\P.stoodInHeld t=false/\qko P fields.toList 0 (.pair a b)=true):=by
 unfold qfo at h;simp only [Bool.or_eq_true]at h;rcases h with h|h
 ·exact .inl ⟨qr1 h,h⟩
 ·split at h
  ·rename_i fields a b hu;simp only [qe,Bool.not_eq_true']at h;exact .inr ⟨fields,a,b,hu,rfl,h.1,h.2⟩
  ·cases h
theorem qqz{t:TypeId}{τ:Ty}(h:qfo P t τ=true):qfX τ=true:=by
 rcases qeP h with ⟨h1,_⟩|⟨fields,a,b,_,rfl,_,h2⟩
 ·exact qx9 h1
 ·have:=qr0 _ _ _ h2;simpa [qfX,qoM]using this
theorem qzC{t:TypeId}{τ:Ty}(h:qfo P t τ=true)(x y:τ.den):Ab.valOf P (Op.equal t (qcr τ x) (qcr τ y))=some (eqK τ x y):=by
 unfold Op.equal;rcases qeP h with ⟨h1,h2⟩|⟨fields,a,b,hu,rfl,hst,hf⟩
 ·rw [qca h1,qca h1,qnv h1];obtain ⟨s1,r1⟩:=qA1 h1 x;obtain ⟨s2,r2⟩:=qA1 h1 y;exact qxr 1 t _ _ _ (qxs h2 0 x y) Op.maxDepth (by have:=qdM;omega) _ _ (.inl ⟨s1,r1⟩) (.inl ⟨s2,r2⟩)
 ·have hk:=qr0 _ _ _ hf;obtain ⟨s1,r1⟩:=qxv hk x;obtain ⟨s2,r2⟩:=qxv hk y;have ht:teq P 9 t (.agg (tvR (.pair a b) x)) (.agg (tvR (.pair a b) y))=some (eqK (.pair a b) x y):=by
   unfold teq;rw [hu];simp only [hst,qf,if_false];exact qzJ fields.toList 0 (.pair a b) x y [] [] hf rfl rfl
  exact qxr 9 t _ _ _ ht Op.maxDepth qdM _ _ (.inr ⟨_,_,rfl,rfl,s1,r1⟩) (.inr ⟨_,_,rfl,rfl,s2,r2⟩)
theorem qqa{t:TypeId}{τ:Ty}(h:qjZ P t τ=true)(e:Bool)(n:Nat)(x:τ.den):Ab.valOf P (Instr.checkKey e (n+1) t (qra τ x))=some ():=by
 unfold Instr.checkKey;unfold qjZ at h;split at h
 ·rename_i h1;rw [qo,qt h1];rfl
 ·rename_i h1;rw [qo,qt h1];rfl
 ·rename_i h1;rw [qo,qt h1];rfl
 ·cases h
theorem qs4{t:TypeId}{τ:Ty}(h:qfo P t τ=true)(e:Bool)(x:τ.den):Ab.valOf P (Instr.checkKey e 10000 t (qcr τ x))=some ():=by
 rcases qeP h with ⟨h1,h2⟩|⟨fields,a,b,hu,rfl,hst,hf⟩
 ·rw [qca h1];exact qqa h2 e 9999 x
 ·have hk:=qr0 _ _ _ hf;obtain ⟨s1,r1⟩:=qxv hk x;unfold Instr.checkKey;rw [qo,qt hu];simp only [qa,qcr];rw [<- Array.forIn_toList];have key:∀(fs:List Field) (i:Nat) (τ':Ty) (y:τ'.den) (px:List TV),qko P fs i τ'=true->px.length=i->tvR (.pair a b) x=px++tvR τ' y ->
    Ab.valOf P (forIn fs PUnit.unit λf _=>(
     if f.name ≠ "_" then do
      let __do_lift <- part f.type (qra a x.1::qy2 b x.2).toArray f.offset
      Instr.checkKey e 9999 f.type __do_lift
      pure (ForInStep.yield PUnit.unit)
     else pure (ForInStep.yield PUnit.unit):Sem (ForInStep PUnit)))=some PUnit.unit:=by
   intro fs;induction fs with
   |nil=>intro i τ' y px _ _ _;rfl
   |cons fd fs ih =>
    intro i τ' y px hf hl heq;cases τ' with
    |pair a' b' =>
     simp only [qko,qe,decide_eq_true_eq]at hf;obtain ⟨⟨⟨hn,ho⟩,hs⟩,hf'⟩:=hf;have hc:qaQ P fd.type ((tvR (.pair a b) x).drop fd.offset)=some (.t a' 0 y.1):=by
      rw [heq,ho,List.drop_left' hl];exact qn4 hs _ _
     obtain ⟨w,hw,hrel⟩:=qvK s1 r1 hc;have hwv:w=qra a' y.1:=by
      rcases hrel with ⟨_,hr⟩|⟨l,vs,h9,_⟩
      ·have:=qnR (qr1 hs) (show RTy a' 0 y.1 (.val w)from by simpa only [RV]using hr);simpa using this
      ·cases h9
     have hw':Ab.valOf P (part fd.type (qra a x.1::qy2 b x.2).toArray fd.offset)=some w:=hw;rw [List.forIn_cons,qo,if_pos hn,qo,hw',qa,qo,hwv,qqa hs e 9998];simp only [qa,qM];exact ih (i+1) b' y.2 (px++[.t a' 0 y.1]) hf' (by simp [hl]) (by rw [heq];simp [tvR])
    |_=>simp [qko]at hf
  first
  |exact key fields.toList 0 (.pair a b) x [] hf rfl rfl
  |(rw [qo,key fields.toList 0 (.pair a b) x [] hf rfl rfl];rfl)
def kvs(τ:Ty)(l:List τ.den):List (Value×Value):=l.map λx=>(qcr τ x,.bool true)
def qzT(τ:Ty)(k:τ.den):List τ.den->Nat->Nat
 |[],i=>i
 |x::l,i=>if eqK τ k x=true then i else qzT τ k l (i+1)
theorem qzU{τ:Ty}{k:τ.den}:∀{l:List τ.den} {i:Nat},qgN τ l k=true->∃j,qzT τ k l i=i+j/\∃x,l[j]?=some x/\eqK τ k x=true
 |[],i,h=>by simp [qgN]at h
 |x::l,i,h=>by
  simp only [qzT];by_cases hx:eqK τ k x=true
  ·rw [if_pos hx];exact ⟨0,by omega,x,rfl,hx⟩
  ·rw [if_neg hx];have hm:qgN τ l k=true:=by
    unfold qgN at h ⊢;simp only [List.any_cons,Bool.or_eq_true]at h;rcases h with h|h
    ·exact absurd h hx
    ·exact h
   obtain ⟨j,hj,y,hy,he⟩:=qzU (i:=i+1) hm;exact ⟨j+1,by omega,y,by simpa using hy,he⟩
theorem qDj{t:TypeId}{τ:Ty}(h:qfo P t τ=true)(k:τ.den):∀(l:List τ.den) (i:Nat),Ab.valOf P (Instr.findAsking t (qcr τ k) (qfH (kvs τ l)) i)=some (if qgN τ l k then some (qzT τ k l i,.bool true)else none)
 |[],i=>rfl
 |x::l,i=>by
  show Ab.valOf P (Instr.findAsking t (qcr τ k) (⟨qcr τ x,.bool true,0⟩::qfH (kvs τ l)) i)=_;simp only [Instr.findAsking];rw [qo,qzC h];simp only [qa];cases hx:eqK τ k x with
  |true =>
   have hm:qgN τ (x::l) k=true:=by simp [qgN,hx]
   rw [hm];simp only [if_true,qzT,hx];rfl
  |false =>
   have hm:qgN τ (x::l) k=qgN τ l k:=by simp [qgN,hx]
   rw [hm];simp only [qf,if_false,qzT,hx];exact qDj h k l (i+1)
theorem qA0{t:TypeId}{τ:Ty}{d:TypeDesc}(h:qjZ P t τ=true)(hd:P.underlying t=some d)(x y:τ.den):Instr.sameNow d (qra τ x) (qra τ y)=some (eqS τ x y):=by
 unfold qjZ at h;split at h
 ·rename_i h1;rw [h1]at hd;cases hd;simp only [qra,Instr.sameNow,if_true,eqS,qb];rw [Bool.eq_iff_iff];simp
 ·rename_i h1;rw [h1]at hd;cases hd;rfl
 ·rename_i h1;rw [h1]at hd;cases hd;simp only [qra,Instr.sameNow,eqS,qb];rw [Bool.eq_iff_iff];first
  |(show (x.toArray==y.toArray)=true↔decide (x=y)=true;simp)
  |(show decide ((⟨x.toArray⟩:ByteArray)=⟨y.toArray⟩)=true↔decide (x=y)=true;simp)
 ·cases h
theorem qDu{t:TypeId}{τ:Ty}{d:TypeDesc}(h:qjZ P t τ=true)(hd:P.underlying t=some d)(k:τ.den):∀(l:List τ.den) (i:Nat),Instr.findNow d (qcr τ k) (qfH (kvs τ l)) i=some (if qgN τ l k then some (qzT τ k l i,.bool true)else none)
 |[],i=>rfl
 |x::l,i=>by
  have hs:=qr1 h;show Instr.findNow d (qcr τ k) (⟨qcr τ x,.bool true,0⟩::qfH (kvs τ l)) i=_;simp only [Instr.findNow];rw [qca hs k,qca hs x,qA0 h hd,<- qnv hs];cases hx:eqK τ k x with
  |true =>
   have hm:qgN τ (x::l) k=true:=by simp [qgN,hx]
   simp only [hm,if_true,qzT,hx]
  |false =>
   have hm:qgN τ (x::l) k=qgN τ l k:=by simp [qgN,hx]
   simp only [hm,qf,if_false,qzT,hx];rw [<- qca hs k];exact qDu h hd k l (i+1)
theorem qzG{t:TypeId}{τ:Ty}(h:qfo P t τ=true)(k:τ.den)(l:List τ.den):Ab.valOf P (Instr.findKey t (qcr τ k) (qfH (kvs τ l)))=some (if qgN τ l k then some (qzT τ k l 0,.bool true)else none):=by
 unfold Instr.findKey;rcases qeP h with ⟨h1,h2⟩|⟨fields,a,b,hu,rfl,hst,hf⟩
 ·obtain ⟨d,hd,_⟩:=quv h2;rw [qo,qt hd];simp only [qa,qDu h2 hd k l 0];rfl
 ·rw [qo,qt hu];simp only [qa];cases l with
  |nil=>rfl
  |cons x l =>
   have:Instr.findNow (.struct fields) (qcr (.pair a b) k) (qfH (kvs (.pair a b) (x::l))) 0=none:=rfl;rw [this];exact qDj h k (x::l) 0
theorem quu{τ:Ty}(hk:qfX τ=true)(x:τ.den):Instr.sameBits 10000 (qcr τ x) (qcr τ x)=true:=by
 have hsc:∀(n:Nat) {a:Ty} (h:qlW a=true) (x:a.den),Instr.sameBits n (qra a x) (qra a x)=true:=λn a h x=>by
  cases a<;>first|(simp [qra,Instr.sameBits];done)|skip
  case str =>
   have e:∀s:ByteArray,Instr.sameBits n (.string s) (.string s)=(s==s):=λs=>by cases n<;>rfl
   show Instr.sameBits n (.string ⟨x.toArray⟩) (.string ⟨x.toArray⟩)=true;rw [e];first
   |exact beq_self_eq_true _
   |(show (x.toArray==x.toArray)=true;simp)
   |(show decide ((⟨x.toArray⟩:ByteArray)=⟨x.toArray⟩)=true;simp)
  all_goals simp [qlW]at h
 by_cases hs:qlW τ=true
 ·rw [qca hs];exact hsc _ hs x
 ·cases τ with
  |pair a b =>
   simp only [qfX,qe]at hk;simp only [qcr];have hall:∀{τ:Ty} (h:qoM τ=true) (x:τ.den),((qy2 τ x).zip (qy2 τ x)).all (λp=>Instr.sameBits 9999 p.1 p.2)=true:=λ{τ}=>by
    induction τ with
    |unit=>intro _ _;rfl
    |pair a b _ ih =>
     intro h x;simp only [qoM,qe]at h;simp only [qy2,List.zip_cons_cons,List.all_cons,qe];exact ⟨hsc _ h.1 x.1,ih h.2 x.2⟩
    |_=>intro h;simp [qoM]at h
   have:=hall (τ:=.pair a b) (by simp [qoM,hk.1,hk.2]) x;simp only [qy2]at this;show ((qra a x.1::qy2 b x.2).toArray.size==(qra a x.1::qy2 b x.2).toArray.size&&_)=true;simp only [beq_self_eq_true,Bool.true_and];exact this
  |_=>simp [qfX,qlW]at hk hs
theorem qAd{t kt vt:TypeId}{τ:Ty}{l:List τ.den}{x:TV}{v:V}{y:τ.den}{ok:Bool}{o:Nat}(hu:P.underlying t=some (.map kt vt))(hf:qfo P kt τ=true)(hz:quS P H f vt=some (.t .bool o false))(hy:qg8 τ 0 x=some y)(hx:RV x v) :
  ∃u,qmu P H f t (kvs τ l) v ok=some u/\RV (if ok then .tuple [.t .bool 0 (qgN τ l y),.t .bool 0 (qgN τ l y)]else .t .bool 0 (qgN τ l y)) u:=by
 have hk:=qqz hf;have hv:=qAY hk (qc5 _ _ _ _ _ hy hx);obtain ⟨z',hz',hzr,_⟩:=qiQ hz;simp only [RV,RTy]at hzr;subst hzr;unfold qmu;rw [hu,hv];simp only [qs4 hf,qzG hf,hz'];cases hm:qgN τ l y with
 |true =>
  simp only [if_true];refine ⟨_,rfl,?_⟩;cases ok with
  |true=>simp [RV,RVL,RTy,qcl]
  |false=>simp [RV,RTy,qcl]
 |false =>
  simp only [qf,if_false];refine ⟨_,rfl,?_⟩;cases ok with
  |true=>simp [RV,RVL,RTy]
  |false=>simp [RV,RTy]
theorem quK{t kt vt:TypeId}{τ:Ty}{l:List τ.den}{x:TV}{v w:V}{y:τ.den}(hu:P.underlying t=some (.map kt vt))(hf:qfo P kt τ=true)(hy:qg8 τ 0 x=some y)(hx:RV x v)(hw:w=.val (.bool true)) :
  qj8 P t (kvs τ l) v w=some (kvs τ (qlt τ l y)):=by
 have hk:=qqz hf;have hv:=qAY hk (qc5 _ _ _ _ _ hy hx);subst hw;unfold qj8;rw [hu,hv];simp only [V.toVal,qs4 hf,qzG hf];unfold qlt;cases hm:qgN τ l y with
 |true =>
  obtain ⟨j,hj,x',hx',he⟩:=qzU (i:=0) hm;have hxy:x'=y:=(qDk hk he).symm;subst hxy;simp only [if_true,cond_true];have hj':qzT τ x' l 0=j:=by omega
  have hkj:(kvs τ l)[j]?=some (qcr τ x',.bool true):=by simp [kvs,hx']
  rw [hj',hkj];simp only [quu hk,if_true,qb];apply List.ext_getElem?;intro i;rw [List.getElem?_set];split
  ·rename_i hij;subst hij;have hlt:=(qm.1 hkj).1;rw [if_pos hlt,hkj]
  ·rfl
 |false =>
  simp only [qf,if_false,cond_false];simp [kvs]
mutual
theorem adopt_id(q:Root):∀v:V,v.qq=[]->v.adopt q=v
 |.mref r,h=>by simp [V.qq]at h
 |.fn g a b,h=>by
  simp only [V.qq,List.append_eq_nil_iff]at h;simp only [V.adopt,adoptL_id q a h.1,adoptL_id q b h.2]
 |.agg l,h=>by simp only [V.qq]at h;simp only [V.adopt,adoptL_id q l h]
 |.cptr _ l,h=>by simp only [V.qq]at h;simp only [V.adopt,adoptL_id q l h]
 |.tuple l,h=>by simp only [V.qq]at h;simp only [V.adopt,adoptL_id q l h]
 |.undef,_|.val _,_|.ptr ..,_|.sl ..,_|.room ..,_|.yld _,_|.bsl ..,_|.iface ..,_|.mp _,_|.lp ..,_=>by simp [V.adopt]
theorem adoptL_id(q:Root):∀l:List V,ptrsL l=[]->Ab.adoptL q l=l
 |[],_=>by simp [Ab.adoptL]
 |v::l,h=>by
  simp only [ptrsL,List.append_eq_nil_iff]at h;simp only [Ab.adoptL,adopt_id q v h.1,adoptL_id q l h.2]
end
theorem qfP:∀(τ:Ty) (o:Nat) (x:τ.den) (v:V),RTy τ o x v->v.onlyMaps=true
 |.int _,_,_,v,h=>by simp only [RTy]at h;subst h;rfl
 |.bool,_,_,v,h=>by simp only [RTy]at h;subst h;rfl
 |.str,_,_,v,h=>by simp only [RTy]at h;subst h;rfl
 |.flt,_,_,v,h=>by simp only [RTy]at h;obtain ⟨_,rfl,_⟩:=h;rfl
 |.cx,_,_,v,h=>by simp only [RTy]at h;obtain ⟨_,_,rfl,_⟩:=h;rfl
 |.err,_,_,v,h=>by simp only [RTy]at h;rcases h with ⟨_,rfl⟩|⟨_,t9,rfl⟩<;>rfl
 |.mset _,_,_,v,h=>by simp only [RTy]at h;obtain ⟨_,rfl⟩:=h;rfl
 |.sl _,_,_,v,h=>by simp only [RTy]at h;obtain ⟨_,_,_,rfl,_⟩:=h;rfl
 |.unit,_,_,v,h=>by simp only [RTy]at h;subst h;rfl
 |.pair a b,o,x,v,h=>by
  simp only [RTy]at h;obtain ⟨v1,l,rfl,h1,h2⟩:=h;have h3:=qfP a o x.1 v1 h1;have h4:=qfP b o x.2 (.agg l) h2;simp only [V.onlyMaps]at h4 ⊢;simp only [Ab.onlyMapsL,h3,h4]<;>rfl
mutual
theorem rv_adopt(q:Root):∀(x:TV) (v:V),x.onlyMaps=true->RV x v->RV (x.adopt q) (v.adopt q)/\v.onlyMaps=true
 |.any _,v,ho,_|.ptr ..,v,ho,_|.bsl ..,v,ho,_|.iface ..,v,ho,_|.yld _,v,ho,_|.lp ..,v,ho,_=>by simp [TV.onlyMaps]at ho
 |.mref r,v,_,h=>by simp only [RV]at h;subst h;simp [TV.adopt,V.adopt,RV,V.onlyMaps]
 |.t τ o x,v,_,h=>by
  simp only [TV.adopt];have h':=h;simp only [RV]at h;rw [adopt_id q v (qdr τ o x v h)];exact ⟨h',qfP τ o x v h⟩
 |.clp τ x,v,_,h=>by
  simp only [TV.adopt];have h':=h;simp only [RV]at h;obtain ⟨f,l',rfl,_⟩:=h;exact ⟨by simpa only [V.adopt]using h',rfl⟩
 |.room a s,v,_,h=>by
  simp only [TV.adopt];have h':=h;simp only [RV]at h;obtain ⟨_,n,rfl,_⟩|⟨_,rfl|⟨f,hf0,rfl⟩⟩:=h
  ·exact ⟨by simpa only [V.adopt]using h',rfl⟩
  ·exact ⟨by simpa only [V.adopt]using h',rfl⟩
  ·exact ⟨by simpa only [V.adopt]using h',rfl⟩
 |.empty o,v,_,h=>by
  simp only [TV.adopt];have h':=h;simp only [RV]at h;obtain ⟨f,c,rfl,_⟩:=h;exact ⟨by simpa only [V.adopt]using h',rfl⟩
 |.val u,v,_,h=>by
  simp only [TV.adopt];have h':=h;simp only [RV]at h;subst h;exact ⟨by simpa only [V.adopt]using h',rfl⟩
 |.agg l,v,ho,h=>by
  simp only [TV.onlyMaps]at ho;simp only [RV]at h;obtain ⟨l',rfl,h⟩:=h;obtain ⟨h1,h2⟩:=rvl_adopt q l l' ho h;exact ⟨by simp only [TV.adopt,V.adopt,RV];exact ⟨_,rfl,h1⟩,by simpa only [V.onlyMaps]using h2⟩
 |.cptr s l,v,ho,h=>by
  simp only [TV.onlyMaps]at ho;simp only [RV]at h;obtain ⟨f,l',rfl,hno,hsh,h⟩:=h;obtain ⟨h1,h2⟩:=rvl_adopt q l l' ho h;exact ⟨by simp only [TV.adopt,V.adopt,RV];exact ⟨_,_,rfl,hno,hsh,h1⟩,by simpa only [V.onlyMaps]using h2⟩
 |.tuple l,v,ho,h=>by
  simp only [TV.onlyMaps]at ho;simp only [RV]at h;obtain ⟨l',rfl,h⟩:=h;obtain ⟨h1,h2⟩:=rvl_adopt q l l' ho h;exact ⟨by simp only [TV.adopt,V.adopt,RV];exact ⟨_,rfl,h1⟩,by simpa only [V.onlyMaps]using h2⟩
 |.fn g a b,v,ho,h=>by
  simp only [TV.onlyMaps,qe]at ho;simp only [RV]at h;obtain ⟨a',b',rfl,ha,hb⟩:=h;obtain ⟨h1,h2⟩:=rvl_adopt q a a' ho.1 ha;obtain ⟨h3,h4⟩:=rvl_adopt q b b' ho.2 hb;exact ⟨by simp only [TV.adopt,V.adopt,RV];exact ⟨_,_,rfl,h1,h3⟩,by simp only [V.onlyMaps,h2,h4];rfl⟩
theorem rvl_adopt(q:Root):∀(l:List TV) (l':List V),onlyMapsTL l=true->RVL l l'->RVL (adoptTL q l) (Ab.adoptL q l')/\Ab.onlyMapsL l'=true
 |[],l',_,h=>by simp only [RVL]at h;subst h;exact ⟨by simp [adoptTL,Ab.adoptL,RVL],rfl⟩
 |x::l,l',ho,h=>by
  simp only [onlyMapsTL,qe]at ho;simp only [RVL]at h;obtain ⟨v,m,rfl,h1,h2⟩:=h;obtain ⟨h3,h4⟩:=rv_adopt q x v ho.1 h1;obtain ⟨h5,h6⟩:=rvl_adopt q l m ho.2 h2;exact ⟨by simp only [adoptTL,Ab.adoptL];exact qv.2 ⟨h3,h5⟩,by simp only [Ab.onlyMapsL,h4,h6];rfl⟩
end
mutual
theorem RV.onlyMaps_eq:∀(x:TV) (v:V),x.known=true->RV x v->v.onlyMaps=x.onlyMaps
 |.any _,v,hk,_=>by simp [TV.known]at hk
 |.t τ o x,v,_,h=>by simp only [RV]at h;rw [qfP τ o x v h]<;>rfl
 |.clp τ x,v,_,h=>by simp only [RV]at h;obtain ⟨f,l',rfl,_⟩:=h;rfl
 |.room a s,v,_,h=>by simp only [RV]at h;obtain ⟨_,n,rfl,_⟩|⟨_,rfl|⟨f,hf0,rfl⟩⟩:=h<;>rfl
 |.empty o,v,_,h=>by simp only [RV]at h;obtain ⟨f,c,rfl,_⟩:=h;rfl
 |.val u,v,_,h=>by simp only [RV]at h;subst h;rfl
 |.agg l,v,hk,h=>by simp only [RV]at h;obtain ⟨l',rfl,h⟩:=h;simp only [TV.known]at hk;simp only [V.onlyMaps,TV.onlyMaps];exact RVL.onlyMaps_eq l l' hk h
 |.tuple l,v,hk,h=>by simp only [RV]at h;obtain ⟨l',rfl,h⟩:=h;simp only [TV.known]at hk;simp only [V.onlyMaps,TV.onlyMaps];exact RVL.onlyMaps_eq l l' hk h
 |.fn g a b,v,hk,h=>by
  simp only [RV]at h;obtain ⟨a',b',rfl,h1,h2⟩:=h;simp only [TV.known,qe]at hk;simp only [V.onlyMaps,TV.onlyMaps,RVL.onlyMaps_eq a a' hk.1 h1,RVL.onlyMaps_eq b b' hk.2 h2]
 |.ptr r o,v,_,h=>by simp only [RV]at h;subst h;rfl
 |.bsl r o n,v,_,h=>by simp only [RV]at h;subst h;rfl
 |.yld r,v,_,h=>by simp only [RV]at h;subst h;rfl
 |.lp ..,v,_,h=>by simp only [RV]at h
 |.mref r,v,_,h=>by simp only [RV]at h;subst h;rfl
 |.cptr s l,v,hk,h=>by simp only [RV]at h;obtain ⟨f,l',rfl,_,_,h⟩:=h;simp only [TV.known]at hk;simp only [V.onlyMaps,TV.onlyMaps];exact RVL.onlyMaps_eq l l' hk h
 |.iface t x,v,hk,h=>by simp [TV.known]at hk
theorem RVL.onlyMaps_eq:∀(l:List TV) (l':List V),knownL l=true->RVL l l'->Ab.onlyMapsL l'=onlyMapsTL l
 |[],l',_,h=>by simp only [RVL]at h;subst h;rfl
 |x::l,l',hk,h=>by
  simp only [RVL]at h;obtain ⟨v,m,rfl,h1,h2⟩:=h;simp only [knownL,qe]at hk;simp only [Ab.onlyMapsL,onlyMapsTL,RV.onlyMaps_eq x v hk.1 h1,RVL.onlyMaps_eq l m hk.2 h2]
end
theorem qqD{g:FuncId}{first cap args:List TV}{first' cap' args':List V}(hk:knownL (first++args++cap)=true)(h:RVL (first++args++cap) (first'++args'++cap')) :
  qhO (.fn g first' cap') args'=qkR (.fn g first cap) args:=by
 unfold qhO qkR;simp only [hk,if_true,RVL.ptrs_eq _ _ hk h,RVL.onlyMaps_eq _ _ hk h];cases ptrsTL (first++args++cap)<;>rfl
end
theorem qj3(e:Env):e.toL.length=e.n:=by simp [Env.toL]
theorem toL_get?(e:Env)(i:Nat):e.toL[i]?=if i<e.n then some (e.t.get (.any []) i)else none:=by
 unfold Env.toL;rw [List.getElem?_map];by_cases h:i<e.n
 ·rw [if_pos h];simp [h]
 ·rw [if_neg h,List.getElem?_eq_none (by simp;omega)];rfl
theorem qnB(e:Env)(i:Nat):e.get i=e.toL.getD i (.any []):=by
 rw [List.getD_eq_getElem?_getD,toL_get?];show Bool.rec (motive:=λ_=>TV) (.any []) (e.t.get (.any []) i) (Nat.ble (i+1) e.n)=_;rw [qzq];by_cases h:i<e.n
 ·rw [if_pos h,if_pos (by rw [Nat.ble_eq];omega)];rfl
 ·rw [if_neg h,if_neg (by rw [Nat.ble_eq];omega)];rfl
theorem get_some{e:Env}{i:Nat}{x:TV}(h:e.toL[i]?=some x):e.get i=x:=by
 rw [qnB,List.getD_eq_getElem?_getD,h];rfl
theorem some_get{e:Env}{i:Nat}{x:TV}(h:e.get i=x)(hx:∀rs,x≠.any rs):e.toL[i]?=some x:=by
 rw [qnB,List.getD_eq_getElem?_getD]at h;cases hh:e.toL[i]? with
 |none=>rw [hh]at h;exact absurd h.symm (hx [])
 |some y=>rw [hh]at h;simpa using h
theorem qdQ(e:Env)(i:Nat)(v:TV):(e.set i v).toL=e.toL.set i v:=by
 apply List.ext_getElem?;intro j;rw [List.getElem?_set,toL_get?,toL_get?,qj3];show (if j<e.n then some ((e.t.set (.any []) i v).get (.any []) j)else none)=_;rw [Tr.qrF];by_cases h:j<e.n
 ·rw [if_pos h,if_pos h];by_cases e1:i=j
  ·rw [if_pos e1,if_pos e1,if_pos (by omega)]
  ·rw [if_neg e1,if_neg e1]
 ·rw [if_neg h,if_neg h];by_cases e1:i=j
  ·rw [if_pos e1,if_neg (by omega)]
  ·rw [if_neg e1]
theorem qsG(f:Nat->TV->TV)(e:Env)(i:Nat):(e.qvA f).toL[i]?=(e.toL[i]?).map (f i):=by
 rw [toL_get?,toL_get?];show (if i<e.n then some ((e.t.qvA (.any []) e.n f 1 0).get (.any []) i)else none)=_;by_cases h:i<e.n
 ·rw [if_pos h,if_pos h,Tr.qrE _ _ _ _ _ _ _ (Nat.le_refl _) (by omega)];simp
 ·rw [if_neg h,if_neg h];rfl
theorem qCi(f:Nat->TV->TV)(e:Env):(e.qvA f).toL.length=e.toL.length:=by rw [qj3,qj3];rfl
theorem qzb{p:Nat->TV->Bool}{e:Env}(h:e.all p=true)(hp:∀i,p i (.any [])=true){i:Nat}{x:TV}(hx:e.toL[i]?=some x):p i x=true:=by
 rw [toL_get?]at hx;split at hx
 ·cases hx;have:=Tr.qrn (.any []) hp e.t 1 0 i h;simpa using this
 ·cases hx
theorem qCj{p:TV->Bool}{e:Env}(hp:p (.any [])=false){i:Nat}{x:TV}(hx:e.toL[i]?=some x)(h:p x=true):i∈e.mask p:=by
 rw [toL_get?]at hx;split at hx
 ·cases hx;have:=Tr.qoU (.any []) hp e.t 1 0 i h;rw [Mask.mem_iff];simpa [Mask.has,Env.mask]using this
 ·cases hx
theorem qqi:∀(l:List TV) (i:Nat) (t:Tr TV) (j:Nat),(qtc l i t).get (.any []) j=if i<=j/\j<i+l.length then l.getD (j-i) (.any [])else t.get (.any []) j
 |[],i,t,j=>by
  rw [if_neg (by simp)];rfl
 |v::l,i,t,j=>by
  show (qtc l (i+1) (t.set (.any []) i v)).get (.any []) j=_;rw [qqi l,Tr.qrF];by_cases h1:i+1<=j/\j<i+1+l.length
  ·rw [if_pos h1,if_pos (by simp;omega)];have:j-i=(j-(i+1))+1:=by omega
   rw [this];simp
  ·rw [if_neg h1];by_cases h2:i=j
   ·rw [if_pos h2,if_pos (by simp;omega)];simp [h2]
   ·rw [if_neg h2,if_neg (by simp;omega)]
theorem qmp(args:List TV)(n:Nat):(Env.qhf args n).toL=args++List.replicate (n-args.length) (.any []):=by
 apply List.ext_getElem?;intro j;rw [toL_get?];show (if j<args.length+(n-args.length)then some ((qtc args 0 .nil).get (.any []) j)else none)=_;rw [qqi,List.getElem?_append];by_cases h1:j<args.length
 ·rw [if_pos (by omega),if_pos (by omega),if_pos h1];simp [h1]
 ·rw [if_neg h1];by_cases h2:j<args.length+(n-args.length)
  ·rw [if_pos h2,if_neg (by omega),Tr.get_nil,List.getElem?_replicate,if_pos (by omega)]
  ·rw [if_neg h2,List.getElem?_replicate,if_neg (by omega)]
theorem qjx(D:Mask)(rs:Nat->List Root)(e:Env)(i:Nat):(qdI D rs e).toL[i]?=if i∈D then (e.toL[i]?).map (λ_=>.any (rs i))else e.toL[i]?:=by
 unfold qdI;rw [qsG];by_cases h:i∈D
 ·rw [if_pos h];rw [Mask.mem_iff]at h;rw [h]
 ·rw [if_neg h];rw [Mask.mem_iff]at h;have:D.has i=false:=by simpa using h
  rw [this];show (e.toL[i]?).map (λv=>v)=_;simp
theorem qoi(D:Mask)(rs:Nat->List Root)(e:Env):(qdI D rs e).toL.length=e.toL.length:=qCi _ _
theorem qq9(E:Env)(t:Nat):(E.set t (E.get t).q6).toL=E.toL.modify t TV.q6:=by
 apply List.ext_getElem?;intro j;rw [qdQ,List.getElem?_set,List.getElem?_modify];by_cases h:t=j
 ·rw [if_pos h];subst h;cases hh:E.toL[t]? with
  |none=>rw [if_neg (by have:=List.getElem?_eq_none_iff.1 hh;omega)];rfl
  |some x=>rw [if_pos (qm.1 hh).1,get_some hh];simp
 ·rw [if_neg h];cases E.toL[j]?<;>simp [h]
theorem qlA{x:Nat}:∀{l:List Nat},x∈qfF l↔x∈l
 |[]=>by simp [qfF]
 |a::l=>by
  simp only [qfF];split
  ·rename_i h;rw [qlA];simp at h;constructor
   ·intro hx;simp [hx]
   ·intro hx;rcases qk.1 hx with rfl|hx
    ·exact h
    ·exact hx
  ·simp [qlA (l:=l)]
def qDJ(acc:List Mask)(acc':List (List Nat)):Prop:=acc.length=acc'.length/\∀i j,j∈acc.getD i .empty↔j∈acc'.getD i []
theorem qqm(acc:List Mask)(acc':List (List Nat))(h:qDJ acc acc'):∀(l:List Nat) (m:Mask) (x:Nat),x∈l.foldl (λm j=>Mask.ins j (m++acc.getD j .empty)) m↔x∈m\/x∈l.flatMap λj=>j::acc'.getD j []
 |[],m,x=>by simp
 |j::l,m,x=>by
  simp only [List.foldl_cons];rw [qqm acc acc' h l];simp only [Mask.mem_ins,Mask.mem_append,List.flatMap_cons,qj,qk];rw [h.2 j x];constructor
  ·rintro ((h1|(h1|h1))|h1)
   ·exact .inr (.inl (.inl h1))
   ·exact .inl h1
   ·exact .inr (.inl (.inr h1))
   ·exact .inr (.inr h1)
  ·rintro (h1|((h1|h1)|h1))
   ·exact .inl (.inr (.inl h1))
   ·exact .inl (.inl h1)
   ·exact .inl (.inr (.inr h1))
   ·exact .inr h1
theorem qq0:∀(ops:List Oper) (acc:List Mask) (acc':List (List Nat)),qDJ acc acc' ->
  qDJ (ops.foldl (λacc o=>acc++[(qbk o).foldl (λm j=>Mask.ins j (m++acc.getD j .empty)) .empty]) acc) (ops.foldl (λacc o=>acc++[qfF ((qbk o).flatMap λj=>j::acc.getD j [])]) acc')
 |[],acc,acc',h=>h
 |o::ops,acc,acc',h=>by
  simp only [List.foldl_cons];refine qq0 ops _ _ ⟨by simp [h.1],λi j=>?_⟩;simp only [List.getD_eq_getElem?_getD,List.getElem?_append];by_cases hi:i<acc.length
  ·rw [if_pos hi,if_pos (by rw [<- h.1];exact hi)];have:=h.2 i j;simpa only [List.getD_eq_getElem?_getD]using this
  ·rw [if_neg hi,if_neg (by rw [<- h.1];exact hi),h.1];by_cases h0:i-acc'.length=0
   ·rw [h0];simp only [List.getElem?_cons_zero,Option.getD_some];have:=qqm acc acc' h (qbk o) .empty j;simp only [List.getD_eq_getElem?_getD]at this;rw [this,qlA];simp
   ·obtain ⟨k,hk⟩:∃k,i-acc'.length=k+1:=⟨i-acc'.length-1,by omega⟩
    rw [hk];simp
theorem qsT(ops:List Oper)(i j:Nat):((qzc ops).getD i .empty).has j=((qka ops).getD i []).contains j:=by
 have h:=(qq0 ops [] [] ⟨rfl,λi j=>by simp⟩).2 i j;have e:∀a b:Bool,(a=true↔b=true)->a=b:=λa b=>by cases a<;>cases b<;>simp
 apply e;rw [List.contains_iff_mem];exact h
theorem qui(H:Hints)(f:FuncId)(U:List (Nat×Nat))(ops:Array Oper):qk2 H f U ops=qeT H f U ops:=by
 unfold qk2 qeT;simp only [qsT];rfl
theorem qzl(draw:Bool)(ops:List Oper)(i c:Nat):qmx draw (qzc ops) i c=qlx draw (qka ops) i c:=by
 unfold qmx qlx;rw [qsT]
theorem qyf(H:Hints)(f:FuncId)(draw:Bool)(ops:Array Oper):qvy H f draw ops=qoO H f draw ops:=by
 have h:∀lone c oc,qr2 H f draw (qzc ops.toList) ops lone c oc=qoQ H f draw (qka ops.toList) ops lone c oc:=λlone c oc=>by
  unfold qr2 qoQ;simp only [qzl];rfl
 unfold qvy qoO;simp only [h];rfl
section
variable {P:Program} {H:Hints} {f:FuncId}
def qak(M:List qG)(l s:Nat):Option (Option (List TV)):=match M[l]? with
 |some b=>qU b s
 |none=>none
def qaq(M:List Level)(l s:Nat):Option (List V):=match M[l]? with
 |some b=>qw b s
 |none=>none
def RC:List TV->List V->Prop
 |[.lp s pe f env ps a b],c'=>∃env',c'=[.lp s pe f env' ps a b]/\RVL env env'
 |c,c'=>RVL c c'
theorem qqZ{c:List TV}{c':List V}(h:RVL c c'):isRec c=false:=by
 cases c with
 |nil=>rfl
 |cons x l =>
  simp only [RVL]at h;obtain ⟨v,m,_,h1,_⟩:=h;cases x<;>first|rfl|simp_all [RV]
theorem RVL.rc{c:List TV}{c':List V}(h:RVL c c'):RC c c':=by
 have h0:=qqZ h;unfold RC;grind [isRec]
theorem RC.rvl{c:List TV}{c':List V}(h:RC c c')(hn:isRec c=false):RVL c c':=by
 unfold RC at h;grind [isRec]
theorem RC.qq{c:List TV}{c':List V}(h:RC c c')(r:Root)(hr:r∈ptrsL c'):r∈ptrsTL c:=by
 unfold RC at h;grind [RVL.qq,ptrsL,V.qq,ptrsTL,TV.qq]
def RB:Option (Option (List TV))->Option (List V)->Prop
 |none,b=>b=none
 |some none,b=>∀c,b=some c->qae c=false
 |some (some c),b=>∃c',b=some c'/\RC c c'
structure LR (M:List qG) (M':List Level):Prop where
 len:M'.length=M.length
 rel:∀l s,RB (qak M l s) (qaq M' l s)
 nd:∀b∈M',(b.map (·.1)).Nodup
 mp:∀l s c,qaq M' l s=some c->s<16384->qhk c=false
def TSt.all(st:TSt):List qG:=st.L++[st.B]
def qdS(s:St):List Level:=s.L++[s.B]
structure Rst (st:TSt) (s:St):Prop where
 E:RVL st.E.toL s.E
 M:LR st.all (qdS s)
theorem Rst.len{st:TSt}{s:St}(h:Rst st s):s.L.length=st.L.length:=by
 have:=h.M.len;simp_all [TSt.all,qdS]
theorem qP{s:St}(r:Root):s.box r=qaq (qdS s) r.lvl r.slot:=by
 obtain ⟨l,sl⟩:=r;unfold St.box qaq qdS;grind
theorem qaO{st:TSt}(r:Root):st.cont r=match qak st.all r.lvl r.slot with
  |some (some c)=>some c
  |_=>none:=by
 obtain ⟨l,sl⟩:=r;unfold TSt.cont qak TSt.all;grind
theorem qec{st:TSt}{r:Root}{c:List TV}(h:st.cont r=some c):qak st.all r.lvl r.slot=some (some c):=by
 grind [qaO]
theorem qrt{st:TSt}{r:Root}{c:List TV}(h:st.box r=some c):st.cont r=some c/\isRec c=false:=by
 grind [TSt.box]
theorem qru{st:TSt}{r:Root}{c:List TV}(h:st.box r=some c):qak st.all r.lvl r.slot=some (some c):=qec (qrt h).1
theorem qwA{st:TSt}{r:Root}{c:List TV}(h:st.cont r=some c)(hn:isRec c=false):st.box r=some c:=by
 simp_all [TSt.box]
theorem Rst.box{st:TSt}{s:St}(h:Rst st s){r:Root}{c:List TV}(hc:st.box r=some c):∃c',s.box r=some c'/\RVL c c':=by
 have:=h.M.rel r.lvl r.slot;rw [qru hc]at this;rw [qP];obtain ⟨c',h1,h2⟩:=this;exact ⟨c',h1,h2.rvl (qrt hc).2⟩
theorem Rst.bx{st:TSt}{s:St}(h:Rst st s)(r:Root):BxR (st.box r) (s.box r):=by
 cases hc:st.box r with
 |none=>trivial
 |some c=>exact h.box hc
theorem qix(b:qG)(s s':Nat)(c:Option (List TV)):qU (qyI b s c) s'=if s'=s then (qU b s).map (λ_=>c)else qU b s':=by
 induction b with
 |nil=>simp [qyI,qU]
 |cons p b ih =>
  obtain ⟨k,d⟩:=p;by_cases h:k=s
  ·subst h;by_cases h2:k=s'
   ·simp_all [qyI,qU]
   simp_all [Ne.symm,qyI,qU]
  grind [qyI,qU]
theorem qga(b:Level)(s s':Nat)(c:List V):qw (qeW b s c) s'=if s'=s then (qw b s).map (λ_=>c)else qw b s':=by
 induction b with
 |nil=>simp [qeW,qw]
 |cons p b ih =>
  obtain ⟨k,d⟩:=p;by_cases h:k=s
  ·subst h;by_cases h2:k=s'
   ·simp_all [qeW,qw]
   simp_all [Ne.symm,qeW,qw]
  grind [qeW,qw]
theorem qz6(b:Level)(s:Nat)(c:List V):(qeW b s c).map (·.1)=b.map (·.1):=by
 induction b with
 |nil=>rfl
 |cons p b ih =>
  grind [qeW]
theorem qhN(M:List qG)(l:Nat)(g:qG->qG)(l' s:Nat):qak (M.modify l g) l' s=if l'=l then (match M[l]? with|some b=>qU (g b) s|none=>none)else qak M l' s:=by
 unfold qak;grind
theorem qmH(M:List Level)(l:Nat)(g:Level->Level)(l' s:Nat):qaq (M.modify l g) l' s=if l'=l then (match M[l]? with|some b=>qw (g b) s|none=>none)else qaq M l' s:=by
 unfold qaq;grind
theorem qgP{α:Type}(g:α->α)(b:α):∀L:List α,(L++[b]).modify L.length g=L++[g b]
 |[]=>rfl
 |x::L=>by simp [qgP g b L]
theorem qgQ{α:Type}(g:α->α)(b:α):∀(L:List α) {l:Nat},l≠L.length->(L++[b]).modify l g=L.modify l g++[b]
 |[],l,h=>by
  grind
 |x::L,l,h=>by
  cases l with
  |zero=>simp
  |succ n =>
   have:=qgQ g b L (l:=n) (by simpa using h);simp [this]
theorem qq1(s:St)(r:Root)(c:List V):qdS (s.qp r c)=(qdS s).modify r.lvl (λb=>qeW b r.slot c):=by
 unfold St.qp qdS;by_cases h:r.lvl=s.L.length
 ·rw [if_pos h,h,qgP]
 simp_all [if_neg,qgQ]
theorem qj6(st:TSt)(r:Root)(c:List TV):(st.qp r c).all=st.all.modify r.lvl (λb=>qyI b r.slot (some c)):=by
 unfold TSt.qp TSt.all;by_cases h:r.lvl=st.L.length
 ·rw [if_pos h,h,qgP]
 simp_all [if_neg,qgQ]
theorem qqn(st:TSt)(rs:List Root)(r:Root):(st.forget rs r).all=st.all.modify r.lvl (λb=>qEO rs b r.slot):=by
 unfold TSt.forget TSt.all;by_cases h:r.lvl=st.L.length
 ·rw [if_pos h,h,qgP]
 simp_all [if_neg,qgQ]
theorem mem_modify{α:Type}{g:α->α}{b:α}:∀{M:List α} {l:Nat},b∈M.modify l g->b∈M\/∃b'∈M,b=g b'
 |[],l,h=>by grind
 |x::M,0,h=>by
  grind
 |x::M,l+1,h=>by
  simp only [List.modify_succ_cons,qk]at h;rcases h with rfl|h
  ·exact .inl (by simp)
  ·rcases mem_modify h with h|⟨b',h1,h2⟩
   ·exact .inl (by simp [h])
   ·exact .inr ⟨b',by simp [h1],h2⟩
theorem LR.qp{M:List qG}{M':List Level}(h:LR M M')(l s:Nat){c:List TV}{c':List V}(hd:qak M l s≠some none)(hc:RC c c')(hmp:s<16384->qhk c'=false) :
  LR (M.modify l λb=>qyI b s (some c)) (M'.modify l λb=>qeW b s c') where
 len:=by simp [h.len]
 rel:=λl2 s2=>by
  rw [qhN,qmH];by_cases e:l2=l
  ·subst e;rw [if_pos rfl,if_pos rfl];have key:=h.rel l2 s2;have key2:=h.rel l2 s;unfold qak qaq at key key2;cases h1:M[l2]? with
   |none =>
    have h2:M'[l2]?=none:=by rw [List.getElem?_eq_none_iff]at h1 ⊢;rw [h.len];exact h1
    rw [h2];rfl
   |some b =>
    have h2:∃b',M'[l2]?=some b':=by
     have:=(qm.1 h1).1;exact ⟨_,List.getElem?_eq_getElem (by rw [h.len];exact this)⟩
    obtain ⟨b',h2⟩:=h2;rw [h1,h2]at key key2;rw [h2];simp only at key key2 ⊢;rw [qix,qga];by_cases e2:s2=s
    ·subst e2;rw [if_pos rfl,if_pos rfl];cases hl:qU b s2 with
     |none=>simp_all [RB]
     |some o =>
      rw [hl]at key;cases o with
      |none =>
       simp_all [absurd,qak]
      |some d =>
       obtain ⟨d',hd',_⟩:=key;rw [hd'];exact ⟨c',rfl,hc⟩
    grind
  ·rw [if_neg e,if_neg e];exact h.rel l2 s2
 nd:=λb hb=>by
  rcases mem_modify hb with hb|⟨b',hb',rfl⟩
  ·exact h.nd b hb
  ·rw [qz6];exact h.nd b' hb'
 mp:=λl2 s2 c2 h2 hlt=>by
  rw [qmH]at h2;by_cases e:l2=l
  ·subst e;rw [if_pos rfl]at h2;have h0:=h.mp l2 s2;unfold qaq at h0;cases h1:M'[l2]? with
   |none=>grind
   |some b =>
    rw [h1]at h2 h0;simp only at h2 h0;rw [qga]at h2;by_cases e2:s2=s
    ·simp_all
    grind
  ·rw [if_neg e]at h2;exact h.mp l2 s2 c2 h2 hlt
structure Fr2 (st st':TSt) (s s':St):Prop where
 wt:∀t∈st.Wt,t∈st'.Wt
 wb:∀r∈st.Wb,r∈st'.Wb
 e:∀t,t∉st'.Wt->s'.E[t]?=s.E[t]?\/((∃rs,st.E.toL[t]?=some (.any rs))/\s'.E[t]?=some .undef)
 an:∀t,t∉st'.Wt->∀rs,st'.E.toL[t]?=some (.any rs)->∃rs',st.E.toL[t]?=some (.any rs')
 b:∀r,r∉st'.Wb->s'.box r=s.box r\/(s.L.length=0/\st.cont r=none/\(s'.box r).isSome=(s.box r).isSome/\∀c,s'.box r=some c->qae c=false)
 bn:∀r,r∉st'.Wb->(st.cont r).isSome=true->(st'.cont r).isSome=true
 len:s'.L.length=s.L.length
 elen:s'.E.length=s.E.length
theorem Fr2.refl(st:TSt)(s:St):Fr2 st st s s:=⟨λ_ h=>h,λ_ h=>h,λ_ _=>.inl rfl,λ_ _ rs h=>⟨rs,h⟩,λ_ _=>.inl rfl,λ_ _ h=>h,rfl,rfl⟩
theorem Fr2.trans{a b c:TSt}{s t u:St}(h:Fr2 a b s t)(h':Fr2 b c t u):Fr2 a c s u where
 wt:=λx hx=>h'.wt x (h.wt x hx)
 wb:=λx hx=>h'.wb x (h.wb x hx)
 e:=λx hx=>by
  have hx1:x∉b.Wt:=λhh=>hx (h'.wt x hh);rcases h'.e x hx with h1|⟨⟨rs,h1⟩,h2⟩
  ·rw [h1];exact h.e x hx1
  ·exact .inr ⟨h.an x hx1 rs h1,h2⟩
 an:=λx hx rs hr=>by
  obtain ⟨rs',h1⟩:=h'.an x hx rs hr;exact h.an x (λhh=>hx (h'.wt x hh)) rs' h1
 b:=λx hx=>by
  have hx1:x∉b.Wb:=λhh=>hx (h'.wb x hh);rcases h'.b x hx with h1|⟨h0,h1,h2,h3⟩
  ·rw [h1];exact h.b x hx1
  ·right
   have hn:a.cont x=none:=by
    cases hb:a.cont x with
    |none=>rfl
    |some c=>have:=h.bn x hx1 (by grind);grind
   refine ⟨by rw [<- h.len];exact h0,hn,?_,h3⟩;rcases h.b x hx1 with h4|⟨_,_,h4,_⟩
   ·grind
   grind
 bn:=λx hx hs=>h'.bn x hx (h.bn x (λhh=>hx (h'.wb x hh)) hs)
 len:=by rw [h'.len,h.len]
 elen:=by rw [h'.elen,h.elen]
theorem qe7:∀{l:List TV} {l':List V},l'.length=l.length->(∀(i:Nat) x v,l[i]?=some x->l'[i]?=some v->RV x v)->RVL l l'
 |[],l',hl,_=>by simp_all [RVL]
 |x::l,[],hl,_=>by simp at hl
 |x::l,v::m,hl,h=>qv.2 ⟨h 0 x v rfl rfl,qe7 (by grind) λi y u h1 h2=>h (i+1) y u (by grind) (by grind)⟩
theorem qEm{α:Type}(E:List α)(t i:Nat)(a:α):(E.set t a)[i]?=if t=i then (E[i]?).map (λ_=>a)else E[i]?:=by
 grind
theorem qkp{α:Type}(a:α):∀(D:List Tmp) (E:List α) (i:Nat),(D.foldl (λE t=>E.set t a) E)[i]?=if i∈D then (E[i]?).map (λ_=>a)else E[i]?
 |[],E,i=>by simp
 |t::D,E,i=>by
  simp only [List.foldl_cons];rw [qkp a D,qEm];grind
theorem qev{α:Type}(a:α):∀(D:List Tmp) (E:List α),(D.foldl (λE t=>E.set t a) E).length=E.length
 |[],E=>rfl
 |t::D,E=>by simp_all [List.foldl_cons,qev]
def gone(rs:List Root):Option (Option (List TV))->Option (Option (List TV))
 |some (some cs)=>some (some (cs.map λ_=>.any rs))
 |_=>some none
theorem qzL(rs:List Root)(o:Option (Option (List TV))):gone rs (gone rs o)=gone rs o:=by
 cases o with
 |none=>rfl
 |some o=>cases o with
  |none=>rfl
  |some cs=>simp [gone]
theorem qyg(rs:List Root)(b:qG)(s s':Nat):qU (qEO rs b s) s'=if s'=s then gone rs (qU b s)else qU b s':=by
 unfold qEO;split
 ·rename_i h;by_cases e:s'=s
  ·simp_all [qU,gone]
  ·simp [qU,e,Ne.symm e]
 ·simp_all [gone]
 simp_all [qix,gone]
theorem qtR(st:TSt)(rs:List Root)(r:Root)(l s:Nat):qak (st.forget rs r).all l s=if l=r.lvl/\s=r.slot/\l<st.all.length then gone rs (qak st.all l s)else qak st.all l s:=by
 rw [qqn,qhN];by_cases e:l=r.lvl
 ·subst e;rw [if_pos rfl];unfold qak;cases h:st.all[r.lvl]? with
  |none =>
   grind
  |some b =>
   grind [qm,qyg]
 grind
theorem qqo(st:TSt)(rs:List Root)(r:Root):(st.forget rs r).all.length=st.all.length:=by rw [qqn];simp
theorem qBU(st:TSt)(rs:List Root)(r:Root):(st.forget rs r).E=st.E:=by grind [TSt.forget]
theorem qgL(rs:List Root)(l s:Nat):∀(wr:List Root) (st:TSt),qak (wr.foldl (λst r=>st.forget rs r) st).all l s=if (⟨l,s⟩:Root)∈wr/\l<st.all.length then gone rs (qak st.all l s)else qak st.all l s
 |[],st=>by simp
 |r::wr,st=>by
  simp only [List.foldl_cons];rw [qgL rs l s wr,qqo,qtR];by_cases h1:l=r.lvl/\s=r.slot/\l<st.all.length
  ·simp_all [if_pos,qzL]
  grind
theorem qoj(rs:List Root):∀(wr:List Root) (st:TSt),(wr.foldl (λst r=>st.forget rs r) st).E=st.E
 |[],st=>rfl
 |r::wr,st=>by simp_all [List.foldl_cons,qoj,qBU]
theorem qok(rs:List Root):∀(wr:List Root) (st:TSt),(wr.foldl (λst r=>st.forget rs r) st).all.length=st.all.length
 |[],st=>rfl
 |r::wr,st=>by simp_all [List.foldl_cons,qok,qqo]
def qDb(s:St)(p:Place):Option V:=match p.lvl with
 |none=>s.E[p.slot]?
 |some l=>(s.box ⟨l,p.slot⟩).bind (·[p.cell]?)
theorem qh9{l:List TV}{l':List V}(h:RVL l l')(i:Nat){x:TV}(hx:∀u,l'[i]?=some u->RV x u):RVL (l.set i x) l':=by
 refine qe7 (by simp [h.length]) λk y v hy hv=>?_;rw [List.getElem?_set]at hy;split at hy
 ·grind
 ·obtain ⟨u,hu,hr⟩:=h.get hy;grind
theorem Rst.qbO{st:TSt}{s:St}(h:Rst st s){p:Place}{v:TV}(hv:∀u,qDb s p=some u->RV v u):Rst (st.qbO p v) s:=by
 unfold TSt.qbO;cases hl:p.lvl with
 |none=>exact ⟨by rw [qdQ];exact qh9 h.E _ λu hu=>hv u (by simp_all [qDb]),h.M⟩
 |some l =>
  simp only
  cases hb:st.box ⟨l,p.slot⟩with
  |none=>exact h
  |some cs =>
   simp only
   obtain ⟨c',hc',hr⟩:=h.box hb;have hset:RVL (cs.set p.cell v) c':=qh9 hr _ λu hu=>hv u (by simp_all [qDb]);refine ⟨?_,?_⟩
   ·grind [E,TSt.qp]
   ·have e1:({st.qp ⟨l,p.slot⟩ (cs.set p.cell v)with Wb:=st.Wb}:TSt).all=(st.qp ⟨l,p.slot⟩ (cs.set p.cell v)).all:=rfl;rw [e1,qj6];refine ⟨by rw [h.M.len];simp,λl2 s2=>?_,h.M.nd,h.M.mp⟩;rw [qhN];have hlook:=qru hb;simp only at hlook ⊢;by_cases e:l2=l
    ·subst e;rw [if_pos rfl];have key:=h.M.rel l2 s2;unfold qak at key hlook;cases h1:st.all[l2]? with
     |none=>grind
     |some b =>
      rw [h1]at key hlook;simp only at key hlook ⊢;rw [qix];by_cases e2:s2=p.slot
      ·subst e2;rw [if_pos rfl,hlook];rw [qP]at hc';exact ⟨c',hc',hset.rc⟩
      grind
    ·rw [if_neg e];exact h.M.rel l2 s2
theorem qmO{s:St}:∀(ps:List Place) (vs:List TV) (st:TSt),Rst st s->(∀p v,(p,v)∈ps.zip vs->∀u,qDb s p=some u->RV v u)->Rst (qcL st ps vs) s
 |[],vs,st,h,_=>by cases vs<;>exact h
 |p::ps,[],st,h,_=>h
 |p::ps,v::vs,st,h,hv=>qmO ps vs _ (h.qbO (hv p v (by simp))) λq w hq=>hv q w (by simp [hq])
theorem qwx:∀(τ:Ty) (o:Nat) (rs:List Root),qg8 τ o (.any rs)=none
 |.int _,_,_|.bool,_,_|.str,_,_|.flt,_,_|.cx,_,_|.err,_,_|.mset _,_,_|.sl _,_,_|.unit,_,_|.pair ..,_,_=>rfl
theorem Rst.get{st:TSt}{s:St}(h:Rst st s){p:Place}(hp:∀rs,st.get p≠.any rs){u:V}(hu:qDb s p=some u):RV (st.get p) u:=by
 unfold TSt.get at hp ⊢;unfold qDb at hu;cases hl:p.lvl with
 |none =>
  rw [hl]at hu hp;simp only at hu hp ⊢;have:=h.E.getD p.slot
  simp_all [qnB,List.getD_eq_getElem?_getD]
 |some l =>
  rw [hl]at hu hp;simp only at hu hp ⊢;cases hb:st.box ⟨l,p.slot⟩with
  |none=>grind
  |some cs =>
   obtain ⟨c',hc',hr⟩:=h.box hb;rw [hc']at hu;simp only [qa]at hu;have:=hr.getD p.cell;grind
theorem qqc{st:TSt}{s:St}(h:Rst st s):∀(ps:List (Ty×Nat)) (lv:List Place) (x:denL (ps.map (·.1))),asL ps (lv.map st.get)=some x ->
  ∀p v,(p,v)∈lv.zip (ofL ps x)->∀u,qDb s p=some u->RV v u/\u.qq=[]/\qae [u]=false
 |[],lv,x,hx,p,v,hm,u,hu=>by simp [ofL]at hm
 |[(τ,o)],lv,x,hx,p,v,hm,u,hu=>by
  match lv,hx,hm with
  |[q],hx,hm =>
   simp only [qh,List.map_nil,asL]at hx;simp only [ofL,List.zip_cons_cons,List.zip_nil_right,List.mem_singleton,Prod.mk.injEq]at hm;obtain ⟨rfl,rfl⟩:=hm;have hg:=h.get (p:=p) (λrs e=>by simp_all [qwx]) hu;have hr:=qc5 _ _ _ _ _ hx hg;have hrv:=rv_ofTy _ _ _ _ hr;exact ⟨hrv,qdr _ _ _ _ hr,qaD (qv.2 ⟨hrv,q5⟩)⟩
  |[],hx,hm=>simp_all
  |_::_::_,hx,hm=>simp [asL]at hx
 |(τ,o)::q'::ps,lv,x,hx,p,v,hm,u,hu=>by
  match lv,hx,hm with
  |[],hx,hm=>simp [asL]at hx
  |q::lv,hx,hm =>
   simp only [qh,asL]at hx;obtain ⟨y,hy,hx⟩:=qd.1 hx;obtain ⟨z,hz,hx⟩:=qd.1 hx;simp only [qb]at hx;subst hx;simp only [ofL,List.zip_cons_cons,qk,Prod.mk.injEq]at hm;rcases hm with ⟨rfl,rfl⟩|hm
   ·have hg:=h.get (p:=p) (λrs e=>by rw [e,qwx]at hy;cases hy) hu;have hr:=qc5 _ _ _ _ _ hy hg;have hrv:=rv_ofTy _ _ _ _ hr;exact ⟨hrv,qdr _ _ _ _ hr,qaD (qv.2 ⟨hrv,q5⟩)⟩
   ·exact qqc h (q'::ps) lv z (by simpa using hz) p v hm u hu
theorem qin:∀(ps:List (Ty×Nat)) (l:List TV) (x:denL (ps.map (·.1))),asL ps l=some x->(ofL ps x).length=l.length
 |[],l,x,h=>by cases l with
  |nil=>rfl
  |cons=>simp [asL]at h
 |[(τ,o)],l,x,h=>by
  match l,h with
  |[v],h=>rfl
  |[],h=>simp [asL]at h
  |_::_::_,h=>simp [asL]at h
 |(τ,o)::q::ps,l,x,h=>by
  match l,h with
  |[],h=>simp [asL]at h
  |v::l,h =>
   simp only [asL]at h;obtain ⟨y,hy,h⟩:=qd.1 h;obtain ⟨z,hz,h⟩:=qd.1 h;simp only [qb]at h;subst h;simp [ofL,qin (q::ps) l z hz]
theorem qwP{lv:List Place}{l:Option Nat}{s c:Nat}(h:Place.qE0 lv l s c=true):(⟨l,s,c⟩:Place)∈lv:=by
 unfold Place.qE0 at h;rw [List.any_eq_true]at h;obtain ⟨p,hp,h⟩:=h;simp only [qe,decide_eq_true_eq]at h;obtain ⟨⟨rfl,rfl⟩,rfl⟩:=h;exact hp
theorem qtv{lv:List Place}{vs:List TV}(hl:vs.length=lv.length){p:Place}(h:p∈lv):∃v,(p,v)∈lv.zip vs:=by
 obtain ⟨i,hi⟩:=List.mem_iff_getElem?.1 h;have hlt:=(qm.1 hi).1;refine ⟨vs[i]'(by omega),List.mem_iff_getElem?.2 ⟨i,?_⟩⟩;grind
theorem qq7{l m:List Root}(h:Go.Tx.subset l m=true):∀r∈l,r∈m:=λr hr=>by
 simp_all [List.all_eq_true,Go.Tx.subset]
theorem qzZ:∀{v:TV} {r:Root} {o:Nat},qzY v r o=true->v=.ptr r o
 |.ptr r o,r',o',h=>by
  simp_all [qe,decide_eq_true_eq,qzY]
theorem qxa{s:St}:∀(l:List (Tmp×Root×Nat)) {st:TSt},Rst st s->(∀p∈l,s.E[p.1]?=some (.ptr p.2.1 p.2.2))->Rst (quf st l) s
 |[],_,h,_=>h
 |p::l,st,h,hl=>by
  refine qxa l ⟨?_,h.M⟩ λq hq=>hl q (List.mem_cons_of_mem _ hq);show RVL (st.E.set p.1 (.ptr p.2.1 p.2.2)).toL s.E;rw [qdQ];have h1:=hl p List.mem_cons_self;have h2:=RVL.set p.1 h.E (x:=.ptr p.2.1 p.2.2) (v:=.ptr p.2.1 p.2.2) (by simp only [RV]);have h3:s.E.set p.1 (.ptr p.2.1 p.2.2)=s.E:=by
   apply List.ext_getElem?;grind
  grind
theorem qqN:∀(l:List (Tmp×Root×Nat)) (st:TSt),(quf st l).Wt=st.Wt/\(quf st l).Wb=st.Wb/\(quf st l).L=st.L/\(quf st l).B=st.B
 |[],_=>⟨rfl,rfl,rfl,rfl⟩
 |p::l,st=>qqN l {st with E:=st.E.set p.1 (.ptr p.2.1 p.2.2)}
theorem qAI:∀(l:List (Tmp×Root×Nat)) (st:TSt) (t:Nat) (rs:List Root),(quf st l).E.toL[t]?=some (.any rs)->st.E.toL[t]?=some (.any rs)
 |[],_,_,_,h=>h
 |p::l,st,t,rs,h=>by
  have:=qAI l _ t rs h;simp only at this;rw [qdQ,List.getElem?_set]at this;split at this
  ·split at this
   ·cases this
   ·cases this
  ·exact this
theorem qB6{st:TSt}{s:St}(h:Rst st s){j:Join}(hk:st.keeps j=true):∀p∈j.kp,s.E[p.1]?=some (.ptr p.2.1 p.2.2):=by
 intro p hp;unfold TSt.keeps at hk;rw [List.all_eq_true]at hk;have h1:=qzZ (hk p hp);obtain ⟨v,hv,hr⟩:=h.E.get (some_get h1 (by simp))
 simp_all [RV]
theorem qvT{st st2:TSt}{s s':St}{j:Join}{x:denL (j.ps.map (·.1))}(h:Rst st s)(h2:Rst st2 s')(hf:Fr2 st.fresh st2 s s')(ho:st2.outs st j=some x):Rst (st.qd1 j (ofL j.ps x)) s':=by
 unfold TSt.outs at ho;split at ho
 ·rename_i hc;simp only [qe]at hc;obtain ⟨⟨hfor,hwr⟩,hlike⟩:=hc;have hcol:=qqc h2 j.ps j.lv x ho;have hlen:(ofL j.ps x).length=j.lv.length:=by rw [qin _ _ _ ho];simp
  unfold TSt.qlI at hfor;simp only [qe,List.all_eq_true]at hfor;obtain ⟨⟨hD0,hW⟩,_⟩:=hfor;have hD:∀t∈j.D,∀x,st2.E.toL[t]?=some x->(Place.qE0 j.lv none t 0||Go.Tx.subset x.qq (j.qAX t))=true:=λt ht x hx=>by
   have:=qzb hD0 (λi=>by cases j.D.has i<;>simp [TV.qq,Go.Tx.subset]) hx
   simp_all [Mask.mem_iff]
  unfold TSt.wrote at hwr;simp only [qe,List.all_eq_true]at hwr;obtain ⟨hwt0,hwb⟩:=hwr;have hwt:∀t∈st2.Wt,t∈j.D:=λt ht=>Mask.qBb hwt0 ht;unfold TSt.qFD at hlike;rw [List.all_eq_true]at hlike;unfold TSt.qd1;refine qmO _ _ _ ⟨?_,?_⟩ λp v hm u hu=>(hcol p v hm u hu).1
  ·-- temporaries
   show RVL (j.wr.foldl (λ(st:TSt) r=>st.forget j.rb r) {st with E:=qdI j.D j.qAX st.E}).E.toL s'.E;rw [qoj];refine qe7 ?_ λi y v hy hv=>?_
   ·simp only;rw [qoi,hf.elen,h.E.length]
   ·simp only at hy;rw [qjx]at hy;split at hy
    ·rename_i hi;obtain ⟨z,hz,rfl⟩:=qc.1 hy;obtain ⟨x2,hx2⟩:∃x2,st2.E.toL[i]?=some x2:=by
      have hlt:=(qm.1 hv).1;have:=h2.E.length;grind
     have hi':=hD i hi x2 hx2;simp only [Bool.or_eq_true]at hi';simp only [RV];rcases hi' with hi'|hi'
     ·obtain ⟨w,hw⟩:=qtv hlen (qwP hi');grind [qDb]
     ·obtain ⟨v2,hv2,hg⟩:=h2.E.get hx2;rw [hv]at hv2;cases hv2;refine ⟨λr hr=>qq7 hi' r (RV.qq _ _ hg r hr),qaD (qv.2 ⟨hg,q5⟩)⟩
    ·rename_i hi;have:i∉st2.Wt:=λhh=>hi (hwt i hh);obtain ⟨u,hu,hr⟩:=h.E.get hy;rcases hf.e i this with he|⟨⟨rs,he1⟩,he2⟩
     ·grind
     ·rw [he2]at hv;cases hv;have he1:st.E.toL[i]?=some (.any rs):=he1;grind [qco]
  ·-- boxes
   show LR (j.wr.foldl (λ(st:TSt) r=>st.forget j.rb r) {st with E:=qdI j.D j.qAX st.E}).all (qdS s');refine ⟨?_,λl sl=>?_,h2.M.nd,h2.M.mp⟩
   ·rw [qok];have:=hf.len;have:=h.M.len
    simp_all [TSt.all,qdS]
   ·rw [qgL];have hall:({st with E:=qdI j.D j.qAX st.E}:TSt).all=st.all:=rfl;rw [hall];split
    ·rename_i hm;have hbx:=qP (s:=s') ⟨l,sl⟩;simp only at hbx;have key2:=h2.M.rel l sl;have hnl:∀c,qaq (qdS s') l sl=some c->qae c=false:=λc hc=>by
      cases hk:qak st2.all l sl with
      |none=>simp_all [RB]
      |some o =>
       rw [hk]at key2;cases o with
       |none=>exact key2 c hc
       |some d =>
        obtain ⟨d',hd',hr⟩:=key2;rw [hd']at hc;cases hc;have hw:=hW _ hm.1;rw [qaO]at hw;simp only [hk,qe,Bool.not_eq_true']at hw;exact qaD (hr.rvl hw.1)
     cases hk:qak st.all l sl with
     |none=>exact hnl
     |some o =>
      cases o with
      |none=>exact hnl
      |some cs =>
       have hb:st.cont ⟨l,sl⟩=some cs:=by rw [qaO];simp only;rw [hk]
       have hli:=hlike _ hm.1;rw [hb]at hli;simp only at hli;split at hli
       ·rename_i cs2 hb2;simp only [decide_eq_true_eq]at hli;have hw:=hW _ hm.1;rw [hb2]at hw;simp only [qe,Bool.not_eq_true',List.all_eq_true]at hw;obtain ⟨c',hc',hr⟩:=h2.box (qwA hb2 hw.1);rw [hbx]at hc';refine ⟨c',hc',RVL.rc ?_⟩;refine qe7 (by simp [hr.length,hli]) λi y v hy hv=>?_;rw [List.getElem?_map]at hy;obtain ⟨z,hz,rfl⟩:=qc.1 hy;have hi:i<cs2.length:=by grind
        have hw':=hw.2 i (by simpa using hi);simp only [Bool.or_eq_true]at hw';simp only [RV];rcases hw' with hw'|hw'
        ·obtain ⟨w,hww⟩:=qtv hlen (qwP hw');grind [qDb]
        ·have hg:=hr.getD i;rw [List.getD_eq_getElem?_getD (l:=c'),hv]at hg;exact ⟨λr hrr=>qq7 hw' r (RV.qq _ _ hg r hrr),qaD (qv.2 ⟨hg,q5⟩)⟩
       ·cases hli
    ·rename_i hm;have key:=h.M.rel l sl;by_cases hlt:l<st.all.length
     ·have hnr:(⟨l,sl⟩:Root)∉st2.Wb:=λhh=>by
       have:=hwb _ hh;simp only [Bool.or_eq_true,decide_eq_true_eq]at this;rcases this with h3|h3
       ·grind
       ·have h4:=h2.len;have h5:=hf.len;have h6:=h.len;simp [TSt.all]at hlt;omega
      rcases hf.b _ hnr with hb|⟨_,hb0,hb1,hb2⟩
      ·simp_all [qP]
      ·rw [qP,qP]at hb1;rw [qP]at hb2;simp only at hb1 hb2;have hb0:st.cont ⟨l,sl⟩=none:=hb0;rw [qaO]at hb0;simp only at hb0;cases hk:qak st.all l sl with
       |none =>
        simp_all [RB]
       |some o =>
        cases o with
        |none=>exact hb2
        |some c=>rw [hk]at hb0;cases hb0
     ·have h1:qak st.all l sl=none:=by
       simp_all [List.getElem?_eq_none,qak]
      have h3:qaq (qdS s') l sl=none:=by
       unfold qaq;have hl:=hf.len;have hl2:=h.len
       simp_all [List.getElem?_eq_none,TSt.all,qdS]
      rw [h1,h3];rfl
 grind
theorem qiH{st st2:TSt}{s s':St}{j:Join}{x:denL (j.ps.map (·.1))}(h:Rst st s)(h2:Rst st2 s')(hf:Fr2 st.fresh st2 s s')(ho:st2.outs st j=some x):Rst (st.qbI j (ofL j.ps x)) s':=by
 refine qxa _ (qvT h h2 hf ho) (qB6 h2 ?_)
 simp_all [qe,TSt.outs,TSt.qlI]
theorem qfq(D:List Tmp)(b:qG)(s:Nat):qU (qau D b) s=if D.contains s then none else qU b s:=by
 induction b with
 |nil=>simp [qau,qU]
 |cons p b ih =>
  obtain ⟨k,c⟩:=p;simp only [qau];by_cases h:D.contains k=true
  ·rw [if_pos h,ih];by_cases e:k=s
   ·grind
   simp_all [if_neg,qU]
  ·rw [if_neg h];by_cases e:k=s
   ·simp_all [if_true,if_neg,qU]
   simp_all [if_neg,qU]
theorem qaz(D:List Tmp)(b:Level)(s:Nat):qw (qS D b) s=if D.contains s then none else qw b s:=by
 induction b with
 |nil=>simp [qS,qw]
 |cons p b ih =>
  obtain ⟨k,c⟩:=p;simp only [qS];by_cases h:D.contains k=true
  ·rw [if_pos h,ih];by_cases e:k=s
   ·grind
   simp_all [if_neg,qw]
  ·rw [if_neg h];by_cases e:k=s
   ·simp_all [if_true,if_neg,qw]
   simp_all [if_neg,qw]
theorem qf9{b:Level}(hn:(b.map (·.1)).Nodup){k:Nat}{c:List V}(h:(k,c)∈b):qw b k=some c:=by
 induction b with
 |nil=>cases h
 |cons p b ih =>
  obtain ⟨k',c'⟩:=p;simp only [qh,List.nodup_cons]at hn;rcases qk.1 h with h|h
  ·grind [qw]
  ·have:k'≠k:=λe=>hn.1 (List.mem_map.2 ⟨_,h,e.symm⟩)
   simp_all [if_neg,qw]
theorem qdh{b:qG}{k:Nat}{c:Option (List TV)}(h:qU b k=some c):(k,c)∈b:=by
 induction b with
 |nil=>cases h
 |cons p b ih =>
  grind [qk,qU]
theorem qud{b:Level}{r:Root}(h:r∈qnl b):∃k c,(k,c)∈b/\r∈ptrsL c:=by
 induction b with
 |nil=>simp [qnl]at h
 |cons p b ih =>
  grind [qj,qnl]
theorem qqG{b:qG}{k:Nat}{c:List TV}(h:(k,some c)∈b){r:Root}(hr:r∈ptrsTL c):r∈qk0 b:=by
 induction b with
 |nil=>cases h
 |cons p b ih =>
  obtain ⟨k',c'⟩:=p;rcases qk.1 h with h|h'
  ·grind [qk0]
  ·cases c' with
   |none=>simp_all [qk0]
   |some d=>simp_all [qj,qk0]
theorem qwK{b:qG}(hf:qxR b=true){k:Nat}{c:Option (List TV)}(h:(k,c)∈b):∃d,c=some d:=by
 induction b with
 |nil=>cases h
 |cons p b ih =>
  obtain ⟨k',c'⟩:=p;simp only [qxR,qe]at hf;grind [qk,Option.isSome_iff_exists]
theorem qu4{D:List Tmp}{b:qG}(h:(qau D b).length=b.length):∀k c,(k,c)∈b->D.contains k=false:=by
 induction b with
 |nil=>simp
 |cons p b ih =>
  obtain ⟨k',c'⟩:=p;have hle:∀b:qG,(qau D b).length<=b.length:=λb=>by
   induction b with
   |nil=>simp [qau]
   |cons p b ih=>grind [qau]
  grind [qk,qau]
theorem qgy{D:List Tmp}{b:Level}(h:∀k c,(k,c)∈b->D.contains k=false):qS D b=b:=by
 induction b with
 |nil=>rfl
 |cons p b ih =>
  obtain ⟨k,c⟩:=p;simp only [qS];grind
theorem qip(D:List Tmp)(E:List V)(i:Nat):(qeb D E)[i]?=if i∈D then (E[i]?).map (λ_=>.undef)else E[i]?:=qkp _ D E i
theorem qn7(D:List Tmp)(E:Env)(i:Nat):(qfe D E).toL[i]?=if i∈D then (E.toL[i]?).map (λ_=>.any [])else E.toL[i]?:=by
 simp_all [qjx,if_pos,Mask.mem_ofList,if_neg,qfe]
theorem qxL(D:List Tmp){E:Env}{E':List V}(h:RVL E.toL E'):RVL (qfe D E).toL (qeb D E'):=by
 refine qe7 ?_ λi x v hx hv=>?_
 ·unfold qfe qeb;rw [qoi,qev,h.length]
 ·rw [qn7]at hx;rw [qip]at hv;by_cases hm:i∈D
  ·rw [if_pos hm]at hx hv;grind [qc,qco]
  ·rw [if_neg hm]at hx hv;obtain ⟨u,hu,hr⟩:=h.get hx;grind
theorem qw8:∀{l:List V} {r:Root},r∈ptrsL l->∃(i:Nat) (v:V),l[i]?=some v/\r∈v.qq
 |[],r,h=>by simp [ptrsL]at h
 |v::l,r,h=>by
  simp only [ptrsL,qj]at h;rcases h with h|h
  ·exact ⟨0,v,rfl,h⟩
  ·obtain ⟨i,u,hu,hr⟩:=qw8 h;exact ⟨i+1,u,by simpa using hu,hr⟩
theorem qwM{D:List Tmp}{n:Nat}{b:qG}{k:Nat}{c:Option (List TV)}(h:(k,c)∈b)(hk:D.contains k=true):(⟨n,k⟩:Root)∈qpO D n b:=by
 induction b with
 |nil=>cases h
 |cons p b ih =>
  obtain ⟨k',c'⟩:=p;simp only [qpO];grind
theorem qlz(D:List Tmp)(b:Level):(qS D b).Sublist b:=by
 induction b with
 |nil=>exact .slnil
 |cons p b ih =>
  grind [qS]
theorem qiq{D:List Tmp}{st st1:TSt}{s:St}(h:Rst st s)(hc:st.clear D=some st1):∃s1,s.clear D=some s1/\Rst st1 s1/\Fr2 st st1 s s1:=by
 have hlen:=h.len;have hEl:s.E.length=st.E.n:=by rw [h.E.length,qj3]
 have hin:∀t,t∈inE st D↔t∈D/\t<st.E.n:=λt=>by simp [inE]
 have hEq:qeb (inE st D) s.E=qeb D s.E:=by
  apply List.ext_getElem?;intro i;rw [qip,qip];grind
 have hE:=qxL (inE st D) h.E;rw [hEq]at hE;have hlastM:st.all[st.L.length]?=some st.B:=by simp [TSt.all]
 have hlastV:(qdS s)[st.L.length]?=some s.B:=by simp_all [qdS]
 have hB:∀k,RB (qU st.B k) (qw s.B k):=λk=>by
  have:=h.M.rel st.L.length k
  simp_all [qak,qaq]
 have hnd:(s.B.map (·.1)).Nodup:=h.M.nd s.B (by simp [qdS]);unfold TSt.clear at hc;simp only at hc;split at hc
 ·rename_i hcond;cases hc;have hv:s.clear D=some {s with E:=qeb D s.E,B:=qS D s.B}:=by
   unfold St.clear;simp only
   rw [if_pos];simp only [Bool.or_eq_true,decide_eq_true_eq,qe]at hcond;rcases hcond with hl|⟨⟨h1,h2⟩,h3⟩
   ·left
    rw [qgy];intro k c hk;have hlk:=qf9 hnd hk;have hb:=hB k;cases ht:qU st.B k with
    |none=>simp_all [RB]
    |some o=>exact qu4 hl k o (qdh ht)
   ·right
    unfold qdk at h2 ⊢;rw [List.all_eq_true]at h2;simp only [qe,List.all_eq_true];refine ⟨λr hr=>?_,λr hr=>?_⟩
    ·rw [hlen];obtain ⟨i,v,hv,hrv⟩:=qw8 hr;obtain ⟨x,hx⟩:∃x,(qfe (inE st D) st.E).toL[i]?=some x:=by
      have hlt:=(qm.1 hv).1;have:=hE.length
      simp_all
     obtain ⟨v2,hv2,hrx⟩:=hE.get hx;grind [qzb,List.all_eq_true,RV.qq,TV.qq,qdk]
    ·rw [hlen];obtain ⟨k,c,hk,hrc⟩:=qud hr;have hlk:=qf9 (by exact List.Sublist.nodup ((qlz D s.B).map _) hnd) hk;rw [qaz]at hlk;split at hlk
     ·cases hlk
     ·rename_i hkD;have hb:=hB k;cases ht:qU st.B k with
      |none=>simp_all [RB]
      |some o =>
       have ht2:qU (qau D st.B) k=some o:=by simp_all [qfq,if_neg]
       obtain ⟨d,rfl⟩:=qwK h3 (qdh ht2);rw [ht]at hb;obtain ⟨d',hd',hr'⟩:=hb;rw [hd']at hlk;cases hlk;exact h2 r (qqG (qdh ht2) (hr'.qq r hrc))
  refine ⟨_,hv,⟨hE,?_⟩,?_⟩
  ·refine ⟨by simp_all [TSt.all,qdS],λl k=>?_,λb hb=>?_,λl k c hc hlt=>?_⟩
   rotate_right
   ·have key:=h.M.mp l k;grind [qaz,qg,List.getElem?_eq_none,qaq,qdS,qeb,qS]
   ·have key:=h.M.rel l k;unfold qak qaq at key ⊢;by_cases e:l=st.L.length
    ·subst e;have e1:({st with E:=qfe (inE st D) st.E,B:=qau D st.B,Wt:=Mask.ofList (inE st D)++st.Wt,Wb:=qpO D st.L.length st.B++st.Wb}:TSt).all[st.L.length]?=some (qau D st.B):=by simp [TSt.all]
     have e2:(qdS {s with E:=qeb D s.E,B:=qS D s.B})[st.L.length]?=some (qS D s.B):=by simp_all [qdS]
     rw [e1,e2];simp only
     rw [qfq,qaz];split
     ·rfl
     ·exact hB k
    grind [qg,List.getElem?_eq_none,qfe,inE,qau,Mask.ofList,qpO,TSt.all,qdS,qeb,qS]
   ·simp only [qdS,qj,List.mem_singleton]at hb;rcases hb with hb|rfl
    ·exact h.M.nd b (by simp [qdS,hb])
    ·exact List.Sublist.nodup ((qlz D s.B).map _) hnd
  ·refine ⟨λt ht=>by simp [ht],λr hr=>by simp [hr],λt ht=>.inl ?_,λt ht rs hE=>⟨rs,?_⟩,λr hr=>.inl ?_,λr hr hsm=>?_,rfl,?_⟩
   ·simp_all [Mask.mem_append,Mask.mem_ofList,not_or,qip,if_pos,List.getElem?_eq_none,if_neg]
   ·simp_all [Mask.mem_append,Mask.mem_ofList,not_or,qn7,if_neg]
   ·simp only [qj,not_or]at hr;obtain ⟨l,k⟩:=r;rw [qP,qP];simp only
    unfold qaq;by_cases e:l=st.L.length
    ·subst e;have e2:(qdS {s with E:=qeb D s.E,B:=qS D s.B})[st.L.length]?=some (qS D s.B):=by simp_all [qdS]
     rw [e2,hlastV];simp only
     rw [qaz];split
     ·rename_i hk;have hb:=hB k;cases ht:qU st.B k with
      |none=>simp_all [RB]
      |some o=>exact absurd (qwM (qdh ht) hk) hr.1
     ·rfl
    grind [qg,List.getElem?_eq_none,qdS,qeb,qS]
   ·simp only [qj,not_or]at hr;obtain ⟨l,k⟩:=r;obtain ⟨c,hc⟩:=Option.isSome_iff_exists.1 hsm;have hlk:=qec hc;simp only at hlk;have:qak ({st with E:=qfe (inE st D) st.E,B:=qau D st.B,Wt:=Mask.ofList (inE st D)++st.Wt,Wb:=qpO D st.L.length st.B++st.Wb}:TSt).all l k=some (some c):=by
     unfold qak at hlk ⊢;by_cases e:l=st.L.length
     ·subst e;rw [hlastM]at hlk;simp only at hlk;have e1:({st with E:=qfe (inE st D) st.E,B:=qau D st.B,Wt:=Mask.ofList (inE st D)++st.Wt,Wb:=qpO D st.L.length st.B++st.Wb}:TSt).all[st.L.length]?=some (qau D st.B):=by simp [TSt.all]
      rw [e1];simp only
      rw [qfq];split
      ·rename_i hk;exact absurd (qwM (qdh hlk) hk) hr.1
      omega
     grind [qg,List.getElem?_eq_none,qfe,inE,qau,Mask.ofList,qpO,TSt.all]
    simp_all [qaO]
   ·exact qev _ D s.E
 ·cases hc
end
section
variable {P:Program} {H:Hints} {J:TH} {T:qsM} {O:TOrc} {lib:FuncId->Option (List V->Option V)} {f:FuncId} {ctx:List Tmp}
def Ev(p:Orc->Prop)(P:Program)(H:Hints)(lib:FuncId->Option (List V->Option V)):Prop:=∃n,∀m,n<=m->p (qvH P H lib m)
theorem Ev.and{p q:Orc->Prop}(h:Ev p P H lib)(h':Ev q P H lib):Ev (λC=>p C/\q C) P H lib:=by
 obtain ⟨n,h⟩:=h;obtain ⟨n',h'⟩:=h';exact ⟨max n n',λm hm=>⟨h m (by omega),h' m (by omega)⟩⟩
theorem Ev.imp{p q:Orc->Prop}(h:Ev p P H lib)(hi:∀C,p C->q C):Ev q P H lib:=by
 obtain ⟨n,h⟩:=h;exact ⟨n,λm hm=>hi _ (h m hm)⟩
theorem Ev.qjn:Ev (λC=>C.qjn=H.qjn) P H lib:=⟨1,λm hm=>by
 cases m with
 |zero=>omega
 |succ m=>rfl⟩
theorem Ev.of{p:Orc->Prop}(h:∀C,p C):Ev p P H lib:=⟨0,λm _=>h _⟩
def qBB(P:Program)(H:Hints)(lib:FuncId->Option (List V->Option V))(f:FuncId)(bid:Nat)(c:Code)(s:St)(e:Ex)(s':St):Prop:=Ev (λC=>ex P H C f bid c s=some (e,s')) P H lib
def qwp(P:Program)(H:Hints)(lib:FuncId->Option (List V->Option V))(g:FuncId)(args:List V)(M:List Level)(r:V)(M':List Level):Prop:=Ev (λC=>C.call g args M=some (r,M')) P H lib
def Snd(run:TSt->(R:Type)->(Ex->TSt->Option R)->Option R)(rel:St->Ex->St->Prop):Prop :=
 ∀(st:TSt) (R:Type) (k:Ex->TSt->Option R) (r:R) (s:St),run st R k=some r->Rst st s->∃e st' s',rel s e s'/\Rst st' s'/\Fr2 st st' s s'/\k e st'=some r
theorem qsu(st:TSt)(p:Place)(v:TV):(st.qbO p v).Wt=st.Wt/\(st.qbO p v).Wb=st.Wb:=by
 grind [TSt.qbO,TSt.qp]
theorem qjq:∀(ps:List Place) (vs:List TV) (st:TSt),(qcL st ps vs).Wt=st.Wt/\(qcL st ps vs).Wb=st.Wb
 |[],vs,st=>by cases vs<;>exact ⟨rfl,rfl⟩
 |p::ps,[],st=>⟨rfl,rfl⟩
 |p::ps,v::vs,st=>by
  have h1:=qjq ps vs (st.qbO p v);have h2:=qsu st p v;exact ⟨h1.1.trans h2.1,h1.2.trans h2.2⟩
theorem qii(st:TSt)(r:Root)(c:List TV)(q:Root)(h:(st.cont q).isSome=true):((st.qp r c).cont q).isSome=true:=by
 obtain ⟨l,s⟩:=r;obtain ⟨l',s'⟩:=q;have key:∀b:qG,(match qU b s' with|some (some c)=>some c|_=>none:Option (List TV)).isSome=true->(match qU (qyI b s (some c)) s' with|some (some c)=>some c|_=>none:Option (List TV)).isSome=true:=λb hb=>by
  rw [qix];grind
 unfold TSt.qp TSt.cont at *;grind
theorem qpw:∀(ps:List Place) (vs:List TV) (st:TSt) (t:Nat),(qcL st ps vs).E.toL[t]?=st.E.toL[t]?\/∃v∈vs,(qcL st ps vs).E.toL[t]?=some v
 |[],vs,st,t=>by cases vs<;>exact .inl rfl
 |p::ps,[],st,t=>.inl rfl
 |p::ps,v::vs,st,t=>by
  rcases qpw ps vs (st.qbO p v) t with h|⟨u,hu,h⟩
  ·show (qcL (st.qbO p v) ps vs).E.toL[t]?=_\/∃u∈v::vs,(qcL (st.qbO p v) ps vs).E.toL[t]?=some u;rw [h];unfold TSt.qbO;cases p.lvl with
   |none =>
    simp only [qdQ,List.getElem?_set];split
    ·split
     ·exact .inr ⟨v,by simp,rfl⟩
     ·rename_i h1 h2;left;rw [List.getElem?_eq_none (by omega)]
    ·exact .inl rfl
   |some l =>
    simp only
    cases st.box ⟨l,p.slot⟩with
    |none=>exact .inl rfl
    |some cs=>left;simp only [TSt.qp];split<;>rfl
  ·exact .inr ⟨u,by simp [hu],h⟩
theorem quA(st:TSt)(p:Place)(v:TV)(r:Root)(h:(st.cont r).isSome=true):((st.qbO p v).cont r).isSome=true:=by
 unfold TSt.qbO;cases p.lvl with
 |none=>exact h
 |some l =>
  simp only
  cases hb:st.box ⟨l,p.slot⟩with
  |none=>exact h
  |some cs =>
   simp only
   have hbx:({st.qp ⟨l,p.slot⟩ (cs.set p.cell v)with Wb:=st.Wb}:TSt).cont r=(st.qp ⟨l,p.slot⟩ (cs.set p.cell v)).cont r:=rfl
   simp_all [qii]
theorem qle:∀(ps:List Place) (vs:List TV) (st:TSt) (r:Root),(st.cont r).isSome=true->((qcL st ps vs).cont r).isSome=true
 |[],vs,st,r,h=>by cases vs<;>exact h
 |p::ps,[],st,r,h=>h
 |p::ps,v::vs,st,r,h=>qle ps vs _ r (quA st p v r h)
theorem qw4(τ:Ty)(o:Nat)(x:τ.den):∀rs,ofTy τ o x≠.any rs:=λrs=>by cases τ<;>simp [ofTy]
theorem qAt:∀(ps:List (Ty×Nat)) (x:denL (ps.map (·.1))),∀v∈ofL ps x,∀rs,v≠.any rs
 |[],x,v,hv=>by simp [ofL]at hv
 |[(τ,o)],x,v,hv=>by simp_all [List.mem_singleton,qw4,ofL]
 |(τ,o)::q::ps,x,v,hv=>by
  simp only [ofL,qk]at hv;rcases hv with rfl|hv
  ·exact qw4 τ o x.1
  ·exact qAt (q::ps) x.2 v hv
theorem qvS{st st2:TSt}{s s':St}{j:Join}{x:denL (j.ps.map (·.1))}(h2:Rst st2 s')(hf:Fr2 st.fresh st2 s s')(ho:st2.outs st j=some x):Fr2 st (st.qd1 j (ofL j.ps x)) s s':=by
 generalize hvs:ofL j.ps x=vs;have hany:∀v∈vs,∀rs,v≠.any rs:=by grind [qAt]
 unfold TSt.outs at ho;split at ho
 ·rename_i hc;simp only [qe]at hc;obtain ⟨⟨_,hwr⟩,_⟩:=hc;unfold TSt.wrote at hwr;simp only [qe,List.all_eq_true]at hwr;obtain ⟨hwt0,hwb⟩:=hwr;have hwt:∀t∈st2.Wt,t∈j.D:=λt ht=>Mask.qBb hwt0 ht;have hl:=qjq j.lv vs {j.wr.foldl (λ(st:TSt) r=>st.forget j.rb r) {st with E:=qdI j.D j.qAX st.E}with Wt:=j.D++st.Wt,Wb:=j.wr++st.Wb};have e1:(st.qd1 j vs).Wt=j.D++st.Wt:=hl.1;have e2:(st.qd1 j vs).Wb=j.wr++st.Wb:=hl.2;refine ⟨λt ht=>by simp_all,λr hr=>by grind,λt ht=>?_,λt ht rs hE=>?_,λr hr=>?_,λr hr hsm=>?_,hf.len,hf.elen⟩
  ·rw [e1]at ht;exact hf.e t λhh=>ht (by simp_all)
  ·rw [e1]at ht;simp only [Mask.mem_append,not_or]at ht;unfold TSt.qd1 at hE;rcases qpw j.lv vs _ t with h3|⟨v,hv,h3⟩
   ·rw [h3]at hE;have h4:(j.wr.foldl (λ(st:TSt) r=>st.forget j.rb r) {st with E:=qdI j.D j.qAX st.E}).E.toL[t]?=some (.any rs):=hE
    simp_all [qoj,qjx,if_neg]
   grind
  ·rw [e2]at hr;by_cases hm:r∈st2.Wb
   ·have:=hwb r hm;simp only [Bool.or_eq_true,decide_eq_true_eq]at this;rcases this with h3|h3
    ·grind
    ·rw [qP,qP];unfold qaq;have h4:=h2.len;have h5:=hf.len;grind [List.getElem?_eq_none,qdS]
   ·exact hf.b r hm
  ·rw [e2]at hr;simp only [qj,not_or]at hr;unfold TSt.qd1;refine qle j.lv vs _ r ?_;obtain ⟨c,hc⟩:=Option.isSome_iff_exists.1 hsm;have hlk:=qec hc;have h3:qak (j.wr.foldl (λ(st:TSt) r=>st.forget j.rb r) {st with E:=qdI j.D j.qAX st.E}).all r.lvl r.slot=some (some c):=by
    rw [qgL,if_neg (λhh=>hr.1 hh.1)];exact hlk
   have h4:({j.wr.foldl (λ(st:TSt) r=>st.forget j.rb r) {st with E:=qdI j.D j.qAX st.E}with Wt:=j.D++st.Wt,Wb:=j.wr++st.Wb}:TSt).cont r=some c:=by
    rw [qaO];show (match qak (j.wr.foldl (λ(st:TSt) r=>st.forget j.rb r) {st with E:=qdI j.D j.qAX st.E}).all r.lvl r.slot with
     |some (some c)=>some c
     |_=>none)=some c
    rw [h3]
   rw [h4];rfl
 grind
theorem qiG{st st2:TSt}{s s':St}{j:Join}{x:denL (j.ps.map (·.1))}(h2:Rst st2 s')(hf:Fr2 st.fresh st2 s s')(ho:st2.outs st j=some x):Fr2 st (st.qbI j (ofL j.ps x)) s s':=by
 have h:=qvS h2 hf ho;have hl:=qqN j.kp (st.qd1 j (ofL j.ps x));have hc:∀r,(st.qbI j (ofL j.ps x)).cont r=(st.qd1 j (ofL j.ps x)).cont r:=λr=>by
  simp_all [TSt.cont,TSt.qbI]
 refine ⟨λt ht=>?_,λr hr=>?_,λt ht=>?_,λt ht rs hE=>?_,λr hr=>?_,λr hr hs=>?_,h.len,h.elen⟩
 ·unfold TSt.qbI;rw [hl.1];exact h.wt t ht
 ·unfold TSt.qbI;rw [hl.2.1];exact h.wb r hr
 ·unfold TSt.qbI at ht;rw [hl.1]at ht;exact h.e t ht
 ·unfold TSt.qbI at ht hE;rw [hl.1]at ht;exact h.an t ht rs (qAI _ _ _ _ hE)
 ·unfold TSt.qbI at hr;rw [hl.2.1]at hr;exact h.b r hr
 ·rw [hc];unfold TSt.qbI at hr;rw [hl.2.1]at hr;exact h.bn r hr hs
theorem qwX{st st2:TSt}{s s':St}(hf:Fr2 st.fresh st2 s s'):Fr2 st (st2.merge st) s s' :=
 ⟨λt ht=>by simp [TSt.merge,ht],λr hr=>by simp [TSt.merge,hr],λt ht=>hf.e t λhh=>ht (by simp [TSt.merge,hh]),λt ht rs hE=>hf.an t (λhh=>ht (by simp [TSt.merge,hh])) rs hE,λr hr=>hf.b r λhh=>hr (by simp [TSt.merge,hh]),λr hr hsm=>hf.bn r (λhh=>hr (by simp [TSt.merge,hh])) hsm,hf.len,hf.elen⟩
theorem Rst.fresh{st:TSt}{s:St}(h:Rst st s):Rst st.fresh s:=⟨h.E,h.M⟩
theorem Rst.merge{st st0:TSt}{s:St}(h:Rst st s):Rst (st.merge st0) s:=⟨h.E,h.M⟩
theorem qnE{run:TSt->(R:Type)->(Ex->TSt->Option R)->Option R}{rel:St->Ex->St->Prop}(h:Snd run rel)(j:Option Join):Snd (λst R k=>qx5 j st run R k) rel:=by
 intro st R k r s hr hs;simp only [qx5]at hr;cases j with
 |none=>exact h st R k r s hr hs
 |some j =>
  simp only at hr;split at hr
  ·obtain ⟨x,hx,hk⟩:=qd.1 hr;obtain ⟨e,st2,s',hrel,hR,hF,hkk⟩:=h _ _ _ _ s hx hs.fresh;have habn:∀e,(k e (st2.merge st)).map Sum.inr=some x->rel s e s'->∃e st' s',rel s e s'/\Rst st' s'/\Fr2 st st' s s'/\k e st'=some r:=λe hkk hrel=>by
    obtain ⟨y,hy,rfl⟩:=qc.1 hkk;simp only [Sum.elim_inr,qb]at hk;subst hk;exact ⟨e,_,s',hrel,hR.merge,qwX hF,hy⟩
   cases e with
   |normal =>
    obtain ⟨y,hy,rfl⟩:=qc.1 hkk;simp only [Sum.elim_inl]at hk;exact ⟨.normal,_,s',hrel,qiH hs hR hF hy,qiG hR hF hy,hk⟩
   |exit id=>grind
   |ret=>grind
  ·obtain ⟨x,hx,hk⟩:=qd.1 hr;obtain ⟨e,st2,s',hrel,hR,hF,hkk⟩:=h _ _ _ _ s hx hs.fresh;cases e with
   |normal=>exact ⟨.normal,_,s',hrel,qiH hs hR hF hkk,qiG hR hF hkk,hk⟩
   |exit id=>cases hkk
   |ret=>cases hkk
def TOk(P:Program)(H:Hints)(lib:FuncId->Option (List V->Option V))(T:qsM):Prop :=
 ∀g args (R:Type) (k:TV->Option R) r vs,T g args R k=some r->RVL args vs->∃x v,k x=some r/\RV x v/\qwp P H lib g vs [] v []
structure OOk (P:Program) (H:Hints) (lib:FuncId->Option (List V->Option V)) (O:TOrc):Prop where
 call:∀ctx g args M (R:Type) (k:TV->List qG->List Root->Option R) r vs M',O.call ctx g args M R k=some r->RVL args vs->LR M M' ->
  ∃x N wb v N',k x N wb=some r/\RV x v/\LR N N'/\N.length=M.length/\(∀l sl,(⟨l,sl⟩:Root)∉wb->qaq N' l sl=qaq M' l sl/\∀c,qak M l sl=some (some c)->∃c',qak N l sl=some (some c'))/\qwp P H lib g vs M' v N'
 code:∀ctx f bid c,Snd (λst R k=>O.code ctx f bid c st R k) λs e s'=>Ev (λC=>C.code f bid c s=some (e,s')) P H lib
 born:∀ctx g args (R:Type) (k:TV->TV->Option R) r vs,O.born ctx g args R k=some r->RVL args vs ->
  ∃x τ o l v sl,k x (.t (.mset τ) o l)=some r/\qfX τ=true/\RV x v/\x.onlyMaps=true/\Ev (λC=>C.born g vs=some (v,sl,kvs τ l)) P H lib
theorem qlG(f:Fl):qha f≠.own:=by cases f<;>simp [qha]
theorem qte(f:Fl):qis f=.own↔f=.own:=by grind [qis]
theorem qtf(f:Fl):qit f=.own↔f=.own:=by grind [qit]
theorem qgH:∀{M:List qG} {L:List qG} {B:qG},qe2 M=some (L,B)->M=L++[B]
 |[],_,_,h=>by cases h
 |[b],_,_,h=>by simp_all [qb,Prod.mk.injEq,qe2]
 |b::c::l,L,B,h=>by
  simp only [qe2]at h;obtain ⟨⟨x,y⟩,hxy,h2⟩:=qc.1 h;simp only [Prod.mk.injEq]at h2;obtain ⟨rfl,rfl⟩:=h2;simp [qgH hxy]
theorem qgI:∀(L:List Level) (B:Level),qeh (L++[B])=some (L,B)
 |[],B=>rfl
 |[a],B=>rfl
 |a::b::L,B=>by
  have:=qgI (b::L) B;simp only [List.cons_append]at this ⊢;simp only [qeh,this,qi]
theorem qmh{α:Type}:∀{M:List α} {n:Nat},M.length=n+1->∃L B,M=L++[B]
 |[],n,h=>by simp at h
 |[b],n,h=>⟨[],b,rfl⟩
 |b::c::l,n,h=>by
  obtain ⟨L,B,e⟩:=qmh (M:=c::l) (n:=l.length) (by simp);exact ⟨b::L,B,by rw [e];rfl⟩
theorem LR.init{M:List qG}{M':List Level}(h:LR M M'):LR (M++[[]]) (M'++[[]]) where
 len:=by simp [h.len]
 rel:=λl s=>by
  have key:=h.rel l s;grind [qg,List.getElem?_append_right,qak,qaq,qU,qw,RB]
 nd:=λb hb=>by
  simp only [qj,List.mem_singleton]at hb;rcases hb with hb|rfl
  ·exact h.nd b hb
  ·simp
 mp:=λl s c hc hlt=>by
  have key:=h.mp l s c;grind [qg,List.getElem?_append_right,qaq,qw]
theorem LR.front{M:List qG}{M':List Level}{b:qG}{b':Level}(h:LR (M++[b]) (M'++[b'])):LR M M' where
 len:=by have:=h.len;grind
 rel:=λl s=>by
  have hl:M'.length=M.length:=by have:=h.len;grind
  have key:=h.rel l s;unfold qak qaq at key ⊢;by_cases e:l<M.length
  ·grind
  ·rw [List.getElem?_eq_none (by omega),List.getElem?_eq_none (by omega)];rfl
 nd:=λc hc=>h.nd c (by simp [hc])
 mp:=λl s c hc hlt=>by
  have key:=h.mp l s c;grind [qg,List.getElem?_eq_none,qaq]
theorem qyH(st:TSt)(r:Root)(v:TV):(st.qq2 r v).all=st.all.modify r.lvl (λb=>qyI b r.slot (some [v])):=qj6 st r [v]
theorem quB{st:TSt}{s:St}(hs:Rst st s){r:Root}{c0:List TV}(hb:st.cont r=some c0){x:LoopState}{pe:Option Code}{g:FuncId}{env:List TV}{env':List V}{ps:List Tmp}{a b:Code}(he:RVL env env') :
  Rst (st.qq2 r (.lp x pe g env ps a b)) (s.qp r [.lp x pe g env' ps a b]):=by
 have e1:(st.qq2 r (.lp x pe g env ps a b)).E=st.E:=(show (st.qp r [_]).E=st.E by grind [TSt.qp])
 have e2:(s.qp r [.lp x pe g env' ps a b]).E=s.E:=by grind [St.qp]
 refine ⟨by rw [e1,e2];exact hs.E,?_⟩;rw [qyH,qq1];exact LR.qp hs.M _ _ (by grind [qec]) ⟨env',rfl,he⟩ (λ_=>rfl)
theorem qpx(st:TSt)(r:Root)(v:TV)(q:Root)(h:(st.cont q).isSome=true):((st.qq2 r v).cont q).isSome=true:=qii st r [v] q h
theorem qsk{st:TSt}{s:St}(hs:Rst st s){r:Root}{x:LoopState}{pe:Option Code}{g:FuncId}{env:List TV}{ps:List Tmp}{a b:Code}(h:st.cont r=some [.lp x pe g env ps a b]) :
  ∃env',s.box r=some [.lp x pe g env' ps a b]/\RVL env env':=by
 have:=hs.M.rel r.lvl r.slot;rw [qec h]at this;obtain ⟨c',h1,env',rfl,h2⟩:=this
 simp_all [qP]
theorem qrg:∀{E:Env} {E':List V} {ps:List Tmp} {asz:List TV} {vs:List V},RVL E.toL E'->RVL asz vs->RVL (qj9 E ps asz).toL (qeI E' ps vs)
 |E,E',[],asz,vs,hE,ha=>by
  cases asz with
  |nil=>simp only [RVL]at ha;subst ha;exact hE
  |cons a asz=>simp only [RVL]at ha;obtain ⟨v,m,rfl,_⟩:=ha;exact hE
 |E,E',t::ps,[],vs,hE,ha=>by simp only [RVL]at ha;subst ha;exact hE
 |E,E',t::ps,a::asz,vs,hE,ha=>by
  simp only [RVL]at ha;obtain ⟨v,m,rfl,h1,h2⟩:=ha;simp only [qj9,qeI];exact qrg (by rw [qdQ];exact RVL.set _ hE h1) h2
theorem qDQ{E:List V}{L:List Level}{B:Level}{q:Root}(h:q.lvl<L.length):({E,L,B}:St).box q=qaq L q.lvl q.slot:=by
 simp_all [qP,qg,qaq,qdS]
theorem qAW(hO:OOk P H lib O){d:Tmp}{r:Root}{args:List TV}{args':List V}{st:TSt}{s:St}{R:Type}{k:TV->TSt->Option R}{res:R}
  (ha:RVL args args') (hs:Rst st s) (h:qAV O ctx d r args st R k=some res) :
  ∃v st' u s',k v st'=some res/\Ev (λC=>qlp C r args' s=some (u,s')) P H lib/\RV v u/\Rst st' s'/\Fr2 st st' s s'/\st'.E=st.E/\s'.E=s.E:=by
 unfold qAV at h;split at h
 ·rename_i g env ps asz bo hc1;obtain ⟨env',hb1,hre⟩:=qsk hs hc1;split at h
  ·cases h
  ·rename_i hlen;have hlen':¬ args'.length≠ps.length:=by rw [ha.length];exact hlen
   have hE0:RVL (qj9 (Env.qhf env env.length) ps (dullL args)).toL (qeI env' ps (args'.map V.hand)):=by
    refine qrg ?_ (ha.qr5 qlG rfl);rw [qmp];simpa using hre
   have h0:Rst {E:=qj9 (Env.qhf env env.length) ps (dullL args),L:=st.L++[st.B],B:=[],Wt:=.empty,Wb:=[]} {E:=qeI env' ps (args'.map V.hand),L:=s.L++[s.B],B:=[]}:=⟨hE0,hs.M.init⟩
   obtain ⟨e1,t2,s2,hev1,hR2,hF2,h⟩:=hO.code _ _ _ _ _ _ _ _ _ h h0;cases e1 with
   |exit id=>cases h
   |ret=>cases h
   |normal =>
    simp only at h;split at h
    ·rename_i g2 env2 ps2 as2 bo2 hc2;obtain ⟨env2',hb2,hre2⟩:=qsk hR2 hc2;have hset:=quB hR2 hc2 (x:=.busy) (pe:=none) (g:=g2) (ps:=ps2) (a:=as2) (b:=bo2) hre2;obtain ⟨e3,t3,s3,hev2,hR3,hF3,h⟩:=hO.code _ _ _ _ _ _ _ _ _ h hset;split at h
     ·rename_i x9 pe9 g3 env3 ps3 as3 bo3 hc3;obtain ⟨env3',hb3,hre3⟩:=qsk hR3 hc3;have hset3:=quB hR3 hc3 (x:=if e3.code.isNone then .ready else .done) (pe:=e3.code) (g:=g3) (ps:=ps3) (a:=as3) (b:=bo3) hre3;split at h
      ·rename_i L B hsp;have hL3:=qgH hsp;split at h
       ·rename_i hL;have hlen0:=hs.len;have hlA:(s3.qp r [.lp (if e3.code.isNone then .ready else .done) e3.code g3 env3' ps3 as3 bo3]).L.length=L.length+1:=by
         have:=hset3.len;grind
        obtain ⟨L',B',hL3'⟩:=qmh hlA;have hL':L'.length=s.L.length:=by grind
        have hs3L:s3.L.length=s.L.length+1:=by
         grind [List.length_append,List.length_singleton,St.qp]
        have ht2:∀q,q∉t3.Wb->q∉t2.Wb:=λq hq hh=>hq (hF3.wb q hh);have hbig:s2.L.length=s.L.length+1:=by have:=hF2.len;simpa using this
        have same2:∀q,q∉t3.Wb->s2.box q=({E:=qeI env' ps (args'.map V.hand),L:=s.L++[s.B],B:=[]}:St).box q:=λq hq=>by
         rcases hF2.b q (ht2 q hq)with h9|⟨h9,_⟩
         ·exact h9
         ·simp at h9
        have same3:∀q,q∉t3.Wb->s3.box q=(s2.qp r [.lp .busy none g2 env2' ps2 as2 bo2]).box q:=λq hq=>by
         rcases hF3.b q hq with h9|⟨h9,_⟩
         ·exact h9
         grind [St.qp]
        have low:∀q:Root,q.lvl<=s.L.length->({E:=qeI env' ps (args'.map V.hand),L:=s.L++[s.B],B:=[]}:St).box q=s.box q:=λq hq=>by
         rw [qDQ (by simp;omega),qP];rfl
        have hfin:∀q:Root,q.lvl<=s.L.length->({s with L:=L',B:=B'}:St).box q=(s3.qp r [.lp (if e3.code.isNone then .ready else .done) e3.code g3 env3' ps3 as3 bo3]).box q:=λq hq=>by
         grind [qP,qg,qaq,qdS]
        refine ⟨_,_,.val (.bool e3.code.isNone),{s with L:=L',B:=B'},h,((hev1.and hev2)).imp λC ⟨hC1,hC2⟩=>?_,by simp [RV,RTy],⟨hs.E,?_⟩,⟨λt ht=>ht,λq hq=>by simp [hq],λt ht=>.inl rfl,λt ht rs hE=>⟨rs,hE⟩,λq hq=>.inl ?_,λq hq hsm=>?_,hL',rfl⟩,rfl,rfl⟩
        ·simp_all [if_neg,qgI,if_true,qlp]
        ·have h9:=LR.front hset3.M;rw [hL3,hL3']at h9;exact h9
        ·simp only [qj,not_or]at hq;obtain ⟨hq0,hq3,_⟩:=hq;by_cases hlv:q.lvl<=s.L.length
         ·rw [hfin q hlv,qR];by_cases e:q=r
          ·simp_all [if_pos,qR,qi,qb,List.cons.injEq,V.lp.injEq,and_true,true_and,if_true,Option.isNone_iff_eq_none]
          ·rw [if_neg e,same3 q hq3,qR,if_neg e,same2 q hq3,low q hlv]
         grind [qP,List.getElem?_eq_none,qaq,qdS]
        ·simp only [qj,not_or]at hq;obtain ⟨hq0,hq3,_⟩:=hq;have hlv:q.lvl<(st.L++[st.B]).length:=by
          obtain ⟨c,hc⟩:=Option.isSome_iff_exists.1 hsm;have:=qec hc;grind [qm,qak,TSt.all]
         have i0:(({E:=qj9 (Env.qhf env env.length) ps (dullL args),L:=st.L++[st.B],B:=[],Wt:=.empty,Wb:=[]}:TSt).cont q).isSome=true:=by
          grind [qaO,qg,qak,TSt.all]
         have i1:=hF2.bn q (ht2 q hq3) i0;have i2:=qpx t2 r (.lp .busy none g2 env2 ps2 as2 bo2) q i1;have i3:=hF3.bn q hq3 i2;have i4:=qpx t3 r (.lp (if e3.code.isNone then .ready else .done) e3.code g3 env3 ps3 as3 bo3) q i3;grind [qaO,qg,qak,TSt.all]
       ·cases h
      ·cases h
     ·cases h
    ·cases h
 ·cases h
theorem qs2(hT:TOk P H lib T)(hO:OOk P H lib O){d:Tmp}{fv:TV}{fv':V}{args:List TV}{args':List V}{st:TSt}{s:St}{R:Type}{k:TV->TSt->Option R}{r:R}
  (hf:RV fv fv') (ha:RVL args args') (hs:Rst st s) (h:qp9 H J T O ctx f d fv args st R k=some r) :
  ∃v st' u s',k v st'=some r/\Ev (λC=>qhh C fv' args' s=some (u,s')/\qcH C fv'=qdL H fv) P H lib/\RV v u/\Rst st' s'/\Fr2 st st' s s'/\st'.E=st.E/\s'.E=s.E/\qd0 fv' args'=qgi fv args:=by
 unfold qp9 at h;split at h
 ·rename_i g first cap;simp only [RV]at hf;obtain ⟨first',cap',rfl,hf1,hc1⟩:=hf;have hall:RVL (first++args++cap) (first'++args'++cap'):=(hf1.append ha).append hc1;split at h
  ·rename_i hk;have hpt:=RVL.ptrs_eq _ _ hk hall;have hpure:qd0 (.fn g first' cap') args'=qgi (.fn g first cap) args:=by
    grind [qd0,qgi]
   split at h
   ·rename_i hp;have hp':(ptrsL (first'++args'++cap')).isEmpty=true:=by grind
    have hshare:RVL (shareL (first++args++cap)) ((first'++args'++cap').map V.share):=by
     have:=RVL.share _ _ hall;rw [qaA]at this;exact this
    have fin:∀{x:TV} {v:V},k (if tightL (first++args++cap)then x else x.qa9) st=some r->RV x v->qwp P H lib g ((first'++args'++cap').map V.share) [] v [] ->
      ∃v st' u s',k v st'=some r/\Ev (λC=>qhh C (.fn g first' cap') args' s=some (u,s')/\qcH C (.fn g first' cap')=qdL H (.fn g first cap)) P H lib/\RV v u/\Rst st' s'/\Fr2 st st' s s'/\st'.E=st.E/\s'.E=s.E/\qd0 (.fn g first' cap') args'=qgi (.fn g first cap) args:=by
     intro x v hkx hr hev;refine ⟨if tightL (first++args++cap)then x else x.qa9,st,if looseL (first'++args'++cap')=true then v.qa9 else v,s,hkx,(hev.and Ev.qjn).imp λC ⟨hC,hCp⟩=>?_,?_,hs,Fr2.refl _ _,rfl,rfl,hpure⟩
     ·refine ⟨?_,by grind [qcH,qdL]⟩;show qf1 C g (first'++args'++cap') s=_
      simp_all [if_pos,qf1]
     ·cases htg:tightL (first++args++cap)with
      |true =>
       grind [RVL.tight]
      |false =>
       simp only [qf,if_false];split
       ·exact RV.lo qte _ _ hr
       ·exact hr.lo0
    split at h
    ·obtain ⟨x,N,wb,v,N',hkx,hr,hN,hlen,_,hev⟩:=hO.call _ _ _ _ _ _ _ _ [] h hshare ⟨rfl,λl s=>by simp [qak,qaq,RB],by simp,λl s c h=>by simp [qaq]at h⟩;have hN0:N=[]:=List.eq_nil_of_length_eq_zero (by omega);subst hN0;have hN0':N'=[]:=List.eq_nil_of_length_eq_zero (by rw [hN.len];rfl);grind
    ·obtain ⟨x,v,hkx,hr,hev⟩:=hT _ _ _ _ _ _ h hshare;exact fin hkx hr hev
   ·rename_i hp;have hp':¬ (ptrsL (first'++args'++cap')).isEmpty=true:=by grind
    split at h
    ·rename_i hpk;split at h
     ·rename_i xs hxs;split at h
      ·rename_i hxp;obtain ⟨us,hus,hru⟩:=peekTL_ok (bt:=st.box) (bx:=s.box) (λr c hc=>by
        obtain ⟨c',h1,h2⟩:=hs.box hc;exact ⟨c',h1,h2,λhlt=>hs.M.mp r.lvl r.slot c' (by simp_all [qP]) hlt⟩) _ _ _ hxs hall
       obtain ⟨x,v,hkx,hr,hev⟩:=hT _ _ _ _ _ _ h hru;split at hkx
       ·rename_i hmine;refine ⟨x,st,v,s,hkx,(hev.and Ev.qjn).imp λC ⟨hC,hCp⟩=>⟨?_,by simp_all [qcH,qdL]⟩,hr,hs,Fr2.refl _ _,rfl,rfl,hpure⟩;show qf1 C g (first'++args'++cap') s=_;have hup:(ptrsL us).isEmpty=true:=by
         rw [List.isEmpty_iff,List.eq_nil_iff_forall_not_mem];intro q hq;have:=RVL.qq _ _ hru q hq;grind
        unfold qf1;rw [if_neg hp',hCp,if_pos hpk,hus];simp only [hup,if_true,hC,RV.qcB x v hmine hr]
       grind
      ·cases h
     ·cases h
    rename_i hpk;have hdull:RVL (dullL (first++args++cap)) ((first'++args'++cap').map V.hand):=hall.qr5 qlG rfl;obtain ⟨x,N,wb,v,N',hkx,hr,hN,hlen,hfr,hev⟩:=hO.call _ _ _ _ _ _ _ _ (s.L++[s.B]) h hdull hs.M;split at hkx
    ·rename_i L B hsp;have hNe:=qgH hsp;subst hNe;split at hkx
     ·rename_i hL;obtain ⟨L',B',rfl⟩:=qmh (M:=N') (n:=L.length) (by rw [hN.len];simp);have hL':L'.length=s.L.length:=by have:=hN.len;have:=hs.len;simp at *;omega
      refine ⟨x,_,v,{s with L:=L',B:=B'},hkx,(hev.and Ev.qjn).imp λC ⟨hC,hCp⟩=>?_,hr,⟨hs.E,hN⟩,⟨λt ht=>ht,λq hq=>by simp [hq],λt ht=>.inl rfl,λt ht rs hE=>⟨rs,hE⟩,λq hq=>.inl ?_,λq hq hsm=>?_,hL',rfl⟩,rfl,rfl,hpure⟩
      ·refine ⟨?_,by simp only [qcH,qdL,hCp]⟩;show qf1 C g (first'++args'++cap') s=_
       simp_all [if_neg,qgI,if_true,qf1]
      ·rw [qP,qP];simp only [qj,not_or]at hq;exact (hfr q.lvl q.slot hq.1).1
      ·simp only [qj,not_or]at hq;obtain ⟨c,hc⟩:=Option.isSome_iff_exists.1 hsm;obtain ⟨c',hc'⟩:=(hfr q.lvl q.slot hq.1).2 c (qec hc);rw [qaO];show (match qak (L++[B]) q.lvl q.slot with
        |some (some c)=>some c
        |_=>none).isSome=true
       rw [hc'];rfl
     ·cases hkx
    ·cases hkx
  ·cases h
 ·rename_i q;simp only [RV]at hf;subst hf;obtain ⟨v,st',u,s',h1,h2,h3,h4,h5,h6,h7⟩:=qAW hO ha hs h;exact ⟨v,st',u,s',h1,h2.imp λC hC=>⟨hC,rfl⟩,h3,h4,h5,h6,h7,rfl⟩
 ·cases h
theorem qds{x:TV}{ys:List V}(h:RVL [x] ys):∃v,ys=[v]/\RV x v:=by
 simp_all [RVL]
def qzz(P:Program)(H:Hints)(f:FuncId)(o:Oper)(xs:List TV)(st:TSt)(R:Type)(k:TV->TSt->Fp->Option R):Option R :=
 if qkx o.op xs then qnH P H f o xs st R k else match qma o.op xs with
  |none=>qcM P H f (qab H f o) o.op xs none R λv c=>match c with
   |none=>k v st .none
   |some _=>none
  |some r=>if 16384<=r.slot then none else qcM P H f (qab H f o) o.op xs (st.box r) R λv c=>match c with
   |none=>k v st (.root r (qb0 P o.op xs).1 (qb0 P o.op xs).2 false)
   |some c=>if (qxC o.op xs).all (λp=>decide (p.lvl<=r.lvl))&&decide ((qb0 P o.op xs).1+(qb0 P o.op xs).2<=c.length)then k v (st.qp r c) (.root r (qb0 P o.op xs).1 (qb0 P o.op xs).2 true)else none
theorem qv9{o:Oper}(h:qje o.op=true)(xs:List TV)(st:TSt)(R:Type)(k:TV->TSt->Fp->Option R):qmS P H J T O ctx f o xs st R k=qzz P H f o xs st R k:=by
 unfold qmS;split
 ·simp_all [qje]
 ·simp_all [qje]
 ·simp_all [qje]
 ·rfl
theorem qv8{o:Oper}{c:Call}{fo:Operand}(hop:o.op=.call c)(hc:c.callee=.value fo)(xs:List TV)(st:TSt)(R:Type)(k:TV->TSt->Fp->Option R) :
  qmS P H J T O ctx f o xs st R k=match xs with
   |fv::args=>if qrL H fv args then qCR H O ctx o.dst fv args st R k else qp9 H J T O ctx f (o.dst.getD 0) fv args st R λv s=>k v s (if qgi fv args then .none else if qdL H fv then .looks else .all)
   |[]=>none:=by
 unfold qmS;obtain ⟨cal,a1,a2⟩:=c;grind
theorem LR.push{M:List qG}{M':List Level}{b:qG}{b':Level}{d:Nat}{c:List TV}{c':List V}(h:LR (M++[b]) (M'++[b']))(hl:M'.length=M.length)(hd:qU b d=none)(hc:RC c c')(hmp:d<16384->qhk c'=false):LR (M++[(d,some c)::b]) (M'++[qb3 d c' b']):=by
 have hkey:∀k,RB (qU b k) (qw b' k):=λk=>by
  have:=h.rel M.length k
  simp_all [List.getElem?_append_right,Nat.le_refl,qak,qaq]
 have hnone:qw b' d=none:=by
  have h2:=hkey d;rw [hd]at h2;exact h2
 refine ⟨by simp [hl],λl k=>?_,λq hq=>?_,λl k c2 h2 hlt=>?_⟩
 rotate_right
 ·have key:=h.mp l k;unfold qaq at key h2;by_cases e:l<M'.length
  ·grind
  ·rw [List.getElem?_append_right (by omega)]at key h2;cases hm:l-M'.length with
   |zero =>
    rw [hm]at key h2;simp only [List.getElem?_cons_zero]at key h2;by_cases e2:d=k
    ·simp_all [qiw,if_true,qb]
    simp_all [qbH]
   |succ n=>simp_all
 ·have key:=h.rel l k;unfold qak qaq at key ⊢;by_cases e:l<M.length
  ·grind
  ·rw [List.getElem?_append_right (by omega),List.getElem?_append_right (by omega),hl]at key ⊢;cases hm:l-M.length with
   |zero =>
    simp only [List.getElem?_cons_zero];by_cases e2:d=k
    ·subst e2;simp only [qU,qiw hnone,if_true];exact ⟨c',rfl,hc⟩
    simp_all [qbH,if_neg,qU]
   |succ n=>simp [RB]
 ·simp only [qj,List.mem_singleton]at hq;rcases hq with hq|rfl
  ·exact h.nd q (by simp [hq])
  ·exact qqw hnone (h.nd b' (by simp))
theorem qe3{st:TSt}{s:St}(hs:Rst st s){d:Nat}(h:qU st.B d=none):qw s.B d=none:=by
 have:=hs.M.rel st.L.length d;unfold qak qaq at this;have e1:st.all[st.L.length]?=some st.B:=by simp [TSt.all]
 have e2:(qdS s)[st.L.length]?=some s.B:=by rw [<- hs.len];simp [qdS]
 rw [e1,e2]at this;simp only at this;rw [h]at this;exact this
theorem qpf{st:TSt}{s:St}(hs:Rst st s){d:Nat}{c:List TV}{c':List V}(hd:qU st.B d=none)(hc:RC c c')(hmp:d<16384->qhk c'=false) :
  Rst {st with B:=(d,some c)::st.B,Wb:=⟨st.L.length,d⟩::st.Wb} {s with B:=qb3 d c' s.B}/\Fr2 st {st with B:=(d,some c)::st.B,Wb:=⟨st.L.length,d⟩::st.Wb} s {s with B:=qb3 d c' s.B}:=by
 refine ⟨⟨hs.E,LR.push hs.M hs.len hd hc hmp⟩,⟨λt ht=>ht,λr hr=>by simp [hr],λt ht=>.inl rfl,λt ht rs hE=>⟨rs,hE⟩,λr hr=>.inl ?_,λr hr hsm=>?_,rfl,rfl⟩⟩
 case refine_2 =>
  simp only [qk,not_or]at hr;obtain ⟨l,sl⟩:=r;unfold TSt.cont at hsm ⊢;simp only at hsm ⊢;by_cases e:l=st.L.length
  ·rw [if_pos e]at hsm ⊢;have:d≠sl:=λe2=>hr.1 (by rw [e2,e])
   simp_all [if_neg,qU]
  grind
 simp only [qk,not_or]at hr;obtain ⟨l,sl⟩:=r;rw [qP,qP];unfold qaq qdS;simp only
 have hlen:=hs.len;grind [qg,List.getElem?_append_right,List.getElem?_cons_zero,qbH]
theorem qih(st:TSt)(r:Root)(c:List TV):(st.qp r c).E=st.E/\(st.qp r c).Wt=st.Wt/\(st.qp r c).Wb=r::st.Wb/\(st.qp r c).L.length=st.L.length:=by
 grind [TSt.qp]
theorem qd5(s:St)(r:Root)(c:List V):(s.qp r c).E=s.E/\(s.qp r c).L.length=s.L.length:=by
 grind [St.qp]
theorem qic{st:TSt}{s:St}(hs:Rst st s){r:Root}{c0 c:List TV}{c':List V}(hb:st.box r=some c0)(hc:RVL c c')(hmp:r.slot<16384->qhk c'=false):Rst (st.qp r c) (s.qp r c')/\Fr2 st (st.qp r c) s (s.qp r c'):=by
 obtain ⟨e1,e2,e3,e4⟩:=qih st r c;obtain ⟨e5,e6⟩:=qd5 s r c';refine ⟨⟨by rw [e1,e5];exact hs.E,?_⟩,⟨λt ht=>by grind,λq hq=>by grind,λt ht=>.inl (by rw [e5]),λt ht rs hE=>⟨rs,by grind⟩,λq hq=>.inl ?_,λq hq hsm=>qii st r c q hsm,e6,by rw [e5]⟩⟩
 ·rw [qj6,qq1];exact LR.qp hs.M _ _ (by grind [qru]) hc.rc hmp
 simp_all [qk,not_or,qR,if_neg]
theorem qwQ{x:V}(h:x.oks=true):qhk x.cells=false:=by
 unfold V.oks at h;cases hc:x.cells with
 |nil=>rfl
 |cons y l =>
  rw [hc]at h;simp only [List.all_cons,qe]at h;cases y<;>first|rfl|grind [V.one]
theorem qf7{x:V}{l m:List V}:qhk (x::l)=qhk (x::m):=by cases x<;>rfl
theorem qou{cs ys:List V}{off:Nat}(h1:qhk cs=false)(h2:off=0\/cs=[]->qhk ys=false):qhk (qJ cs off ys)=false:=by
 unfold qJ;cases off with
 |zero =>
  simp only [List.take_zero,List.nil_append,Nat.zero_add];cases ys with
  |nil=>grind
  |cons y l=>grind [qf7]
 |succ n =>
  cases cs with
  |nil=>grind
  |cons c l=>grind [qf7]
theorem qvo{g:Fl->Fl}{l:List V}(h:qhk l=false):qhk (reflagL g l)=false:=by
 cases l with
 |nil=>rfl
 |cons x l=>cases x with
  |mp=>simp [qhk]at h
  |room s n =>
   simp only [reflagL,V.reflag];by_cases h1:g .own=.own
   ·rw [if_pos h1];rfl
   ·rw [if_neg h1];by_cases h2:n=0
    ·rw [if_pos h2];rfl
    ·rw [if_neg h2];rfl
  |_=>rfl
theorem qCq{tk:Bool}{o:Op}{ty:TypeId}{ys:List V}{q:Root}{bx:Option (List V)}{u:V}{c':List V}(hr:rootOf o ys=some q)(hb:∀c,bx=some c->qhk c=false)
  (h:qaL P H f tk o ty ys bx=some (u,some c')):qhk c'=false:=by
 obtain ⟨off,rest,rfl,⟨t,a,rfl⟩|⟨t,a,x,rfl⟩⟩:=qbM hr
 ·cases rest with
  |nil =>
   simp only [qaL]at h;split at h
   ·rename_i cs;split at h
    ·cases h
    ·split at h
     ·obtain ⟨y,_,he⟩:=qc.1 h;cases he;refine qou (hb cs rfl) λh0=>qvo ?_;have h9:=hb cs rfl;cases cs with
      |nil=>grind
      |cons c l =>
       rcases h0 with h0|h0
       ·subst h0;simp only [List.drop_zero];cases (if qN P t=true then P.cellsOf t else 1)with
        |zero=>rfl
        |succ n=>grind [qf7]
       grind
     simp_all
   ·cases h
  |cons y l=>simp [qaL]at h
 ·match rest,h with
  |[y],h =>
   simp only [qaL]at h;grind [qb,Prod.mk.injEq,qou,qwQ]
  |[],h=>simp [qaL]at h
  |_::_::_,h=>simp [qaL]at h
theorem qxY{op:Op}{xs:List TV}{ys:List V}(hx:RVL xs ys)(h:qkx op xs=true):qcY op ys=true:=by
 unfold qkx at h;split at h
 ·rfl
 ·rfl
 ·rfl
 ·rfl
 ·simp only [RVL]at hx;obtain ⟨v,m,rfl,h1,rfl⟩:=hx;simp only [RV]at h1;subst h1;rfl
 ·cases h
theorem qxZ{op:Op}{xs:List TV}{ys:List V}(hx:RVL xs ys)(hn:¬ qkx op xs=true)(hm:qcY op ys=true) :
  qma op xs=none/\∀tk bx (R:Type) (k:TV->Option (List TV)->Option R),qcM P H f tk op xs bx R k=none:=by
 unfold qcY at hm;split at hm
 ·exact absurd rfl hn
 ·exact absurd rfl hn
 ·exact absurd rfl hn
 ·exact absurd rfl hn
 ·rename_i args argTypes q
  match xs,hx with
  |[x],hx =>
   obtain ⟨v,hv,hr⟩:=qds hx;cases hv;cases x with
   |any rs=>exact ⟨rfl,λ_ _ _ _=>rfl⟩
   |mref r=>exact absurd rfl hn
   |t τ o x=>cases τ<;>simp [RV,RTy]at hr
   |_=>simp [RV]at hr
  |[],hx=>simp [RVL]at hx
  |x::y::l,hx =>
   have:=hx.length;grind
 grind
theorem qvB{o:Oper}{xs:List TV}{ys:List V}{st:TSt}{s:St}{R:Type}{k:TV->TSt->Fp->Option R}{r:R}(hx:RVL xs ys)(hs:Rst st s)(h:qnH P H f o xs st R k=some r) :
  ∃v st' fp u s',k v st' fp=some r/\mapStep P H f o ys s=some (u,s',fp)/\RV v u/\Rst st' s'/\Fr2 st st' s s'/\st'.E=st.E/\s'.E=s.E:=by
 have hset:∀{q:Root} {τ:Ty} {o':Nat} {l:List τ.den},st.box q=some [.t (.mset τ) o' l]->qfX τ=true/\s.box q=some [.mp (kvs τ l)]/\¬ q.slot<16384:=λ{q τ o' l} hb=>by
  obtain ⟨c',hc',hr⟩:=hs.box hb;obtain ⟨v,rfl,hv⟩:=qds hr;simp only [RV,RTy]at hv;obtain ⟨hk,rfl⟩:=hv;refine ⟨hk,hc',λhlt=>?_⟩;have:=hs.M.mp q.lvl q.slot _ (by rw [<- qP];exact hc') hlt;grind [qhk]
 unfold qnH at h;split at h
 ·-- make
  rename_i t ro hop;split at h
  ·rename_i d kt vt hd hu;split at h
   ·rename_i τ hτ;split at h
    ·rename_i hc;obtain ⟨hn,hk,hci⟩:=hc;have hn':qU st.B (qX d)=none:=by simpa using hn
     have hrv:RVL [.t (.mset τ) 0 []] [.mp []]:=qv.2 ⟨by simp [RV,RTy,hk],q5⟩;obtain ⟨hR,hF⟩:=qpf hs hn' (RVL.rc hrv) (λhlt=>absurd hlt (by unfold qX;omega));refine ⟨_,_,_,.mref ⟨s.L.length,qX d⟩,_,h,?_,by simp [RV,hs.len],hR,hF,rfl,rfl⟩;have hci':qlM ys=true:=by
      unfold qor at hci;split at hci
      ·simp only [RVL]at hx;subst hx;rfl
      ·obtain ⟨v,rfl,hv⟩:=qds hx;simp only [RV,RTy]at hv;subst hv;rfl
      ·cases hci
     unfold mapStep;simp only [hop,hd,hu];rw [if_pos ⟨by rw [qe3 hs hn'];rfl,hci'⟩,hs.len]
    ·cases h
   ·cases h
  ·cases h
 ·-- look up
  rename_i t mo ko ok hop;split at h
  ·rename_i q x;split at h
   ·rename_i τ o' l kt vt hb hu;split at h
    ·rename_i hf;split at h
     ·rename_i o2 y hz hy;obtain ⟨v1,m1,rfl,hv1,hx⟩:=(by simpa only [RVL]using hx:∃v m,ys=v::m/\RV (.mref q) v/\∃v' m',m=v'::m'/\RV x v'/\m'=[])
      obtain ⟨v2,m2,rfl,hv2,rfl⟩:=hx;simp only [RV]at hv1;subst hv1;obtain ⟨hk,hbs,_⟩:=hset hb;obtain ⟨u,hlk,hru⟩:=qAd (ok:=ok) (l:=l) hu hf hz hy hv2;refine ⟨_,_,_,u,s,h,?_,hru,hs,Fr2.refl _ _,rfl,rfl⟩
      simp_all [qi,mapStep]
     ·cases h
    ·cases h
   ·cases h
  ·cases h
 ·rename_i t mo ko xo hop;split at h
  ·rename_i q x ob;split at h
   ·rename_i τ o' l kt vt hb hu;split at h
    ·rename_i hf;split at h
     ·rename_i y hy;obtain ⟨v1,m1,rfl,hv1,hx⟩:=(by simpa only [RVL]using hx:∃v m,ys=v::m/\RV (.mref q) v/\∃v' m',m=v'::m'/\RV x v'/\∃v'' m'',m'=v''::m''/\RV (.t .bool ob true) v''/\m''=[])
      obtain ⟨v2,m2,rfl,hv2,hx⟩:=hx;obtain ⟨v3,m3,rfl,hv3,rfl⟩:=hx;simp only [RV]at hv1;subst hv1;obtain ⟨hk,hbs,hsl⟩:=hset hb;have hup:=quK (l:=l) hu hf hy hv2 (by simpa only [RV,RTy]using hv3);have hrv:RVL [.t (.mset τ) 0 (qlt τ l y)] [.mp (kvs τ (qlt τ l y))]:=qv.2 ⟨by simp only [RV,RTy];exact ⟨hk,rfl⟩,q5⟩;obtain ⟨hR,hF⟩:=qic hs hb hrv (λhlt=>absurd hlt hsl);refine ⟨_,_,_,.undef,_,h,?_,qco [],hR,hF,(qih _ _ _).1,(qd5 _ _ _).1⟩
      simp_all [qi,mapStep]
     ·cases h
    ·cases h
   ·cases h
  ·cases h
 ·rename_i t mo ko xo hop;split at h
  ·rename_i q x ob;split at h
   ·rename_i τ o' l kt vt hb hu;split at h
    ·rename_i hf;split at h
     ·rename_i y hy;obtain ⟨v1,m1,rfl,hv1,hx⟩:=(by simpa only [RVL]using hx:∃v m,ys=v::m/\RV (.mref q) v/\∃v' m',m=v'::m'/\RV x v'/\∃v'' m'',m'=v''::m''/\RV (.t .bool ob true) v''/\m''=[])
      obtain ⟨v2,m2,rfl,hv2,hx⟩:=hx;obtain ⟨v3,m3,rfl,hv3,rfl⟩:=hx;simp only [RV]at hv1;subst hv1;obtain ⟨hk,hbs,hsl⟩:=hset hb;have hup:=quK (l:=l) hu hf hy hv2 (by simpa only [RV,RTy]using hv3);have hrv:RVL [.t (.mset τ) 0 (qlt τ l y)] [.mp (kvs τ (qlt τ l y))]:=qv.2 ⟨by simp only [RV,RTy];exact ⟨hk,rfl⟩,q5⟩;obtain ⟨hR,hF⟩:=qic hs hb hrv (λhlt=>absurd hlt hsl);refine ⟨_,_,_,.undef,_,h,?_,qco [],hR,hF,(qih _ _ _).1,(qd5 _ _ _).1⟩
      simp_all [qi,mapStep]
     ·cases h
    ·cases h
   ·cases h
  ·cases h
 ·rename_i args argTypes hop;split at h
  ·rename_i q;split at h
   ·rename_i τ o' l kt vt hb hu;split at h
    ·rename_i hm;obtain ⟨v,rfl,hv⟩:=qds hx;simp only [RV]at hv;subst hv;obtain ⟨hk,hbs,_⟩:=hset hb;refine ⟨_,_,_,.val (.int .i64 (kvs τ l).length),s,h,?_,by simp [RV,RTy,kvs],hs,Fr2.refl _ _,rfl,rfl⟩
     simp_all [if_true,mapStep]
    ·cases h
   ·cases h
  ·cases h
 ·cases h
theorem qBG(hO:OOk P H lib O){d:Option Tmp}{fv:TV}{fv':V}{args:List TV}{args':List V}{st:TSt}{s:St}{R:Type}{k:TV->TSt->Fp->Option R}{r:R}
  (hf:RV fv fv') (ha:RVL args args') (hs:Rst st s) (h:qzp O ctx d fv args st R k=some r) :
  ∃v st' fp u s',k v st' fp=some r/\Ev (λC=>qnp C d fv' args' s=some (u,s',fp)) P H lib/\RV v u/\Rst st' s'/\Fr2 st st' s s'/\st'.E=st.E/\s'.E=s.E:=by
 unfold qzp at h;split at h
 ·rename_i g first cap d;simp only [RV]at hf;obtain ⟨first',cap',rfl,hf1,hc1⟩:=hf;have hall:RVL (first++args++cap) (first'++args'++cap'):=(hf1.append ha).append hc1;split at h
  ·rename_i hc;simp only [qe,Option.isNone_iff_eq_none]at hc;obtain ⟨⟨⟨hk,hp⟩,htg⟩,hn⟩:=hc;have hpt:=RVL.ptrs_eq _ _ hk hall;have hp':(ptrsL (first'++args'++cap')).isEmpty=true:=by grind
   have hl:=RVL.tight _ _ htg hall;have hshare:RVL (shareL (first++args++cap)) ((first'++args'++cap').map V.share):=by
    have:=RVL.share _ _ hall;rw [qaA]at this;exact this
   obtain ⟨x,τ,o,l,v,sl,hkx,hkt,hr,hom,hev⟩:=hO.born _ _ _ _ _ _ _ h hshare;have hrv:RVL [.t (.mset τ) o l] [.mp (kvs τ l)]:=qv.2 ⟨by simp only [RV,RTy];exact ⟨hkt,rfl⟩,q5⟩;obtain ⟨hR,hF⟩:=qpf hs hn (RVL.rc hrv) (λhlt=>absurd hlt (by unfold qX;omega));refine ⟨_,_,_,v.adopt ⟨s.L.length,qX d⟩,_,hkx,hev.imp λC hC=>?_,?_,hR,hF,rfl,rfl⟩
   ·unfold qnp;simp only [hC];rw [if_pos (by simp only [qe,Bool.not_eq_true',Option.isNone_iff_eq_none];grind [qe3]),hs.len]
   ·rw [hs.len];simp_all [rv_adopt]
  ·cases h
 ·cases h
theorem qxV{n:Nat}{q:Root}{c:List TV}(l sl:Nat):qak (qzS n q c) l sl=if l=q.lvl/\sl=q.slot/\l<n then some (some c)else none:=by
 unfold qak qzS;simp only [List.getElem?_map];by_cases hl:l<n
 ·rw [List.getElem?_range hl];simp only [qi];by_cases h1:l=q.lvl
  ·rw [if_pos h1];simp only [qU];grind
  ·rw [if_neg h1,if_neg (λe=>h1 e.1)];rfl
 grind
theorem qqt{n:Nat}{q:Root}{c:List V}(l sl:Nat):qaq (qlL n q c) l sl=if l=q.lvl/\sl=q.slot/\l<n then some c else none:=by
 unfold qaq qlL;simp only [List.getElem?_map];by_cases hl:l<n
 ·rw [List.getElem?_range hl];simp only [qi];by_cases h1:l=q.lvl
  ·rw [if_pos h1];simp only [qw];grind
  ·rw [if_neg h1,if_neg (λe=>h1 e.1)];rfl
 grind
theorem qAk(hO:OOk P H lib O){d:Tmp}{g:FuncId}{args:List TV}{args':List V}{q:Root}{st:TSt}{s:St}{R:Type}{k:TV->TSt->Option R}{r:R}
  (ha:RVL args args') (hs:Rst st s) (h:qAj O ctx d g args q st R k=some r) :
  ∃v st' u s',k v st'=some r/\Ev (λC=>qgr C g args' q s=some (u,s')) P H lib/\RV v u/\Rst st' s'/\Fr2 st st' s s'/\st'.E=st.E/\s'.E=s.E:=by
 unfold qAj at h;split at h
 ·rename_i τ o l hb;obtain ⟨c',hc',hcr⟩:=hs.box hb;obtain ⟨mv,rfl,hmv⟩:=qds hcr;simp only [RV,RTy]at hmv;obtain ⟨hkt,rfl⟩:=hmv;have hsl:¬ q.slot<16384:=λhlt=>by
   have:=hs.M.mp q.lvl q.slot _ (by rw [<- qP];exact hc') hlt;simp [qhk]at this
  have hLR:LR (qzS (st.L.length+1) q [.t (.mset τ) o l]) (qlL (s.L.length+1) q [.mp (l.map λx=>(qcr τ x,.bool true))]):=by
   refine ⟨by simp [qzS,qlL,hs.len],λl' sl=>?_,λb hb'=>?_,λl' sl c hc hlt=>?_⟩
   ·rw [qxV,qqt,hs.len];split
    ·exact ⟨_,rfl,hcr⟩
    ·rfl
   ·grind [qlL]
   grind [qqt,absurd]
  have hdull:RVL (dullL args) (args'.map V.hand):=ha.qr5 qlG rfl;obtain ⟨x,N,wb,v,N',hkx,hr,hN,hlen,hfr,hev⟩:=hO.call _ _ _ _ _ _ _ _ _ h hdull hLR;split at hkx
  ·rename_i hc;simp only [qe,Bool.not_eq_true',List.isEmpty_iff]at hc;obtain ⟨⟨hkn,hp⟩,hown⟩:=hc;split at hkx
   ·rename_i τ' o' l' hlk;have hrel:=hN.rel q.lvl q.slot;rw [show qak N q.lvl q.slot=some (some [.t (.mset τ') o' l'])from hlk]at hrel;obtain ⟨c2,hc2,hcr2⟩:=hrel;obtain ⟨mv2,rfl,hmv2⟩:=qds hcr2;have hmv2':=hmv2;simp only [RV,RTy]at hmv2';obtain ⟨hkt2,rfl⟩:=hmv2';obtain ⟨hR,hF⟩:=qic hs hb (qv.2 ⟨hmv2,q5⟩) (λhlt=>absurd hlt hsl);have hvo:v.owns=false:=by
     grind [RV.owns]
    refine ⟨x,_,v,_,hkx,hev.imp λC hC=>?_,hr,hR,hF,(qih _ _ _).1,(qd5 _ _ _).1⟩;unfold qgr;simp only [hc',hC];rw [if_pos (by grind [RV.ptrs_eq])];rw [show qES N' q=qaq N' q.lvl q.slot from rfl,hc2]
   ·cases hkx
  ·cases hkx
 ·cases h
theorem qrK{fv:TV}{fv':V}{g:FuncId}{a b:List TV}(h:RV (.fn g a b) fv'):qtz H fv'=(H.seq g).isSome:=by
 simp only [RV]at h;obtain ⟨a',b',rfl,_⟩:=h;rfl
theorem qEl{d:Option Tmp}{fv:TV}{fv':V}{args:List TV}{args':List V}{st:TSt}{s:St}{R:Type}{k:TV->TSt->Fp->Option R}{r:R}
  (hf:RV fv fv') (ha:RVL args args') (hs:Rst st s) (h:qFY H d fv args st R k=some r) :
  ∃v st' fp u s',k v st' fp=some r/\Ev (λC=>qy3 C d fv' args' s=some (u,s',fp)) P H lib/\RV v u/\Rst st' s'/\Fr2 st st' s s'/\st'.E=st.E/\s'.E=s.E:=by
 unfold qFY at h;split at h
 ·rename_i g first cap d;simp only [RV]at hf;obtain ⟨first',cap',rfl,hf1,hc1⟩:=hf;have hall:RVL (first++args++cap) (first'++args'++cap'):=(hf1.append ha).append hc1;split at h
  ·rename_i o1 str o2 sep hl;rw [hl]at hall;simp only [RVL,RV,RTy]at hall;obtain ⟨_,_,hl',rfl,_,_,rfl,rfl,rfl⟩:=hall;split at h
   ·rename_i clos hc;split at h
    ·rename_i hn;rw [Option.isNone_iff_eq_none]at hn;have hrv:RVL [.t .str 0 str] [.val (.string ⟨str.toArray⟩)]:=qv.2 ⟨by simp only [RV,RTy],q5⟩;obtain ⟨hR,hF⟩:=qpf hs hn (RVL.rc hrv) (λ_=>rfl);refine ⟨_,_,_,.fn clos [] [.cptr .shared [.val (.string ⟨sep.toArray⟩)],.ptr ⟨s.L.length,d⟩ 0,.cptr .shared [.val (.int .i64 0)]],_,h,⟨1,λm hm=>?_⟩,?_,hR,hF,rfl,rfl⟩
     ·obtain ⟨m',rfl⟩:∃m',m=m'+1:=⟨m-1,by omega⟩
      unfold qy3;simp only [hl',qvH,hc];rw [if_pos (by grind [Option.isNone_iff_eq_none,qe3]),hs.len]
     ·simp only [RV];exact ⟨[],_,rfl,q5,qv.2 ⟨by grind [qv,q5,RV,RTy],qv.2 ⟨by simp only [RV,hs.len],qv.2 ⟨by grind [qv,q5,RV,RTy],q5⟩⟩⟩⟩
    ·cases h
   ·cases h
  ·cases h
 ·cases h
theorem qkw{fv:TV}{fv':V}{g:FuncId}{a b:List TV}(h:RV (.fn g a b) fv'):qkv H fv'=H.born g:=by
 simp only [RV]at h;obtain ⟨a',b',rfl,_⟩:=h;rfl
theorem qCS(hO:OOk P H lib O){d:Option Tmp}{fv:TV}{fv':V}{args:List TV}{args':List V}{st:TSt}{s:St}{R:Type}{k:TV->TSt->Fp->Option R}{r:R}
  (hf:RV fv fv') (ha:RVL args args') (hs:Rst st s) (h:qCR H O ctx d fv args st R k=some r) :
  qjf H fv' args'=true/\∃v st' fp u s',k v st' fp=some r/\Ev (λC=>qi8 H C d fv' args' s=some (u,s',fp)) P H lib/\RV v u/\Rst st' s'/\Fr2 st st' s s'/\st'.E=st.E/\s'.E=s.E:=by
 unfold qCR at h;split at h
 ·rename_i hbn;have hb':qkv H fv'=true:=by
   cases fv<;>first|(simp [qoq]at hbn;done)|(rw [qkw (fv:=.any []) hf];exact hbn)
  obtain ⟨v,st',fp,u,s',hk,hev,hr,hR,hF,e1,e2⟩:=qBG hO hf ha hs h;refine ⟨by simp_all [qjf],v,st',fp,u,s',hk,hev.imp λC hC=>?_,hr,hR,hF,e1,e2⟩
  simp_all [if_pos,qi8]
 rename_i hbn;split at h
 ·rename_i hsq;have hb':qkv H fv'=false:=by
   cases fv<;>first|(simp [qtA]at hsq;done)|(rw [qkw (fv:=.any []) hf];simp_all [qoq])
  have hs':qtz H fv'=true:=by
   cases fv<;>first|(simp [qtA]at hsq;done)|(rw [qrK (fv:=.any []) hf];exact hsq)
  obtain ⟨v,st',fp,u,s',hk,hev,hr,hR,hF,e1,e2⟩:=qEl (P:=P) (lib:=lib) hf ha hs h;refine ⟨by simp_all [qjf],v,st',fp,u,s',hk,hev.imp λC hC=>?_,hr,hR,hF,e1,e2⟩
  simp_all [if_neg,if_pos,qi8]
 ·rename_i hsq;split at h
  ·rename_i g first cap q hq;have hb':qkv H fv'=false:=by
    rw [qkw (fv:=.any []) hf];simp_all [qoq]
   have hs':qtz H fv'=false:=by
    rw [qrK (fv:=.any []) hf];simp_all [qtA]
   have hf':=hf;simp only [RV]at hf';obtain ⟨first',cap',rfl,hf1,hc1⟩:=hf';have hall:RVL (first++args++cap) (first'++args'++cap'):=(hf1.append ha).append hc1;have hkn:knownL (first++args++cap)=true:=by
    simp_all [qkR]
   have hq':qhO (.fn g first' cap') args'=some q:=by grind [qqD]
   obtain ⟨v,st',u,s',hk,hev,hr,hR,hF,e1,e2⟩:=qAk hO hall hs h;refine ⟨by simp_all [qjf],v,st',_,u,s',hk,hev.imp λC hC=>?_,hr,hR,hF,e1,e2⟩
   simp_all [if_neg,qi,qi8]
  ·cases h
theorem qzA{o:Oper}{xs:List TV}{ys:List V}{st:TSt}{s:St}{R:Type}{k:TV->TSt->Fp->Option R}{r:R}(hx:RVL xs ys)(hs:Rst st s)(h:qzz P H f o xs st R k=some r) :
  ∃v st' fp u s',k v st' fp=some r/\qdw P H f o ys s=some (u,s',fp)/\RV v u/\Rst st' s'/\Fr2 st st' s s'/\st'.E=st.E/\s'.E=s.E:=by
 unfold qzz at h;split at h
 ·rename_i hmo;obtain ⟨v,st',fp,u,s',hk,hm,hr,hR,hF,e1,e2⟩:=qvB hx hs h;refine ⟨v,st',fp,u,s',hk,?_,hr,hR,hF,e1,e2⟩;unfold qdw;rw [if_pos (qxY hx hmo),hm]
 rename_i hmo;have hmo':¬ qcY o.op ys=true:=λhm=>by
  obtain ⟨h1,h2⟩:=qxZ (P:=P) (H:=H) (f:=f) hx hmo hm;grind
 split at h
 ·rename_i hr;obtain ⟨z,c,u,c',hk,hsem,hrv,hbo⟩:=quJ (ty:=o.type) (bx:=none) (bx':=none) hx True.intro (by simp) h;split at hk
  ·have hc':c'=none:=hbo;subst hc';have hr':rootOf o.op ys=none:=by
    cases ho:o.op<;>try rfl
    case load t a =>
     rw [ho]at h hr
     match xs,hx,h,hr with
     |[],hx,h,hr=>simp [qcM]at h
     |[x],hx,h,hr =>
      obtain ⟨v,rfl,hv⟩:=qds hx;cases x<;>simp only [qcM]at h<;>try grind
      simp only [RV]at hv;obtain ⟨_,l',rfl,_⟩:=hv;rfl
     |x::y::xs,hx,h,hr =>
      cases x<;>simp [qcM]at h
    case store t a b =>
     rw [ho]at h hr
     match xs,hx,h,hr with
     |[],hx,h,hr=>simp [qcM]at h
     |[x],hx,h,hr=>cases x<;>simp [qcM]at h
     |[x,y],hx,h,hr =>
      cases x<;>simp only [qcM]at h<;>try grind
     |x::y::z::xs,hx,h,hr=>cases x<;>simp [qcM]at h
   refine ⟨z,st,.none,u,s,hk,?_,hrv,hs,Fr2.refl _ _,rfl,rfl⟩
   simp_all [if_neg,qdw]
  grind
 ·rename_i q hr;split at h
  ·cases h
  rename_i hslot;have hslot:q.slot<16384:=Nat.lt_of_not_le hslot;have hmpq:∀c,s.box q=some c->qhk c=false:=λc hc=>hs.M.mp q.lvl q.slot c (by grind [qP]) hslot;obtain ⟨z,c,u,c',hk,hsem,hrv,hbo⟩:=quJ (ty:=o.type) hx (hs.bx q) hmpq h;have hshape:rootOf o.op ys=some q/\q7 P o.op ys=qb0 P o.op xs/\(∀p∈qnq o.op ys,p∈qxC o.op xs)/\(∀d,c=some d->∃c0,st.box q=some c0):=by
   cases ho:o.op<;>rw [ho]at hr<;>try grind [qma]
   case load t a =>
    rw [ho]at h
    match xs,hx,h,hr with
    |[],hx,h,hr=>simp [qcM]at h
    |[x],hx,h,hr =>
     obtain ⟨v,rfl,hv⟩:=qds hx;cases x<;>simp only [qma]at hr<;>try grind
     cases hr;simp only [RV]at hv;subst hv;refine ⟨rfl,rfl,λp hp=>by simp [qnq]at hp,λd _=>?_⟩;simp only [qcM]at h;grind
    |x::y::xs,hx,h,hr=>cases x<;>simp [qcM]at h
   case store t a b =>
    rw [ho]at h
    match xs,hx,h,hr with
    |[],hx,h,hr=>simp [qcM]at h
    |[x],hx,h,hr=>cases x<;>simp [qcM]at h
    |[x,y],hx,h,hr =>
     cases x<;>simp only [qma]at hr<;>try grind
     cases hr;simp only [RVL]at hx;obtain ⟨v,m,rfl,hv,v2,m2,rfl,hv2,rfl⟩:=hx;simp only [RV]at hv;subst hv;simp only [qcM]at h;split at h
     ·rename_i cs hcs;split at h
      ·rename_i hcond;obtain ⟨hcells,_⟩:=RV.cells hcond.2.2.2 hv2;refine ⟨rfl,?_,λp hp=>?_,λd _=>⟨cs,hcs⟩⟩
       ·simp only [q7,qb0,hcells.length]
       grind [RV.qq,qnq,qxC]
      ·cases h
     ·cases h
    |x::y::z::xs,hx,h,hr=>cases x<;>simp [qcM]at h
  obtain ⟨hroot,hrange,hwp,hbx⟩:=hshape;split at hk
  ·have hc':c'=none:=hbo;subst hc';refine ⟨z,st,_,u,s,hk,?_,hrv,hs,Fr2.refl _ _,rfl,rfl⟩
   simp_all [if_neg,qdw]
  ·rename_i d;obtain ⟨d',rfl,hd⟩:=hbo;split at hk
   ·rename_i hcond;obtain ⟨c0,hc0⟩:=hbx d rfl;obtain ⟨hR,hF⟩:=qic hs hc0 hd (λ_=>qCq hroot hmpq hsem);refine ⟨z,_,_,u,s.qp q d',hk,?_,hrv,hR,hF,(qih st q d).1,(qd5 s q d').1⟩;unfold qdw;rw [if_neg hmo',hroot];simp only [hsem,hrange];rw [if_pos];simp only [qe,List.all_eq_true,decide_eq_true_eq]at hcond ⊢;exact ⟨λp hp=>hcond.1 p (hwp p hp),by rw [hd.length];omega⟩
   ·cases hk
end
end Go.Tx
end
