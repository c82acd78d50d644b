/-
  ONE LAW OF A CHAPTER: its program side is run by an interpreter that is proved sound; what it computes is shown to be what the law says. No conditions. Part 5 of 8.
-/
import Derived.Test.YtkcaaaiihhhnmaaGreatDoorMTGd
import Derived.Deep.Slices
import Derived.Carry
import Derived.ChangeBears2
import Derived.ChangeSame
import Derived.JoinedCond
import Derived.OpenShut
import Derived.ProofKit
import Derived.Test.YtkcaaaiihhhnmaaGreatDoorProg
import Derived.Shelf.Slices.Reverse
import Derived.Shelf.Sort.Plain
import Derived.Shelf.Slices.In.SortNone
import Derived.KernelRfl
import Derived.Shelf.Strconv.Itoa3
import Derived.Shelf.Strconv.AtoiAll
import Derived.Shelf.Strings.OnBuilder
import Derived.Shelf.Strings.Prefix
import Derived.Shelf.Strings.Search3
import Derived.Shelf.Strings.Cut
import Derived.Shelf.Spec.TrailingZeros
import Derived.WalkKit
import Derived.BigCall
import Derived.BigGuard
set_option linter.unusedSimpArgs false
set_option linter.unusedVariables false
set_option linter.unnecessarySimpa false
section
namespace Go.Tx
open Go Go.Ab
section
variable {P:Program} {H:Hints} {J:TH} {T:qsl} {O:TOrc} {lib:FuncId->Option (List V->Option V)} {f:FuncId} {ctx:List Tmp}
def Ev(p:Orc->Prop)(P:Program)(H:Hints)(lib:FuncId->Option (List V->Option V)):Prop:=∃n,∀m,n<=m->p (qsh P H lib m)
theorem Ev.and{p q:Orc->Prop}(h:Ev p P H lib)(h':Ev q P H lib):Ev (λC=>p C/\q C) P H lib:=by
 obtain ⟨n,h⟩:=h;obtain ⟨n',h'⟩:=h';exact ⟨max n n',λm hm=>⟨h m (by omega),h' m (by omega)⟩⟩
theorem Ev.imp{p q:Orc->Prop}(h:Ev p P H lib)(hi:∀C,p C->q C):Ev q P H lib:=by
 obtain ⟨n,h⟩:=h;exact ⟨n,λm hm=>hi _ (h m hm)⟩
theorem Ev.qi6:Ev (λC=>C.qi6=H.qi6) P H lib:=⟨1,λm hm=>by
 cases m with
 |zero=>omega
 |succ m=>rfl⟩
theorem Ev.of{p:Orc->Prop}(h:∀C,p C):Ev p P H lib:=⟨0,λm _=>h _⟩
def qBn(P:Program)(H:Hints)(lib:FuncId->Option (List V->Option V))(f:FuncId)(bid:Nat)(c:Code)(s:St)(e:Ex)(s':St):Prop:=Ev (λC=>ex P H C f bid c s=some (e,s')) P H lib
def qvU(P:Program)(H:Hints)(lib:FuncId->Option (List V->Option V))(g:FuncId)(args:List V)(M:List Level)(r:V)(M':List Level):Prop:=Ev (λC=>C.call g args M=some (r,M')) P H lib
def Snd(run:TSt->(R:Type)->(Ex->TSt->Option R)->Option R)(rel:St->Ex->St->Prop):Prop :=
 ∀(st:TSt) (R:Type) (k:Ex->TSt->Option R) (r:R) (s:St),run st R k=some r->Rst st s->∃e st' s',rel s e s'/\Rst st' s'/\Fr2 st st' s s'/\k e st'=some r
theorem qr2(st:TSt)(p:Place)(v:TV):(st.qbK p v).Wt=st.Wt/\(st.qbK p v).Wb=st.Wb:=by
 unfold TSt.qbK;cases p.lvl with
 |none=>exact ⟨rfl,rfl⟩
 |some l =>
  simp only
  cases st.box ⟨l,p.slot⟩with
  |none=>exact ⟨rfl,rfl⟩
  |some cs=>exact ⟨by simp only [TSt.qq];split<;>rfl,rfl⟩
theorem qi9:∀(ps:List Place) (vs:List TV) (st:TSt),(qcB st ps vs).Wt=st.Wt/\(qcB st ps vs).Wb=st.Wb
 |[],vs,st=>by cases vs<;>exact ⟨rfl,rfl⟩
 |p::ps,[],st=>⟨rfl,rfl⟩
 |p::ps,v::vs,st=>by
  have h1:=qi9 ps vs (st.qbK p v);have h2:=qr2 st p v;exact ⟨h1.1.trans h2.1,h1.2.trans h2.2⟩
theorem qh9(st:TSt)(r:Root)(c:List TV)(q:Root)(h:(st.cont q).isSome=true):((st.qq r c).cont q).isSome=true:=by
 obtain ⟨l,s⟩:=r;obtain ⟨l',s'⟩:=q;have key:∀b:qK,(match qU b s' with|some (some c)=>some c|_=>none:Option (List TV)).isSome=true->(match qU (qwT b s (some c)) s' with|some (some c)=>some c|_=>none:Option (List TV)).isSome=true:=λb hb=>by
  rw [qiq];by_cases e:s'=s
  ·rw [if_pos e];subst e;cases hl:qU b s' with
   |none=>rw [hl]at hb;cases hb
   |some o=>rfl
  ·rw [if_neg e];exact hb
 unfold TSt.qq TSt.cont at *;simp only at h ⊢;by_cases h1:l=st.L.length
 ·rw [if_pos h1];simp only
  by_cases h2:l'=st.L.length
  ·rw [if_pos h2]at h ⊢;exact key _ h
  ·rw [if_neg h2]at h ⊢;exact h
 ·rw [if_neg h1];simp only [List.length_modify];by_cases h2:l'=st.L.length
  ·rw [if_pos h2]at h ⊢;exact h
  ·rw [if_neg h2]at h ⊢;rw [List.getElem?_modify];cases hb:st.L[l']? with
   |none=>rw [hb]at h;cases h
   |some b =>
    rw [hb]at h;simp only [Option.map_eq_map,qi];by_cases e:l=l'
    ·rw [if_pos e];exact key _ h
    ·rw [if_neg e];exact h
theorem qpe:∀(ps:List Place) (vs:List TV) (st:TSt) (t:Nat),(qcB st ps vs).E.toL[t]?=st.E.toL[t]?\/∃v∈vs,(qcB st ps vs).E.toL[t]?=some v
 |[],vs,st,t=>by cases vs<;>exact .inl rfl
 |p::ps,[],st,t=>.inl rfl
 |p::ps,v::vs,st,t=>by
  rcases qpe ps vs (st.qbK p v) t with h|⟨u,hu,h⟩
  ·show (qcB (st.qbK p v) ps vs).E.toL[t]?=_\/∃u∈v::vs,(qcB (st.qbK p v) ps vs).E.toL[t]?=some u;rw [h];unfold TSt.qbK;cases p.lvl with
   |none =>
    simp only [qdR,List.getElem?_set];split
    ·split
     ·exact .inr ⟨v,by simp,rfl⟩
     ·rename_i h1 h2;left;rw [List.getElem?_eq_none (by omega)]
    ·exact .inl rfl
   |some l =>
    simp only
    cases st.box ⟨l,p.slot⟩with
    |none=>exact .inl rfl
    |some cs=>left;simp only [TSt.qq];split<;>rfl
  ·exact .inr ⟨u,by simp [hu],h⟩
theorem qt2(st:TSt)(p:Place)(v:TV)(r:Root)(h:(st.cont r).isSome=true):((st.qbK p v).cont r).isSome=true:=by
 unfold TSt.qbK;cases p.lvl with
 |none=>exact h
 |some l =>
  simp only
  cases hb:st.box ⟨l,p.slot⟩with
  |none=>exact h
  |some cs =>
   simp only
   have hbx:({st.qq ⟨l,p.slot⟩ (cs.set p.cell v)with Wb:=st.Wb}:TSt).cont r=(st.qq ⟨l,p.slot⟩ (cs.set p.cell v)).cont r:=rfl;rw [hbx];exact qh9 st ⟨l,p.slot⟩ _ r h
theorem qkR:∀(ps:List Place) (vs:List TV) (st:TSt) (r:Root),(st.cont r).isSome=true->((qcB st ps vs).cont r).isSome=true
 |[],vs,st,r,h=>by cases vs<;>exact h
 |p::ps,[],st,r,h=>h
 |p::ps,v::vs,st,r,h=>qkR ps vs _ r (qt2 st p v r h)
theorem qwF(τ:Ty)(o:Nat)(x:τ.den):∀rs,ofTy τ o x≠.any rs:=λrs=>by cases τ<;>simp [ofTy]
theorem qAc:∀(ps:List (Ty×Nat)) (x:denL (ps.map (·.1))),∀v∈ofL ps x,∀rs,v≠.any rs
 |[],x,v,hv=>by simp [ofL]at hv
 |[(τ,o)],x,v,hv=>by simp only [ofL,List.mem_singleton]at hv;subst hv;exact qwF τ o x
 |(τ,o)::q::ps,x,v,hv=>by
  simp only [ofL,qk]at hv;rcases hv with rfl|hv
  ·exact qwF τ o x.1
  ·exact qAc (q::ps) x.2 v hv
theorem qvo{st st2:TSt}{s s':St}{j:Join}{x:denL (j.ps.map (·.1))}(h2:Rst st2 s')(hf:Fr2 st.fresh st2 s s')(ho:st2.outs st j=some x):Fr2 st (st.qd0 j (ofL j.ps x)) s s':=by
 generalize hvs:ofL j.ps x=vs;have hany:∀v∈vs,∀rs,v≠.any rs:=by rw [<- hvs];exact qAc j.ps x
 unfold TSt.outs at ho;split at ho
 ·rename_i hc;simp only [qe]at hc;obtain ⟨⟨_,hwr⟩,_⟩:=hc;unfold TSt.wrote at hwr;simp only [qe,List.all_eq_true]at hwr;obtain ⟨hwt0,hwb⟩:=hwr;have hwt:∀t∈st2.Wt,t∈j.D:=λt ht=>Mask.qAW hwt0 ht;have hl:=qi9 j.lv vs {j.wr.foldl (λ(st:TSt) r=>st.forget j.rb r) {st with E:=qdJ j.D j.qAE st.E}with Wt:=j.D++st.Wt,Wb:=j.wr++st.Wb};have e1:(st.qd0 j vs).Wt=j.D++st.Wt:=hl.1;have e2:(st.qd0 j vs).Wb=j.wr++st.Wb:=hl.2;refine ⟨λt ht=>by rw [e1];simp [ht],λr hr=>by rw [e2];simp [hr],λt ht=>?_,λt ht rs hE=>?_,λr hr=>?_,λr hr hsm=>?_,hf.len,hf.elen⟩
  ·rw [e1]at ht;exact hf.e t λhh=>ht (by simp [hwt t hh])
  ·rw [e1]at ht;simp only [Mask.mem_append,not_or]at ht;unfold TSt.qd0 at hE;rcases qpe j.lv vs _ t with h3|⟨v,hv,h3⟩
   ·rw [h3]at hE;have h4:(j.wr.foldl (λ(st:TSt) r=>st.forget j.rb r) {st with E:=qdJ j.D j.qAE st.E}).E.toL[t]?=some (.any rs):=hE;rw [qn2]at h4;simp only at h4;rw [qjh,if_neg ht.1]at h4;exact ⟨rs,h4⟩
   ·rw [h3]at hE;exact absurd (Option.some.inj hE) (hany v hv rs)
  ·rw [e2]at hr;by_cases hm:r∈st2.Wb
   ·have:=hwb r hm;simp only [Bool.or_eq_true,decide_eq_true_eq]at this;rcases this with h3|h3
    ·exact absurd (by simp at h3;simp [h3]) hr
    ·rw [qH,qH];unfold qar;have h4:=h2.len;have h5:=hf.len;rw [List.getElem?_eq_none (by simp [qcJ];omega),List.getElem?_eq_none (by simp [qcJ];omega)];exact .inl rfl
   ·exact hf.b r hm
  ·rw [e2]at hr;simp only [qj,not_or]at hr;unfold TSt.qd0;refine qkR j.lv vs _ r ?_;obtain ⟨c,hc⟩:=Option.isSome_iff_exists.1 hsm;have hlk:=qee hc;have h3:qan (j.wr.foldl (λ(st:TSt) r=>st.forget j.rb r) {st with E:=qdJ j.D j.qAE st.E}).all r.lvl r.slot=some (some c):=by
    rw [qgT,if_neg (λhh=>hr.1 hh.1)];exact hlk
   have h4:({j.wr.foldl (λ(st:TSt) r=>st.forget j.rb r) {st with E:=qdJ j.D j.qAE st.E}with Wt:=j.D++st.Wt,Wb:=j.wr++st.Wb}:TSt).cont r=some c:=by
    rw [qaR];show (match qan (j.wr.foldl (λ(st:TSt) r=>st.forget j.rb r) {st with E:=qdJ j.D j.qAE st.E}).all r.lvl r.slot with
     |some (some c)=>some c
     |_=>none)=some c
    rw [h3]
   rw [h4];rfl
 ·cases ho
theorem qiw{st st2:TSt}{s s':St}{j:Join}{x:denL (j.ps.map (·.1))}(h2:Rst st2 s')(hf:Fr2 st.fresh st2 s s')(ho:st2.outs st j=some x):Fr2 st (st.qbG j (ofL j.ps x)) s s':=by
 have h:=qvo h2 hf ho;have hl:=qqs j.kp (st.qd0 j (ofL j.ps x));have hc:∀r,(st.qbG j (ofL j.ps x)).cont r=(st.qd0 j (ofL j.ps x)).cont r:=λr=>by
  unfold TSt.cont TSt.qbG;rw [hl.2.2.1,hl.2.2.2]
 refine ⟨λt ht=>?_,λr hr=>?_,λt ht=>?_,λt ht rs hE=>?_,λr hr=>?_,λr hr hs=>?_,h.len,h.elen⟩
 ·unfold TSt.qbG;rw [hl.1];exact h.wt t ht
 ·unfold TSt.qbG;rw [hl.2.1];exact h.wb r hr
 ·unfold TSt.qbG at ht;rw [hl.1]at ht;exact h.e t ht
 ·unfold TSt.qbG at ht hE;rw [hl.1]at ht;exact h.an t ht rs (qAo _ _ _ _ hE)
 ·unfold TSt.qbG at hr;rw [hl.2.1]at hr;exact h.b r hr
 ·rw [hc];unfold TSt.qbG at hr;rw [hl.2.1]at hr;exact h.bn r hr hs
theorem qwC{st st2:TSt}{s s':St}(hf:Fr2 st.fresh st2 s s'):Fr2 st (st2.merge st) s s' :=
 ⟨λt ht=>by simp [TSt.merge,ht],λr hr=>by simp [TSt.merge,hr],λt ht=>hf.e t λhh=>ht (by simp [TSt.merge,hh]),λt ht rs hE=>hf.an t (λhh=>ht (by simp [TSt.merge,hh])) rs hE,λr hr=>hf.b r λhh=>hr (by simp [TSt.merge,hh]),λr hr hsm=>hf.bn r (λhh=>hr (by simp [TSt.merge,hh])) hsm,hf.len,hf.elen⟩
theorem Rst.fresh{st:TSt}{s:St}(h:Rst st s):Rst st.fresh s:=⟨h.E,h.M⟩
theorem Rst.merge{st st0:TSt}{s:St}(h:Rst st s):Rst (st.merge st0) s:=⟨h.E,h.M⟩
theorem qnu{run:TSt->(R:Type)->(Ex->TSt->Option R)->Option R}{rel:St->Ex->St->Prop}(h:Snd run rel)(j:Option Join):Snd (λst R k=>qxL j st run R k) rel:=by
 intro st R k r s hr hs;simp only [qxL]at hr;cases j with
 |none=>exact h st R k r s hr hs
 |some j =>
  simp only at hr;split at hr
  ·obtain ⟨x,hx,hk⟩:=qd.1 hr;obtain ⟨e,st2,s',hrel,hR,hF,hkk⟩:=h _ _ _ _ s hx hs.fresh;have habn:∀e,(k e (st2.merge st)).map Sum.inr=some x->rel s e s'->∃e st' s',rel s e s'/\Rst st' s'/\Fr2 st st' s s'/\k e st'=some r:=λe hkk hrel=>by
    obtain ⟨y,hy,rfl⟩:=qc.1 hkk;simp only [Sum.elim_inr,qb]at hk;subst hk;exact ⟨e,_,s',hrel,hR.merge,qwC hF,hy⟩
   cases e with
   |normal =>
    obtain ⟨y,hy,rfl⟩:=qc.1 hkk;simp only [Sum.elim_inl]at hk;exact ⟨.normal,_,s',hrel,qix hs hR hF hy,qiw hR hF hy,hk⟩
   |exit id=>exact habn _ hkk hrel
   |ret=>exact habn _ hkk hrel
  ·obtain ⟨x,hx,hk⟩:=qd.1 hr;obtain ⟨e,st2,s',hrel,hR,hF,hkk⟩:=h _ _ _ _ s hx hs.fresh;cases e with
   |normal=>exact ⟨.normal,_,s',hrel,qix hs hR hF hkk,qiw hR hF hkk,hk⟩
   |exit id=>cases hkk
   |ret=>cases hkk
def TOk(P:Program)(H:Hints)(lib:FuncId->Option (List V->Option V))(T:qsl):Prop :=
 ∀g args (R:Type) (k:TV->Option R) r vs,T g args R k=some r->RVL args vs->∃x v,k x=some r/\RV x v/\qvU P H lib g vs [] v []
structure OOk (P:Program) (H:Hints) (lib:FuncId->Option (List V->Option V)) (O:TOrc):Prop where
 call:∀ctx g args M (R:Type) (k:TV->List qK->List Root->Option R) r vs M',O.call ctx g args M R k=some r->RVL args vs->LR M M' ->
  ∃x N wb v N',k x N wb=some r/\RV x v/\LR N N'/\N.length=M.length/\(∀l sl,(⟨l,sl⟩:Root)∉wb->qar N' l sl=qar M' l sl/\∀c,qan M l sl=some (some c)->∃c',qan N l sl=some (some c'))/\qvU P H lib g vs M' v N'
 code:∀ctx f bid c,Snd (λst R k=>O.code ctx f bid c st R k) λs e s'=>Ev (λC=>C.code f bid c s=some (e,s')) P H lib
 born:∀ctx g args (R:Type) (k:TV->TV->Option R) r vs,O.born ctx g args R k=some r->RVL args vs ->
  ∃x τ o l v sl,k x (.t (.mset τ) o l)=some r/\qfW τ=true/\RV x v/\x.onlyMaps=true/\Ev (λC=>C.born g vs=some (v,sl,kvs τ l)) P H lib
theorem qlh(f:Fl):qhk f≠.own:=by cases f<;>simp [qhk]
theorem qsO(f:Fl):qil f=.own↔f=.own:=by cases f<;>simp [qil]
theorem qsP(f:Fl):qim f=.own↔f=.own:=by cases f<;>simp [qim]
theorem qgP:∀{M:List qK} {L:List qK} {B:qK},qeW M=some (L,B)->M=L++[B]
 |[],_,_,h=>by cases h
 |[b],_,_,h=>by simp only [qeW,qb,Prod.mk.injEq]at h;simp [<- h.1,<- h.2]
 |b::c::l,L,B,h=>by
  simp only [qeW]at h;obtain ⟨⟨x,y⟩,hxy,h2⟩:=qc.1 h;simp only [Prod.mk.injEq]at h2;obtain ⟨rfl,rfl⟩:=h2;simp [qgP hxy]
theorem qgQ:∀(L:List Level) (B:Level),qc7 (L++[B])=some (L,B)
 |[],B=>rfl
 |[a],B=>rfl
 |a::b::L,B=>by
  have:=qgQ (b::L) B;simp only [List.cons_append]at this ⊢;simp only [qc7,this,qi]
theorem ql6{α:Type}:∀{M:List α} {n:Nat},M.length=n+1->∃L B,M=L++[B]
 |[],n,h=>by simp at h
 |[b],n,h=>⟨[],b,rfl⟩
 |b::c::l,n,h=>by
  obtain ⟨L,B,e⟩:=ql6 (M:=c::l) (n:=l.length) (by simp);exact ⟨b::L,B,by rw [e];rfl⟩
theorem LR.init{M:List qK}{M':List Level}(h:LR M M'):LR (M++[[]]) (M'++[[]]) where
 len:=by simp [h.len]
 rel:=λl s=>by
  have key:=h.rel l s;unfold qan qar at key ⊢;have hl:=h.len;by_cases e:l<M.length
  ·rw [qg e,qg (by omega)];exact key
  ·rw [List.getElem?_append_right (by omega),List.getElem?_append_right (by omega),hl];cases l-M.length with
   |zero=>simp [qU,qy,RB]
   |succ n=>simp [RB]
 nd:=λb hb=>by
  simp only [qj,List.mem_singleton]at hb;rcases hb with hb|rfl
  ·exact h.nd b hb
  ·simp
 mp:=λl s c hc hlt=>by
  have key:=h.mp l s c;unfold qar at key hc;by_cases e:l<M'.length
  ·rw [qg e]at hc;exact key hc hlt
  ·rw [List.getElem?_append_right (by omega)]at hc;cases hm:l-M'.length with
   |zero=>rw [hm]at hc;simp [qy]at hc
   |succ n=>rw [hm]at hc;simp at hc
theorem LR.front{M:List qK}{M':List Level}{b:qK}{b':Level}(h:LR (M++[b]) (M'++[b'])):LR M M' where
 len:=by have:=h.len;simp at this;exact this
 rel:=λl s=>by
  have hl:M'.length=M.length:=by have:=h.len;simp at this;exact this
  have key:=h.rel l s;unfold qan qar at key ⊢;by_cases e:l<M.length
  ·rw [qg e,qg (by omega)]at key;exact key
  ·rw [List.getElem?_eq_none (by omega),List.getElem?_eq_none (by omega)];rfl
 nd:=λc hc=>h.nd c (by simp [hc])
 mp:=λl s c hc hlt=>by
  have key:=h.mp l s c;unfold qar at key hc;by_cases e:l<M'.length
  ·rw [qg e]at key;exact key hc hlt
  ·rw [List.getElem?_eq_none (by omega)]at hc;cases hc
theorem qyh(st:TSt)(r:Root)(v:TV):(st.qqF r v).all=st.all.modify r.lvl (λb=>qwT b r.slot (some [v])):=qjQ st r [v]
theorem qt3{st:TSt}{s:St}(hs:Rst st s){r:Root}{c0:List TV}(hb:st.cont r=some c0){x:LoopState}{pe:Option Code}{g:FuncId}{env:List TV}{env':List V}{ps:List Tmp}{a b:Code}(he:RVL env env') :
  Rst (st.qqF r (.lp x pe g env ps a b)) (s.qq r [.lp x pe g env' ps a b]):=by
 have e1:(st.qqF r (.lp x pe g env ps a b)).E=st.E:=(show (st.qq r [_]).E=st.E by unfold TSt.qq;split<;>rfl)
 have e2:(s.qq r [.lp x pe g env' ps a b]).E=s.E:=by unfold St.qq;split<;>rfl
 refine ⟨by rw [e1,e2];exact hs.E,?_⟩;rw [qyh,qqE];exact LR.qq hs.M _ _ (by rw [qee hb];simp) ⟨env',rfl,he⟩ (λ_=>rfl)
theorem qpf(st:TSt)(r:Root)(v:TV)(q:Root)(h:(st.cont q).isSome=true):((st.qqF r v).cont q).isSome=true:=qh9 st r [v] q h
theorem qrR{st:TSt}{s:St}(hs:Rst st s){r:Root}{x:LoopState}{pe:Option Code}{g:FuncId}{env:List TV}{ps:List Tmp}{a b:Code}(h:st.cont r=some [.lp x pe g env ps a b]) :
  ∃env',s.box r=some [.lp x pe g env' ps a b]/\RVL env env':=by
 have:=hs.M.rel r.lvl r.slot;rw [qee h]at this;obtain ⟨c',h1,env',rfl,h2⟩:=this;exact ⟨env',by rw [qH];exact h1,h2⟩
theorem qqV:∀{E:Env} {E':List V} {ps:List Tmp} {asz:List TV} {vs:List V},RVL E.toL E'->RVL asz vs->RVL (qjT E ps asz).toL (qeJ E' ps vs)
 |E,E',[],asz,vs,hE,ha=>by
  cases asz with
  |nil=>simp only [RVL]at ha;subst ha;exact hE
  |cons a asz=>simp only [RVL]at ha;obtain ⟨v,m,rfl,_⟩:=ha;exact hE
 |E,E',t::ps,[],vs,hE,ha=>by simp only [RVL]at ha;subst ha;exact hE
 |E,E',t::ps,a::asz,vs,hE,ha=>by
  simp only [RVL]at ha;obtain ⟨v,m,rfl,h1,h2⟩:=ha;simp only [qjT,qeJ];exact qqV (by rw [qdR];exact RVL.set _ hE h1) h2
theorem qDO{E:List V}{L:List Level}{B:Level}{q:Root}(h:q.lvl<L.length):({E,L,B}:St).box q=qar L q.lvl q.slot:=by
 rw [qH];unfold qar qcJ;simp only
 rw [qg h]
theorem qAD(hO:OOk P H lib O){d:Tmp}{r:Root}{args:List TV}{args':List V}{st:TSt}{s:St}{R:Type}{k:TV->TSt->Option R}{res:R}
  (ha:RVL args args') (hs:Rst st s) (h:qAC O ctx d r args st R k=some res) :
  ∃v st' u s',k v st'=some res/\Ev (λC=>qk0 C r args' s=some (u,s')) P H lib/\RV v u/\Rst st' s'/\Fr2 st st' s s'/\st'.E=st.E/\s'.E=s.E:=by
 unfold qAC at h;split at h
 ·rename_i g env ps asz bo hc1;obtain ⟨env',hb1,hre⟩:=qrR hs hc1;split at h
  ·cases h
  ·rename_i hlen;have hlen':¬ args'.length≠ps.length:=by rw [ha.length];exact hlen
   have hE0:RVL (qjT (Env.qhq env env.length) ps (dullL args)).toL (qeJ env' ps (args'.map V.hand)):=by
    refine qqV ?_ (ha.qrB qlh rfl);rw [qme];simpa using hre
   have h0:Rst {E:=qjT (Env.qhq env env.length) ps (dullL args),L:=st.L++[st.B],B:=[],Wt:=.empty,Wb:=[]} {E:=qeJ env' ps (args'.map V.hand),L:=s.L++[s.B],B:=[]}:=⟨hE0,hs.M.init⟩
   obtain ⟨e1,t2,s2,hev1,hR2,hF2,h⟩:=hO.code _ _ _ _ _ _ _ _ _ h h0;cases e1 with
   |exit id=>cases h
   |ret=>cases h
   |normal =>
    simp only at h;split at h
    ·rename_i g2 env2 ps2 as2 bo2 hc2;obtain ⟨env2',hb2,hre2⟩:=qrR hR2 hc2;have hset:=qt3 hR2 hc2 (x:=.busy) (pe:=none) (g:=g2) (ps:=ps2) (a:=as2) (b:=bo2) hre2;obtain ⟨e3,t3,s3,hev2,hR3,hF3,h⟩:=hO.code _ _ _ _ _ _ _ _ _ h hset;split at h
     ·rename_i x9 pe9 g3 env3 ps3 as3 bo3 hc3;obtain ⟨env3',hb3,hre3⟩:=qrR hR3 hc3;have hset3:=qt3 hR3 hc3 (x:=if e3.code.isNone then .ready else .done) (pe:=e3.code) (g:=g3) (ps:=ps3) (a:=as3) (b:=bo3) hre3;split at h
      ·rename_i L B hsp;have hL3:=qgP hsp;split at h
       ·rename_i hL;have hlen0:=hs.len;have hlA:(s3.qq r [.lp (if e3.code.isNone then .ready else .done) e3.code g3 env3' ps3 as3 bo3]).L.length=L.length+1:=by
         have:=hset3.len;rw [hL3]at this;rw [this];simp
        obtain ⟨L',B',hL3'⟩:=ql6 hlA;have hL':L'.length=s.L.length:=by rw [hL3']at hlA;simp at hlA;omega
        have hs3L:s3.L.length=s.L.length+1:=by
         have:=hF3.len;have:=hF2.len;have e9:(s2.qq r [.lp .busy none g2 env2' ps2 as2 bo2]).L.length=s2.L.length:=by unfold St.qq;split<;>simp
         simp only [List.length_append,List.length_singleton]at *;omega
        have ht2:∀q,q∉t3.Wb->q∉t2.Wb:=λq hq hh=>hq (hF3.wb q hh);have hbig:s2.L.length=s.L.length+1:=by have:=hF2.len;simpa using this
        have same2:∀q,q∉t3.Wb->s2.box q=({E:=qeJ env' ps (args'.map V.hand),L:=s.L++[s.B],B:=[]}:St).box q:=λq hq=>by
         rcases hF2.b q (ht2 q hq)with h9|⟨h9,_⟩
         ·exact h9
         ·simp at h9
        have same3:∀q,q∉t3.Wb->s3.box q=(s2.qq r [.lp .busy none g2 env2' ps2 as2 bo2]).box q:=λq hq=>by
         rcases hF3.b q hq with h9|⟨h9,_⟩
         ·exact h9
         ·have e9:(s2.qq r [.lp .busy none g2 env2' ps2 as2 bo2]).L.length=s2.L.length:=by unfold St.qq;split<;>simp
          omega
        have low:∀q:Root,q.lvl<=s.L.length->({E:=qeJ env' ps (args'.map V.hand),L:=s.L++[s.B],B:=[]}:St).box q=s.box q:=λq hq=>by
         rw [qDO (by simp;omega),qH];rfl
        have hfin:∀q:Root,q.lvl<=s.L.length->({s with L:=L',B:=B'}:St).box q=(s3.qq r [.lp (if e3.code.isNone then .ready else .done) e3.code g3 env3' ps3 as3 bo3]).box q:=λq hq=>by
         rw [qH,qH];unfold qar qcJ;simp only
         rw [hL3',qg (l₁:=L'++[B']) (by simp;omega)]
        refine ⟨_,_,.val (.bool e3.code.isNone),{s with L:=L',B:=B'},h,((hev1.and hev2)).imp λC ⟨hC1,hC2⟩=>?_,by simp [RV,RTy],⟨hs.E,?_⟩,⟨λt ht=>ht,λq hq=>by simp [hq],λt ht=>.inl rfl,λt ht rs hE=>⟨rs,hE⟩,λq hq=>.inl ?_,λq hq hsm=>?_,hL',rfl⟩,rfl,rfl⟩
        ·unfold qk0;rw [hb1];simp only
         rw [if_neg hlen',hC1];simp only
         rw [hb2];simp only
         rw [hC2];simp only
         rw [hb3];simp only
         rw [hL3',qgQ];simp only [hL',if_true]
        ·have h9:=LR.front hset3.M;rw [hL3,hL3']at h9;exact h9
        ·simp only [qj,not_or]at hq;obtain ⟨hq0,hq3,_⟩:=hq;by_cases hlv:q.lvl<=s.L.length
         ·rw [hfin q hlv,qV];by_cases e:q=r
          ·subst e;rw [if_pos rfl,hb3];have hx:e3.code.isNone=true:=by
            cases hx:e3.code.isNone with
            |true=>rfl
            |false=>rw [hx]at hq0;simp at hq0
           have k2:=same2 q hq3;rw [low q hlv,hb1,hb2]at k2;have k3:=same3 q hq3;rw [qV,if_pos rfl,hb2,hb3]at k3;simp only [qi,qb,List.cons.injEq,V.lp.injEq,and_true,true_and]at k2 k3;obtain ⟨a1,a2,a3,a4,a5⟩:=k2;obtain ⟨_,_,b1,b2,b3,b4,b5⟩:=k3;subst a1 a2 a3 a4 a5 b1 b2 b3 b4 b5;rw [hx,hb1];simp only [qi,if_true,Option.isNone_iff_eq_none.1 hx]
          ·rw [if_neg e,same3 q hq3,qV,if_neg e,same2 q hq3,low q hlv]
         ·rw [qH,qH];unfold qar qcJ;simp only
          rw [List.getElem?_eq_none (by simp;omega),List.getElem?_eq_none (by simp;omega)]
        ·simp only [qj,not_or]at hq;obtain ⟨hq0,hq3,_⟩:=hq;have hlv:q.lvl<(st.L++[st.B]).length:=by
          obtain ⟨c,hc⟩:=Option.isSome_iff_exists.1 hsm;have:=qee hc;unfold qan TSt.all at this;cases hM0:(st.L++[st.B])[q.lvl]? with
          |none=>rw [hM0]at this;cases this
          |some b=>exact (qm.1 hM0).1
         have i0:(({E:=qjT (Env.qhq env env.length) ps (dullL args),L:=st.L++[st.B],B:=[],Wt:=.empty,Wb:=[]}:TSt).cont q).isSome=true:=by
          rw [qaR]at hsm ⊢;unfold qan TSt.all at hsm ⊢;simp only at hsm ⊢;rw [qg hlv];exact hsm
         have i1:=hF2.bn q (ht2 q hq3) i0;have i2:=qpf t2 r (.lp .busy none g2 env2 ps2 as2 bo2) q i1;have i3:=hF3.bn q hq3 i2;have i4:=qpf t3 r (.lp (if e3.code.isNone then .ready else .done) e3.code g3 env3 ps3 as3 bo3) q i3;rw [qaR]at i4 ⊢;unfold qan TSt.all at i4 ⊢;rw [hL3,qg (l₁:=L++[B]) (by simp at hlv ⊢;omega)]at i4;exact i4
       ·cases h
      ·cases h
     ·cases h
    ·cases h
 ·cases h
theorem qsB(hT:TOk P H lib T)(hO:OOk P H lib O){d:Tmp}{fv:TV}{fv':V}{args:List TV}{args':List V}{st:TSt}{s:St}{R:Type}{k:TV->TSt->Option R}{r:R}
  (hf:RV fv fv') (ha:RVL args args') (hs:Rst st s) (h:qpN H J T O ctx f d fv args st R k=some r) :
  ∃v st' u s',k v st'=some r/\Ev (λC=>qhs C fv' args' s=some (u,s')/\qb4 C fv'=qdL H fv) P H lib/\RV v u/\Rst st' s'/\Fr2 st st' s s'/\st'.E=st.E/\s'.E=s.E/\qdg fv' args'=qgl fv args:=by
 unfold qpN at h;split at h
 ·rename_i g first cap;simp only [RV]at hf;obtain ⟨first',cap',rfl,hf1,hc1⟩:=hf;have hall:RVL (first++args++cap) (first'++args'++cap'):=(hf1.append ha).append hc1;split at h
  ·rename_i hk;have hpt:=RVL.ptrs_eq _ _ hk hall;have hpure:qdg (.fn g first' cap') args'=qgl (.fn g first cap) args:=by
    simp only [qdg,qgl,hpt]
   split at h
   ·rename_i hp;have hp':(ptrsL (first'++args'++cap')).isEmpty=true:=by rw [hpt];exact hp
    have hshare:RVL (shareL (first++args++cap)) ((first'++args'++cap').map V.share):=by
     have:=RVL.share _ _ hall;rw [qaF]at this;exact this
    have fin:∀{x:TV} {v:V},k (if tightL (first++args++cap)then x else x.qa3) st=some r->RV x v->qvU P H lib g ((first'++args'++cap').map V.share) [] v [] ->
      ∃v st' u s',k v st'=some r/\Ev (λC=>qhs C (.fn g first' cap') args' s=some (u,s')/\qb4 C (.fn g first' cap')=qdL H (.fn g first cap)) P H lib/\RV v u/\Rst st' s'/\Fr2 st st' s s'/\st'.E=st.E/\s'.E=s.E/\qdg (.fn g first' cap') args'=qgl (.fn g first cap) args:=by
     intro x v hkx hr hev;refine ⟨if tightL (first++args++cap)then x else x.qa3,st,if looseL (first'++args'++cap')=true then v.qa3 else v,s,hkx,(hev.and Ev.qi6).imp λC ⟨hC,hCp⟩=>?_,?_,hs,Fr2.refl _ _,rfl,rfl,hpure⟩
     ·refine ⟨?_,by simp only [qb4,qdL,hCp]⟩;show qfz C g (first'++args'++cap') s=_;unfold qfz;rw [if_pos hp',hC]
     ·cases htg:tightL (first++args++cap)with
      |true =>
       rw [RVL.tight _ _ htg hall];simpa using hr
      |false =>
       simp only [qf,if_false];split
       ·exact RV.lo qsO _ _ hr
       ·exact hr.lo0
    split at h
    ·obtain ⟨x,N,wb,v,N',hkx,hr,hN,hlen,_,hev⟩:=hO.call _ _ _ _ _ _ _ _ [] h hshare ⟨rfl,λl s=>by simp [qan,qar,RB],by simp,λl s c h=>by simp [qar]at h⟩;have hN0:N=[]:=List.eq_nil_of_length_eq_zero (by rw [hlen];rfl);subst hN0;have hN0':N'=[]:=List.eq_nil_of_length_eq_zero (by rw [hN.len];rfl);subst hN0';exact fin hkx hr hev
    ·obtain ⟨x,v,hkx,hr,hev⟩:=hT _ _ _ _ _ _ h hshare;exact fin hkx hr hev
   ·rename_i hp;have hp':¬ (ptrsL (first'++args'++cap')).isEmpty=true:=by rw [hpt];exact hp
    split at h
    ·rename_i hpk;split at h
     ·rename_i xs hxs;split at h
      ·rename_i hxp;obtain ⟨us,hus,hru⟩:=peekTL_ok (bt:=st.box) (bx:=s.box) (λr c hc=>by
        obtain ⟨c',h1,h2⟩:=hs.box hc;exact ⟨c',h1,h2,λhlt=>hs.M.mp r.lvl r.slot c' (by rw [<- qH];exact h1) hlt⟩) _ _ _ hxs hall
       obtain ⟨x,v,hkx,hr,hev⟩:=hT _ _ _ _ _ _ h hru;split at hkx
       ·rename_i hmine;refine ⟨x,st,v,s,hkx,(hev.and Ev.qi6).imp λC ⟨hC,hCp⟩=>⟨?_,by simp only [qb4,qdL,hCp]⟩,hr,hs,Fr2.refl _ _,rfl,rfl,hpure⟩;show qfz C g (first'++args'++cap') s=_;have hup:(ptrsL us).isEmpty=true:=by
         rw [List.isEmpty_iff,List.eq_nil_iff_forall_not_mem];intro q hq;have:=RVL.qt _ _ hru q hq;rw [List.isEmpty_iff]at hxp;rw [hxp]at this;cases this
        unfold qfz;rw [if_neg hp',hCp,if_pos hpk,hus];simp only [hup,if_true,hC,RV.qcu x v hmine hr]
       ·cases hkx
      ·cases h
     ·cases h
    rename_i hpk;have hdull:RVL (dullL (first++args++cap)) ((first'++args'++cap').map V.hand):=hall.qrB qlh rfl;obtain ⟨x,N,wb,v,N',hkx,hr,hN,hlen,hfr,hev⟩:=hO.call _ _ _ _ _ _ _ _ (s.L++[s.B]) h hdull hs.M;split at hkx
    ·rename_i L B hsp;have hNe:=qgP hsp;subst hNe;split at hkx
     ·rename_i hL;obtain ⟨L',B',rfl⟩:=ql6 (M:=N') (n:=L.length) (by rw [hN.len];simp);have hL':L'.length=s.L.length:=by have:=hN.len;have:=hs.len;simp at *;omega
      refine ⟨x,_,v,{s with L:=L',B:=B'},hkx,(hev.and Ev.qi6).imp λC ⟨hC,hCp⟩=>?_,hr,⟨hs.E,hN⟩,⟨λt ht=>ht,λq hq=>by simp [hq],λt ht=>.inl rfl,λt ht rs hE=>⟨rs,hE⟩,λq hq=>.inl ?_,λq hq hsm=>?_,hL',rfl⟩,rfl,rfl,hpure⟩
      ·refine ⟨?_,by simp only [qb4,qdL,hCp]⟩;show qfz C g (first'++args'++cap') s=_;unfold qfz;rw [if_neg hp',hCp,if_neg hpk,hC];simp only [qgQ,hL',if_true]
      ·rw [qH,qH];simp only [qj,not_or]at hq;exact (hfr q.lvl q.slot hq.1).1
      ·simp only [qj,not_or]at hq;obtain ⟨c,hc⟩:=Option.isSome_iff_exists.1 hsm;obtain ⟨c',hc'⟩:=(hfr q.lvl q.slot hq.1).2 c (qee hc);rw [qaR];show (match qan (L++[B]) q.lvl q.slot with
        |some (some c)=>some c
        |_=>none).isSome=true
       rw [hc'];rfl
     ·cases hkx
    ·cases hkx
  ·cases h
 ·rename_i q;simp only [RV]at hf;subst hf;obtain ⟨v,st',u,s',h1,h2,h3,h4,h5,h6,h7⟩:=qAD hO ha hs h;exact ⟨v,st',u,s',h1,h2.imp λC hC=>⟨hC,rfl⟩,h3,h4,h5,h6,h7,rfl⟩
 ·cases h
theorem qdn{x:TV}{ys:List V}(h:RVL [x] ys):∃v,ys=[v]/\RV x v:=by
 simp only [RVL]at h;obtain ⟨v,m,rfl,h1,rfl⟩:=h;exact ⟨v,rfl,h1⟩
def qy9(P:Program)(H:Hints)(f:FuncId)(o:Oper)(xs:List TV)(st:TSt)(R:Type)(k:TV->TSt->Fp->Option R):Option R :=
 if qkg o.op xs then qnw P H f o xs st R k else match qlZ o.op xs with
  |none=>qcC P H f (qag H f o) o.op xs none R λv c=>match c with
   |none=>k v st .none
   |some _=>none
  |some r=>if 16384<=r.slot then none else qcC P H f (qag H f o) o.op xs (st.box r) R λv c=>match c with
   |none=>k v st (.root r (qbV P o.op xs).1 (qbV P o.op xs).2 false)
   |some c=>if (qxc o.op xs).all (λp=>decide (p.lvl<=r.lvl))&&decide ((qbV P o.op xs).1+(qbV P o.op xs).2<=c.length)then k v (st.qq r c) (.root r (qbV P o.op xs).1 (qbV P o.op xs).2 true)else none
theorem qvE{o:Oper}(h:qiY o.op=true)(xs:List TV)(st:TSt)(R:Type)(k:TV->TSt->Fp->Option R):qmF P H J T O ctx f o xs st R k=qy9 P H f o xs st R k:=by
 unfold qmF;split
 ·rename_i hop;rw [hop]at h;simp [qiY]at h
 ·rename_i hop;rw [hop]at h;simp [qiY]at h
 ·rename_i hop;rw [hop]at h;simp [qiY]at h
 ·rfl
theorem qvD{o:Oper}{c:Call}{fo:Operand}(hop:o.op=.call c)(hc:c.callee=.value fo)(xs:List TV)(st:TSt)(R:Type)(k:TV->TSt->Fp->Option R) :
  qmF P H J T O ctx f o xs st R k=match xs with
   |fv::args=>if qrj H fv args then qCK H O ctx o.dst fv args st R k else qpN H J T O ctx f (o.dst.getD 0) fv args st R λv s=>k v s (if qgl fv args then .none else if qdL H fv then .looks else .all)
   |[]=>none:=by
 unfold qmF;obtain ⟨cal,a1,a2⟩:=c;simp only at hc;subst hc;simp only [hop];cases xs<;>rfl
theorem LR.push{M:List qK}{M':List Level}{b:qK}{b':Level}{d:Nat}{c:List TV}{c':List V}(h:LR (M++[b]) (M'++[b']))(hl:M'.length=M.length)(hd:qU b d=none)(hc:RC c c')(hmp:d<16384->qho c'=false):LR (M++[(d,some c)::b]) (M'++[qbY d c' b']):=by
 have hkey:∀k,RB (qU b k) (qy b' k):=λk=>by
  have:=h.rel M.length k;unfold qan qar at this;rw [List.getElem?_append_right (Nat.le_refl _),<- hl,List.getElem?_append_right (Nat.le_refl _)]at this;simpa using this
 have hnone:qy b' d=none:=by
  have h2:=hkey d;rw [hd]at h2;exact h2
 refine ⟨by simp [hl],λl k=>?_,λq hq=>?_,λl k c2 h2 hlt=>?_⟩
 rotate_right
 ·have key:=h.mp l k;unfold qar at key h2;by_cases e:l<M'.length
  ·rw [qg e]at key h2;exact key c2 h2 hlt
  ·rw [List.getElem?_append_right (by omega)]at key h2;cases hm:l-M'.length with
   |zero =>
    rw [hm]at key h2;simp only [List.getElem?_cons_zero]at key h2;by_cases e2:d=k
    ·subst e2;rw [qip hnone]at h2;simp only [if_true,qb]at h2;subst h2;exact hmp hlt
    ·rw [qbF e2]at h2;exact key c2 h2 hlt
   |succ n=>rw [hm]at h2;simp at h2
 ·have key:=h.rel l k;unfold qan qar at key ⊢;by_cases e:l<M.length
  ·rw [qg e,qg (by omega)]at key ⊢;exact key
  ·rw [List.getElem?_append_right (by omega),List.getElem?_append_right (by omega),hl]at key ⊢;cases hm:l-M.length with
   |zero =>
    simp only [List.getElem?_cons_zero];by_cases e2:d=k
    ·subst e2;simp only [qU,qip hnone,if_true];exact ⟨c',rfl,hc⟩
    ·simp only [qU,qbF e2,if_neg e2];exact hkey k
   |succ n=>simp [RB]
 ·simp only [qj,List.mem_singleton]at hq;rcases hq with hq|rfl
  ·exact h.nd q (by simp [hq])
  ·exact qqa hnone (h.nd b' (by simp))
theorem qeX{st:TSt}{s:St}(hs:Rst st s){d:Nat}(h:qU st.B d=none):qy s.B d=none:=by
 have:=hs.M.rel st.L.length d;unfold qan qar at this;have e1:st.all[st.L.length]?=some st.B:=by simp [TSt.all]
 have e2:(qcJ s)[st.L.length]?=some s.B:=by rw [<- hs.len];simp [qcJ]
 rw [e1,e2]at this;simp only at this;rw [h]at this;exact this
theorem qoW{st:TSt}{s:St}(hs:Rst st s){d:Nat}{c:List TV}{c':List V}(hd:qU st.B d=none)(hc:RC c c')(hmp:d<16384->qho c'=false) :
  Rst {st with B:=(d,some c)::st.B,Wb:=⟨st.L.length,d⟩::st.Wb} {s with B:=qbY d c' s.B}/\Fr2 st {st with B:=(d,some c)::st.B,Wb:=⟨st.L.length,d⟩::st.Wb} s {s with B:=qbY d c' s.B}:=by
 refine ⟨⟨hs.E,LR.push hs.M hs.len hd hc hmp⟩,⟨λt ht=>ht,λr hr=>by simp [hr],λt ht=>.inl rfl,λt ht rs hE=>⟨rs,hE⟩,λr hr=>.inl ?_,λr hr hsm=>?_,rfl,rfl⟩⟩
 case refine_2 =>
  simp only [qk,not_or]at hr;obtain ⟨l,sl⟩:=r;unfold TSt.cont at hsm ⊢;simp only at hsm ⊢;by_cases e:l=st.L.length
  ·rw [if_pos e]at hsm ⊢;have:d≠sl:=λe2=>hr.1 (by rw [e2,e]);simp only [qU,if_neg this];exact hsm
  ·rw [if_neg e]at hsm ⊢;exact hsm
 simp only [qk,not_or]at hr;obtain ⟨l,sl⟩:=r;rw [qH,qH];unfold qar qcJ;simp only
 have hlen:=hs.len;by_cases e:l<s.L.length
 ·rw [qg e,qg e]
 ·rw [List.getElem?_append_right (by omega),List.getElem?_append_right (by omega)];cases hm:l-s.L.length with
  |zero =>
   simp only [List.getElem?_cons_zero];have:d≠sl:=λe2=>hr.1 (by rw [e2];congr 1;omega);rw [qbF this]
  |succ n=>simp
theorem qh8(st:TSt)(r:Root)(c:List TV):(st.qq r c).E=st.E/\(st.qq r c).Wt=st.Wt/\(st.qq r c).Wb=r::st.Wb/\(st.qq r c).L.length=st.L.length:=by
 unfold TSt.qq;split<;>simp
theorem qd8(s:St)(r:Root)(c:List V):(s.qq r c).E=s.E/\(s.qq r c).L.length=s.L.length:=by
 unfold St.qq;split<;>simp
theorem qh4{st:TSt}{s:St}(hs:Rst st s){r:Root}{c0 c:List TV}{c':List V}(hb:st.box r=some c0)(hc:RVL c c')(hmp:r.slot<16384->qho c'=false):Rst (st.qq r c) (s.qq r c')/\Fr2 st (st.qq r c) s (s.qq r c'):=by
 obtain ⟨e1,e2,e3,e4⟩:=qh8 st r c;obtain ⟨e5,e6⟩:=qd8 s r c';refine ⟨⟨by rw [e1,e5];exact hs.E,?_⟩,⟨λt ht=>by rw [e2];exact ht,λq hq=>by rw [e3];simp [hq],λt ht=>.inl (by rw [e5]),λt ht rs hE=>⟨rs,by rw [<- e1];exact hE⟩,λq hq=>.inl ?_,λq hq hsm=>qh9 st r c q hsm,e6,by rw [e5]⟩⟩
 ·rw [qjQ,qqE];exact LR.qq hs.M _ _ (by rw [qq9 hb];simp) hc.rc hmp
 ·rw [e3]at hq;simp only [qk,not_or]at hq;rw [qV,if_neg hq.1]
theorem qwu{x:V}(h:x.oks=true):qho x.cells=false:=by
 unfold V.oks at h;cases hc:x.cells with
 |nil=>rfl
 |cons y l =>
  rw [hc]at h;simp only [List.all_cons,qe]at h;cases y<;>first|rfl|(simp [V.one]at h)
theorem qf6{x:V}{l m:List V}:qho (x::l)=qho (x::m):=by cases x<;>rfl
theorem qoe{cs ys:List V}{off:Nat}(h1:qho cs=false)(h2:off=0\/cs=[]->qho ys=false):qho (qM cs off ys)=false:=by
 unfold qM;cases off with
 |zero =>
  simp only [List.take_zero,List.nil_append,Nat.zero_add];cases ys with
  |nil=>simpa using h1
  |cons y l=>rw [List.cons_append,qf6 (m:=l)];exact h2 (.inl rfl)
 |succ n =>
  cases cs with
  |nil=>simpa using h2 (.inr rfl)
  |cons c l=>simp only [List.take_succ_cons,List.cons_append];rw [qf6 (m:=l)];exact h1
theorem quV{g:Fl->Fl}{l:List V}(h:qho l=false):qho (reflagL g l)=false:=by
 cases l with
 |nil=>rfl
 |cons x l=>cases x with
  |mp=>simp [qho]at h
  |room s n =>
   simp only [reflagL,V.reflag];by_cases h1:g .own=.own
   ·rw [if_pos h1];rfl
   ·rw [if_neg h1];by_cases h2:n=0
    ·rw [if_pos h2];rfl
    ·rw [if_neg h2];rfl
  |_=>rfl
theorem qCh{tk:Bool}{o:Op}{ty:TypeId}{ys:List V}{q:Root}{bx:Option (List V)}{u:V}{c':List V}(hr:rootOf o ys=some q)(hb:∀c,bx=some c->qho c=false)
  (h:qaP P H f tk o ty ys bx=some (u,some c')):qho c'=false:=by
 obtain ⟨off,rest,rfl,⟨t,a,rfl⟩|⟨t,a,x,rfl⟩⟩:=qbI hr
 ·cases rest with
  |nil =>
   simp only [qaP]at h;split at h
   ·rename_i cs;split at h
    ·cases h
    ·split at h
     ·obtain ⟨y,_,he⟩:=qc.1 h;cases he;refine qoe (hb cs rfl) λh0=>quV ?_;have h9:=hb cs rfl;cases cs with
      |nil=>simp [qho]
      |cons c l =>
       rcases h0 with h0|h0
       ·subst h0;simp only [List.drop_zero];cases (if qR P t=true then P.cellsOf t else 1)with
        |zero=>rfl
        |succ n=>simp only [List.take_succ_cons];rw [qf6 (m:=l)];exact h9
       ·cases h0
     ·obtain ⟨y,_,he⟩:=qc.1 h;cases he
   ·cases h
  |cons y l=>simp [qaP]at h
 ·match rest,h with
  |[y],h =>
   simp only [qaP]at h;split at h
   ·rename_i cs;split at h
    ·rename_i hc;simp only [qb,Prod.mk.injEq]at h;obtain ⟨_,rfl⟩:=h;exact qoe (hb _ rfl) λ_=>qwu hc.2.2.2.2
    ·cases h
   ·cases h
  |[],h=>simp [qaP]at h
  |_::_::_,h=>simp [qaP]at h
theorem qxF{op:Op}{xs:List TV}{ys:List V}(hx:RVL xs ys)(h:qkg op xs=true):qcM op ys=true:=by
 unfold qkg at h;split at h
 ·rfl
 ·rfl
 ·rfl
 ·rfl
 ·simp only [RVL]at hx;obtain ⟨v,m,rfl,h1,rfl⟩:=hx;simp only [RV]at h1;subst h1;rfl
 ·cases h
theorem qxG{op:Op}{xs:List TV}{ys:List V}(hx:RVL xs ys)(hn:¬ qkg op xs=true)(hm:qcM op ys=true) :
  qlZ op xs=none/\∀tk bx (R:Type) (k:TV->Option (List TV)->Option R),qcC P H f tk op xs bx R k=none:=by
 unfold qcM at hm;split at hm
 ·exact absurd rfl hn
 ·exact absurd rfl hn
 ·exact absurd rfl hn
 ·exact absurd rfl hn
 ·rename_i args argTypes q
  match xs,hx with
  |[x],hx =>
   obtain ⟨v,hv,hr⟩:=qdn hx;cases hv;cases x with
   |any rs=>exact ⟨rfl,λ_ _ _ _=>rfl⟩
   |mref r=>exact absurd rfl hn
   |t τ o x=>cases τ<;>simp [RV,RTy]at hr
   |_=>simp [RV]at hr
  |[],hx=>simp [RVL]at hx
  |x::y::l,hx =>
   have:=hx.length;simp at this
 ·cases hm
theorem qu7{o:Oper}{xs:List TV}{ys:List V}{st:TSt}{s:St}{R:Type}{k:TV->TSt->Fp->Option R}{r:R}(hx:RVL xs ys)(hs:Rst st s)(h:qnw P H f o xs st R k=some r) :
  ∃v st' fp u s',k v st' fp=some r/\mapStep P H f o ys s=some (u,s',fp)/\RV v u/\Rst st' s'/\Fr2 st st' s s'/\st'.E=st.E/\s'.E=s.E:=by
 have hset:∀{q:Root} {τ:Ty} {o':Nat} {l:List τ.den},st.box q=some [.t (.mset τ) o' l]->qfW τ=true/\s.box q=some [.mp (kvs τ l)]/\¬ q.slot<16384:=λ{q τ o' l} hb=>by
  obtain ⟨c',hc',hr⟩:=hs.box hb;obtain ⟨v,rfl,hv⟩:=qdn hr;simp only [RV,RTy]at hv;obtain ⟨hk,rfl⟩:=hv;refine ⟨hk,hc',λhlt=>?_⟩;have:=hs.M.mp q.lvl q.slot _ (by rw [<- qH];exact hc') hlt;simp [qho]at this
 unfold qnw at h;split at h
 ·-- make
  rename_i t ro hop;split at h
  ·rename_i d kt vt hd hu;split at h
   ·rename_i τ hτ;split at h
    ·rename_i hc;obtain ⟨hn,hk,hci⟩:=hc;have hn':qU st.B (q8 d)=none:=by simpa using hn
     have hrv:RVL [.t (.mset τ) 0 []] [.mp []]:=qx.2 ⟨by simp [RV,RTy,hk],qad⟩;obtain ⟨hR,hF⟩:=qoW hs hn' (RVL.rc hrv) (λhlt=>absurd hlt (by unfold q8;omega));refine ⟨_,_,_,.mref ⟨s.L.length,q8 d⟩,_,h,?_,by simp [RV,hs.len],hR,hF,rfl,rfl⟩;have hci':qlo ys=true:=by
      unfold qoa at hci;split at hci
      ·simp only [RVL]at hx;subst hx;rfl
      ·obtain ⟨v,rfl,hv⟩:=qdn hx;simp only [RV,RTy]at hv;subst hv;rfl
      ·cases hci
     unfold mapStep;simp only [hop,hd,hu];rw [if_pos ⟨by rw [qeX hs hn'];rfl,hci'⟩,hs.len]
    ·cases h
   ·cases h
  ·cases h
 ·-- look up
  rename_i t mo ko ok hop;split at h
  ·rename_i q x;split at h
   ·rename_i τ o' l kt vt hb hu;split at h
    ·rename_i hf;split at h
     ·rename_i o2 y hz hy;obtain ⟨v1,m1,rfl,hv1,hx⟩:=(by simpa only [RVL]using hx:∃v m,ys=v::m/\RV (.mref q) v/\∃v' m',m=v'::m'/\RV x v'/\m'=[])
      obtain ⟨v2,m2,rfl,hv2,rfl⟩:=hx;simp only [RV]at hv1;subst hv1;obtain ⟨hk,hbs,_⟩:=hset hb;obtain ⟨u,hlk,hru⟩:=qzT (ok:=ok) (l:=l) hu hf hz hy hv2;refine ⟨_,_,_,u,s,h,?_,hru,hs,Fr2.refl _ _,rfl,rfl⟩;unfold mapStep;simp only [hop,hbs,hlk,qi]
     ·cases h
    ·cases h
   ·cases h
  ·cases h
 ·rename_i t mo ko xo hop;split at h
  ·rename_i q x ob;split at h
   ·rename_i τ o' l kt vt hb hu;split at h
    ·rename_i hf;split at h
     ·rename_i y hy;obtain ⟨v1,m1,rfl,hv1,hx⟩:=(by simpa only [RVL]using hx:∃v m,ys=v::m/\RV (.mref q) v/\∃v' m',m=v'::m'/\RV x v'/\∃v'' m'',m'=v''::m''/\RV (.t .bool ob true) v''/\m''=[])
      obtain ⟨v2,m2,rfl,hv2,hx⟩:=hx;obtain ⟨v3,m3,rfl,hv3,rfl⟩:=hx;simp only [RV]at hv1;subst hv1;obtain ⟨hk,hbs,hsl⟩:=hset hb;have hup:=qud (l:=l) hu hf hy hv2 (by simpa only [RV,RTy]using hv3);have hrv:RVL [.t (.mset τ) 0 (qhF τ l y)] [.mp (kvs τ (qhF τ l y))]:=qx.2 ⟨by simp only [RV,RTy];exact ⟨hk,rfl⟩,qad⟩;obtain ⟨hR,hF⟩:=qh4 hs hb hrv (λhlt=>absurd hlt hsl);refine ⟨_,_,_,.undef,_,h,?_,qci [],hR,hF,(qh8 _ _ _).1,(qd8 _ _ _).1⟩;unfold mapStep;simp only [hop,hbs,hup,qi]
     ·cases h
    ·cases h
   ·cases h
  ·cases h
 ·rename_i t mo ko xo hop;split at h
  ·rename_i q x ob;split at h
   ·rename_i τ o' l kt vt hb hu;split at h
    ·rename_i hf;split at h
     ·rename_i y hy;obtain ⟨v1,m1,rfl,hv1,hx⟩:=(by simpa only [RVL]using hx:∃v m,ys=v::m/\RV (.mref q) v/\∃v' m',m=v'::m'/\RV x v'/\∃v'' m'',m'=v''::m''/\RV (.t .bool ob true) v''/\m''=[])
      obtain ⟨v2,m2,rfl,hv2,hx⟩:=hx;obtain ⟨v3,m3,rfl,hv3,rfl⟩:=hx;simp only [RV]at hv1;subst hv1;obtain ⟨hk,hbs,hsl⟩:=hset hb;have hup:=qud (l:=l) hu hf hy hv2 (by simpa only [RV,RTy]using hv3);have hrv:RVL [.t (.mset τ) 0 (qhF τ l y)] [.mp (kvs τ (qhF τ l y))]:=qx.2 ⟨by simp only [RV,RTy];exact ⟨hk,rfl⟩,qad⟩;obtain ⟨hR,hF⟩:=qh4 hs hb hrv (λhlt=>absurd hlt hsl);refine ⟨_,_,_,.undef,_,h,?_,qci [],hR,hF,(qh8 _ _ _).1,(qd8 _ _ _).1⟩;unfold mapStep;simp only [hop,hbs,hup,qi]
     ·cases h
    ·cases h
   ·cases h
  ·cases h
 ·rename_i args argTypes hop;split at h
  ·rename_i q;split at h
   ·rename_i τ o' l kt vt hb hu;split at h
    ·rename_i hm;obtain ⟨v,rfl,hv⟩:=qdn hx;simp only [RV]at hv;subst hv;obtain ⟨hk,hbs,_⟩:=hset hb;refine ⟨_,_,_,.val (.int .i64 (kvs τ l).length),s,h,?_,by simp [RV,RTy,kvs],hs,Fr2.refl _ _,rfl,rfl⟩;unfold mapStep;simp only [hop,hbs,hu,hm,if_true]
    ·cases h
   ·cases h
  ·cases h
 ·cases h
theorem qBv(hO:OOk P H lib O){d:Option Tmp}{fv:TV}{fv':V}{args:List TV}{args':List V}{st:TSt}{s:St}{R:Type}{k:TV->TSt->Fp->Option R}{r:R}
  (hf:RV fv fv') (ha:RVL args args') (hs:Rst st s) (h:qy0 O ctx d fv args st R k=some r) :
  ∃v st' fp u s',k v st' fp=some r/\Ev (λC=>qne C d fv' args' s=some (u,s',fp)) P H lib/\RV v u/\Rst st' s'/\Fr2 st st' s s'/\st'.E=st.E/\s'.E=s.E:=by
 unfold qy0 at h;split at h
 ·rename_i g first cap d;simp only [RV]at hf;obtain ⟨first',cap',rfl,hf1,hc1⟩:=hf;have hall:RVL (first++args++cap) (first'++args'++cap'):=(hf1.append ha).append hc1;split at h
  ·rename_i hc;simp only [qe,Option.isNone_iff_eq_none]at hc;obtain ⟨⟨⟨hk,hp⟩,htg⟩,hn⟩:=hc;have hpt:=RVL.ptrs_eq _ _ hk hall;have hp':(ptrsL (first'++args'++cap')).isEmpty=true:=by rw [hpt];exact hp
   have hl:=RVL.tight _ _ htg hall;have hshare:RVL (shareL (first++args++cap)) ((first'++args'++cap').map V.share):=by
    have:=RVL.share _ _ hall;rw [qaF]at this;exact this
   obtain ⟨x,τ,o,l,v,sl,hkx,hkt,hr,hom,hev⟩:=hO.born _ _ _ _ _ _ _ h hshare;have hrv:RVL [.t (.mset τ) o l] [.mp (kvs τ l)]:=qx.2 ⟨by simp only [RV,RTy];exact ⟨hkt,rfl⟩,qad⟩;obtain ⟨hR,hF⟩:=qoW hs hn (RVL.rc hrv) (λhlt=>absurd hlt (by unfold q8;omega));refine ⟨_,_,_,v.adopt ⟨s.L.length,q8 d⟩,_,hkx,hev.imp λC hC=>?_,?_,hR,hF,rfl,rfl⟩
   ·unfold qne;simp only [hC];rw [if_pos (by simp only [qe,Bool.not_eq_true',Option.isNone_iff_eq_none];exact ⟨⟨hp',hl⟩,qeX hs hn⟩),hs.len]
   ·rw [hs.len];exact (rv_adopt _ _ _ hom hr).1
  ·cases h
 ·cases h
theorem qxB{n:Nat}{q:Root}{c:List TV}(l sl:Nat):qan (qzy n q c) l sl=if l=q.lvl/\sl=q.slot/\l<n then some (some c)else none:=by
 unfold qan qzy;simp only [List.getElem?_map];by_cases hl:l<n
 ·rw [List.getElem?_range hl];simp only [qi];by_cases h1:l=q.lvl
  ·rw [if_pos h1];simp only [qU];by_cases h2:q.slot=sl
   ·rw [if_pos h2,if_pos ⟨h1,h2.symm,hl⟩]
   ·rw [if_neg h2,if_neg (λe=>h2 e.2.1.symm)]
  ·rw [if_neg h1,if_neg (λe=>h1 e.1)];rfl
 ·rw [List.getElem?_eq_none (by simp;omega),if_neg (λe=>hl e.2.2)];rfl
theorem qp7{n:Nat}{q:Root}{c:List V}(l sl:Nat):qar (qln n q c) l sl=if l=q.lvl/\sl=q.slot/\l<n then some c else none:=by
 unfold qar qln;simp only [List.getElem?_map];by_cases hl:l<n
 ·rw [List.getElem?_range hl];simp only [qi];by_cases h1:l=q.lvl
  ·rw [if_pos h1];simp only [qy];by_cases h2:q.slot=sl
   ·rw [if_pos h2,if_pos ⟨h1,h2.symm,hl⟩]
   ·rw [if_neg h2,if_neg (λe=>h2 e.2.1.symm)]
  ·rw [if_neg h1,if_neg (λe=>h1 e.1)];rfl
 ·rw [List.getElem?_eq_none (by simp;omega),if_neg (λe=>hl e.2.2)];rfl
theorem qz2(hO:OOk P H lib O){d:Tmp}{g:FuncId}{args:List TV}{args':List V}{q:Root}{st:TSt}{s:St}{R:Type}{k:TV->TSt->Option R}{r:R}
  (ha:RVL args args') (hs:Rst st s) (h:qz1 O ctx d g args q st R k=some r) :
  ∃v st' u s',k v st'=some r/\Ev (λC=>qgt C g args' q s=some (u,s')) P H lib/\RV v u/\Rst st' s'/\Fr2 st st' s s'/\st'.E=st.E/\s'.E=s.E:=by
 unfold qz1 at h;split at h
 ·rename_i τ o l hb;obtain ⟨c',hc',hcr⟩:=hs.box hb;obtain ⟨mv,rfl,hmv⟩:=qdn hcr;simp only [RV,RTy]at hmv;obtain ⟨hkt,rfl⟩:=hmv;have hsl:¬ q.slot<16384:=λhlt=>by
   have:=hs.M.mp q.lvl q.slot _ (by rw [<- qH];exact hc') hlt;simp [qho]at this
  have hLR:LR (qzy (st.L.length+1) q [.t (.mset τ) o l]) (qln (s.L.length+1) q [.mp (l.map λx=>(qcm τ x,.bool true))]):=by
   refine ⟨by simp [qzy,qln,hs.len],λl' sl=>?_,λb hb'=>?_,λl' sl c hc hlt=>?_⟩
   ·rw [qxB,qp7,hs.len];split
    ·exact ⟨_,rfl,hcr⟩
    ·rfl
   ·unfold qln at hb';obtain ⟨x,_,rfl⟩:=List.mem_map.1 hb';split<;>simp
   ·rw [qp7]at hc;split at hc
    ·rename_i e;exact absurd (by rw [<- e.2.1];exact hlt) hsl
    ·cases hc
  have hdull:RVL (dullL args) (args'.map V.hand):=ha.qrB qlh rfl;obtain ⟨x,N,wb,v,N',hkx,hr,hN,hlen,hfr,hev⟩:=hO.call _ _ _ _ _ _ _ _ _ h hdull hLR;split at hkx
  ·rename_i hc;simp only [qe,Bool.not_eq_true',List.isEmpty_iff]at hc;obtain ⟨⟨hkn,hp⟩,hown⟩:=hc;split at hkx
   ·rename_i τ' o' l' hlk;have hrel:=hN.rel q.lvl q.slot;rw [show qan N q.lvl q.slot=some (some [.t (.mset τ') o' l'])from hlk]at hrel;obtain ⟨c2,hc2,hcr2⟩:=hrel;obtain ⟨mv2,rfl,hmv2⟩:=qdn hcr2;have hmv2':=hmv2;simp only [RV,RTy]at hmv2';obtain ⟨hkt2,rfl⟩:=hmv2';obtain ⟨hR,hF⟩:=qh4 hs hb (qx.2 ⟨hmv2,qad⟩) (λhlt=>absurd hlt hsl);have hvo:v.owns=false:=by
     cases hvo:v.owns with
     |false=>rfl
     |true=>rw [RV.owns x v hr hvo]at hown;cases hown
    refine ⟨x,_,v,_,hkx,hev.imp λC hC=>?_,hr,hR,hF,(qh8 _ _ _).1,(qd8 _ _ _).1⟩;unfold qgt;simp only [hc',hC];rw [if_pos (by rw [RV.ptrs_eq x v hkn hr,hp,hvo];rfl)];rw [show qEN N' q=qar N' q.lvl q.slot from rfl,hc2]
   ·cases hkx
  ·cases hkx
 ·cases h
theorem qri{fv:TV}{fv':V}{g:FuncId}{a b:List TV}(h:RV (.fn g a b) fv'):qta H fv'=(H.seq g).isSome:=by
 simp only [RV]at h;obtain ⟨a',b',rfl,_⟩:=h;rfl
theorem qEe{d:Option Tmp}{fv:TV}{fv':V}{args:List TV}{args':List V}{st:TSt}{s:St}{R:Type}{k:TV->TSt->Fp->Option R}{r:R}
  (hf:RV fv fv') (ha:RVL args args') (hs:Rst st s) (h:qFP H d fv args st R k=some r) :
  ∃v st' fp u s',k v st' fp=some r/\Ev (λC=>qyB C d fv' args' s=some (u,s',fp)) P H lib/\RV v u/\Rst st' s'/\Fr2 st st' s s'/\st'.E=st.E/\s'.E=s.E:=by
 unfold qFP at h;split at h
 ·rename_i g first cap d;simp only [RV]at hf;obtain ⟨first',cap',rfl,hf1,hc1⟩:=hf;have hall:RVL (first++args++cap) (first'++args'++cap'):=(hf1.append ha).append hc1;split at h
  ·rename_i o1 str o2 sep hl;rw [hl]at hall;simp only [RVL,RV,RTy]at hall;obtain ⟨_,_,hl',rfl,_,_,rfl,rfl,rfl⟩:=hall;split at h
   ·rename_i clos hc;split at h
    ·rename_i hn;rw [Option.isNone_iff_eq_none]at hn;have hrv:RVL [.t .str 0 str] [.val (.string ⟨str.toArray⟩)]:=qx.2 ⟨by simp only [RV,RTy],qad⟩;obtain ⟨hR,hF⟩:=qoW hs hn (RVL.rc hrv) (λ_=>rfl);refine ⟨_,_,_,.fn clos [] [.cptr .shared [.val (.string ⟨sep.toArray⟩)],.ptr ⟨s.L.length,d⟩ 0,.cptr .shared [.val (.int .i64 0)]],_,h,⟨1,λm hm=>?_⟩,?_,hR,hF,rfl,rfl⟩
     ·obtain ⟨m',rfl⟩:∃m',m=m'+1:=⟨m-1,by omega⟩
      unfold qyB;simp only [hl',qsh,hc];rw [if_pos (by rw [Option.isNone_iff_eq_none];exact qeX hs hn),hs.len]
     ·simp only [RV];exact ⟨[],_,rfl,qad,qx.2 ⟨by simp only [RV];exact ⟨.shared,_,rfl,by simp,λ_=>rfl,qx.2 ⟨by simp only [RV,RTy],qad⟩⟩,qx.2 ⟨by simp only [RV,hs.len],qx.2 ⟨by simp only [RV];exact ⟨.shared,_,rfl,by simp,λ_=>rfl,qx.2 ⟨by simp only [RV,RTy],qad⟩⟩,qad⟩⟩⟩⟩
    ·cases h
   ·cases h
  ·cases h
 ·cases h
theorem qkf{fv:TV}{fv':V}{g:FuncId}{a b:List TV}(h:RV (.fn g a b) fv'):qke H fv'=H.born g:=by
 simp only [RV]at h;obtain ⟨a',b',rfl,_⟩:=h;rfl
theorem qCL(hO:OOk P H lib O){d:Option Tmp}{fv:TV}{fv':V}{args:List TV}{args':List V}{st:TSt}{s:St}{R:Type}{k:TV->TSt->Fp->Option R}{r:R}
  (hf:RV fv fv') (ha:RVL args args') (hs:Rst st s) (h:qCK H O ctx d fv args st R k=some r) :
  qiZ H fv' args'=true/\∃v st' fp u s',k v st' fp=some r/\Ev (λC=>qiU H C d fv' args' s=some (u,s',fp)) P H lib/\RV v u/\Rst st' s'/\Fr2 st st' s s'/\st'.E=st.E/\s'.E=s.E:=by
 unfold qCK at h;split at h
 ·rename_i hbn;have hb':qke H fv'=true:=by
   cases fv<;>first|(simp [qn9]at hbn;done)|(rw [qkf (fv:=.any []) hf];exact hbn)
  obtain ⟨v,st',fp,u,s',hk,hev,hr,hR,hF,e1,e2⟩:=qBv hO hf ha hs h;refine ⟨by unfold qiZ;rw [hb'];rfl,v,st',fp,u,s',hk,hev.imp λC hC=>?_,hr,hR,hF,e1,e2⟩;unfold qiU;rw [if_pos hb'];exact hC
 rename_i hbn;split at h
 ·rename_i hsq;have hb':qke H fv'=false:=by
   cases fv<;>first|(simp [qtb]at hsq;done)|(rw [qkf (fv:=.any []) hf];simpa [qn9]using hbn)
  have hs':qta H fv'=true:=by
   cases fv<;>first|(simp [qtb]at hsq;done)|(rw [qri (fv:=.any []) hf];exact hsq)
  obtain ⟨v,st',fp,u,s',hk,hev,hr,hR,hF,e1,e2⟩:=qEe (P:=P) (lib:=lib) hf ha hs h;refine ⟨by unfold qiZ;rw [hs',hb'];rfl,v,st',fp,u,s',hk,hev.imp λC hC=>?_,hr,hR,hF,e1,e2⟩;unfold qiU;rw [if_neg (by rw [hb'];simp),if_pos hs'];exact hC
 ·rename_i hsq;split at h
  ·rename_i g first cap q hq;have hb':qke H fv'=false:=by
    rw [qkf (fv:=.any []) hf];simpa [qn9]using hbn
   have hs':qta H fv'=false:=by
    rw [qri (fv:=.any []) hf];simpa [qtb]using hsq
   have hf':=hf;simp only [RV]at hf';obtain ⟨first',cap',rfl,hf1,hc1⟩:=hf';have hall:RVL (first++args++cap) (first'++args'++cap'):=(hf1.append ha).append hc1;have hkn:knownL (first++args++cap)=true:=by
    unfold qkx at hq;simp only at hq;split at hq
    ·assumption
    ·cases hq
   have hq':qhL (.fn g first' cap') args'=some q:=by rw [qqh hkn hall];exact hq
   obtain ⟨v,st',u,s',hk,hev,hr,hR,hF,e1,e2⟩:=qz2 hO hall hs h;refine ⟨by unfold qiZ;rw [hq'];simp,v,st',_,u,s',hk,hev.imp λC hC=>?_,hr,hR,hF,e1,e2⟩;unfold qiU;rw [if_neg (by rw [hb'];simp),if_neg (by rw [hs'];simp),hq'];simp only [hC,qi]
  ·cases h
theorem qza{o:Oper}{xs:List TV}{ys:List V}{st:TSt}{s:St}{R:Type}{k:TV->TSt->Fp->Option R}{r:R}(hx:RVL xs ys)(hs:Rst st s)(h:qy9 P H f o xs st R k=some r) :
  ∃v st' fp u s',k v st' fp=some r/\qds P H f o ys s=some (u,s',fp)/\RV v u/\Rst st' s'/\Fr2 st st' s s'/\st'.E=st.E/\s'.E=s.E:=by
 unfold qy9 at h;split at h
 ·rename_i hmo;obtain ⟨v,st',fp,u,s',hk,hm,hr,hR,hF,e1,e2⟩:=qu7 hx hs h;refine ⟨v,st',fp,u,s',hk,?_,hr,hR,hF,e1,e2⟩;unfold qds;rw [if_pos (qxF hx hmo),hm]
 rename_i hmo;have hmo':¬ qcM o.op ys=true:=λhm=>by
  obtain ⟨h1,h2⟩:=qxG (P:=P) (H:=H) (f:=f) hx hmo hm;rw [h1]at h;simp only [h2]at h;cases h
 split at h
 ·rename_i hr;obtain ⟨z,c,u,c',hk,hsem,hrv,hbo⟩:=qub (ty:=o.type) (bx:=none) (bx':=none) hx True.intro (by simp) h;split at hk
  ·have hc':c'=none:=hbo;subst hc';have hr':rootOf o.op ys=none:=by
    cases ho:o.op<;>try rfl
    case load t a =>
     rw [ho]at h hr
     match xs,hx,h,hr with
     |[],hx,h,hr=>simp [qcC]at h
     |[x],hx,h,hr =>
      obtain ⟨v,rfl,hv⟩:=qdn hx;cases x<;>simp only [qcC]at h<;>try (cases h;done)
      simp only [RV]at hv;obtain ⟨_,l',rfl,_⟩:=hv;rfl
     |x::y::xs,hx,h,hr =>
      cases x<;>simp [qcC]at h
    case store t a b =>
     rw [ho]at h hr
     match xs,hx,h,hr with
     |[],hx,h,hr=>simp [qcC]at h
     |[x],hx,h,hr=>cases x<;>simp [qcC]at h
     |[x,y],hx,h,hr =>
      cases x<;>simp only [qcC]at h<;>try (cases h;done)
     |x::y::z::xs,hx,h,hr=>cases x<;>simp [qcC]at h
   refine ⟨z,st,.none,u,s,hk,?_,hrv,hs,Fr2.refl _ _,rfl,rfl⟩;unfold qds;rw [if_neg hmo',hr'];simp only [hsem]
  ·cases hk
 ·rename_i q hr;split at h
  ·cases h
  rename_i hslot;have hslot:q.slot<16384:=Nat.lt_of_not_le hslot;have hmpq:∀c,s.box q=some c->qho c=false:=λc hc=>hs.M.mp q.lvl q.slot c (by rw [<- qH];exact hc) hslot;obtain ⟨z,c,u,c',hk,hsem,hrv,hbo⟩:=qub (ty:=o.type) hx (hs.bx q) hmpq h;have hshape:rootOf o.op ys=some q/\qaf P o.op ys=qbV P o.op xs/\(∀p∈qnf o.op ys,p∈qxc o.op xs)/\(∀d,c=some d->∃c0,st.box q=some c0):=by
   cases ho:o.op<;>rw [ho]at hr<;>try (simp [qlZ]at hr;done)
   case load t a =>
    rw [ho]at h
    match xs,hx,h,hr with
    |[],hx,h,hr=>simp [qcC]at h
    |[x],hx,h,hr =>
     obtain ⟨v,rfl,hv⟩:=qdn hx;cases x<;>simp only [qlZ]at hr<;>try (cases hr;done)
     cases hr;simp only [RV]at hv;subst hv;refine ⟨rfl,rfl,λp hp=>by simp [qnf]at hp,λd _=>?_⟩;simp only [qcC]at h;split at h
     ·rename_i cs hcs;exact ⟨cs,hcs⟩
     ·cases h
    |x::y::xs,hx,h,hr=>cases x<;>simp [qcC]at h
   case store t a b =>
    rw [ho]at h
    match xs,hx,h,hr with
    |[],hx,h,hr=>simp [qcC]at h
    |[x],hx,h,hr=>cases x<;>simp [qcC]at h
    |[x,y],hx,h,hr =>
     cases x<;>simp only [qlZ]at hr<;>try (cases hr;done)
     cases hr;simp only [RVL]at hx;obtain ⟨v,m,rfl,hv,v2,m2,rfl,hv2,rfl⟩:=hx;simp only [RV]at hv;subst hv;simp only [qcC]at h;split at h
     ·rename_i cs hcs;split at h
      ·rename_i hcond;obtain ⟨hcells,_⟩:=RV.cells hcond.2.2.2 hv2;refine ⟨rfl,?_,λp hp=>?_,λd _=>⟨cs,hcs⟩⟩
       ·simp only [qaf,qbV,hcells.length]
       ·simp only [qnf]at hp;simp only [qxc];exact RV.qt _ _ hv2 p hp
      ·cases h
     ·cases h
    |x::y::z::xs,hx,h,hr=>cases x<;>simp [qcC]at h
  obtain ⟨hroot,hrange,hwp,hbx⟩:=hshape;split at hk
  ·have hc':c'=none:=hbo;subst hc';refine ⟨z,st,_,u,s,hk,?_,hrv,hs,Fr2.refl _ _,rfl,rfl⟩;unfold qds;rw [if_neg hmo',hroot];simp only [hsem,hrange]
  ·rename_i d;obtain ⟨d',rfl,hd⟩:=hbo;split at hk
   ·rename_i hcond;obtain ⟨c0,hc0⟩:=hbx d rfl;obtain ⟨hR,hF⟩:=qh4 hs hc0 hd (λ_=>qCh hroot hmpq hsem);refine ⟨z,_,_,u,s.qq q d',hk,?_,hrv,hR,hF,(qh8 st q d).1,(qd8 s q d').1⟩;unfold qds;rw [if_neg hmo',hroot];simp only [hsem,hrange];rw [if_pos];simp only [qe,List.all_eq_true,decide_eq_true_eq]at hcond ⊢;exact ⟨λp hp=>hcond.1 p (hwp p hp),by rw [hd.length];exact hcond.2⟩
   ·cases hk
end
section
variable {P:Program} {H:Hints} {J:TH} {T:qsl} {O:TOrc} {lib:FuncId->Option (List V->Option V)} {f:FuncId} {ctx:List Tmp}
theorem qxH(p:Bool)(u:Value):qho (ofConst p u).cells=false:=by
 have h0:∀u,qho [qcz p u]=false:=λu=>by
  unfold qcz;split
  ·unfold qeO;split<;>rfl
  ·rfl
 have h1:∀u,qho (qcz p u).cells=false\/(∃cs,u=.agg cs):=λu=>by
  unfold qcz;split
  ·left;unfold qeO;split<;>rfl
  ·left;rfl
 by_cases hu:∃cs,u=.agg cs
 ·obtain ⟨cs,rfl⟩:=hu;show qho (cs.toList.map (qcz p))=false;cases cs.toList with
  |nil=>rfl
  |cons x l=>rw [qh,qf6 (m:=[])];exact h0 x
 ·have e:ofConst p u=qcz p u:=by
   unfold ofConst;split
   ·exact absurd ⟨_,rfl⟩ hu
   ·rfl
  rw [e];rcases h1 u with h2|h2
  ·exact h2
  ·exact absurd h2 hu
theorem qoc{c:List V}(h:qaj c=false):qaj (c.map V.qef)=false:=by
 match c with
 |[]=>rfl
 |x::l =>
  simp only [qh];unfold V.qef;split
  ·rfl
  ·cases x<;>first|rfl|(simp [qaj]at h)
theorem qs9{c:List V}(h:qho c=false):qho (c.map V.qef)=false:=by
 match c with
 |[]=>rfl
 |x::l =>
  simp only [qh];unfold V.qef;split
  ·rfl
  ·cases x<;>first|rfl|(simp [qho]at h)
theorem qvQ{ys:List V}:∀{p:Path} {v u:V},qsk ys p v=some u->∃c l,u=.sl .own c l:=by
 intro p v u h;unfold qsk at h;split at h
 ·cases h
 ·split at h
  ·split at h
   ·split at h
    ·split at h
     ·cases h;exact ⟨_,_,rfl⟩
     ·cases h
    ·split at h
     ·obtain ⟨z,_,rfl⟩:=qc.1 h;exact ⟨_,_,rfl⟩
     ·cases h
   ·cases h
  ·cases h
 ·cases h
theorem qBS{c:List V}{i:Nat}{u:V}(h:qho c=false)(hu:qho [u]=false):qho (c.set i u)=false:=by
 cases c with
 |nil=>rfl
 |cons x l=>cases i with
  |zero=>rw [List.set_cons_zero,qf6 (m:=[])];exact hu
  |succ n=>rw [List.set_cons_succ,qf6 (m:=l)];exact h
theorem qAU(hT:TOk P H lib T)(hO:OOk P H lib O){o:Oper}{xs:List TV}{ys:List V}{st:TSt}{s:St}{R:Type}{k:TV->TSt->Fp->Option R}{r:R}(hx:RVL xs ys)(hs:Rst st s)
  (h:qmF P H J T O ctx f o xs st R k=some r) :
  ∃v st' fp u s',k v st' fp=some r/\Ev (λC=>qbh P H C f o ys s=some (u,s',fp)) P H lib/\RV v u/\Rst st' s'/\Fr2 st st' s s'/\st'.E=st.E/\s'.E=s.E:=by
 rcases qfM o.op with ⟨t,hop⟩|⟨t,a,hop⟩|⟨c,fo,hop,hc⟩|hd
 ·unfold qmF at h;simp only [hop]at h;split at h
  ·rename_i d z hd hz;split at h
   ·rename_i hn;have hn':qU st.B d=none:=by simpa using hn
    obtain ⟨z',hz',_,hcz⟩:=qiE hz;have hmz:qho z'.cells=false:=by
     obtain ⟨i,u,_,_,rfl⟩:=qdr hz';exact qxH _ u
    obtain ⟨hR,hF⟩:=qoW hs hn' (RVL.rc hcz) (λ_=>hmz);refine ⟨_,_,_,.ptr ⟨s.L.length,d⟩ 0,_,h,.of λC=>?_,by simp [RV,hs.len],hR,hF,rfl,rfl⟩;unfold qbh;simp only [hop,hd,hz'];rw [if_pos (by rw [qeX hs hn'];rfl),hs.len]
   ·cases h
  ·cases h
 ·unfold qmF at h;simp only [hop]at h;split at h
  ·rename_i d x hd;split at h
   ·rename_i hn;have hn':qU st.B d=none:=by simpa using hn.1
    obtain ⟨v,rfl,hv⟩:=qdn hx;obtain ⟨hcells,hok⟩:=RV.cells hn.2.2 hv;obtain ⟨hR,hF⟩:=qoW hs hn' (RVL.rc hcells) (λ_=>qwu hok);refine ⟨_,_,_,.ptr ⟨s.L.length,d⟩ 0,_,h,.of λC=>?_,by simp [RV,hs.len],hR,hF,rfl,rfl⟩;unfold qbh;simp only [hop,hd];rw [if_pos ⟨by rw [qeX hs hn'];rfl,by rw [hcells.length];exact hn.2.1,hok⟩,hs.len]
   ·cases h
  ·cases h
 ·rw [qvD hop hc]at h;cases xs with
  |nil=>cases h
  |cons fv args =>
   simp only [RVL]at hx;obtain ⟨fv',args',rfl,hfv,ha⟩:=hx;simp only at h;cases hbn:qrj H fv args with
   |true =>
    rw [if_pos hbn]at h;obtain ⟨hb',v,st',fp,u,s',hk,hev,hr,hR,hF,e1,e2⟩:=qCL hO hfv ha hs h;refine ⟨v,st',fp,u,s',hk,hev.imp λC hC=>?_,hr,hR,hF,e1,e2⟩;rw [qa8 hop hc];simp only [hb',if_true];exact hC
   |false =>
    rw [if_neg (by rw [hbn];simp)]at h;simp only [qrj,Bool.or_eq_false_iff]at hbn;have hb':qiZ H fv' args'=false:=by
     have h':=h;unfold qpN at h';split at h'
     ·rename_i g first cap;split at h'
      ·rename_i hkn;have hbn1:qke H fv'=false:=by rw [qkf (fv:=.any []) hfv];exact hbn.1
       have hbn2:qta H fv'=false:=by rw [qri (fv:=.any []) hfv];exact hbn.2.1
       have hf':=hfv;simp only [RV]at hf';obtain ⟨first',cap',rfl,hf1,hc1⟩:=hf';unfold qiZ;rw [hbn1,hbn2,qqh hkn ((hf1.append ha).append hc1),hbn.2.2];rfl
      ·cases h'
     ·have hf':=hfv;simp only [RV]at hf';subst hf';rfl
     ·cases h'
    obtain ⟨v,st',u,s',hk,hev,hr,hR,hF,e1,e2,hp⟩:=qsB hT hO hfv ha hs h;refine ⟨v,st',_,u,s',hk,hev.imp λC hC=>?_,hr,hR,hF,e1,e2⟩;rw [qa8 hop hc];obtain ⟨hC,hlk⟩:=hC;simp only [hb',qf,if_false,hC,qi];rw [<- hp,hlk]
 ·rw [qvE hd]at h;obtain ⟨v,st',fp,u,s',hk,hm,hr,hR,hF,e1,e2⟩:=qza hx hs h;exact ⟨v,st',fp,u,s',hk,.of λC=>by rw [qY hd];exact hm,hr,hR,hF,e1,e2⟩
theorem qxy{E:Env}{E':List V}(h:RVL E.toL E')(t:Nat):RV (E.get t) (E'.getD t .undef):=by rw [qnq];exact h.getD t
theorem qCt{o:Oper}{E:Env}{E':List V}(h:RVL E.toL E')(x:Operand):RV (rdT H f o E x) (rd H f o E' x):=by
 cases x with
 |tmp t =>
  simp only [rdT,rd];split
  ·exact qxy h t
  ·exact (qxy h t).qab
 |const v=>exact qwR _ _
 |global g=>exact qci []
 |func g=>simp [rdT,rd,RV,RVL]
theorem qDq{o:Oper}{E:Env}{E':List V}(h:RVL E.toL E'):∀l:List Operand,RVL (l.map (rdT H f o E)) (l.map (rd H f o E'))
 |[]=>qad
 |x::l=>qx.2 ⟨qCt h x,qDq h l⟩
theorem qj2:∀(ts:List Tmp) {E:Env} {E':List V},RVL E.toL E'->RVL (qbA E ts).toL (qA E' ts)
 |[],E,E',h=>h
 |t::ts,E,E',h=>by
  have h1:RVL (E.set t (E.get t).qab).toL (E'.modify t V.qab):=by
   rw [qqN];refine qeZ (by simp [h.length]) λi x v hx hv=>?_;rw [List.getElem?_modify]at hx hv;obtain ⟨y,hy,rfl⟩:=qc.1 hx;obtain ⟨u,hu,rfl⟩:=qc.1 hv;obtain ⟨u2,hu2,hr⟩:=h.get hy;rw [hu]at hu2;cases hu2;by_cases e:t=i
   ·simp only [e,if_true];exact hr.qab
   ·simp only [if_neg e];exact hr
  exact qj2 ts h1
theorem qsG{ts:List Tmp}{t:Nat}(h:t∉ts):∀E:List V,(qA E ts)[t]?=E[t]?:=by
 induction ts with
 |nil=>intro E;rfl
 |cons u ts ih =>
  intro E;simp only [qk,not_or]at h;have e:qA E (u::ts)=qA (E.modify u V.qab) ts:=rfl;rw [e,ih h.2,List.getElem?_modify];simp [Ne.symm h.1]
theorem quE(ts:List Tmp)(E:List V):(qA E ts).length=E.length:=qaV ts E
theorem qhU{st:TSt}{s:St}(hs:Rst st s)(d:Option Tmp){v:TV}{u:V}(hv:RV v u):Rst (st.put d v) (s.put d u)/\Fr2 st (st.put d v) s (s.put d u):=by
 cases d with
 |none=>exact ⟨hs,Fr2.refl _ _⟩
 |some t =>
  refine ⟨⟨by show RVL (st.E.set t v).toL _;rw [qdR];exact hs.E.set t hv,hs.M⟩,⟨λx hx=>by simp [TSt.put,hx],λr hr=>hr,λx hx=>.inl ?_,λx hx rs hE=>⟨rs,?_⟩,λr hr=>.inl rfl,λr hr h=>h,rfl,by simp [St.put]⟩⟩
  case refine_2 =>
   simp only [TSt.put,Mask.mem_ins,not_or]at hx;simp only [TSt.put,qdR]at hE
   rwa [List.getElem?_set_ne (Ne.symm hx.1)]at hE
  simp only [TSt.put,Mask.mem_ins,not_or]at hx;simp only [St.put];rw [List.getElem?_set_ne (Ne.symm hx.1)]
theorem qnT{E:Env}{E':List V}(h:RVL E.toL E'){ts:List Tmp}{t:Nat}(ht:t∉ts.filter (λt=>(E.get t).owns)):(qA E' ts)[t]?=E'[t]?:=by
 rw [qf4];split
 ·rename_i hm;have hno:(E.get t).owns=false:=by
   cases hh:(E.get t).owns with
   |false=>rfl
   |true=>exact absurd (List.mem_filter.2 ⟨hm,hh⟩) ht
  cases hv:E'[t]? with
  |none=>rfl
  |some v =>
   have hr:=qxy h t;rw [List.getD_eq_getElem?_getD (l:=E'),hv]at hr;simp only [qi,qb];refine dull_of_owns v ?_;cases ho:v.owns with
   |false=>rfl
   |true=>have:=RV.owns _ _ hr ho;rw [hno]at this;cases this
 ·rfl
theorem qBB{x:TV}{rs:List Root}(h:x.qab=.any rs):x=.any rs:=by
 cases x with
 |room a s=>rcases a with _|a<;>simp [TV.qab]at h
 |_=>simp_all [TV.qab]
theorem qgD:∀(T:List Tmp) (E:Env) (t:Nat) (rs:List Root),(qbA E T).toL[t]?=some (.any rs)->∃rs',E.toL[t]?=some (.any rs')
 |[],E,t,rs,h=>⟨rs,h⟩
 |s::T,E,t,rs,h=>by
  have h':(qbA (E.set s (E.get s).qab) T).toL[t]?=some (.any rs):=h;obtain ⟨rs',h1⟩:=qgD T _ t rs h';rw [qqN,List.getElem?_modify]at h1;cases hE:E.toL[t]? with
  |none=>rw [hE]at h1;cases h1
  |some x =>
   rw [hE]at h1;simp only [Option.map_eq_map,qi,qb]at h1;split at h1
   ·exact ⟨rs',by rw [qBB h1]⟩
   ·exact ⟨rs',by rw [h1]⟩
theorem ql8(hT:TOk P H lib T)(hO:OOk P H lib O){o:Oper}{st:TSt}{s:St}{R:Type}{k:TSt->Fp->Option R}{r:R}(hs:Rst st s)(h:qjK P H J T O ctx f o st R k=some r) :
  ∃st' fp s',k st' fp=some r/\Ev (λC=>qeI P H C f o s=some (s',fp)) P H lib/\Rst st' s'/\Fr2 st st' s s'/\∀t:Nat,t∉tmpsOf o->o.dst≠some t->s'.E[t]?=s.E[t]?:=by
 unfold qjK at h;split at h
 ·cases h
 ·rename_i hn;have hs1:Rst (if qag H f o=true then {st with E:=qbA st.E (tmpsOf o),Wt:=Mask.ofList ((tmpsOf o).filter (λt=>(st.E.get t).owns))++st.Wt}else st) (if qag H f o=true then {s with E:=qA s.E (tmpsOf o)}else s) /\
    Fr2 st (if qag H f o=true then {st with E:=qbA st.E (tmpsOf o),Wt:=Mask.ofList ((tmpsOf o).filter (λt=>(st.E.get t).owns))++st.Wt}else st) s (if qag H f o=true then {s with E:=qA s.E (tmpsOf o)}else s):=by
   split
   ·refine ⟨⟨qj2 _ hs.E,hs.M⟩,⟨λt ht=>by simp [ht],λr hr=>hr,λt ht=>.inl ?_,λt ht rs hE=>?_,λr hr=>.inl rfl,λr hr h=>h,rfl,quE _ _⟩⟩
    ·simp only [Mask.mem_append,Mask.mem_ofList,not_or]at ht;exact qnT hs.E ht.1
    ·exact qgD _ _ _ _ hE
   ·exact ⟨hs,Fr2.refl _ _⟩
  obtain ⟨v,st',fp,u,s',hk,hev,hr,hR,hF,e1,e2⟩:=qAU hT hO (qDq hs.E _) hs1.1 h;obtain ⟨hR2,hF2⟩:=qhU hR o.dst hr;refine ⟨_,fp,_,hk,hev.imp λC hC=>?_,hR2,(hs1.2.trans hF).trans hF2,λt h1 h2=>?_⟩
  ·unfold qeI;rw [if_neg hn,hC];rfl
  ·have h3:(s'.put o.dst u).E[t]?=s'.E[t]?:=by
    unfold St.put;cases hd:o.dst with
    |none=>rfl
    |some d =>
     simp only
     rw [List.getElem?_set_ne];rintro rfl;exact h2 hd
   rw [h3,e2];split
   ·exact qsG h1 s.E
   ·rfl
theorem quR{ops:Array Oper}{o:Oper}{st:TSt}{s:St}{R:Type}{yes no:TSt->Option R}{r:R}(hs:Rst st s)(h:quQ ops o st R yes no=some r) :
  ∃st1 b,qct ops s.E o=some b/\Rst st1 s/\Fr2 st st1 s s/\(if b then yes st1 else no st1)=some r:=by
 unfold quQ at h;unfold qct;split at h
 ·rename_i hg;rw [hg];exact ⟨st,true,rfl,hs,Fr2.refl _ _,h⟩
 ·rename_i j want hg;rw [hg];simp only
  split at h
  ·rename_i t ht;rw [ht];simp only
   split at h
   ·rename_i o' b hb;obtain ⟨v,hv,hr⟩:=hs.E.get (some_get hb (by simp));simp only [RV,RTy]at hr;subst hr;rw [hv];have hset:∀c,b=c->Rst ({st with E:=st.E.set t (.t .bool 0 c)}:TSt) s:=λc hc=>⟨by
     rw [qdR];refine qh0 hs.E t λu hu=>?_;rw [hv]at hu;cases hu;simp [RV,RTy,hc],hs.M⟩
    have hfr:∀c,Fr2 st ({st with E:=st.E.set t (.t .bool 0 c)}:TSt) s s:=λc=>⟨λx hx=>hx,λx hx=>hx,λx hx=>.inl rfl,λx hx rs hE=>⟨rs,by
     simp only [qdR,List.getElem?_set]at hE;split at hE
     ·split at hE<;>cases hE
     ·exact hE⟩,λx hx=>.inl rfl,λx hx h=>h,rfl,rfl⟩
    cases b with
    |true =>
     simp only [cond_true]at h;refine ⟨_,(true==want),rfl,hset true rfl,hfr true,?_⟩;cases want<;>exact h
    |false =>
     simp only [cond_false]at h;refine ⟨_,(false==want),rfl,hset false rfl,hfr false,?_⟩;cases want<;>exact h
   ·rename_i vs hb;obtain ⟨v,hv,hr⟩:=hs.E.get (some_get hb (by simp));simp only [RV]at hr;subst hr;rw [hv];split at h
    ·rename_i h0;exact ⟨st,false,by simp only [h0,if_true],hs,Fr2.refl _ _,h⟩
    ·cases h
   ·cases h
  ·cases h
def qjC(p:List (Int×Nat×Nat)):Path:=p.map λe=>(e.1.toNat,e.2.1,e.2.2)
theorem qzB{E:Env}{E':List V}(h:RVL E.toL E'){i:Operand}{n:Int}(hi:qs2 E i=some n)(h0:0<=n):idxOf E' i=some n.toNat:=by
 cases i with
 |tmp t =>
  simp only [qs2]at hi;obtain ⟨k,hk⟩:=qpn hi (qxy h t);simp only [idxOf,hk];exact qgh h0
 |const v =>
  simp only [qs2]at hi;split at hi
  ·cases hi;simp only [idxOf];exact qgh h0
  ·cases hi
 |_=>simp [qs2]at hi
theorem qio{ops:Array Oper}{E:Env}{E':List V}(h:RVL E.toL E'):∀(n k:Nat) (d:Tmp) (rt:Rt) (p:List (Int×Nat×Nat)) (ptr:Bool),qgS P H f ops E n k d=some (rt,p,ptr)->(∀e∈p,0<=e.1)->qbo P H f ops E' n k d=some (rt,qjC p,ptr):=by
 intro n;induction n with
 |zero=>intro k d rt p ptr hx;simp [qgS]at hx
 |succ n ih =>
  intro k d rt p ptr hx h0;simp only [qgS]at hx;simp only [qbo];split at hx
  ·rename_i hl;rw [if_pos hl];simp only [qb,Prod.mk.injEq]at hx;obtain ⟨rfl,rfl,rfl⟩:=hx;rfl
  ·rename_i hl;rw [if_neg hl];cases hc:qpx ops k d with
   |none=>rw [hc]at hx;cases hx
   |some c =>
    rw [hc]at hx;try simp only at hx ⊢
    cases hop:(ops[c]?).map Oper.op with
    |none=>rw [hop]at hx;cases hx
    |some op =>
     rw [hop]at hx;try simp only at hx ⊢
     split at hx
     ·rename_i a heq;cases heq;exact ih _ _ _ _ _ hx h0
     ·rename_i t a i heq;cases heq;try simp only
      split at hx
      ·rename_i r q j elem hq hj hu;simp only [qb,Prod.mk.injEq]at hx;obtain ⟨rfl,rfl,rfl⟩:=hx;rw [ih _ _ _ _ _ hq (λe he=>h0 e (by simp [he])),qzB h hj (h0 (j,0,P.cellsOf elem) (by simp)),hu];rfl
      ·cases hx
     ·rename_i t a fd heq;cases heq;try simp only
      split at hx
      ·rename_i r j o s q o' hq ho';simp only [qb,Prod.mk.injEq]at hx;obtain ⟨rfl,rfl,rfl⟩:=hx;rw [ih _ _ _ _ _ hq (λe he=>by
        rcases qk.1 he with rfl|he
        ·exact h0 (j,o+o',s) (by simp)
        ·exact h0 e (by simp [he])),ho']
       rfl
      ·cases hx
     ·rename_i t a heq;cases heq;try simp only
      split at hx
      ·cases hx
      ·rename_i hag;rw [if_neg hag];split at hx
       ·rename_i hla;rw [if_pos hla];split at hx
        ·rename_i r q hq;simp only [qb,Prod.mk.injEq]at hx;obtain ⟨rfl,rfl,rfl⟩:=hx;rw [ih _ _ _ _ _ hq h0]
        ·cases hx
       ·rename_i hla;rw [if_neg hla];split at hx
        ·rename_i r off hE;simp only [qb,Prod.mk.injEq]at hx;obtain ⟨rfl,rfl,rfl⟩:=hx;have:=qxy h a;rw [hE]at this;simp only [RV]at this;rw [this];rfl
        ·cases hx
     ·cases hx
theorem qya{τ:Ty}(he:τ.qbT=true){o:Nat}{e:τ.den}{b:V}(hr:RTy τ o e b){cs:List TV}{cs':List V}(hc:RVL cs cs')(hlen:cs.length=τ.qbc)(h0:τ.qbc≠0):RV (qoZ (ofTy τ o e) cs) (qdx b cs'):=by
 have hd:∀(hone:τ.qbc=1),RV (cs.headD (.any [])) (cs'.headD .undef):=λ_=>by
  cases hc':cs with
  |nil=>rw [hc']at hlen;simp at hlen;omega
  |cons x l =>
   rw [hc']at hc;simp only [RVL]at hc;obtain ⟨v,m,rfl,h1,_⟩:=hc;exact h1
 cases τ with
 |int k=>simp only [RTy]at hr;subst hr;exact hd rfl
 |bool=>simp only [RTy]at hr;subst hr;exact hd rfl
 |str=>simp only [RTy]at hr;subst hr;exact hd rfl
 |flt=>simp only [RTy]at hr;obtain ⟨_,rfl,_⟩:=hr;exact hd rfl
 |cx=>simp only [RTy]at hr;obtain ⟨_,_,rfl,_⟩:=hr;exact hd rfl
 |err=>simp only [RTy]at hr;rcases hr with ⟨_,rfl⟩|⟨_,t9,rfl⟩<;>exact hd rfl
 |mset t=>simp [Ty.qbT]at he
 |sl t=>simp only [RTy]at hr;obtain ⟨f,c,l',rfl,_⟩:=hr;exact hd rfl
 |unit=>exact absurd rfl h0
 |pair a b' =>
  simp only [RTy]at hr;obtain ⟨v1,l,rfl,_⟩:=hr;simp only [ofTy,qoZ,qdx,RV];exact ⟨cs',rfl,hc⟩
theorem qvX{α β:Type}{R:α->β->Prop}{l:List α}{l':List β}(h:All2 R l l'):∀(i:Nat) {a:α} {b:β},R a b->All2 R (l.set i a) (l'.set i b):=by
 induction h with
 |nil=>intro i a b _;exact .nil
 |cons h1 h2 ih =>
  intro i a b hab;cases i with
  |zero=>exact .cons hab h2
  |succ i=>exact .cons h1 (ih i hab)
theorem qBh{ys:List TV}{ys':List V}(hy:RVL ys ys'):∀(p:List (Int×Nat×Nat)) (x:TV) (v:V) {R:Type} {k:TV->Option R} {r:R},qDA ys p x R k=some r->RV x v ->
  (∀e∈p,0<=e.1)/\∃y u,k y=some r/\qsk ys' (qjC p) v=some u/\RV y u:=by
 intro p;induction p with
 |nil=>intro x v R k r h;unfold qDA at h;cases h
 |cons q p ih =>
  obtain ⟨i,o,s⟩:=q;intro x v R k r h hx;by_cases hxs:∃τ lv l,x=.t (.sl τ) lv l
  ·obtain ⟨τ,lv,l,rfl⟩:=hxs;unfold qDA at h;split at h
   ·rename_i hc;obtain ⟨hown,hcl,hs0,hok,hel⟩:=hc;obtain ⟨e,he,h⟩:=qd.1 h;obtain ⟨h0,hget⟩:=qns he;simp only [RV,RTy]at hx;obtain ⟨fl,c,l',rfl,hfl,hall⟩:=hx;have hf:fl=.own:=hfl.own hown;subst hf;obtain ⟨b,hb,hr⟩:=hall.get hget;obtain ⟨hbl,hbo⟩:=ql1 hel hr;have hcells:=(RV.cells (qrH hel (nx lv) e) (rv_ofTy τ (nx lv) e b hr)).1;have hcl2:(ofTy τ (nx lv) e).cells.length=τ.qbc:=by rw [<- hcells.length,hbl]
    have hn0:τ.qbc≠0:=by rw [hcl];exact hs0
    have hfin:∀(cs:List TV) (cs':List V) (e':τ.den),RVL cs cs'->cs.length=τ.qbc->qhi τ (nx lv) (qoZ (ofTy τ (nx lv) e) cs)=some e' ->
      RV (.t (.sl τ) lv (l.set i.toNat e')) (.sl .own c (l'.set i.toNat (qdx b cs'))):=λcs cs' e' hcs hlen has=>by
     have:=qcU _ _ _ _ _ has (qya hel hr hcs hlen hn0);simp only [RV,RTy];exact ⟨.own,c,_,rfl,qe8 hown,qvX hall _ this⟩
    cases p with
    |nil =>
     simp only at h;split at h
     ·rename_i hle;split at h
      ·rename_i e' has;have hsp:=qkW (off:=o) hcells hy;refine ⟨by simp [h0],_,_,h,?_,hfin _ _ e' hsp ?_ has⟩
       ·simp only [qjC,qh,List.map_nil,qsk];rw [hb];simp only
        rw [if_pos ⟨by rw [hbl,hcl],hbo⟩,if_pos (by rw [hy.length];exact hle)]
       ·rw [<- hsp.length,qbL (by rw [hy.length,hbl,hcl];exact hle),hbl]
      ·cases h
     ·cases h
    |cons q2 p2 =>
     simp only at h;split at h
     ·rename_i z hz;obtain ⟨z',hz',hrz⟩:=hcells.get hz;obtain ⟨h1,y,u,hk,hupd,hyu⟩:=ih z z' h hrz;split at hk
      ·rename_i e' has;have hset:=hcells.set o hyu;refine ⟨λe he=>?_,_,_,hk,?_,hfin _ _ e' hset (by simp [hcl2]) has⟩
       ·rcases qk.1 he with rfl|he
        ·exact h0
        ·exact h1 e he
       ·have hpv:qjC ((i,o,s)::q2::p2)=(i.toNat,o,s)::qjC (q2::p2):=rfl;have hpn:qjC (q2::p2)=(q2.1.toNat,q2.2.1,q2.2.2)::qjC p2:=rfl;rw [hpv];rw [hpn]at hupd ⊢;unfold qsk;rw [hb];simp only
        rw [if_pos ⟨by rw [hbl,hcl],hbo⟩,hz'];simp only
        rw [hupd];rfl
      ·cases hk
     ·cases h
   ·cases h
  ·exfalso
   cases x with
   |t τ lv l =>
    cases τ with
    |sl τ=>exact hxs ⟨τ,lv,l,rfl⟩
    |_=>simp [qDA]at h
   |_=>simp [qDA]at h
theorem qEc{x:TV}{v:V}(h:RV x v):RV x.qef v.qef:=by
 unfold TV.qef V.qef;cases hf:x.firm with
 |true =>
  rw [RV.firm x v hf h];simpa using h
 |false =>
  simp only [qf,if_false];split
  ·exact qci _
  ·simp only [RV];exact ⟨λr hr=>RV.qt x v h r hr,qaI (qx.2 ⟨h,qad⟩)⟩
theorem qkO:∀{l:List TV} {l':List V},RVL l l'->RVL (l.map TV.qef) (l'.map V.qef)
 |[],l',h=>by simp only [RVL]at h;subst h;exact qad
 |x::l,l',h=>by
  simp only [RVL]at h;obtain ⟨v,m,rfl,h1,h2⟩:=h;exact qx.2 ⟨qEc h1,qkO h2⟩
theorem qwS:∀{l:List TV} {l':List V},RVL l l'->l.all TV.firm=true->l'.map V.qef=l'
 |[],l',h,_=>by simp only [RVL]at h;subst h;rfl
 |x::l,l',h,hf=>by
  simp only [RVL]at h;obtain ⟨v,m,rfl,h1,h2⟩:=h;simp only [List.all_cons,qe]at hf;simp only [qh];rw [qwS h2 hf.2];have:v.qef=v:=by unfold V.qef;rw [RV.firm x v hf.1 h1];rfl
  rw [this]
theorem qAP{E:Env}{i:Nat}{x:TV}(h:E.toL[i]?=some x)(hf:x.firm=false)(ha:x.isAny=false):i∈qEh E :=
 qB8 (by simp [TV.isAny]) h (by simp [hf,ha])
theorem qkU:∀{b:qK} {k:Nat} {c:List TV},qU b k=some (some c)->c.all TV.firm=false->(⟨0,k⟩:Root)∈qvy b
 |[],k,c,h,_=>by simp [qU]at h
 |(k',none)::b,k,c,h,hf=>by
  simp only [qU]at h;split at h
  ·cases h
  ·simp only [qvy];exact qkU h hf
 |(k',some d)::b,k,c,h,hf=>by
  simp only [qU]at h;simp only [qvy];split at h
  ·rename_i e;cases h;rw [hf];simp [e]
  ·split
   ·exact qkU h hf
   ·exact List.mem_cons_of_mem _ (qkU h hf)
theorem qgf(s:Nat):∀b:qK,qU (qzv b) s=(qU b s).map (Option.map (List.map TV.qef))
 |[]=>rfl
 |(k,c)::b=>by
  simp only [qzv,qh,qU];split
  ·rfl
  ·exact qgf s b
theorem qu9{x:TV}(h:x.isAny=true):∃rs,x=.any rs:=by cases x<;>first|exact ⟨_,rfl⟩|(simp [TV.isAny]at h)
def ql3(s:St)(T:List Tmp):St:={s with E:=(qA s.E T).map V.qef,B:=qkc s.B}
theorem qhz{st:TSt}(hL:st.L=[])(r:Root):st.cont r=if r.lvl=0 then (match qU st.B r.slot with|some (some c)=>some c|_=>none)else none:=by
 unfold TSt.cont;rw [hL];simp only [List.length_nil];by_cases h:r.lvl=0
 ·rw [if_pos h,if_pos h];cases qU st.B r.slot with
  |none=>rfl
  |some o=>cases o<;>rfl
 ·rw [if_neg h,if_neg h];simp
theorem qit{b:qK}(h:qoE b=true){k:Nat}{c:List TV}(hl:qU b k=some (some c)):isRec c=false:=by
 unfold qoE at h;rw [List.all_eq_true]at h;have:=h _ (qc8 hl);simpa using this
theorem ql4{st:TSt}{s:St}(h:Rst st s)(hL:st.L=[])(hn0:qoE st.B=true)(T:List Tmp):s.L=[]/\qgX s.B=true/\Rst (st.qbP T) (ql3 s T)/\Fr2 st (st.qbP T) s (ql3 s T):=by
 have hL':s.L=[]:=List.eq_nil_of_length_eq_zero (by rw [h.len,hL];rfl);have hB:∀k,RB (qU st.B k) (qy s.B k):=λk=>by
  have:=h.M.rel 0 k;unfold qan qar at this;simpa [TSt.all,qcJ,hL,hL']using this
 have hnd:(s.B.map (·.1)).Nodup:=h.M.nd s.B (by simp [qcJ]);have hlp:∀k c,qy s.B k=some c->qaj c=false:=λk c hc=>by
  have:=hB k;cases ht:qU st.B k with
  |none=>rw [ht]at this;simp only [RB]at this;rw [this]at hc;cases hc
  |some o =>
   rw [ht]at this;cases o with
   |none=>exact this c hc
   |some d=>obtain ⟨d',hd',hr⟩:=this;rw [hc]at hd';cases hd';exact qaI (hr.rvl (qit hn0 ht))
 have hE:=qj2 T h.E;have hlen:(qA s.E T).length=s.E.length:=qaV T s.E;have hfirmE:∀(t:Nat),t∉qEh (qbA st.E T)->∀x v,(qbA st.E T).toL[t]?=some x->(qA s.E T)[t]?=some v->x.firm=true\/∃rs,x=.any rs:=λt hts x v hx _=>by
  cases hf:x.firm with
  |true=>exact .inl rfl
  |false =>
   cases ha:x.isAny with
   |true=>exact .inr (qu9 ha)
   |false=>exact absurd (qAP hx hf ha) hts
 have hmap:((qbA st.E T).qu6 λ_ v=>v.qef).toL=(qbA st.E T).toL.map TV.qef:=by
  apply List.ext_getElem?;intro i;rw [qsd,List.getElem?_map]
 refine ⟨hL',?_,⟨by show RVL ((qbA st.E T).qu6 λ_ v=>v.qef).toL _;rw [hmap];exact qkO hE,?_⟩,?_⟩
 ·unfold qgX;rw [List.all_eq_true];rintro ⟨k,c⟩ hk;simp only [hlp k c (qgc hnd hk),Bool.not_false]
 ·refine ⟨by simp [TSt.all,qcJ,TSt.qbP,ql3,hL,hL'],λl k=>?_,λb hb=>?_,λl k c hc hlt=>?_⟩
  rotate_right
  ·unfold qar at hc;simp only [qcJ,ql3,hL',List.nil_append]at hc;cases l with
   |zero =>
    simp only [List.getElem?_cons_zero,qcf]at hc;obtain ⟨c0,h1,rfl⟩:=qc.1 hc;exact qs9 (h.M.mp 0 k c0 (by unfold qar;simpa [qcJ,hL']using h1) hlt)
   |succ l=>simp at hc
  ·unfold qan qar;simp only [TSt.all,qcJ,TSt.qbP,ql3,hL,hL',List.nil_append];cases l with
   |zero =>
    simp only [List.getElem?_cons_zero];rw [qgf,qcf];have:=hB k;cases ht:qU st.B k with
    |none=>rw [ht]at this;simp only [RB]at this;rw [this]<;>rfl
    |some o =>
     rw [ht]at this;cases o with
     |none =>
      simp only [qi,Option.map_none];intro c hc;obtain ⟨c0,h1,rfl⟩:=qc.1 hc;exact qoc (this c0 h1)
     |some d=>obtain ⟨d',hd',hr⟩:=this;rw [hd'];exact ⟨_,rfl,(qkO (hr.rvl (qit hn0 ht))).rc⟩
   |succ l=>simp [RB]
  ·simp only [qcJ,ql3,hL',List.nil_append,List.mem_singleton]at hb;subst hb;simpa [qkc,List.map_map,Function.comp_def]using hnd
 ·refine ⟨λt ht=>by simp [TSt.qbP,ht],λr hr=>by simp [TSt.qbP,hr],λt ht=>?_,λt ht rs hE'=>?_,λr hr=>?_,λr hr hsm=>?_,rfl,by simp [ql3,hlen]⟩
  ·simp only [TSt.qbP,Mask.mem_append,Mask.mem_ofList,not_or]at ht;simp only [ql3,List.getElem?_map];have hEt:=qnT h.E ht.1;rw [hEt];cases hv:s.E[t]? with
   |none=>left;rfl
   |some v =>
    simp only [qi];have hv2:(qA s.E T)[t]?=some v:=by rw [hEt];exact hv
    have hxt:∃x,(qbA st.E T).toL[t]?=some x:=by
     have hlt:t<(qbA st.E T).toL.length:=by
      have:=(qm.1 hv2).1;rw [<- hE.length];exact this
     exact ⟨_,List.getElem?_eq_getElem hlt⟩
    obtain ⟨x,hx⟩:=hxt;rcases hfirmE t ht.2.1 x v hx hv2 with hf|⟨rs,rfl⟩
    ·left
     obtain ⟨v',hv',hr⟩:=hE.get hx;rw [hv2]at hv';cases hv';unfold V.qef;rw [RV.firm x v hf hr];rfl
    ·unfold V.qef;cases hs:v.soft with
     |false=>left;rfl
     |true =>
      right
      exact ⟨qgD _ _ _ _ hx,rfl⟩
  ·simp only [TSt.qbP,Mask.mem_append,Mask.mem_ofList,not_or]at ht;simp only [TSt.qbP,hmap,List.getElem?_map]at hE';obtain ⟨x,hx,hxa⟩:=qc.1 hE';obtain ⟨v,hv,_⟩:=hE.get hx;rcases hfirmE t ht.2.1 x v hx hv with hf|⟨rs',rfl⟩
   ·unfold TV.qef at hxa;rw [hf]at hxa;simp only [if_true]at hxa;subst hxa;simp [TV.firm]at hf
   ·exact qgD _ _ _ _ hx
  ·simp only [TSt.qbP,qj,not_or]at hr;rw [qeF (st:=ql3 s T) hL',qeF hL'];by_cases h0:r.lvl=0
   ·rw [if_pos h0,if_pos h0];simp only [ql3,qcf];have:=hB r.slot;cases ht:qU st.B r.slot with
    |none=>rw [ht]at this;simp only [RB]at this;rw [this];left;rfl
    |some o =>
     rw [ht]at this;cases o with
     |none =>
      right
      refine ⟨by rw [hL'];rfl,by rw [qhz hL,if_pos h0,ht],by simp,λc hc=>?_⟩;obtain ⟨c0,h1,rfl⟩:=qc.1 hc;exact qoc (this c0 h1)
     |some d =>
      left
      obtain ⟨d',hd',hrr⟩:=this;rw [hd'];cases hf:d.all TV.firm with
      |true=>simp only [qi];rw [qwS (hrr.rvl (qit hn0 ht)) hf]
      |false =>
       exfalso
       refine hr.1 ?_;have:=qkU ht hf;obtain ⟨l,sl⟩:=r;simp only at h0 this;rw [h0];exact this
   ·rw [if_neg h0,if_neg h0];left;rfl
  ·rw [qhz hL]at hsm;have hL2:(st.qbP T).L=[]:=hL;rw [qhz hL2];by_cases h0:r.lvl=0
   ·rw [if_pos h0]at hsm ⊢;simp only [TSt.qbP,qgf];cases ht:qU st.B r.slot with
    |none=>rw [ht]at hsm;cases hsm
    |some o =>
     rw [ht]at hsm;cases o with
     |none=>cases hsm
     |some d=>rfl
   ·rw [if_neg h0]at hsm;cases hsm
theorem qAQ{st:TSt}{s:St}(h:Rst st s)(hL:st.L=[])(hn0:qoE st.B=true)(hB0:st.B.all (λp=>decide (p.1<16384))=true)(T:List Tmp):s.L=[]/\qtu s.B=true/\Rst (st.qbP T) (ql3 s T)/\Fr2 st (st.qbP T) s (ql3 s T):=by
 obtain ⟨hL',hnl,hR,hF⟩:=ql4 h hL hn0 T;refine ⟨hL',?_,hR,hF⟩;have hB:∀k,RB (qU st.B k) (qy s.B k):=λk=>by
  have:=h.M.rel 0 k;unfold qan qar at this;simpa [TSt.all,qcJ,hL,hL']using this
 have hnd:(s.B.map (·.1)).Nodup:=h.M.nd s.B (by simp [qcJ]);have hmp:∀k c,qy s.B k=some c->qho c=false:=λk c hc=>by
  by_cases hlt:k<16384
  ·have h9:qar (qcJ s) 0 k=some c:=by unfold qar;simpa [qcJ,hL']using hc
   exact h.M.mp 0 k c h9 hlt
  ·have:=hB k;cases ht:qU st.B k with
   |none=>rw [ht]at this;simp only [RB]at this;rw [this]at hc;cases hc
   |some o =>
    rw [List.all_eq_true]at hB0;have h9:=hB0 _ (qc8 ht);simp only [decide_eq_true_eq]at h9;omega
 unfold qtu;unfold qgX at hnl;rw [List.all_eq_true]at hnl ⊢;rintro ⟨k,c⟩ hk;have h1:=hnl _ hk;simp only [Bool.not_eq_true']at h1;simp only [qeV h1 (hmp k c (qgc hnd hk)),Bool.not_false]
theorem qEd{x:TV}{v:V}(h:RV x v):RV x.qef v:=by
 unfold TV.qef;split
 ·exact h
 ·simp only [RV];exact ⟨RV.qt x v h,qaI (qx.2 ⟨h,qad⟩)⟩
theorem qrZ:∀{l:List TV} {l':List V},RVL l l'->RVL (l.map TV.qef) l'
 |[],l',h=>h
 |x::l,l',h=>by
  simp only [RVL]at h;obtain ⟨v,m,rfl,h1,h2⟩:=h;exact qx.2 ⟨qEd h1,qrZ h2⟩
theorem qvz{st:TSt}{s:St}(h:Rst st s)(hL:st.L=[])(hn0:qoE st.B=true):Rst (st.qbP []) s/\Fr2 st (st.qbP []) s s:=by
 obtain ⟨hL',_,_,hf⟩:=ql4 h hL hn0 [];have hB:∀k,RB (qU st.B k) (qy s.B k):=λk=>by
  have:=h.M.rel 0 k;unfold qan qar at this;simpa [TSt.all,qcJ,hL,hL']using this
 have hE:RVL (qbA st.E []).toL s.E:=qj2 [] h.E;have hmap:((qbA st.E []).qu6 λ_ v=>v.qef).toL=(qbA st.E []).toL.map TV.qef:=by
  apply List.ext_getElem?;intro i;rw [qsd,List.getElem?_map]
 refine ⟨⟨by show RVL ((qbA st.E []).qu6 λ_ v=>v.qef).toL _;rw [hmap];exact qrZ hE,⟨by simp [TSt.all,qcJ,TSt.qbP,hL,hL'],λl k=>?_,h.M.nd,h.M.mp⟩⟩,⟨hf.wt,hf.wb,λ_ _=>.inl rfl,hf.an,λ_ _=>.inl rfl,hf.bn,rfl,rfl⟩⟩;unfold qan qar;simp only [TSt.all,qcJ,TSt.qbP,hL,hL',List.nil_append];cases l with
 |zero =>
  simp only [List.getElem?_cons_zero];rw [qgf];have:=hB k;cases ht:qU st.B k with
  |none=>rw [ht]at this;simp only [RB]at this;rw [this]<;>rfl
  |some o =>
   rw [ht]at this;cases o with
   |none=>exact this
   |some d=>obtain ⟨d',hd',hr⟩:=this;rw [hd'];exact ⟨_,rfl,(qrZ (hr.rvl (qit hn0 ht))).rc⟩
 |succ l=>simp [RB]
theorem qxg{xs:List Int}{o:Nat}{l:List V}(h:All2 (RTy (.int .i64) o) xs l):qn7 l=some xs:=by
 induction h with
 |nil=>rfl
 |cons h1 _ ih =>
  simp only [RTy]at h1;subst h1;simp only [qn7,ih,qi]
theorem qnK(o:Nat):∀xs:List Int,All2 (RTy (.int .i64) o) xs (qdd xs)
 |[]=>.nil
 |x::xs=>.cons (by simp only [RTy]) (qnK o xs)
theorem qC0{F:List Int->Option (List Int)}{t:Tmp}{d:Option Tmp}{st:TSt}{s:St}{R:Type}{k:TSt->Option R}{r:R}(hs:Rst st s)(h:qEq F t d st R k=some r) :
  ∃st' s',k st'=some r/\qiC F t d s=some s'/\Rst st' s'/\Fr2 st st' s s':=by
 unfold qEq at h;split at h
 ·rename_i hLn;simp only [qe,List.isEmpty_iff]at hLn;obtain ⟨hL,hn0⟩:=hLn;split at h
  ·rename_i o xs hget;split at h
   ·rename_i ho;obtain ⟨ys,hys,hk⟩:=qd.1 h;obtain ⟨hL',hnl,hR1,hF1⟩:=ql4 hs hL hn0 [];have hrt:=qxy hs.E t;rw [hget]at hrt;simp only [RV,RTy]at hrt;obtain ⟨f,c,l',hv,hfl,hall⟩:=hrt;have hf:=hfl.own ho;subst hf;have hin:=qxg (o:=0) hall;have hnew:RV (.t (.sl (.int .i64)) o ys) (.sl .own c (qdd ys)):=by
     simp only [RV,RTy];exact ⟨.own,c,_,rfl,hfl,qnK 0 ys⟩
    have hand:RV (.any []) V.undef:=qci [];cases hx:xs with
    |nil =>
     obtain ⟨hR0,hF0⟩:=qvz hs hL hn0;obtain ⟨hR2,hF2⟩:=qhU hR0 (some t) hnew;obtain ⟨hR3,hF3⟩:=qhU hR2 d hand;refine ⟨_,_,hk,?_,hR3,(hF0.trans hF2).trans hF3⟩;unfold qiC;rw [if_pos (by rw [hL',hnl];rfl),hv];simp only [hin,hys];rw [hx];rfl
    |cons x0 xs0 =>
     obtain ⟨hR2,hF2⟩:=qhU hR1 (some t) hnew;obtain ⟨hR3,hF3⟩:=qhU hR2 d hand;refine ⟨_,_,hk,?_,hR3,(hF1.trans hF2).trans hF3⟩;unfold qiC;rw [if_pos (by rw [hL',hnl];rfl),hv];simp only [hin,hys];rw [hx];rfl
   ·cases h
  ·cases h
 ·cases h
def qC8(h:Hole)(s:St):Prop:=∃c l' b,s.E[h.r]?=some (.sl .own c (l'.set h.j.toNat b))/\All2 (RTy h.τ (nx h.lv)) h.l l'/\b.cells=[b]/\b.oks=true/\(∀cs,qdx b cs=cs.headD .undef)/\0<=h.j/\h.j.toNat<l'.length/\qa5 h.lv=true
def qgv(h:Option Hole)(s:St):Prop:=∀x,h=some x->qC8 x s
theorem qp8{s:St}:qgv none s:=λx h=>by cases h
theorem qww{o:Oper}{hole:Option Hole}{s s':St}(h:qgv hole s)(hk:∀t:Nat,t∉tmpsOf o->o.dst≠some t->s'.E[t]?=s.E[t]?):qgv (qrv o hole) s':=by
 intro x hx;unfold qrv at hx;split at hx
 ·rename_i h0;split at hx
  ·cases hx
  ·rename_i hc;cases hx;simp only [not_or]at hc;obtain ⟨c,l',b,h1,h2⟩:=h x rfl;exact ⟨c,l',b,by rw [hk x.r (by simpa using hc.2) hc.1];exact h1,h2⟩
 ·cases hx
theorem qzK{o:Oper}{hole:Option Hole}{s:St}(h:qgv hole s)(v:V):qgv (qrv o hole) (s.put o.dst v) :=
 qww h λt _ h2=>by
  unfold St.put;cases hd:o.dst with
  |none=>rfl
  |some d =>
   simp only
   rw [List.getElem?_set_ne];rintro rfl;exact h2 hd
theorem qBH{hole:Option Hole}{r0:Tmp}{p:List (Int×Nat×Nat)}{x:TV}{v:V}{st:TSt}{s sV:St}{R:Type}{k:TSt->Option R}{r:R}(hh:qgv hole sV)(hx:RV x v)(hs:Rst st s)(h:qBG hole r0 p x st R k=some r) :
  (∀e∈p,0<=e.1)/\∃st' y,k st'=some r/\qsk v.cells (qjC p) (sV.E.getD r0 .undef)=some y/\y.soft=false/\Rst st' (s.put (some r0) y)/\Fr2 st st' s (s.put (some r0) y):=by
 unfold qBG at h;split at h
 ·rename_i hl i;split at h
  ·rename_i hr0;subst hr0;split at h
   ·rename_i τ o y;split at h
    ·rename_i e he;cases hd:decide (i=hl.j)with
     |false=>rw [hd]at h;cases h
     |true =>
      rw [hd]at h;simp only [cond_true]at h;have hij:i=hl.j:=of_decide_eq_true hd;subst hij;split at h
      ·rename_i hf;obtain ⟨c,l',b,h1,h2,h3,h4,h5,h6,h7,h8⟩:=hh hl rfl;have hvc:v.cells=[v]:=by
        simp only [RV,RTy]at hx;obtain ⟨f,c,m,rfl,_⟩:=hx;rfl
       have hy:=qcU _ _ _ _ _ he hx;have hnew:RV (.t (.sl hl.τ) hl.lv (hl.l.set hl.j.toNat e)) (.sl .own c (l'.set hl.j.toNat v)):=by
        simp only [RV,RTy];exact ⟨.own,c,_,rfl,qe8 h8,qvX h2 _ hy⟩
       obtain ⟨hR2,hF2⟩:=qhU hs (some hl.r) hnew;refine ⟨by simp [h6],_,_,h,?_,RV.firm _ _ hf hnew,hR2,hF2⟩;have hE:sV.E.getD hl.r .undef=.sl .own c (l'.set hl.j.toNat b):=by rw [List.getD_eq_getElem?_getD,h1];rfl
       rw [hE,hvc];simp only [qjC,qh,List.map_nil,qsk];have hg:(l'.set hl.j.toNat b)[hl.j.toNat]?=some b:=by rw [List.getElem?_set_self h7]
       rw [hg];simp only
       rw [if_pos ⟨by rw [h3];rfl,h4⟩,if_pos (by simp),h3,h5,List.set_set];simp [qM]
      ·cases h
    ·cases h
   ·cases h
  ·cases h
 ·cases h
theorem qE2{ops:Array Oper}{i:Nat}{o:Oper}{st:TSt}{s:St}{hole:Option Hole}{R:Type}{k:TSt->Option R}{r:R}(hs:Rst st s)(hh:qgv hole s)(h:lsT P H f ops i o st hole R k=some r) :
  ∃st' s',k st'=some r/\qi2 P H f ops i o s=some s'/\Rst st' s'/\Fr2 st st' s s':=by
 unfold lsT at h;split at h
 ·rename_i t d xo hop;simp only at h;split at h
  ·rename_i hc;simp only [qe,decide_eq_true_eq,List.isEmpty_iff]at hc;obtain ⟨⟨⟨⟨⟨⟨⟨⟨⟨hL,hn0⟩,hB0⟩,hdst⟩,hgd⟩,hnd⟩,hs0⟩,hxl⟩,hxo⟩,hxp⟩:=hc;obtain ⟨hL',hnl,hsoft,hfr⟩:=qAQ hs hL hn0 hB0 (tmpsOf o);have hrx:=qCt (H:=H) (f:=f) (o:=o) hs.E xo;obtain ⟨hcx,hox⟩:=RV.cells hxo hrx;have hpx:(rd H f o s.E xo).qt=[]:=by
    rw [List.eq_nil_iff_forall_not_mem];intro q hq;have:=RV.qt _ _ hrx q hq;rw [hxp]at this;cases this
   have hcond:(s.L.isEmpty&&qtu s.B&&o.dst.isNone&&o.guard.isNone&&qfk (tmpsOf o)&&decide (P.cellsOf t≠0)&&decide ((rd H f o s.E xo).cells.length=P.cellsOf t)&&(rd H f o s.E xo).oks&&(rd H f o s.E xo).qt.isEmpty)=true:=by
    simp only [qe,decide_eq_true_eq];exact ⟨⟨⟨⟨⟨⟨⟨⟨by rw [hL'];rfl,hnl⟩,hdst⟩,hgd⟩,hnd⟩,hs0⟩,by rw [hcx.length];exact hxl⟩,hox⟩,by rw [hpx];rfl⟩
   have hrev:∀p:List (Int×Nat×Nat),(qjC p).reverse=qjC p.reverse:=λp=>by simp [qjC]
   split at h
   ·rename_i r0 p hlk;split at h
    ·cases h
    ·rename_i hrT;split at h
     ·obtain ⟨hp0,st',y,hk,hupd,hysoft,hR2,hF2⟩:=qBH hh hrx hsoft h;have hlk':=qio hs.E _ _ _ _ _ _ hlk hp0;have hsing:(qjC p).reverse=qjC p:=by
       unfold qBG at h;split at h
       ·rfl
       ·cases h
      refine ⟨_,_,hk,?_,hR2,hfr.trans hF2⟩;unfold qi2;rw [hop];simp only
      rw [if_pos hcond,hlk'];simp only
      rw [if_neg hrT,hsing,hupd];simp only
      rw [hysoft];rfl
     obtain ⟨hp0,y,u,hk,hupd,hyu⟩:=qBh hcx _ _ _ h (qxy hs.E r0);split at hk
     ·rename_i hf;have hlk':=qio hs.E _ _ _ _ _ _ hlk (λe he=>hp0 e (by simpa using he));obtain ⟨hR2,hF2⟩:=qhU hsoft (some r0) hyu;refine ⟨_,_,hk,?_,hR2,hfr.trans hF2⟩;unfold qi2;rw [hop];simp only
      rw [if_pos hcond,hlk'];simp only
      rw [if_neg hrT,hrev,hupd];simp only
      rw [RV.firm y u hf hyu];rfl
     ·cases hk
   ·rename_i q off p hlk;split at h
    ·rename_i cs hcs;split at h
     ·rename_i z hz;obtain ⟨c',hc',hrc⟩:=hs.box hcs;obtain ⟨z',hz',hrz⟩:=hrc.get hz;obtain ⟨hp0,y,u,hk,hupd,hyu⟩:=qBh hcx _ _ _ h hrz;split at hk
      ·rename_i hf;have hlk':=qio hs.E _ _ _ _ _ _ hlk (λe he=>hp0 e (by simpa using he));have hsb:(st.qbP (tmpsOf o)).box q=some (cs.map TV.qef):=by
        have hL2:(st.qbP (tmpsOf o)).L=[]:=hL;refine qv9 ?_ (qqC (qkO hrc))
        replace hcs:=(qq8 hcs).1
        rw [qhz hL]at hcs;rw [qhz hL2];by_cases h0:q.lvl=0
        ·rw [if_pos h0]at hcs ⊢;simp only [TSt.qbP,qgf];split at hcs
         ·rename_i c hc;cases hcs;rw [hc];rfl
         ·cases hcs
        ·rw [if_neg h0]at hcs;cases hcs
       have hq0:q.lvl=0:=by
        rw [qeF hL']at hc';split at hc'
        ·assumption
        ·cases hc'
       obtain ⟨hR2,hF2⟩:=qh4 hsoft hsb ((qkO hrc).set off hyu) (λhlt=>qBS (qs9 (hs.M.mp q.lvl q.slot c' (by rw [<- qH];exact hc') hlt)) (by obtain ⟨c9,l9,h9⟩:=qvQ hupd;rw [h9];rfl));refine ⟨_,_,hk,?_,hR2,hfr.trans hF2⟩;unfold qi2;rw [hop];simp only
       rw [if_pos hcond,hlk'];simp only
       rw [hc'];simp only
       rw [hz'];simp only
       rw [hrev,hupd];simp only
       rw [RV.firm y u hf hyu];simp only [qf,if_false,qb];unfold St.qq ql3;rw [if_pos (by rw [hq0,hL'];rfl)]
      ·cases hk
     ·cases h
    ·cases h
   ·cases h
  ·cases h
 ·cases h
theorem qzR{o:Oper}{E:Env}{E':List V}(h:RVL E.toL E')(hg:qu4 H f o E=true):qeG H f o E'=true:=by
 unfold qu4 at hg;unfold qeG;simp only [Bool.or_eq_true,qe]at hg ⊢;refine hg.imp id λ⟨h1,h2⟩=>⟨?_,?_⟩
 ·rw [h.length,qjN];exact h1
 ·split
  ·rename_i t a hop;rw [hop]at h2;simp only [Bool.or_eq_true]at h2 ⊢;refine h2.imp id λh3=>?_;have:=qxy h a;cases hx:E.get a with
   |cptr l=>rw [hx]at this;simp only [RV]at this;obtain ⟨f',l',hl',_⟩:=this;rw [hl']<;>rfl
   |_=>rw [hx]at h3;cases h3
  ·rfl
theorem qnm(hT:TOk P H lib T)(hO:OOk P H lib O){ops:Array Oper}{R:Type}{k:TSt->Option R}{r:R}:∀(is:List Nat) (st:TSt) (s:St),Rst st s->qxu P H J T O ctx f ops is st R k=some r ->
  ∃st' s',k st'=some r/\Ev (λC=>qfT P H C f ops is s=some s') P H lib/\Rst st' s'/\Fr2 st st' s s'
 |[],st,s,hs,h=>⟨st,s,h,.of λC=>rfl,hs,Fr2.refl _ _⟩
 |i::is,st,s,hs,h=>by
  simp only [qxu]at h;split at h
  ·cases h
  ·rename_i o ho;obtain ⟨st1,b,hw,hs1,hf1,hb⟩:=quR hs h;cases b with
   |true =>
    simp only [if_true]at hb;obtain ⟨st2,fp,s2,hk,hev,hR,hF,hkeep⟩:=ql8 hT hO hs1 hb;obtain ⟨st3,s3,hk3,hev3,hR3,hF3⟩:=qnm hT hO is st2 s2 hR hk;refine ⟨st3,s3,hk3,(hev.and hev3).imp λC hC=>?_,hR3,(hf1.trans hF).trans hF3⟩;simp only [qfT,ho,hw,qkX,hC.1,qi,hC.2]
   |false =>
    simp only [qf,if_false]at hb;obtain ⟨hR,hF⟩:=qhU hs1 o.dst (v:=.val undef) (u:=.val undef) (by simp [RV]);obtain ⟨st3,s3,hk3,hev3,hR3,hF3⟩:=qnm hT hO is _ _ hR hb;refine ⟨st3,s3,hk3,hev3.imp λC hC=>?_,hR3,(hf1.trans hF).trans hF3⟩;simp only [qfT,ho,hw,hC]
def Cov(l:List (Nat×Foot))(e:Nat×Foot):Prop:=∃e'∈l,e'.1=e.1/\e'.2.fp=e.2.fp/\e'.2.looks=e.2.looks/\∀t∈e.2.took,t∈e'.2.took
theorem qBc{o:Oper}{E:Env}{E':List V}(h:RVL E.toL E'):∀t∈qfQ H f o E',t∈qmf H f o E:=λt ht=>by
 unfold qfQ at ht;unfold qmf;split at ht
 ·rename_i htk;rw [if_pos htk];simp only [List.mem_filter]at ht ⊢;exact ⟨ht.1,RV.owns _ _ (qxy h t) ht.2⟩
 ·cases ht
theorem qnX(hT:TOk P H lib T)(hO:OOk P H lib O){ops:Array Oper}{R:Type}{k:TSt->List (Nat×Foot)->Option R}{r:R}:∀(is:List Nat) (st:TSt) (s:St) (acc:List (Nat×Foot)),Rst st s->qsK P H J T O ctx f ops is st acc R k=some r ->
  ∃st' s' fps fpv,k st' fps=some r/\Ev (λC=>qgH P H C f ops is s=some (s',fpv)) P H lib/\Rst st' s'/\Fr2 st st' s s'/\(∀e∈acc,e∈fps)/\(∀e∈fpv,Cov fps e)
 |[],st,s,acc,hs,h=>⟨st,s,acc,[],h,.of λC=>rfl,hs,Fr2.refl _ _,λe he=>he,by simp⟩
 |i::is,st,s,acc,hs,h=>by
  simp only [qsK]at h;split at h
  ·cases h
  ·rename_i o ho;obtain ⟨st1,b,hw,hs1,hf1,hb⟩:=quR hs h;cases b with
   |true =>
    simp only [if_true]at hb;obtain ⟨st2,fp,s2,hk,hev,hR,hF,hkeep⟩:=ql8 hT hO hs1 hb;obtain ⟨st3,s3,fps,fpv,hk3,hev3,hR3,hF3,hacc,hcov⟩:=qnX hT hO is st2 s2 _ hR hk;refine ⟨st3,s3,fps,(i,⟨fp,qfQ H f o s.E,qbp H f ops o⟩)::fpv,hk3,(hev.and hev3).imp λC hC=>?_,hR3,(hf1.trans hF).trans hF3,λe he=>hacc e (by simp [he]),λe he=>?_⟩
    ·simp only [qgH,qhu,ho,hw,hC.1,qi,hC.2]
    ·rcases qk.1 he with rfl|he
     ·exact ⟨_,hacc _ (List.mem_cons_self ..),rfl,rfl,rfl,λt ht=>qBc hs1.E t ht⟩
     ·exact hcov e he
   |false =>
    simp only [qf,if_false]at hb;obtain ⟨hR,hF⟩:=qhU hs1 o.dst (v:=.val undef) (u:=.val undef) (by simp [RV]);obtain ⟨st3,s3,fps,fpv,hk3,hev3,hR3,hF3,hacc,hcov⟩:=qnX hT hO is _ _ _ hR hb;refine ⟨st3,s3,fps,(i,⟨.none,[],qbp H f ops o⟩)::fpv,hk3,hev3.imp λC hC=>?_,hR3,(hf1.trans hF).trans hF3,λe he=>hacc e (by simp [he]),λe he=>?_⟩
    ·simp only [qgH,qhu,ho,hw,hC,qi]
    ·rcases qk.1 he with rfl|he
     ·exact ⟨_,hacc _ (List.mem_cons_self ..),rfl,rfl,rfl,λt ht=>by cases ht⟩
     ·exact hcov e he
theorem qEK{ops:Array Oper}{i:Nat}{o:Oper}{st:TSt}{s:St}{R:Type}{k:TSt->Hole->Option R}{r:R}(hs:Rst st s)(h:apT P H f ops i o st R k=some r) :
  ∃st' s' hole,k st' hole=some r/\qeb P H f ops i o s=some s'/\Rst st' s'/\Fr2 st st' s s'/\qC8 hole s':=by
 unfold apT at h;split at h
 ·rename_i argTypes args _ hop;split at h
  ·rename_i d hd;split at h
   ·rename_i r0 j hlk;split at h
    ·cases h
    ·rename_i hrd;simp only [not_or]at hrd;split at h
     ·rename_i τ lv l hE;split at h
      ·rename_i hown;simp only [qe]at hown;obtain ⟨e,he,hk⟩:=qd.1 h;obtain ⟨h0,hget⟩:=qns he;have hlk':=qio hs.E _ _ _ _ _ _ hlk (λe he=>by simp only [List.mem_singleton]at he;subst he;exact h0);have hr:=qxy hs.E r0;rw [hE]at hr;simp only [RV,RTy]at hr;obtain ⟨fl,c,l',hv,hfl,hall⟩:=hr;have hf:fl=.own:=hfl.own hown.1;subst hf;obtain ⟨b,hb,hrb⟩:=hall.get hget;have hrb0:RTy (.sl τ) (nx lv) e b:=hrb;obtain ⟨f2,c2,l2,rfl,hf2,hall2⟩:=hrb;have hf2':f2=.own:=hf2.own hown.2;subst hf2';have hlen:s.E.length=st.E.n:=by rw [hs.E.length,qjN]
       have hr0lt:r0<s.E.length:=by
        rcases Nat.lt_or_ge r0 s.E.length with h9|h9
        ·exact h9
        ·exfalso
         rw [List.getD_eq_getElem?_getD,List.getElem?_eq_none h9]at hv;cases hv
       have hjl:j.toNat<l'.length:=(qm.1 hb).1;have hdl:(V.sl .own c2 l2).qab=.sl .qab c2 (reflagL qX l2):=rfl;let y:V:=.sl .own c (l'.set j.toNat (V.qab (.sl .own c2 l2)))
       have hyp:y.qt=[]:=by simp [y,V.qt]
       refine ⟨_,{s with E:=(s.E.set r0 y).set d (.sl .own c2 l2)},_,hk,?_,⟨?_,hs.M⟩,?_,?_⟩
       ·unfold qeb;rw [hop];simp only
        rw [hd];simp only
        rw [hlk'];simp only [qjC,qh,List.map_nil];rw [if_neg (by simp only [not_or];exact ⟨hrd.1,by omega⟩),hv];simp only [qCU,hb];simp [y]
       ·show RVL ((st.E.set r0 (.any [])).set d _).toL _;rw [qdR,qdR];refine (hs.E.set r0 ?_).set d ?_
        ·simp only [RV];exact ⟨by rw [hyp];simp,by simp [y,qaj]⟩
        ·simp only [RV];exact hrb0
       ·refine ⟨λt ht=>by simp [Mask.mem_ins,ht],λq hq=>hq,λt ht=>.inl ?_,λt ht rs hE'=>?_,λq hq=>.inl rfl,λq hq h=>h,rfl,by simp⟩
        ·simp only [Mask.mem_ins,not_or]at ht;simp only
         rw [List.getElem?_set_ne (Ne.symm ht.2.1),List.getElem?_set_ne (Ne.symm ht.1)]
        ·simp only [Mask.mem_ins,not_or]at ht;simp only [qdR]at hE';rw [List.getElem?_set_ne (Ne.symm ht.2.1),List.getElem?_set_ne (Ne.symm ht.1)]at hE';exact ⟨rs,hE'⟩
       ·refine ⟨c,l',V.qab (.sl .own c2 l2),?_,hall,rfl,by simp [hdl,V.oks,V.cells,V.one],λcs=>by rw [hdl];rfl,h0,hjl,hown.1⟩;simp only
        rw [List.getElem?_set_ne (Ne.symm hrd.1),List.getElem?_set_self hr0lt]
      ·cases h
     ·cases h
   ·cases h
  ·cases h
 ·cases h
theorem qj3(hT:TOk P H lib T)(hO:OOk P H lib O){ops:Array Oper}{R:Type}{k:TSt->List (Nat×Foot)->Option R}{r:R}:∀(is:List Nat) (st:TSt) (s:St) (hole:Option Hole) (acc:List (Nat×Foot)),Rst st s->qgv hole s->qiW P H J T O ctx f ops is st hole acc R k=some r ->
  ∃st' s' fps fpv,k st' fps=some r/\Ev (λC=>qgG P H C f ops is s=some (s',fpv)) P H lib/\Rst st' s'/\Fr2 st st' s s'/\(∀e∈acc,e∈fps)/\(∀e∈fpv,Cov fps e)
 |[],st,s,hole,acc,hs,hh,h=>⟨st,s,acc,[],h,.of λC=>rfl,hs,Fr2.refl _ _,λe he=>he,by simp⟩
 |i::is,st,s,hole,acc,hs,hh,h=>by
  simp only [qiW]at h;split at h
  ·cases h
  ·rename_i o ho;split at h
   ·rename_i hls;obtain ⟨st2,s2,hk,hst,hR,hF⟩:=qE2 hs hh h;obtain ⟨st3,s3,fps,fpv,hk3,hev3,hR3,hF3,hacc,hcov⟩:=qj3 hT hO is st2 s2 none _ hR qp8 hk;refine ⟨st3,s3,fps,(i,⟨.all,[],looksAt ops o⟩)::fpv,hk3,hev3.imp λC hC=>?_,hR3,hF.trans hF3,λe he=>hacc e (by simp [he]),λe he=>?_⟩
    ·simp only [qgG,qi5,ho,hls,if_true,hst,qi,hC]
    ·rcases qk.1 he with rfl|he
     ·exact ⟨_,hacc _ (List.mem_cons_self ..),rfl,rfl,rfl,λt ht=>ht⟩
     ·exact hcov e he
   ·rename_i hls;have fin:∀(st:TSt) (s0:St) (hole:Option Hole),Rst st s0->qgv hole s0 ->
      (quQ ops o st R
       (λst=>qjK P H J T O ctx f o st R λst' fp=>qiW P H J T O ctx f ops is st' (qrv o hole) ((i,⟨fp,qmf H f o st.E,qbp H f ops o⟩)::acc) R k)
       (λst=>qiW P H J T O ctx f ops is (st.put o.dst (.val undef)) (qrv o hole) ((i,⟨.none,[],qbp H f ops o⟩)::acc) R k))=some r ->
      ∃st' s' fps fpv,k st' fps=some r/\Ev (λC=>∃s1 ft rest,qhu P H C f ops i s0=some (s1,ft)/\qgG P H C f ops is s1=some (s',rest)/\fpv=(i,ft)::rest) P H lib/\Rst st' s'/\Fr2 st st' s0 s'/\(∀e∈acc,e∈fps)/\(∀e∈fpv,Cov fps e):=by
     intro st s0 hole hs hh h;obtain ⟨st1,b,hw,hs1,hf1,hb⟩:=quR hs h;cases b with
     |true =>
      simp only [if_true]at hb;obtain ⟨st2,fp,s2,hk,hev,hR,hF,hkeep⟩:=ql8 hT hO hs1 hb;obtain ⟨st3,s3,fps,fpv,hk3,hev3,hR3,hF3,hacc,hcov⟩:=qj3 hT hO is st2 s2 _ _ hR (qww hh hkeep) hk;refine ⟨st3,s3,fps,(i,⟨fp,qfQ H f o s0.E,qbp H f ops o⟩)::fpv,hk3,(hev.and hev3).imp λC hC=>⟨s2,_,fpv,?_,hC.2,rfl⟩,hR3,(hf1.trans hF).trans hF3,λe he=>hacc e (by simp [he]),λe he=>?_⟩
      ·simp only [qhu,ho,hw,hC.1,qi]
      ·rcases qk.1 he with rfl|he
       ·exact ⟨_,hacc _ (List.mem_cons_self ..),rfl,rfl,rfl,λt ht=>qBc hs1.E t ht⟩
       ·exact hcov e he
     |false =>
      simp only [qf,if_false]at hb;obtain ⟨hR,hF⟩:=qhU hs1 o.dst (v:=.val undef) (u:=.val undef) (by simp [RV]);obtain ⟨st3,s3,fps,fpv,hk3,hev3,hR3,hF3,hacc,hcov⟩:=qj3 hT hO is _ _ _ _ hR (qzK hh _) hb;refine ⟨st3,s3,fps,(i,⟨.none,[],qbp H f ops o⟩)::fpv,hk3,hev3.imp λC hC=>⟨_,_,fpv,?_,hC,rfl⟩,hR3,(hf1.trans hF).trans hF3,λe he=>hacc e (by simp [he]),λe he=>?_⟩
      ·simp only [qhu,ho,hw]
      ·rcases qk.1 he with rfl|he
       ·exact ⟨_,hacc _ (List.mem_cons_self ..),rfl,rfl,rfl,λt ht=>by cases ht⟩
       ·exact hcov e he
    split at h
    ·rename_i hap;split at h
     ·cases h
     rename_i hilk;obtain ⟨st1,s1,hl,hk,hta,hR,hF,hhl⟩:=qEK hs h;obtain ⟨st3,s3,fps,fpv,hk3,hev3,hR3,hF3,hacc,hcov⟩:=fin st1 s1 (some hl) hR (λx hx=>by cases hx;exact hhl) hk;refine ⟨st3,s3,fps,fpv,hk3,hev3.imp λC ⟨s2,ft,rest,h1,h2,h3⟩=>?_,hR3,hF.trans hF3,hacc,hcov⟩;simp only [qgG,qi5,ho,hls,hap,hilk,hta,if_true,qf,if_false,qa,h1,h2,h3,qi]
    ·rename_i hap;split at h
     ·rename_i hgt;have hg:=qzR hs.E hgt;obtain ⟨st3,s3,fps,fpv,hk3,hev3,hR3,hF3,hacc,hcov⟩:=fin st s hole hs hh h;refine ⟨st3,s3,fps,fpv,hk3,hev3.imp λC ⟨s2,ft,rest,h1,h2,h3⟩=>?_,hR3,hF3,hacc,hcov⟩;simp only [qgG,qi5,ho,hls,hap,hg,if_true,qf,if_false,h1,h2,h3,qi]
     ·cases h
theorem qqi{l l' m:List Tmp}(h:∀t∈l,t∈l')(hm:meets l m=true):meets l' m=true:=by
 unfold meets at hm ⊢;rw [List.any_eq_true]at hm ⊢;obtain ⟨t,ht,h2⟩:=hm;exact ⟨t,h t ht,h2⟩
theorem qts{U:List (Nat×Nat)}{fps fpv:List (Nat×Foot)}(hc:∀e∈fpv,Cov fps e)(h:qhN U fps=true):qhN U fpv=true:=by
 unfold qhN at h ⊢;rw [List.all_eq_true]at h ⊢;rintro ⟨i,j⟩ hu;have h1:=h (i,j) hu;simp only [List.all_eq_true]at h1 ⊢;rintro ⟨a,p⟩ ha;obtain ⟨⟨a',p'⟩,hp',hpa,hpf,hpl,hpt⟩:=hc (a,p) ha;simp only at hpa hpf hpl hpt;subst hpa;have h2:=h1 (a',p') hp';simp only [Bool.or_eq_true,List.all_eq_true]at h2 ⊢;rcases h2 with h2|h2
 ·exact .inl h2
 ·right
  rintro ⟨b,q⟩ hb;obtain ⟨⟨b',q'⟩,hq',hqa,hqf,hql,hqt⟩:=hc (b,q) hb;simp only at hqa hqf hql hqt;subst hqa;have h3:=h2 (b',q') hq';simp only [Bool.not_eq_true']at h3 ⊢;rcases h3 with h3|h3
  ·exact .inl h3
  ·right
   cases hcl:Foot.qgB p q with
   |false=>rfl
   |true =>
    have:Foot.qgB p' q'=true:=by
     unfold Foot.qgB at hcl ⊢;simp only [Bool.or_eq_true]at hcl ⊢;rw [<- hpf,<- hqf,<- hpl,<- hql]at hcl;rcases hcl with (h4|h4)|h4
     ·exact .inl (.inl h4)
     ·exact .inl (.inr (qqi hpt h4))
     ·exact .inr (qqi hqt h4)
    rw [this]at h3;cases h3
theorem qir{σ ρ:Type}{g:σ->Option (σ⊕ρ)}{s:σ}{r:ρ}(h:qG g s=some r):∃n,qc9 g n s=some r:=by
 unfold qG at h;split at h
 ·rename_i hex;cases h;exact ⟨_,Classical.choose_spec (Classical.choose_spec hex)⟩
 ·cases h
theorem qzW{j:Join}{bid:Nat}{c:Code}(ih:Snd (tx P H J T O ctx f bid c) (qBn P H lib f bid c)){st:TSt}{s0:St}(hst:Rst st s0){R:Type}{k:Ex->TSt->Option R}{r:R} :
  ∀(n:Nat) (x:denL (j.ps.map (·.1))) (s:St),Rst (st.fresh.qbG j (ofL j.ps x)) s->Fr2 st.fresh (st.fresh.qbG j (ofL j.ps x)) s0 s ->
   qc9 (λx=>match (st.fresh.qbG j (ofL j.ps x)).clear (H.clear f bid)with
      |some st1=>tx P H J T O ctx f bid c st1 (denL (j.ps.map (·.1))⊕R) λe st2=>match e with
       |.normal=>(st2.outs st j).map .inl
       |e=>(k e (st2.merge st)).map .inr
      |none=>none) n x=some r ->
   ∃e st' s',qBn P H lib f bid (.loop c) s e s'/\Rst st' s'/\Fr2 st st' s0 s'/\k e st'=some r
 |0,x,s,hs,hf,h=>by simp [qc9]at h
 |n+1,x,s,hs,hf,h=>by
  simp only [qc9]at h;cases hcl:(st.fresh.qbG j (ofL j.ps x)).clear (H.clear f bid)with
  |none=>rw [hcl]at h;simp at h
  |some st1 =>
   rw [hcl]at h;simp only at h;obtain ⟨s1,hv1,hs1,hf1⟩:=qii hs hcl;have done:∀(e:Ex) (st2:TSt) (s2:St),e≠.normal->qBn P H lib f bid c s1 e s2->Rst st2 s2->Fr2 st1 st2 s1 s2->k e (st2.merge st)=some r ->
     ∃e st' s',qBn P H lib f bid (.loop c) s e s'/\Rst st' s'/\Fr2 st st' s0 s'/\k e st'=some r:=by
    intro e st2 s2 hne hev hR hF hk;refine ⟨e,st2.merge st,s2,hev.imp λC hC=>?_,hR.merge,qwC ((hf.trans hf1).trans hF),hk⟩;simp only [ex,hv1,hC];cases e with
    |normal=>exact absurd rfl hne
    |_=>rfl
   split at h
   ·rename_i x' hx';obtain ⟨e,st2,s2,hev,hR,hF,hk⟩:=ih st1 _ _ _ s1 hx' hs1;cases e with
    |normal =>
     obtain ⟨y,hy,hy2⟩:=qc.1 hk;cases hy2;have hF0:Fr2 st.fresh st2 s0 s2:=(hf.trans hf1).trans hF;have hy':st2.outs st.fresh j=some x':=hy;obtain ⟨e',st',s',hev',hR',hF',hk'⟩:=qzW ih hst n x' s2 (qix hst.fresh hR hF0 hy') (qiw (st:=st.fresh) hR hF0 hy') h;refine ⟨e',st',s',?_,hR',hF',hk'⟩;obtain ⟨n1,h1⟩:=hev;obtain ⟨n2,h2⟩:=hev';refine ⟨max n1 (n2+1),λm hm=>?_⟩;have e1:=h1 m (by omega);obtain ⟨m',rfl⟩:∃m',m=m'+1:=⟨m-1,by omega⟩
     have e2:=h2 m' (by omega);have hun:ex P H (qsh P H lib (m'+1)) f bid (.loop c) s=(match s.clear (H.clear f bid)with
      |some st=>match ex P H (qsh P H lib (m'+1)) f bid c st with
       |some (.normal,s)=>(qsh P H lib (m'+1)).code f bid (.loop c) s
       |r=>r
      |none=>none):=by simp only [ex]<;>rfl
     show ex P H (qsh P H lib (m'+1)) f bid (.loop c) s=_;rw [hun,hv1];simp only [e1];exact e2
    |exit id =>
     obtain ⟨y,hy,hy2⟩:=qc.1 hk;cases hy2
    |ret =>
     obtain ⟨y,hy,hy2⟩:=qc.1 hk;cases hy2
   ·rename_i y hx';cases h;obtain ⟨e,st2,s2,hev,hR,hF,hk⟩:=ih st1 _ _ _ s1 hx' hs1;cases e with
    |normal =>
     obtain ⟨y,hy,hy2⟩:=qc.1 hk;cases hy2
    |exit id =>
     obtain ⟨y',hy,hy2⟩:=qc.1 hk;cases hy2;exact done _ _ _ (by simp) hev hR hF hy
    |ret =>
     obtain ⟨y',hy,hy2⟩:=qc.1 hk;cases hy2;exact done _ _ _ (by simp) hev hR hF hy
   ·cases h
theorem qCO{j:Join}{st:TSt}{s:St}(hs:Rst st s)(hf:st.qlj j=true){x:denL (j.ps.map (·.1))}(hx:asL j.ps (j.lv.map st.get)=some x) :
  Rst (st.fresh.qbG j (ofL j.ps x)) s/\Fr2 st.fresh (st.fresh.qbG j (ofL j.ps x)) s s:=by
 have ho:st.fresh.outs st.fresh j=some x:=by
  unfold TSt.outs;have h1:st.fresh.qlj j=true:=hf;have h2:st.fresh.wrote j=true:=by
   have:Mask.empty.sub j.D=true:=Mask.qFk λt ht=>absurd ht Mask.mem_empty;simp [TSt.wrote,TSt.fresh,this]
  have h3:st.fresh.qFv st.fresh j=true:=by
   unfold TSt.qFv;rw [List.all_eq_true];intro r _;cases st.fresh.cont r<;>simp
  rw [h1,h2,h3];exact hx
 exact ⟨qix hs.fresh hs.fresh (Fr2.refl _ _) ho,qiw (st:=st.fresh) hs.fresh (Fr2.refl _ _) ho⟩
theorem qpq(ops:Array Oper):qia H ops true=none:=by
 unfold qia;split
 ·rename_i h _;cases h
 ·rfl
theorem qy5(s:St):s.clear []=some s:=by
 have h1:qT [] s.B=s.B:=by
  have:∀B:Level,qT [] B=B:=λB=>by
   induction B with
   |nil=>rfl
   |cons p B ih=>obtain ⟨k,c⟩:=p;simp [qT,ih]
  exact this s.B
 unfold St.clear;simp only [h1,true_or,if_true];rfl
theorem qD7{D:List Tmp}{st st1:TSt}{s:St}(h:Rst st s)(hc:qEC D st=some st1):∃s1,s.clear D=some s1/\Rst st1 s1/\Fr2 st st1 s s1:=by
 cases D with
 |nil =>
  simp only [qEC,qb]at hc;subst hc;exact ⟨s,qy5 s,h,Fr2.refl _ _⟩
 |cons d D=>exact qii h hc
theorem qge(L:List qK)(B:qK)(l k:Nat):qan (L++[B]) l k=if l=L.length then qU B k else qan L l k:=by
 unfold qan;by_cases h:l=L.length
 ·subst h;simp
 ·rw [if_neg h];by_cases hlt:l<L.length
  ·rw [qg hlt]
  ·rw [List.getElem?_eq_none (by simp;omega),List.getElem?_eq_none (by omega)]
theorem qb3(L:List Level)(B:Level)(l k:Nat):qar (L++[B]) l k=if l=L.length then qy B k else qar L l k:=by
 unfold qar;by_cases h:l=L.length
 ·subst h;simp
 ·rw [if_neg h];by_cases hlt:l<L.length
  ·rw [qg hlt]
  ·rw [List.getElem?_eq_none (by simp;omega),List.getElem?_eq_none (by omega)]
theorem LR.last{M:List qK}{M':List Level}{b:qK}{b':Level}(h:LR (M++[b]) (M'++[b']))(k:Nat):RB (qU b k) (qy b' k):=by
 have hl:M'.length=M.length:=by have:=h.len;simp at this;exact this
 have:=h.rel M.length k;rw [qge,qb3,if_pos rfl,if_pos hl.symm]at this;exact this
theorem LR.qDr{M:List qK}{M':List Level}{b c:qK}{b' c':Level}(h:LR (M++[b]) (M'++[b']))(hr:∀k,RB (qU c k) (qy c' k))(hn:(c'.map (·.1)).Nodup)(hm:∀k x,qy c' k=some x->k<16384->qho x=false):LR (M++[c]) (M'++[c']):=by
 have hl:M'.length=M.length:=by have:=h.len;simp at this;exact this
 refine ⟨by simp [hl],λl k=>?_,λq hq=>?_,λl k x hx hlt=>?_⟩
 ·have:=h.rel l k;rw [qge,qb3,hl]at this ⊢;by_cases e:l=M.length
  ·rw [if_pos e,if_pos e];exact hr k
  ·rw [if_neg e,if_neg e]at this ⊢;exact this
 ·simp only [qj,List.mem_singleton]at hq;rcases hq with hq|rfl
  ·exact h.nd q (by simp [hq])
  ·exact hn
 ·have:=h.mp l k x;rw [qb3]at this hx;by_cases e:l=M'.length
  ·rw [if_pos e]at hx;exact hm k x hx hlt
  ·rw [if_neg e]at this hx;exact this hx hlt
theorem qAn{M:List qK}{M':List Level}{b:qK}{b':Level}(h:LR (M++[b]) (M'++[b']))(hf:qxx b=true){r:Root}(hr:r∈qna b'):r∈qkE b:=by
 obtain ⟨k,c,hk,hrc⟩:=qtH hr;have hlk:=qgc (h.nd b' (by simp)) hk;have hb:=h.last k;cases ht:qU b k with
 |none=>rw [ht]at hb;simp only [RB]at hb;rw [hb]at hlk;cases hlk
 |some o =>
  obtain ⟨d,rfl⟩:=qwk hf (qc8 ht);rw [ht]at hb;obtain ⟨d',hd',hr'⟩:=hb;rw [hd']at hlk;cases hlk;exact qql (qc8 ht) (hr'.qt r hrc)
theorem qCs(hT:TOk P H lib T)(hO:OOk P H lib O){bid:Nat}{g:Operand}{ps:Array Tmp}{asz bo:Code}{st:TSt}{R:Type}{k:Ex->TSt->Option R}{r:R}{s:St}
  (h:tx P H J T O ctx f bid (.rangeFunc g ps asz bo) st R k=some r) (hs:Rst st s) :
  ∃e st' s',qBn P H lib f bid (.rangeFunc g ps asz bo) s e s'/\Rst st' s'/\Fr2 st st' s s'/\k e st'=some r:=by
 simp only [tx]at h;split at h
 ·rename_i hh first cap t ts hgv hps;split at h
  ·rename_i hnb;simp only [qe,Option.isNone_iff_eq_none,decide_eq_true_eq]at hnb;obtain ⟨hn,ht⟩:=hnb;have hlen:=hs.len;have hnV:=qeX hs hn;have hg:=qCt (H:=H) (f:=f) (o:=default) hs.E g;rw [hgv]at hg;simp only [RV]at hg;obtain ⟨first',cap',hV,hf1,hc1⟩:=hg;have hE:RVL (dullL st.E.toL) (s.E.map V.qab):=by
    have:=hs.E.qab;rw [qaF]at this;exact this
   have hR1:Rst {st with B:=(t,some [.lp .ready none f (dullL st.E.toL) (t::ts) asz bo])::st.B,Wb:=⟨st.L.length,t⟩::st.Wb} {s with B:=(t,[.lp .ready none f (s.E.map V.qab) (t::ts) asz bo])::s.B}:=by
    refine ⟨hs.E,LR.qDr hs.M (λq=>?_) ?_ (λq x hx hlt=>?_)⟩
    ·simp only [qU,qy];by_cases e:t=q
     ·rw [if_pos e,if_pos e];exact ⟨_,rfl,_,rfl,hE⟩
     ·rw [if_neg e,if_neg e];exact hs.M.last q
    ·have:=hs.M.nd s.B (by simp [qcJ]);simp only [qh,List.nodup_cons];refine ⟨λhm=>?_,this⟩;obtain ⟨⟨k',c⟩,hp,hp2⟩:=List.mem_map.1 hm;simp only at hp2;subst hp2;rw [qgc this hp]at hnV;cases hnV
    ·simp only [qy]at hx;by_cases e:t=q
     ·rw [if_pos e]at hx;cases hx;rfl
     ·rw [if_neg e]at hx;refine hs.M.mp s.L.length q x ?_ hlt;unfold qcJ;rw [qb3,if_pos rfl];exact hx
   have hfv:RV (.fn hh first cap) (.fn hh first' cap'):=by simp only [RV];exact ⟨_,_,rfl,hf1,hc1⟩
   have hyl:RVL [.yld ⟨st.L.length,t⟩] [.yld ⟨s.L.length,t⟩]:=by rw [hlen];exact qx.2 ⟨by simp only [RV],qad⟩
   obtain ⟨v,st2,u,s2,hk,hev,_,hR2,hF2,hE2,hE2',_⟩:=qsB hT hO hfv hyl hR1 h;simp only at hk hE2 hE2';split at hk
   ·rename_i hcond;simp only [qe]at hcond;obtain ⟨hok,hfull⟩:=hcond;have hlen2:=hR2.len;have hlen3:s2.L.length=s.L.length:=hF2.len;have hcl:∀q,RB (qU (qaz [t] st2.B) q) (qy (qT [t] s2.B) q):=λq=>by
     rw [qfg,qaE];by_cases e : [t].contains q=true
     ·rw [if_pos e,if_pos e];rfl
     ·rw [if_neg e,if_neg e];exact hR2.M.last q
    have hM3:LR (st2.L++[qaz [t] st2.B]) (s2.L++[qT [t] s2.B]):=by
     refine LR.qDr hR2.M hcl ((hR2.M.nd s2.B (by simp [qcJ])).sublist ((qla [t] s2.B).map _)) (λq x hx hlt=>?_);rw [qaE]at hx;split at hx
     ·cases hx
     ·refine hR2.M.mp s2.L.length q x ?_ hlt;unfold qcJ;rw [qb3,if_pos rfl];exact hx
    have hokV:qcQ s.L.length [t] (qna (qT [t] s2.B))=true:=by
     unfold qcQ at hok ⊢;rw [List.all_eq_true]at hok ⊢;intro q hq;rw [hlen];exact hok q (qAn hM3 hfull hq)
    have hvB:∀{x pe g3 env3 ps3 as3 bo3},qU st2.B t=some (some [.lp x pe g3 env3 ps3 as3 bo3])->∃env3',qy s2.B t=some [.lp x pe g3 env3' ps3 as3 bo3]:=λhl=>by
     have:=hR2.M.last t;rw [hl]at this;obtain ⟨c',h1,env',rfl,_⟩:=this;exact ⟨env',h1⟩
    have hrest:Rst {st2 with B:=qaz [t] st2.B,Wb:=st.Wb++st2.Wb.filter (λq=>!decide (q=⟨st.L.length,t⟩))} {s with L:=s2.L,B:=qT [t] s2.B}/\Fr2 st {st2 with B:=qaz [t] st2.B,Wb:=st.Wb++st2.Wb.filter (λq=>!decide (q=⟨st.L.length,t⟩))} s {s with L:=s2.L,B:=qT [t] s2.B}:=by
     refine ⟨⟨by have:=hR2.E;rw [hE2']at this;exact this,hM3⟩,⟨λx hx=>hF2.wt x hx,λx hx=>by simp [hx],λx hx=>.inl rfl,λx hx rs hr=>⟨rs,by rw [<- hE2];exact hr⟩,λq hq=>?_,λq hq hsm=>?_,hlen3,rfl⟩⟩
     ·have eB:∀q:Root,q≠⟨st.L.length,t⟩->({s with L:=s2.L,B:=qT [t] s2.B}:St).box q=s2.box q:=λq hq=>by
       rw [qH,qH];unfold qcJ;rw [qb3,qb3];by_cases e:q.lvl=s2.L.length
       ·rw [if_pos e,if_pos e,qaE,if_neg];intro hc;simp only [List.contains_cons,List.contains_nil,Bool.or_false,beq_iff_eq]at hc;exact hq (by cases q;simp only at hc e ⊢;subst hc;rw [e,hlen3,hlen])
       ·rw [if_neg e,if_neg e]
      have eS:∀q:Root,q≠⟨st.L.length,t⟩->({s with B:=(t,[.lp .ready none f (s.E.map V.qab) (t::ts) asz bo])::s.B}:St).box q=s.box q:=λq hq=>by
       rw [qH,qH];unfold qcJ;rw [qb3,qb3];by_cases e:q.lvl=s.L.length
       ·rw [if_pos e,if_pos e];simp only [qy];rw [if_neg];intro hc;exact hq (by cases q;simp only at hc e ⊢;subst hc;rw [e,hlen])
       ·rw [if_neg e,if_neg e]
      by_cases e:q=⟨st.L.length,t⟩
      ·subst e;left
       rw [qH,qH];unfold qcJ;rw [qb3,qb3];simp only
       rw [if_pos (by omega),if_pos hlen.symm,qaE,if_pos (by simp),hnV]
      ·have hq2:q∉st2.Wb:=λhm=>hq (by
        simp only [qj,List.mem_filter];exact .inr ⟨hm,by simp [e]⟩)
       rw [eB q e];rcases hF2.b q hq2 with h9|⟨h9,h10,h11,h12⟩
       ·left;rw [h9,eS q e]
       ·right
        refine ⟨h9,?_,by rw [h11,eS q e],h12⟩;rw [qaR]at h10 ⊢;unfold TSt.all at h10 ⊢;rw [qge]at h10 ⊢;by_cases e2:q.lvl=st.L.length
        ·simp only [e2,if_true,qU]at h10 ⊢;rw [if_neg (by intro hc;exact e (by cases q;simp only at hc e2 ⊢;subst hc;rw [e2]))]at h10;exact h10
        ·simp only [e2,if_false]at h10 ⊢;exact h10
     ·by_cases e:q=⟨st.L.length,t⟩
      ·subst e;rw [qaR]at hsm;unfold TSt.all at hsm;rw [qge,if_pos rfl,hn]at hsm;cases hsm
      ·have hq2:q∉st2.Wb:=λhm=>hq (by
        simp only [qj,List.mem_filter];exact .inr ⟨hm,by simp [e]⟩)
       have i1:=hF2.bn q hq2 (by
        rw [qaR]at hsm ⊢;unfold TSt.all at hsm ⊢;rw [qge]at hsm ⊢;by_cases e2:q.lvl=st.L.length
        ·simp only [e2,if_true,qU]at hsm ⊢;rw [if_neg (by intro hc;exact e (by cases q;simp only at hc e2 ⊢;subst hc;rw [e2]))];exact hsm
        ·simp only [e2,if_false]at hsm ⊢;exact hsm)
       rw [qaR]at i1 ⊢;unfold TSt.all at i1 ⊢;rw [qge]at i1 ⊢;by_cases e2:q.lvl=st2.L.length
       ·simp only [e2,if_true]at i1 ⊢;rw [qfg,if_neg]
        ·exact i1
        ·intro hc;simp only [List.contains_cons,List.contains_nil,Bool.or_false,beq_iff_eq]at hc;exact e (by cases q;simp only at hc e2 ⊢;subst hc;rw [e2];congr 1;omega)
       ·simp only [e2,if_false]at i1 ⊢;exact i1
    have hnV':(qy s.B t).isNone=true:=by rw [hnV];rfl
    split at hk
    ·rename_i hl;obtain ⟨env3',hb⟩:=hvB hl;exact ⟨.normal,_,_,hev.imp λC ⟨hC,_⟩=>by simp only [ex,hV,hps,hnV',if_true,hC,hokV,hb],hrest.1,hrest.2,hk⟩
    ·rename_i hl;obtain ⟨env3',hb⟩:=hvB hl;exact ⟨.ret,_,_,hev.imp λC ⟨hC,_⟩=>by simp only [ex,hV,hps,hnV',if_true,hC,hokV,hb],hrest.1,hrest.2,hk⟩
    ·rename_i id _ _ _ _ _ hl;obtain ⟨env3',hb⟩:=hvB hl;exact ⟨.exit _,_,_,hev.imp λC ⟨hC,_⟩=>by simp only [ex,hV,hps,hnV',if_true,hC,hokV,hb],hrest.1,hrest.2,hk⟩
    ·cases hk
   ·cases hk
  ·cases h
 ·cases h
theorem qpJ(hT:TOk P H lib T)(hO:OOk P H lib O):∀(c:Code) (bid:Nat),Snd (tx P H J T O ctx f bid c) (qBn P H lib f bid c)
 |.skip,bid=>λst R k r s h hs=>⟨.normal,st,s,.of λC=>rfl,hs,Fr2.refl _ _,h⟩
 |.ret,bid=>λst R k r s h hs=>⟨.ret,st,s,.of λC=>rfl,hs,Fr2.refl _ _,h⟩
 |.exit id,bid=>λst R k r s h hs=>⟨.exit id,st,s,.of λC=>rfl,hs,Fr2.refl _ _,h⟩
 |.seq a b,bid=>λst R k r s h hs=>by
  simp only [tx]at h;obtain ⟨e,st1,s1,hev,hR,hF,hk⟩:=qpJ hT hO a bid st _ _ r s h hs;cases e with
  |normal =>
   obtain ⟨e2,st2,s2,hev2,hR2,hF2,hk2⟩:=qpJ hT hO b bid st1 _ _ r s1 hk hR;exact ⟨e2,st2,s2,(hev.and hev2).imp λC hC=>by simp only [ex,hC.1,hC.2],hR2,hF.trans hF2,hk2⟩
  |exit id=>exact ⟨.exit id,st1,s1,hev.imp λC hC=>by simp only [ex,hC],hR,hF,hk⟩
  |ret=>exact ⟨.ret,st1,s1,hev.imp λC hC=>by simp only [ex,hC],hR,hF,hk⟩
 |.cond c a b,bid=>λst R k r s h hs=>by
  simp only [tx]at h;refine qnu (rel:=qBn P H lib f bid (.cond c a b)) ?_ _ st R k r s h hs;intro st R k r s h hs;have hr:=qCt (H:=H) (f:=f) (o:=default) hs.E c;simp only at h;split at h
  ·rename_i o t ht;rw [ht]at hr;simp only [RV,RTy]at hr;cases t with
   |true =>
    obtain ⟨e2,st2,s2,hev2,hR2,hF2,hk2⟩:=qpJ hT hO a bid st _ _ r s h hs;exact ⟨e2,st2,s2,hev2.imp λC hC=>by simp only [ex,hr,if_true,hC],hR2,hF2,hk2⟩
   |false =>
    obtain ⟨e2,st2,s2,hev2,hR2,hF2,hk2⟩:=qpJ hT hO b bid st _ _ r s h hs;exact ⟨e2,st2,s2,hev2.imp λC hC=>by simp only [ex,hr,qf,if_false,hC],hR2,hF2,hk2⟩
  ·cases h
 |.block id c,bid=>λst R k r s h hs=>by
  simp only [tx]at h;refine qnu (rel:=qBn P H lib f bid (.block id c)) ?_ _ st R k r s h hs;intro st R k r s h hs;obtain ⟨e,st1,s1,hev,hR,hF,hk⟩:=qpJ hT hO c id st _ _ r s h hs;cases e with
  |exit i =>
   simp only at hk;split at hk
   ·rename_i hi;exact ⟨.normal,st1,s1,hev.imp λC hC=>by simp only [ex,hC,hi,if_true],hR,hF,hk⟩
   ·rename_i hi;exact ⟨.exit i,st1,s1,hev.imp λC hC=>by simp only [ex,hC,hi,if_false],hR,hF,hk⟩
  |normal=>exact ⟨.normal,st1,s1,hev.imp λC hC=>by simp only [ex,hC],hR,hF,hk⟩
  |ret=>exact ⟨.ret,st1,s1,hev.imp λC hC=>by simp only [ex,hC],hR,hF,hk⟩
 |.region id ops draw,bid=>λst R k r s h hs=>by
  simp only [tx]at h;refine qnu (rel:=qBn P H lib f bid (.region id ops draw)) ?_ _ st R k r s h hs;intro st R k r s h hs;simp only [qtO,qxS]at h;cases hpre:qEC (H.pre f id) st with
  |none=>rw [hpre]at h;cases h
  |some sta =>
  rw [hpre]at h;simp only at h;obtain ⟨sa,hcl,hs,hf0⟩:=qD7 hs hpre;cases hnt:qia H ops draw with
  |some p =>
   obtain ⟨F,t,e,d⟩:=p;rw [hnt]at h;simp only at h;split at h
   ·rename_i hlt;obtain ⟨hR0,hF0⟩:=qhU hs (some e) (qci []);obtain ⟨st1,s1,hk,hts,hR,hF⟩:=qC0 hR0 h;have hlt':e<sa.E.length:=by rw [hs.E.length,qjN];exact hlt
    exact ⟨.normal,st1,s1,.of λC=>by simp only [ex,hcl,hnt,hts,if_pos hlt',qi],hR,(hf0.trans hF0).trans hF,hk⟩
   ·cases h
  |none =>
  rw [hnt]at h;simp only at h;cases hls:qxA H f ops with
  |true =>
   rw [hls]at h;simp only [if_true]at h;split at h
   ·rename_i hok;obtain ⟨st1,s1,fps,fpv,hk,hev,hR,hF,_,hcov⟩:=qj3 hT hO _ sta sa none [] hs qp8 h;split at hk
    ·rename_i hnc;refine ⟨.normal,st1,s1,hev.imp λC hC=>?_,hR,hf0.trans hF,hk⟩;have hnc':(!draw||qhN (H.pairs f id) fpv)=true:=by
      simp only [Bool.or_eq_true]at hnc ⊢;exact hnc.imp (λh=>h) λh=>qts hcov h
     simp only [ex,hcl,hnt,hls,if_true,hok,hC,hnc']
    ·cases hk
   ·cases h
  |false =>
  rw [hls]at h;simp only [qf,if_false]at h;split at h
  ·rename_i hd;split at h
   ·rename_i hok;split at h
    ·rename_i hU;obtain ⟨st1,s1,hk,hev,hR,hF⟩:=qnm hT hO _ sta sa hs h;rw [hU]at hok;exact ⟨.normal,st1,s1,hev.imp λC hC=>by simp only [ex,hcl,hnt,qpq,hls,qf,if_false,hd,if_true,hU,hok,hC,qi],hR,hf0.trans hF,hk⟩
    ·rename_i U hU;obtain ⟨st1,s1,fps,fpv,hk,hev,hR,hF,_,hcov⟩:=qnX hT hO _ sta sa [] hs h;split at hk
     ·rename_i hnc;have hnc':=qts hcov hnc;refine ⟨.normal,st1,s1,hev.imp λC hC=>?_,hR,hf0.trans hF,hk⟩;simp only [ex,hcl,hnt,qpq,hls,qf,if_false,hd,if_true,hok];cases hp:H.pairs f id with
      |nil=>exact absurd hp (by simpa using hU)
      |cons u U' =>
       rw [hp]at hnc';simp only [hC,hnc',if_true]
     ·cases hk
   ·cases h
  ·rename_i hd;obtain ⟨st1,s1,hk,hev,hR,hF⟩:=qnm hT hO _ sta sa hs h;exact ⟨.normal,st1,s1,hev.imp λC hC=>by simp only [ex,hcl,hnt,hls,qf,if_false];rw [if_neg hd,hC];rfl,hR,hf0.trans hF,hk⟩
 |.loop c,bid=>λst R k r s h hs=>by
  simp only [tx]at h;split at h
  ·rename_i j hj;split at h
   ·rename_i hf;obtain ⟨x0,hx0,h⟩:=qd.1 h;obtain ⟨n,hn⟩:=qir h;obtain ⟨h1,h2⟩:=qCO hs hf hx0;exact qzW (qpJ hT hO c bid) hs n x0 s h1 h2 hn
   ·cases h
  ·split at h
   ·rename_i st1 hcl;obtain ⟨s1,hv1,hs1,hf1⟩:=qii hs hcl;obtain ⟨e,st2,s2,hev,hR,hF,hk⟩:=qpJ hT hO c bid st1 _ _ r s1 h hs1;cases e with
    |normal =>
     obtain ⟨e3,st3,s3,hev3,hR3,hF3,hk3⟩:=hO.code ctx f bid (.loop c) st2 _ _ r s2 hk hR;exact ⟨e3,st3,s3,(hev.and hev3).imp λC hC=>by simp only [ex,hv1,hC.1,hC.2],hR3,(hf1.trans hF).trans hF3,hk3⟩
    |exit id=>exact ⟨.exit id,st2,s2,hev.imp λC hC=>by simp only [ex,hv1,hC],hR,hf1.trans hF,hk⟩
    |ret=>exact ⟨.ret,st2,s2,hev.imp λC hC=>by simp only [ex,hv1,hC],hR,hf1.trans hF,hk⟩
   ·cases h
 |.rangeFunc ..,bid=>λst R k r s h hs=>qCs hT hO h hs
 |.scope _,bid=>λst R k r s h hs=>by simp [tx]at h
 |.label _,bid=>λst R k r s h hs=>by simp [tx]at h
 |.goto _,bid=>λst R k r s h hs=>by simp [tx]at h
 |.refuse _,bid=>λst R k r s h hs=>by simp [tx]at h
end
section
variable {P:Program} {H:Hints} {J:TH} {T:qsl} {O:TOrc} {lib:FuncId->Option (List V->Option V)} {f:FuncId} {ctx:List Tmp}
theorem qgw{st:TSt}{s:St}(hs:Rst st s):∀(l:List ResultVar) (rs:List TV),qfA (l.map (qjH P st))=some rs->∃rs',qfR (l.map (qdl P s))=some rs'/\RVL rs rs'
 |[],rs,h=>by simp only [List.map_nil,qfA,qb]at h;subst h;exact ⟨[],rfl,qad⟩
 |v::l,rs,h=>by
  simp only [qh]at h;cases h1:qjH P st v with
  |none=>rw [h1]at h;simp [qfA]at h
  |some x =>
   rw [h1]at h;simp only [qfA]at h;obtain ⟨rs0,h2,rfl⟩:=qc.1 h;obtain ⟨rs',h3,hr⟩:=qgw hs l rs0 h2;have:∃u,qdl P s v=some u/\RV x u:=by
    cases v with
    |tmp t =>
     simp only [qjH,qb]at h1;subst h1;exact ⟨_,rfl,qxy hs.E t⟩
    |cell a t =>
     simp only [qjH]at h1;split at h1
     ·rename_i r off hE;have hg:=qxy hs.E a;rw [hE]at hg;simp only [RV]at hg;split at h1
      ·rename_i cs hcs;split at h1
       ·rename_i hsl;obtain ⟨cs',hcs',hc⟩:=hs.box hcs;obtain ⟨u,hu,hr⟩:=qdN h1 (hc.drop off);refine ⟨u,?_,hr⟩;have hlp:=qeV (qaI hc) (hs.M.mp r.lvl r.slot cs' (by rw [<- qH];exact hcs') hsl);simp only [qdl,hg,hcs',hlp,qf,if_false,hu]
       ·cases h1
      ·cases h1
     ·cases h1
   obtain ⟨u,hu,hru⟩:=this;refine ⟨u::rs',?_,qx.2 ⟨hru,hr⟩⟩;simp only [qh,hu,qfR,h3,qi]
theorem qk7{st:TSt}{s:St}(hs:Rst st s):∀(l:List ResultVar) (ks:List (Bool×Nat×Nat)),qk6 (l.map (qgn st))=some ks->l.map (qL s)=ks
 |[],ks,h=>by simp only [List.map_nil,qk6,qb]at h;subst h;rfl
 |v::l,ks,h=>by
  simp only [qh]at h;cases h1:qgn st v with
  |none=>rw [h1]at h;simp [qk6]at h
  |some x =>
   rw [h1]at h;simp only [qk6]at h;obtain ⟨ks0,h2,rfl⟩:=qc.1 h;have:qL s v=x:=by
    cases v with
    |tmp t=>simp only [qgn,qb]at h1;subst h1;rfl
    |cell a t =>
     simp only [qgn]at h1;split at h1
     ·rename_i r off hE;have hg:=qxy hs.E a;rw [hE]at hg;simp only [RV]at hg;cases h1;simp only [qL,hg]
     ·cases h1
   simp only [qh,this,qk7 hs l ks0 h2]
theorem qkN:∀{rs:List TV} {rs':List V},RVL rs rs'->RV (qbg rs) (packed rs')
 |[],rs',h=>by simp only [RVL]at h;subst h;simp [qbg,packed,RV,RVL]
 |[x],rs',h=>by obtain ⟨v,rfl,hv⟩:=qdn h;exact hv
 |x::y::rs,rs',h=>by
  have h0:=h;simp only [RVL]at h;obtain ⟨v,m,rfl,_,v2,m2,rfl,_,_⟩:=h;simp only [qbg,packed,RV];exact ⟨_,rfl,h0⟩
theorem qEb(hT:TOk P H lib T)(hO:OOk P H lib O){args:List TV}{M:List qK}{R:Type}{k:TV->List qK->List Root->Option R}{r:R}{vs:List V}{M':List Level}
  (h:runT P H J T O ctx f args M R k=some r) (ha:RVL args vs) (hM:LR M M') :
  ∃x N wb v N',k x N wb=some r/\RV x v/\LR N N'/\N.length=M.length/\(∀l sl,(⟨l,sl⟩:Root)∉wb->qar N' l sl=qar M' l sl/\∀c,qan M l sl=some (some c)->∃c',qan N l sl=some (some c'))/\J.lib f=false/\Ev (λC=>qED P H C f vs M'=some (v,N')) P H lib:=by
 unfold runT at h;split at h
 ·cases h
 ·rename_i qxC;split at h
  ·rename_i fn hfn;split at h
   ·rename_i c hbody;have hE:RVL (Env.qhq args fn.ntmps).toL (vs++List.replicate (fn.ntmps-vs.length) .undef):=by
     rw [qme,ha.length];exact ha.append (RVL.replicate (qci []) _)
    have h0:Rst {E:=Env.qhq args fn.ntmps,L:=M,B:=[],Wt:=.empty,Wb:=[]} {E:=vs++List.replicate (fn.ntmps-vs.length) .undef,L:=M',B:=[]}:=⟨hE,hM.init⟩
    have hsnd:Snd (λst R k=>tx P H J T O ctx f 0 c st R λe st=>match e with
     |.normal=>k .normal st
     |.ret=>k .normal st
     |_=>none) (λs e s'=>e=.normal/\Ev (λC=>∃e,(e=.normal\/e=.ret)/\ex P H C f 0 c s=some (e,s')) P H lib):=by
     intro st R k r s h hs;obtain ⟨e,st1,s1,hev,hR,hF,hk⟩:=qpJ hT hO c 0 st _ _ r s h hs;cases e with
     |normal=>exact ⟨.normal,st1,s1,⟨rfl,hev.imp λC hC=>⟨.normal,.inl rfl,hC⟩⟩,hR,hF,hk⟩
     |ret=>exact ⟨.normal,st1,s1,⟨rfl,hev.imp λC hC=>⟨.ret,.inr rfl,hC⟩⟩,hR,hF,hk⟩
     |exit id=>cases hk
    obtain ⟨e,st1,s1,⟨_,hev⟩,hR,hF,hk⟩:=qnu hsnd _ _ _ _ _ _ h h0;split at hk
    ·rename_i rs ks hrs hks;have hlen:=hR.len;have hlen2:=hF.len;have hML:=hM.len;simp only at hlen2;have frame:∀l sl,(⟨l,sl⟩:Root)∉st1.Wb->qar s1.L l sl=qar M' l sl/\∀c,qan M l sl=some (some c)->∃c',qan st1.L l sl=some (some c'):=λl sl hl=>by
      refine ⟨?_,λc hc=>?_⟩
      ·by_cases e:l<s1.L.length
       ·rcases hF.b ⟨l,sl⟩ hl with this|⟨h9,_⟩
        ·rw [qH,qH]at this;unfold qar qcJ at this;simp only at this;unfold qar;rw [qg e,qg (by omega)]at this;exact this
        ·simp only at h9;omega
       ·unfold qar;rw [List.getElem?_eq_none (by omega),List.getElem?_eq_none (by omega)]
      ·have hlt:l<M.length:=by
        unfold qan at hc;cases hM0:M[l]? with
        |none=>rw [hM0]at hc;cases hc
        |some b=>exact (qm.1 hM0).1
       have hbx:(({E:=Env.qhq args fn.ntmps,L:=M,B:=[],Wt:=.empty,Wb:=[]}:TSt).cont ⟨l,sl⟩).isSome=true:=by
        rw [qaR];unfold qan TSt.all;simp only
        rw [qg hlt];unfold qan at hc;rw [hc];rfl
       obtain ⟨c',hc'⟩:=Option.isSome_iff_exists.1 (hF.bn ⟨l,sl⟩ hl hbx);have h10:=qee hc';refine ⟨c',?_⟩;unfold qan TSt.all at h10;simp only at h10;rw [qg (by omega)]at h10;exact h10
     split at hk
     ·rename_i hc;simp only [qe]at hc;obtain ⟨⟨hkn,hpt⟩,hko⟩:=hc;obtain ⟨rs',hrs',hrr⟩:=qgw hR _ _ hrs;have hkeys:=qk7 hR _ _ hks;have hpeq:=RVL.ptrs_eq _ _ hkn hrr;refine ⟨_,_,_,packed (if M'.isEmpty&&!ownsL rs' then reflagL qim rs' else rs'),s1.L,hk,?_,hR.M.front,by omega,frame,by simpa using qxC,hev.imp ?_⟩
      ·split
       ·exact qkN (RVL.qpC qsP rfl _ _ hrr)
       ·exact qkN hrr
      ·rintro C ⟨e,he,hC⟩;unfold qED;simp only [hfn,hbody,hC];rw [if_pos he,hrs'];simp only
       rw [if_pos];simp only [hpeq,hkeys,qe];rw [hML];exact ⟨hpt,hko⟩
     ·split at hk
      ·rename_i hc;simp only [qe,Bool.not_eq_true']at hc;obtain ⟨⟨⟨hkn,hem⟩,hko⟩,hpt⟩:=hc;split at hk
       ·rename_i xs hxs;split at hk
        ·rename_i hc2;simp only [qe]at hc2;obtain ⟨hkx,hpx⟩:=hc2;obtain ⟨rs',hrs',hrr⟩:=qgw hR _ _ hrs;have hkeys:=qk7 hR _ _ hks;have hpeq:=RVL.ptrs_eq _ _ hkn hrr;obtain ⟨us,hus,hru⟩:=peekTL_ok (bt:=st1.box) (bx:=s1.box) (λr c hc=>by
          obtain ⟨c',h1,h2⟩:=hR.box hc;exact ⟨c',h1,h2,λhlt=>hR.M.mp r.lvl r.slot c' (by rw [<- qH];exact h1) hlt⟩) _ _ _ hxs hrr
         have hpu:=RVL.ptrs_eq _ _ hkx hru;have hem':M'.isEmpty=true:=by
          rw [List.isEmpty_iff]at hem ⊢;subst hem;exact List.eq_nil_of_length_eq_zero (by rw [hML];rfl)
         refine ⟨_,_,_,packed us,s1.L,hk,qkN hru,hR.M.front,by omega,frame,by simpa using qxC,hev.imp ?_⟩;rintro C ⟨e,he,hC⟩;unfold qED;simp only [hfn,hbody,hC];rw [if_pos he,hrs'];simp only
         have hn1:¬ (((ptrsL rs').all λr=>decide (r.lvl<M'.length))&&qqc M'.length (fn.results.toList.map (qL s1)))=true:=by
          rw [hpeq,hML,hpt];simp
         rw [if_neg hn1,if_pos (by rw [hem',hkeys,hML,hko];rfl),hus];simp only [hpu,hpx,if_true]
        ·cases hk
       ·cases hk
      ·cases hk
    ·cases hk
   ·cases h
  ·cases h
theorem qoP:∀{rs:List TV},onlyMapsTL rs=true->(qbg rs).onlyMaps=true
 |[],_=>rfl
 |[x],h=>by simpa [qbg,onlyMapsTL]using h
 |x::y::l,h=>by simpa only [qbg,TV.onlyMaps]using h
theorem qyZ(hT:TOk P H lib T)(hO:OOk P H lib O){args:List TV}{R:Type}{k:TV->TV->Option R}{r:R}{vs:List V}
  (h:qyY P H J T O ctx f args R k=some r) (ha:RVL args vs) :
  ∃x τ o l v sl,k x (.t (.mset τ) o l)=some r/\qfW τ=true/\RV x v/\x.onlyMaps=true/\Ev (λC=>qyX P H C f vs=some (v,sl,kvs τ l)) P H lib:=by
 unfold qyY at h;split at h
 ·cases h
 ·split at h
  ·rename_i fn hfn;split at h
   ·rename_i c hbody;have hE:RVL (Env.qhq args fn.ntmps).toL (vs++List.replicate (fn.ntmps-vs.length) .undef):=by
     rw [qme,ha.length];exact ha.append (RVL.replicate (qci []) _)
    have hM0:LR [] []:=⟨rfl,λl s=>by simp [qan,qar,RB],by simp,λl s c h=>by simp [qar]at h⟩
    have h0:Rst {E:=Env.qhq args fn.ntmps,L:=[],B:=[],Wt:=.empty,Wb:=[]} {E:=vs++List.replicate (fn.ntmps-vs.length) .undef,L:=[],B:=[]}:=⟨hE,hM0.init⟩
    obtain ⟨e,st1,s1,hev,hR,hF,hk⟩:=qpJ hT hO c 0 _ _ _ r _ h h0;have key:(match qfA (fn.results.toList.map (qjH P st1))with
     |some rs=>match peekTL st1.box rs with
      |some xs=>match ptrsTL xs with
       |[q]=>if q.lvl=0 then (match st1.box q with
        |some [.t (.mset τ) o l]=>if knownL xs&&onlyMapsTL xs then k (qbg xs) (.t (.mset τ) o l)else none
        |_=>none)else none
       |_=>none
      |none=>none
     |none=>none)=some r/\(e=.normal\/e=.ret):=by
     cases e with
     |normal=>exact ⟨hk,.inl rfl⟩
     |ret=>exact ⟨hk,.inr rfl⟩
     |exit id=>cases hk
    obtain ⟨hk2,he⟩:=key;split at hk2
    ·rename_i rs hrs;split at hk2
     ·rename_i xs hxs;split at hk2
      ·rename_i q hq;split at hk2
       ·rename_i hl0;split at hk2
        ·rename_i τ o l hbx;split at hk2
         ·rename_i hc;simp only [qe]at hc;obtain ⟨hkn,hom⟩:=hc;obtain ⟨rs',hrs',hrr⟩:=qgw hR _ _ hrs;obtain ⟨us,hus,hru⟩:=peekTL_ok (bt:=st1.box) (bx:=s1.box) (λr c hc=>by
           obtain ⟨c',h1,h2⟩:=hR.box hc;exact ⟨c',h1,h2,λhlt=>hR.M.mp r.lvl r.slot c' (by rw [<- qH];exact h1) hlt⟩) _ _ _ hxs hrr
          have hpeq:=RVL.ptrs_eq _ _ hkn hru;obtain ⟨c',hc',hcr⟩:=hR.box hbx;obtain ⟨v,rfl,hv⟩:=qdn hcr;simp only [RV,RTy]at hv;obtain ⟨hkt,rfl⟩:=hv;have hom':=(rvl_adopt q _ _ hom hru).2;refine ⟨_,τ,o,l,packed us,q.slot,hk2,hkt,qkN hru,qoP hom,hev.imp λC hC=>?_⟩;unfold qyX;simp only [hfn,hbody,hC];rw [if_pos he,hrs'];simp only [hus,hpeq,hq];rw [if_pos hl0,hc'];simp only [hom',if_true];rfl
         ·cases hk2
        ·cases hk2
       ·cases hk2
      ·cases hk2
     ·cases hk2
    ·cases hk2
   ·cases h
  ·cases h
theorem qy8{x:TV}(h:x≠.val (.slice none 0 0)):x.qdC=x:=by
 unfold TV.qdC;split
 ·exact absurd rfl h
 ·rfl
theorem qCB{x:TV}{v:V}(h:RV x v):RV x.qdC v.qdC:=by
 by_cases hv:v=.val (.slice none 0 0)
 ·subst hv;cases x with
  |any rs=>simp only [RV]at h;simp [TV.qdC,V.qdC,RV,V.qt,ptrsL,qaj]
  |t τ o y=>cases τ<;>simp [RV,RTy]at h
  |val u =>
   simp only [RV,V.val.injEq]at h;subst h;simp [TV.qdC,V.qdC,RV,FlR,qa5]
  |_=>simp [RV]at h
 ·rw [qwb hv,qy8]
  ·exact h
  ·rintro rfl;simp only [RV]at h;exact hv h
theorem qtY:∀{l:List TV} {m:List V},RVL l m->RVL (l.map TV.qdC) (m.map V.qdC)
 |[],m,h=>by simp only [RVL]at h;subst h;exact qad
 |x::l,m,h=>by
  simp only [RVL]at h;obtain ⟨v,m',rfl,h1,h2⟩:=h;exact qx.2 ⟨qCB h1,qtY h2⟩
theorem qFg{g:FuncId}{l:List TV}{m:List V}(h:RVL l m):RVL (dnT H g l) (dnA H g m):=by
 unfold dnT dnA;cases H.qdC g
 ·exact h
 ·exact qtY h
theorem qw5(hT:TOk P H lib T)(hJ:∀g,J.lib g=false->lib g=none):∀n,OOk P H lib (qpo P H J T n)
 |0=>⟨λctx g args M R k r vs M' h=>by simp [qpo]at h,λctx f bid c st R k r s h=>by simp [qpo]at h,λctx g args R k r vs h=>by simp [qpo]at h⟩
 |n+1=>by
  have ih:=qw5 hT hJ n;refine ⟨λctx g args M R k r vs M' h ha hM=>?_,λctx f bid c st R k r s h hs=>?_,λctx g args R k r vs h ha=>?_⟩
  rotate_right
  ·simp only [qpo]at h;obtain ⟨x,τ,o,l,v,sl,hk,hkt,hr,hom,hev⟩:=qyZ hT ih h ha;refine ⟨x,τ,o,l,v,sl,hk,hkt,hr,hom,?_⟩;obtain ⟨n1,h1⟩:=hev;refine ⟨n1+1,λm hm=>?_⟩;obtain ⟨m',rfl⟩:∃m',m=m'+1:=⟨m-1,by omega⟩
   exact h1 m' (by omega)
  ·simp only [qpo]at h;obtain ⟨x,N,wb,v,N',hk,hr,hN,hlen,hfr,hl,hev⟩:=qEb hT ih h (qFg ha) hM;refine ⟨x,N,wb,v,N',hk,hr,hN,hlen,hfr,?_⟩;obtain ⟨n1,h1⟩:=hev;refine ⟨n1+1,λm hm=>?_⟩;obtain ⟨m',rfl⟩:∃m',m=m'+1:=⟨m-1,by omega⟩
   have:=h1 m' (by omega);simp only [qsh,hJ g hl];exact this
  ·simp only [qpo]at h;obtain ⟨e,st',s',hev,hR,hF,hk⟩:=qpJ hT ih c bid st _ _ r s h hs;refine ⟨e,st',s',?_,hR,hF,hk⟩;obtain ⟨n1,h1⟩:=hev;refine ⟨n1+1,λm hm=>?_⟩;obtain ⟨m',rfl⟩:∃m',m=m'+1:=⟨m-1,by omega⟩
   exact h1 m' (by omega)
def qaU(P:Program)(H:Hints)(lib:FuncId->Option (List V->Option V))(e:Entry):Prop :=
 ∀x y,e.F x=some y->∀vs,RVL (qde e.ps x) vs->∃v,qvU P H lib e.g vs [] v []/\RV (qiS e.rs y) v
theorem qxh{τ:Ty}{cs:List TV}{x:τ.den}{l':List V}(h:quv τ cs=some x)(hr:RVL cs l'):RVL (ofTy τ 1000 x).cells l':=by
 unfold quv at h;split at h
 ·rename_i h1;split at h
  ·rename_i c;obtain ⟨u,rfl,hu⟩:=qdn hr;have h2:=rv_ofTy _ _ _ _ (qcU _ _ _ _ _ h hu);have h3:(ofTy τ 1000 x).cells=[ofTy τ 1000 x]:=by cases τ<;>first|rfl|simp [Ty.one]at h1
   rw [h3];exact qx.2 ⟨h2,qad⟩
  ·cases h
 ·rename_i h1;have h2:=rv_ofTy _ _ _ _ (qcU _ _ _ _ (.agg l') h (by simp only [RV];exact ⟨l',rfl,hr⟩));cases τ with
  |unit=>simp only [ofTy,TV.cells,RV]at h2 ⊢;obtain ⟨m,e,hm⟩:=h2;cases e;exact hm
  |pair a b=>simp only [ofTy,TV.cells,RV]at h2 ⊢;obtain ⟨m,e,hm⟩:=h2;cases e;exact hm
  |mset t=>simp [qhi]at h
  |_=>simp [Ty.one]at h1
theorem quw{c:Cp}{w:TV}{x:c.den}{v:V}(h:qDH c w=some x)(hr:RV w v):RV (qE6 c x) v:=by
 cases c with
 |v τ=>exact rv_ofTy _ _ _ _ (qcU _ _ _ _ _ h hr)
 |p τ =>
  cases w<;>simp only [qDH]at h<;>try (cases h;done)
  rename_i sh cs;cases sh with
  |false=>simp only [qDH]at h;cases h
  |true =>
   simp only [qDH]at h;simp only [RV]at hr;obtain ⟨f,l',rfl,hf,hsh,hl⟩:=hr;simp only [qE6,RV];exact ⟨f,l',rfl,hf,hsh,qxh h hl⟩
theorem qv4:∀(cs:List Cp) (l:List TV) (x:denC cs) (l':List V),qsy cs l=some x->RVL l l'->RVL (qCf cs x) l'
 |[],l,x,l',h,hr=>by
  cases l with
  |nil=>simpa [qCf]using hr
  |cons=>simp [qsy]at h
 |[c],l,x,l',h,hr=>by
  match l,h,hr with
  |[v],h,hr =>
   obtain ⟨u,rfl,h1⟩:=qdn hr;exact qx.2 ⟨quw h h1,qad⟩
  |[],h,hr=>simp [qsy]at h
  |_::_::_,h,hr=>simp [qsy]at h
 |c::q::ps,l,x,l',h,hr=>by
  match l,h,hr with
  |[],h,hr=>simp [qsy]at h
  |v::l,h,hr =>
   simp only [qsy]at h;obtain ⟨y,hy,h⟩:=qd.1 h;obtain ⟨z,hz,h⟩:=qd.1 h;simp only [qb]at h;subst h;simp only [RVL]at hr;obtain ⟨u,m,rfl,h1,h2⟩:=hr;exact qx.2 ⟨quw hy h1,qv4 (q::ps) l _ _ hz h2⟩
theorem qyS{p:Pm}{w:TV}{x:p.den}{v:V}(h:qEx p w=some x)(hr:RV w v):RV (qBl p x) v:=by
 cases p with
 |ty τ=>exact rv_ofTy _ _ _ _ (qcU _ _ _ _ _ h hr)
 |ptr τ=>exact quw (c:=.p τ) h hr
 |fn g cs =>
  cases w<;>simp only [qEx]at h<;>try (cases h;done)
  rename_i g' first cap;cases first with
  |cons y ys=>simp only [qEx]at h;cases h
  |nil =>
   simp only [qEx]at h;split at h
   ·rename_i hg;subst hg;simp only [RV]at hr;obtain ⟨a',b',rfl,ha,hb⟩:=hr;simp only [RVL]at ha;subst ha;simp only [qBl,RV];exact ⟨[],b',rfl,qad,qv4 _ _ _ _ h hb⟩
   ·cases h
theorem qq7:∀(ps:List Pm) (l:List TV) (x:denP ps) (l':List V),qsx ps l=some x->RVL l l'->RVL (qde ps x) l'
 |[],l,x,l',h,hr=>by
  cases l with
  |nil=>simpa [qde]using hr
  |cons=>simp [qsx]at h
 |[p],l,x,l',h,hr=>by
  match l,h,hr with
  |[v],h,hr =>
   obtain ⟨u,rfl,h1⟩:=qdn hr;exact qx.2 ⟨qyS h h1,qad⟩
  |[],h,hr=>simp [qsx]at h
  |_::_::_,h,hr=>simp [qsx]at h
 |p::q::ps,l,x,l',h,hr=>by
  match l,h,hr with
  |[],h,hr=>simp [qsx]at h
  |v::l,h,hr =>
   simp only [qsx]at h;obtain ⟨y,hy,h⟩:=qd.1 h;obtain ⟨z,hz,h⟩:=qd.1 h;simp only [qb]at h;subst h;simp only [RVL]at hr;obtain ⟨u,m,rfl,h1,h2⟩:=hr;exact qx.2 ⟨qyS hy h1,qq7 (q::ps) l _ _ hz h2⟩
theorem qDy:∀{l:List Entry},(∀e∈l,qaU P H lib e)->TOk P H lib (qpH l)
 |[],_=>λg args R k r vs h=>by simp [qpH]at h
 |e::l,he=>λg args R k r vs h ha=>by
  have ih:=qDy (l:=l) λe' h'=>he e' (by simp [h']);simp only [qpH]at h;split at h
  ·rename_i hg;subst hg;split at h
   ·rename_i x hx;obtain ⟨y,hy,hk⟩:=qd.1 h;obtain ⟨v,hev,hr⟩:=he e (by simp) x y hy vs (qq7 _ _ _ _ hx ha);exact ⟨_,v,hk,hr,hev⟩
   ·exact ih _ _ _ _ _ _ h ha
  ·exact ih _ _ _ _ _ _ h ha
theorem qz:TOk P H lib (qpH []):=qDy (by simp)
theorem qn{e:Entry}{l:List Entry}(h:qaU P H lib e)(h':TOk P H lib (qpH l)):TOk P H lib (qpH (e::l)):=λg args R k r vs hh ha=>by
 simp only [qpH]at hh;split at hh
 ·rename_i hg;subst hg;split at hh
  ·rename_i x hx;obtain ⟨y,hy,hk⟩:=qd.1 hh;obtain ⟨v,hev,hr⟩:=h x y hy vs (qq7 _ _ _ _ hx ha);exact ⟨_,v,hk,hr,hev⟩
  ·exact h' _ _ _ _ _ _ hh ha
 ·exact h' _ _ _ _ _ _ hh ha
theorem qBr{rs:List (Ty×Nat)}{x:TV}{y:denL (rs.map (·.1))}{v:V}(h:qyT rs x=some y)(hr:RV x v):RV (qiS rs y) v:=by
 match rs,y,h with
 |[p],y,h =>
  simp only [qyT]at h;have:=qv2 [p] [x] y [v] h (qx.2 ⟨hr,qad⟩);simp only [qiS];obtain ⟨τ,o⟩:=p;simp only [ofL]at this ⊢;exact (qx.1 this).1
 |[],y,h =>
  cases x<;>simp only [qyT]at h<;>try (cases h;done)
  rename_i l _;simp only [RV]at hr;obtain ⟨l',rfl,hl⟩:=hr;have:=qv2 [] l y l' h hl;simp only [qiS,ofL,qbg,RV];exact ⟨l',rfl,this⟩
 |p::q::rs,y,h =>
  cases x<;>simp only [qyT]at h<;>try (cases h;done)
  rename_i l _;simp only [RV]at hr;obtain ⟨l',rfl,hl⟩:=hr;have:=qv2 (p::q::rs) l y l' h hl;have hpk:∀m:List TV,2<=m.length->qbg m=.tuple m:=λm hm=>by
   match m,hm with
   |_::_::_,_=>rfl
  simp only [qiS];rw [hpk _ (by rw [qie _ _ _ h];have:=qie _ _ _ h;obtain ⟨τ,o⟩:=p;cases rs<;>simp [ofL]at this<;>omega)];simp only [RV];exact ⟨l',rfl,this⟩
theorem qc5(hT:TOk P H lib T)(hJ:∀g,J.lib g=false->lib g=none)(n:Nat)(g:FuncId)(ps:List Pm)(rs:List (Ty×Nat))(F:denP ps->Option (denL (rs.map (·.1))))
  (h:∀x,fnT P H J T n g (qde ps x) rs=F x):qaU P H lib ⟨g,ps,rs,F⟩:=by
 intro x y hy vs hvs;simp only at hy hvs;rw [<- h x]at hy;unfold fnT at hy;obtain ⟨w,N,wb,v,N',hk,hr,hN,hlen,_,hev⟩:=(qw5 hT hJ n).call _ _ _ _ _ _ _ _ [] hy hvs ⟨rfl,λl s=>by simp [qan,qar,RB],by simp,λl s c h=>by simp [qar]at h⟩;have hN0:N=[]:=List.eq_nil_of_length_eq_zero (by rw [hlen];rfl);subst hN0;have hN0':N'=[]:=List.eq_nil_of_length_eq_zero (by rw [hN.len];rfl);subst hN0';exact ⟨v,hev,qBr hk hr⟩
theorem qpU(hm:P.follows .mixedOrders=true)(qcT:qjY P H)
  (qxC:∀g h args r,lib g=some h->h args=some r->qaB P g args [] r []) {e:Entry} (he:qaU P H lib e) {x:denP e.ps} {y:denL (e.rs.map (·.1))} (h:e.F x=some y) {vs:List V} (hv:RVL (qde e.ps x) vs) :
  ∃v,qaB P e.g vs [] v []/\RV (qiS e.rs y) v:=by
 obtain ⟨v,⟨n,hev⟩,hr⟩:=he x y h vs hv;exact ⟨v,(qvg hm qcT qxC n).call _ _ _ _ _ (hev n (Nat.le_refl _)),hr⟩
end
end Go.Tx
end
section
namespace Go.Tx
open Go Go.Ab Go.RowKit Go.ChangeShapes Go.WideShapes Go.Deep
section
def Rng(N:Nat):(τ:Ty)->τ.den->Prop
 |.int k,n=>k.min<=n/\n<=k.max
 |.bool,_=>True
 |.str,s=>s.length<=N
 |.flt,_=>True
 |.cx,_=>True
 |.err,_=>True
 |.mset _,_=>True
 |.sl t,l=>l.length<=N/\∀e∈l,Rng N t e
 |.unit,_=>True
 |.pair a b,x=>Rng N a x.1/\Rng N b x.2
def qEG(N:Nat):(τs:List Ty)->denP (τs.map .ty)->Prop
 |[],_=>True
 |[τ],x=>Rng N τ x
 |τ::q::l,x=>Rng N τ x.1/\qEG N (q::l) x.2
def cx0(w:World):Cx:={β:=λ_=>none,ω:=λb=>match w.heap[b]? with
 |some (.cells c _ _)=>some (c.size,true)
 |_=>none}
structure Sm {H:Type} (N:Nat) (S:DataW H->Prop):Prop where
 slice:∀es sp,S (.slice es sp)->es.length<=maxLen->es.length<=N/\∀e∈es,S e
 agg:∀ps,S (.agg ps)->∀p∈ps,S p
 str:∀b,S (.lit (.string b))->b.length<=maxLen->b.length<=N
def qvV(N:Nat)(w:World)(τ:Ty)(v:Value):Prop:=∃y u,Rng N τ y/\RTy τ 1000 y u/\Rep w (cx0 w) u v []
section
variable (P:Program)
def okT:Nat->TypeId->Bool
 |0,_=>false
 |d+1,t=>decide (t<P.types.size)&&match P.underlying t with
  |some (.slice e)=>decide (P.cellsOf e≠0)&&((qbz P d e).map List.length==some (P.cellsOf e))&&okT d e
  |some (.struct fields)=>fields.toList.all λfd=>okT d fd.type
  |some (.array _ e)=>okT d e
  |some (.float _)|some (.complex _)=>false
  |_=>true
end
variable {H:Type} {enc:TypeId × Value->H} {P:Program} {w:World} {base:Nat} {held:Bool}
theorem glue{α β:Type}{R:α->β->Prop}:∀(css:List (List α)) (szs:List Nat) (vals:List β),css.length=szs.length->vals.length=szs.sum ->
  (∀(j:Nat) c s,css[j]?=some c->szs[j]?=some s->All2 R c ((vals.drop (szs.take j).sum).take s))->All2 R css.flatten vals
 |[],szs,vals,h1,h2,_=>by
  have:szs=[]:=List.eq_nil_of_length_eq_zero (by simpa using h1.symm);subst this;have:vals=[]:=List.eq_nil_of_length_eq_zero (by simpa using h2);subst this;exact .nil
 |c::css,[],vals,h1,_,_=>by simp at h1
 |c::css,s::szs,vals,h1,h2,h=>by
  have h0:=h 0 c s rfl rfl;simp only [List.take_zero,List.sum_nil,List.drop_zero]at h0;have hr:=glue css szs (vals.drop s) (by simpa using h1) (by simp only [List.length_drop,h2,List.sum_cons];omega) λj c' s' hc hs=>by
   have:=h (j+1) c' s' (by simpa using hc) (by simpa using hs);simpa [List.take_succ_cons,List.sum_cons,List.drop_drop]using this
  have:=h0.append hr;simpa [List.flatten_cons]using this
theorem qvh{N:Nat}:∀(cs:List Ty) (vals:List Value),All2 (qvV N w) cs vals->∃(y:(cs.foldr Ty.pair .unit).den) (us:List V),Rng N _ y/\RTy (cs.foldr Ty.pair .unit) 1000 y (.agg us)/\RepL w (cx0 w) us vals []
 |[],vals,h=>by cases h;exact ⟨(),[],trivial,by simp [RTy],by simp [RepL]⟩
 |c::cs,vals,h=>by
  cases h with
  |cons h1 h2 =>
   obtain ⟨y,u,hy,hu,hr⟩:=h1;obtain ⟨ys,us,hys,hus,hrs⟩:=qvh cs _ h2;refine ⟨(y,ys),u::us,⟨hy,hys⟩,?_,?_⟩
   ·simp only [List.foldr_cons,RTy];exact ⟨u,us,rfl,hu,hus⟩
   ·simp only [RepL];exact ⟨_,_,[],[],rfl,rfl,hr,hrs⟩
theorem quz{d:Nat}{e:TypeId}{σ:Ty}(hc:qbz P d e=some [σ])(hs:∀fs,P.underlying e≠some (.struct fs))(ha:∀n q,P.underlying e≠some (.array n q)):σ.one=true:=by
 cases d with
 |zero=>simp [qbz]at hc
 |succ d =>
  simp only [qbz]at hc;split at hc
  ·cases hc;rfl
  ·cases hc;rfl
  ·cases hc;rfl
  ·cases hc;rfl
  ·cases hc;rfl
  ·split at hc
   ·cases hc;rfl
   ·cases hc;rfl
   ·cases hc;rfl
   ·cases hc
  ·rename_i fs hfs;exact absurd hfs (hs _)
  ·rename_i n e' hfs;exact absurd hfs (ha _ _)
  ·cases hc
def qEy(P:Program)(e:TypeId)(cs:List Ty):Option Ty:=match P.underlying e with
 |some (.struct _)=>some (cs.foldr Ty.pair .unit)
 |some (.array ..)=>some (cs.foldr Ty.pair .unit)
 |_=>match cs with
  |[τ]=>some τ
  |_=>none
theorem qDS{N:Nat}{d:Nat}{e:TypeId}{cs:List Ty}{τ:Ty}(hc:qbz P d e=some cs)(hτ:qEy P e cs=some τ){vals:List Value}(h:All2 (qvV N w) cs vals) :
  ∃(y:τ.den) (u:V) (v:Value),Rng N τ y/\RTy τ 1000 y u/\Rep w (cx0 w) u v []/\v.cells.toList=vals:=by
 have agg:τ=cs.foldr Ty.pair .unit->∃(y:τ.den) (u:V) (v:Value),Rng N τ y/\RTy τ 1000 y u/\Rep w (cx0 w) u v []/\v.cells.toList=vals:=by
  rintro rfl;obtain ⟨y,us,hy,hu,hr⟩:=qvh cs vals h;exact ⟨y,.agg us,.agg vals.toArray,hy,hu,by simp only [Rep];exact ⟨vals,rfl,hr⟩,by simp [Value.cells]⟩
 unfold qEy at hτ;split at hτ
 ·cases hτ;exact agg rfl
 ·cases hτ;exact agg rfl
 ·rename_i hns hna;have hns':=hns;have hna':=hna;split at hτ
  ·cases hτ;have hone:=quz hc (λfs hh=>hns' fs hh) (λn q hh=>hna' n q hh)
   match vals,h with
   |v::_,.cons h1 .nil =>
    obtain ⟨y,u,hy,hu,hr⟩:=h1;refine ⟨y,u,v,hy,hu,hr,?_⟩;rw [qbZ (qjG (qAG hone hu) hr)]
  ·cases hτ
theorem frozen0{b:Nat}{e:Nat}{fz:Bool}(h:(cx0 w).ω b=some (e,fz)):fz=true/\b<w.heap.size/\∃c t fr,w.heap[b]?=some (.cells c t fr)/\e=c.size:=by
 simp only [cx0]at h;split at h
 ·rename_i c t fr hc;cases h;exact ⟨rfl,(Array.getElem?_eq_some_iff.1 hc).1,c,t,fr,hc,rfl⟩
 ·cases h
theorem qk9{a:Addr}{v:Value}(h:w.cell? a=some v):a.spot=none/\∃c t fr,w.heap[a.block]?=some (.cells c t fr)/\c[a.off]?=some v:=by
 unfold World.cell? at h;split at h
 ·rename_i c t fr hc;split at h
  ·cases h
  ·rename_i hs;exact ⟨by simpa using hs,c,t,fr,hc,h⟩
 ·cases h
theorem qAO{N:Nat}{τ:Ty}{b off len cap s:Nat}(hs:0<s)(hlc:len<=cap)(hcap:cap≠0)(hτ:τ.qbT=true)(hn:τ.qbc=s)
  (hel:∀i,i<cap->∃vals:List Value,vals.length=s/\(∀j,j<s->w.cell? ⟨b,off+i*s+j,none⟩=vals[j]?)/\(i<len->∃(y:τ.den) (u:V) (v:Value),Rng N τ y/\RTy τ 1000 y u/\Rep w (cx0 w) u v []/\v.cells.toList=vals)) :
  ∃(l:List τ.den) (us:List V),l.length=len/\(∀y∈l,Rng N τ y)/\All2 (RTy τ 1000) l us/\Rep w (cx0 w) (.sl .shared false us) (.slice (some ⟨b,off,none⟩) len cap) []:=by
 have key:∀n,n<=len->∃(l:List τ.den) (us:List V) (vals:List Value),l.length=n/\(∀y∈l,Rng N τ y)/\All2 (RTy τ 1000) l us/\RepE w (cx0 w) s us vals []/\vals.length=n*s/\(∀j v,vals[j]?=some v->w.cell? ⟨b,off+j,none⟩=some v):=by
  intro n;induction n with
  |zero=>exact λ_=>⟨[],[],[],rfl,by simp,.nil,by simp [RepE],by simp,by simp⟩
  |succ n ih =>
   intro hle;obtain ⟨l,us,vals,h1,h2,h3,h4,h5,h6⟩:=ih (by omega);obtain ⟨vs,hvl,hvc,hy⟩:=hel n (by omega);obtain ⟨y,u,v,hry,hu,hr,hcv⟩:=hy (by omega);refine ⟨l++[y],us++[u],vals++vs,by simp [h1],?_,h3.append (.cons hu .nil),?_,by simp [h5,hvl,Nat.succ_mul],?_⟩
   ·intro z hz;simp only [qj,List.mem_singleton]at hz;rcases hz with hz|rfl
    ·exact h2 z hz
    ·exact hry
   ·have h7:RepE w (cx0 w) s [u] vs []:=by
     simp only [RepE];exact ⟨v,[],[],[],by simp [hcv],by rw [<- hvl,<- hcv];simp,rfl,hr,rfl,rfl⟩
    simpa using qg3 h4 h7
   ·intro j v hj;by_cases hlt:j<vals.length
    ·rw [qg hlt]at hj;exact h6 j v hj
    ·rw [List.getElem?_append_right (by omega)]at hj;have hjs:=(qm.1 hj).1;have:=hvc (j-vals.length) (by omega);rw [hj]at this;rw [<- this];congr 2
     omega
 obtain ⟨l,us,vals,h1,h2,h3,h4,h5,h6⟩:=key len (Nat.le_refl _);refine ⟨l,us,h1,h2,h3,?_⟩;have hlen:=h3.length;have hcells:=qdy hτ h3
 obtain ⟨vs,hvl,hvc,_⟩:=hel 0 (by omega);have hc0:=hvc 0 (by omega);have hv0:∃v0,vs[0]?=some v0:=⟨vs[0]'(by omega),List.getElem?_eq_getElem (by omega)⟩
 obtain ⟨v0,hv0⟩:=hv0;rw [hv0]at hc0;obtain ⟨_,c,t,fr,hblk,hoff⟩:=qk9 hc0;simp only [Nat.zero_mul,Nat.add_zero]at hblk hoff;have hoff':=(Array.getElem?_eq_some_iff.1 hoff).1;simp only [Rep];refine ⟨qyJ h3,.inr ⟨b,off,cap,s,vals,[],?_,?_,by simp,?_,hs,?_,h6,⟨c.size,true,?_,?_,rfl⟩,h4,by simp,by simp⟩⟩
 ·rw [hlen,h1]
 ·rw [hlen,h1];exact hlc
 ·rw [hlen,h1];exact h5
 ·intro x hx;rw [(hcells x hx).1];exact hn
 ·simp only [cx0,hblk]
 ·by_cases h0:vals.length=0
  ·rw [h0];omega
  ·have:∃v1,vals[vals.length-1]?=some v1:=⟨vals[vals.length-1]'(by omega),List.getElem?_eq_getElem (by omega)⟩
   obtain ⟨v1,hv1⟩:=this;obtain ⟨_,c',t',fr',hblk',hoff1⟩:=qk9 (h6 _ _ hv1);simp only at hblk' hoff1;rw [hblk]at hblk';cases hblk'
   have:=(Array.getElem?_eq_some_iff.1 hoff1).1;omega
theorem qxr{d:Nat}{e:TypeId}{cs:List Ty}{τ:Ty}(hc:qbz P d e=some cs)(hτ:qEy P e cs=some τ)(hones:∀c∈cs,c.one=true):τ.qbT=true/\τ.qbc=cs.length:=by
 have agg:∀cs:List Ty,(∀c∈cs,c.one=true)->(cs.foldr Ty.pair .unit).qo8=true/\(cs.foldr Ty.pair .unit).qbT=true/\(cs.foldr Ty.pair .unit).qbc=cs.length:=by
  intro cs;induction cs with
  |nil=>intro _;exact ⟨rfl,rfl,rfl⟩
  |cons c cs ih =>
   intro h;obtain ⟨h1,_,h3⟩:=ih λc' hc'=>h c' (by simp [hc']);simp only [List.foldr_cons,Ty.qo8,Ty.qbT,Ty.qbc,h c (by simp),h1,h3,Bool.and_self,List.length_cons];exact ⟨trivial,trivial,trivial⟩
 unfold qEy at hτ;split at hτ
 ·cases hτ;exact ⟨(agg cs hones).2.1,(agg cs hones).2.2⟩
 ·cases hτ;exact ⟨(agg cs hones).2.1,(agg cs hones).2.2⟩
 ·split at hτ
  ·cases hτ;have h1:=hones τ (by simp);cases τ<;>first|exact ⟨rfl,rfl⟩|simp [Ty.one]at h1
  ·cases hτ
theorem qnv{α β:Type}{g:α->Option β}:∀{l:List α} {r:List β},l.mapM g=some r->r.length=l.length/\∀(i:Nat) (a:α),l[i]?=some a->∃b,r[i]?=some b/\g a=some b
 |[],r,h=>by simp at h;subst h;exact ⟨rfl,by simp⟩
 |a::l,r,h=>by
  simp only [List.mapM_cons,Option.bind_eq_bind,qd]at h;obtain ⟨b,hb,r',hr',h⟩:=h;cases h;obtain ⟨h1,h2⟩:=qnv hr';refine ⟨by simp [h1],λi x hi=>?_⟩;cases i with
  |zero=>simp at hi;subst hi;exact ⟨b,rfl,hb⟩
  |succ n=>obtain ⟨c,hc,hg⟩:=h2 n x (by simpa using hi);exact ⟨c,by simpa using hc,hg⟩
theorem qfD:∀(d:Nat) (t:TypeId) (cs:List Ty),qbz P d t=some cs->∀c∈cs,c.one=true
 |0,t,cs,h=>by simp [qbz]at h
 |d+1,t,cs,h=>by
  simp only [qbz]at h;split at h
  ·cases h;simp [Ty.one]
  ·cases h;simp [Ty.one]
  ·cases h;simp [Ty.one]
  ·cases h;simp [Ty.one]
  ·cases h;simp [Ty.one]
  ·split at h
   ·cases h;simp [Ty.one]
   ·cases h;simp [Ty.one]
   ·cases h;simp [Ty.one]
   ·cases h
  ·rename_i fields _;obtain ⟨css,hcss,rfl⟩:=qc.1 h;obtain ⟨h1,h2⟩:=qnv hcss;intro c hc;obtain ⟨q,hq,hcq⟩:=List.mem_flatten.1 hc;obtain ⟨i,hi⟩:=List.mem_iff_getElem?.1 hq;have hlt:i<fields.toList.length:=by have:=(qm.1 hi).1;omega
   obtain ⟨b,hb,hg⟩:=h2 i _ (List.getElem?_eq_getElem hlt);rw [hi]at hb;cases hb;exact qfD d _ _ hg c hcq
  ·obtain ⟨q,hq,rfl⟩:=qc.1 h;intro c hc;obtain ⟨q',hq',hcq⟩:=List.mem_flatten.1 hc;obtain ⟨_,rfl⟩:=List.mem_replicate.1 hq';exact qfD d _ _ hq c hcq
  ·cases h
end
section
variable {H:Type} {enc:TypeId × Value->H} {P:Program} {w:World} {base:Nat} {held:Bool}
theorem qvx{d:Nat}{e:TypeId}{cs1 cs:List Ty}(hc:qbz P d e=some cs1)(h:(match qbz P d e,P.underlying e with
   |some cs,some (.struct _)=>some [Ty.sl (cs.foldr .pair .unit)]
   |some cs,some (.array ..)=>some [.sl (cs.foldr .pair .unit)]
   |some [τ],_=>some [.sl τ]
   |_,_=>none)=some cs):∃τ,cs=[.sl τ]/\qEy P e cs1=some τ:=by
 rw [hc]at h;unfold qEy;cases hu:P.underlying e with
 |none=>rw [hu]at h;simp only at h ⊢;split at h<;>simp_all
 |some dd =>
  rw [hu]at h;cases dd<;>simp only at h ⊢<;>first|(simp only [qb]at h;exact ⟨_,h.symm,rfl⟩)|(split at h<;>simp_all)
theorem qAz{X:Cx}:Rep w X (.sl .shared false []) (.slice none 0 0) []:=by simp [Rep,ptrsL]
theorem qAB{X:Cx}(a:Addr):Rep w X (.sl .shared false []) (.slice (some a) 0 0) []:=by simp [Rep,ptrsL]
theorem qiv(hl:laidOutB P=true){N:Nat}{S:DataW H->Prop}(hS:Sm N S):∀(d:Nat) (t:TypeId) (cs:List Ty),qbz P d t=some cs->okT P d t=true->∀(fuel:Nat) (vals:List Value) (x:DataW H×List MemPlace),S x.1 ->
  DataW.trod enc P w base (λ_=>true) held fuel t vals=some x->All2 (qvV N w) cs vals
 |0,t,cs,hc,_,fuel,vals,x,hx,h=>by simp [qbz]at hc
 |d+1,t,cs,hc,hok,fuel,vals,x,hx,h=>by
  simp only [qbz]at hc;simp only [okT,qe,decide_eq_true_eq]at hok;split at hc
  ·rename_i k hu;cases hc;obtain ⟨n,rfl,rfl,hwf⟩:=DataW.trod_int hu h;refine .cons ⟨n,.val (.int k n),?_,by simp [RTy],by simp [Rep]⟩ .nil;simp only [Rng];simp only [Lit.wf,qe,decide_eq_true_eq]at hwf;exact hwf
  ·rename_i hu;cases hc;obtain ⟨b,rfl,rfl⟩:=DataW.trod_bool hu h;exact .cons ⟨b,.val (.bool b),trivial,by simp [RTy],by simp [Rep]⟩ .nil
  ·rename_i hu;cases hc;obtain ⟨s,rfl,rfl,hs⟩:=DataW.trod_string hu h;have hsl:s.data.toList.length<=maxLen:=by
    have e:s.data.toList.length=s.size:=Array.length_toList;rw [e];exact hs
   exact .cons ⟨s.data.toList,.val (.string s),hS.str _ hx hsl,by simp [RTy],by simp [Rep]⟩ .nil
  ·rename_i hu;rw [hu]at hok;simp at hok
  ·rename_i hu;rw [hu]at hok;simp at hok
  ·rename_i e hu;obtain ⟨ht,hoe⟩:=hok;rw [hu]at hoe;simp only [qe,decide_eq_true_eq,beq_iff_eq]at hoe;cases hce:qbz P d e with
   |none=>rw [hce]at hc;simp at hc
   |some cs1 =>
    obtain ⟨τ,rfl,hτ⟩:=qvx hce (by rw [hce];rw [hce]at hc;exact hc);obtain ⟨hel,hnc⟩:=qxr hce hτ (qfD d e cs1 hce);rcases open_slice hu h with ⟨rfl,rfl⟩|⟨a,len,cap,m,n,D,Pl,rfl,hb,hlc,hcm,hm,rfl,hx'⟩
    ·exact .cons ⟨[],.sl .shared false [],⟨Nat.zero_le _,by simp⟩,by simp only [RTy];exact ⟨_,_,[],rfl,qhl rfl (by simp) (λ_=>rfl),.nil⟩,qAz⟩ .nil
    ·simp only [if_true]at hm;subst hm;obtain ⟨hN,hSe⟩:=hS.slice _ _ hx (by simp;omega);by_cases hcap:m=0
     ·subst hcap;have hlen:len=0:=by omega
      subst hlen;exact .cons ⟨[],.sl .shared false [],⟨Nat.zero_le _,by simp⟩,by simp only [RTy];exact ⟨_,_,[],rfl,qhl rfl (by simp) (λ_=>rfl),.nil⟩,qAB a⟩ .nil
     ·have hspot:a.spot=none:=by
       obtain ⟨cs',hcs',_⟩:=hx' 0 (by omega);obtain ⟨_,hl1,hc1⟩:=World.cells?_some hcs';have h0:=hc1 0 (by omega);simp only [Nat.zero_mul]at h0;have:∃v0,cs'[0]?=some v0:=⟨cs'[0]'(by omega),List.getElem?_eq_getElem (by omega)⟩
       obtain ⟨v0,hv0⟩:=this;rw [hv0]at h0;have:=(qk9 h0).1;simpa [Addr.add]using this
      obtain ⟨b,off,spot⟩:=a;simp only at hspot;subst hspot;have hsz:∀i,i<m->∃vals:List Value,vals.length=P.cellsOf e/\(∀j,j<P.cellsOf e->w.cell? ⟨b,off+i*P.cellsOf e+j,none⟩=vals[j]?) /\
        (i<len->∃(y:τ.den) (u:V) (v:Value),Rng N τ y/\RTy τ 1000 y u/\Rep w (cx0 w) u v []/\v.cells.toList=vals):=λi hi=>by
       obtain ⟨cs',hcs',htr⟩:=hx' i hi;obtain ⟨_,hl1,hc1⟩:=World.cells?_some hcs';refine ⟨cs',hl1,λj hj=>?_,λhil=>?_⟩
       ·rw [<- hc1 j hj,Addr.add_lit,Addr.add_lit]
       ·have hSi:S (D i):=hSe _ (List.mem_map.2 ⟨i,List.mem_range.2 hil,rfl⟩);exact qDS hce hτ (qiv hl hS d e cs1 hce hoe.2 n cs' _ hSi htr)
      have hn:τ.qbc=P.cellsOf e:=by
       have:=hoe.1.2;rw [hce]at this;simp only [qi,qb]at this;rw [hnc,this]
      obtain ⟨l,us,h1,h2,h3,h4⟩:=qAO (Nat.pos_of_ne_zero hoe.1.1) hlc hcap hel hn hsz;exact .cons ⟨l,.sl .shared false us,⟨by rw [h1];simpa using hN,h2⟩,by simp only [RTy];exact ⟨_,_,us,rfl,qhl rfl (by simp) (λ_=>rfl),h3⟩,h4⟩ .nil
  ·rename_i fields hu;obtain ⟨ht,hoe⟩:=hok;rw [hu]at hoe;simp only [List.all_eq_true]at hoe;obtain ⟨css,hcss,rfl⟩:=qc.1 hc;obtain ⟨hl1,hget⟩:=qnv hcss;obtain ⟨xs,n,_,rfl,hvl,hxl,hxs⟩:=DataW.trod_struct hu h;obtain ⟨_,hsum,hoff⟩:=kid_struct hl ht hu;refine glue css (fields.toList.map λf=>P.cellsOf f.type) vals (by simp [hl1]) (by rw [hvl,hsum]) λj c s hcj hsj=>?_;rw [List.getElem?_map]at hsj;obtain ⟨fd,hfd,rfl⟩:=qc.1 hsj;obtain ⟨c',hc',hg⟩:=hget j fd hfd;rw [hcj]at hc';cases hc';have hx1:=hxs j fd (by simpa using hfd);rw [hoff j fd hfd,List.map_take]at hx1;have hj:j<xs.length:=by rw [hxl];have:=(qm.1 hfd).1;simpa using this
   rw [List.getElem?_eq_getElem hj]at hx1;exact qiv hl hS d fd.type c hg (hoe fd (List.mem_of_getElem? hfd)) n _ _ (hS.agg _ hx _ (List.mem_map.2 ⟨xs[j],List.getElem_mem hj,rfl⟩)) hx1
  ·rename_i n' e hu;obtain ⟨ht,hoe⟩:=hok;rw [hu]at hoe;simp only at hoe;obtain ⟨cs1,hce,rfl⟩:=qc.1 hc;obtain ⟨_,hsum⟩:=kid_array hl ht hu;cases fuel with
   |zero=>simp [DataW.trod]at h
   |succ fuel =>
    unfold DataW.trod at h;rw [hu]at h;simp only at h;split at h
    ·rename_i hvl;obtain ⟨xs,hxs,rfl⟩:=qc.1 h;obtain ⟨hxl,hget⟩:=qnv hxs;refine glue _ (List.replicate n' (P.cellsOf e)) vals (by simp) (by rw [hvl,hsum];simp) λj c s hcj hsj=>?_;have hjn:j<n':=by have:=(qm.1 hcj).1;simpa using this
     rw [List.getElem?_replicate,if_pos hjn]at hcj hsj;cases hcj;cases hsj
     obtain ⟨b,hb,hg⟩:=hget j j (by simp [hjn]);have htk:((List.replicate n' (P.cellsOf e)).take j).sum=j*P.cellsOf e:=by
      rw [List.take_replicate];simp [Nat.min_eq_left (Nat.le_of_lt hjn)]
     rw [htk];exact qiv hl hS d e cs1 hce hoe fuel _ _ (hS.agg _ hx _ (List.mem_map.2 ⟨b,List.mem_of_getElem? hb,rfl⟩)) hg
    ·cases h
  ·cases hc
theorem qCm(hl:laidOutB P=true){N:Nat}{S:DataW H->Prop}(hS:Sm N S){t:TypeId}{τ:Ty}(hτ:qDz P t=some τ)(hok:okT P 10 t=true){v:Value}{d:DataW H}{ps:List MemPlace}{b0:Nat}(hval:Value.okWide P w .any b0 t v)
  (h:DataW.Trod enc P w base (λ_=>true) held t v d ps) (hd:S d):qvV N w τ v:=by
 obtain ⟨fuel,hf⟩:=h;unfold qDz at hτ;split at hτ
 ·rename_i cs hc;have hall:=qiv hl hS 10 t cs hc hok fuel _ _ hd hf;split at hτ
  ·rename_i ha;cases hτ;obtain ⟨y,us,hy,hu,hr⟩:=qvh cs _ hall;have hv:∃c,v=.agg c:=by
    unfold qR at ha;unfold Value.okWide at hval;split at ha
    ·rename_i fs hfs;rw [hfs]at hval;obtain ⟨c,hc,_⟩:=hval;exact ⟨c,hc⟩
    ·rename_i n e hfs;rw [hfs]at hval;obtain ⟨c,hc,_⟩:=hval;exact ⟨c,hc⟩
    ·cases ha
   obtain ⟨c,rfl⟩:=hv;refine ⟨y,.agg us,hy,hu,?_⟩;simp only [Rep];exact ⟨c.toList,by simp,by simpa [Value.cells]using hr⟩
  ·rename_i ha
   match cs,hτ,hall with
   |τ'::cs',hτ,hall =>
    simp only [List.head?_cons,qb]at hτ;subst hτ;have hone:=qfD 10 t _ hc τ' (by simp);have hv:v.cells.toList=[v]:=by
     cases v with
     |agg c =>
      exfalso
      unfold qR at ha;unfold Value.okWide at hval;split at hval
      ·rename_i fs hfs;rw [hfs]at ha;simp at ha
      ·rename_i n e hfs;rw [hfs]at ha;simp at ha
      ·unfold Cell.okWide Cell.ok at hval;split at hval;all_goals first|(rename_i h1 h2;cases h2;done)|skip
       all_goals (split at hval<;>first|(exact hval.elim)|(rename_i h1 h2;cases h2))
     |_=>rfl
    rw [hv]at hall;cases hall with
    |cons h1 h2=>exact h1
 ·cases hτ
theorem qtA(hl:laidOutB P=true){N:Nat}{S:DataW H->Prop}(hS:Sm N S){b0:Nat}:∀(ts:List TypeId) (τs:List Ty) (vs:List Value) (ds:List (DataW H)) (ps:List MemPlace),ts.mapM (qDz P)=some τs->ts.all (okT P 10)=true ->
  (∀(j:Nat) t v,ts[j]?=some t->vs[j]?=some v->Value.okWide P w .any b0 t v)->DataW.TrodAll enc P w base (λ_=>true) held ts vs ds ps->(∀d∈ds,S d) ->
  ∃x us,qEG N τs x/\RVL (qde (τs.map .ty) x) us/\RepL w (cx0 w) us vs []
 |[],τs,vs,ds,ps,hm,_,_,h,_=>by
  simp at hm;subst hm;obtain ⟨rfl,_,_⟩:=trodAll_nil h;exact ⟨(),[],trivial,qad,by simp [RepL]⟩
 |t::ts,τs,vs,ds,ps,hm,hok,hval,h,hd=>by
  simp only [List.mapM_cons,Option.bind_eq_bind,qd]at hm;obtain ⟨τ,hτ,τs',hm',he⟩:=hm;cases he;simp only [List.all_cons,qe]at hok;obtain ⟨v,vs',d,ds',p,q,rfl,rfl,rfl,h1,h2⟩:=trodAll_cons h;obtain ⟨y,u,hy,hu,hr⟩:=qCm hl hS hτ hok.1 (hval 0 t v rfl rfl) h1 (hd d (by simp));obtain ⟨x,us,hx,hus,hrs⟩:=qtA hl hS ts τs' vs' ds' q hm' hok.2 (λj t' v' a b=>hval (j+1) t' v' (by simpa using a) (by simpa using b)) h2 λd' hd'=>hd d' (by simp [hd']);have hR:RepL w (cx0 w) (u::us) (v::vs') []:=by simp only [RepL];exact ⟨v,vs',[],[],rfl,rfl,hr,hrs⟩
  cases τs' with
  |nil=>exact ⟨y,u::us,hy,(qx.2 ⟨rv_ofTy _ _ _ _ hu,hus⟩:RVL (ofTy τ 1000 y::[]) (u::us)),hR⟩
  |cons τ2 τs2=>exact ⟨(y,x),u::us,⟨hy,hx⟩,(qx.2 ⟨rv_ofTy _ _ _ _ hu,hus⟩:RVL (ofTy τ 1000 y::qde ((τ2::τs2).map .ty) x) (u::us)),hR⟩
theorem qkY(hl:laidOutB P=true){W W':World}(hb:Below W.heap.size W W'):∀{ts:List TypeId} {vs:List Value} {ds:List (DataW H)} {ps:List MemPlace},ts.all (λt=>P.readableRec t&&decide (t<P.types.size))=true ->
  DataW.TrodAll enc P W 0 (λ_=>true) true ts vs ds ps->(∀x∈ps,x.block<W.heap.size)->∀sp:Nat->Bool,(∀p∈ps,sp p.block=true)->DataW.TrodAll enc P W' 0 sp true ts vs ds ps
 |[],[],[],ps,_,h,_,sp,_=>h
 |t::ts,v::vs,d::ds,ps,hr,⟨p,q,h1,h2,e⟩,hlt,sp,hsp=>by
  simp only [List.all_cons,qe,decide_eq_true_eq]at hr;subst e;refine ⟨p,q,?_,qkY hl hb hr.2 h2 (λx hx=>hlt x (List.mem_append_right _ hx)) sp (λx hx=>hsp x (List.mem_append_right _ hx)),rfl⟩;exact WideElems.Trod_stays hl hr.1.1 hr.1.2 h1 (λx hx=>hb.same (hlt x (List.mem_append_left _ hx))) (λx hx=>hsp x (List.mem_append_left _ hx))
theorem qFH{w:World}:LRel [] w (cx0 w) (λ_=>[]) where
 box:=λr c h=>by simp [qa6]at h
 boxD:=λ_ _=>rfl
 inj:=λr r' b h=>by simp [qa6]at h
 lin:=λ_=>Lin.nil
 dis:=λ_ _ _ b hb=>by cases hb
 ptrB:=λr c h=>by simp [qa6]at h
 up:=λr c h=>by simp [qa6]at h
 dom:=λb e fz h=>(frozen0 h).2.1
theorem qzO{H0:Hints}{lib:FuncId->Option (List V->Option V)}(hm:P.follows .mixedOrders=true)(qcT:qjY P H0)
  (qxC:∀g h args r,lib g=some h->h args=some r->qaB P g args [] r []) (hl:laidOutB P=true) {N:Nat} {S:DataW H->Prop} (hS:Sm N S) {k:FuncId} {fn:Func} (hfn:P.funcs[k]?=some fn) (hbody:fn.body.isSome=true)
  {ts:List TypeId} {τs:List Ty} (hts:ts.mapM (qDz P)=some τs) (hok:ts.all (okT P 10)=true) {F:denP (τs.map .ty)->Option Bool}
  (he:qaU P H0 lib ⟨k,τs.map .ty,[(.bool,0)],F⟩) (hF:∀x,qEG N τs x->F x=some true)
  {W:World} {args:Array Value} {ds:List (DataW H)} {ps:List MemPlace} {b0:Nat} (hval:∀(j:Nat) t v,ts[j]?=some t->args.toList[j]?=some v->Value.okWide P W .any b0 t v)
  (h:DataW.TrodAll enc P W 0 (λ_=>true) true ts args.toList ds ps) (hd:∀d∈ds,S d) (hgl:qgu W (cx0 W)) :
  Calls P k args W λe W'=>e=.returned (.bool true)/\Below W.heap.size W W':=by
 obtain ⟨x,us,hx,hus,hrs⟩:=qtA hl hS ts τs args.toList ds ps hts hok hval h hd;obtain ⟨v,hcall,hr⟩:=qpU hm qcT qxC he (x:=x) (y:=true) (hF x hx) hus;simp only [qiS,ofL,qbg,ofTy,RV,RTy]at hr;subst hr;have hp:ptrsL us=[]:=by
  apply List.eq_nil_iff_forall_not_mem.2;intro q hq;have hk:∀(τs:List Ty) (x:denP (τs.map .ty)),ptrsTL (qde (τs.map .ty) x)=[]:=by
   have h1:∀(τ:Ty) (y:τ.den),(ofTy τ 1000 y).qt=[]/\ptrsTL (ofTyC τ 1000 y)=[]:=by
    intro τ;induction τ with
    |pair a b iha ihb=>intro y;simp [ofTy,ofTyC,TV.qt,ptrsTL,(iha y.1).1,(ihb y.2).2]
    |_=>intro y;simp [ofTy,ofTyC,TV.qt,ptrsTL]
   intro τs;induction τs with
   |nil=>intro x;rfl
   |cons τ τs ih =>
    intro x;cases τs with
    |nil=>show ptrsTL [ofTy τ 1000 x]=[];simp [ptrsTL,(h1 τ x).1]
    |cons τ2 τs2=>show ptrsTL (ofTy τ 1000 x.1::qde ((τ2::τs2).map .ty) x.2)=[];simp only [ptrsTL,(h1 τ x.1).1,List.nil_append];exact ih x.2
  have:=RVL.qt _ _ hus q hq;rw [hk]at this;cases this
 rcases hcall W (cx0 W) args.toList (λ_=>[]) hrs hgl qFH (λq hq=>by rw [hp]at hq;cases hq) (λ_ b e fz h=>(frozen0 h).1)with ⟨_,hc⟩|⟨_,v,w',hv,_⟩
 ·refine (by simpa using hc:Calls P k args W _).mono ?_;rintro e W' ⟨v,rfl,X',O',Or,hrep,_,_,_,_,_,_,haft⟩;simp only [Rep]at hrep;obtain ⟨rfl,_⟩:=hrep;refine ⟨rfl,⟨haft.os,haft.tape,haft.out,haft.size,λb hb=>?_⟩⟩;exact (haft.kept b hb (by rintro (⟨r,h1,_⟩|⟨r,h1⟩)<;>simp [qa6]at h1)).1
 ·exfalso
  have hbs:fn.body.isNone=false:=by cases hb:fn.body<;>simp_all
  simp only [callFunc,Sem.run_bind,run_program,Result.andThen_ok,hfn,qcT.1 k fn hfn hbody,hbs,qf,if_false,Sem.run_pure]at hv;cases hv
end
end Go.Tx
end
section
namespace Go.Proofs.YtkcaaaiihhhnmaaGreatDoor.Hn
open Go
def qFT:List (List Nat):=[[],[],[],[],[],[],[59,64,66,74,78,80,84,86,100,109,113,122,137,141,143,146,148,161,191],[],[],[],[12,21,23,30,38],[18,51],[13,22,24,32,43,51],[],[],[],[],[],[],[],[],[],[],[],[],[],[22,23,28],[11,31],[],[17,26,33,35,39,45,52],[],[],[],[],[],[],[5,10],[],[5,10],[5,8,10,14,16,19,24,28],[7],[],[12,26,34,39,41,45,50],[],[],[],[14,15,19,21,22],[],[],[],[],[9,16],[47,48,50,55],[],[],[],[17],[],[],[],[],[],[],[],[],[],[],[],[],[],[18,22,23],[],[13],[6],[],[],[],[],[],[],[],[],[],[],[],[],[],[],[32,38,40,49,50,52,61,62],[],[8,14],[18],[],[],[],[],[],[],[],[],[46,57,74,89,98,99,108,109,128,129],[26,43,51,72,89,97],[37],[10,16],[46,49,50,54,55],[15,31],[32,44,55,65,76,85],[],[],[],[],[],[],[],[],[11,19,33,40,57],[42,66,91,93,94,98,102,109,114,115,122,124,125,133],[],[],[],[],[],[],[],[],[7],[],[],[],[],[],[],[],[],[17],[],[],[],[],[18,22,23],[],[22,23],[],[18],[22,23],[],[],[],[22,23],[31,36],[],[],[],[14,21],[22,23],[16],[17,21,24],[],[],[8,29],[],[43],[],[],[],[],[],[],[],[],[27],[],[33,45,47,50,53,56],[],[],[83],[80,167],[],[],[17],[],[],[],[],[],[],[],[],[],[],[],[19],[],[],[8,14],[15,27,40,44],[14],[],[],[],[17],[17],[13,17],[75],[],[32],[],[11,19,27,35],[],[],[],[],[],[],[],[],[],[],[],[],[],[17],[20],[24,39,43,60,64,76,78,82,87,99,103,108,113],[],[],[],[],[],[24,25,26,27]]
def qEO:List (List (Nat×List Nat)):=[[],[],[],[],[],[],[(0,[16,17,18,19,20,21,22,23,24,94,95,96,97,98,99,100,101,102,103,104,105,106,107,108,109,110,111,112,113,114,115,116,117,118,119,120,121,122,123,124,125,126,127,128,129,130,131,132,133,134,135,136,137,138,139,140,141,142,143,144,145,146,147,148,149,150,151,152,153,154,155,156,157,158,159,160,161,162,163,164,165,166,167,168,169,170,171,172,173,174,175,176,177,178,179,180,181,182,183,184,185,186,187,188,189,190,191]),(2,[165,166,167,168,169,170,171,172,173,174,175,176,177]),(4,[178,179,180,181,182,183,184,185,186,187,188,189,190])],[],[(0,[22,23,24,25,26,27,28,29,30,31,32,33,34,35]),(2,[36,37,38,39,40,41,42,43,44,45,46,47,48,49,50,51,52,53,54,55,56,57,58,59,60,61,62,63,64,65,66,67,68,69,70]),(4,[71,72,73,74,75,76,77,78,79,80,81,82,83,84])],[],[(0,[11,27,28,29,30,31,32,33,34,35])],[(0,[10,11,12,13,14,15,16,17,18,19,20,21,22,23,24,25,26,27,28,29,30,31,32,33,34,35,36,37,38,39,40,41,42]),(2,[43,44,45,46,47,48,49,50,51,52,53,54,55,56,57,58,59,60])],[(0,[35,36,37,38,39,40,41,42,43,44,45,46,47,48])],[],[],[(0,[11,12,13,14,15,16,17,18,19,20,21,22,23,24,25])],[],[],[],[],[],[],[],[],[(0,[4,8,9,10,11,12,13,14,15,16,17,18,19,20,21,22,23,24,25,26,27,28,29,30,31,32,33,34,35,36,37,38,39,40,41,42,43,44,45,46,47,48,49]),(2,[30,31,32,33,34,35,36,37,38,39,40,41,42,43,44,45,46,47,48,49])],[],[(0,[5,6,10,11,12,13,14,15,16,17,18,19,20,21,22,23,24,25,26,27])],[(0,[5,6,7,8,9,10,11,12,13,14,15,16,17,18,19,20,21,22,23,24,25,26,27,28,29,30])],[],[],[],[],[],[],[],[(0,[11,12,13,14,15,16,17,18,19,20,21,22,23,24,25,26,27,28,29,30,31,32,33,34,35,36,37,38,39,40,41,42,43,44,45,46,47,48,49,50,51,52,53,54])],[],[],[],[],[],[(0,[6,10,11,12,13,14,15,16,17,18,19,20,21,22,23,24,25,26,27,28,29,30,31,32,33,34,35,36,37,38,39,40,41,42,43,44,45,46,47,48,49,50,51,52,53,54]),(2,[41,42,43,44,45,46,47,48,49,50,51,52,53,54])],[(0,[8,9,10,11,30,31,32,33,34,35,36,37,38,39,40,41,42,43,44,45,46,47,48,49,50,51])],[],[(0,[6,7,8,9,10,11,12,13,14,15,16,17])],[],[],[],[],[],[],[],[(0,[10,11,18,19,20,21,22,23,24,25,26,27,28,29,30,31,32,33,34,35,36,37,38,39,40,41,42,43,44,45,46,47,48,49,50,51,52,53,54])],[],[],[],[(0,[5,9,10,11,12,13,14,15,16,17,18])],[],[],[(0,[7,8,9,10,11,12,13,14,15,16,17,18,19,20,21,22,23,24,25,26,27])],[],[],[],[],[],[],[],[],[],[],[(0,[6,7,8,12,13,14,15,16,17,18,19,20,21,22,23,24])],[],[(0,[4,8,9,10,11,12,13,14])],[],[],[],[],[],[],[],[],[],[],[],[],[],[],[],[],[],[],[],[],[],[(0,[6,7,8,9,10,11,12,13,14,15,16,17])],[],[],[],[(0,[11,12,13,14,15,16,17,18,19,20,21,22,23,24,25])],[],[(0,[32,33,34,35,36,37,38,39,40,41,42,43,44,45,46,47,48,49,50,51,52,53,54,55,56,57]),(2,[6,7,8,9,58,59,60,61,62,63,64,65,66,67,68,69,70,71,72,73,74,75,76,77,78,79,80,81,82,83,84,85,86,87,88,89,90,91,92,93,94,95,96,97,98,99,100,101,102,103,104,105,106,107,108,109]),(4,[75,76,77,78,79,80,81,82,83,84,85,86,87,88,89]),(6,[11,110,111,112,113,114,115,116,117,118,119,120,121,122,123,124,125,126,127,128,129])],[(0,[5,6,13,14,15,16,17,18,19,20,21,22,23,24,25,26,27,28,29,30,31,32,33,34,35,36,37,38,39,40,41,42,43,44,45,46,47,48,49,50,51,52,53,54,55,56,57,58,59,60,61,62,63,64,65,66,67,68,69,70,71,72,73,74,75,76,77,78,79,80,81,82,83,84,85,86,87,88,89,90,91,92,93,94,95,96,97]),(2,[27,28,29,30,31,32,33,34,35,36,37,38,39,40,41,42,43]),(4,[52,53,54,55,56,57,58,59,60,61,62,63,64,65,66,67,68,69,70,71,72,73,74,75,76,77,78,79,80,81,82,83,84,85,86,87,88,89])],[(0,[4,5,14,15,16,17,18,19,20,21,22,23,24,25,26,27,28,29,30,31,32,33,34,35,36,37,38,39,40,41,42,43,44,45,46,47,48,49,50,51,52,53,54])],[],[(0,[11,12,20,21,22,23,24,25,26,27,28,29,30,31,32,33]),(2,[13,14,41,42,43,44,45,46,47,48,49,50,51,52,53])],[],[(0,[9,10,11,12,13,20,21,22,23,24,25,26,27,28,29,30,31,32,33,34,35,36,37,38,39,40,41,42,43,44,45,46,47,48,49,50,51,52,53,54,55,56,57,58,59,60,61,62,63,64,65,66,67,68,69,70,71,72,73,74,75,76,77,78,79,80,81,82,83,84,85,86,87,88,89,90]),(2,[33,34,35,36,37,38,39,40,41,42,43,44,45,46,47,48,49,50,51,52]),(4,[9,12,13,59,60,61,62,63,64,65,66,67,68,69,70,71,72,73,74,75,76,77,78,79,80,81,82,83,84,85,86,87,88,89,90])],[],[],[],[],[],[],[],[],[(0,[8,10,29,30,31,32,33,34,35,36,37,38,39,40,41,42,43,44,45,46,47,48]),(2,[8,10,53,54,55,56,57,58,59,60,61,62,63])],[(0,[10,11,12,13,14,15,16,17,18,19,20,21,22,23,24,25,26,27,28,29,30,31,32,33,34,35,36,37,38,39,40,41,42,43,44,45,46,47,48,49,50,51,52,53,54,55,56,57,58,59,60,61,62,63,64,65,66,67,68,69,70,71,72,73,74,75,76,77,78,79,80,81,82,83,84,85,86,87,88,89,90,91,92,93,94,95,96,97,98,99,100,101,102,103,104,105,106,107,108,109,110,111,112,113,114,115,116,117,118,119,120,121,122,123,124,125,126,127,128,129,130,131,132,133])],[],[],[],[],[],[],[],[],[],[],[(0,[5,6,11,12,13,14,15,16,17,18,19,20,21,22,23,24,25,26,27,28,29,30,31,32,33,34,35,36,37,38])],[],[],[],[],[],[],[(0,[5,9,10,11,12,13,14,15,16,17,18])],[],[],[],[],[(0,[6,7,8,12,13,14,15,16,17,18,19,20,21,22,23,24])],[],[(0,[6,7,8,12,13,14,15,16,17,18,19,20,21,22,23,24])],[],[],[(0,[6,7,8,12,13,14,15,16,17,18,19,20,21,22,23,24])],[],[],[],[(0,[6,7,8,12,13,14,15,16,17,18,19,20,21,22,23,24])],[(0,[9,26,27,28,29,30,31,32,33,34,35])],[],[],[],[(0,[22,23,24,25,26,27,28,29,30,31,32,33,34,35,36])],[(0,[6,7,8,12,13,14,15,16,17,18,19,20,21,22,23,24])],[],[(0,[3,4,5,9,10,11,12,13,14,15,16,17,18,19,20,21,22,23,24,25,26,27,28,29,30,31,32,33,34,35,36])],[],[],[],[],[],[],[],[],[],[],[],[],[(0,[7,10,11,12,13,14,15,16,17,18,19,20,21,22,23,24,25,26,27,28,29,30,31,32,33,34,35,36,37,38,39,40,41,42,43,44,45,46,47,48]),(2,[16,17,18,19,20,21,22,23,24,25,26,27,28,29,30,31,32,33,34,35,36,37,38,39,40,41,42,43,44,45,46,47,48])],[(0,[18,19,20,21,22,23,24,25,26]),(2,[29,30,31,32,33,34,35,36,37,38,39,40,41,42,43,44,45,46,47,48,49,50,51,52,53,54,55])],[(0,[10,26,27,28,29,30,31,32,33,34,35,36,37,38,39,40,41,42,43,44,45,46,47,48,49,50,51,52,53,54,55,56,57,58,59,60,61,62,63,64])],[],[(0,[11,12,13,14,15,16,17,18,19,20,21,22,23,24,25,26,27,28,29,30,31])],[(0,[9,10,13,14,15,16,17,18,19,20,21,22,23,24,25,26,27,28,29,30,31,32,33,34,35,36,37,38,39,40,41,42,43,44,45,46,47,48,49,50,51,52,53,54,55,56,57,58,59,60,61,62,63,64,65,66,67,68,69,70,71,72,73,74,75,76,77,78,79,80,81,82,83,84,85,86,87,88,89,90,91,92,93,94,95,96,97,98,99,100,101,102,103,104,105,106,107,108,109,110,111,112,113,114,115,116,117,118,119,120,121,122,123,124,125,126,127,128,129,130,131,132]),(2,[17,18,19,20,21,22,23,24,25,26,27,28,29,30,31,32,33,34]),(4,[64,65,66,67,68,69,70,71,72,73,74,75,76,77,78,79,80,81,82,83,84,85,86,87,88,89,90,91,92,93,94]),(6,[101,102,103,104,105,106,107,108,109,110,111,112,113,114,115,116,117,118,119,120,121,122,123,124,125,126,127,128,129,130,131,132])],[(0,[29,30,31,32,33,34,35,36,37,38,39,40,41,42,43,44,45,46,47,48,49,50,51,52,53,54,55,56,57,58,59,60,61,62,63,64,65,66,67,68,69,70,71,72,73,74,75,76,77,78,79,80,81,82]),(2,[29,30,31,32,33,34,35,36,37,38,39,40,41,42,43,44,45]),(4,[46,47,48,49,50,51,52,53,54,55,56,57,58,59,60,61])],[(0,[30,31,32,33,34,35,36,37,38,39,40,41,42,43,44,45]),(2,[46,47,48,49,50,51,52,53,54,55,56,57,58,59,60,61,62]),(4,[99,100,101,102,103,104,105,106,107,108,109,110,111,112,113,114,115,116,117,118,119,120,121,122,123,124,125,126,127,128,129,130,131,132,133,134,135,136,137,138,139,140,141,142,143,144,145,146,147,148,149,150,151,152]),(6,[99,100,101,102,103,104,105,106,107,108,109,110,111,112,113,114]),(8,[115,116,117,118,119,120,121,122,123,124,125,126,127,128,129,130,131])],[],[],[(0,[5,9,10,11,12,13,14,15,16,17,18])],[],[],[],[],[],[],[],[],[],[],[],[],[],[],[],[(0,[5,6,12,13,14,15,16,17,18,19,20,21,22,23,24,25,26,27,28]),(2,[7,8,29,30,31,32,33,34,35,36,37,38,39,40,41,42,43,44,45,46,47,48])],[],[],[],[(0,[6,7,8,9,10,11,12,13,14,15,16,17,18,19,20,21,22,23,24,25,26,27,28,29,30,31,32,33])],[(0,[5,9,10,11,12,13,14,15,16,17,18])],[(0,[5,9,10,11,12,13,14,15,16,17,18])],[(0,[5,9,10,11,12,13,14,15,16])],[(0,[9,11,12,13,14,15,16,17,18,19,20,21,22,23,24,25,26,27,28,29,30,31,32,33,34,35,36,37,38,39,40,41,42,43,44,45,46,47,48,49,50,51,52,53,54,55,56,57,58,59,60,61,62,63,64,65,66,67,68,69,70,71,72,73,74,75])],[],[],[],[],[],[],[],[],[],[],[],[],[],[],[],[],[],[(0,[5,9,10,11,12,13,14,15,16,17,18])]]
def qFE:List (List Nat):=[[],[],[],[],[],[],[],[],[],[],[],[],[],[],[],[],[],[],[],[],[],[],[],[],[],[],[],[],[],[],[],[],[],[],[],[],[],[],[],[],[],[],[],[],[],[],[],[],[],[],[],[],[],[],[],[],[],[],[],[14,16,26,27],[],[],[],[],[],[],[],[],[],[],[],[],[],[],[],[],[],[],[],[],[],[],[],[],[],[],[],[],[],[],[],[],[],[],[],[],[],[],[],[],[],[],[],[],[],[],[],[],[],[],[],[],[],[],[],[],[],[],[],[],[],[],[],[],[],[],[],[],[],[],[],[],[],[],[],[],[],[],[],[],[],[],[],[],[],[],[],[],[],[],[],[],[],[],[],[],[],[],[],[],[],[],[],[],[],[],[],[],[],[33,35,47,48],[33,35,49,50],[47,49,63,64],[],[14,16,26,27],[42,44,56,57,79,81,93,94,117,119,131,132],[11,13,23,24,65,67,77,78],[12,14,24,25,66,68,78,79,81,83,93,94,135,137,147,148,153,155,165,166],[],[],[],[],[],[],[],[],[],[],[],[],[],[],[],[],[],[],[],[],[],[],[],[],[],[],[53,57,73,74]]
def qCr:List Nat:=[]
def qFM:List Nat:=[109]
def qFJ:List Nat:=[172,219,224]
def qy0:List Nat:=[138]
def qEC:List (Nat×List (Nat×List Nat)):=[(12,[(14,[12,35,36,37,38,39,40,41,42,43,44,45,46,47])]),(52,[(14,[9,10,11,18,19,20,21,22,23,24,25,26,27,28,29,30,31,32,33,34,35,36,37,38,41,42,43,44,45,46,47,48,49,50,51,52,53])])]
def qEP:List Nat:=[]
def qFp(f:Nat):Option (List Int->Option (List Int)):=if f=53 then some Ab.qAR else if f=59 then some Ab.qD9 else none
def qF1(f:Nat):Option Nat:=if f=89 then some 195 else none
def qFb:List (List (Nat×List (Nat×Nat))):=[[],[],[],[],[],[],[],[],[],[],[],[(5,[(1,3),(1,7),(1,9),(3,9),(7,9),(1,13),(3,13),(7,13),(1,14),(3,14),(7,14),(1,16),(3,16),(7,16),(9,16),(13,16),(14,16),(1,20),(3,20),(7,20),(9,20),(13,20),(14,20),(1,21),(3,21),(7,21)]),(9,[(1,3),(1,6),(1,7)])],[],[],[],[(6,[(3,7)])],[],[],[],[],[],[],[],[],[],[],[(5,[(1,3),(1,4),(1,7),(3,7),(4,7)])],[(5,[(5,10),(5,15),(10,15),(5,16),(10,16)])],[],[(12,[(0,3)])],[],[],[],[],[],[(6,[(4,9),(16,21),(29,34)])],[],[],[],[],[],[(13,[(3,7)])],[],[],[],[],[],[],[],[],[],[(2,[(0,5),(0,7),(0,8),(0,10)])],[(6,[(0,1),(0,2),(1,2),(0,5)]),(7,[(0,1),(0,2),(1,2),(0,5)])],[],[],[(1,[(1,4),(2,4)])],[],[],[],[(3,[(7,11)])],[],[],[],[],[],[],[],[],[],[],[],[],[],[],[],[],[],[],[],[],[],[],[],[],[],[],[],[],[],[],[],[],[],[],[],[],[],[],[(6,[(3,7)])],[],[(10,[(1,5),(1,8)]),(21,[(1,7),(5,7)]),(32,[(1,6),(4,6)])],[(13,[(4,9)]),(22,[(4,11),(4,14)])],[],[],[(6,[(2,5),(5,6)])],[],[(17,[(0,5),(0,11),(5,11),(7,11)])],[],[],[],[],[],[],[],[],[(8,[(1,3),(1,4),(1,8),(3,8),(4,8),(1,10),(3,10),(4,10),(8,10),(8,11)]),(13,[(1,2),(1,3)])],[(17,[(7,11)])],[],[],[],[],[],[],[],[],[],[],[(3,[(6,7),(14,18),(17,18)])],[],[],[],[],[],[],[],[],[],[],[],[],[],[],[(1,[(0,2),(0,5),(2,5),(3,5),(0,6),(2,6),(3,6),(5,6),(0,9),(2,9),(3,9),(5,9),(6,9),(7,9),(0,10),(2,10),(3,10),(5,10),(6,10),(7,10),(9,10)])],[(2,[(1,5),(3,5)])],[],[],[],[],[],[(2,[(0,2),(0,5),(2,5),(3,5)])],[],[],[],[(10,[(1,3),(1,6)])],[],[(1,[(1,2),(1,7),(2,7),(4,7),(5,7),(1,15),(2,15),(4,15),(5,15),(7,15),(8,15),(11,15),(12,15),(14,15),(1,18),(2,18),(4,18),(5,18),(7,18),(8,18),(11,18),(12,18),(14,18),(15,18)])],[],[],[],[(2,[(1,4),(1,7),(4,7)])],[],[(5,[(0,2),(0,4),(2,4),(0,5),(0,8),(0,11),(8,11),(0,14),(8,14),(11,14),(0,15)])],[],[],[],[],[],[],[(1,[(1,4),(2,4)])],[(4,[(7,12)]),(6,[(9,13)])],[(10,[(11,15)])],[(10,[(11,15)])],[],[(3,[(7,11)])],[(5,[(7,12)]),(11,[(9,13)]),(16,[(3,8)]),(17,[(9,13)]),(22,[(3,8)]),(23,[(9,13)])],[(1,[(7,11)]),(3,[(7,11)]),(5,[(7,11)]),(8,[(7,11)])],[(1,[(7,11)]),(3,[(7,11)]),(5,[(7,11)]),(8,[(7,11)]),(10,[(7,11)]),(13,[(7,11)]),(15,[(7,11)]),(18,[(7,11)]),(21,[(7,11)])],[],[],[],[],[],[],[],[],[],[],[],[],[],[],[(1,[(1,3),(2,3),(1,5),(2,5),(1,7),(2,7),(3,7),(5,7)])],[],[],[],[],[],[],[],[(6,[(6,11)])],[(4,[(0,4)])],[],[],[(3,[(10,17)]),(5,[(5,11)]),(6,[(13,19)])],[],[(1,[(2,5)]),(2,[(2,5)]),(3,[(2,5)])],[],[],[],[],[],[],[],[],[],[],[],[],[],[],[],[],[(1,[(1,6),(3,6),(4,6)])],[],[],[],[],[],[],[(1,[(3,7)])]]
def qE1:List (Nat×List (Nat×Nat))->Nat->List (Nat×Nat)
 |[],_=>[]
 |(k,c)::l,b=>if k=b then c else qE1 l b
def look:List (Nat×List Nat)->Nat->List Nat
 |[],_=>[]
 |(k,c)::l,b=>if k=b then c else look l b
def qEZ:List (Nat×List (Nat×List Nat))->Nat->List (Nat×List Nat)
 |[],_=>[]
 |(k,c)::l,b=>if k=b then c else qEZ l b
def hints:Ab.Hints:={
 take:=λf t=>(qFT.getD f []).contains t
 clear:=λf b=>look (qEO.getD f []) b
 precise:=λf=>qCr.contains f
 pairs:=λf b=>qE1 (qFb.getD f []) b
 link:=λf t=>(qFE.getD f []).contains t
 qi6:=λf=>qFM.contains f
 mapT:=λt=>qFJ.contains t
 born:=λf=>qy0.contains f
 turn:=qFp
 seq:=qF1
 qdC:=λf=>qEP.contains f
 pre:=λf b=>look (qEZ qEC f) b}
end Go.Proofs.YtkcaaaiihhhnmaaGreatDoor.Hn
end
section
namespace Go.Ab
open Go
section
variable {P:Program}
def qvv:Value->Value->Bool
 |.int k n,.int k' n'=>decide (k=k')&&decide (n=n')
 |.bool b,.bool b'=>b==b'
 |.slice none 0 0,.slice none 0 0=>true
 |.string s,.string s'=>decide (s.data.toList=s'.data.toList)
 |_,_=>false
mutual
def V.same:V->V->Bool
 |.val a,.val b=>qvv a b
 |.sl f c l,.sl f' c' l'=>decide (f=f')&&c==c'&&sameL l l'
 |.agg l,.agg l'=>sameL l l'
 |.tuple l,.tuple l'=>sameL l l'
 |_,_=>false
def sameL:List V->List V->Bool
 |[],[]=>true
 |x::l,y::l'=>x.same y&&sameL l l'
 |_,_=>false
end
theorem qyf{a b:Value}(h:qvv a b=true):a=b:=by
 unfold qvv at h;split at h
 ·simp_all
 ·simp_all
 ·rfl
 ·rename_i s s';have h1:=of_decide_eq_true h;obtain ⟨⟨l⟩⟩:=s;obtain ⟨⟨l'⟩⟩:=s';simp only at h1;rw [h1]
 ·cases h
mutual
theorem same_eq:∀(x y:V),x.same y=true->x=y
 |.val a,y,h=>by cases y<;>simp only [V.same]at h<;>first|(rw [qyf h])|cases h
 |.sl f c l,y,h=>by
  cases y<;>simp only [V.same]at h<;>try (cases h;done)
  simp only [qe,decide_eq_true_eq,beq_iff_eq]at h;rw [h.1.1,h.1.2,sameL_eq _ _ h.2]
 |.agg l,y,h=>by
  cases y<;>simp only [V.same]at h<;>try (cases h;done)
  rw [sameL_eq _ _ h]
 |.tuple l,y,h=>by
  cases y<;>simp only [V.same]at h<;>try (cases h;done)
  rw [sameL_eq _ _ h]
 |.undef,y,h|.ptr ..,y,h|.cptr ..,y,h|.fn ..,y,h|.yld _,y,h|.mref _,y,h|.bsl ..,y,h|.mp _,y,h|.iface ..,y,h|.lp ..,y,h|.room ..,y,h=>by cases y<;>simp [V.same]at h
theorem sameL_eq:∀(l m:List V),sameL l m=true->l=m
 |[],[],_=>rfl
 |[],y::m,h=>by simp [sameL]at h
 |x::l,[],h=>by simp [sameL]at h
 |x::l,y::m,h=>by
  simp only [sameL,qe]at h;rw [same_eq x y h.1,sameL_eq l m h.2]
end
structure Ran where
 g:FuncId
 args:List V
 r:V
def qD0(t:List Ran)(g:FuncId):Option (List V->Option V) :=
 if t.any (λe=>decide (e.g=g))then some (λargs=>(t.find? λe=>decide (e.g=g)&&sameL e.args args).map (·.r))else none
theorem qB1{t:List Ran}(h:∀e∈t,qaB P e.g e.args [] e.r []):∀g f args r,qD0 t g=some f->f args=some r->qaB P g args [] r []:=by
 intro g f args r hf hr;unfold qD0 at hf;split at hf
 ·cases hf;obtain ⟨e,he,rfl⟩:=qc.1 hr;have h1:=List.find?_some he;simp only [qe,decide_eq_true_eq]at h1;rw [<- h1.1,<- sameL_eq _ _ h1.2];exact h e (List.mem_of_find?_eq_some he)
 ·cases hf
theorem qAp{H:Hints}(hm:P.follows .mixedOrders=true)(qcT:qjY P H){t:List Ran}(ht:∀e∈t,qaB P e.g e.args [] e.r [])(n:Nat)(e:Ran)
  (h:(match (qsh P H (qD0 t) n).call e.g e.args []with|some (r,[])=>r.same e.r|_=>false)=true):qaB P e.g e.args [] e.r []:=by
 split at h
 ·rename_i r hr;rw [<- same_eq _ _ h];exact (qvg hm qcT (qB1 ht) n).call _ _ _ _ _ hr
 ·cases h
end
end Go.Ab
end
section
namespace Go.Proofs.YtkcaaaiihhhnmaaGreatDoor.Tn
open Go Go.Ab Go.Sort
def qBW:Go.Shelf.Ren:=⟨λ| 112=>59|n=>n,λ| 28=>30|3=>3|4=>4|0=>0|n=>n,λn=>n⟩
theorem qFY:Lays.n112 Tryz.prog qBW where
 mixed:=by kernel_rfl
 f112:=Tryz.func59.trans (congrArg some (by kernel_rfl))
 t0:=Tryz.underlying0
 a0:=Tryz.isAgg0
 z0:=Tryz.sizeOf0
 v0:=Tryz.zeroValue0
 t3:=Tryz.underlying3
 a3:=Tryz.isAgg3
 z3:=Tryz.sizeOf3
 v3:=Tryz.zeroValue3
 t4:=Tryz.underlying4
 a4:=Tryz.isAgg4
 z4:=Tryz.sizeOf4
 v4:=Tryz.zeroValue4
 t28:=Tryz.underlying30
 a28:=Tryz.isAgg30
 z28:=Tryz.sizeOf30
 v28:=Tryz.zeroValue30
def qBX:Go.Shelf.Ren:=⟨λ| 189=>53|125=>117|257=>116|128=>177|129=>178|294=>169|295=>170|296=>171|297=>172|298=>173|299=>174|216=>125|300=>175|301=>176|328=>203|329=>204|330=>205|331=>206|332=>207|215=>182|343=>229|n=>n,λ| 28=>30|3=>3|46=>175|0=>0|51=>244|53=>246|4=>4|183=>238|182=>237|131=>44|5=>5|9=>9|218=>261|222=>265|228=>284|229=>153|n=>n,λn=>n⟩
theorem qFZ:Lays.n189 Tryz.prog qBX where
 mixed:=by kernel_rfl
 f125:=Tryz.func117.trans (congrArg some (by kernel_rfl))
 f128:=Tryz.func177.trans (congrArg some (by kernel_rfl))
 f129:=Tryz.func178.trans (congrArg some (by kernel_rfl))
 f189:=Tryz.func53.trans (congrArg some (by kernel_rfl))
 f215:=Tryz.func182.trans (congrArg some (by kernel_rfl))
 f216:=Tryz.func125.trans (congrArg some (by kernel_rfl))
 f257:=Tryz.func116.trans (congrArg some (by kernel_rfl))
 f294:=Tryz.func169.trans (congrArg some (by kernel_rfl))
 f295:=Tryz.func170.trans (congrArg some (by kernel_rfl))
 f296:=Tryz.func171.trans (congrArg some (by kernel_rfl))
 f297:=Tryz.func172.trans (congrArg some (by kernel_rfl))
 f298:=Tryz.func173.trans (congrArg some (by kernel_rfl))
 f299:=Tryz.func174.trans (congrArg some (by kernel_rfl))
 f300:=Tryz.func175.trans (congrArg some (by kernel_rfl))
 f301:=Tryz.func176.trans (congrArg some (by kernel_rfl))
 f328:=Tryz.func203.trans (congrArg some (by kernel_rfl))
 f329:=Tryz.func204.trans (congrArg some (by kernel_rfl))
 f330:=Tryz.func205.trans (congrArg some (by kernel_rfl))
 f331:=Tryz.func206.trans (congrArg some (by kernel_rfl))
 f332:=Tryz.func207.trans (congrArg some (by kernel_rfl))
 f343:=Tryz.func229.trans (congrArg some (by kernel_rfl))
 t0:=Tryz.underlying0
 a0:=Tryz.isAgg0
 z0:=Tryz.sizeOf0
 v0:=Tryz.zeroValue0
 t3:=Tryz.underlying3
 a3:=Tryz.isAgg3
 z3:=Tryz.sizeOf3
 v3:=Tryz.zeroValue3
 t4:=Tryz.underlying4
 a4:=Tryz.isAgg4
 z4:=Tryz.sizeOf4
 v4:=Tryz.zeroValue4
 t5:=Tryz.underlying5
 a5:=Tryz.isAgg5
 z5:=Tryz.sizeOf5
 v5:=Tryz.zeroValue5
 t9:=Tryz.underlying9
 a9:=Tryz.isAgg9
 z9:=Tryz.sizeOf9
 v9:=Tryz.zeroValue9
 t28:=Tryz.underlying30
 a28:=Tryz.isAgg30
 z28:=Tryz.sizeOf30
 v28:=Tryz.zeroValue30
 t46:=Tryz.underlying175
 a46:=Tryz.isAgg175
 z46:=Tryz.sizeOf175
 v46:=Tryz.zeroValue175
 t51:=Tryz.underlying244
 a51:=Tryz.isAgg244
 z51:=Tryz.sizeOf244
 v51:=Tryz.zeroValue244
 t53:=Tryz.underlying246
 a53:=Tryz.isAgg246
 z53:=Tryz.sizeOf246
 v53:=Tryz.zeroValue246
 t131:=Tryz.underlying44
 a131:=Tryz.isAgg44
 z131:=Tryz.sizeOf44
 v131:=Tryz.zeroValue44
 t182:=Tryz.underlying237
 a182:=Tryz.isAgg237
 z182:=Tryz.sizeOf237
 v182:=Tryz.zeroValue237
 t183:=Tryz.underlying238
 a183:=Tryz.isAgg238
 z183:=Tryz.sizeOf238
 v183:=Tryz.zeroValue238
 t218:=Tryz.underlying261
 a218:=Tryz.isAgg261
 z218:=Tryz.sizeOf261
 v218:=Tryz.zeroValue261
 t222:=Tryz.underlying265
 a222:=Tryz.isAgg265
 z222:=Tryz.sizeOf265
 v222:=Tryz.zeroValue265
 t228:=Tryz.underlying284
 a228:=Tryz.isAgg284
 z228:=Tryz.sizeOf284
 v228:=Tryz.zeroValue284
 t229:=Tryz.underlying153
 a229:=Tryz.isAgg153
 z229:=Tryz.sizeOf153
 v229:=Tryz.zeroValue153
theorem enters {g : FuncId} {fn : Func} (hfn : Tryz.prog.funcs[g]? = some fn) (hb : fn.body.isSome = true) (hn : (fn.name == "runtime.NumGoroutine") = false) (args : Array Value) (w : World) : (callFunc g args).run Tryz.prog w = .ok (.enter g args) w := by
 have hbs:fn.body.isNone=false:=by cases h:fn.body<;>simp_all
 simp only [callFunc,Sem.run_bind,run_program,Result.andThen_ok,hfn,hn,hbs,qf,if_false,Sem.run_pure]
theorem holds_of{w:World}{b off:Nat}{arr:Array Value}{ty:TypeId}{zs:List Int}(hw:w.heap[b]?=some (.cells arr ty (0,0)))(hs:Seg w b off (zs.map (Value.int .i64))):Holds (Value.int .i64) w b off zs.toArray:=by
 intro j hj;have hj':j<zs.length:=by simpa using hj
 refine ⟨?_,?_⟩
 ·have:=hs j (.int .i64 zs[j]) (by simp [hj']);rw [this];simp [getElem!_pos,hj']
 ·simp [World.frozen?,hw]
theorem qkF{w:World}{b off n:Nat}{arr:Array Value}{ty:TypeId}{zs:List Int}(os:Array Obj)(hw:w.heap[b]?=some (.cells arr ty (0,0)))(hle:off+zs.length<=arr.size) :
  qDb w b off (zs.map (Value.int .i64)) (grow (putRow (Value.int .i64) (Sort.ahead w n) b off zs.toArray) os):=by
 refine ⟨putRow (Value.int .i64) w b off zs.toArray,n,os,rfl,by simp [putRow,mapBlock],λk hk=>?_,λarr' ty' hw'=>?_,rfl,rfl,rfl⟩
 ·simp only [putRow,mapBlock,Array.getElem?_modify];rw [if_neg (Ne.symm hk)]
 ·rw [hw]at hw';cases hw';simp only [putRow,mapBlock,Array.getElem?_modify,if_true,hw,qi,onCells];congr 2
  apply Array.ext_getElem?;intro i;have e1:(Ab.rowAt arr off (zs.map (Value.int .i64)))[i]?=(Ab.rowAt arr off (zs.map (Value.int .i64))).toList[i]?:=by simp
  rw [e1];unfold Ab.rowAt;rw [qiB (by simpa using hle)];unfold putCells;simp only [Array.getElem?_mapIdx,List.length_map,List.size_toArray];by_cases hi:off<=i/\i<off+zs.length
  ·rw [if_pos hi];have hlt:i<arr.size:=by omega
   have h2:i-off<zs.length:=by omega
   rw [Array.getElem?_eq_getElem hlt];simp only [qi,hi,and_self,if_true,List.getElem?_map,List.getElem?_eq_getElem h2];simp [getElem!_pos,h2]
  ·rw [if_neg hi];cases h3:arr[i]? with
   |none =>
    have:arr.toList[i]?=none:=by simpa using h3
    rw [this];rfl
   |some x =>
    have:arr.toList[i]?=some x:=by simpa using h3
    rw [this];simp [hi]
theorem qFe:qvW Tryz.prog 59 qD9:=by
 intro zs zs' hz;unfold qD9 at hz;split at hz
 ·rename_i hle;simp only [qb]at hz;subst hz;refine ⟨by simp,λhne w b off cap arr ty hw hfit hs hcap=>?_,λh0 w a cap=>?_⟩
  ·refine .inl ⟨enters Tryz.func59 (by kernel_rfl) (by kernel_rfl) _ _,?_⟩;refine (Any.slices_Reverse_int qFY b off cap zs w (holds_of hw hs) (by omega)).mono ?_;rintro e w' ⟨rfl,n,rfl⟩;have h:=qkF (n:=n) #[] hw (zs:=zs.reverse) (by simpa using hfit);exact ⟨_,rfl,by simpa using h⟩
  ·refine .inl ⟨enters Tryz.func59 (by kernel_rfl) (by kernel_rfl) _ _,?_⟩;refine (Any.slices_Reverse_int_empty qFY a cap w).mono ?_;rintro e w' ⟨rfl,rfl⟩;exact ⟨_,rfl,0,#[],by simp⟩
 ·cases hz
theorem qn5(x:Int):∀l:List Int,(quT x l).Perm (x::l)
 |[]=>.refl _
 |y::l=>by
  unfold quT;split
  ·exact .refl _
  ·exact ((qn5 x l).cons y).trans (.swap x y l)
theorem qlq:∀l:List Int,(qf8 l).Perm l
 |[]=>.refl _
 |x::l=>(qn5 x _).trans ((qlq l).cons x)
theorem qn6(x:Int):∀l:List Int,l.Pairwise (·<=·)->(quT x l).Pairwise (·<=·)
 |[],_=>by simp [quT]
 |y::l,h=>by
  unfold quT;rw [List.pairwise_cons]at h;split
  ·rename_i hxy;refine List.pairwise_cons.2 ⟨λz hz=>?_,List.pairwise_cons.2 h⟩;rcases qk.1 hz with rfl|hz
   ·exact hxy
   ·exact Int.le_trans hxy (h.1 z hz)
  ·rename_i hxy;refine List.pairwise_cons.2 ⟨λz hz=>?_,qn6 x l h.2⟩;rcases qk.1 ((qn5 x l).mem_iff.1 hz)with rfl|hz
   ·omega
   ·exact h.1 z hz
theorem qmr:∀l:List Int,(qf8 l).Pairwise (·<=·)
 |[]=>.nil
 |x::l=>qn6 x _ (qmr l)
theorem qpg:∀{l m:List Int},l.Pairwise (·<=·)->m.Pairwise (·<=·)->l.Perm m->l=m
 |[],m,_,_,h=>(List.nil_perm.1 h).symm
 |x::l,[],_,_,h=>absurd (List.perm_nil.1 h) (by simp)
 |x::l,y::m,hl,hm,h=>by
  rw [List.pairwise_cons]at hl hm;have h1:x<=y:=by
   rcases qk.1 (h.mem_iff.2 (List.mem_cons_self:y∈y::m))with e|e
   ·omega
   ·exact hl.1 y e
  have h2:y<=x:=by
   rcases qk.1 (h.mem_iff.1 (List.mem_cons_self:x∈x::l))with e|e
   ·omega
   ·exact hm.1 x e
  have e:x=y:=by omega
  subst e;rw [qpg hl.2 hm.2 (List.Perm.cons_inv h)]
theorem qBT(zs:List Int):zs.mergeSort (λx y=>decide (x<=y))=qf8 zs:=by
 refine qpg ?_ (qmr zs) ((List.mergeSort_perm zs _).trans (qlq zs).symm);have:=List.pairwise_mergeSort (le:=λx y:Int=>decide (x<=y)) (λa b c h1 h2=>by simp only [decide_eq_true_eq]at *;omega) (λa b=>by simp only [Bool.or_eq_true,decide_eq_true_eq];omega) zs;exact this.imp λh=>by simpa using h
theorem qEi:qvW Tryz.prog 53 qAR:=by
 intro zs zs' hz;unfold qAR at hz;split at hz
 ·rename_i hle;simp only [qb]at hz;subst hz;have hlen:(qf8 zs).length=zs.length:=(qlq zs).length_eq;refine ⟨hlen,λhne w b off cap arr ty hw hfit hs hcap=>?_,λh0 w a cap=>?_⟩
  ·refine .inl ⟨enters Tryz.func53 (by kernel_rfl) (by kernel_rfl) _ _,?_⟩;refine (Any.slices_Sort_int qFZ b off cap zs w (holds_of hw hs) (Array.getElem?_eq_some_iff.1 hw).1 (by omega)).mono ?_;rintro e w' ⟨rfl,n,os,rfl⟩;rw [qBT];exact ⟨_,rfl,qkF os hw (by rw [hlen];exact hfit)⟩
  ·refine .inl ⟨enters Tryz.func53 (by kernel_rfl) (by kernel_rfl) _ _,?_⟩;refine (Any.slices_Sort_int_none qFZ a cap w).mono ?_;rintro e w' ⟨rfl,rfl⟩;exact ⟨_,rfl,0,#[],by simp⟩
 ·cases hz
end Go.Proofs.YtkcaaaiihhhnmaaGreatDoor.Tn
namespace Go.Proofs.YtkcaaaiihhhnmaaGreatDoor
open Go Go.Ab
theorem turns:qq0 Tryz.prog Hn.hints:=by
 intro g F h;simp only [Hn.hints,Hn.qFp]at h;split at h
 ·rename_i e;subst e;cases h;exact Tn.qEi
 split at h
 ·rename_i e;subst e;cases h;exact Tn.qFe
 cases h
end Go.Proofs.YtkcaaaiihhhnmaaGreatDoor
end
section
namespace Go.Ab
open Go Go.RowKit Go.Shelf Go.Proofs
section
variable {P:Program}
theorem qB5{w w':World}{X:Cx}{O:Root->List Nat}(h:LRel [] w X O)(hs:w.heap.size<=w'.heap.size):LRel [] w' X O :=
 {
  box:=λr c hc=>by simp [qa6]at hc,boxD:=h.boxD,inj:=λr r' b h1=>by simp [qa6]at h1,lin:=h.lin,dis:=h.dis,ptrB:=λr c hc=>by simp [qa6]at hc,up:=λr c hc=>by simp [qa6]at hc,
  dom:=λb e fz hω=>Nat.lt_of_lt_of_le (h.dom b e fz hω) hs}
theorem qf1{g:FuncId}{args:List V}{r:V}(hp:r.qt=[])(h:∀(w:World) (X:Cx) (vals:List Value),RepL w X args vals []->qgu w X->Dom w X ->
  (callFunc g vals.toArray).run P w=.ok (.enter g vals.toArray) w/\Calls P g vals.toArray w λe w'=>∃v,e=.returned v/\(∀X',Rep w' X' r v [])/\Below w.heap.size w w'):qaB P g args [] r []:=by
 intro w X vals O h1 h2 h3 _ _;obtain ⟨h4,h5⟩:=h w X vals h1 h2 h3.dom;refine .inl ⟨h4,h5.mono ?_⟩;rintro e w' ⟨v,rfl,hr,hb⟩;refine ⟨v,rfl,X,O,[],hr X,qB5 h3 hb.size,Lin.nil,λ_ _ hb=>absurd hb (by simp),λq hq=>absurd hq (by rw [hp];simp),rfl,λ_=>rfl,⟨hb.size,λb hb' _=>⟨hb.block b hb',rfl⟩,λb e fz hω=>⟨e,fz,hω,Nat.le_refl _,λh=>h,λi v _ hc=>?_⟩,λ_ _=>rfl,?_,hb.os,hb.output,hb.tape⟩⟩
 ·rw [cell_of_heap (hb.block b (h3.dom b e fz hω))];exact hc
 ·rintro b (hb|⟨q,hb⟩)
  ·exact absurd hb (by simp)
  ·exact .inr (.inr ⟨q,hb⟩)
theorem enters {g : FuncId} {fn : Func} (hfn : P.funcs[g]? = some fn) (hb : fn.body.isSome = true) (hn : (fn.name == "runtime.NumGoroutine") = false) (args : Array Value) (w : World) : (callFunc g args).run P w = .ok (.enter g args) w := by
 have hbs:fn.body.isNone=false:=by cases h:fn.body<;>simp_all
 simp only [callFunc,Sem.run_bind,run_program,Result.andThen_ok,hfn,hn,hbs,qf,if_false,Sem.run_pure]
def Enters(P:Program)(g:FuncId):Prop:=∀(args:Array Value) (w:World),(callFunc g args).run P w=.ok (.enter g args) w
theorem qxi(w:World)(k:Nat)(os:Array Obj):Below w.heap.size w (Sort.grow (w.drewN k) os):=by
 have hh:∀k (w:World),(w.drewN k).heap=w.heap/\(w.drewN k).os=w.os/\(w.drewN k).output=w.output/\(w.drewN k).tape=w.tape:=λk w=>⟨rfl,rfl,rfl,rfl⟩
 obtain ⟨h1,h2,h3,h4⟩:=hh k w;refine ⟨h2,h4,h3,?_,λi hi=>?_⟩
 ·show w.heap.size<=((w.drewN k).heap++os).size;rw [h1];simp
 ·show ((w.drewN k).heap++os)[i]?=_;rw [h1,Array.getElem?_append_left hi]
theorem qFm{w:World}{X:Cx}(h:qgu w X){b:Nat}{arr:Array Value}(hm:(b,λa=>a=arr)∈qxz){n:String}(hg:P.globalNamed n=some b):w.var? P n=some arr:=by
 obtain ⟨_,arr',t,fr,h2,h3⟩:=h _ hm;simp only at h2 h3;subst h3;simp only [World.var?,hg,qa,h2]
theorem quy{w:World}{X:Cx}(h:qgu w X){b:Nat}{p:Array Value->Prop}(hm:(b,p)∈qxz):∃arr t fr,w.heap[b]?=some (.cells arr t fr)/\p arr:=(h _ hm).2
theorem qD8{w:World}{X:Cx}{u:Value}{v:Value}{O:List Nat}(h:Rep w X (.val u) v O):v=u:=by simp only [Rep]at h;exact h.1
theorem qtT{w:World}{X:Cx}{u:Value}{vs:List Value}{O:List Nat}(h:RepL w X [.val u] vs O):vs=[u]:=by
 simp only [RepL,Rep]at h;obtain ⟨_,_,_,_,rfl,_,⟨rfl,_⟩,rfl,_⟩:=h;rfl
theorem qo4{w:World}{X:Cx}{u u2:Value}{vs:List Value}{O:List Nat}(h:RepL w X [.val u,.val u2] vs O):vs=[u,u2]:=by
 simp only [RepL,Rep]at h;obtain ⟨_,_,_,_,rfl,_,⟨rfl,_⟩,_,_,_,_,rfl,_,⟨rfl,_⟩,rfl,_⟩:=h;rfl
theorem qg7{w:World}{X:Cx}(u:Value):Rep w X (.val u) u []:=by simp [Rep]
theorem qrV{w:World}{X:Cx}{x y:V}{u v:Value}(h1:Rep w X x u [])(h2:Rep w X y v []):Rep w X (.tuple [x,y]) (.tuple #[u,v]) []:=by
 simp only [Rep,RepL];exact ⟨[u,v],rfl,u,[v],[],[],rfl,rfl,h1,v,[],[],[],rfl,rfl,h2,rfl,rfl⟩
theorem qCx{w:World}{X:Cx}{x y z:V}{u v q:Value}(h1:Rep w X x u [])(h2:Rep w X y v [])(h3:Rep w X z q []):Rep w X (.tuple [x,y,z]) (.tuple #[u,v,q]) []:=by
 simp only [Rep,RepL];exact ⟨[u,v,q],rfl,u,[v,q],[],[],rfl,rfl,h1,v,[q],[],[],rfl,rfl,h2,q,[],[],[],rfl,rfl,h3,rfl,rfl⟩
theorem qAA{w:World}{X:Cx}(t:TypeId)(u:Value):Rep w X (.iface t .undef) (.iface t u) []:=by
 simp only [Rep];exact ⟨u,rfl,trivial⟩
theorem qDX {ρ : Ren} (L : LaysM.n171 P ρ) (hen : Enters P (ρ.f 171)) (htab : ∀ (w : World) (X : Cx), qgu w X -> Lib.TabIs P w "internal/strconv.uint64pow10" .u64 Lib.pow10Tab) (n : Int) (h0 : -9223372036854775808 <= n) (h1 : n <= 9223372036854775807) :
  qaB P (ρ.f 171) [.val (.int .i64 n)] [] (.val (.string ⟨(Lib.itoa n).toArray⟩)) []:=by
 refine qf1 rfl λw X vals hr hg _=>?_;obtain rfl:=qtT hr;refine ⟨hen _ _,(Any.strconv_Itoa L n h0 h1 w (htab w X hg)).mono ?_⟩;rintro e w' ⟨rfl,k,os,rfl⟩;exact ⟨_,rfl,λX'=>by simp [Rep],qxi w k os⟩
def qyU(t:TypeId)(s:List UInt8):V:=match Lib.atoiAll s with
 |.ok v=>.tuple [.val (.int .i64 v),.val .nilIface]
 |.range=>.tuple [.val (.int .i64 (Lib.atoiSat s)),.iface t .undef]
 |_=>.tuple [.val (.int .i64 0),.iface t .undef]
theorem qDJ{ρ:Ren}(L:LaysC.n172 P ρ)(hen:Enters P (ρ.f 172))(h15:∀(w:World) (X:Cx),qgu w X->∃ev,w.cell? ⟨ρ.g 15,0,none⟩=some ev/\(ev=.nilIface\/∃te pe,ev=.iface te pe))
  (h16:∀(w:World) (X:Cx),qgu w X->∃ev,w.cell? ⟨ρ.g 16,0,none⟩=some ev/\(ev=.nilIface\/∃te pe,ev=.iface te pe)) (s:ByteArray) (hs:s.size<=281474976710656) :
  qaB P (ρ.f 172) [.val (.string s)] [] (qyU (ρ.t 168) s.data.toList) []:=by
 unfold qyU;refine qf1 (by split<;>simp [V.qt,ptrsL]) λw X vals hr hg _=>?_;obtain rfl:=qtT hr;refine ⟨hen _ _,?_⟩;cases hc:Lib.atoiAll s.data.toList with
 |ok v =>
  refine (Any.strconv_Atoi_ok L s (by omega) v hc w).mono ?_;rintro e w' ⟨rfl,hw⟩;refine ⟨_,rfl,λX'=>qrV (qg7 _) (qg7 _),?_⟩;rcases hw with rfl|⟨t,rfl⟩
  ·exact Below.refl _ _
  ·exact Lib.bytesWorld_below _ _ _
 |range =>
  obtain ⟨ev,h1,h2⟩:=h16 w X hg;refine (Any.strconv_Atoi_range L s hs hc ev w h1 h2).mono ?_;rintro e w' ⟨N,rfl,_,_,hb⟩;exact ⟨_,rfl,λX'=>qrV (qg7 _) (qAA _ _),hb⟩
 |_ =>
  obtain ⟨ev,h1,h2⟩:=h15 w X hg;refine (Any.strconv_Atoi_syntax L s hs hc ev w h1 h2).mono ?_;rintro e w' ⟨N,rfl,_,_,hb⟩;exact ⟨_,rfl,λX'=>qrV (qg7 _) (qAA _ _),hb⟩
theorem qBR{ρ:Ren}(L:Lays.n143 P ρ)(hen:Enters P (ρ.f 143))(hm:∀(w:World) (X:Cx),qgu w X->∃m,w.cell? ⟨ρ.g 1,0,none⟩=some (.int .i64 m))(s p:ByteArray)(hs:s.size<4294967281) :
  qaB P (ρ.f 143) [.val (.string s),.val (.string p)] [] (.val (.int .i64 (Lib.index s.data.toList p.data.toList))) []:=by
 refine qf1 rfl λw X vals hr hg _=>?_;obtain rfl:=qo4 hr;obtain ⟨m,hm⟩:=hm w X hg;refine ⟨hen _ _,(Any.strings_Index L s p m w hs hm).mono ?_⟩;rintro e w' ⟨rfl,rfl⟩;exact ⟨_,rfl,λX'=>by simp [Rep],Below.refl _ _⟩
theorem qwa{ρ:Ren}(L:Lays.n145 P ρ)(hen:Enters P (ρ.f 145))(hm:∀(w:World) (X:Cx),qgu w X->∃m,w.cell? ⟨ρ.g 1,0,none⟩=some (.int .i64 m))(s p:ByteArray)(hs:s.size<4294967281) :
  qaB P (ρ.f 145) [.val (.string s),.val (.string p)] [] (.tuple [.val (.string ⟨(Lib.cut s.data.toList p.data.toList).1.toArray⟩),.val (.string ⟨(Lib.cut s.data.toList p.data.toList).2.1.toArray⟩),.val (.bool (Lib.cut s.data.toList p.data.toList).2.2)]) []:=by
 refine qf1 (by simp [V.qt,ptrsL]) λw X vals hr hg _=>?_;obtain rfl:=qo4 hr;obtain ⟨m,hm⟩:=hm w X hg;refine ⟨hen _ _,(Any.strings_Cut L s p m w hs hm).mono ?_⟩;rintro e w' ⟨rfl,n,rfl⟩;exact ⟨_,rfl,λX'=>qCx (qg7 _) (qg7 _) (qg7 _),⟨rfl,rfl,rfl,Nat.le_refl _,λ_ _=>rfl⟩⟩
def qgr:List V->Option (List (List UInt8))
 |[]=>some []
 |.val (.string s)::l=>(qgr l).map (s.data.toList::·)
 |_=>none
theorem qqK{w:World}{X:Cx}:∀{l:List V} {s:Nat} {vals:List Value} {O:List Nat} {xs:List (List UInt8)},qgr l=some xs->RepE w X s l vals O->vals=xs.map λx=>.string ⟨x.toArray⟩
 |[],s,vals,O,xs,hb,hr=>by
  simp only [qgr,qb]at hb;simp only [RepE]at hr;subst hb;exact hr.1
 |x::l,s,vals,O,xs,hb,hr=>by
  unfold qgr at hb;split at hb
  ·rename_i h;cases h
  ·rename_i str l' h;cases h;obtain ⟨xs',hb',rfl⟩:=qc.1 hb;simp only [RepE,Rep]at hr;obtain ⟨u,vs,O1,O2,rfl,hs,rfl,⟨rfl,rfl⟩,hr⟩:=hr;rw [qqK hb' hr];simp [Value.cells]
  ·cases hb
theorem qwZ:∀{l:List V} {xs:List (List UInt8)},qgr l=some xs->l.length=xs.length
 |[],xs,hb=>by
  simp only [qgr,qb]at hb;subst hb;rfl
 |x::l,xs,hb=>by
  unfold qgr at hb;split at hb
  ·rename_i h;cases h
  ·rename_i str l' h;cases h;obtain ⟨xs',hb',rfl⟩:=qc.1 hb;simp [qwZ hb']
  ·cases hb
theorem qDY{ρ:Ren}(L:Lays.n156 P ρ)(E:Builder.Extra P ρ)(hen:Enters P (ρ.f 156))(fl:Fl)(c:Bool)(l:List V)(xs:List (List UInt8))(sep:ByteArray)(hl:qgr l=some xs)(hN:xs.length<=140737488355328)
  (hlen:(Lib.join xs sep.data.toList).length<=140737488355328):qaB P (ρ.f 156) [.sl fl c l,.val (.string sep)] [] (.val (.string ⟨(Lib.join xs sep.data.toList).toArray⟩)) []:=by
 refine qf1 rfl λw X vals hr hg hd=>?_;simp only [RepL]at hr;obtain ⟨u,_,O1,_,rfl,_,h1,u2,_,_,_,rfl,_,h2,rfl,_⟩:=hr;obtain rfl:=qD8 h2;refine ⟨hen _ _,?_⟩;simp only [Rep]at h1;rcases h1.2 with ⟨rfl,_,hv⟩|⟨b,off,cap,s,vs,O',rfl,hcap,_,hvl,hs0,hall,hseg,hfl,hE,_⟩
 ·simp only [qgr,qb]at hl;subst hl;rcases hv with rfl|⟨_,a,rfl⟩
  ·refine (Any.strings_Join_none L E none 0 sep w).mono ?_;rintro e w' ⟨rfl,rfl⟩;exact ⟨_,rfl,λX'=>by rw [Lib.join_nil];exact qg7 _,Below.refl _ _⟩
  ·refine (Any.strings_Join_none L E (some a) 0 sep w).mono ?_;rintro e w' ⟨rfl,rfl⟩;exact ⟨_,rfl,λX'=>by rw [Lib.join_nil];exact qg7 _,Below.refl _ _⟩
 ·have hlen2:=qwZ hl;have hvs:=qqK hl hE;have hb:b<w.heap.size:=by
   obtain ⟨e,fz,hω,_⟩:=hfl;exact hd b e fz hω
  have hj:=Any.strings_Join L E b off cap (xs.map λx=>⟨x.toArray⟩) sep w (λj x hx=>by
    rw [List.getElem?_map]at hx;obtain ⟨y,hy,rfl⟩:=qc.1 hx;exact hseg j _ (by rw [hvs,List.getElem?_map,hy];rfl)) hb (by simpa using hN) (by rw [List.length_map,<- hlen2];exact hcap) (by simpa [List.map_map,Function.comp_def]using hlen)
  rw [List.length_map,<- hlen2]at hj;refine hj.mono ?_;rintro e w' ⟨rfl,hb⟩;exact ⟨_,rfl,λX'=>by simp [Rep,List.map_map,Function.comp_def],hb⟩
end
end Go.Ab
end
section
namespace Go.Proofs.YtkcaaaiihhhnmaaGreatDoor
open Go Go.Ab Go.RowKit
theorem qr5(s sep:ByteArray)(w:World):Calls Tryz.prog 146 #[.string s,.string sep,.int .i64 0] w λe w' =>
  e=.returned (.func (.func 195) #[] #[.pointer (some ⟨w.heap.size+1,0,none⟩),.pointer (some ⟨w.heap.size,0,none⟩),.pointer (some ⟨w.heap.size+2,0,none⟩)])/\∃t t2 t3,w'=((w.alloc (.cells #[.string s] t)).alloc (.cells #[.string sep] t2)).alloc (.cells #[.int .i64 0] t3):=by
 go_enter Tryz.func146,Tryz.ntmps146
 go_wp2
 go_ret
 exact ⟨by simp,_,_,_,rfl⟩
theorem qqZ(s sep:ByteArray)(w:World):Calls Tryz.prog 89 #[.string s,.string sep] w λe w' =>
  e=.returned (.func (.func 195) #[] #[.pointer (some ⟨w.heap.size+1,0,none⟩),.pointer (some ⟨w.heap.size,0,none⟩),.pointer (some ⟨w.heap.size+2,0,none⟩)])/\∃t t2 t3,w'=((w.alloc (.cells #[.string s] t)).alloc (.cells #[.string sep] t2)).alloc (.cells #[.int .i64 0] t3):=by
 go_enter Tryz.func89,Tryz.ntmps89
 go_wp2_with fail
 refine (qr5 s sep w).mono λe w1 ⟨he,hw⟩=>?_;subst he
 go_wp2
 go_ret
 exact ⟨rfl,hw⟩
theorem qF4:qDa Tryz.prog Hn.hints:=λg c h=>by
 simp only [Hn.hints,Hn.qF1]at h;split at h
 ·rename_i e;subst e;cases h;intro s sep w;exact .inl ⟨enters Tryz.func89 (by kernel_rfl) (by kernel_rfl) _ _,(qqZ s sep w).mono λe w' ⟨h1,h2⟩=>⟨_,h1,rfl,h2⟩⟩
 ·cases h
end Go.Proofs.YtkcaaaiihhhnmaaGreatDoor
end
section
namespace Go.Proofs.YtkcaaaiihhhnmaaGreatDoor.St0
open Go Go.Ab Go.Tx
section
set_option maxRecDepth 100000
noncomputable section
@[reducible] def I:Ty:=.int .i64
abbrev yt1 : Ty := .pair I (.pair I (.pair I .unit))
abbrev yy2 : Type := Int×Int×Int×Unit
abbrev yy3 : Type := Int×Int×Int×Int×Int×Unit
abbrev yy4 : Type := List (Int×Int×Int×Int×Unit)
abbrev yt5 : Ty := .pair I (.pair I yt1)
@[reducible] def w64 (n:Int):Int:=IntKind.wrap .i64 n
def qrz:List (List Tmp×FuncId×Kind×Join)->List Tmp->FuncId->Kind->Option Join
 |[],_,_,_=>none
 |(c,f,k,j)::l,c',f',k'=>if f=f' then (if k=k' then (if c=c' then some j else qrz l c' f' k')else qrz l c' f' k')else qrz l c' f' k'
def qcn(js:List (List Tmp×FuncId×Kind×Join))(inl:List (List Tmp×FuncId×Tmp)):TH where
 lib:=λ_=>false
 join:=qrz js
 inl:=λc f d=>inl.any λ(c',f',d')=>decide (f=f')&&decide (d=d')&&decide (c=c')
def Lb:FuncId->Option (List V->Option V):=λ_=>none
theorem hJ{js:List (List Tmp×FuncId×Kind×Join)}{inl:List (List Tmp×FuncId×Tmp)}:∀g,(qcn js inl).lib g=false->Lb g=none:=λg h=>rfl
def qB(a0:Int)(a1:Int)(a2:Int):Option Bool :=
 (bif decide (a1<=a0)then
   some (decide (a0<=a2))
  else
   some false).bind λ(p1:Bool) =>
 some p1
def qF:Entry:=⟨74,[.ty I,.ty I,.ty I],[(.bool,0)],λx=>qB x.1 x.2.1 x.2.2⟩
def qfb:TH:=qcn [([],74,.region 1,{lv:=[⟨none,6,0⟩],ps:=[(.bool,0)],D:=⟨32704⟩})] []
theorem qfd(x:denP qF.ps):fnT Tryz.prog Hn.hints qfb (qpH []) 40 74 (qde qF.ps x) qF.rs=qF.F x:=by kernel_rfl
theorem qal:qaU Tryz.prog Hn.hints Lb qF:=qc5 qz hJ 40 _ _ _ _ qfd
def qat(a0:Int)(a1:Int):Option Bool :=
 (qB a0 (w64 (0-a1)) a1).bind λx1 =>
 some x1
def qay:Entry:=⟨158,[.ty I,.ty I],[(.bool,0)],λx=>qat x.1 x.2⟩
def qmO:TH:=qcn [] []
theorem qmY(x:denP qay.ps):fnT Tryz.prog Hn.hints qmO (qpH [qF]) 40 158 (qde qay.ps x) qay.rs=qay.F x:=by kernel_rfl
theorem qez:qaU Tryz.prog Hn.hints Lb qay:=qc5 (qn qal qz) hJ 40 _ _ _ _ qmY
def qp(a0:Bool)(a1:Int):Option Int :=
 bif a0 then
  some 0
 else
  some a1
def qE:Entry:=⟨73,[.ty .bool,.ty I],[(I,0)],λx=>qp x.1 x.2⟩
def qfa:TH:=qcn [] []
theorem qfc(x:denP qE.ps):fnT Tryz.prog Hn.hints qfa (qpH []) 40 73 (qde qE.ps x) qE.rs=qE.F x:=by kernel_rfl
theorem qak:qaU Tryz.prog Hn.hints Lb qE:=qc5 qz hJ 40 _ _ _ _ qfc
def qw(a0:(List Int)):Option Int :=
 (qG (λ(s2:Int) =>
   bif decide (s2<(a0.length:Int))then
    (idx a0 s2).bind λx3 =>
    bif !(decide (x3=0))then
     some (.inr (.inr x3))
    else
     some (.inl (w64 (s2+1)))
   else
    some (.inr (.inl ()))) 0).bind (Sum.elim (λ(p4:Unit) =>
 some 0) some)
def qJ:Entry:=⟨72,[.ty (.sl I)],[(I,0)],λx=>qw x⟩
def qfU:TH:=qcn [([],72,.block 0,{lv:=[],ps:=[],abn:=true,D:=⟨32656⟩}),
 ([],72,.loop 0,{lv:=[⟨none,7,0⟩],ps:=[(I,0)],D:=⟨32656⟩})] []
theorem qfV(x:denP qJ.ps):fnT Tryz.prog Hn.hints qfU (qpH []) 40 72 (qde qJ.ps x) qJ.rs=qJ.F x:=by kernel_rfl
theorem qas:qaU Tryz.prog Hn.hints Lb qJ:=qc5 qz hJ 40 _ _ _ _ qfV
def qbX(a0:yy3):Option Int :=
 ((qat a0.1 (60:Int)).bind λx1 =>
  bif x1 then
   (qat a0.2.1 (60:Int)).bind λx2 =>
   bif x2 then
    (qB a0.2.2.1 (1:Int) (8:Int)).bind λx3 =>
    bif x3 then
     (qB a0.2.2.2.1 (1:Int) (3:Int)).bind λx4 =>
     bif x4 then
      (qB a0.2.2.2.2.1 (1:Int) (6:Int)).bind λx5 =>
      some x5
     else
      some false
    else
     some false
   else
    some false
  else
   some false).bind λ(p6:Bool) =>
 (qp p6 (2:Int)).bind λx7 =>
 (qp (decide (a0.1<=a0.2.1)) (9:Int)).bind λx8 =>
 (qw ([x7,x8])).bind λx9 =>
 some x9
def qaw:Entry:=⟨159,[.ty yt5],[(I,0)],λx=>qbX x⟩
def qiG:TH:=qcn [([],159,.region 1,{lv:=[⟨none,3,0⟩],ps:=[(.bool,0)],D:=⟨536870904⟩,rs:=[⟨0,1⟩],Dn:=⟨502233544⟩})] []
theorem qiK(x:denP qaw.ps):fnT Tryz.prog Hn.hints qiG (qpH [qJ,qay,qE,qF]) 40 159 (qde qaw.ps x) qaw.rs=qaw.F x:=by kernel_rfl
theorem qiP:qaU Tryz.prog Hn.hints Lb qaw:=qc5 (qn qas (qn qez (qn qak (qn qal qz)))) hJ 40 _ _ _ _ qiK
def qck(a0:yy3)(a1:yy2):Option Int :=
 ((qB a1.1 a0.1 a0.2.1).bind λx1 =>
  bif x1 then
   (qat a1.2.1 a0.2.2.1).bind λx2 =>
   bif x2 then
    (qat a1.2.2.1 a0.2.2.2.1).bind λx3 =>
    some x3
   else
    some false
  else
   some false).bind λ(p4:Bool) =>
 (qbX a0).bind λx5 =>
 (qp p4 (2:Int)).bind λx6 =>
 (qw ([x5,x6])).bind λx7 =>
 some x7
def qaD:Entry:=⟨105,[.ty yt5,.ty yt1],[(I,0)],λx=>qck x.1 x.2⟩
def qjm:TH:=qcn [([],105,.region 1,{lv:=[⟨none,5,0⟩],ps:=[(.bool,0)],D:=⟨536870880⟩,rs:=[⟨0,2⟩,⟨0,3⟩],Dn:=⟨494593184⟩})] []
theorem qjs(x:denP qaD.ps):fnT Tryz.prog Hn.hints qjm (qpH [qaw,qJ,qay,qE,qF]) 40 105 (qde qaD.ps x) qaD.rs=qaD.F x:=by kernel_rfl
theorem qjy:qaU Tryz.prog Hn.hints Lb qaD:=qc5 (qn qiP (qn qas (qn qez (qn qak (qn qal qz))))) hJ 40 _ _ _ _ qjs
def qeQ(a0:yy2):Option Bool :=
 (bif decide (a0.2.1=0)then
   some (decide (a0.2.2.1=0))
  else
   some false).bind λ(p1:Bool) =>
 some p1
def qbk:Entry:=⟨160,[.ty yt1],[(.bool,0)],λx=>qeQ x⟩
def qoj:TH:=qcn [([],160,.region 1,{lv:=[⟨none,2,0⟩],ps:=[(.bool,0)],D:=⟨2044⟩,rs:=[⟨0,1⟩],Dn:=⟨1908⟩})] []
theorem qop(x:denP qbk.ps):fnT Tryz.prog Hn.hints qoj (qpH []) 40 160 (qde qbk.ps x) qbk.rs=qbk.F x:=by kernel_rfl
theorem qoJ:qaU Tryz.prog Hn.hints Lb qbk:=qc5 qz hJ 40 _ _ _ _ qop
def qeR(a0:yy3)(a1:yy2)(a2:Int):Option (yy2×Bool) :=
 ((qat a2 a0.2.2.2.1).bind λx1 =>
  bif !x1 then
   some true
  else
   (qat (w64 (a2-a1.2.2.1)) a0.2.2.2.2.1).bind λx2 =>
   some (!x2)).bind λ(p3:Bool) =>
 bif p3 then
  some (a1,false)
 else
  ((qat (w64 (a1.2.1+a2)) a0.2.2.1).bind λx4 =>
   bif x4 then
    (qB (w64 (a1.1+(w64 (a1.2.1+a2)))) a0.1 a0.2.1).bind λx5 =>
    some (x5,w64 (a1.1+(w64 (a1.2.1+a2))),w64 (a1.2.1+a2),a2)
   else
    some (false,w64 (a1.1+(w64 (a1.2.1+a2))),w64 (a1.2.1+a2),a2)).bind λ(p6:(Bool×Int×Int×Int)) =>
  some ((p6.2.1,p6.2.2.1,p6.2.2.2,()),p6.1)
def qbl:Entry:=⟨161,[.ty yt5,.ty yt1,.ty I],[(yt1,0),(.bool,0)],λx=>qeR x.1 x.2.1 x.2.2⟩
def qom:TH:=qcn [([],161,.region 1,{lv:=[⟨none,22,0⟩],ps:=[(.bool,0)],D:=⟨8388352⟩,rs:=[⟨0,3⟩,⟨0,4⟩],Dn:=⟨8092928⟩}),
 ([],161,.region 5,{lv:=[⟨none,7,0⟩,⟨some 0,6,0⟩,⟨some 0,6,1⟩,⟨some 0,6,2⟩],ps:=[(.bool,0),(I,0),(I,0),(I,0)],D:=⟨18014261070528640⟩,wr:=[⟨0,6⟩],rs:=[⟨0,3⟩,⟨0,4⟩],Dn:=⟨16095338402152576⟩})] []
theorem qos(x:denP qbl.ps):fnT Tryz.prog Hn.hints qom (qpH [qay,qF]) 40 161 (qde qbl.ps x) qbl.rs=qbl.F x:=by kernel_rfl
theorem qoL:qaU Tryz.prog Hn.hints Lb qbl:=qc5 (qn qez (qn qal qz)) hJ 40 _ _ _ _ qos
def qha(a0:yy3)(a1:yy2):Option ((List Int)×Bool) :=
 (qG (λ(s2:(yy4×Int×(List yy2))) =>
   bif decide (s2.2.1<(s2.1.length:Int))then
    (idx s2.1 s2.2.1).bind λx3 =>
    (qeQ (x3.1,x3.2.1,x3.2.2.1,())).bind λx4 =>
    bif x4 then
     (qG (λ(s7:((List Int)×Int)) =>
       (idx s2.1 s7.2).bind λx8 =>
       bif decide (x8.2.2.2.1>=0)then
        (idx s2.1 s7.2).bind λx9 =>
        (app s7.1 ([x9.2.2.1])).bind λx10 =>
        (idx s2.1 s7.2).bind λx11 =>
        some (.inl (x10,x11.2.2.2.1))
       else
        some (.inr s7.1)) ([],s2.2.1)).bind λ(p12:(List Int)) =>
     (qD9 p12).bind λx13 =>
     some (.inr (.inr (x13,true)))
    else
     (qG (λ(s15:(yy4×Int×(List yy2))) =>
       bif decide (s15.2.1<=a0.2.2.2.1)then
        (idx s15.1 s2.2.1).bind λx16 =>
        (qeR a0 (x16.1,x16.2.1,x16.2.2.1,()) s15.2.1).bind λx17 =>
        (bif x17.2 then
          some (!(qfJ yt1 s15.2.2 x17.1))
         else
          some false).bind λ(p18:Bool) =>
        (bif p18 then
          (app s15.1 ([(x17.1.1,x17.1.2.1,x17.1.2.2.1,s2.2.1,())])).bind λx19 =>
          some (x19,qhF yt1 s15.2.2 x17.1)
         else
          some (s15.1,s15.2.2)).bind λ(p20:(yy4×(List yy2))) =>
        some (.inl (p20.1,w64 (s15.2.1+1),p20.2))
       else
        some (.inr (s15.1,s15.2.2))) (s2.1,w64 (0-a0.2.2.2.1),s2.2.2)).bind λ(p21:(yy4×(List yy2))) =>
     some (.inl (p21.1,w64 (s2.2.1+1),p21.2))
   else
    some (.inr (.inl ()))) ([(a1.1,a1.2.1,a1.2.2.1,(-1),())],0,qhF yt1 [] a1)).bind (Sum.elim (λ(p22:Unit) =>
 some ([],false)) some)
def qcc:Entry:=⟨106,[.ty yt5,.ty yt1],[((.sl I),1),(.bool,0)],λx=>qha x.1 x.2⟩
def qro:TH:=qcn [([],106,.block 0,{lv:=[],ps:=[],abn:=true,D:=⟨2475880078570760549797216064⟩,wr:=[⟨0,12⟩,⟨0,16401⟩]}),
 ([],106,.loop 0,{lv:=[⟨none,6,0⟩,⟨none,8,0⟩,⟨some 0,16401,0⟩],ps:=[((.sl (.pair I yt1)),1),(I,0),((.mset yt1),0)],D:=⟨2475880078570760549797216064⟩,wr:=[⟨0,12⟩,⟨0,16401⟩],rs:=[⟨0,2⟩],Dn:=⟨2475880077345781451152441152⟩}),
 ([],106,.block 2,{lv:=[⟨none,9,0⟩],ps:=[((.sl I),1)],D:=⟨9007190664807936⟩}),
 ([],106,.loop 2,{lv:=[⟨none,9,0⟩,⟨none,10,0⟩],ps:=[((.sl I),1),(I,0)],D:=⟨9007190664807936⟩}),
 ([],106,.block 4,{lv:=[⟨none,6,0⟩,⟨some 0,16401,0⟩],ps:=[((.sl (.pair I yt1)),1),((.mset yt1),0)],D:=⟨2475880077994299797494839872⟩,wr:=[⟨0,12⟩,⟨0,16401⟩],rs:=[⟨0,2⟩],Dn:=⟨2475880076841378292887992896⟩}),
 ([],106,.loop 4,{lv:=[⟨none,6,0⟩,⟨none,11,0⟩,⟨some 0,16401,0⟩],ps:=[((.sl (.pair I yt1)),1),(I,0),((.mset yt1),0)],D:=⟨2475880077994299797494839872⟩,wr:=[⟨0,12⟩,⟨0,16401⟩],rs:=[⟨0,2⟩,⟨0,12⟩,⟨0,16401⟩],Dn:=⟨2465906438829557602196662848⟩}),
 ([],106,.region 18,{lv:=[⟨none,82,0⟩],ps:=[(.bool,0)],D:=⟨9595848693191119074230272⟩,rs:=[⟨0,16401⟩],Dn:=⟨9293617238287461780553728⟩}),
 ([],106,.cond 82,{lv:=[⟨none,6,0⟩,⟨some 0,16401,0⟩],ps:=[((.sl (.pair I yt1)),1),((.mset yt1),0)],D:=⟨2466208672013843516400599104⟩,wr:=[⟨0,16401⟩],rs:=[⟨0,16401⟩],Dn:=⟨2456537265456926483002949696⟩})] []
theorem qru(x:denP qcc.ps):fnT Tryz.prog Hn.hints qro (qpH [qbk,qbl]) 40 106 (qde qcc.ps x) qcc.rs=qcc.F x:=by kernel_rfl
theorem qrF:qaU Tryz.prog Hn.hints Lb qcc:=qc5 (qn qoJ (qn qoL qz)) hJ 40 _ _ _ _ qru
def qdo(a0:yy3)(a1:yy2):Option ((List Int)×Int) :=
 (qck a0 a1).bind λx1 =>
 bif !(decide (x1=0))then
  some ([],x1)
 else
  (qha a0 a1).bind λx2 =>
  (qp x2.2 (12:Int)).bind λx3 =>
  some (x2.1,x3)
def qaC:Entry:=⟨46,[.ty yt5,.ty yt1],[((.sl I),1),(I,0)],λx=>qdo x.1 x.2⟩
def qlv:TH:=qcn [] []
theorem qlC(x:denP qaC.ps):fnT Tryz.prog Hn.hints qlv (qpH [qaD,qcc,qE]) 40 46 (qde qaC.ps x) qaC.rs=qaC.F x:=by kernel_rfl
theorem qlO:qaU Tryz.prog Hn.hints Lb qaC:=qc5 (qn qjy (qn qrF (qn qak qz))) hJ 40 _ _ _ _ qlC
end
end
end Go.Proofs.YtkcaaaiihhhnmaaGreatDoor.St0
end
section
namespace Go.Proofs.YtkcaaaiihhhnmaaGreatDoor.St0
open Go Go.Ab Go.Tx
def Le{α:Type}(a b:Option α):Prop:=∀r,a=some r->b=some r
theorem Le.refl{α:Type}(a:Option α):Le a a:=λ_ h=>h
theorem Le.bind{α β:Type}{a a':Option α}{f f':α->Option β}(h:Le a a')(hf:∀x,Le (f x) (f' x)):Le (a.bind f) (a'.bind f'):=λr hr=>by
 obtain ⟨x,hx,hr⟩:=qd.1 hr;rw [h x hx];exact hf x r hr
theorem Le.cond{α:Type}{c:Bool}{a a' b b':Option α}(h:Le a a')(h':Le b b'):Le (bif c then a else b) (bif c then a' else b'):=by cases c<;>assumption
theorem Le.elim{α β γ:Type}{f f':α->Option γ}{g:β->Option γ}(hf:∀x,Le (f x) (f' x))(x:α⊕β):Le (Sum.elim f g x) (Sum.elim f' g x):=by
 cases x with
 |inl x=>exact hf x
 |inr y=>exact Le.refl _
theorem Le.map{α β:Type}{a a':Option α}{f:α->β}(h:Le a a'):Le (a.map f) (a'.map f):=λr hr=>by
 obtain ⟨x,hx,rfl⟩:=qc.1 hr;rw [h x hx];rfl
theorem qwy{σ ρ:Type}{f g:σ->Option (σ⊕ρ)}(h:∀s,Le (f s) (g s)):∀n s,Le (qc9 f n s) (qc9 g n s)
 |0,s=>Le.refl _
 |n+1,s=>λr hr=>by
  simp only [qc9]at hr ⊢;cases hf:f s with
  |none=>rw [hf]at hr;cases hr
  |some x =>
   rw [hf]at hr;rw [h s x hf];cases x with
   |inl s'=>exact qwy h n s' r hr
   |inr q=>exact hr
theorem qlI{σ ρ:Type}{f:σ->Option (σ⊕ρ)}:∀{n m:Nat} {s:σ} {r:ρ},n<=m->qc9 f n s=some r->qc9 f m s=some r
 |0,_,_,_,_,h=>by simp [qc9]at h
 |n+1,0,_,_,hle,_=>by omega
 |n+1,m+1,s,r,hle,h=>by
  simp only [qc9]at h ⊢;cases hf:f s with
  |none=>rw [hf]at h;cases h
  |some x =>
   rw [hf]at h;cases x with
   |inl s'=>exact qlI (by omega) h
   |inr q=>exact h
theorem qkw{σ ρ:Type}{f:σ->Option (σ⊕ρ)}{n:Nat}{s:σ}{r:ρ}(h:qc9 f n s=some r):qG f s=some r:=by
 unfold qG;rw [dif_pos ⟨n,r,h⟩];have h2:=Classical.choose_spec (Classical.choose_spec (⟨n,r,h⟩:∃n r,qc9 f n s=some r));have h3:=qlI (Nat.le_max_left n (Classical.choose (⟨n,r,h⟩:∃n r,qc9 f n s=some r))) h;have h4:=qlI (Nat.le_max_right n (Classical.choose (⟨n,r,h⟩:∃n r,qc9 f n s=some r))) h2;rw [h3]at h4;exact h4.symm
theorem Le.loop{σ ρ:Type}{f g:σ->Option (σ⊕ρ)}{n:Nat}{s:σ}(h:∀s,Le (f s) (g s)):Le (qc9 f n s) (qG g s):=λr hr=>qkw (qwy h n s r hr)
def qiN{σ ρ:Type}(f:σ->Option (σ⊕ρ))(s:σ):Option ρ:=qc9 f 400 s
theorem Le.qiN{σ ρ:Type}{f g:σ->Option (σ⊕ρ)}{s:σ}(h:∀s,Le (f s) (g s)):Le (St0.qiN f s) (qG g s):=Le.loop h
def qaO(a0:Int)(a1:Int)(a2:Int):Option Bool :=
 (bif decide (a1<=a0)then
   some (decide (a0<=a2))
  else
   some false).bind λ(p1:Bool) =>
 some p1
theorem qcI(a0:Int)(a1:Int)(a2:Int):Le (qaO a0 a1 a2) (qB a0 a1 a2):=by
 unfold qaO qB;repeat' first|exact Le.refl _|refine Le.qiN λ_=>?_|refine Le.elim (λ_=>?_) _|refine Le.bind ?_ λ_=>?_|refine Le.cond ?_ ?_|refine Le.map ?_
def qam(a0:Int)(a1:Int):Option Bool :=
 (qaO a0 (w64 (0-a1)) a1).bind λx1 =>
 some x1
theorem qdQ(a0:Int)(a1:Int):Le (qam a0 a1) (qat a0 a1):=by
 unfold qam qat;repeat' first|exact Le.refl _|exact qcI _ _ _|refine Le.qiN λ_=>?_|refine Le.elim (λ_=>?_) _|refine Le.bind ?_ λ_=>?_|refine Le.cond ?_ ?_|refine Le.map ?_
def qbt(a0:Bool)(a1:Int):Option Int :=
 bif a0 then
  some 0
 else
  some a1
theorem qeC(a0:Bool)(a1:Int):Le (qbt a0 a1) (qp a0 a1):=by
 unfold qbt qp;repeat' first|exact Le.refl _|refine Le.qiN λ_=>?_|refine Le.elim (λ_=>?_) _|refine Le.bind ?_ λ_=>?_|refine Le.cond ?_ ?_|refine Le.map ?_
def qd6(a0:(List Int)):Option Int :=
 (qiN (λ(s2:Int) =>
   bif decide (s2<(a0.length:Int))then
    (idx a0 s2).bind λx3 =>
    bif !(decide (x3=0))then
     some (.inr (.inr x3))
    else
     some (.inl (w64 (s2+1)))
   else
    some (.inr (.inl ()))) 0).bind (Sum.elim (λ(p4:Unit) =>
 some 0) some)
theorem qh2(a0:(List Int)):Le (qd6 a0) (qw a0):=by
 unfold qd6 qw;repeat' first|exact Le.refl _|refine Le.qiN λ_=>?_|refine Le.elim (λ_=>?_) _|refine Le.bind ?_ λ_=>?_|refine Le.cond ?_ ?_|refine Le.map ?_
def qcs(a0:(Int×Int×Int×Int×Int×Unit)):Option Int :=
 ((qam a0.1 (60:Int)).bind λx1 =>
  bif x1 then
   (qam a0.2.1 (60:Int)).bind λx2 =>
   bif x2 then
    (qaO a0.2.2.1 (1:Int) (8:Int)).bind λx3 =>
    bif x3 then
     (qaO a0.2.2.2.1 (1:Int) (3:Int)).bind λx4 =>
     bif x4 then
      (qaO a0.2.2.2.2.1 (1:Int) (6:Int)).bind λx5 =>
      some x5
     else
      some false
    else
     some false
   else
    some false
  else
   some false).bind λ(p6:Bool) =>
 (qbt p6 (2:Int)).bind λx7 =>
 (qbt (decide (a0.1<=a0.2.1)) (9:Int)).bind λx8 =>
 (qd6 ([x7,x8])).bind λx9 =>
 some x9
theorem qh1(a0:(Int×Int×Int×Int×Int×Unit)):Le (qcs a0) (qbX a0):=by
 unfold qcs qbX;repeat' first|exact Le.refl _|exact qcI _ _ _|exact qdQ _ _|exact qeC _ _|exact qh2 _|refine Le.qiN λ_=>?_|refine Le.elim (λ_=>?_) _|refine Le.bind ?_ λ_=>?_|refine Le.cond ?_ ?_|refine Le.map ?_
def qcO(a0:(Int×Int×Int×Int×Int×Unit))(a1:(Int×Int×Int×Unit)):Option Int :=
 ((qaO a1.1 a0.1 a0.2.1).bind λx1 =>
  bif x1 then
   (qam a1.2.1 a0.2.2.1).bind λx2 =>
   bif x2 then
    (qam a1.2.2.1 a0.2.2.2.1).bind λx3 =>
    some x3
   else
    some false
  else
   some false).bind λ(p4:Bool) =>
 (qcs a0).bind λx5 =>
 (qbt p4 (2:Int)).bind λx6 =>
 (qd6 ([x5,x6])).bind λx7 =>
 some x7
theorem qiT(a0:(Int×Int×Int×Int×Int×Unit))(a1:(Int×Int×Int×Unit)):Le (qcO a0 a1) (qck a0 a1):=by
 unfold qcO qck;repeat' first|exact Le.refl _|exact qcI _ _ _|exact qdQ _ _|exact qeC _ _|exact qh2 _|exact qh1 _|refine Le.qiN λ_=>?_|refine Le.elim (λ_=>?_) _|refine Le.bind ?_ λ_=>?_|refine Le.cond ?_ ?_|refine Le.map ?_
def qfq(a0:(Int×Int×Int×Unit)):Option Bool :=
 (bif decide (a0.2.1=0)then
   some (decide (a0.2.2.1=0))
  else
   some false).bind λ(p1:Bool) =>
 some p1
theorem qnb(a0:(Int×Int×Int×Unit)):Le (qfq a0) (qeQ a0):=by
 unfold qfq qeQ;repeat' first|exact Le.refl _|refine Le.qiN λ_=>?_|refine Le.elim (λ_=>?_) _|refine Le.bind ?_ λ_=>?_|refine Le.cond ?_ ?_|refine Le.map ?_
def qfr(a0:(Int×Int×Int×Int×Int×Unit))(a1:(Int×Int×Int×Unit))(a2:Int):Option ((Int×Int×Int×Unit)×Bool) :=
 ((qam a2 a0.2.2.2.1).bind λx1 =>
  bif !x1 then
   some true
  else
   (qam (w64 (a2-a1.2.2.1)) a0.2.2.2.2.1).bind λx2 =>
   some (!x2)).bind λ(p3:Bool) =>
 bif p3 then
  some (a1,false)
 else
  ((qam (w64 (a1.2.1+a2)) a0.2.2.1).bind λx4 =>
   bif x4 then
    (qaO (w64 (a1.1+(w64 (a1.2.1+a2)))) a0.1 a0.2.1).bind λx5 =>
    some (x5,w64 (a1.1+(w64 (a1.2.1+a2))),w64 (a1.2.1+a2),a2)
   else
    some (false,w64 (a1.1+(w64 (a1.2.1+a2))),w64 (a1.2.1+a2),a2)).bind λ(p6:(Bool×Int×Int×Int)) =>
  some ((p6.2.1,p6.2.2.1,p6.2.2.2,()),p6.1)
theorem qnc(a0:(Int×Int×Int×Int×Int×Unit))(a1:(Int×Int×Int×Unit))(a2:Int):Le (qfr a0 a1 a2) (qeR a0 a1 a2):=by
 unfold qfr qeR;repeat' first|exact Le.refl _|exact qcI _ _ _|exact qdQ _ _|refine Le.qiN λ_=>?_|refine Le.elim (λ_=>?_) _|refine Le.bind ?_ λ_=>?_|refine Le.cond ?_ ?_|refine Le.map ?_
def qhb(a0:(Int×Int×Int×Int×Int×Unit))(a1:(Int×Int×Int×Unit)):Option ((List Int)×Bool) :=
 (qiN (λ(s2:((List (Int×Int×Int×Int×Unit))×Int×(List (Int×Int×Int×Unit)))) =>
   bif decide (s2.2.1<(s2.1.length:Int))then
    (idx s2.1 s2.2.1).bind λx3 =>
    (qfq (x3.1,x3.2.1,x3.2.2.1,())).bind λx4 =>
    bif x4 then
     (qiN (λ(s7:((List Int)×Int)) =>
       (idx s2.1 s7.2).bind λx8 =>
       bif decide (x8.2.2.2.1>=0)then
        (idx s2.1 s7.2).bind λx9 =>
        (app s7.1 ([x9.2.2.1])).bind λx10 =>
        (idx s2.1 s7.2).bind λx11 =>
        some (.inl (x10,x11.2.2.2.1))
       else
        some (.inr s7.1)) ([],s2.2.1)).bind λ(p12:(List Int)) =>
     (qD9 p12).bind λx13 =>
     some (.inr (.inr (x13,true)))
    else
     (qiN (λ(s15:((List (Int×Int×Int×Int×Unit))×Int×(List (Int×Int×Int×Unit)))) =>
       bif decide (s15.2.1<=a0.2.2.2.1)then
        (idx s15.1 s2.2.1).bind λx16 =>
        (qfr a0 (x16.1,x16.2.1,x16.2.2.1,()) s15.2.1).bind λx17 =>
        (bif x17.2 then
          some (!(qfJ (.pair I (.pair I (.pair I .unit))) s15.2.2 x17.1))
         else
          some false).bind λ(p18:Bool) =>
        (bif p18 then
          (app s15.1 ([(x17.1.1,x17.1.2.1,x17.1.2.2.1,s2.2.1,())])).bind λx19 =>
          some (x19,qhF (.pair I (.pair I (.pair I .unit))) s15.2.2 x17.1)
         else
          some (s15.1,s15.2.2)).bind λ(p20:((List (Int×Int×Int×Int×Unit))×(List (Int×Int×Int×Unit)))) =>
        some (.inl (p20.1,w64 (s15.2.1+1),p20.2))
       else
        some (.inr (s15.1,s15.2.2))) (s2.1,w64 (0-a0.2.2.2.1),s2.2.2)).bind λ(p21:((List (Int×Int×Int×Int×Unit))×(List (Int×Int×Int×Unit)))) =>
     some (.inl (p21.1,w64 (s2.2.1+1),p21.2))
   else
    some (.inr (.inl ()))) ([(a1.1,a1.2.1,a1.2.2.1,(-1),())],0,qhF (.pair I (.pair I (.pair I .unit))) [] a1)).bind (Sum.elim (λ(p22:Unit) =>
 some ([],false)) some)
theorem qpG(a0:(Int×Int×Int×Int×Int×Unit))(a1:(Int×Int×Int×Unit)):Le (qhb a0 a1) (qha a0 a1):=by
 unfold qhb qha;repeat' first|exact Le.refl _|exact qnb _|exact qnc _ _ _|refine Le.qiN λ_=>?_|refine Le.elim (λ_=>?_) _|refine Le.bind ?_ λ_=>?_|refine Le.cond ?_ ?_|refine Le.map ?_
def qgq(a0:(Int×Int×Int×Int×Int×Unit))(a1:(Int×Int×Int×Unit)):Option ((List Int)×Int) :=
 (qcO a0 a1).bind λx1 =>
 bif !(decide (x1=0))then
  some ([],x1)
 else
  (qhb a0 a1).bind λx2 =>
  (qbt x2.2 (12:Int)).bind λx3 =>
  some (x2.1,x3)
theorem qkP(a0:(Int×Int×Int×Int×Int×Unit))(a1:(Int×Int×Int×Unit)):Le (qgq a0 a1) (qdo a0 a1):=by
 unfold qgq qdo;repeat' first|exact Le.refl _|exact qeC _ _|exact qiT _ _|exact qpG _ _|refine Le.qiN λ_=>?_|refine Le.elim (λ_=>?_) _|refine Le.bind ?_ λ_=>?_|refine Le.cond ?_ ?_|refine Le.map ?_
end Go.Proofs.YtkcaaaiihhhnmaaGreatDoor.St0
namespace Go.Proofs.YtkcaaaiihhhnmaaGreatDoor.St0
open Go Go.Ab Go.Tx
theorem qEj:qdo (-10,10,4,2,1,()) (0,3,0,())=some ([-1,-1,-1,0],0):=qkP _ _ _ (by kernel_rfl)
end Go.Proofs.YtkcaaaiihhhnmaaGreatDoor.St0
end
