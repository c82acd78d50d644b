/-
  ONE LAW OF A CHAPTER: its program side is run by an interpreter that is proved sound; what it computes is shown to be what the law says. No conditions. Part 5 of 8.
-/
import Derived.Test.YteiciemjanhdcaaGreatDoorMsdd
import Derived.Deep.Slices
import Derived.Carry
import Derived.ChangeBears2
import Derived.ChangeSame
import Derived.JoinedCond
import Derived.OpenShut
import Derived.ProofKit
import Derived.Shelf.Strconv.Itoa3
import Derived.Shelf.Strconv.AtoiAll
import Derived.Shelf.Strings.OnBuilder
import Derived.Shelf.Strings.Prefix
import Derived.Shelf.Strings.Search3
import Derived.Shelf.Strings.Cut
import Derived.Shelf.Spec.TrailingZeros
import Derived.Test.YteiciemjanhdcaaGreatDoorProg
import Derived.WalkKit
import Derived.BigCall
import Derived.BigGuard
import Derived.KernelRfl
set_option linter.unusedSimpArgs false
set_option linter.unusedVariables false
set_option linter.unnecessarySimpa false
section
namespace Go.Tx
open Go Go.Ab
section
variable {P:Program} {H:Hints} {J:TH} {T:qsn} {O:TOrc} {lib:FuncId->Option (List V->Option V)} {f:FuncId} {ctx:List Tmp}
def Ev(p:Orc->Prop)(P:Program)(H:Hints)(lib:FuncId->Option (List V->Option V)):Prop:=∃n,∀m,n<=m->p (qsj P H lib m)
theorem Ev.and{p q:Orc->Prop}(h:Ev p P H lib)(h':Ev q P H lib):Ev (λC=>p C/\q C) P H lib:=by
 obtain ⟨n,h⟩:=h;obtain ⟨n',h'⟩:=h';exact ⟨max n n',λm hm=>⟨h m (by omega),h' m (by omega)⟩⟩
theorem Ev.imp{p q:Orc->Prop}(h:Ev p P H lib)(hi:∀C,p C->q C):Ev q P H lib:=by
 obtain ⟨n,h⟩:=h;exact ⟨n,λm hm=>hi _ (h m hm)⟩
theorem Ev.qji:Ev (λC=>C.qji=H.qji) P H lib:=⟨1,λm hm=>by
 cases m with
 |zero=>omega
 |succ m=>rfl⟩
theorem Ev.of{p:Orc->Prop}(h:∀C,p C):Ev p P H lib:=⟨0,λm _=>h _⟩
def qA1(P:Program)(H:Hints)(lib:FuncId->Option (List V->Option V))(f:FuncId)(bid:Nat)(c:Code)(s:St)(e:Ex)(s':St):Prop:=Ev (λC=>ex P H C f bid c s=some (e,s')) P H lib
def qvH(P:Program)(H:Hints)(lib:FuncId->Option (List V->Option V))(g:FuncId)(args:List V)(M:List Level)(r:V)(M':List Level):Prop:=Ev (λC=>C.call g args M=some (r,M')) P H lib
def Snd(run:TSt->(R:Type)->(Ex->TSt->Option R)->Option R)(rel:St->Ex->St->Prop):Prop :=
 ∀(st:TSt) (R:Type) (k:Ex->TSt->Option R) (r:R) (s:St),run st R k=some r->Rst st s->∃e st' s',rel s e s'/\Rst st' s'/\Fr2 st st' s s'/\k e st'=some r
theorem qr1(st:TSt)(p:Place)(v:TV):(st.qb7 p v).Wt=st.Wt/\(st.qb7 p v).Wb=st.Wb:=by
 unfold TSt.qb7;cases p.lvl with
 |none=>exact ⟨rfl,rfl⟩
 |some l =>
  simp only
  cases st.box ⟨l,p.slot⟩with
  |none=>exact ⟨rfl,rfl⟩
  |some cs=>exact ⟨by simp only [TSt.qv];split<;>rfl,rfl⟩
theorem qjl:∀(ps:List Place) (vs:List TV) (st:TSt),(qc9 st ps vs).Wt=st.Wt/\(qc9 st ps vs).Wb=st.Wb
 |[],vs,st=>by cases vs<;>exact ⟨rfl,rfl⟩
 |p::ps,[],st=>⟨rfl,rfl⟩
 |p::ps,v::vs,st=>by
  have h1:=qjl ps vs (st.qb7 p v);have h2:=qr1 st p v;exact ⟨h1.1.trans h2.1,h1.2.trans h2.2⟩
theorem qit(st:TSt)(r:Root)(c:List TV)(q:Root)(h:(st.cont q).isSome=true):((st.qv r c).cont q).isSome=true:=by
 obtain ⟨l,s⟩:=r;obtain ⟨l',s'⟩:=q;have key:∀b:qT,(match q7 b s' with|some (some c)=>some c|_=>none:Option (List TV)).isSome=true->(match q7 (qwE b s (some c)) s' with|some (some c)=>some c|_=>none:Option (List TV)).isSome=true:=λb hb=>by
  rw [qiJ];by_cases e:s'=s
  ·rw [if_pos e];subst e;cases hl:q7 b s' with
   |none=>rw [hl]at hb;cases hb
   |some o=>rfl
  ·rw [if_neg e];exact hb
 unfold TSt.qv TSt.cont at *;simp only at h ⊢;by_cases h1:l=st.L.length
 ·rw [if_pos h1];simp only
  by_cases h2:l'=st.L.length
  ·rw [if_pos h2]at h ⊢;exact key _ h
  ·rw [if_neg h2]at h ⊢;exact h
 ·rw [if_neg h1];simp only [List.length_modify];by_cases h2:l'=st.L.length
  ·rw [if_pos h2]at h ⊢;exact h
  ·rw [if_neg h2]at h ⊢;rw [List.getElem?_modify];cases hb:st.L[l']? with
   |none=>rw [hb]at h;cases h
   |some b =>
    rw [hb]at h;simp only [Option.map_eq_map,qn];by_cases e:l=l'
    ·rw [if_pos e];exact key _ h
    ·rw [if_neg e];exact h
theorem qo2:∀(ps:List Place) (vs:List TV) (st:TSt) (t:Nat),(qc9 st ps vs).E.toL[t]?=st.E.toL[t]?\/∃v∈vs,(qc9 st ps vs).E.toL[t]?=some v
 |[],vs,st,t=>by cases vs<;>exact .inl rfl
 |p::ps,[],st,t=>.inl rfl
 |p::ps,v::vs,st,t=>by
  rcases qo2 ps vs (st.qb7 p v) t with h|⟨u,hu,h⟩
  ·show (qc9 (st.qb7 p v) ps vs).E.toL[t]?=_\/∃u∈v::vs,(qc9 (st.qb7 p v) ps vs).E.toL[t]?=some u;rw [h];unfold TSt.qb7;cases p.lvl with
   |none =>
    simp only [qeq,List.getElem?_set];split
    ·split
     ·exact .inr ⟨v,by simp,rfl⟩
     ·rename_i h1 h2;left;rw [List.getElem?_eq_none (by omega)]
    ·exact .inl rfl
   |some l =>
    simp only
    cases st.box ⟨l,p.slot⟩with
    |none=>exact .inl rfl
    |some cs=>left;simp only [TSt.qv];split<;>rfl
  ·exact .inr ⟨u,by simp [hu],h⟩
theorem qt0(st:TSt)(p:Place)(v:TV)(r:Root)(h:(st.cont r).isSome=true):((st.qb7 p v).cont r).isSome=true:=by
 unfold TSt.qb7;cases p.lvl with
 |none=>exact h
 |some l =>
  simp only
  cases hb:st.box ⟨l,p.slot⟩with
  |none=>exact h
  |some cs =>
   simp only
   have hbx:({st.qv ⟨l,p.slot⟩ (cs.set p.cell v)with Wb:=st.Wb}:TSt).cont r=(st.qv ⟨l,p.slot⟩ (cs.set p.cell v)).cont r:=rfl;rw [hbx];exact qit st ⟨l,p.slot⟩ _ r h
theorem qk5:∀(ps:List Place) (vs:List TV) (st:TSt) (r:Root),(st.cont r).isSome=true->((qc9 st ps vs).cont r).isSome=true
 |[],vs,st,r,h=>by cases vs<;>exact h
 |p::ps,[],st,r,h=>h
 |p::ps,v::vs,st,r,h=>qk5 ps vs _ r (qt0 st p v r h)
theorem qwo(τ:Ty)(o:Nat)(x:τ.den):∀rs,ofTy τ o x≠.any rs:=λrs=>by cases τ<;>simp [ofTy]
theorem qzS:∀(ps:List (Ty×Nat)) (x:denL (ps.map (·.1))),∀v∈ofL ps x,∀rs,v≠.any rs
 |[],x,v,hv=>by simp [ofL]at hv
 |[(τ,o)],x,v,hv=>by simp only [ofL,List.mem_singleton]at hv;subst hv;exact qwo τ o x
 |(τ,o)::q::ps,x,v,hv=>by
  simp only [ofL,qp]at hv;rcases hv with rfl|hv
  ·exact qwo τ o x.1
  ·exact qzS (q::ps) x.2 v hv
theorem qvd{st st2:TSt}{s s':St}{j:Join}{x:denL (j.ps.map (·.1))}(h2:Rst st2 s')(hf:Fr2 st.fresh st2 s s')(ho:st2.outs st j=some x):Fr2 st (st.qez j (ofL j.ps x)) s s':=by
 generalize hvs:ofL j.ps x=vs;have hany:∀v∈vs,∀rs,v≠.any rs:=by rw [<- hvs];exact qzS j.ps x
 unfold TSt.outs at ho;split at ho
 ·rename_i hc;simp only [qi]at hc;obtain ⟨⟨_,hwr⟩,_⟩:=hc;unfold TSt.wrote at hwr;simp only [qi,List.all_eq_true]at hwr;obtain ⟨hwt0,hwb⟩:=hwr;have hwt:∀t∈st2.Wt,t∈j.D:=λt ht=>Mask.qAC hwt0 ht;have hl:=qjl j.lv vs {j.wr.foldl (λ(st:TSt) r=>st.forget j.rb r) {st with E:=qej j.D j.qAn st.E}with Wt:=j.D++st.Wt,Wb:=j.wr++st.Wb};have e1:(st.qez j vs).Wt=j.D++st.Wt:=hl.1;have e2:(st.qez j vs).Wb=j.wr++st.Wb:=hl.2;refine ⟨λt ht=>by rw [e1];simp [ht],λr hr=>by rw [e2];simp [hr],λt ht=>?_,λt ht rs hE=>?_,λr hr=>?_,λr hr hsm=>?_,hf.len,hf.elen⟩
  ·rw [e1]at ht;exact hf.e t λhh=>ht (by simp [hwt t hh])
  ·rw [e1]at ht;simp only [Mask.mem_append,not_or]at ht;unfold TSt.qez at hE;rcases qo2 j.lv vs _ t with h3|⟨v,hv,h3⟩
   ·rw [h3]at hE;have h4:(j.wr.foldl (λ(st:TSt) r=>st.forget j.rb r) {st with E:=qej j.D j.qAn st.E}).E.toL[t]?=some (.any rs):=hE;rw [qnL]at h4;simp only at h4;rw [qjq,if_neg ht.1]at h4;exact ⟨rs,h4⟩
   ·rw [h3]at hE;exact absurd (Option.some.inj hE) (hany v hv rs)
  ·rw [e2]at hr;by_cases hm:r∈st2.Wb
   ·have:=hwb r hm;simp only [Bool.or_eq_true,decide_eq_true_eq]at this;rcases this with h3|h3
    ·exact absurd (by simp at h3;simp [h3]) hr
    ·rw [qR,qR];unfold qaC;have h4:=h2.len;have h5:=hf.len;rw [List.getElem?_eq_none (by simp [qdi];omega),List.getElem?_eq_none (by simp [qdi];omega)];exact .inl rfl
   ·exact hf.b r hm
  ·rw [e2]at hr;simp only [qo,not_or]at hr;unfold TSt.qez;refine qk5 j.lv vs _ r ?_;obtain ⟨c,hc⟩:=Option.isSome_iff_exists.1 hsm;have hlk:=qeJ hc;have h3:qav (j.wr.foldl (λ(st:TSt) r=>st.forget j.rb r) {st with E:=qej j.D j.qAn st.E}).all r.lvl r.slot=some (some c):=by
    rw [qg6,if_neg (λhh=>hr.1 hh.1)];exact hlk
   have h4:({j.wr.foldl (λ(st:TSt) r=>st.forget j.rb r) {st with E:=qej j.D j.qAn st.E}with Wt:=j.D++st.Wt,Wb:=j.wr++st.Wb}:TSt).cont r=some c:=by
    rw [qa7];show (match qav (j.wr.foldl (λ(st:TSt) r=>st.forget j.rb r) {st with E:=qej j.D j.qAn st.E}).all r.lvl r.slot with
     |some (some c)=>some c
     |_=>none)=some c
    rw [h3]
   rw [h4];rfl
 ·cases ho
theorem qiQ{st st2:TSt}{s s':St}{j:Join}{x:denL (j.ps.map (·.1))}(h2:Rst st2 s')(hf:Fr2 st.fresh st2 s s')(ho:st2.outs st j=some x):Fr2 st (st.qb3 j (ofL j.ps x)) s s':=by
 have h:=qvd h2 hf ho;have hl:=qqj j.kp (st.qez j (ofL j.ps x));have hc:∀r,(st.qb3 j (ofL j.ps x)).cont r=(st.qez j (ofL j.ps x)).cont r:=λr=>by
  unfold TSt.cont TSt.qb3;rw [hl.2.2.1,hl.2.2.2]
 refine ⟨λt ht=>?_,λr hr=>?_,λt ht=>?_,λt ht rs hE=>?_,λr hr=>?_,λr hr hs=>?_,h.len,h.elen⟩
 ·unfold TSt.qb3;rw [hl.1];exact h.wt t ht
 ·unfold TSt.qb3;rw [hl.2.1];exact h.wb r hr
 ·unfold TSt.qb3 at ht;rw [hl.1]at ht;exact h.e t ht
 ·unfold TSt.qb3 at ht hE;rw [hl.1]at ht;exact h.an t ht rs (qz4 _ _ _ _ hE)
 ·unfold TSt.qb3 at hr;rw [hl.2.1]at hr;exact h.b r hr
 ·rw [hc];unfold TSt.qb3 at hr;rw [hl.2.1]at hr;exact h.bn r hr hs
theorem qwh{st st2:TSt}{s s':St}(hf:Fr2 st.fresh st2 s s'):Fr2 st (st2.merge st) s s' :=
 ⟨λt ht=>by simp [TSt.merge,ht],λr hr=>by simp [TSt.merge,hr],λt ht=>hf.e t λhh=>ht (by simp [TSt.merge,hh]),λt ht rs hE=>hf.an t (λhh=>ht (by simp [TSt.merge,hh])) rs hE,λr hr=>hf.b r λhh=>hr (by simp [TSt.merge,hh]),λr hr hsm=>hf.bn r (λhh=>hr (by simp [TSt.merge,hh])) hsm,hf.len,hf.elen⟩
theorem Rst.fresh{st:TSt}{s:St}(h:Rst st s):Rst st.fresh s:=⟨h.E,h.M⟩
theorem Rst.merge{st st0:TSt}{s:St}(h:Rst st s):Rst (st.merge st0) s:=⟨h.E,h.M⟩
theorem qng{run:TSt->(R:Type)->(Ex->TSt->Option R)->Option R}{rel:St->Ex->St->Prop}(h:Snd run rel)(j:Option Join):Snd (λst R k=>qxs j st run R k) rel:=by
 intro st R k r s hr hs;simp only [qxs]at hr;cases j with
 |none=>exact h st R k r s hr hs
 |some j =>
  simp only at hr;split at hr
  ·obtain ⟨x,hx,hk⟩:=qh.1 hr;obtain ⟨e,st2,s',hrel,hR,hF,hkk⟩:=h _ _ _ _ s hx hs.fresh;have habn:∀e,(k e (st2.merge st)).map Sum.inr=some x->rel s e s'->∃e st' s',rel s e s'/\Rst st' s'/\Fr2 st st' s s'/\k e st'=some r:=λe hkk hrel=>by
    obtain ⟨y,hy,rfl⟩:=qf.1 hkk;simp only [Sum.elim_inr,qe]at hk;subst hk;exact ⟨e,_,s',hrel,hR.merge,qwh hF,hy⟩
   cases e with
   |normal =>
    obtain ⟨y,hy,rfl⟩:=qf.1 hkk;simp only [Sum.elim_inl]at hk;exact ⟨.normal,_,s',hrel,qiR hs hR hF hy,qiQ hR hF hy,hk⟩
   |exit id=>exact habn _ hkk hrel
   |ret=>exact habn _ hkk hrel
  ·obtain ⟨x,hx,hk⟩:=qh.1 hr;obtain ⟨e,st2,s',hrel,hR,hF,hkk⟩:=h _ _ _ _ s hx hs.fresh;cases e with
   |normal=>exact ⟨.normal,_,s',hrel,qiR hs hR hF hkk,qiQ hR hF hkk,hk⟩
   |exit id=>cases hkk
   |ret=>cases hkk
def TOk(P:Program)(H:Hints)(lib:FuncId->Option (List V->Option V))(T:qsn):Prop :=
 ∀g args (R:Type) (k:TV->Option R) r vs,T g args R k=some r->RVL args vs->∃x v,k x=some r/\RV x v/\qvH P H lib g vs [] v []
structure OOk (P:Program) (H:Hints) (lib:FuncId->Option (List V->Option V)) (O:TOrc):Prop where
 call:∀ctx g args M (R:Type) (k:TV->List qT->List Root->Option R) r vs M',O.call ctx g args M R k=some r->RVL args vs->LR M M' ->
  ∃x N wb v N',k x N wb=some r/\RV x v/\LR N N'/\N.length=M.length/\(∀l sl,(⟨l,sl⟩:Root)∉wb->qaC N' l sl=qaC M' l sl/\∀c,qav M l sl=some (some c)->∃c',qav N l sl=some (some c'))/\qvH P H lib g vs M' v N'
 code:∀ctx f bid c,Snd (λst R k=>O.code ctx f bid c st R k) λs e s'=>Ev (λC=>C.code f bid c s=some (e,s')) P H lib
 born:∀ctx g args (R:Type) (k:TV->TV->Option R) r vs,O.born ctx g args R k=some r->RVL args vs ->
  ∃x τ o l v sl,k x (.t (.mset τ) o l)=some r/\qhX τ=true/\RV x v/\x.onlyMaps=true/\Ev (λC=>C.born g vs=some (v,sl,kvs τ l)) P H lib
theorem qlu(f:Fl):qho f≠.own:=by cases f<;>simp [qho]
theorem qsN(f:Fl):qiE f=.own↔f=.own:=by cases f<;>simp [qiE]
theorem qsO(f:Fl):qiF f=.own↔f=.own:=by cases f<;>simp [qiF]
theorem qg1:∀{M:List qT} {L:List qT} {B:qT},qfk M=some (L,B)->M=L++[B]
 |[],_,_,h=>by cases h
 |[b],_,_,h=>by simp only [qfk,qe,Prod.mk.injEq]at h;simp [<- h.1,<- h.2]
 |b::c::l,L,B,h=>by
  simp only [qfk]at h;obtain ⟨⟨x,y⟩,hxy,h2⟩:=qf.1 h;simp only [Prod.mk.injEq]at h2;obtain ⟨rfl,rfl⟩:=h2;simp [qg1 hxy]
theorem qg2:∀(L:List Level) (B:Level),qdK (L++[B])=some (L,B)
 |[],B=>rfl
 |[a],B=>rfl
 |a::b::L,B=>by
  have:=qg2 (b::L) B;simp only [List.cons_append]at this ⊢;simp only [qdK,this,qn]
theorem qmc{α:Type}:∀{M:List α} {n:Nat},M.length=n+1->∃L B,M=L++[B]
 |[],n,h=>by simp at h
 |[b],n,h=>⟨[],b,rfl⟩
 |b::c::l,n,h=>by
  obtain ⟨L,B,e⟩:=qmc (M:=c::l) (n:=l.length) (by simp);exact ⟨b::L,B,by rw [e];rfl⟩
theorem LR.init{M:List qT}{M':List Level}(h:LR M M'):LR (M++[[]]) (M'++[[]]) where
 len:=by simp [h.len]
 rel:=λl s=>by
  have key:=h.rel l s;unfold qav qaC at key ⊢;have hl:=h.len;by_cases e:l<M.length
  ·rw [qk e,qk (by omega)];exact key
  ·rw [List.getElem?_append_right (by omega),List.getElem?_append_right (by omega),hl];cases l-M.length with
   |zero=>simp [q7,qD,RB]
   |succ n=>simp [RB]
 nd:=λb hb=>by
  simp only [qo,List.mem_singleton]at hb;rcases hb with hb|rfl
  ·exact h.nd b hb
  ·simp
 mp:=λl s c hc hlt=>by
  have key:=h.mp l s c;unfold qaC at key hc;by_cases e:l<M'.length
  ·rw [qk e]at hc;exact key hc hlt
  ·rw [List.getElem?_append_right (by omega)]at hc;cases hm:l-M'.length with
   |zero=>rw [hm]at hc;simp [qD]at hc
   |succ n=>rw [hm]at hc;simp at hc
theorem LR.front{M:List qT}{M':List Level}{b:qT}{b':Level}(h:LR (M++[b]) (M'++[b'])):LR M M' where
 len:=by have:=h.len;simp at this;exact this
 rel:=λl s=>by
  have hl:M'.length=M.length:=by have:=h.len;simp at this;exact this
  have key:=h.rel l s;unfold qav qaC at key ⊢;by_cases e:l<M.length
  ·rw [qk e,qk (by omega)]at key;exact key
  ·rw [List.getElem?_eq_none (by omega),List.getElem?_eq_none (by omega)];rfl
 nd:=λc hc=>h.nd c (by simp [hc])
 mp:=λl s c hc hlt=>by
  have key:=h.mp l s c;unfold qaC at key hc;by_cases e:l<M'.length
  ·rw [qk e]at key;exact key hc hlt
  ·rw [List.getElem?_eq_none (by omega)]at hc;cases hc
theorem qx0(st:TSt)(r:Root)(v:TV):(st.qqz r v).all=st.all.modify r.lvl (λb=>qwE b r.slot (some [v])):=qj0 st r [v]
theorem qt1{st:TSt}{s:St}(hs:Rst st s){r:Root}{c0:List TV}(hb:st.cont r=some c0){x:LoopState}{pe:Option Code}{g:FuncId}{env:List TV}{env':List V}{ps:List Tmp}{a b:Code}(he:RVL env env') :
  Rst (st.qqz r (.lp x pe g env ps a b)) (s.qv r [.lp x pe g env' ps a b]):=by
 have e1:(st.qqz r (.lp x pe g env ps a b)).E=st.E:=(show (st.qv r [_]).E=st.E by unfold TSt.qv;split<;>rfl)
 have e2:(s.qv r [.lp x pe g env' ps a b]).E=s.E:=by unfold St.qv;split<;>rfl
 refine ⟨by rw [e1,e2];exact hs.E,?_⟩;rw [qx0,qqy];exact LR.qv hs.M _ _ (by rw [qeJ hb];simp) ⟨env',rfl,he⟩ (λ_=>rfl)
theorem qo3(st:TSt)(r:Root)(v:TV)(q:Root)(h:(st.cont q).isSome=true):((st.qqz r v).cont q).isSome=true:=qit st r [v] q h
theorem qrJ{st:TSt}{s:St}(hs:Rst st s){r:Root}{x:LoopState}{pe:Option Code}{g:FuncId}{env:List TV}{ps:List Tmp}{a b:Code}(h:st.cont r=some [.lp x pe g env ps a b]) :
  ∃env',s.box r=some [.lp x pe g env' ps a b]/\RVL env env':=by
 have:=hs.M.rel r.lvl r.slot;rw [qeJ h]at this;obtain ⟨c',h1,env',rfl,h2⟩:=this;exact ⟨env',by rw [qR];exact h1,h2⟩
theorem qqN:∀{E:Env} {E':List V} {ps:List Tmp} {asz:List TV} {vs:List V},RVL E.toL E'->RVL asz vs->RVL (qj4 E ps asz).toL (qe6 E' ps vs)
 |E,E',[],asz,vs,hE,ha=>by
  cases asz with
  |nil=>simp only [RVL]at ha;subst ha;exact hE
  |cons a asz=>simp only [RVL]at ha;obtain ⟨v,m,rfl,_⟩:=ha;exact hE
 |E,E',t::ps,[],vs,hE,ha=>by simp only [RVL]at ha;subst ha;exact hE
 |E,E',t::ps,a::asz,vs,hE,ha=>by
  simp only [RVL]at ha;obtain ⟨v,m,rfl,h1,h2⟩:=ha;simp only [qj4,qe6];exact qqN (by rw [qeq];exact RVL.set _ hE h1) h2
theorem qDq{E:List V}{L:List Level}{B:Level}{q:Root}(h:q.lvl<L.length):({E,L,B}:St).box q=qaC L q.lvl q.slot:=by
 rw [qR];unfold qaC qdi;simp only
 rw [qk h]
theorem qAl(hO:OOk P H lib O){d:Tmp}{r:Root}{args:List TV}{args':List V}{st:TSt}{s:St}{R:Type}{k:TV->TSt->Option R}{res:R}
  (ha:RVL args args') (hs:Rst st s) (h:qAk O ctx d r args st R k=some res) :
  ∃v st' u s',k v st'=some res/\Ev (λC=>qle C r args' s=some (u,s')) P H lib/\RV v u/\Rst st' s'/\Fr2 st st' s s'/\st'.E=st.E/\s'.E=s.E:=by
 unfold qAk at h;split at h
 ·rename_i g env ps asz bo hc1;obtain ⟨env',hb1,hre⟩:=qrJ hs hc1;split at h
  ·cases h
  ·rename_i hlen;have hlen':¬ args'.length≠ps.length:=by rw [ha.length];exact hlen
   have hE0:RVL (qj4 (Env.qhs env env.length) ps (dullL args)).toL (qe6 env' ps (args'.map V.hand)):=by
    refine qqN ?_ (ha.qru qlu rfl);rw [qmk];simpa using hre
   have h0:Rst {E:=qj4 (Env.qhs env env.length) ps (dullL args),L:=st.L++[st.B],B:=[],Wt:=.empty,Wb:=[]} {E:=qe6 env' ps (args'.map V.hand),L:=s.L++[s.B],B:=[]}:=⟨hE0,hs.M.init⟩
   obtain ⟨e1,t2,s2,hev1,hR2,hF2,h⟩:=hO.code _ _ _ _ _ _ _ _ _ h h0;cases e1 with
   |exit id=>cases h
   |ret=>cases h
   |normal =>
    simp only at h;split at h
    ·rename_i g2 env2 ps2 as2 bo2 hc2;obtain ⟨env2',hb2,hre2⟩:=qrJ hR2 hc2;have hset:=qt1 hR2 hc2 (x:=.busy) (pe:=none) (g:=g2) (ps:=ps2) (a:=as2) (b:=bo2) hre2;obtain ⟨e3,t3,s3,hev2,hR3,hF3,h⟩:=hO.code _ _ _ _ _ _ _ _ _ h hset;split at h
     ·rename_i x9 pe9 g3 env3 ps3 as3 bo3 hc3;obtain ⟨env3',hb3,hre3⟩:=qrJ hR3 hc3;have hset3:=qt1 hR3 hc3 (x:=if e3.code.isNone then .ready else .done) (pe:=e3.code) (g:=g3) (ps:=ps3) (a:=as3) (b:=bo3) hre3;split at h
      ·rename_i L B hsp;have hL3:=qg1 hsp;split at h
       ·rename_i hL;have hlen0:=hs.len;have hlA:(s3.qv r [.lp (if e3.code.isNone then .ready else .done) e3.code g3 env3' ps3 as3 bo3]).L.length=L.length+1:=by
         have:=hset3.len;rw [hL3]at this;rw [this];simp
        obtain ⟨L',B',hL3'⟩:=qmc hlA;have hL':L'.length=s.L.length:=by rw [hL3']at hlA;simp at hlA;omega
        have hs3L:s3.L.length=s.L.length+1:=by
         have:=hF3.len;have:=hF2.len;have e9:(s2.qv r [.lp .busy none g2 env2' ps2 as2 bo2]).L.length=s2.L.length:=by unfold St.qv;split<;>simp
         simp only [List.length_append,List.length_singleton]at *;omega
        have ht2:∀q,q∉t3.Wb->q∉t2.Wb:=λq hq hh=>hq (hF3.wb q hh);have hbig:s2.L.length=s.L.length+1:=by have:=hF2.len;simpa using this
        have same2:∀q,q∉t3.Wb->s2.box q=({E:=qe6 env' ps (args'.map V.hand),L:=s.L++[s.B],B:=[]}:St).box q:=λq hq=>by
         rcases hF2.b q (ht2 q hq)with h9|⟨h9,_⟩
         ·exact h9
         ·simp at h9
        have same3:∀q,q∉t3.Wb->s3.box q=(s2.qv r [.lp .busy none g2 env2' ps2 as2 bo2]).box q:=λq hq=>by
         rcases hF3.b q hq with h9|⟨h9,_⟩
         ·exact h9
         ·have e9:(s2.qv r [.lp .busy none g2 env2' ps2 as2 bo2]).L.length=s2.L.length:=by unfold St.qv;split<;>simp
          omega
        have low:∀q:Root,q.lvl<=s.L.length->({E:=qe6 env' ps (args'.map V.hand),L:=s.L++[s.B],B:=[]}:St).box q=s.box q:=λq hq=>by
         rw [qDq (by simp;omega),qR];rfl
        have hfin:∀q:Root,q.lvl<=s.L.length->({s with L:=L',B:=B'}:St).box q=(s3.qv r [.lp (if e3.code.isNone then .ready else .done) e3.code g3 env3' ps3 as3 bo3]).box q:=λq hq=>by
         rw [qR,qR];unfold qaC qdi;simp only
         rw [hL3',qk (l₁:=L'++[B']) (by simp;omega)]
        refine ⟨_,_,.val (.bool e3.code.isNone),{s with L:=L',B:=B'},h,((hev1.and hev2)).imp λC ⟨hC1,hC2⟩=>?_,by simp [RV,RTy],⟨hs.E,?_⟩,⟨λt ht=>ht,λq hq=>by simp [hq],λt ht=>.inl rfl,λt ht rs hE=>⟨rs,hE⟩,λq hq=>.inl ?_,λq hq hsm=>?_,hL',rfl⟩,rfl,rfl⟩
        ·unfold qle;rw [hb1];simp only
         rw [if_neg hlen',hC1];simp only
         rw [hb2];simp only
         rw [hC2];simp only
         rw [hb3];simp only
         rw [hL3',qg2];simp only [hL',if_true]
        ·have h9:=LR.front hset3.M;rw [hL3,hL3']at h9;exact h9
        ·simp only [qo,not_or]at hq;obtain ⟨hq0,hq3,_⟩:=hq;by_cases hlv:q.lvl<=s.L.length
         ·rw [hfin q hlv,q8];by_cases e:q=r
          ·subst e;rw [if_pos rfl,hb3];have hx:e3.code.isNone=true:=by
            cases hx:e3.code.isNone with
            |true=>rfl
            |false=>rw [hx]at hq0;simp at hq0
           have k2:=same2 q hq3;rw [low q hlv,hb1,hb2]at k2;have k3:=same3 q hq3;rw [q8,if_pos rfl,hb2,hb3]at k3;simp only [qn,qe,List.cons.injEq,V.lp.injEq,and_true,true_and]at k2 k3;obtain ⟨a1,a2,a3,a4,a5⟩:=k2;obtain ⟨_,_,b1,b2,b3,b4,b5⟩:=k3;subst a1 a2 a3 a4 a5 b1 b2 b3 b4 b5;rw [hx,hb1];simp only [qn,if_true,Option.isNone_iff_eq_none.1 hx]
          ·rw [if_neg e,same3 q hq3,q8,if_neg e,same2 q hq3,low q hlv]
         ·rw [qR,qR];unfold qaC qdi;simp only
          rw [List.getElem?_eq_none (by simp;omega),List.getElem?_eq_none (by simp;omega)]
        ·simp only [qo,not_or]at hq;obtain ⟨hq0,hq3,_⟩:=hq;have hlv:q.lvl<(st.L++[st.B]).length:=by
          obtain ⟨c,hc⟩:=Option.isSome_iff_exists.1 hsm;have:=qeJ hc;unfold qav TSt.all at this;cases hM0:(st.L++[st.B])[q.lvl]? with
          |none=>rw [hM0]at this;cases this
          |some b=>exact (qq.1 hM0).1
         have i0:(({E:=qj4 (Env.qhs env env.length) ps (dullL args),L:=st.L++[st.B],B:=[],Wt:=.empty,Wb:=[]}:TSt).cont q).isSome=true:=by
          rw [qa7]at hsm ⊢;unfold qav TSt.all at hsm ⊢;simp only at hsm ⊢;rw [qk hlv];exact hsm
         have i1:=hF2.bn q (ht2 q hq3) i0;have i2:=qo3 t2 r (.lp .busy none g2 env2 ps2 as2 bo2) q i1;have i3:=hF3.bn q hq3 i2;have i4:=qo3 t3 r (.lp (if e3.code.isNone then .ready else .done) e3.code g3 env3 ps3 as3 bo3) q i3;rw [qa7]at i4 ⊢;unfold qav TSt.all at i4 ⊢;rw [hL3,qk (l₁:=L++[B]) (by simp at hlv ⊢;omega)]at i4;exact i4
       ·cases h
      ·cases h
     ·cases h
    ·cases h
 ·cases h
theorem qsB(hT:TOk P H lib T)(hO:OOk P H lib O){d:Tmp}{fv:TV}{fv':V}{args:List TV}{args':List V}{st:TSt}{s:St}{R:Type}{k:TV->TSt->Option R}{r:R}
  (hf:RV fv fv') (ha:RVL args args') (hs:Rst st s) (h:qpE H J T O ctx f d fv args st R k=some r) :
  ∃v st' u s',k v st'=some r/\Ev (λC=>qhu C fv' args' s=some (u,s')/\qcA C fv'=qek H fv) P H lib/\RV v u/\Rst st' s'/\Fr2 st st' s s'/\st'.E=st.E/\s'.E=s.E/\qdR fv' args'=qgG fv args:=by
 unfold qpE at h;split at h
 ·rename_i g first cap;simp only [RV]at hf;obtain ⟨first',cap',rfl,hf1,hc1⟩:=hf;have hall:RVL (first++args++cap) (first'++args'++cap'):=(hf1.append ha).append hc1;split at h
  ·rename_i hk;have hpt:=RVL.ptrs_eq _ _ hk hall;have hpure:qdR (.fn g first' cap') args'=qgG (.fn g first cap) args:=by
    simp only [qdR,qgG,hpt]
   split at h
   ·rename_i hp;have hp':(ptrsL (first'++args'++cap')).isEmpty=true:=by rw [hpt];exact hp
    have hshare:RVL (shareL (first++args++cap)) ((first'++args'++cap').map V.share):=by
     have:=RVL.share _ _ hall;rw [qaV]at this;exact this
    have fin:∀{x:TV} {v:V},k (if tightL (first++args++cap)then x else x.qbk) st=some r->RV x v->qvH P H lib g ((first'++args'++cap').map V.share) [] v [] ->
      ∃v st' u s',k v st'=some r/\Ev (λC=>qhu C (.fn g first' cap') args' s=some (u,s')/\qcA C (.fn g first' cap')=qek H (.fn g first cap)) P H lib/\RV v u/\Rst st' s'/\Fr2 st st' s s'/\st'.E=st.E/\s'.E=s.E/\qdR (.fn g first' cap') args'=qgG (.fn g first cap) args:=by
     intro x v hkx hr hev;refine ⟨if tightL (first++args++cap)then x else x.qbk,st,if looseL (first'++args'++cap')=true then v.qbk else v,s,hkx,(hev.and Ev.qji).imp λC ⟨hC,hCp⟩=>?_,?_,hs,Fr2.refl _ _,rfl,rfl,hpure⟩
     ·refine ⟨?_,by simp only [qcA,qek,hCp]⟩;show qfQ C g (first'++args'++cap') s=_;unfold qfQ;rw [if_pos hp',hC]
     ·cases htg:tightL (first++args++cap)with
      |true =>
       rw [RVL.tight _ _ htg hall];simpa using hr
      |false =>
       simp only [qj,if_false];split
       ·exact RV.lo qsN _ _ hr
       ·exact hr.lo0
    split at h
    ·obtain ⟨x,N,wb,v,N',hkx,hr,hN,hlen,_,hev⟩:=hO.call _ _ _ _ _ _ _ _ [] h hshare ⟨rfl,λl s=>by simp [qav,qaC,RB],by simp,λl s c h=>by simp [qaC]at h⟩;have hN0:N=[]:=List.eq_nil_of_length_eq_zero (by rw [hlen];rfl);subst hN0;have hN0':N'=[]:=List.eq_nil_of_length_eq_zero (by rw [hN.len];rfl);subst hN0';exact fin hkx hr hev
    ·obtain ⟨x,v,hkx,hr,hev⟩:=hT _ _ _ _ _ _ h hshare;exact fin hkx hr hev
   ·rename_i hp;have hp':¬ (ptrsL (first'++args'++cap')).isEmpty=true:=by rw [hpt];exact hp
    split at h
    ·rename_i hpk;split at h
     ·rename_i xs hxs;split at h
      ·rename_i hxp;obtain ⟨us,hus,hru⟩:=peekTL_ok (bt:=st.box) (bx:=s.box) (λr c hc=>by
        obtain ⟨c',h1,h2⟩:=hs.box hc;exact ⟨c',h1,h2,λhlt=>hs.M.mp r.lvl r.slot c' (by rw [<- qR];exact h1) hlt⟩) _ _ _ hxs hall
       obtain ⟨x,v,hkx,hr,hev⟩:=hT _ _ _ _ _ _ h hru;split at hkx
       ·rename_i hmine;refine ⟨x,st,v,s,hkx,(hev.and Ev.qji).imp λC ⟨hC,hCp⟩=>⟨?_,by simp only [qcA,qek,hCp]⟩,hr,hs,Fr2.refl _ _,rfl,rfl,hpure⟩;show qfQ C g (first'++args'++cap') s=_;have hup:(ptrsL us).isEmpty=true:=by
         rw [List.isEmpty_iff,List.eq_nil_iff_forall_not_mem];intro q hq;have:=RVL.qx _ _ hru q hq;rw [List.isEmpty_iff]at hxp;rw [hxp]at this;cases this
        unfold qfQ;rw [if_neg hp',hCp,if_pos hpk,hus];simp only [hup,if_true,hC,RV.qc2 x v hmine hr]
       ·cases hkx
      ·cases h
     ·cases h
    rename_i hpk;have hdull:RVL (dullL (first++args++cap)) ((first'++args'++cap').map V.hand):=hall.qru qlu rfl;obtain ⟨x,N,wb,v,N',hkx,hr,hN,hlen,hfr,hev⟩:=hO.call _ _ _ _ _ _ _ _ (s.L++[s.B]) h hdull hs.M;split at hkx
    ·rename_i L B hsp;have hNe:=qg1 hsp;subst hNe;split at hkx
     ·rename_i hL;obtain ⟨L',B',rfl⟩:=qmc (M:=N') (n:=L.length) (by rw [hN.len];simp);have hL':L'.length=s.L.length:=by have:=hN.len;have:=hs.len;simp at *;omega
      refine ⟨x,_,v,{s with L:=L',B:=B'},hkx,(hev.and Ev.qji).imp λC ⟨hC,hCp⟩=>?_,hr,⟨hs.E,hN⟩,⟨λt ht=>ht,λq hq=>by simp [hq],λt ht=>.inl rfl,λt ht rs hE=>⟨rs,hE⟩,λq hq=>.inl ?_,λq hq hsm=>?_,hL',rfl⟩,rfl,rfl,hpure⟩
      ·refine ⟨?_,by simp only [qcA,qek,hCp]⟩;show qfQ C g (first'++args'++cap') s=_;unfold qfQ;rw [if_neg hp',hCp,if_neg hpk,hC];simp only [qg2,hL',if_true]
      ·rw [qR,qR];simp only [qo,not_or]at hq;exact (hfr q.lvl q.slot hq.1).1
      ·simp only [qo,not_or]at hq;obtain ⟨c,hc⟩:=Option.isSome_iff_exists.1 hsm;obtain ⟨c',hc'⟩:=(hfr q.lvl q.slot hq.1).2 c (qeJ hc);rw [qa7];show (match qav (L++[B]) q.lvl q.slot with
        |some (some c)=>some c
        |_=>none).isSome=true
       rw [hc'];rfl
     ·cases hkx
    ·cases hkx
  ·cases h
 ·rename_i q;simp only [RV]at hf;subst hf;obtain ⟨v,st',u,s',h1,h2,h3,h4,h5,h6,h7⟩:=qAl hO ha hs h;exact ⟨v,st',u,s',h1,h2.imp λC hC=>⟨hC,rfl⟩,h3,h4,h5,h6,h7,rfl⟩
 ·cases h
theorem qdX{x:TV}{ys:List V}(h:RVL [x] ys):∃v,ys=[v]/\RV x v:=by
 simp only [RVL]at h;obtain ⟨v,m,rfl,h1,rfl⟩:=h;exact ⟨v,rfl,h1⟩
def qyT(P:Program)(H:Hints)(f:FuncId)(o:Oper)(xs:List TV)(st:TSt)(R:Type)(k:TV->TSt->Fp->Option R):Option R :=
 if qkr o.op xs then qni P H f o xs st R k else match ql4 o.op xs with
  |none=>qda P H f (qan H f o) o.op xs none R λv c=>match c with
   |none=>k v st .none
   |some _=>none
  |some r=>if 16384<=r.slot then none else qda P H f (qan H f o) o.op xs (st.box r) R λv c=>match c with
   |none=>k v st (.root r (qct P o.op xs).1 (qct P o.op xs).2 false)
   |some c=>if (qwT o.op xs).all (λp=>decide (p.lvl<=r.lvl))&&decide ((qct P o.op xs).1+(qct P o.op xs).2<=c.length)then k v (st.qv r c) (.root r (qct P o.op xs).1 (qct P o.op xs).2 true)else none
theorem qvr{o:Oper}(h:qja o.op=true)(xs:List TV)(st:TSt)(R:Type)(k:TV->TSt->Fp->Option R):qmK P H J T O ctx f o xs st R k=qyT P H f o xs st R k:=by
 unfold qmK;split
 ·rename_i hop;rw [hop]at h;simp [qja]at h
 ·rename_i hop;rw [hop]at h;simp [qja]at h
 ·rename_i hop;rw [hop]at h;simp [qja]at h
 ·rfl
theorem qvq{o:Oper}{c:Call}{fo:Operand}(hop:o.op=.call c)(hc:c.callee=.value fo)(xs:List TV)(st:TSt)(R:Type)(k:TV->TSt->Fp->Option R) :
  qmK P H J T O ctx f o xs st R k=match xs with
   |fv::args=>if qri H fv args then qCj H O ctx o.dst fv args st R k else qpE H J T O ctx f (o.dst.getD 0) fv args st R λv s=>k v s (if qgG fv args then .none else if qek H fv then .looks else .all)
   |[]=>none:=by
 unfold qmK;obtain ⟨cal,a1,a2⟩:=c;simp only at hc;subst hc;simp only [hop];cases xs<;>rfl
theorem LR.push{M:List qT}{M':List Level}{b:qT}{b':Level}{d:Nat}{c:List TV}{c':List V}(h:LR (M++[b]) (M'++[b']))(hl:M'.length=M.length)(hd:q7 b d=none)(hc:RC c c')(hmp:d<16384->qhq c'=false):LR (M++[(d,some c)::b]) (M'++[qcu d c' b']):=by
 have hkey:∀k,RB (q7 b k) (qD b' k):=λk=>by
  have:=h.rel M.length k;unfold qav qaC at this;rw [List.getElem?_append_right (Nat.le_refl _),<- hl,List.getElem?_append_right (Nat.le_refl _)]at this;simpa using this
 have hnone:qD b' d=none:=by
  have h2:=hkey d;rw [hd]at h2;exact h2
 refine ⟨by simp [hl],λl k=>?_,λq hq=>?_,λl k c2 h2 hlt=>?_⟩
 rotate_right
 ·have key:=h.mp l k;unfold qaC at key h2;by_cases e:l<M'.length
  ·rw [qk e]at key h2;exact key c2 h2 hlt
  ·rw [List.getElem?_append_right (by omega)]at key h2;cases hm:l-M'.length with
   |zero =>
    rw [hm]at key h2;simp only [List.getElem?_cons_zero]at key h2;by_cases e2:d=k
    ·subst e2;rw [qiI hnone]at h2;simp only [if_true,qe]at h2;subst h2;exact hmp hlt
    ·rw [qb0 e2]at h2;exact key c2 h2 hlt
   |succ n=>rw [hm]at h2;simp at h2
 ·have key:=h.rel l k;unfold qav qaC at key ⊢;by_cases e:l<M.length
  ·rw [qk e,qk (by omega)]at key ⊢;exact key
  ·rw [List.getElem?_append_right (by omega),List.getElem?_append_right (by omega),hl]at key ⊢;cases hm:l-M.length with
   |zero =>
    simp only [List.getElem?_cons_zero];by_cases e2:d=k
    ·subst e2;simp only [q7,qiI hnone,if_true];exact ⟨c',rfl,hc⟩
    ·simp only [q7,qb0 e2,if_neg e2];exact hkey k
   |succ n=>simp [RB]
 ·simp only [qo,List.mem_singleton]at hq;rcases hq with hq|rfl
  ·exact h.nd q (by simp [hq])
  ·exact qpY hnone (h.nd b' (by simp))
theorem qfl{st:TSt}{s:St}(hs:Rst st s){d:Nat}(h:q7 st.B d=none):qD s.B d=none:=by
 have:=hs.M.rel st.L.length d;unfold qav qaC at this;have e1:st.all[st.L.length]?=some st.B:=by simp [TSt.all]
 have e2:(qdi s)[st.L.length]?=some s.B:=by rw [<- hs.len];simp [qdi]
 rw [e1,e2]at this;simp only at this;rw [h]at this;exact this
theorem qoH{st:TSt}{s:St}(hs:Rst st s){d:Nat}{c:List TV}{c':List V}(hd:q7 st.B d=none)(hc:RC c c')(hmp:d<16384->qhq c'=false) :
  Rst {st with B:=(d,some c)::st.B,Wb:=⟨st.L.length,d⟩::st.Wb} {s with B:=qcu d c' s.B}/\Fr2 st {st with B:=(d,some c)::st.B,Wb:=⟨st.L.length,d⟩::st.Wb} s {s with B:=qcu d c' s.B}:=by
 refine ⟨⟨hs.E,LR.push hs.M hs.len hd hc hmp⟩,⟨λt ht=>ht,λr hr=>by simp [hr],λt ht=>.inl rfl,λt ht rs hE=>⟨rs,hE⟩,λr hr=>.inl ?_,λr hr hsm=>?_,rfl,rfl⟩⟩
 case refine_2 =>
  simp only [qp,not_or]at hr;obtain ⟨l,sl⟩:=r;unfold TSt.cont at hsm ⊢;simp only at hsm ⊢;by_cases e:l=st.L.length
  ·rw [if_pos e]at hsm ⊢;have:d≠sl:=λe2=>hr.1 (by rw [e2,e]);simp only [q7,if_neg this];exact hsm
  ·rw [if_neg e]at hsm ⊢;exact hsm
 simp only [qp,not_or]at hr;obtain ⟨l,sl⟩:=r;rw [qR,qR];unfold qaC qdi;simp only
 have hlen:=hs.len;by_cases e:l<s.L.length
 ·rw [qk e,qk e]
 ·rw [List.getElem?_append_right (by omega),List.getElem?_append_right (by omega)];cases hm:l-s.L.length with
  |zero =>
   simp only [List.getElem?_cons_zero];have:d≠sl:=λe2=>hr.1 (by rw [e2];congr 1;omega);rw [qb0 this]
  |succ n=>simp
theorem qis(st:TSt)(r:Root)(c:List TV):(st.qv r c).E=st.E/\(st.qv r c).Wt=st.Wt/\(st.qv r c).Wb=r::st.Wb/\(st.qv r c).L.length=st.L.length:=by
 unfold TSt.qv;split<;>simp
theorem qeD(s:St)(r:Root)(c:List V):(s.qv r c).E=s.E/\(s.qv r c).L.length=s.L.length:=by
 unfold St.qv;split<;>simp
theorem qio{st:TSt}{s:St}(hs:Rst st s){r:Root}{c0 c:List TV}{c':List V}(hb:st.box r=some c0)(hc:RVL c c')(hmp:r.slot<16384->qhq c'=false):Rst (st.qv r c) (s.qv r c')/\Fr2 st (st.qv r c) s (s.qv r c'):=by
 obtain ⟨e1,e2,e3,e4⟩:=qis st r c;obtain ⟨e5,e6⟩:=qeD s r c';refine ⟨⟨by rw [e1,e5];exact hs.E,?_⟩,⟨λt ht=>by rw [e2];exact ht,λq hq=>by rw [e3];simp [hq],λt ht=>.inl (by rw [e5]),λt ht rs hE=>⟨rs,by rw [<- e1];exact hE⟩,λq hq=>.inl ?_,λq hq hsm=>qit st r c q hsm,e6,by rw [e5]⟩⟩
 ·rw [qj0,qqy];exact LR.qv hs.M _ _ (by rw [qq3 hb];simp) hc.rc hmp
 ·rw [e3]at hq;simp only [qp,not_or]at hq;rw [q8,if_neg hq.1]
theorem qwa{x:V}(h:x.oks=true):qhq x.cells=false:=by
 unfold V.oks at h;cases hc:x.cells with
 |nil=>rfl
 |cons y l =>
  rw [hc]at h;simp only [List.all_cons,qi]at h;cases y<;>first|rfl|(simp [V.one]at h)
theorem qgp{x:V}{l m:List V}:qhq (x::l)=qhq (x::m):=by cases x<;>rfl
theorem qnV{cs ys:List V}{off:Nat}(h1:qhq cs=false)(h2:off=0\/cs=[]->qhq ys=false):qhq (qV cs off ys)=false:=by
 unfold qV;cases off with
 |zero =>
  simp only [List.take_zero,List.nil_append,Nat.zero_add];cases ys with
  |nil=>simpa using h1
  |cons y l=>rw [List.cons_append,qgp (m:=l)];exact h2 (.inl rfl)
 |succ n =>
  cases cs with
  |nil=>simpa using h2 (.inr rfl)
  |cons c l=>simp only [List.take_succ_cons,List.cons_append];rw [qgp (m:=l)];exact h1
theorem quL{g:Fl->Fl}{l:List V}(h:qhq l=false):qhq (reflagL g l)=false:=by
 cases l with
 |nil=>rfl
 |cons x l=>cases x with
  |mp=>simp [qhq]at h
  |room s n =>
   simp only [reflagL,V.reflag];by_cases h1:g .own=.own
   ·rw [if_pos h1];rfl
   ·rw [if_neg h1];by_cases h2:n=0
    ·rw [if_pos h2];rfl
    ·rw [if_neg h2];rfl
  |_=>rfl
theorem qBT{tk:Bool}{o:Op}{ty:TypeId}{ys:List V}{q:Root}{bx:Option (List V)}{u:V}{c':List V}(hr:rootOf o ys=some q)(hb:∀c,bx=some c->qhq c=false)
  (h:qa6 P H f tk o ty ys bx=some (u,some c')):qhq c'=false:=by
 obtain ⟨off,rest,rfl,⟨t,a,rfl⟩|⟨t,a,x,rfl⟩⟩:=qb6 hr
 ·cases rest with
  |nil =>
   simp only [qa6]at h;split at h
   ·rename_i cs;split at h
    ·cases h
    ·split at h
     ·obtain ⟨y,_,he⟩:=qf.1 h;cases he;refine qnV (hb cs rfl) λh0=>quL ?_;have h9:=hb cs rfl;cases cs with
      |nil=>simp [qhq]
      |cons c l =>
       rcases h0 with h0|h0
       ·subst h0;simp only [List.drop_zero];cases (if qY P t=true then P.cellsOf t else 1)with
        |zero=>rfl
        |succ n=>simp only [List.take_succ_cons];rw [qgp (m:=l)];exact h9
       ·cases h0
     ·obtain ⟨y,_,he⟩:=qf.1 h;cases he
   ·cases h
  |cons y l=>simp [qa6]at h
 ·match rest,h with
  |[y],h =>
   simp only [qa6]at h;split at h
   ·rename_i cs;split at h
    ·rename_i hc;simp only [qe,Prod.mk.injEq]at h;obtain ⟨_,rfl⟩:=h;exact qnV (hb _ rfl) λ_=>qwa hc.2.2.2.2
    ·cases h
   ·cases h
  |[],h=>simp [qa6]at h
  |_::_::_,h=>simp [qa6]at h
theorem qxm{op:Op}{xs:List TV}{ys:List V}(hx:RVL xs ys)(h:qkr op xs=true):qdm op ys=true:=by
 unfold qkr at h;split at h
 ·rfl
 ·rfl
 ·rfl
 ·rfl
 ·simp only [RVL]at hx;obtain ⟨v,m,rfl,h1,rfl⟩:=hx;simp only [RV]at h1;subst h1;rfl
 ·cases h
theorem qxn{op:Op}{xs:List TV}{ys:List V}(hx:RVL xs ys)(hn:¬ qkr op xs=true)(hm:qdm op ys=true) :
  ql4 op xs=none/\∀tk bx (R:Type) (k:TV->Option (List TV)->Option R),qda P H f tk op xs bx R k=none:=by
 unfold qdm at hm;split at hm
 ·exact absurd rfl hn
 ·exact absurd rfl hn
 ·exact absurd rfl hn
 ·exact absurd rfl hn
 ·rename_i args argTypes q
  match xs,hx with
  |[x],hx =>
   obtain ⟨v,hv,hr⟩:=qdX hx;cases hv;cases x with
   |any rs=>exact ⟨rfl,λ_ _ _ _=>rfl⟩
   |mref r=>exact absurd rfl hn
   |t τ o x=>cases τ<;>simp [RV,RTy]at hr
   |_=>simp [RV]at hr
  |[],hx=>simp [RVL]at hx
  |x::y::l,hx =>
   have:=hx.length;simp at this
 ·cases hm
theorem quZ{o:Oper}{xs:List TV}{ys:List V}{st:TSt}{s:St}{R:Type}{k:TV->TSt->Fp->Option R}{r:R}(hx:RVL xs ys)(hs:Rst st s)(h:qni P H f o xs st R k=some r) :
  ∃v st' fp u s',k v st' fp=some r/\mapStep P H f o ys s=some (u,s',fp)/\RV v u/\Rst st' s'/\Fr2 st st' s s'/\st'.E=st.E/\s'.E=s.E:=by
 have hset:∀{q:Root} {τ:Ty} {o':Nat} {l:List τ.den},st.box q=some [.t (.mset τ) o' l]->qhX τ=true/\s.box q=some [.mp (kvs τ l)]/\¬ q.slot<16384:=λ{q τ o' l} hb=>by
  obtain ⟨c',hc',hr⟩:=hs.box hb;obtain ⟨v,rfl,hv⟩:=qdX hr;simp only [RV,RTy]at hv;obtain ⟨hk,rfl⟩:=hv;refine ⟨hk,hc',λhlt=>?_⟩;have:=hs.M.mp q.lvl q.slot _ (by rw [<- qR];exact hc') hlt;simp [qhq]at this
 unfold qni at h;split at h
 ·-- make
  rename_i t ro hop;split at h
  ·rename_i d kt vt hd hu;split at h
   ·rename_i τ hτ;split at h
    ·rename_i hc;obtain ⟨hn,hk,hci⟩:=hc;have hn':q7 st.B (qag d)=none:=by simpa using hn
     have hrv:RVL [.t (.mset τ) 0 []] [.mp []]:=qC.2 ⟨by simp [RV,RTy,hk],qak⟩;obtain ⟨hR,hF⟩:=qoH hs hn' (RVL.rc hrv) (λhlt=>absurd hlt (by unfold qag;omega));refine ⟨_,_,_,.mref ⟨s.L.length,qag d⟩,_,h,?_,by simp [RV,hs.len],hR,hF,rfl,rfl⟩;have hci':qlA ys=true:=by
      unfold qnR at hci;split at hci
      ·simp only [RVL]at hx;subst hx;rfl
      ·obtain ⟨v,rfl,hv⟩:=qdX hx;simp only [RV,RTy]at hv;subst hv;rfl
      ·cases hci
     unfold mapStep;simp only [hop,hd,hu];rw [if_pos ⟨by rw [qfl hs hn'];rfl,hci'⟩,hs.len]
    ·cases h
   ·cases h
  ·cases h
 ·-- look up
  rename_i t mo ko ok hop;split at h
  ·rename_i q x;split at h
   ·rename_i τ o' l kt vt hb hu;split at h
    ·rename_i hf;split at h
     ·rename_i o2 y hz hy;obtain ⟨v1,m1,rfl,hv1,hx⟩:=(by simpa only [RVL]using hx:∃v m,ys=v::m/\RV (.mref q) v/\∃v' m',m=v'::m'/\RV x v'/\m'=[])
      obtain ⟨v2,m2,rfl,hv2,rfl⟩:=hx;simp only [RV]at hv1;subst hv1;obtain ⟨hk,hbs,_⟩:=hset hb;obtain ⟨u,hlk,hru⟩:=qzx (ok:=ok) (l:=l) hu hf hz hy hv2;refine ⟨_,_,_,u,s,h,?_,hru,hs,Fr2.refl _ _,rfl,rfl⟩;unfold mapStep;simp only [hop,hbs,hlk,qn]
     ·cases h
    ·cases h
   ·cases h
  ·cases h
 ·rename_i t mo ko xo hop;split at h
  ·rename_i q x ob;split at h
   ·rename_i τ o' l kt vt hb hu;split at h
    ·rename_i hf;split at h
     ·rename_i y hy;obtain ⟨v1,m1,rfl,hv1,hx⟩:=(by simpa only [RVL]using hx:∃v m,ys=v::m/\RV (.mref q) v/\∃v' m',m=v'::m'/\RV x v'/\∃v'' m'',m'=v''::m''/\RV (.t .bool ob true) v''/\m''=[])
      obtain ⟨v2,m2,rfl,hv2,hx⟩:=hx;obtain ⟨v3,m3,rfl,hv3,rfl⟩:=hx;simp only [RV]at hv1;subst hv1;obtain ⟨hk,hbs,hsl⟩:=hset hb;have hup:=qt8 (l:=l) hu hf hy hv2 (by simpa only [RV,RTy]using hv3);have hrv:RVL [.t (.mset τ) 0 (qDF τ l y)] [.mp (kvs τ (qDF τ l y))]:=qC.2 ⟨by simp only [RV,RTy];exact ⟨hk,rfl⟩,qak⟩;obtain ⟨hR,hF⟩:=qio hs hb hrv (λhlt=>absurd hlt hsl);refine ⟨_,_,_,.undef,_,h,?_,qcV [],hR,hF,(qis _ _ _).1,(qeD _ _ _).1⟩;unfold mapStep;simp only [hop,hbs,hup,qn]
     ·cases h
    ·cases h
   ·cases h
  ·cases h
 ·rename_i t mo ko xo hop;split at h
  ·rename_i q x ob;split at h
   ·rename_i τ o' l kt vt hb hu;split at h
    ·rename_i hf;split at h
     ·rename_i y hy;obtain ⟨v1,m1,rfl,hv1,hx⟩:=(by simpa only [RVL]using hx:∃v m,ys=v::m/\RV (.mref q) v/\∃v' m',m=v'::m'/\RV x v'/\∃v'' m'',m'=v''::m''/\RV (.t .bool ob true) v''/\m''=[])
      obtain ⟨v2,m2,rfl,hv2,hx⟩:=hx;obtain ⟨v3,m3,rfl,hv3,rfl⟩:=hx;simp only [RV]at hv1;subst hv1;obtain ⟨hk,hbs,hsl⟩:=hset hb;have hup:=qt8 (l:=l) hu hf hy hv2 (by simpa only [RV,RTy]using hv3);have hrv:RVL [.t (.mset τ) 0 (qDF τ l y)] [.mp (kvs τ (qDF τ l y))]:=qC.2 ⟨by simp only [RV,RTy];exact ⟨hk,rfl⟩,qak⟩;obtain ⟨hR,hF⟩:=qio hs hb hrv (λhlt=>absurd hlt hsl);refine ⟨_,_,_,.undef,_,h,?_,qcV [],hR,hF,(qis _ _ _).1,(qeD _ _ _).1⟩;unfold mapStep;simp only [hop,hbs,hup,qn]
     ·cases h
    ·cases h
   ·cases h
  ·cases h
 ·rename_i args argTypes hop;split at h
  ·rename_i q;split at h
   ·rename_i τ o' l kt vt hb hu;split at h
    ·rename_i hm;obtain ⟨v,rfl,hv⟩:=qdX hx;simp only [RV]at hv;subst hv;obtain ⟨hk,hbs,_⟩:=hset hb;refine ⟨_,_,_,.val (.int .i64 (kvs τ l).length),s,h,?_,by simp [RV,RTy,kvs],hs,Fr2.refl _ _,rfl,rfl⟩;unfold mapStep;simp only [hop,hbs,hu,hm,if_true]
    ·cases h
   ·cases h
  ·cases h
 ·cases h
theorem qA6(hO:OOk P H lib O){d:Option Tmp}{fv:TV}{fv':V}{args:List TV}{args':List V}{st:TSt}{s:St}{R:Type}{k:TV->TSt->Fp->Option R}{r:R}
  (hf:RV fv fv') (ha:RVL args args') (hs:Rst st s) (h:qyJ O ctx d fv args st R k=some r) :
  ∃v st' fp u s',k v st' fp=some r/\Ev (λC=>qm2 C d fv' args' s=some (u,s',fp)) P H lib/\RV v u/\Rst st' s'/\Fr2 st st' s s'/\st'.E=st.E/\s'.E=s.E:=by
 unfold qyJ at h;split at h
 ·rename_i g first cap d;simp only [RV]at hf;obtain ⟨first',cap',rfl,hf1,hc1⟩:=hf;have hall:RVL (first++args++cap) (first'++args'++cap'):=(hf1.append ha).append hc1;split at h
  ·rename_i hc;simp only [qi,Option.isNone_iff_eq_none]at hc;obtain ⟨⟨⟨hk,hp⟩,htg⟩,hn⟩:=hc;have hpt:=RVL.ptrs_eq _ _ hk hall;have hp':(ptrsL (first'++args'++cap')).isEmpty=true:=by rw [hpt];exact hp
   have hl:=RVL.tight _ _ htg hall;have hshare:RVL (shareL (first++args++cap)) ((first'++args'++cap').map V.share):=by
    have:=RVL.share _ _ hall;rw [qaV]at this;exact this
   obtain ⟨x,τ,o,l,v,sl,hkx,hkt,hr,hom,hev⟩:=hO.born _ _ _ _ _ _ _ h hshare;have hrv:RVL [.t (.mset τ) o l] [.mp (kvs τ l)]:=qC.2 ⟨by simp only [RV,RTy];exact ⟨hkt,rfl⟩,qak⟩;obtain ⟨hR,hF⟩:=qoH hs hn (RVL.rc hrv) (λhlt=>absurd hlt (by unfold qag;omega));refine ⟨_,_,_,v.adopt ⟨s.L.length,qag d⟩,_,hkx,hev.imp λC hC=>?_,?_,hR,hF,rfl,rfl⟩
   ·unfold qm2;simp only [hC];rw [if_pos (by simp only [qi,Bool.not_eq_true',Option.isNone_iff_eq_none];exact ⟨⟨hp',hl⟩,qfl hs hn⟩),hs.len]
   ·rw [hs.len];exact (rv_adopt _ _ _ hom hr).1
  ·cases h
 ·cases h
theorem qxh{n:Nat}{q:Root}{c:List TV}(l sl:Nat):qav (qzd n q c) l sl=if l=q.lvl/\sl=q.slot/\l<n then some (some c)else none:=by
 unfold qav qzd;simp only [List.getElem?_map];by_cases hl:l<n
 ·rw [List.getElem?_range hl];simp only [qn];by_cases h1:l=q.lvl
  ·rw [if_pos h1];simp only [q7];by_cases h2:q.slot=sl
   ·rw [if_pos h2,if_pos ⟨h1,h2.symm,hl⟩]
   ·rw [if_neg h2,if_neg (λe=>h2 e.2.1.symm)]
  ·rw [if_neg h1,if_neg (λe=>h1 e.1)];rfl
 ·rw [List.getElem?_eq_none (by simp;omega),if_neg (λe=>hl e.2.2)];rfl
theorem qpV{n:Nat}{q:Root}{c:List V}(l sl:Nat):qaC (qly n q c) l sl=if l=q.lvl/\sl=q.slot/\l<n then some c else none:=by
 unfold qaC qly;simp only [List.getElem?_map];by_cases hl:l<n
 ·rw [List.getElem?_range hl];simp only [qn];by_cases h1:l=q.lvl
  ·rw [if_pos h1];simp only [qD];by_cases h2:q.slot=sl
   ·rw [if_pos h2,if_pos ⟨h1,h2.symm,hl⟩]
   ·rw [if_neg h2,if_neg (λe=>h2 e.2.1.symm)]
  ·rw [if_neg h1,if_neg (λe=>h1 e.1)];rfl
 ·rw [List.getElem?_eq_none (by simp;omega),if_neg (λe=>hl e.2.2)];rfl
theorem qzI(hO:OOk P H lib O){d:Tmp}{g:FuncId}{args:List TV}{args':List V}{q:Root}{st:TSt}{s:St}{R:Type}{k:TV->TSt->Option R}{r:R}
  (ha:RVL args args') (hs:Rst st s) (h:qzH O ctx d g args q st R k=some r) :
  ∃v st' u s',k v st'=some r/\Ev (λC=>qgN C g args' q s=some (u,s')) P H lib/\RV v u/\Rst st' s'/\Fr2 st st' s s'/\st'.E=st.E/\s'.E=s.E:=by
 unfold qzH at h;split at h
 ·rename_i τ o l hb;obtain ⟨c',hc',hcr⟩:=hs.box hb;obtain ⟨mv,rfl,hmv⟩:=qdX hcr;simp only [RV,RTy]at hmv;obtain ⟨hkt,rfl⟩:=hmv;have hsl:¬ q.slot<16384:=λhlt=>by
   have:=hs.M.mp q.lvl q.slot _ (by rw [<- qR];exact hc') hlt;simp [qhq]at this
  have hLR:LR (qzd (st.L.length+1) q [.t (.mset τ) o l]) (qly (s.L.length+1) q [.mp (l.map λx=>(qcX τ x,.bool true))]):=by
   refine ⟨by simp [qzd,qly,hs.len],λl' sl=>?_,λb hb'=>?_,λl' sl c hc hlt=>?_⟩
   ·rw [qxh,qpV,hs.len];split
    ·exact ⟨_,rfl,hcr⟩
    ·rfl
   ·unfold qly at hb';obtain ⟨x,_,rfl⟩:=List.mem_map.1 hb';split<;>simp
   ·rw [qpV]at hc;split at hc
    ·rename_i e;exact absurd (by rw [<- e.2.1];exact hlt) hsl
    ·cases hc
  have hdull:RVL (dullL args) (args'.map V.hand):=ha.qru qlu rfl;obtain ⟨x,N,wb,v,N',hkx,hr,hN,hlen,hfr,hev⟩:=hO.call _ _ _ _ _ _ _ _ _ h hdull hLR;split at hkx
  ·rename_i hc;simp only [qi,Bool.not_eq_true',List.isEmpty_iff]at hc;obtain ⟨⟨hkn,hp⟩,hown⟩:=hc;split at hkx
   ·rename_i τ' o' l' hlk;have hrel:=hN.rel q.lvl q.slot;rw [show qav N q.lvl q.slot=some (some [.t (.mset τ') o' l'])from hlk]at hrel;obtain ⟨c2,hc2,hcr2⟩:=hrel;obtain ⟨mv2,rfl,hmv2⟩:=qdX hcr2;have hmv2':=hmv2;simp only [RV,RTy]at hmv2';obtain ⟨hkt2,rfl⟩:=hmv2';obtain ⟨hR,hF⟩:=qio hs hb (qC.2 ⟨hmv2,qak⟩) (λhlt=>absurd hlt hsl);have hvo:v.owns=false:=by
     cases hvo:v.owns with
     |false=>rfl
     |true=>rw [RV.owns x v hr hvo]at hown;cases hown
    refine ⟨x,_,v,_,hkx,hev.imp λC hC=>?_,hr,hR,hF,(qis _ _ _).1,(qeD _ _ _).1⟩;unfold qgN;simp only [hc',hC];rw [if_pos (by rw [RV.ptrs_eq x v hkn hr,hp,hvo];rfl)];rw [show qEI N' q=qaC N' q.lvl q.slot from rfl,hc2]
   ·cases hkx
  ·cases hkx
 ·cases h
theorem qrh{fv:TV}{fv':V}{g:FuncId}{a b:List TV}(h:RV (.fn g a b) fv'):qs4 H fv'=(H.seq g).isSome:=by
 simp only [RV]at h;obtain ⟨a',b',rfl,_⟩:=h;rfl
theorem qD9{d:Option Tmp}{fv:TV}{fv':V}{args:List TV}{args':List V}{st:TSt}{s:St}{R:Type}{k:TV->TSt->Fp->Option R}{r:R}
  (hf:RV fv fv') (ha:RVL args args') (hs:Rst st s) (h:qF2 H d fv args st R k=some r) :
  ∃v st' fp u s',k v st' fp=some r/\Ev (λC=>qyn C d fv' args' s=some (u,s',fp)) P H lib/\RV v u/\Rst st' s'/\Fr2 st st' s s'/\st'.E=st.E/\s'.E=s.E:=by
 unfold qF2 at h;split at h
 ·rename_i g first cap d;simp only [RV]at hf;obtain ⟨first',cap',rfl,hf1,hc1⟩:=hf;have hall:RVL (first++args++cap) (first'++args'++cap'):=(hf1.append ha).append hc1;split at h
  ·rename_i o1 str o2 sep hl;rw [hl]at hall;simp only [RVL,RV,RTy]at hall;obtain ⟨_,_,hl',rfl,_,_,rfl,rfl,rfl⟩:=hall;split at h
   ·rename_i clos hc;split at h
    ·rename_i hn;rw [Option.isNone_iff_eq_none]at hn;have hrv:RVL [.t .str 0 str] [.val (.string ⟨str.toArray⟩)]:=qC.2 ⟨by simp only [RV,RTy],qak⟩;obtain ⟨hR,hF⟩:=qoH hs hn (RVL.rc hrv) (λ_=>rfl);refine ⟨_,_,_,.fn clos [] [.cptr .shared [.val (.string ⟨sep.toArray⟩)],.ptr ⟨s.L.length,d⟩ 0,.cptr .shared [.val (.int .i64 0)]],_,h,⟨1,λm hm=>?_⟩,?_,hR,hF,rfl,rfl⟩
     ·obtain ⟨m',rfl⟩:∃m',m=m'+1:=⟨m-1,by omega⟩
      unfold qyn;simp only [hl',qsj,hc];rw [if_pos (by rw [Option.isNone_iff_eq_none];exact qfl hs hn),hs.len]
     ·simp only [RV];exact ⟨[],_,rfl,qak,qC.2 ⟨by simp only [RV];exact ⟨.shared,_,rfl,by simp,λ_=>rfl,qC.2 ⟨by simp only [RV,RTy],qak⟩⟩,qC.2 ⟨by simp only [RV,hs.len],qC.2 ⟨by simp only [RV];exact ⟨.shared,_,rfl,by simp,λ_=>rfl,qC.2 ⟨by simp only [RV,RTy],qak⟩⟩,qak⟩⟩⟩⟩
    ·cases h
   ·cases h
  ·cases h
 ·cases h
theorem qkq{fv:TV}{fv':V}{g:FuncId}{a b:List TV}(h:RV (.fn g a b) fv'):qkp H fv'=H.born g:=by
 simp only [RV]at h;obtain ⟨a',b',rfl,_⟩:=h;rfl
theorem qCk(hO:OOk P H lib O){d:Option Tmp}{fv:TV}{fv':V}{args:List TV}{args':List V}{st:TSt}{s:St}{R:Type}{k:TV->TSt->Fp->Option R}{r:R}
  (hf:RV fv fv') (ha:RVL args args') (hs:Rst st s) (h:qCj H O ctx d fv args st R k=some r) :
  qjb H fv' args'=true/\∃v st' fp u s',k v st' fp=some r/\Ev (λC=>qi4 H C d fv' args' s=some (u,s',fp)) P H lib/\RV v u/\Rst st' s'/\Fr2 st st' s s'/\st'.E=st.E/\s'.E=s.E:=by
 unfold qCj at h;split at h
 ·rename_i hbn;have hb':qkp H fv'=true:=by
   cases fv<;>first|(simp [qnQ]at hbn;done)|(rw [qkq (fv:=.any []) hf];exact hbn)
  obtain ⟨v,st',fp,u,s',hk,hev,hr,hR,hF,e1,e2⟩:=qA6 hO hf ha hs h;refine ⟨by unfold qjb;rw [hb'];rfl,v,st',fp,u,s',hk,hev.imp λC hC=>?_,hr,hR,hF,e1,e2⟩;unfold qi4;rw [if_pos hb'];exact hC
 rename_i hbn;split at h
 ·rename_i hsq;have hb':qkp H fv'=false:=by
   cases fv<;>first|(simp [qs5]at hsq;done)|(rw [qkq (fv:=.any []) hf];simpa [qnQ]using hbn)
  have hs':qs4 H fv'=true:=by
   cases fv<;>first|(simp [qs5]at hsq;done)|(rw [qrh (fv:=.any []) hf];exact hsq)
  obtain ⟨v,st',fp,u,s',hk,hev,hr,hR,hF,e1,e2⟩:=qD9 (P:=P) (lib:=lib) hf ha hs h;refine ⟨by unfold qjb;rw [hs',hb'];rfl,v,st',fp,u,s',hk,hev.imp λC hC=>?_,hr,hR,hF,e1,e2⟩;unfold qi4;rw [if_neg (by rw [hb'];simp),if_pos hs'];exact hC
 ·rename_i hsq;split at h
  ·rename_i g first cap q hq;have hb':qkp H fv'=false:=by
    rw [qkq (fv:=.any []) hf];simpa [qnQ]using hbn
   have hs':qs4 H fv'=false:=by
    rw [qrh (fv:=.any []) hf];simpa [qs5]using hsq
   have hf':=hf;simp only [RV]at hf';obtain ⟨first',cap',rfl,hf1,hc1⟩:=hf';have hall:RVL (first++args++cap) (first'++args'++cap'):=(hf1.append ha).append hc1;have hkn:knownL (first++args++cap)=true:=by
    unfold qkN at hq;simp only at hq;split at hq
    ·assumption
    ·cases hq
   have hq':qh2 (.fn g first' cap') args'=some q:=by rw [qp7 hkn hall];exact hq
   obtain ⟨v,st',u,s',hk,hev,hr,hR,hF,e1,e2⟩:=qzI hO hall hs h;refine ⟨by unfold qjb;rw [hq'];simp,v,st',_,u,s',hk,hev.imp λC hC=>?_,hr,hR,hF,e1,e2⟩;unfold qi4;rw [if_neg (by rw [hb'];simp),if_neg (by rw [hs'];simp),hq'];simp only [hC,qn]
  ·cases h
theorem qyU{o:Oper}{xs:List TV}{ys:List V}{st:TSt}{s:St}{R:Type}{k:TV->TSt->Fp->Option R}{r:R}(hx:RVL xs ys)(hs:Rst st s)(h:qyT P H f o xs st R k=some r) :
  ∃v st' fp u s',k v st' fp=some r/\qd1 P H f o ys s=some (u,s',fp)/\RV v u/\Rst st' s'/\Fr2 st st' s s'/\st'.E=st.E/\s'.E=s.E:=by
 unfold qyT at h;split at h
 ·rename_i hmo;obtain ⟨v,st',fp,u,s',hk,hm,hr,hR,hF,e1,e2⟩:=quZ hx hs h;refine ⟨v,st',fp,u,s',hk,?_,hr,hR,hF,e1,e2⟩;unfold qd1;rw [if_pos (qxm hx hmo),hm]
 rename_i hmo;have hmo':¬ qdm o.op ys=true:=λhm=>by
  obtain ⟨h1,h2⟩:=qxn (P:=P) (H:=H) (f:=f) hx hmo hm;rw [h1]at h;simp only [h2]at h;cases h
 split at h
 ·rename_i hr;obtain ⟨z,c,u,c',hk,hsem,hrv,hbo⟩:=qt7 (ty:=o.type) (bx:=none) (bx':=none) hx True.intro (by simp) h;split at hk
  ·have hc':c'=none:=hbo;subst hc';have hr':rootOf o.op ys=none:=by
    cases ho:o.op<;>try rfl
    case load t a =>
     rw [ho]at h hr
     match xs,hx,h,hr with
     |[],hx,h,hr=>simp [qda]at h
     |[x],hx,h,hr =>
      obtain ⟨v,rfl,hv⟩:=qdX hx;cases x<;>simp only [qda]at h<;>try (cases h;done)
      simp only [RV]at hv;obtain ⟨_,l',rfl,_⟩:=hv;rfl
     |x::y::xs,hx,h,hr =>
      cases x<;>simp [qda]at h
    case store t a b =>
     rw [ho]at h hr
     match xs,hx,h,hr with
     |[],hx,h,hr=>simp [qda]at h
     |[x],hx,h,hr=>cases x<;>simp [qda]at h
     |[x,y],hx,h,hr =>
      cases x<;>simp only [qda]at h<;>try (cases h;done)
     |x::y::z::xs,hx,h,hr=>cases x<;>simp [qda]at h
   refine ⟨z,st,.none,u,s,hk,?_,hrv,hs,Fr2.refl _ _,rfl,rfl⟩;unfold qd1;rw [if_neg hmo',hr'];simp only [hsem]
  ·cases hk
 ·rename_i q hr;split at h
  ·cases h
  rename_i hslot;have hslot:q.slot<16384:=Nat.lt_of_not_le hslot;have hmpq:∀c,s.box q=some c->qhq c=false:=λc hc=>hs.M.mp q.lvl q.slot c (by rw [<- qR];exact hc) hslot;obtain ⟨z,c,u,c',hk,hsem,hrv,hbo⟩:=qt7 (ty:=o.type) hx (hs.bx q) hmpq h;have hshape:rootOf o.op ys=some q/\qam P o.op ys=qct P o.op xs/\(∀p∈qm3 o.op ys,p∈qwT o.op xs)/\(∀d,c=some d->∃c0,st.box q=some c0):=by
   cases ho:o.op<;>rw [ho]at hr<;>try (simp [ql4]at hr;done)
   case load t a =>
    rw [ho]at h
    match xs,hx,h,hr with
    |[],hx,h,hr=>simp [qda]at h
    |[x],hx,h,hr =>
     obtain ⟨v,rfl,hv⟩:=qdX hx;cases x<;>simp only [ql4]at hr<;>try (cases hr;done)
     cases hr;simp only [RV]at hv;subst hv;refine ⟨rfl,rfl,λp hp=>by simp [qm3]at hp,λd _=>?_⟩;simp only [qda]at h;split at h
     ·rename_i cs hcs;exact ⟨cs,hcs⟩
     ·cases h
    |x::y::xs,hx,h,hr=>cases x<;>simp [qda]at h
   case store t a b =>
    rw [ho]at h
    match xs,hx,h,hr with
    |[],hx,h,hr=>simp [qda]at h
    |[x],hx,h,hr=>cases x<;>simp [qda]at h
    |[x,y],hx,h,hr =>
     cases x<;>simp only [ql4]at hr<;>try (cases hr;done)
     cases hr;simp only [RVL]at hx;obtain ⟨v,m,rfl,hv,v2,m2,rfl,hv2,rfl⟩:=hx;simp only [RV]at hv;subst hv;simp only [qda]at h;split at h
     ·rename_i cs hcs;split at h
      ·rename_i hcond;obtain ⟨hcells,_⟩:=RV.cells hcond.2.2.2 hv2;refine ⟨rfl,?_,λp hp=>?_,λd _=>⟨cs,hcs⟩⟩
       ·simp only [qam,qct,hcells.length]
       ·simp only [qm3]at hp;simp only [qwT];exact RV.qx _ _ hv2 p hp
      ·cases h
     ·cases h
    |x::y::z::xs,hx,h,hr=>cases x<;>simp [qda]at h
  obtain ⟨hroot,hrange,hwp,hbx⟩:=hshape;split at hk
  ·have hc':c'=none:=hbo;subst hc';refine ⟨z,st,_,u,s,hk,?_,hrv,hs,Fr2.refl _ _,rfl,rfl⟩;unfold qd1;rw [if_neg hmo',hroot];simp only [hsem,hrange]
  ·rename_i d;obtain ⟨d',rfl,hd⟩:=hbo;split at hk
   ·rename_i hcond;obtain ⟨c0,hc0⟩:=hbx d rfl;obtain ⟨hR,hF⟩:=qio hs hc0 hd (λ_=>qBT hroot hmpq hsem);refine ⟨z,_,_,u,s.qv q d',hk,?_,hrv,hR,hF,(qis st q d).1,(qeD s q d').1⟩;unfold qd1;rw [if_neg hmo',hroot];simp only [hsem,hrange];rw [if_pos];simp only [qi,List.all_eq_true,decide_eq_true_eq]at hcond ⊢;exact ⟨λp hp=>hcond.1 p (hwp p hp),by rw [hd.length];exact hcond.2⟩
   ·cases hk
end
section
variable {P:Program} {H:Hints} {J:TH} {T:qsn} {O:TOrc} {lib:FuncId->Option (List V->Option V)} {f:FuncId} {ctx:List Tmp}
theorem qxo(p:Bool)(u:Value):qhq (ofConst p u).cells=false:=by
 have h0:∀u,qhq [qc7 p u]=false:=λu=>by
  unfold qc7;split
  ·unfold qfc;split<;>rfl
  ·rfl
 have h1:∀u,qhq (qc7 p u).cells=false\/(∃cs,u=.agg cs):=λu=>by
  unfold qc7;split
  ·left;unfold qfc;split<;>rfl
  ·left;rfl
 by_cases hu:∃cs,u=.agg cs
 ·obtain ⟨cs,rfl⟩:=hu;show qhq (cs.toList.map (qc7 p))=false;cases cs.toList with
  |nil=>rfl
  |cons x l=>rw [qm,qgp (m:=[])];exact h0 x
 ·have e:ofConst p u=qc7 p u:=by
   unfold ofConst;split
   ·exact absurd ⟨_,rfl⟩ hu
   ·rfl
  rw [e];rcases h1 u with h2|h2
  ·exact h2
  ·exact absurd h2 hu
theorem qnT{c:List V}(h:qat c=false):qat (c.map V.qeL)=false:=by
 match c with
 |[]=>rfl
 |x::l =>
  simp only [qm];unfold V.qeL;split
  ·rfl
  ·cases x<;>first|rfl|(simp [qat]at h)
theorem qs3{c:List V}(h:qhq c=false):qhq (c.map V.qeL)=false:=by
 match c with
 |[]=>rfl
 |x::l =>
  simp only [qm];unfold V.qeL;split
  ·rfl
  ·cases x<;>first|rfl|(simp [qhq]at h)
theorem qvC{ys:List V}:∀{p:Path} {v u:V},qsm ys p v=some u->∃c l,u=.sl .own c l:=by
 intro p v u h;unfold qsm at h;split at h
 ·cases h
 ·split at h
  ·split at h
   ·split at h
    ·split at h
     ·cases h;exact ⟨_,_,rfl⟩
     ·cases h
    ·split at h
     ·obtain ⟨z,_,rfl⟩:=qf.1 h;exact ⟨_,_,rfl⟩
     ·cases h
   ·cases h
  ·cases h
 ·cases h
theorem qBx{c:List V}{i:Nat}{u:V}(h:qhq c=false)(hu:qhq [u]=false):qhq (c.set i u)=false:=by
 cases c with
 |nil=>rfl
 |cons x l=>cases i with
  |zero=>rw [List.set_cons_zero,qgp (m:=[])];exact hu
  |succ n=>rw [List.set_cons_succ,qgp (m:=l)];exact h
theorem qAA(hT:TOk P H lib T)(hO:OOk P H lib O){o:Oper}{xs:List TV}{ys:List V}{st:TSt}{s:St}{R:Type}{k:TV->TSt->Fp->Option R}{r:R}(hx:RVL xs ys)(hs:Rst st s)
  (h:qmK P H J T O ctx f o xs st R k=some r) :
  ∃v st' fp u s',k v st' fp=some r/\Ev (λC=>qbE P H C f o ys s=some (u,s',fp)) P H lib/\RV v u/\Rst st' s'/\Fr2 st st' s s'/\st'.E=st.E/\s'.E=s.E:=by
 rcases qf6 o.op with ⟨t,hop⟩|⟨t,a,hop⟩|⟨c,fo,hop,hc⟩|hd
 ·unfold qmK at h;simp only [hop]at h;split at h
  ·rename_i d z hd hz;split at h
   ·rename_i hn;have hn':q7 st.B d=none:=by simpa using hn
    obtain ⟨z',hz',_,hcz⟩:=qiZ hz;have hmz:qhq z'.cells=false:=by
     obtain ⟨i,u,_,_,rfl⟩:=qd0 hz';exact qxo _ u
    obtain ⟨hR,hF⟩:=qoH hs hn' (RVL.rc hcz) (λ_=>hmz);refine ⟨_,_,_,.ptr ⟨s.L.length,d⟩ 0,_,h,.of λC=>?_,by simp [RV,hs.len],hR,hF,rfl,rfl⟩;unfold qbE;simp only [hop,hd,hz'];rw [if_pos (by rw [qfl hs hn'];rfl),hs.len]
   ·cases h
  ·cases h
 ·unfold qmK at h;simp only [hop]at h;split at h
  ·rename_i d x hd;split at h
   ·rename_i hn;have hn':q7 st.B d=none:=by simpa using hn.1
    obtain ⟨v,rfl,hv⟩:=qdX hx;obtain ⟨hcells,hok⟩:=RV.cells hn.2.2 hv;obtain ⟨hR,hF⟩:=qoH hs hn' (RVL.rc hcells) (λ_=>qwa hok);refine ⟨_,_,_,.ptr ⟨s.L.length,d⟩ 0,_,h,.of λC=>?_,by simp [RV,hs.len],hR,hF,rfl,rfl⟩;unfold qbE;simp only [hop,hd];rw [if_pos ⟨by rw [qfl hs hn'];rfl,by rw [hcells.length];exact hn.2.1,hok⟩,hs.len]
   ·cases h
  ·cases h
 ·rw [qvq hop hc]at h;cases xs with
  |nil=>cases h
  |cons fv args =>
   simp only [RVL]at hx;obtain ⟨fv',args',rfl,hfv,ha⟩:=hx;simp only at h;cases hbn:qri H fv args with
   |true =>
    rw [if_pos hbn]at h;obtain ⟨hb',v,st',fp,u,s',hk,hev,hr,hR,hF,e1,e2⟩:=qCk hO hfv ha hs h;refine ⟨v,st',fp,u,s',hk,hev.imp λC hC=>?_,hr,hR,hF,e1,e2⟩;rw [qbq hop hc];simp only [hb',if_true];exact hC
   |false =>
    rw [if_neg (by rw [hbn];simp)]at h;simp only [qri,Bool.or_eq_false_iff]at hbn;have hb':qjb H fv' args'=false:=by
     have h':=h;unfold qpE at h';split at h'
     ·rename_i g first cap;split at h'
      ·rename_i hkn;have hbn1:qkp H fv'=false:=by rw [qkq (fv:=.any []) hfv];exact hbn.1
       have hbn2:qs4 H fv'=false:=by rw [qrh (fv:=.any []) hfv];exact hbn.2.1
       have hf':=hfv;simp only [RV]at hf';obtain ⟨first',cap',rfl,hf1,hc1⟩:=hf';unfold qjb;rw [hbn1,hbn2,qp7 hkn ((hf1.append ha).append hc1),hbn.2.2];rfl
      ·cases h'
     ·have hf':=hfv;simp only [RV]at hf';subst hf';rfl
     ·cases h'
    obtain ⟨v,st',u,s',hk,hev,hr,hR,hF,e1,e2,hp⟩:=qsB hT hO hfv ha hs h;refine ⟨v,st',_,u,s',hk,hev.imp λC hC=>?_,hr,hR,hF,e1,e2⟩;rw [qbq hop hc];obtain ⟨hC,hlk⟩:=hC;simp only [hb',qj,if_false,hC,qn];rw [<- hp,hlk]
 ·rw [qvr hd]at h;obtain ⟨v,st',fp,u,s',hk,hm,hr,hR,hF,e1,e2⟩:=qyU hx hs h;exact ⟨v,st',fp,u,s',hk,.of λC=>by rw [qaa hd];exact hm,hr,hR,hF,e1,e2⟩
theorem qxf{E:Env}{E':List V}(h:RVL E.toL E')(t:Nat):RV (E.get t) (E'.getD t .undef):=by rw [qnd];exact h.getD t
theorem qB7{o:Oper}{E:Env}{E':List V}(h:RVL E.toL E')(x:Operand):RV (rdT H f o E x) (rd H f o E' x):=by
 cases x with
 |tmp t =>
  simp only [rdT,rd];split
  ·exact qxf h t
  ·exact (qxf h t).qai
 |const v=>exact qwC _ _
 |global g=>exact qcV []
 |func g=>simp [rdT,rd,RV,RVL]
theorem qC2{o:Oper}{E:Env}{E':List V}(h:RVL E.toL E'):∀l:List Operand,RVL (l.map (rdT H f o E)) (l.map (rd H f o E'))
 |[]=>qak
 |x::l=>qC.2 ⟨qB7 h x,qC2 h l⟩
theorem qkf:∀(ts:List Tmp) {E:Env} {E':List V},RVL E.toL E'->RVL (qbZ E ts).toL (qI E' ts)
 |[],E,E',h=>h
 |t::ts,E,E',h=>by
  have h1:RVL (E.set t (E.get t).qai).toL (E'.modify t V.qai):=by
   rw [qqF];refine qfn (by simp [h.length]) λi x v hx hv=>?_;rw [List.getElem?_modify]at hx hv;obtain ⟨y,hy,rfl⟩:=qf.1 hx;obtain ⟨u,hu,rfl⟩:=qf.1 hv;obtain ⟨u2,hu2,hr⟩:=h.get hy;rw [hu]at hu2;cases hu2;by_cases e:t=i
   ·simp only [e,if_true];exact hr.qai
   ·simp only [if_neg e];exact hr
  exact qkf ts h1
theorem qsH{ts:List Tmp}{t:Nat}(h:t∉ts):∀E:List V,(qI E ts)[t]?=E[t]?:=by
 induction ts with
 |nil=>intro E;rfl
 |cons u ts ih =>
  intro E;simp only [qp,not_or]at h;have e:qI E (u::ts)=qI (E.modify u V.qai) ts:=rfl;rw [e,ih h.2,List.getElem?_modify];simp [Ne.symm h.1]
theorem quv(ts:List Tmp)(E:List V):(qI E ts).length=E.length:=qba ts E
theorem qig{st:TSt}{s:St}(hs:Rst st s)(d:Option Tmp){v:TV}{u:V}(hv:RV v u):Rst (st.put d v) (s.put d u)/\Fr2 st (st.put d v) s (s.put d u):=by
 cases d with
 |none=>exact ⟨hs,Fr2.refl _ _⟩
 |some t =>
  refine ⟨⟨by show RVL (st.E.set t v).toL _;rw [qeq];exact hs.E.set t hv,hs.M⟩,⟨λx hx=>by simp [TSt.put,hx],λr hr=>hr,λx hx=>.inl ?_,λx hx rs hE=>⟨rs,?_⟩,λr hr=>.inl rfl,λr hr h=>h,rfl,by simp [St.put]⟩⟩
  case refine_2 =>
   simp only [TSt.put,Mask.mem_ins,not_or]at hx;simp only [TSt.put,qeq]at hE
   rwa [List.getElem?_set_ne (Ne.symm hx.1)]at hE
  simp only [TSt.put,Mask.mem_ins,not_or]at hx;simp only [St.put];rw [List.getElem?_set_ne (Ne.symm hx.1)]
theorem qnD{E:Env}{E':List V}(h:RVL E.toL E'){ts:List Tmp}{t:Nat}(ht:t∉ts.filter (λt=>(E.get t).owns)):(qI E' ts)[t]?=E'[t]?:=by
 rw [qgo];split
 ·rename_i hm;have hno:(E.get t).owns=false:=by
   cases hh:(E.get t).owns with
   |false=>rfl
   |true=>exact absurd (List.mem_filter.2 ⟨hm,hh⟩) ht
  cases hv:E'[t]? with
  |none=>rfl
  |some v =>
   have hr:=qxf h t;rw [List.getD_eq_getElem?_getD (l:=E'),hv]at hr;simp only [qn,qe];refine dull_of_owns v ?_;cases ho:v.owns with
   |false=>rfl
   |true=>have:=RV.owns _ _ hr ho;rw [hno]at this;cases this
 ·rfl
theorem qBc{x:TV}{rs:List Root}(h:x.qai=.any rs):x=.any rs:=by
 cases x with
 |room a s=>rcases a with _|a<;>simp [TV.qai]at h
 |_=>simp_all [TV.qai]
theorem qgV:∀(T:List Tmp) (E:Env) (t:Nat) (rs:List Root),(qbZ E T).toL[t]?=some (.any rs)->∃rs',E.toL[t]?=some (.any rs')
 |[],E,t,rs,h=>⟨rs,h⟩
 |s::T,E,t,rs,h=>by
  have h':(qbZ (E.set s (E.get s).qai) T).toL[t]?=some (.any rs):=h;obtain ⟨rs',h1⟩:=qgV T _ t rs h';rw [qqF,List.getElem?_modify]at h1;cases hE:E.toL[t]? with
  |none=>rw [hE]at h1;cases h1
  |some x =>
   rw [hE]at h1;simp only [Option.map_eq_map,qn,qe]at h1;split at h1
   ·exact ⟨rs',by rw [qBc h1]⟩
   ·exact ⟨rs',by rw [h1]⟩
theorem qme(hT:TOk P H lib T)(hO:OOk P H lib O){o:Oper}{st:TSt}{s:St}{R:Type}{k:TSt->Fp->Option R}{r:R}(hs:Rst st s)(h:qjU P H J T O ctx f o st R k=some r) :
  ∃st' fp s',k st' fp=some r/\Ev (λC=>qe5 P H C f o s=some (s',fp)) P H lib/\Rst st' s'/\Fr2 st st' s s'/\∀t:Nat,t∉tmpsOf o->o.dst≠some t->s'.E[t]?=s.E[t]?:=by
 unfold qjU at h;split at h
 ·cases h
 ·rename_i hn;have hs1:Rst (if qan H f o=true then {st with E:=qbZ st.E (tmpsOf o),Wt:=Mask.ofList ((tmpsOf o).filter (λt=>(st.E.get t).owns))++st.Wt}else st) (if qan H f o=true then {s with E:=qI s.E (tmpsOf o)}else s) /\
    Fr2 st (if qan H f o=true then {st with E:=qbZ st.E (tmpsOf o),Wt:=Mask.ofList ((tmpsOf o).filter (λt=>(st.E.get t).owns))++st.Wt}else st) s (if qan H f o=true then {s with E:=qI s.E (tmpsOf o)}else s):=by
   split
   ·refine ⟨⟨qkf _ hs.E,hs.M⟩,⟨λt ht=>by simp [ht],λr hr=>hr,λt ht=>.inl ?_,λt ht rs hE=>?_,λr hr=>.inl rfl,λr hr h=>h,rfl,quv _ _⟩⟩
    ·simp only [Mask.mem_append,Mask.mem_ofList,not_or]at ht;exact qnD hs.E ht.1
    ·exact qgV _ _ _ _ hE
   ·exact ⟨hs,Fr2.refl _ _⟩
  obtain ⟨v,st',fp,u,s',hk,hev,hr,hR,hF,e1,e2⟩:=qAA hT hO (qC2 hs.E _) hs1.1 h;obtain ⟨hR2,hF2⟩:=qig hR o.dst hr;refine ⟨_,fp,_,hk,hev.imp λC hC=>?_,hR2,(hs1.2.trans hF).trans hF2,λt h1 h2=>?_⟩
  ·unfold qe5;rw [if_neg hn,hC];rfl
  ·have h3:(s'.put o.dst u).E[t]?=s'.E[t]?:=by
    unfold St.put;cases hd:o.dst with
    |none=>rfl
    |some d =>
     simp only
     rw [List.getElem?_set_ne];rintro rfl;exact h2 hd
   rw [h3,e2];split
   ·exact qsH h1 s.E
   ·rfl
theorem quG{ops:Array Oper}{o:Oper}{st:TSt}{s:St}{R:Type}{yes no:TSt->Option R}{r:R}(hs:Rst st s)(h:quF ops o st R yes no=some r) :
  ∃st1 b,qc1 ops s.E o=some b/\Rst st1 s/\Fr2 st st1 s s/\(if b then yes st1 else no st1)=some r:=by
 unfold quF at h;unfold qc1;split at h
 ·rename_i hg;rw [hg];exact ⟨st,true,rfl,hs,Fr2.refl _ _,h⟩
 ·rename_i j want hg;rw [hg];simp only
  split at h
  ·rename_i t ht;rw [ht];simp only
   split at h
   ·rename_i o' b hb;obtain ⟨v,hv,hr⟩:=hs.E.get (some_get hb (by simp));simp only [RV,RTy]at hr;subst hr;rw [hv];have hset:∀c,b=c->Rst ({st with E:=st.E.set t (.t .bool 0 c)}:TSt) s:=λc hc=>⟨by
     rw [qeq];refine qin hs.E t λu hu=>?_;rw [hv]at hu;cases hu;simp [RV,RTy,hc],hs.M⟩
    have hfr:∀c,Fr2 st ({st with E:=st.E.set t (.t .bool 0 c)}:TSt) s s:=λc=>⟨λx hx=>hx,λx hx=>hx,λx hx=>.inl rfl,λx hx rs hE=>⟨rs,by
     simp only [qeq,List.getElem?_set]at hE;split at hE
     ·split at hE<;>cases hE
     ·exact hE⟩,λx hx=>.inl rfl,λx hx h=>h,rfl,rfl⟩
    cases b with
    |true =>
     simp only [cond_true]at h;refine ⟨_,(true==want),rfl,hset true rfl,hfr true,?_⟩;cases want<;>exact h
    |false =>
     simp only [cond_false]at h;refine ⟨_,(false==want),rfl,hset false rfl,hfr false,?_⟩;cases want<;>exact h
   ·rename_i vs hb;obtain ⟨v,hv,hr⟩:=hs.E.get (some_get hb (by simp));simp only [RV]at hr;subst hr;rw [hv];split at h
    ·rename_i h0;exact ⟨st,false,by simp only [h0,if_true],hs,Fr2.refl _ _,h⟩
    ·cases h
   ·cases h
  ·cases h
def qjL(p:List (Int×Nat×Nat)):Path:=p.map λe=>(e.1.toNat,e.2.1,e.2.2)
theorem qzg{E:Env}{E':List V}(h:RVL E.toL E'){i:Operand}{n:Int}(hi:qsX E i=some n)(h0:0<=n):idxOf E' i=some n.toNat:=by
 cases i with
 |tmp t =>
  simp only [qsX]at hi;obtain ⟨k,hk⟩:=qo6 hi (qxf h t);simp only [idxOf,hk];exact qgA h0
 |const v =>
  simp only [qsX]at hi;split at hi
  ·cases hi;simp only [idxOf];exact qgA h0
  ·cases hi
 |_=>simp [qsX]at hi
theorem qiH{ops:Array Oper}{E:Env}{E':List V}(h:RVL E.toL E'):∀(n k:Nat) (d:Tmp) (rt:Rt) (p:List (Int×Nat×Nat)) (ptr:Bool),qg5 P H f ops E n k d=some (rt,p,ptr)->(∀e∈p,0<=e.1)->qbP P H f ops E' n k d=some (rt,qjL p,ptr):=by
 intro n;induction n with
 |zero=>intro k d rt p ptr hx;simp [qg5]at hx
 |succ n ih =>
  intro k d rt p ptr hx h0;simp only [qg5]at hx;simp only [qbP];split at hx
  ·rename_i hl;rw [if_pos hl];simp only [qe,Prod.mk.injEq]at hx;obtain ⟨rfl,rfl,rfl⟩:=hx;rfl
  ·rename_i hl;rw [if_neg hl];cases hc:qpi ops k d with
   |none=>rw [hc]at hx;cases hx
   |some c =>
    rw [hc]at hx;try simp only at hx ⊢
    cases hop:(ops[c]?).map Oper.op with
    |none=>rw [hop]at hx;cases hx
    |some op =>
     rw [hop]at hx;try simp only at hx ⊢
     split at hx
     ·rename_i a heq;cases heq;exact ih _ _ _ _ _ hx h0
     ·rename_i t a i heq;cases heq;try simp only
      split at hx
      ·rename_i r q j elem hq hj hu;simp only [qe,Prod.mk.injEq]at hx;obtain ⟨rfl,rfl,rfl⟩:=hx;rw [ih _ _ _ _ _ hq (λe he=>h0 e (by simp [he])),qzg h hj (h0 (j,0,P.cellsOf elem) (by simp)),hu];rfl
      ·cases hx
     ·rename_i t a fd heq;cases heq;try simp only
      split at hx
      ·rename_i r j o s q o' hq ho';simp only [qe,Prod.mk.injEq]at hx;obtain ⟨rfl,rfl,rfl⟩:=hx;rw [ih _ _ _ _ _ hq (λe he=>by
        rcases qp.1 he with rfl|he
        ·exact h0 (j,o+o',s) (by simp)
        ·exact h0 e (by simp [he])),ho']
       rfl
      ·cases hx
     ·rename_i t a heq;cases heq;try simp only
      split at hx
      ·cases hx
      ·rename_i hag;rw [if_neg hag];split at hx
       ·rename_i hla;rw [if_pos hla];split at hx
        ·rename_i r q hq;simp only [qe,Prod.mk.injEq]at hx;obtain ⟨rfl,rfl,rfl⟩:=hx;rw [ih _ _ _ _ _ hq h0]
        ·cases hx
       ·rename_i hla;rw [if_neg hla];split at hx
        ·rename_i r off hE;simp only [qe,Prod.mk.injEq]at hx;obtain ⟨rfl,rfl,rfl⟩:=hx;have:=qxf h a;rw [hE]at this;simp only [RV]at this;rw [this];rfl
        ·cases hx
     ·cases hx
theorem qxS{τ:Ty}(he:τ.qcq=true){o:Nat}{e:τ.den}{b:V}(hr:RTy τ o e b){cs:List TV}{cs':List V}(hc:RVL cs cs')(hlen:cs.length=τ.qbv)(h0:τ.qbv≠0):RV (qoM (ofTy τ o e) cs) (qd9 b cs'):=by
 have hd:∀(hone:τ.qbv=1),RV (cs.headD (.any [])) (cs'.headD .undef):=λ_=>by
  cases hc':cs with
  |nil=>rw [hc']at hlen;simp at hlen;omega
  |cons x l =>
   rw [hc']at hc;simp only [RVL]at hc;obtain ⟨v,m,rfl,h1,_⟩:=hc;exact h1
 cases τ with
 |int k=>simp only [RTy]at hr;subst hr;exact hd rfl
 |bool=>simp only [RTy]at hr;subst hr;exact hd rfl
 |str=>simp only [RTy]at hr;subst hr;exact hd rfl
 |flt=>simp only [RTy]at hr;obtain ⟨_,rfl,_⟩:=hr;exact hd rfl
 |cx=>simp only [RTy]at hr;obtain ⟨_,_,rfl,_⟩:=hr;exact hd rfl
 |err=>simp only [RTy]at hr;rcases hr with ⟨_,rfl⟩|⟨_,t9,rfl⟩<;>exact hd rfl
 |mset t=>simp [Ty.qcq]at he
 |sl t=>simp only [RTy]at hr;obtain ⟨f,c,l',rfl,_⟩:=hr;exact hd rfl
 |unit=>exact absurd rfl h0
 |pair a b' =>
  simp only [RTy]at hr;obtain ⟨v1,l,rfl,_⟩:=hr;simp only [ofTy,qoM,qd9,RV];exact ⟨cs',rfl,hc⟩
theorem qvJ{α β:Type}{R:α->β->Prop}{l:List α}{l':List β}(h:All2 R l l'):∀(i:Nat) {a:α} {b:β},R a b->All2 R (l.set i a) (l'.set i b):=by
 induction h with
 |nil=>intro i a b _;exact .nil
 |cons h1 h2 ih =>
  intro i a b hab;cases i with
  |zero=>exact .cons hab h2
  |succ i=>exact .cons h1 (ih i hab)
theorem qAW{ys:List TV}{ys':List V}(hy:RVL ys ys'):∀(p:List (Int×Nat×Nat)) (x:TV) (v:V) {R:Type} {k:TV->Option R} {r:R},qC9 ys p x R k=some r->RV x v ->
  (∀e∈p,0<=e.1)/\∃y u,k y=some r/\qsm ys' (qjL p) v=some u/\RV y u:=by
 intro p;induction p with
 |nil=>intro x v R k r h;unfold qC9 at h;cases h
 |cons q p ih =>
  obtain ⟨i,o,s⟩:=q;intro x v R k r h hx;by_cases hxs:∃τ lv l,x=.t (.sl τ) lv l
  ·obtain ⟨τ,lv,l,rfl⟩:=hxs;unfold qC9 at h;split at h
   ·rename_i hc;obtain ⟨hown,hcl,hs0,hok,hel⟩:=hc;obtain ⟨e,he,h⟩:=qh.1 h;obtain ⟨h0,hget⟩:=qne he;simp only [RV,RTy]at hx;obtain ⟨fl,c,l',rfl,hfl,hall⟩:=hx;have hf:fl=.own:=hfl.own hown;subst hf;obtain ⟨b,hb,hr⟩:=hall.get hget;obtain ⟨hbl,hbo⟩:=ql6 hel hr;have hcells:=(RV.cells (qrA hel (nx lv) e) (rv_ofTy τ (nx lv) e b hr)).1;have hcl2:(ofTy τ (nx lv) e).cells.length=τ.qbv:=by rw [<- hcells.length,hbl]
    have hn0:τ.qbv≠0:=by rw [hcl];exact hs0
    have hfin:∀(cs:List TV) (cs':List V) (e':τ.den),RVL cs cs'->cs.length=τ.qbv->qhm τ (nx lv) (qoM (ofTy τ (nx lv) e) cs)=some e' ->
      RV (.t (.sl τ) lv (l.set i.toNat e')) (.sl .own c (l'.set i.toNat (qd9 b cs'))):=λcs cs' e' hcs hlen has=>by
     have:=qdu _ _ _ _ _ has (qxS hel hr hcs hlen hn0);simp only [RV,RTy];exact ⟨.own,c,_,rfl,qfA hown,qvJ hall _ this⟩
    cases p with
    |nil =>
     simp only at h;split at h
     ·rename_i hle;split at h
      ·rename_i e' has;have hsp:=qk9 (off:=o) hcells hy;refine ⟨by simp [h0],_,_,h,?_,hfin _ _ e' hsp ?_ has⟩
       ·simp only [qjL,qm,List.map_nil,qsm];rw [hb];simp only
        rw [if_pos ⟨by rw [hbl,hcl],hbo⟩,if_pos (by rw [hy.length];exact hle)]
       ·rw [<- hsp.length,qb8 (by rw [hy.length,hbl,hcl];exact hle),hbl]
      ·cases h
     ·cases h
    |cons q2 p2 =>
     simp only at h;split at h
     ·rename_i z hz;obtain ⟨z',hz',hrz⟩:=hcells.get hz;obtain ⟨h1,y,u,hk,hupd,hyu⟩:=ih z z' h hrz;split at hk
      ·rename_i e' has;have hset:=hcells.set o hyu;refine ⟨λe he=>?_,_,_,hk,?_,hfin _ _ e' hset (by simp [hcl2]) has⟩
       ·rcases qp.1 he with rfl|he
        ·exact h0
        ·exact h1 e he
       ·have hpv:qjL ((i,o,s)::q2::p2)=(i.toNat,o,s)::qjL (q2::p2):=rfl;have hpn:qjL (q2::p2)=(q2.1.toNat,q2.2.1,q2.2.2)::qjL p2:=rfl;rw [hpv];rw [hpn]at hupd ⊢;unfold qsm;rw [hb];simp only
        rw [if_pos ⟨by rw [hbl,hcl],hbo⟩,hz'];simp only
        rw [hupd];rfl
      ·cases hk
     ·cases h
   ·cases h
  ·exfalso
   cases x with
   |t τ lv l =>
    cases τ with
    |sl τ=>exact hxs ⟨τ,lv,l,rfl⟩
    |_=>simp [qC9]at h
   |_=>simp [qC9]at h
theorem qD7{x:TV}{v:V}(h:RV x v):RV x.qeL v.qeL:=by
 unfold TV.qeL V.qeL;cases hf:x.firm with
 |true =>
  rw [RV.firm x v hf h];simpa using h
 |false =>
  simp only [qj,if_false];split
  ·exact qcV _
  ·simp only [RV];exact ⟨λr hr=>RV.qx x v h r hr,qaY (qC.2 ⟨h,qak⟩)⟩
theorem qk3:∀{l:List TV} {l':List V},RVL l l'->RVL (l.map TV.qeL) (l'.map V.qeL)
 |[],l',h=>by simp only [RVL]at h;subst h;exact qak
 |x::l,l',h=>by
  simp only [RVL]at h;obtain ⟨v,m,rfl,h1,h2⟩:=h;exact qC.2 ⟨qD7 h1,qk3 h2⟩
theorem qwD:∀{l:List TV} {l':List V},RVL l l'->l.all TV.firm=true->l'.map V.qeL=l'
 |[],l',h,_=>by simp only [RVL]at h;subst h;rfl
 |x::l,l',h,hf=>by
  simp only [RVL]at h;obtain ⟨v,m,rfl,h1,h2⟩:=h;simp only [List.all_cons,qi]at hf;simp only [qm];rw [qwD h2 hf.2];have:v.qeL=v:=by unfold V.qeL;rw [RV.firm x v hf.1 h1];rfl
  rw [this]
theorem qAx{E:Env}{i:Nat}{x:TV}(h:E.toL[i]?=some x)(hf:x.firm=false)(ha:x.isAny=false):i∈qEb E :=
 qBK (by simp [TV.isAny]) h (by simp [hf,ha])
theorem qk7:∀{b:qT} {k:Nat} {c:List TV},q7 b k=some (some c)->c.all TV.firm=false->(⟨0,k⟩:Root)∈qvn b
 |[],k,c,h,_=>by simp [q7]at h
 |(k',none)::b,k,c,h,hf=>by
  simp only [q7]at h;split at h
  ·cases h
  ·simp only [qvn];exact qk7 h hf
 |(k',some d)::b,k,c,h,hf=>by
  simp only [q7]at h;simp only [qvn];split at h
  ·rename_i e;cases h;rw [hf];simp [e]
  ·split
   ·exact qk7 h hf
   ·exact List.mem_cons_of_mem _ (qk7 h hf)
theorem qgy(s:Nat):∀b:qT,q7 (qzc b) s=(q7 b s).map (Option.map (List.map TV.qeL))
 |[]=>rfl
 |(k,c)::b=>by
  simp only [qzc,qm,q7];split
  ·rfl
  ·exact qgy s b
theorem qu1{x:TV}(h:x.isAny=true):∃rs,x=.any rs:=by cases x<;>first|exact ⟨_,rfl⟩|(simp [TV.isAny]at h)
def ql8(s:St)(T:List Tmp):St:={s with E:=(qI s.E T).map V.qeL,B:=qko s.B}
theorem qhJ{st:TSt}(hL:st.L=[])(r:Root):st.cont r=if r.lvl=0 then (match q7 st.B r.slot with|some (some c)=>some c|_=>none)else none:=by
 unfold TSt.cont;rw [hL];simp only [List.length_nil];by_cases h:r.lvl=0
 ·rw [if_pos h,if_pos h];cases q7 st.B r.slot with
  |none=>rfl
  |some o=>cases o<;>rfl
 ·rw [if_neg h,if_neg h];simp
theorem qiN{b:qT}(h:qoq b=true){k:Nat}{c:List TV}(hl:q7 b k=some (some c)):isRec c=false:=by
 unfold qoq at h;rw [List.all_eq_true]at h;have:=h _ (qdL hl);simpa using this
theorem ql9{st:TSt}{s:St}(h:Rst st s)(hL:st.L=[])(hn0:qoq st.B=true)(T:List Tmp):s.L=[]/\qha s.B=true/\Rst (st.qce T) (ql8 s T)/\Fr2 st (st.qce T) s (ql8 s T):=by
 have hL':s.L=[]:=List.eq_nil_of_length_eq_zero (by rw [h.len,hL];rfl);have hB:∀k,RB (q7 st.B k) (qD s.B k):=λk=>by
  have:=h.M.rel 0 k;unfold qav qaC at this;simpa [TSt.all,qdi,hL,hL']using this
 have hnd:(s.B.map (·.1)).Nodup:=h.M.nd s.B (by simp [qdi]);have hlp:∀k c,qD s.B k=some c->qat c=false:=λk c hc=>by
  have:=hB k;cases ht:q7 st.B k with
  |none=>rw [ht]at this;simp only [RB]at this;rw [this]at hc;cases hc
  |some o =>
   rw [ht]at this;cases o with
   |none=>exact this c hc
   |some d=>obtain ⟨d',hd',hr⟩:=this;rw [hc]at hd';cases hd';exact qaY (hr.rvl (qiN hn0 ht))
 have hE:=qkf T h.E;have hlen:(qI s.E T).length=s.E.length:=qba T s.E;have hfirmE:∀(t:Nat),t∉qEb (qbZ st.E T)->∀x v,(qbZ st.E T).toL[t]?=some x->(qI s.E T)[t]?=some v->x.firm=true\/∃rs,x=.any rs:=λt hts x v hx _=>by
  cases hf:x.firm with
  |true=>exact .inl rfl
  |false =>
   cases ha:x.isAny with
   |true=>exact .inr (qu1 ha)
   |false=>exact absurd (qAx hx hf ha) hts
 have hmap:((qbZ st.E T).quX λ_ v=>v.qeL).toL=(qbZ st.E T).toL.map TV.qeL:=by
  apply List.ext_getElem?;intro i;rw [qsc,List.getElem?_map]
 refine ⟨hL',?_,⟨by show RVL ((qbZ st.E T).quX λ_ v=>v.qeL).toL _;rw [hmap];exact qk3 hE,?_⟩,?_⟩
 ·unfold qha;rw [List.all_eq_true];rintro ⟨k,c⟩ hk;simp only [hlp k c (qgv hnd hk),Bool.not_false]
 ·refine ⟨by simp [TSt.all,qdi,TSt.qce,ql8,hL,hL'],λl k=>?_,λb hb=>?_,λl k c hc hlt=>?_⟩
  rotate_right
  ·unfold qaC at hc;simp only [qdi,ql8,hL',List.nil_append]at hc;cases l with
   |zero =>
    simp only [List.getElem?_cons_zero,qcQ]at hc;obtain ⟨c0,h1,rfl⟩:=qf.1 hc;exact qs3 (h.M.mp 0 k c0 (by unfold qaC;simpa [qdi,hL']using h1) hlt)
   |succ l=>simp at hc
  ·unfold qav qaC;simp only [TSt.all,qdi,TSt.qce,ql8,hL,hL',List.nil_append];cases l with
   |zero =>
    simp only [List.getElem?_cons_zero];rw [qgy,qcQ];have:=hB k;cases ht:q7 st.B k with
    |none=>rw [ht]at this;simp only [RB]at this;rw [this]<;>rfl
    |some o =>
     rw [ht]at this;cases o with
     |none =>
      simp only [qn,Option.map_none];intro c hc;obtain ⟨c0,h1,rfl⟩:=qf.1 hc;exact qnT (this c0 h1)
     |some d=>obtain ⟨d',hd',hr⟩:=this;rw [hd'];exact ⟨_,rfl,(qk3 (hr.rvl (qiN hn0 ht))).rc⟩
   |succ l=>simp [RB]
  ·simp only [qdi,ql8,hL',List.nil_append,List.mem_singleton]at hb;subst hb;simpa [qko,List.map_map,Function.comp_def]using hnd
 ·refine ⟨λt ht=>by simp [TSt.qce,ht],λr hr=>by simp [TSt.qce,hr],λt ht=>?_,λt ht rs hE'=>?_,λr hr=>?_,λr hr hsm=>?_,rfl,by simp [ql8,hlen]⟩
  ·simp only [TSt.qce,Mask.mem_append,Mask.mem_ofList,not_or]at ht;simp only [ql8,List.getElem?_map];have hEt:=qnD h.E ht.1;rw [hEt];cases hv:s.E[t]? with
   |none=>left;rfl
   |some v =>
    simp only [qn];have hv2:(qI s.E T)[t]?=some v:=by rw [hEt];exact hv
    have hxt:∃x,(qbZ st.E T).toL[t]?=some x:=by
     have hlt:t<(qbZ st.E T).toL.length:=by
      have:=(qq.1 hv2).1;rw [<- hE.length];exact this
     exact ⟨_,List.getElem?_eq_getElem hlt⟩
    obtain ⟨x,hx⟩:=hxt;rcases hfirmE t ht.2.1 x v hx hv2 with hf|⟨rs,rfl⟩
    ·left
     obtain ⟨v',hv',hr⟩:=hE.get hx;rw [hv2]at hv';cases hv';unfold V.qeL;rw [RV.firm x v hf hr];rfl
    ·unfold V.qeL;cases hs:v.soft with
     |false=>left;rfl
     |true =>
      right
      exact ⟨qgV _ _ _ _ hx,rfl⟩
  ·simp only [TSt.qce,Mask.mem_append,Mask.mem_ofList,not_or]at ht;simp only [TSt.qce,hmap,List.getElem?_map]at hE';obtain ⟨x,hx,hxa⟩:=qf.1 hE';obtain ⟨v,hv,_⟩:=hE.get hx;rcases hfirmE t ht.2.1 x v hx hv with hf|⟨rs',rfl⟩
   ·unfold TV.qeL at hxa;rw [hf]at hxa;simp only [if_true]at hxa;subst hxa;simp [TV.firm]at hf
   ·exact qgV _ _ _ _ hx
  ·simp only [TSt.qce,qo,not_or]at hr;rw [qe2 (st:=ql8 s T) hL',qe2 hL'];by_cases h0:r.lvl=0
   ·rw [if_pos h0,if_pos h0];simp only [ql8,qcQ];have:=hB r.slot;cases ht:q7 st.B r.slot with
    |none=>rw [ht]at this;simp only [RB]at this;rw [this];left;rfl
    |some o =>
     rw [ht]at this;cases o with
     |none =>
      right
      refine ⟨by rw [hL'];rfl,by rw [qhJ hL,if_pos h0,ht],by simp,λc hc=>?_⟩;obtain ⟨c0,h1,rfl⟩:=qf.1 hc;exact qnT (this c0 h1)
     |some d =>
      left
      obtain ⟨d',hd',hrr⟩:=this;rw [hd'];cases hf:d.all TV.firm with
      |true=>simp only [qn];rw [qwD (hrr.rvl (qiN hn0 ht)) hf]
      |false =>
       exfalso
       refine hr.1 ?_;have:=qk7 ht hf;obtain ⟨l,sl⟩:=r;simp only at h0 this;rw [h0];exact this
   ·rw [if_neg h0,if_neg h0];left;rfl
  ·rw [qhJ hL]at hsm;have hL2:(st.qce T).L=[]:=hL;rw [qhJ hL2];by_cases h0:r.lvl=0
   ·rw [if_pos h0]at hsm ⊢;simp only [TSt.qce,qgy];cases ht:q7 st.B r.slot with
    |none=>rw [ht]at hsm;cases hsm
    |some o =>
     rw [ht]at hsm;cases o with
     |none=>cases hsm
     |some d=>rfl
   ·rw [if_neg h0]at hsm;cases hsm
theorem qAy{st:TSt}{s:St}(h:Rst st s)(hL:st.L=[])(hn0:qoq st.B=true)(hB0:st.B.all (λp=>decide (p.1<16384))=true)(T:List Tmp):s.L=[]/\qtr s.B=true/\Rst (st.qce T) (ql8 s T)/\Fr2 st (st.qce T) s (ql8 s T):=by
 obtain ⟨hL',hnl,hR,hF⟩:=ql9 h hL hn0 T;refine ⟨hL',?_,hR,hF⟩;have hB:∀k,RB (q7 st.B k) (qD s.B k):=λk=>by
  have:=h.M.rel 0 k;unfold qav qaC at this;simpa [TSt.all,qdi,hL,hL']using this
 have hnd:(s.B.map (·.1)).Nodup:=h.M.nd s.B (by simp [qdi]);have hmp:∀k c,qD s.B k=some c->qhq c=false:=λk c hc=>by
  by_cases hlt:k<16384
  ·have h9:qaC (qdi s) 0 k=some c:=by unfold qaC;simpa [qdi,hL']using hc
   exact h.M.mp 0 k c h9 hlt
  ·have:=hB k;cases ht:q7 st.B k with
   |none=>rw [ht]at this;simp only [RB]at this;rw [this]at hc;cases hc
   |some o =>
    rw [List.all_eq_true]at hB0;have h9:=hB0 _ (qdL ht);simp only [decide_eq_true_eq]at h9;omega
 unfold qtr;unfold qha at hnl;rw [List.all_eq_true]at hnl ⊢;rintro ⟨k,c⟩ hk;have h1:=hnl _ hk;simp only [Bool.not_eq_true']at h1;simp only [qfj h1 (hmp k c (qgv hnd hk)),Bool.not_false]
theorem qD8{x:TV}{v:V}(h:RV x v):RV x.qeL v:=by
 unfold TV.qeL;split
 ·exact h
 ·simp only [RV];exact ⟨RV.qx x v h,qaY (qC.2 ⟨h,qak⟩)⟩
theorem qrX:∀{l:List TV} {l':List V},RVL l l'->RVL (l.map TV.qeL) l'
 |[],l',h=>h
 |x::l,l',h=>by
  simp only [RVL]at h;obtain ⟨v,m,rfl,h1,h2⟩:=h;exact qC.2 ⟨qD8 h1,qrX h2⟩
theorem qvo{st:TSt}{s:St}(h:Rst st s)(hL:st.L=[])(hn0:qoq st.B=true):Rst (st.qce []) s/\Fr2 st (st.qce []) s s:=by
 obtain ⟨hL',_,_,hf⟩:=ql9 h hL hn0 [];have hB:∀k,RB (q7 st.B k) (qD s.B k):=λk=>by
  have:=h.M.rel 0 k;unfold qav qaC at this;simpa [TSt.all,qdi,hL,hL']using this
 have hE:RVL (qbZ st.E []).toL s.E:=qkf [] h.E;have hmap:((qbZ st.E []).quX λ_ v=>v.qeL).toL=(qbZ st.E []).toL.map TV.qeL:=by
  apply List.ext_getElem?;intro i;rw [qsc,List.getElem?_map]
 refine ⟨⟨by show RVL ((qbZ st.E []).quX λ_ v=>v.qeL).toL _;rw [hmap];exact qrX hE,⟨by simp [TSt.all,qdi,TSt.qce,hL,hL'],λl k=>?_,h.M.nd,h.M.mp⟩⟩,⟨hf.wt,hf.wb,λ_ _=>.inl rfl,hf.an,λ_ _=>.inl rfl,hf.bn,rfl,rfl⟩⟩;unfold qav qaC;simp only [TSt.all,qdi,TSt.qce,hL,hL',List.nil_append];cases l with
 |zero =>
  simp only [List.getElem?_cons_zero];rw [qgy];have:=hB k;cases ht:q7 st.B k with
  |none=>rw [ht]at this;simp only [RB]at this;rw [this]<;>rfl
  |some o =>
   rw [ht]at this;cases o with
   |none=>exact this
   |some d=>obtain ⟨d',hd',hr⟩:=this;rw [hd'];exact ⟨_,rfl,(qrX (hr.rvl (qiN hn0 ht))).rc⟩
 |succ l=>simp [RB]
theorem qwW{xs:List Int}{o:Nat}{l:List V}(h:All2 (RTy (.int .i64) o) xs l):qnO l=some xs:=by
 induction h with
 |nil=>rfl
 |cons h1 _ ih =>
  simp only [RTy]at h1;subst h1;simp only [qnO,ih,qn]
theorem qnu(o:Nat):∀xs:List Int,All2 (RTy (.int .i64) o) xs (qdP xs)
 |[]=>.nil
 |x::xs=>.cons (by simp only [RTy]) (qnu o xs)
theorem qCz{F:List Int->Option (List Int)}{t:Tmp}{d:Option Tmp}{st:TSt}{s:St}{R:Type}{k:TSt->Option R}{r:R}(hs:Rst st s)(h:qEi F t d st R k=some r) :
  ∃st' s',k st'=some r/\qiX F t d s=some s'/\Rst st' s'/\Fr2 st st' s s':=by
 unfold qEi at h;split at h
 ·rename_i hLn;simp only [qi,List.isEmpty_iff]at hLn;obtain ⟨hL,hn0⟩:=hLn;split at h
  ·rename_i o xs hget;split at h
   ·rename_i ho;obtain ⟨ys,hys,hk⟩:=qh.1 h;obtain ⟨hL',hnl,hR1,hF1⟩:=ql9 hs hL hn0 [];have hrt:=qxf hs.E t;rw [hget]at hrt;simp only [RV,RTy]at hrt;obtain ⟨f,c,l',hv,hfl,hall⟩:=hrt;have hf:=hfl.own ho;subst hf;have hin:=qwW (o:=0) hall;have hnew:RV (.t (.sl (.int .i64)) o ys) (.sl .own c (qdP ys)):=by
     simp only [RV,RTy];exact ⟨.own,c,_,rfl,hfl,qnu 0 ys⟩
    have hand:RV (.any []) V.undef:=qcV [];cases hx:xs with
    |nil =>
     obtain ⟨hR0,hF0⟩:=qvo hs hL hn0;obtain ⟨hR2,hF2⟩:=qig hR0 (some t) hnew;obtain ⟨hR3,hF3⟩:=qig hR2 d hand;refine ⟨_,_,hk,?_,hR3,(hF0.trans hF2).trans hF3⟩;unfold qiX;rw [if_pos (by rw [hL',hnl];rfl),hv];simp only [hin,hys];rw [hx];rfl
    |cons x0 xs0 =>
     obtain ⟨hR2,hF2⟩:=qig hR1 (some t) hnew;obtain ⟨hR3,hF3⟩:=qig hR2 d hand;refine ⟨_,_,hk,?_,hR3,(hF1.trans hF2).trans hF3⟩;unfold qiX;rw [if_pos (by rw [hL',hnl];rfl),hv];simp only [hin,hys];rw [hx];rfl
   ·cases h
  ·cases h
 ·cases h
def qCG(h:Hole)(s:St):Prop:=∃c l' b,s.E[h.r]?=some (.sl .own c (l'.set h.j.toNat b))/\All2 (RTy h.τ (nx h.lv)) h.l l'/\b.cells=[b]/\b.oks=true/\(∀cs,qd9 b cs=cs.headD .undef)/\0<=h.j/\h.j.toNat<l'.length/\qbm h.lv=true
def qgP(h:Option Hole)(s:St):Prop:=∀x,h=some x->qCG x s
theorem qpW{s:St}:qgP none s:=λx h=>by cases h
theorem qwd{o:Oper}{hole:Option Hole}{s s':St}(h:qgP hole s)(hk:∀t:Nat,t∉tmpsOf o->o.dst≠some t->s'.E[t]?=s.E[t]?):qgP (qrn o hole) s':=by
 intro x hx;unfold qrn at hx;split at hx
 ·rename_i h0;split at hx
  ·cases hx
  ·rename_i hc;cases hx;simp only [not_or]at hc;obtain ⟨c,l',b,h1,h2⟩:=h x rfl;exact ⟨c,l',b,by rw [hk x.r (by simpa using hc.2) hc.1];exact h1,h2⟩
 ·cases hx
theorem qzp{o:Oper}{hole:Option Hole}{s:St}(h:qgP hole s)(v:V):qgP (qrn o hole) (s.put o.dst v) :=
 qwd h λt _ h2=>by
  unfold St.put;cases hd:o.dst with
  |none=>rfl
  |some d =>
   simp only
   rw [List.getElem?_set_ne];rintro rfl;exact h2 hd
theorem qBh{hole:Option Hole}{r0:Tmp}{p:List (Int×Nat×Nat)}{x:TV}{v:V}{st:TSt}{s sV:St}{R:Type}{k:TSt->Option R}{r:R}(hh:qgP hole sV)(hx:RV x v)(hs:Rst st s)(h:qBg hole r0 p x st R k=some r) :
  (∀e∈p,0<=e.1)/\∃st' y,k st'=some r/\qsm v.cells (qjL p) (sV.E.getD r0 .undef)=some y/\y.soft=false/\Rst st' (s.put (some r0) y)/\Fr2 st st' s (s.put (some r0) y):=by
 unfold qBg at h;split at h
 ·rename_i hl i;split at h
  ·rename_i hr0;subst hr0;split at h
   ·rename_i τ o y;split at h
    ·rename_i e he;cases hd:decide (i=hl.j)with
     |false=>rw [hd]at h;cases h
     |true =>
      rw [hd]at h;simp only [cond_true]at h;have hij:i=hl.j:=of_decide_eq_true hd;subst hij;split at h
      ·rename_i hf;obtain ⟨c,l',b,h1,h2,h3,h4,h5,h6,h7,h8⟩:=hh hl rfl;have hvc:v.cells=[v]:=by
        simp only [RV,RTy]at hx;obtain ⟨f,c,m,rfl,_⟩:=hx;rfl
       have hy:=qdu _ _ _ _ _ he hx;have hnew:RV (.t (.sl hl.τ) hl.lv (hl.l.set hl.j.toNat e)) (.sl .own c (l'.set hl.j.toNat v)):=by
        simp only [RV,RTy];exact ⟨.own,c,_,rfl,qfA h8,qvJ h2 _ hy⟩
       obtain ⟨hR2,hF2⟩:=qig hs (some hl.r) hnew;refine ⟨by simp [h6],_,_,h,?_,RV.firm _ _ hf hnew,hR2,hF2⟩;have hE:sV.E.getD hl.r .undef=.sl .own c (l'.set hl.j.toNat b):=by rw [List.getD_eq_getElem?_getD,h1];rfl
       rw [hE,hvc];simp only [qjL,qm,List.map_nil,qsm];have hg:(l'.set hl.j.toNat b)[hl.j.toNat]?=some b:=by rw [List.getElem?_set_self h7]
       rw [hg];simp only
       rw [if_pos ⟨by rw [h3];rfl,h4⟩,if_pos (by simp),h3,h5,List.set_set];simp [qV]
      ·cases h
    ·cases h
   ·cases h
  ·cases h
 ·cases h
theorem qE1{ops:Array Oper}{i:Nat}{o:Oper}{st:TSt}{s:St}{hole:Option Hole}{R:Type}{k:TSt->Option R}{r:R}(hs:Rst st s)(hh:qgP hole s)(h:lsT P H f ops i o st hole R k=some r) :
  ∃st' s',k st'=some r/\qje P H f ops i o s=some s'/\Rst st' s'/\Fr2 st st' s s':=by
 unfold lsT at h;split at h
 ·rename_i t d xo hop;simp only at h;split at h
  ·rename_i hc;simp only [qi,decide_eq_true_eq,List.isEmpty_iff]at hc;obtain ⟨⟨⟨⟨⟨⟨⟨⟨⟨hL,hn0⟩,hB0⟩,hdst⟩,hgd⟩,hnd⟩,hs0⟩,hxl⟩,hxo⟩,hxp⟩:=hc;obtain ⟨hL',hnl,hsoft,hfr⟩:=qAy hs hL hn0 hB0 (tmpsOf o);have hrx:=qB7 (H:=H) (f:=f) (o:=o) hs.E xo;obtain ⟨hcx,hox⟩:=RV.cells hxo hrx;have hpx:(rd H f o s.E xo).qx=[]:=by
    rw [List.eq_nil_iff_forall_not_mem];intro q hq;have:=RV.qx _ _ hrx q hq;rw [hxp]at this;cases this
   have hcond:(s.L.isEmpty&&qtr s.B&&o.dst.isNone&&o.guard.isNone&&qfI (tmpsOf o)&&decide (P.cellsOf t≠0)&&decide ((rd H f o s.E xo).cells.length=P.cellsOf t)&&(rd H f o s.E xo).oks&&(rd H f o s.E xo).qx.isEmpty)=true:=by
    simp only [qi,decide_eq_true_eq];exact ⟨⟨⟨⟨⟨⟨⟨⟨by rw [hL'];rfl,hnl⟩,hdst⟩,hgd⟩,hnd⟩,hs0⟩,by rw [hcx.length];exact hxl⟩,hox⟩,by rw [hpx];rfl⟩
   have hrev:∀p:List (Int×Nat×Nat),(qjL p).reverse=qjL p.reverse:=λp=>by simp [qjL]
   split at h
   ·rename_i r0 p hlk;split at h
    ·cases h
    ·rename_i hrT;split at h
     ·obtain ⟨hp0,st',y,hk,hupd,hysoft,hR2,hF2⟩:=qBh hh hrx hsoft h;have hlk':=qiH hs.E _ _ _ _ _ _ hlk hp0;have hsing:(qjL p).reverse=qjL p:=by
       unfold qBg at h;split at h
       ·rfl
       ·cases h
      refine ⟨_,_,hk,?_,hR2,hfr.trans hF2⟩;unfold qje;rw [hop];simp only
      rw [if_pos hcond,hlk'];simp only
      rw [if_neg hrT,hsing,hupd];simp only
      rw [hysoft];rfl
     obtain ⟨hp0,y,u,hk,hupd,hyu⟩:=qAW hcx _ _ _ h (qxf hs.E r0);split at hk
     ·rename_i hf;have hlk':=qiH hs.E _ _ _ _ _ _ hlk (λe he=>hp0 e (by simpa using he));obtain ⟨hR2,hF2⟩:=qig hsoft (some r0) hyu;refine ⟨_,_,hk,?_,hR2,hfr.trans hF2⟩;unfold qje;rw [hop];simp only
      rw [if_pos hcond,hlk'];simp only
      rw [if_neg hrT,hrev,hupd];simp only
      rw [RV.firm y u hf hyu];rfl
     ·cases hk
   ·rename_i q off p hlk;split at h
    ·rename_i cs hcs;split at h
     ·rename_i z hz;obtain ⟨c',hc',hrc⟩:=hs.box hcs;obtain ⟨z',hz',hrz⟩:=hrc.get hz;obtain ⟨hp0,y,u,hk,hupd,hyu⟩:=qAW hcx _ _ _ h hrz;split at hk
      ·rename_i hf;have hlk':=qiH hs.E _ _ _ _ _ _ hlk (λe he=>hp0 e (by simpa using he));have hsb:(st.qce (tmpsOf o)).box q=some (cs.map TV.qeL):=by
        have hL2:(st.qce (tmpsOf o)).L=[]:=hL;refine qvR ?_ (qqw (qk3 hrc))
        replace hcs:=(qq2 hcs).1
        rw [qhJ hL]at hcs;rw [qhJ hL2];by_cases h0:q.lvl=0
        ·rw [if_pos h0]at hcs ⊢;simp only [TSt.qce,qgy];split at hcs
         ·rename_i c hc;cases hcs;rw [hc];rfl
         ·cases hcs
        ·rw [if_neg h0]at hcs;cases hcs
       have hq0:q.lvl=0:=by
        rw [qe2 hL']at hc';split at hc'
        ·assumption
        ·cases hc'
       obtain ⟨hR2,hF2⟩:=qio hsoft hsb ((qk3 hrc).set off hyu) (λhlt=>qBx (qs3 (hs.M.mp q.lvl q.slot c' (by rw [<- qR];exact hc') hlt)) (by obtain ⟨c9,l9,h9⟩:=qvC hupd;rw [h9];rfl));refine ⟨_,_,hk,?_,hR2,hfr.trans hF2⟩;unfold qje;rw [hop];simp only
       rw [if_pos hcond,hlk'];simp only
       rw [hc'];simp only
       rw [hz'];simp only
       rw [hrev,hupd];simp only
       rw [RV.firm y u hf hyu];simp only [qj,if_false,qe];unfold St.qv ql8;rw [if_pos (by rw [hq0,hL'];rfl)]
      ·cases hk
     ·cases h
    ·cases h
   ·cases h
  ·cases h
 ·cases h
theorem qzv{o:Oper}{E:Env}{E':List V}(h:RVL E.toL E')(hg:quW H f o E=true):qe3 H f o E'=true:=by
 unfold quW at hg;unfold qe3;simp only [Bool.or_eq_true,qi]at hg ⊢;refine hg.imp id λ⟨h1,h2⟩=>⟨?_,?_⟩
 ·rw [h.length,qjX];exact h1
 ·split
  ·rename_i t a hop;rw [hop]at h2;simp only [Bool.or_eq_true]at h2 ⊢;refine h2.imp id λh3=>?_;have:=qxf h a;cases hx:E.get a with
   |cptr l=>rw [hx]at this;simp only [RV]at this;obtain ⟨f',l',hl',_⟩:=this;rw [hl']<;>rfl
   |_=>rw [hx]at h3;cases h3
  ·rfl
theorem qm9(hT:TOk P H lib T)(hO:OOk P H lib O){ops:Array Oper}{R:Type}{k:TSt->Option R}{r:R}:∀(is:List Nat) (st:TSt) (s:St),Rst st s->qxb P H J T O ctx f ops is st R k=some r ->
  ∃st' s',k st'=some r/\Ev (λC=>qgg P H C f ops is s=some s') P H lib/\Rst st' s'/\Fr2 st st' s s'
 |[],st,s,hs,h=>⟨st,s,h,.of λC=>rfl,hs,Fr2.refl _ _⟩
 |i::is,st,s,hs,h=>by
  simp only [qxb]at h;split at h
  ·cases h
  ·rename_i o ho;obtain ⟨st1,b,hw,hs1,hf1,hb⟩:=quG hs h;cases b with
   |true =>
    simp only [if_true]at hb;obtain ⟨st2,fp,s2,hk,hev,hR,hF,hkeep⟩:=qme hT hO hs1 hb;obtain ⟨st3,s3,hk3,hev3,hR3,hF3⟩:=qm9 hT hO is st2 s2 hR hk;refine ⟨st3,s3,hk3,(hev.and hev3).imp λC hC=>?_,hR3,(hf1.trans hF).trans hF3⟩;simp only [qgg,ho,hw,qla,hC.1,qn,hC.2]
   |false =>
    simp only [qj,if_false]at hb;obtain ⟨hR,hF⟩:=qig hs1 o.dst (v:=.val undef) (u:=.val undef) (by simp [RV]);obtain ⟨st3,s3,hk3,hev3,hR3,hF3⟩:=qm9 hT hO is _ _ hR hb;refine ⟨st3,s3,hk3,hev3.imp λC hC=>?_,hR3,(hf1.trans hF).trans hF3⟩;simp only [qgg,ho,hw,hC]
def Cov(l:List (Nat×Foot))(e:Nat×Foot):Prop:=∃e'∈l,e'.1=e.1/\e'.2.fp=e.2.fp/\e'.2.looks=e.2.looks/\∀t∈e.2.took,t∈e'.2.took
theorem qAS{o:Oper}{E:Env}{E':List V}(h:RVL E.toL E'):∀t∈qga H f o E',t∈qml H f o E:=λt ht=>by
 unfold qga at ht;unfold qml;split at ht
 ·rename_i htk;rw [if_pos htk];simp only [List.mem_filter]at ht ⊢;exact ⟨ht.1,RV.owns _ _ (qxf h t) ht.2⟩
 ·cases ht
theorem qnG(hT:TOk P H lib T)(hO:OOk P H lib O){ops:Array Oper}{R:Type}{k:TSt->List (Nat×Foot)->Option R}{r:R}:∀(is:List Nat) (st:TSt) (s:St) (acc:List (Nat×Foot)),Rst st s->qsJ P H J T O ctx f ops is st acc R k=some r ->
  ∃st' s' fps fpv,k st' fps=some r/\Ev (λC=>qgZ P H C f ops is s=some (s',fpv)) P H lib/\Rst st' s'/\Fr2 st st' s s'/\(∀e∈acc,e∈fps)/\(∀e∈fpv,Cov fps e)
 |[],st,s,acc,hs,h=>⟨st,s,acc,[],h,.of λC=>rfl,hs,Fr2.refl _ _,λe he=>he,by simp⟩
 |i::is,st,s,acc,hs,h=>by
  simp only [qsJ]at h;split at h
  ·cases h
  ·rename_i o ho;obtain ⟨st1,b,hw,hs1,hf1,hb⟩:=quG hs h;cases b with
   |true =>
    simp only [if_true]at hb;obtain ⟨st2,fp,s2,hk,hev,hR,hF,hkeep⟩:=qme hT hO hs1 hb;obtain ⟨st3,s3,fps,fpv,hk3,hev3,hR3,hF3,hacc,hcov⟩:=qnG hT hO is st2 s2 _ hR hk;refine ⟨st3,s3,fps,(i,⟨fp,qga H f o s.E,qbQ H f ops o⟩)::fpv,hk3,(hev.and hev3).imp λC hC=>?_,hR3,(hf1.trans hF).trans hF3,λe he=>hacc e (by simp [he]),λe he=>?_⟩
    ·simp only [qgZ,qhE,ho,hw,hC.1,qn,hC.2]
    ·rcases qp.1 he with rfl|he
     ·exact ⟨_,hacc _ (List.mem_cons_self ..),rfl,rfl,rfl,λt ht=>qAS hs1.E t ht⟩
     ·exact hcov e he
   |false =>
    simp only [qj,if_false]at hb;obtain ⟨hR,hF⟩:=qig hs1 o.dst (v:=.val undef) (u:=.val undef) (by simp [RV]);obtain ⟨st3,s3,fps,fpv,hk3,hev3,hR3,hF3,hacc,hcov⟩:=qnG hT hO is _ _ _ hR hb;refine ⟨st3,s3,fps,(i,⟨.none,[],qbQ H f ops o⟩)::fpv,hk3,hev3.imp λC hC=>?_,hR3,(hf1.trans hF).trans hF3,λe he=>hacc e (by simp [he]),λe he=>?_⟩
    ·simp only [qgZ,qhE,ho,hw,hC,qn]
    ·rcases qp.1 he with rfl|he
     ·exact ⟨_,hacc _ (List.mem_cons_self ..),rfl,rfl,rfl,λt ht=>by cases ht⟩
     ·exact hcov e he
theorem qEE{ops:Array Oper}{i:Nat}{o:Oper}{st:TSt}{s:St}{R:Type}{k:TSt->Hole->Option R}{r:R}(hs:Rst st s)(h:apT P H f ops i o st R k=some r) :
  ∃st' s' hole,k st' hole=some r/\qeG P H f ops i o s=some s'/\Rst st' s'/\Fr2 st st' s s'/\qCG hole s':=by
 unfold apT at h;split at h
 ·rename_i argTypes args _ hop;split at h
  ·rename_i d hd;split at h
   ·rename_i r0 j hlk;split at h
    ·cases h
    ·rename_i hrd;simp only [not_or]at hrd;split at h
     ·rename_i τ lv l hE;split at h
      ·rename_i hown;simp only [qi]at hown;obtain ⟨e,he,hk⟩:=qh.1 h;obtain ⟨h0,hget⟩:=qne he;have hlk':=qiH hs.E _ _ _ _ _ _ hlk (λe he=>by simp only [List.mem_singleton]at he;subst he;exact h0);have hr:=qxf hs.E r0;rw [hE]at hr;simp only [RV,RTy]at hr;obtain ⟨fl,c,l',hv,hfl,hall⟩:=hr;have hf:fl=.own:=hfl.own hown.1;subst hf;obtain ⟨b,hb,hrb⟩:=hall.get hget;have hrb0:RTy (.sl τ) (nx lv) e b:=hrb;obtain ⟨f2,c2,l2,rfl,hf2,hall2⟩:=hrb;have hf2':f2=.own:=hf2.own hown.2;subst hf2';have hlen:s.E.length=st.E.n:=by rw [hs.E.length,qjX]
       have hr0lt:r0<s.E.length:=by
        rcases Nat.lt_or_ge r0 s.E.length with h9|h9
        ·exact h9
        ·exfalso
         rw [List.getD_eq_getElem?_getD,List.getElem?_eq_none h9]at hv;cases hv
       have hjl:j.toNat<l'.length:=(qq.1 hb).1;have hdl:(V.sl .own c2 l2).qai=.sl .qai c2 (reflagL q9 l2):=rfl;let y:V:=.sl .own c (l'.set j.toNat (V.qai (.sl .own c2 l2)))
       have hyp:y.qx=[]:=by simp [y,V.qx]
       refine ⟨_,{s with E:=(s.E.set r0 y).set d (.sl .own c2 l2)},_,hk,?_,⟨?_,hs.M⟩,?_,?_⟩
       ·unfold qeG;rw [hop];simp only
        rw [hd];simp only
        rw [hlk'];simp only [qjL,qm,List.map_nil];rw [if_neg (by simp only [not_or];exact ⟨hrd.1,by omega⟩),hv];simp only [qCs,hb];simp [y]
       ·show RVL ((st.E.set r0 (.any [])).set d _).toL _;rw [qeq,qeq];refine (hs.E.set r0 ?_).set d ?_
        ·simp only [RV];exact ⟨by rw [hyp];simp,by simp [y,qat]⟩
        ·simp only [RV];exact hrb0
       ·refine ⟨λt ht=>by simp [Mask.mem_ins,ht],λq hq=>hq,λt ht=>.inl ?_,λt ht rs hE'=>?_,λq hq=>.inl rfl,λq hq h=>h,rfl,by simp⟩
        ·simp only [Mask.mem_ins,not_or]at ht;simp only
         rw [List.getElem?_set_ne (Ne.symm ht.2.1),List.getElem?_set_ne (Ne.symm ht.1)]
        ·simp only [Mask.mem_ins,not_or]at ht;simp only [qeq]at hE';rw [List.getElem?_set_ne (Ne.symm ht.2.1),List.getElem?_set_ne (Ne.symm ht.1)]at hE';exact ⟨rs,hE'⟩
       ·refine ⟨c,l',V.qai (.sl .own c2 l2),?_,hall,rfl,by simp [hdl,V.oks,V.cells,V.one],λcs=>by rw [hdl];rfl,h0,hjl,hown.1⟩;simp only
        rw [List.getElem?_set_ne (Ne.symm hrd.1),List.getElem?_set_self hr0lt]
      ·cases h
     ·cases h
   ·cases h
  ·cases h
 ·cases h
theorem qkg(hT:TOk P H lib T)(hO:OOk P H lib O){ops:Array Oper}{R:Type}{k:TSt->List (Nat×Foot)->Option R}{r:R}:∀(is:List Nat) (st:TSt) (s:St) (hole:Option Hole) (acc:List (Nat×Foot)),Rst st s->qgP hole s->qi7 P H J T O ctx f ops is st hole acc R k=some r ->
  ∃st' s' fps fpv,k st' fps=some r/\Ev (λC=>qgY P H C f ops is s=some (s',fpv)) P H lib/\Rst st' s'/\Fr2 st st' s s'/\(∀e∈acc,e∈fps)/\(∀e∈fpv,Cov fps e)
 |[],st,s,hole,acc,hs,hh,h=>⟨st,s,acc,[],h,.of λC=>rfl,hs,Fr2.refl _ _,λe he=>he,by simp⟩
 |i::is,st,s,hole,acc,hs,hh,h=>by
  simp only [qi7]at h;split at h
  ·cases h
  ·rename_i o ho;split at h
   ·rename_i hls;obtain ⟨st2,s2,hk,hst,hR,hF⟩:=qE1 hs hh h;obtain ⟨st3,s3,fps,fpv,hk3,hev3,hR3,hF3,hacc,hcov⟩:=qkg hT hO is st2 s2 none _ hR qpW hk;refine ⟨st3,s3,fps,(i,⟨.all,[],looksAt ops o⟩)::fpv,hk3,hev3.imp λC hC=>?_,hR3,hF.trans hF3,λe he=>hacc e (by simp [he]),λe he=>?_⟩
    ·simp only [qgY,qjh,ho,hls,if_true,hst,qn,hC]
    ·rcases qp.1 he with rfl|he
     ·exact ⟨_,hacc _ (List.mem_cons_self ..),rfl,rfl,rfl,λt ht=>ht⟩
     ·exact hcov e he
   ·rename_i hls;have fin:∀(st:TSt) (s0:St) (hole:Option Hole),Rst st s0->qgP hole s0 ->
      (quF ops o st R
       (λst=>qjU P H J T O ctx f o st R λst' fp=>qi7 P H J T O ctx f ops is st' (qrn o hole) ((i,⟨fp,qml H f o st.E,qbQ H f ops o⟩)::acc) R k)
       (λst=>qi7 P H J T O ctx f ops is (st.put o.dst (.val undef)) (qrn o hole) ((i,⟨.none,[],qbQ H f ops o⟩)::acc) R k))=some r ->
      ∃st' s' fps fpv,k st' fps=some r/\Ev (λC=>∃s1 ft rest,qhE P H C f ops i s0=some (s1,ft)/\qgY P H C f ops is s1=some (s',rest)/\fpv=(i,ft)::rest) P H lib/\Rst st' s'/\Fr2 st st' s0 s'/\(∀e∈acc,e∈fps)/\(∀e∈fpv,Cov fps e):=by
     intro st s0 hole hs hh h;obtain ⟨st1,b,hw,hs1,hf1,hb⟩:=quG hs h;cases b with
     |true =>
      simp only [if_true]at hb;obtain ⟨st2,fp,s2,hk,hev,hR,hF,hkeep⟩:=qme hT hO hs1 hb;obtain ⟨st3,s3,fps,fpv,hk3,hev3,hR3,hF3,hacc,hcov⟩:=qkg hT hO is st2 s2 _ _ hR (qwd hh hkeep) hk;refine ⟨st3,s3,fps,(i,⟨fp,qga H f o s0.E,qbQ H f ops o⟩)::fpv,hk3,(hev.and hev3).imp λC hC=>⟨s2,_,fpv,?_,hC.2,rfl⟩,hR3,(hf1.trans hF).trans hF3,λe he=>hacc e (by simp [he]),λe he=>?_⟩
      ·simp only [qhE,ho,hw,hC.1,qn]
      ·rcases qp.1 he with rfl|he
       ·exact ⟨_,hacc _ (List.mem_cons_self ..),rfl,rfl,rfl,λt ht=>qAS hs1.E t ht⟩
       ·exact hcov e he
     |false =>
      simp only [qj,if_false]at hb;obtain ⟨hR,hF⟩:=qig hs1 o.dst (v:=.val undef) (u:=.val undef) (by simp [RV]);obtain ⟨st3,s3,fps,fpv,hk3,hev3,hR3,hF3,hacc,hcov⟩:=qkg hT hO is _ _ _ _ hR (qzp hh _) hb;refine ⟨st3,s3,fps,(i,⟨.none,[],qbQ H f ops o⟩)::fpv,hk3,hev3.imp λC hC=>⟨_,_,fpv,?_,hC,rfl⟩,hR3,(hf1.trans hF).trans hF3,λe he=>hacc e (by simp [he]),λe he=>?_⟩
      ·simp only [qhE,ho,hw]
      ·rcases qp.1 he with rfl|he
       ·exact ⟨_,hacc _ (List.mem_cons_self ..),rfl,rfl,rfl,λt ht=>by cases ht⟩
       ·exact hcov e he
    split at h
    ·rename_i hap;split at h
     ·cases h
     rename_i hilk;obtain ⟨st1,s1,hl,hk,hta,hR,hF,hhl⟩:=qEE hs h;obtain ⟨st3,s3,fps,fpv,hk3,hev3,hR3,hF3,hacc,hcov⟩:=fin st1 s1 (some hl) hR (λx hx=>by cases hx;exact hhl) hk;refine ⟨st3,s3,fps,fpv,hk3,hev3.imp λC ⟨s2,ft,rest,h1,h2,h3⟩=>?_,hR3,hF.trans hF3,hacc,hcov⟩;simp only [qgY,qjh,ho,hls,hap,hilk,hta,if_true,qj,if_false,qb,h1,h2,h3,qn]
    ·rename_i hap;split at h
     ·rename_i hgt;have hg:=qzv hs.E hgt;obtain ⟨st3,s3,fps,fpv,hk3,hev3,hR3,hF3,hacc,hcov⟩:=fin st s hole hs hh h;refine ⟨st3,s3,fps,fpv,hk3,hev3.imp λC ⟨s2,ft,rest,h1,h2,h3⟩=>?_,hR3,hF3,hacc,hcov⟩;simp only [qgY,qjh,ho,hls,hap,hg,if_true,qj,if_false,h1,h2,h3,qn]
     ·cases h
theorem qp8{l l' m:List Tmp}(h:∀t∈l,t∈l')(hm:meets l m=true):meets l' m=true:=by
 unfold meets at hm ⊢;rw [List.any_eq_true]at hm ⊢;obtain ⟨t,ht,h2⟩:=hm;exact ⟨t,h t ht,h2⟩
theorem qtp{U:List (Nat×Nat)}{fps fpv:List (Nat×Foot)}(hc:∀e∈fpv,Cov fps e)(h:qh5 U fps=true):qh5 U fpv=true:=by
 unfold qh5 at h ⊢;rw [List.all_eq_true]at h ⊢;rintro ⟨i,j⟩ hu;have h1:=h (i,j) hu;simp only [List.all_eq_true]at h1 ⊢;rintro ⟨a,p⟩ ha;obtain ⟨⟨a',p'⟩,hp',hpa,hpf,hpl,hpt⟩:=hc (a,p) ha;simp only at hpa hpf hpl hpt;subst hpa;have h2:=h1 (a',p') hp';simp only [Bool.or_eq_true,List.all_eq_true]at h2 ⊢;rcases h2 with h2|h2
 ·exact .inl h2
 ·right
  rintro ⟨b,q⟩ hb;obtain ⟨⟨b',q'⟩,hq',hqa,hqf,hql,hqt⟩:=hc (b,q) hb;simp only at hqa hqf hql hqt;subst hqa;have h3:=h2 (b',q') hq';simp only [Bool.not_eq_true']at h3 ⊢;rcases h3 with h3|h3
  ·exact .inl h3
  ·right
   cases hcl:Foot.qgT p q with
   |false=>rfl
   |true =>
    have:Foot.qgT p' q'=true:=by
     unfold Foot.qgT at hcl ⊢;simp only [Bool.or_eq_true]at hcl ⊢;rw [<- hpf,<- hqf,<- hpl,<- hql]at hcl;rcases hcl with (h4|h4)|h4
     ·exact .inl (.inl h4)
     ·exact .inl (.inr (qp8 hpt h4))
     ·exact .inr (qp8 hqt h4)
    rw [this]at h3;cases h3
theorem qiK{σ ρ:Type}{g:σ->Option (σ⊕ρ)}{s:σ}{r:ρ}(h:qab g s=some r):∃n,qi1 g n s=some r:=by
 unfold qab at h;split at h
 ·rename_i hex;cases h;exact ⟨_,Classical.choose_spec (Classical.choose_spec hex)⟩
 ·cases h
theorem qzz{j:Join}{bid:Nat}{c:Code}(ih:Snd (tx P H J T O ctx f bid c) (qA1 P H lib f bid c)){st:TSt}{s0:St}(hst:Rst st s0){R:Type}{k:Ex->TSt->Option R}{r:R} :
  ∀(n:Nat) (x:denL (j.ps.map (·.1))) (s:St),Rst (st.fresh.qb3 j (ofL j.ps x)) s->Fr2 st.fresh (st.fresh.qb3 j (ofL j.ps x)) s0 s ->
   qi1 (λx=>match (st.fresh.qb3 j (ofL j.ps x)).clear (H.clear f bid)with
      |some st1=>tx P H J T O ctx f bid c st1 (denL (j.ps.map (·.1))⊕R) λe st2=>match e with
       |.normal=>(st2.outs st j).map .inl
       |e=>(k e (st2.merge st)).map .inr
      |none=>none) n x=some r ->
   ∃e st' s',qA1 P H lib f bid (.loop c) s e s'/\Rst st' s'/\Fr2 st st' s0 s'/\k e st'=some r
 |0,x,s,hs,hf,h=>by simp [qi1]at h
 |n+1,x,s,hs,hf,h=>by
  simp only [qi1]at h;cases hcl:(st.fresh.qb3 j (ofL j.ps x)).clear (H.clear f bid)with
  |none=>rw [hcl]at h;simp at h
  |some st1 =>
   rw [hcl]at h;simp only at h;obtain ⟨s1,hv1,hs1,hf1⟩:=qiA hs hcl;have done:∀(e:Ex) (st2:TSt) (s2:St),e≠.normal->qA1 P H lib f bid c s1 e s2->Rst st2 s2->Fr2 st1 st2 s1 s2->k e (st2.merge st)=some r ->
     ∃e st' s',qA1 P H lib f bid (.loop c) s e s'/\Rst st' s'/\Fr2 st st' s0 s'/\k e st'=some r:=by
    intro e st2 s2 hne hev hR hF hk;refine ⟨e,st2.merge st,s2,hev.imp λC hC=>?_,hR.merge,qwh ((hf.trans hf1).trans hF),hk⟩;simp only [ex,hv1,hC];cases e with
    |normal=>exact absurd rfl hne
    |_=>rfl
   split at h
   ·rename_i x' hx';obtain ⟨e,st2,s2,hev,hR,hF,hk⟩:=ih st1 _ _ _ s1 hx' hs1;cases e with
    |normal =>
     obtain ⟨y,hy,hy2⟩:=qf.1 hk;cases hy2;have hF0:Fr2 st.fresh st2 s0 s2:=(hf.trans hf1).trans hF;have hy':st2.outs st.fresh j=some x':=hy;obtain ⟨e',st',s',hev',hR',hF',hk'⟩:=qzz ih hst n x' s2 (qiR hst.fresh hR hF0 hy') (qiQ (st:=st.fresh) hR hF0 hy') h;refine ⟨e',st',s',?_,hR',hF',hk'⟩;obtain ⟨n1,h1⟩:=hev;obtain ⟨n2,h2⟩:=hev';refine ⟨max n1 (n2+1),λm hm=>?_⟩;have e1:=h1 m (by omega);obtain ⟨m',rfl⟩:∃m',m=m'+1:=⟨m-1,by omega⟩
     have e2:=h2 m' (by omega);have hun:ex P H (qsj P H lib (m'+1)) f bid (.loop c) s=(match s.clear (H.clear f bid)with
      |some st=>match ex P H (qsj P H lib (m'+1)) f bid c st with
       |some (.normal,s)=>(qsj P H lib (m'+1)).code f bid (.loop c) s
       |r=>r
      |none=>none):=by simp only [ex]<;>rfl
     show ex P H (qsj P H lib (m'+1)) f bid (.loop c) s=_;rw [hun,hv1];simp only [e1];exact e2
    |exit id =>
     obtain ⟨y,hy,hy2⟩:=qf.1 hk;cases hy2
    |ret =>
     obtain ⟨y,hy,hy2⟩:=qf.1 hk;cases hy2
   ·rename_i y hx';cases h;obtain ⟨e,st2,s2,hev,hR,hF,hk⟩:=ih st1 _ _ _ s1 hx' hs1;cases e with
    |normal =>
     obtain ⟨y,hy,hy2⟩:=qf.1 hk;cases hy2
    |exit id =>
     obtain ⟨y',hy,hy2⟩:=qf.1 hk;cases hy2;exact done _ _ _ (by simp) hev hR hF hy
    |ret =>
     obtain ⟨y',hy,hy2⟩:=qf.1 hk;cases hy2;exact done _ _ _ (by simp) hev hR hF hy
   ·cases h
theorem qCm{j:Join}{st:TSt}{s:St}(hs:Rst st s)(hf:st.qlw j=true){x:denL (j.ps.map (·.1))}(hx:asL j.ps (j.lv.map st.get)=some x) :
  Rst (st.fresh.qb3 j (ofL j.ps x)) s/\Fr2 st.fresh (st.fresh.qb3 j (ofL j.ps x)) s s:=by
 have ho:st.fresh.outs st.fresh j=some x:=by
  unfold TSt.outs;have h1:st.fresh.qlw j=true:=hf;have h2:st.fresh.wrote j=true:=by
   have:Mask.empty.sub j.D=true:=Mask.qFk λt ht=>absurd ht Mask.mem_empty;simp [TSt.wrote,TSt.fresh,this]
  have h3:st.fresh.qFz st.fresh j=true:=by
   unfold TSt.qFz;rw [List.all_eq_true];intro r _;cases st.fresh.cont r<;>simp
  rw [h1,h2,h3];exact hx
 exact ⟨qiR hs.fresh hs.fresh (Fr2.refl _ _) ho,qiQ (st:=st.fresh) hs.fresh (Fr2.refl _ _) ho⟩
theorem qo9(ops:Array Oper):qiu H ops true=none:=by
 unfold qiu;split
 ·rename_i h _;cases h
 ·rfl
theorem qyO(s:St):s.clear []=some s:=by
 have h1:q5 [] s.B=s.B:=by
  have:∀B:Level,q5 [] B=B:=λB=>by
   induction B with
   |nil=>rfl
   |cons p B ih=>obtain ⟨k,c⟩:=p;simp [q5,ih]
  exact this s.B
 unfold St.clear;simp only [h1,true_or,if_true];rfl
theorem qDW{D:List Tmp}{st st1:TSt}{s:St}(h:Rst st s)(hc:qEu D st=some st1):∃s1,s.clear D=some s1/\Rst st1 s1/\Fr2 st st1 s s1:=by
 cases D with
 |nil =>
  simp only [qEu,qe]at hc;subst hc;exact ⟨s,qyO s,h,Fr2.refl _ _⟩
 |cons d D=>exact qiA h hc
theorem qgx(L:List qT)(B:qT)(l k:Nat):qav (L++[B]) l k=if l=L.length then q7 B k else qav L l k:=by
 unfold qav;by_cases h:l=L.length
 ·subst h;simp
 ·rw [if_neg h];by_cases hlt:l<L.length
  ·rw [qk hlt]
  ·rw [List.getElem?_eq_none (by simp;omega),List.getElem?_eq_none (by omega)]
theorem qcz(L:List Level)(B:Level)(l k:Nat):qaC (L++[B]) l k=if l=L.length then qD B k else qaC L l k:=by
 unfold qaC;by_cases h:l=L.length
 ·subst h;simp
 ·rw [if_neg h];by_cases hlt:l<L.length
  ·rw [qk hlt]
  ·rw [List.getElem?_eq_none (by simp;omega),List.getElem?_eq_none (by omega)]
theorem LR.last{M:List qT}{M':List Level}{b:qT}{b':Level}(h:LR (M++[b]) (M'++[b']))(k:Nat):RB (q7 b k) (qD b' k):=by
 have hl:M'.length=M.length:=by have:=h.len;simp at this;exact this
 have:=h.rel M.length k;rw [qgx,qcz,if_pos rfl,if_pos hl.symm]at this;exact this
theorem LR.qC3{M:List qT}{M':List Level}{b c:qT}{b' c':Level}(h:LR (M++[b]) (M'++[b']))(hr:∀k,RB (q7 c k) (qD c' k))(hn:(c'.map (·.1)).Nodup)(hm:∀k x,qD c' k=some x->k<16384->qhq x=false):LR (M++[c]) (M'++[c']):=by
 have hl:M'.length=M.length:=by have:=h.len;simp at this;exact this
 refine ⟨by simp [hl],λl k=>?_,λq hq=>?_,λl k x hx hlt=>?_⟩
 ·have:=h.rel l k;rw [qgx,qcz,hl]at this ⊢;by_cases e:l=M.length
  ·rw [if_pos e,if_pos e];exact hr k
  ·rw [if_neg e,if_neg e]at this ⊢;exact this
 ·simp only [qo,List.mem_singleton]at hq;rcases hq with hq|rfl
  ·exact h.nd q (by simp [hq])
  ·exact hn
 ·have:=h.mp l k x;rw [qcz]at this hx;by_cases e:l=M'.length
  ·rw [if_pos e]at hx;exact hm k x hx hlt
  ·rw [if_neg e]at this hx;exact this hx hlt
theorem qz3{M:List qT}{M':List Level}{b:qT}{b':Level}(h:LR (M++[b]) (M'++[b']))(hf:qxd b=true){r:Root}(hr:r∈qm0 b'):r∈qkU b:=by
 obtain ⟨k,c,hk,hrc⟩:=qtG hr;have hlk:=qgv (h.nd b' (by simp)) hk;have hb:=h.last k;cases ht:q7 b k with
 |none=>rw [ht]at hb;simp only [RB]at hb;rw [hb]at hlk;cases hlk
 |some o =>
  obtain ⟨d,rfl⟩:=qvY hf (qdL ht);rw [ht]at hb;obtain ⟨d',hd',hr'⟩:=hb;rw [hd']at hlk;cases hlk;exact qqb (qdL ht) (hr'.qx r hrc)
theorem qB6(hT:TOk P H lib T)(hO:OOk P H lib O){bid:Nat}{g:Operand}{ps:Array Tmp}{asz bo:Code}{st:TSt}{R:Type}{k:Ex->TSt->Option R}{r:R}{s:St}
  (h:tx P H J T O ctx f bid (.rangeFunc g ps asz bo) st R k=some r) (hs:Rst st s) :
  ∃e st' s',qA1 P H lib f bid (.rangeFunc g ps asz bo) s e s'/\Rst st' s'/\Fr2 st st' s s'/\k e st'=some r:=by
 simp only [tx]at h;split at h
 ·rename_i hh first cap t ts hgv hps;split at h
  ·rename_i hnb;simp only [qi,Option.isNone_iff_eq_none,decide_eq_true_eq]at hnb;obtain ⟨hn,ht⟩:=hnb;have hlen:=hs.len;have hnV:=qfl hs hn;have hg:=qB7 (H:=H) (f:=f) (o:=default) hs.E g;rw [hgv]at hg;simp only [RV]at hg;obtain ⟨first',cap',hV,hf1,hc1⟩:=hg;have hE:RVL (dullL st.E.toL) (s.E.map V.qai):=by
    have:=hs.E.qai;rw [qaV]at this;exact this
   have hR1:Rst {st with B:=(t,some [.lp .ready none f (dullL st.E.toL) (t::ts) asz bo])::st.B,Wb:=⟨st.L.length,t⟩::st.Wb} {s with B:=(t,[.lp .ready none f (s.E.map V.qai) (t::ts) asz bo])::s.B}:=by
    refine ⟨hs.E,LR.qC3 hs.M (λq=>?_) ?_ (λq x hx hlt=>?_)⟩
    ·simp only [q7,qD];by_cases e:t=q
     ·rw [if_pos e,if_pos e];exact ⟨_,rfl,_,rfl,hE⟩
     ·rw [if_neg e,if_neg e];exact hs.M.last q
    ·have:=hs.M.nd s.B (by simp [qdi]);simp only [qm,List.nodup_cons];refine ⟨λhm=>?_,this⟩;obtain ⟨⟨k',c⟩,hp,hp2⟩:=List.mem_map.1 hm;simp only at hp2;subst hp2;rw [qgv this hp]at hnV;cases hnV
    ·simp only [qD]at hx;by_cases e:t=q
     ·rw [if_pos e]at hx;cases hx;rfl
     ·rw [if_neg e]at hx;refine hs.M.mp s.L.length q x ?_ hlt;unfold qdi;rw [qcz,if_pos rfl];exact hx
   have hfv:RV (.fn hh first cap) (.fn hh first' cap'):=by simp only [RV];exact ⟨_,_,rfl,hf1,hc1⟩
   have hyl:RVL [.yld ⟨st.L.length,t⟩] [.yld ⟨s.L.length,t⟩]:=by rw [hlen];exact qC.2 ⟨by simp only [RV],qak⟩
   obtain ⟨v,st2,u,s2,hk,hev,_,hR2,hF2,hE2,hE2',_⟩:=qsB hT hO hfv hyl hR1 h;simp only at hk hE2 hE2';split at hk
   ·rename_i hcond;simp only [qi]at hcond;obtain ⟨hok,hfull⟩:=hcond;have hlen2:=hR2.len;have hlen3:s2.L.length=s.L.length:=hF2.len;have hcl:∀q,RB (q7 (qaJ [t] st2.B) q) (qD (q5 [t] s2.B) q):=λq=>by
     rw [qfG,qaU];by_cases e : [t].contains q=true
     ·rw [if_pos e,if_pos e];rfl
     ·rw [if_neg e,if_neg e];exact hR2.M.last q
    have hM3:LR (st2.L++[qaJ [t] st2.B]) (s2.L++[q5 [t] s2.B]):=by
     refine LR.qC3 hR2.M hcl ((hR2.M.nd s2.B (by simp [qdi])).sublist ((qln [t] s2.B).map _)) (λq x hx hlt=>?_);rw [qaU]at hx;split at hx
     ·cases hx
     ·refine hR2.M.mp s2.L.length q x ?_ hlt;unfold qdi;rw [qcz,if_pos rfl];exact hx
    have hokV:qdp s.L.length [t] (qm0 (q5 [t] s2.B))=true:=by
     unfold qdp at hok ⊢;rw [List.all_eq_true]at hok ⊢;intro q hq;rw [hlen];exact hok q (qz3 hM3 hfull hq)
    have hvB:∀{x pe g3 env3 ps3 as3 bo3},q7 st2.B t=some (some [.lp x pe g3 env3 ps3 as3 bo3])->∃env3',qD s2.B t=some [.lp x pe g3 env3' ps3 as3 bo3]:=λhl=>by
     have:=hR2.M.last t;rw [hl]at this;obtain ⟨c',h1,env',rfl,_⟩:=this;exact ⟨env',h1⟩
    have hrest:Rst {st2 with B:=qaJ [t] st2.B,Wb:=st.Wb++st2.Wb.filter (λq=>!decide (q=⟨st.L.length,t⟩))} {s with L:=s2.L,B:=q5 [t] s2.B}/\Fr2 st {st2 with B:=qaJ [t] st2.B,Wb:=st.Wb++st2.Wb.filter (λq=>!decide (q=⟨st.L.length,t⟩))} s {s with L:=s2.L,B:=q5 [t] s2.B}:=by
     refine ⟨⟨by have:=hR2.E;rw [hE2']at this;exact this,hM3⟩,⟨λx hx=>hF2.wt x hx,λx hx=>by simp [hx],λx hx=>.inl rfl,λx hx rs hr=>⟨rs,by rw [<- hE2];exact hr⟩,λq hq=>?_,λq hq hsm=>?_,hlen3,rfl⟩⟩
     ·have eB:∀q:Root,q≠⟨st.L.length,t⟩->({s with L:=s2.L,B:=q5 [t] s2.B}:St).box q=s2.box q:=λq hq=>by
       rw [qR,qR];unfold qdi;rw [qcz,qcz];by_cases e:q.lvl=s2.L.length
       ·rw [if_pos e,if_pos e,qaU,if_neg];intro hc;simp only [List.contains_cons,List.contains_nil,Bool.or_false,beq_iff_eq]at hc;exact hq (by cases q;simp only at hc e ⊢;subst hc;rw [e,hlen3,hlen])
       ·rw [if_neg e,if_neg e]
      have eS:∀q:Root,q≠⟨st.L.length,t⟩->({s with B:=(t,[.lp .ready none f (s.E.map V.qai) (t::ts) asz bo])::s.B}:St).box q=s.box q:=λq hq=>by
       rw [qR,qR];unfold qdi;rw [qcz,qcz];by_cases e:q.lvl=s.L.length
       ·rw [if_pos e,if_pos e];simp only [qD];rw [if_neg];intro hc;exact hq (by cases q;simp only at hc e ⊢;subst hc;rw [e,hlen])
       ·rw [if_neg e,if_neg e]
      by_cases e:q=⟨st.L.length,t⟩
      ·subst e;left
       rw [qR,qR];unfold qdi;rw [qcz,qcz];simp only
       rw [if_pos (by omega),if_pos hlen.symm,qaU,if_pos (by simp),hnV]
      ·have hq2:q∉st2.Wb:=λhm=>hq (by
        simp only [qo,List.mem_filter];exact .inr ⟨hm,by simp [e]⟩)
       rw [eB q e];rcases hF2.b q hq2 with h9|⟨h9,h10,h11,h12⟩
       ·left;rw [h9,eS q e]
       ·right
        refine ⟨h9,?_,by rw [h11,eS q e],h12⟩;rw [qa7]at h10 ⊢;unfold TSt.all at h10 ⊢;rw [qgx]at h10 ⊢;by_cases e2:q.lvl=st.L.length
        ·simp only [e2,if_true,q7]at h10 ⊢;rw [if_neg (by intro hc;exact e (by cases q;simp only at hc e2 ⊢;subst hc;rw [e2]))]at h10;exact h10
        ·simp only [e2,if_false]at h10 ⊢;exact h10
     ·by_cases e:q=⟨st.L.length,t⟩
      ·subst e;rw [qa7]at hsm;unfold TSt.all at hsm;rw [qgx,if_pos rfl,hn]at hsm;cases hsm
      ·have hq2:q∉st2.Wb:=λhm=>hq (by
        simp only [qo,List.mem_filter];exact .inr ⟨hm,by simp [e]⟩)
       have i1:=hF2.bn q hq2 (by
        rw [qa7]at hsm ⊢;unfold TSt.all at hsm ⊢;rw [qgx]at hsm ⊢;by_cases e2:q.lvl=st.L.length
        ·simp only [e2,if_true,q7]at hsm ⊢;rw [if_neg (by intro hc;exact e (by cases q;simp only at hc e2 ⊢;subst hc;rw [e2]))];exact hsm
        ·simp only [e2,if_false]at hsm ⊢;exact hsm)
       rw [qa7]at i1 ⊢;unfold TSt.all at i1 ⊢;rw [qgx]at i1 ⊢;by_cases e2:q.lvl=st2.L.length
       ·simp only [e2,if_true]at i1 ⊢;rw [qfG,if_neg]
        ·exact i1
        ·intro hc;simp only [List.contains_cons,List.contains_nil,Bool.or_false,beq_iff_eq]at hc;exact e (by cases q;simp only at hc e2 ⊢;subst hc;rw [e2];congr 1;omega)
       ·simp only [e2,if_false]at i1 ⊢;exact i1
    have hnV':(qD s.B t).isNone=true:=by rw [hnV];rfl
    split at hk
    ·rename_i hl;obtain ⟨env3',hb⟩:=hvB hl;exact ⟨.normal,_,_,hev.imp λC ⟨hC,_⟩=>by simp only [ex,hV,hps,hnV',if_true,hC,hokV,hb],hrest.1,hrest.2,hk⟩
    ·rename_i hl;obtain ⟨env3',hb⟩:=hvB hl;exact ⟨.ret,_,_,hev.imp λC ⟨hC,_⟩=>by simp only [ex,hV,hps,hnV',if_true,hC,hokV,hb],hrest.1,hrest.2,hk⟩
    ·rename_i id _ _ _ _ _ hl;obtain ⟨env3',hb⟩:=hvB hl;exact ⟨.exit _,_,_,hev.imp λC ⟨hC,_⟩=>by simp only [ex,hV,hps,hnV',if_true,hC,hokV,hb],hrest.1,hrest.2,hk⟩
    ·cases hk
   ·cases hk
  ·cases h
 ·cases h
theorem qpz(hT:TOk P H lib T)(hO:OOk P H lib O):∀(c:Code) (bid:Nat),Snd (tx P H J T O ctx f bid c) (qA1 P H lib f bid c)
 |.skip,bid=>λst R k r s h hs=>⟨.normal,st,s,.of λC=>rfl,hs,Fr2.refl _ _,h⟩
 |.ret,bid=>λst R k r s h hs=>⟨.ret,st,s,.of λC=>rfl,hs,Fr2.refl _ _,h⟩
 |.exit id,bid=>λst R k r s h hs=>⟨.exit id,st,s,.of λC=>rfl,hs,Fr2.refl _ _,h⟩
 |.seq a b,bid=>λst R k r s h hs=>by
  simp only [tx]at h;obtain ⟨e,st1,s1,hev,hR,hF,hk⟩:=qpz hT hO a bid st _ _ r s h hs;cases e with
  |normal =>
   obtain ⟨e2,st2,s2,hev2,hR2,hF2,hk2⟩:=qpz hT hO b bid st1 _ _ r s1 hk hR;exact ⟨e2,st2,s2,(hev.and hev2).imp λC hC=>by simp only [ex,hC.1,hC.2],hR2,hF.trans hF2,hk2⟩
  |exit id=>exact ⟨.exit id,st1,s1,hev.imp λC hC=>by simp only [ex,hC],hR,hF,hk⟩
  |ret=>exact ⟨.ret,st1,s1,hev.imp λC hC=>by simp only [ex,hC],hR,hF,hk⟩
 |.cond c a b,bid=>λst R k r s h hs=>by
  simp only [tx]at h;refine qng (rel:=qA1 P H lib f bid (.cond c a b)) ?_ _ st R k r s h hs;intro st R k r s h hs;have hr:=qB7 (H:=H) (f:=f) (o:=default) hs.E c;simp only at h;split at h
  ·rename_i o t ht;rw [ht]at hr;simp only [RV,RTy]at hr;cases t with
   |true =>
    obtain ⟨e2,st2,s2,hev2,hR2,hF2,hk2⟩:=qpz hT hO a bid st _ _ r s h hs;exact ⟨e2,st2,s2,hev2.imp λC hC=>by simp only [ex,hr,if_true,hC],hR2,hF2,hk2⟩
   |false =>
    obtain ⟨e2,st2,s2,hev2,hR2,hF2,hk2⟩:=qpz hT hO b bid st _ _ r s h hs;exact ⟨e2,st2,s2,hev2.imp λC hC=>by simp only [ex,hr,qj,if_false,hC],hR2,hF2,hk2⟩
  ·cases h
 |.block id c,bid=>λst R k r s h hs=>by
  simp only [tx]at h;refine qng (rel:=qA1 P H lib f bid (.block id c)) ?_ _ st R k r s h hs;intro st R k r s h hs;obtain ⟨e,st1,s1,hev,hR,hF,hk⟩:=qpz hT hO c id st _ _ r s h hs;cases e with
  |exit i =>
   simp only at hk;split at hk
   ·rename_i hi;exact ⟨.normal,st1,s1,hev.imp λC hC=>by simp only [ex,hC,hi,if_true],hR,hF,hk⟩
   ·rename_i hi;exact ⟨.exit i,st1,s1,hev.imp λC hC=>by simp only [ex,hC,hi,if_false],hR,hF,hk⟩
  |normal=>exact ⟨.normal,st1,s1,hev.imp λC hC=>by simp only [ex,hC],hR,hF,hk⟩
  |ret=>exact ⟨.ret,st1,s1,hev.imp λC hC=>by simp only [ex,hC],hR,hF,hk⟩
 |.region id ops draw,bid=>λst R k r s h hs=>by
  simp only [tx]at h;refine qng (rel:=qA1 P H lib f bid (.region id ops draw)) ?_ _ st R k r s h hs;intro st R k r s h hs;simp only [qtL,qxz]at h;cases hpre:qEu (H.pre f id) st with
  |none=>rw [hpre]at h;cases h
  |some sta =>
  rw [hpre]at h;simp only at h;obtain ⟨sa,hcl,hs,hf0⟩:=qDW hs hpre;cases hnt:qiu H ops draw with
  |some p =>
   obtain ⟨F,t,e,d⟩:=p;rw [hnt]at h;simp only at h;split at h
   ·rename_i hlt;obtain ⟨hR0,hF0⟩:=qig hs (some e) (qcV []);obtain ⟨st1,s1,hk,hts,hR,hF⟩:=qCz hR0 h;have hlt':e<sa.E.length:=by rw [hs.E.length,qjX];exact hlt
    exact ⟨.normal,st1,s1,.of λC=>by simp only [ex,hcl,hnt,hts,if_pos hlt',qn],hR,(hf0.trans hF0).trans hF,hk⟩
   ·cases h
  |none =>
  rw [hnt]at h;simp only at h;cases hls:qxg H f ops with
  |true =>
   rw [hls]at h;simp only [if_true]at h;split at h
   ·rename_i hok;obtain ⟨st1,s1,fps,fpv,hk,hev,hR,hF,_,hcov⟩:=qkg hT hO _ sta sa none [] hs qpW h;split at hk
    ·rename_i hnc;refine ⟨.normal,st1,s1,hev.imp λC hC=>?_,hR,hf0.trans hF,hk⟩;have hnc':(!draw||qh5 (H.pairs f id) fpv)=true:=by
      simp only [Bool.or_eq_true]at hnc ⊢;exact hnc.imp (λh=>h) λh=>qtp hcov h
     simp only [ex,hcl,hnt,hls,if_true,hok,hC,hnc']
    ·cases hk
   ·cases h
  |false =>
  rw [hls]at h;simp only [qj,if_false]at h;split at h
  ·rename_i hd;split at h
   ·rename_i hok;split at h
    ·rename_i hU;obtain ⟨st1,s1,hk,hev,hR,hF⟩:=qm9 hT hO _ sta sa hs h;rw [hU]at hok;exact ⟨.normal,st1,s1,hev.imp λC hC=>by simp only [ex,hcl,hnt,qo9,hls,qj,if_false,hd,if_true,hU,hok,hC,qn],hR,hf0.trans hF,hk⟩
    ·rename_i U hU;obtain ⟨st1,s1,fps,fpv,hk,hev,hR,hF,_,hcov⟩:=qnG hT hO _ sta sa [] hs h;split at hk
     ·rename_i hnc;have hnc':=qtp hcov hnc;refine ⟨.normal,st1,s1,hev.imp λC hC=>?_,hR,hf0.trans hF,hk⟩;simp only [ex,hcl,hnt,qo9,hls,qj,if_false,hd,if_true,hok];cases hp:H.pairs f id with
      |nil=>exact absurd hp (by simpa using hU)
      |cons u U' =>
       rw [hp]at hnc';simp only [hC,hnc',if_true]
     ·cases hk
   ·cases h
  ·rename_i hd;obtain ⟨st1,s1,hk,hev,hR,hF⟩:=qm9 hT hO _ sta sa hs h;exact ⟨.normal,st1,s1,hev.imp λC hC=>by simp only [ex,hcl,hnt,hls,qj,if_false];rw [if_neg hd,hC];rfl,hR,hf0.trans hF,hk⟩
 |.loop c,bid=>λst R k r s h hs=>by
  simp only [tx]at h;split at h
  ·rename_i j hj;split at h
   ·rename_i hf;obtain ⟨x0,hx0,h⟩:=qh.1 h;obtain ⟨n,hn⟩:=qiK h;obtain ⟨h1,h2⟩:=qCm hs hf hx0;exact qzz (qpz hT hO c bid) hs n x0 s h1 h2 hn
   ·cases h
  ·split at h
   ·rename_i st1 hcl;obtain ⟨s1,hv1,hs1,hf1⟩:=qiA hs hcl;obtain ⟨e,st2,s2,hev,hR,hF,hk⟩:=qpz hT hO c bid st1 _ _ r s1 h hs1;cases e with
    |normal =>
     obtain ⟨e3,st3,s3,hev3,hR3,hF3,hk3⟩:=hO.code ctx f bid (.loop c) st2 _ _ r s2 hk hR;exact ⟨e3,st3,s3,(hev.and hev3).imp λC hC=>by simp only [ex,hv1,hC.1,hC.2],hR3,(hf1.trans hF).trans hF3,hk3⟩
    |exit id=>exact ⟨.exit id,st2,s2,hev.imp λC hC=>by simp only [ex,hv1,hC],hR,hf1.trans hF,hk⟩
    |ret=>exact ⟨.ret,st2,s2,hev.imp λC hC=>by simp only [ex,hv1,hC],hR,hf1.trans hF,hk⟩
   ·cases h
 |.rangeFunc ..,bid=>λst R k r s h hs=>qB6 hT hO h hs
 |.scope _,bid=>λst R k r s h hs=>by simp [tx]at h
 |.label _,bid=>λst R k r s h hs=>by simp [tx]at h
 |.goto _,bid=>λst R k r s h hs=>by simp [tx]at h
 |.refuse _,bid=>λst R k r s h hs=>by simp [tx]at h
end
section
variable {P:Program} {H:Hints} {J:TH} {T:qsn} {O:TOrc} {lib:FuncId->Option (List V->Option V)} {f:FuncId} {ctx:List Tmp}
theorem qgQ{st:TSt}{s:St}(hs:Rst st s):∀(l:List ResultVar) (rs:List TV),qfR (l.map (qjS P st))=some rs->∃rs',qgb (l.map (qdV P s))=some rs'/\RVL rs rs'
 |[],rs,h=>by simp only [List.map_nil,qfR,qe]at h;subst h;exact ⟨[],rfl,qak⟩
 |v::l,rs,h=>by
  simp only [qm]at h;cases h1:qjS P st v with
  |none=>rw [h1]at h;simp [qfR]at h
  |some x =>
   rw [h1]at h;simp only [qfR]at h;obtain ⟨rs0,h2,rfl⟩:=qf.1 h;obtain ⟨rs',h3,hr⟩:=qgQ hs l rs0 h2;have:∃u,qdV P s v=some u/\RV x u:=by
    cases v with
    |tmp t =>
     simp only [qjS,qe]at h1;subst h1;exact ⟨_,rfl,qxf hs.E t⟩
    |cell a t =>
     simp only [qjS]at h1;split at h1
     ·rename_i r off hE;have hg:=qxf hs.E a;rw [hE]at hg;simp only [RV]at hg;split at h1
      ·rename_i cs hcs;split at h1
       ·rename_i hsl;obtain ⟨cs',hcs',hc⟩:=hs.box hcs;obtain ⟨u,hu,hr⟩:=qen h1 (hc.drop off);refine ⟨u,?_,hr⟩;have hlp:=qfj (qaY hc) (hs.M.mp r.lvl r.slot cs' (by rw [<- qR];exact hcs') hsl);simp only [qdV,hg,hcs',hlp,qj,if_false,hu]
       ·cases h1
      ·cases h1
     ·cases h1
   obtain ⟨u,hu,hru⟩:=this;refine ⟨u::rs',?_,qC.2 ⟨hru,hr⟩⟩;simp only [qm,hu,qgb,h3,qn]
theorem qlk{st:TSt}{s:St}(hs:Rst st s):∀(l:List ResultVar) (ks:List (Bool×Nat×Nat)),qlj (l.map (qgI st))=some ks->l.map (qU s)=ks
 |[],ks,h=>by simp only [List.map_nil,qlj,qe]at h;subst h;rfl
 |v::l,ks,h=>by
  simp only [qm]at h;cases h1:qgI st v with
  |none=>rw [h1]at h;simp [qlj]at h
  |some x =>
   rw [h1]at h;simp only [qlj]at h;obtain ⟨ks0,h2,rfl⟩:=qf.1 h;have:qU s v=x:=by
    cases v with
    |tmp t=>simp only [qgI,qe]at h1;subst h1;rfl
    |cell a t =>
     simp only [qgI]at h1;split at h1
     ·rename_i r off hE;have hg:=qxf hs.E a;rw [hE]at hg;simp only [RV]at hg;cases h1;simp only [qU,hg]
     ·cases h1
   simp only [qm,this,qlk hs l ks0 h2]
theorem qk2:∀{rs:List TV} {rs':List V},RVL rs rs'->RV (qbC rs) (packed rs')
 |[],rs',h=>by simp only [RVL]at h;subst h;simp [qbC,packed,RV,RVL]
 |[x],rs',h=>by obtain ⟨v,rfl,hv⟩:=qdX h;exact hv
 |x::y::rs,rs',h=>by
  have h0:=h;simp only [RVL]at h;obtain ⟨v,m,rfl,_,v2,m2,rfl,_,_⟩:=h;simp only [qbC,packed,RV];exact ⟨_,rfl,h0⟩
theorem qD6(hT:TOk P H lib T)(hO:OOk P H lib O){args:List TV}{M:List qT}{R:Type}{k:TV->List qT->List Root->Option R}{r:R}{vs:List V}{M':List Level}
  (h:runT P H J T O ctx f args M R k=some r) (ha:RVL args vs) (hM:LR M M') :
  ∃x N wb v N',k x N wb=some r/\RV x v/\LR N N'/\N.length=M.length/\(∀l sl,(⟨l,sl⟩:Root)∉wb->qaC N' l sl=qaC M' l sl/\∀c,qav M l sl=some (some c)->∃c',qav N l sl=some (some c'))/\J.lib f=false/\Ev (λC=>qEw P H C f vs M'=some (v,N')) P H lib:=by
 unfold runT at h;split at h
 ·cases h
 ·rename_i qxi;split at h
  ·rename_i fn hfn;split at h
   ·rename_i c hbody;have hE:RVL (Env.qhs args fn.ntmps).toL (vs++List.replicate (fn.ntmps-vs.length) .undef):=by
     rw [qmk,ha.length];exact ha.append (RVL.replicate (qcV []) _)
    have h0:Rst {E:=Env.qhs args fn.ntmps,L:=M,B:=[],Wt:=.empty,Wb:=[]} {E:=vs++List.replicate (fn.ntmps-vs.length) .undef,L:=M',B:=[]}:=⟨hE,hM.init⟩
    have hsnd:Snd (λst R k=>tx P H J T O ctx f 0 c st R λe st=>match e with
     |.normal=>k .normal st
     |.ret=>k .normal st
     |_=>none) (λs e s'=>e=.normal/\Ev (λC=>∃e,(e=.normal\/e=.ret)/\ex P H C f 0 c s=some (e,s')) P H lib):=by
     intro st R k r s h hs;obtain ⟨e,st1,s1,hev,hR,hF,hk⟩:=qpz hT hO c 0 st _ _ r s h hs;cases e with
     |normal=>exact ⟨.normal,st1,s1,⟨rfl,hev.imp λC hC=>⟨.normal,.inl rfl,hC⟩⟩,hR,hF,hk⟩
     |ret=>exact ⟨.normal,st1,s1,⟨rfl,hev.imp λC hC=>⟨.ret,.inr rfl,hC⟩⟩,hR,hF,hk⟩
     |exit id=>cases hk
    obtain ⟨e,st1,s1,⟨_,hev⟩,hR,hF,hk⟩:=qng hsnd _ _ _ _ _ _ h h0;split at hk
    ·rename_i rs ks hrs hks;have hlen:=hR.len;have hlen2:=hF.len;have hML:=hM.len;simp only at hlen2;have frame:∀l sl,(⟨l,sl⟩:Root)∉st1.Wb->qaC s1.L l sl=qaC M' l sl/\∀c,qav M l sl=some (some c)->∃c',qav st1.L l sl=some (some c'):=λl sl hl=>by
      refine ⟨?_,λc hc=>?_⟩
      ·by_cases e:l<s1.L.length
       ·rcases hF.b ⟨l,sl⟩ hl with this|⟨h9,_⟩
        ·rw [qR,qR]at this;unfold qaC qdi at this;simp only at this;unfold qaC;rw [qk e,qk (by omega)]at this;exact this
        ·simp only at h9;omega
       ·unfold qaC;rw [List.getElem?_eq_none (by omega),List.getElem?_eq_none (by omega)]
      ·have hlt:l<M.length:=by
        unfold qav at hc;cases hM0:M[l]? with
        |none=>rw [hM0]at hc;cases hc
        |some b=>exact (qq.1 hM0).1
       have hbx:(({E:=Env.qhs args fn.ntmps,L:=M,B:=[],Wt:=.empty,Wb:=[]}:TSt).cont ⟨l,sl⟩).isSome=true:=by
        rw [qa7];unfold qav TSt.all;simp only
        rw [qk hlt];unfold qav at hc;rw [hc];rfl
       obtain ⟨c',hc'⟩:=Option.isSome_iff_exists.1 (hF.bn ⟨l,sl⟩ hl hbx);have h10:=qeJ hc';refine ⟨c',?_⟩;unfold qav TSt.all at h10;simp only at h10;rw [qk (by omega)]at h10;exact h10
     split at hk
     ·rename_i hc;simp only [qi]at hc;obtain ⟨⟨hkn,hpt⟩,hko⟩:=hc;obtain ⟨rs',hrs',hrr⟩:=qgQ hR _ _ hrs;have hkeys:=qlk hR _ _ hks;have hpeq:=RVL.ptrs_eq _ _ hkn hrr;refine ⟨_,_,_,packed (if M'.isEmpty&&!ownsL rs' then reflagL qiF rs' else rs'),s1.L,hk,?_,hR.M.front,by omega,frame,by simpa using qxi,hev.imp ?_⟩
      ·split
       ·exact qk2 (RVL.qpt qsO rfl _ _ hrr)
       ·exact qk2 hrr
      ·rintro C ⟨e,he,hC⟩;unfold qEw;simp only [hfn,hbody,hC];rw [if_pos he,hrs'];simp only
       rw [if_pos];simp only [hpeq,hkeys,qi];rw [hML];exact ⟨hpt,hko⟩
     ·split at hk
      ·rename_i hc;simp only [qi,Bool.not_eq_true']at hc;obtain ⟨⟨⟨hkn,hem⟩,hko⟩,hpt⟩:=hc;split at hk
       ·rename_i xs hxs;split at hk
        ·rename_i hc2;simp only [qi]at hc2;obtain ⟨hkx,hpx⟩:=hc2;obtain ⟨rs',hrs',hrr⟩:=qgQ hR _ _ hrs;have hkeys:=qlk hR _ _ hks;have hpeq:=RVL.ptrs_eq _ _ hkn hrr;obtain ⟨us,hus,hru⟩:=peekTL_ok (bt:=st1.box) (bx:=s1.box) (λr c hc=>by
          obtain ⟨c',h1,h2⟩:=hR.box hc;exact ⟨c',h1,h2,λhlt=>hR.M.mp r.lvl r.slot c' (by rw [<- qR];exact h1) hlt⟩) _ _ _ hxs hrr
         have hpu:=RVL.ptrs_eq _ _ hkx hru;have hem':M'.isEmpty=true:=by
          rw [List.isEmpty_iff]at hem ⊢;subst hem;exact List.eq_nil_of_length_eq_zero (by rw [hML];rfl)
         refine ⟨_,_,_,packed us,s1.L,hk,qk2 hru,hR.M.front,by omega,frame,by simpa using qxi,hev.imp ?_⟩;rintro C ⟨e,he,hC⟩;unfold qEw;simp only [hfn,hbody,hC];rw [if_pos he,hrs'];simp only
         have hn1:¬ (((ptrsL rs').all λr=>decide (r.lvl<M'.length))&&qp2 M'.length (fn.results.toList.map (qU s1)))=true:=by
          rw [hpeq,hML,hpt];simp
         rw [if_neg hn1,if_pos (by rw [hem',hkeys,hML,hko];rfl),hus];simp only [hpu,hpx,if_true]
        ·cases hk
       ·cases hk
      ·cases hk
    ·cases hk
   ·cases h
  ·cases h
theorem qoB:∀{rs:List TV},onlyMapsTL rs=true->(qbC rs).onlyMaps=true
 |[],_=>rfl
 |[x],h=>by simpa [qbC,onlyMapsTL]using h
 |x::y::l,h=>by simpa only [qbC,TV.onlyMaps]using h
theorem qyI(hT:TOk P H lib T)(hO:OOk P H lib O){args:List TV}{R:Type}{k:TV->TV->Option R}{r:R}{vs:List V}
  (h:qyH P H J T O ctx f args R k=some r) (ha:RVL args vs) :
  ∃x τ o l v sl,k x (.t (.mset τ) o l)=some r/\qhX τ=true/\RV x v/\x.onlyMaps=true/\Ev (λC=>qyG P H C f vs=some (v,sl,kvs τ l)) P H lib:=by
 unfold qyH at h;split at h
 ·cases h
 ·split at h
  ·rename_i fn hfn;split at h
   ·rename_i c hbody;have hE:RVL (Env.qhs args fn.ntmps).toL (vs++List.replicate (fn.ntmps-vs.length) .undef):=by
     rw [qmk,ha.length];exact ha.append (RVL.replicate (qcV []) _)
    have hM0:LR [] []:=⟨rfl,λl s=>by simp [qav,qaC,RB],by simp,λl s c h=>by simp [qaC]at h⟩
    have h0:Rst {E:=Env.qhs args fn.ntmps,L:=[],B:=[],Wt:=.empty,Wb:=[]} {E:=vs++List.replicate (fn.ntmps-vs.length) .undef,L:=[],B:=[]}:=⟨hE,hM0.init⟩
    obtain ⟨e,st1,s1,hev,hR,hF,hk⟩:=qpz hT hO c 0 _ _ _ r _ h h0;have key:(match qfR (fn.results.toList.map (qjS P st1))with
     |some rs=>match peekTL st1.box rs with
      |some xs=>match ptrsTL xs with
       |[q]=>if q.lvl=0 then (match st1.box q with
        |some [.t (.mset τ) o l]=>if knownL xs&&onlyMapsTL xs then k (qbC xs) (.t (.mset τ) o l)else none
        |_=>none)else none
       |_=>none
      |none=>none
     |none=>none)=some r/\(e=.normal\/e=.ret):=by
     cases e with
     |normal=>exact ⟨hk,.inl rfl⟩
     |ret=>exact ⟨hk,.inr rfl⟩
     |exit id=>cases hk
    obtain ⟨hk2,he⟩:=key;split at hk2
    ·rename_i rs hrs;split at hk2
     ·rename_i xs hxs;split at hk2
      ·rename_i q hq;split at hk2
       ·rename_i hl0;split at hk2
        ·rename_i τ o l hbx;split at hk2
         ·rename_i hc;simp only [qi]at hc;obtain ⟨hkn,hom⟩:=hc;obtain ⟨rs',hrs',hrr⟩:=qgQ hR _ _ hrs;obtain ⟨us,hus,hru⟩:=peekTL_ok (bt:=st1.box) (bx:=s1.box) (λr c hc=>by
           obtain ⟨c',h1,h2⟩:=hR.box hc;exact ⟨c',h1,h2,λhlt=>hR.M.mp r.lvl r.slot c' (by rw [<- qR];exact h1) hlt⟩) _ _ _ hxs hrr
          have hpeq:=RVL.ptrs_eq _ _ hkn hru;obtain ⟨c',hc',hcr⟩:=hR.box hbx;obtain ⟨v,rfl,hv⟩:=qdX hcr;simp only [RV,RTy]at hv;obtain ⟨hkt,rfl⟩:=hv;have hom':=(rvl_adopt q _ _ hom hru).2;refine ⟨_,τ,o,l,packed us,q.slot,hk2,hkt,qk2 hru,qoB hom,hev.imp λC hC=>?_⟩;unfold qyG;simp only [hfn,hbody,hC];rw [if_pos he,hrs'];simp only [hus,hpeq,hq];rw [if_pos hl0,hc'];simp only [hom',if_true];rfl
         ·cases hk2
        ·cases hk2
       ·cases hk2
      ·cases hk2
     ·cases hk2
    ·cases hk2
   ·cases h
  ·cases h
theorem qyS{x:TV}(h:x≠.val (.slice none 0 0)):x.qec=x:=by
 unfold TV.qec;split
 ·exact absurd rfl h
 ·rfl
theorem qCb{x:TV}{v:V}(h:RV x v):RV x.qec v.qec:=by
 by_cases hv:v=.val (.slice none 0 0)
 ·subst hv;cases x with
  |any rs=>simp only [RV]at h;simp [TV.qec,V.qec,RV,V.qx,ptrsL,qat]
  |t τ o y=>cases τ<;>simp [RV,RTy]at h
  |val u =>
   simp only [RV,V.val.injEq]at h;subst h;simp [TV.qec,V.qec,RV,FlR,qbm]
  |_=>simp [RV]at h
 ·rw [qvS hv,qyS]
  ·exact h
  ·rintro rfl;simp only [RV]at h;exact hv h
theorem qtV:∀{l:List TV} {m:List V},RVL l m->RVL (l.map TV.qec) (m.map V.qec)
 |[],m,h=>by simp only [RVL]at h;subst h;exact qak
 |x::l,m,h=>by
  simp only [RVL]at h;obtain ⟨v,m',rfl,h1,h2⟩:=h;exact qC.2 ⟨qCb h1,qtV h2⟩
theorem qFg{g:FuncId}{l:List TV}{m:List V}(h:RVL l m):RVL (dnT H g l) (dnA H g m):=by
 unfold dnT dnA;cases H.qec g
 ·exact h
 ·exact qtV h
theorem qwN(hT:TOk P H lib T)(hJ:∀g,J.lib g=false->lib g=none):∀n,OOk P H lib (qo7 P H J T n)
 |0=>⟨λctx g args M R k r vs M' h=>by simp [qo7]at h,λctx f bid c st R k r s h=>by simp [qo7]at h,λctx g args R k r vs h=>by simp [qo7]at h⟩
 |n+1=>by
  have ih:=qwN hT hJ n;refine ⟨λctx g args M R k r vs M' h ha hM=>?_,λctx f bid c st R k r s h hs=>?_,λctx g args R k r vs h ha=>?_⟩
  rotate_right
  ·simp only [qo7]at h;obtain ⟨x,τ,o,l,v,sl,hk,hkt,hr,hom,hev⟩:=qyI hT ih h ha;refine ⟨x,τ,o,l,v,sl,hk,hkt,hr,hom,?_⟩;obtain ⟨n1,h1⟩:=hev;refine ⟨n1+1,λm hm=>?_⟩;obtain ⟨m',rfl⟩:∃m',m=m'+1:=⟨m-1,by omega⟩
   exact h1 m' (by omega)
  ·simp only [qo7]at h;obtain ⟨x,N,wb,v,N',hk,hr,hN,hlen,hfr,hl,hev⟩:=qD6 hT ih h (qFg ha) hM;refine ⟨x,N,wb,v,N',hk,hr,hN,hlen,hfr,?_⟩;obtain ⟨n1,h1⟩:=hev;refine ⟨n1+1,λm hm=>?_⟩;obtain ⟨m',rfl⟩:∃m',m=m'+1:=⟨m-1,by omega⟩
   have:=h1 m' (by omega);simp only [qsj,hJ g hl];exact this
  ·simp only [qo7]at h;obtain ⟨e,st',s',hev,hR,hF,hk⟩:=qpz hT ih c bid st _ _ r s h hs;refine ⟨e,st',s',?_,hR,hF,hk⟩;obtain ⟨n1,h1⟩:=hev;refine ⟨n1+1,λm hm=>?_⟩;obtain ⟨m',rfl⟩:∃m',m=m'+1:=⟨m-1,by omega⟩
   exact h1 m' (by omega)
def qby(P:Program)(H:Hints)(lib:FuncId->Option (List V->Option V))(e:Entry):Prop :=
 ∀x y,e.F x=some y->∀vs,RVL (qfP e.ps x) vs->∃v,qvH P H lib e.g vs [] v []/\RV (qi3 e.rs y) v
theorem qwX{τ:Ty}{cs:List TV}{x:τ.den}{l':List V}(h:quj τ cs=some x)(hr:RVL cs l'):RVL (ofTy τ 1000 x).cells l':=by
 unfold quj at h;split at h
 ·rename_i h1;split at h
  ·rename_i c;obtain ⟨u,rfl,hu⟩:=qdX hr;have h2:=rv_ofTy _ _ _ _ (qdu _ _ _ _ _ h hu);have h3:(ofTy τ 1000 x).cells=[ofTy τ 1000 x]:=by cases τ<;>first|rfl|simp [Ty.one]at h1
   rw [h3];exact qC.2 ⟨h2,qak⟩
  ·cases h
 ·rename_i h1;have h2:=rv_ofTy _ _ _ _ (qdu _ _ _ _ (.agg l') h (by simp only [RV];exact ⟨l',rfl,hr⟩));cases τ with
  |unit=>simp only [ofTy,TV.cells,RV]at h2 ⊢;obtain ⟨m,e,hm⟩:=h2;cases e;exact hm
  |pair a b=>simp only [ofTy,TV.cells,RV]at h2 ⊢;obtain ⟨m,e,hm⟩:=h2;cases e;exact hm
  |mset t=>simp [qhm]at h
  |_=>simp [Ty.one]at h1
theorem quk{c:Cp}{w:TV}{x:c.den}{v:V}(h:qDl c w=some x)(hr:RV w v):RV (qE8 c x) v:=by
 cases c with
 |v τ=>exact rv_ofTy _ _ _ _ (qdu _ _ _ _ _ h hr)
 |p τ =>
  cases w<;>simp only [qDl]at h<;>try (cases h;done)
  rename_i sh cs;cases sh with
  |false=>simp only [qDl]at h;cases h
  |true =>
   simp only [qDl]at h;simp only [RV]at hr;obtain ⟨f,l',rfl,hf,hsh,hl⟩:=hr;simp only [qE8,RV];exact ⟨f,l',rfl,hf,hsh,qwX h hl⟩
theorem qvP:∀(cs:List Cp) (l:List TV) (x:denC cs) (l':List V),qsy cs l=some x->RVL l l'->RVL (qBR cs x) l'
 |[],l,x,l',h,hr=>by
  cases l with
  |nil=>simpa [qBR]using hr
  |cons=>simp [qsy]at h
 |[c],l,x,l',h,hr=>by
  match l,h,hr with
  |[v],h,hr =>
   obtain ⟨u,rfl,h1⟩:=qdX hr;exact qC.2 ⟨quk h h1,qak⟩
  |[],h,hr=>simp [qsy]at h
  |_::_::_,h,hr=>simp [qsy]at h
 |c::q::ps,l,x,l',h,hr=>by
  match l,h,hr with
  |[],h,hr=>simp [qsy]at h
  |v::l,h,hr =>
   simp only [qsy]at h;obtain ⟨y,hy,h⟩:=qh.1 h;obtain ⟨z,hz,h⟩:=qh.1 h;simp only [qe]at h;subst h;simp only [RVL]at hr;obtain ⟨u,m,rfl,h1,h2⟩:=hr;exact qC.2 ⟨quk hy h1,qvP (q::ps) l _ _ hz h2⟩
theorem qyC{p:Pm}{w:TV}{x:p.den}{v:V}(h:qEp p w=some x)(hr:RV w v):RV (qA0 p x) v:=by
 cases p with
 |ty τ=>exact rv_ofTy _ _ _ _ (qdu _ _ _ _ _ h hr)
 |ptr τ=>exact quk (c:=.p τ) h hr
 |fn g cs =>
  cases w<;>simp only [qEp]at h<;>try (cases h;done)
  rename_i g' first cap;cases first with
  |cons y ys=>simp only [qEp]at h;cases h
  |nil =>
   simp only [qEp]at h;split at h
   ·rename_i hg;subst hg;simp only [RV]at hr;obtain ⟨a',b',rfl,ha,hb⟩:=hr;simp only [RVL]at ha;subst ha;simp only [qA0,RV];exact ⟨[],b',rfl,qak,qvP _ _ _ _ h hb⟩
   ·cases h
theorem qqZ:∀(ps:List Pm) (l:List TV) (x:denP ps) (l':List V),qsx ps l=some x->RVL l l'->RVL (qfP ps x) l'
 |[],l,x,l',h,hr=>by
  cases l with
  |nil=>simpa [qfP]using hr
  |cons=>simp [qsx]at h
 |[p],l,x,l',h,hr=>by
  match l,h,hr with
  |[v],h,hr =>
   obtain ⟨u,rfl,h1⟩:=qdX hr;exact qC.2 ⟨qyC h h1,qak⟩
  |[],h,hr=>simp [qsx]at h
  |_::_::_,h,hr=>simp [qsx]at h
 |p::q::ps,l,x,l',h,hr=>by
  match l,h,hr with
  |[],h,hr=>simp [qsx]at h
  |v::l,h,hr =>
   simp only [qsx]at h;obtain ⟨y,hy,h⟩:=qh.1 h;obtain ⟨z,hz,h⟩:=qh.1 h;simp only [qe]at h;subst h;simp only [RVL]at hr;obtain ⟨u,m,rfl,h1,h2⟩:=hr;exact qC.2 ⟨qyC hy h1,qqZ (q::ps) l _ _ hz h2⟩
theorem qC7:∀{l:List Entry},(∀e∈l,qby P H lib e)->TOk P H lib (qwJ l)
 |[],_=>λg args R k r vs h=>by simp [qwJ]at h
 |e::l,he=>λg args R k r vs h ha=>by
  have ih:=qC7 (l:=l) λe' h'=>he e' (by simp [h']);simp only [qwJ]at h;split at h
  ·rename_i hg;subst hg;split at h
   ·rename_i x hx;obtain ⟨y,hy,hk⟩:=qh.1 h;obtain ⟨v,hev,hr⟩:=he e (by simp) x y hy vs (qqZ _ _ _ _ hx ha);exact ⟨_,v,hk,hr,hev⟩
   ·exact ih _ _ _ _ _ _ h ha
  ·exact ih _ _ _ _ _ _ h ha
theorem qE:TOk P H lib (qwJ []):=qC7 (by simp)
theorem qt{e:Entry}{l:List Entry}(h:qby P H lib e)(h':TOk P H lib (qwJ l)):TOk P H lib (qwJ (e::l)):=λg args R k r vs hh ha=>by
 simp only [qwJ]at hh;split at hh
 ·rename_i hg;subst hg;split at hh
  ·rename_i x hx;obtain ⟨y,hy,hk⟩:=qh.1 hh;obtain ⟨v,hev,hr⟩:=h x y hy vs (qqZ _ _ _ _ hx ha);exact ⟨_,v,hk,hr,hev⟩
  ·exact h' _ _ _ _ _ _ hh ha
 ·exact h' _ _ _ _ _ _ hh ha
theorem qA3{rs:List (Ty×Nat)}{x:TV}{y:denL (rs.map (·.1))}{v:V}(h:qyD rs x=some y)(hr:RV x v):RV (qi3 rs y) v:=by
 match rs,y,h with
 |[p],y,h =>
  simp only [qyD]at h;have:=qvN [p] [x] y [v] h (qC.2 ⟨hr,qak⟩);simp only [qi3];obtain ⟨τ,o⟩:=p;simp only [ofL]at this ⊢;exact (qC.1 this).1
 |[],y,h =>
  cases x<;>simp only [qyD]at h<;>try (cases h;done)
  rename_i l _;simp only [RV]at hr;obtain ⟨l',rfl,hl⟩:=hr;have:=qvN [] l y l' h hl;simp only [qi3,ofL,qbC,RV];exact ⟨l',rfl,this⟩
 |p::q::rs,y,h =>
  cases x<;>simp only [qyD]at h<;>try (cases h;done)
  rename_i l _;simp only [RV]at hr;obtain ⟨l',rfl,hl⟩:=hr;have:=qvN (p::q::rs) l y l' h hl;have hpk:∀m:List TV,2<=m.length->qbC m=.tuple m:=λm hm=>by
   match m,hm with
   |_::_::_,_=>rfl
  simp only [qi3];rw [hpk _ (by rw [qix _ _ _ h];have:=qix _ _ _ h;obtain ⟨τ,o⟩:=p;cases rs<;>simp [ofL]at this<;>omega)];simp only [RV];exact ⟨l',rfl,this⟩
theorem qm8(hT:TOk P H lib T)(hJ:∀g,J.lib g=false->lib g=none)(n:Nat)(g:FuncId)(ps:List Pm)(rs:List (Ty×Nat))(F:denP ps->Option (denL (rs.map (·.1))))
  (h:∀x,fnT P H J T n g (qfP ps x) rs=F x):qby P H lib ⟨g,ps,rs,F⟩:=by
 intro x y hy vs hvs;simp only at hy hvs;rw [<- h x]at hy;unfold fnT at hy;obtain ⟨w,N,wb,v,N',hk,hr,hN,hlen,_,hev⟩:=(qwN hT hJ n).call _ _ _ _ _ _ _ _ [] hy hvs ⟨rfl,λl s=>by simp [qav,qaC,RB],by simp,λl s c h=>by simp [qaC]at h⟩;have hN0:N=[]:=List.eq_nil_of_length_eq_zero (by rw [hlen];rfl);subst hN0;have hN0':N'=[]:=List.eq_nil_of_length_eq_zero (by rw [hN.len];rfl);subst hN0';exact ⟨v,hev,qA3 hk hr⟩
theorem qw8(hm:P.follows .mixedOrders=true)(qdJ:qj7 P H)
  (qxi:∀g h args r,lib g=some h->h args=some r->qa9 P g args [] r []) {e:Entry} (he:qby P H lib e) {x:denP e.ps} {y:denL (e.rs.map (·.1))} (h:e.F x=some y) {vs:List V} (hv:RVL (qfP e.ps x) vs) :
  ∃v,qa9 P e.g vs [] v []/\RV (qi3 e.rs y) v:=by
 obtain ⟨v,⟨n,hev⟩,hr⟩:=he x y h vs hv;exact ⟨v,(qu5 hm qdJ qxi n).call _ _ _ _ _ (hev n (Nat.le_refl _)),hr⟩
end
end Go.Tx
end
section
namespace Go.Tx
open Go Go.Ab Go.RowKit Go.ChangeShapes Go.WideShapes Go.Deep
section
def Rng(N:Nat):(τ:Ty)->τ.den->Prop
 |.int k,n=>k.min<=n/\n<=k.max
 |.bool,_=>True
 |.str,s=>s.length<=N
 |.flt,_=>True
 |.cx,_=>True
 |.err,_=>True
 |.mset _,_=>True
 |.sl t,l=>l.length<=N/\∀e∈l,Rng N t e
 |.unit,_=>True
 |.pair a b,x=>Rng N a x.1/\Rng N b x.2
def qEy(N:Nat):(τs:List Ty)->denP (τs.map .ty)->Prop
 |[],_=>True
 |[τ],x=>Rng N τ x
 |τ::q::l,x=>Rng N τ x.1/\qEy N (q::l) x.2
def cx0(w:World):Cx:={β:=λ_=>none,ω:=λb=>match w.heap[b]? with
 |some (.cells c _ _)=>some (c.size,true)
 |_=>none}
structure Sm {H:Type} (N:Nat) (S:DataW H->Prop):Prop where
 slice:∀es sp,S (.slice es sp)->es.length<=maxLen->es.length<=N/\∀e∈es,S e
 agg:∀ps,S (.agg ps)->∀p∈ps,S p
 str:∀b,S (.lit (.string b))->b.length<=maxLen->b.length<=N
def qvI(N:Nat)(w:World)(τ:Ty)(v:Value):Prop:=∃y u,Rng N τ y/\RTy τ 1000 y u/\Rep w (cx0 w) u v []
section
variable (P:Program)
def okT:Nat->TypeId->Bool
 |0,_=>false
 |d+1,t=>decide (t<P.types.size)&&match P.underlying t with
  |some (.slice e)=>decide (P.cellsOf e≠0)&&((qbX P d e).map List.length==some (P.cellsOf e))&&okT d e
  |some (.struct fields)=>fields.toList.all λfd=>okT d fd.type
  |some (.array _ e)=>okT d e
  |some (.float _)|some (.complex _)=>false
  |_=>true
end
variable {H:Type} {enc:TypeId × Value->H} {P:Program} {w:World} {base:Nat} {held:Bool}
theorem glue{α β:Type}{R:α->β->Prop}:∀(css:List (List α)) (szs:List Nat) (vals:List β),css.length=szs.length->vals.length=szs.sum ->
  (∀(j:Nat) c s,css[j]?=some c->szs[j]?=some s->All2 R c ((vals.drop (szs.take j).sum).take s))->All2 R css.flatten vals
 |[],szs,vals,h1,h2,_=>by
  have:szs=[]:=List.eq_nil_of_length_eq_zero (by simpa using h1.symm);subst this;have:vals=[]:=List.eq_nil_of_length_eq_zero (by simpa using h2);subst this;exact .nil
 |c::css,[],vals,h1,_,_=>by simp at h1
 |c::css,s::szs,vals,h1,h2,h=>by
  have h0:=h 0 c s rfl rfl;simp only [List.take_zero,List.sum_nil,List.drop_zero]at h0;have hr:=glue css szs (vals.drop s) (by simpa using h1) (by simp only [List.length_drop,h2,List.sum_cons];omega) λj c' s' hc hs=>by
   have:=h (j+1) c' s' (by simpa using hc) (by simpa using hs);simpa [List.take_succ_cons,List.sum_cons,List.drop_drop]using this
  have:=h0.append hr;simpa [List.flatten_cons]using this
theorem qu6{N:Nat}:∀(cs:List Ty) (vals:List Value),All2 (qvI N w) cs vals->∃(y:(cs.foldr Ty.pair .unit).den) (us:List V),Rng N _ y/\RTy (cs.foldr Ty.pair .unit) 1000 y (.agg us)/\RepL w (cx0 w) us vals []
 |[],vals,h=>by cases h;exact ⟨(),[],trivial,by simp [RTy],by simp [RepL]⟩
 |c::cs,vals,h=>by
  cases h with
  |cons h1 h2 =>
   obtain ⟨y,u,hy,hu,hr⟩:=h1;obtain ⟨ys,us,hys,hus,hrs⟩:=qu6 cs _ h2;refine ⟨(y,ys),u::us,⟨hy,hys⟩,?_,?_⟩
   ·simp only [List.foldr_cons,RTy];exact ⟨u,us,rfl,hu,hus⟩
   ·simp only [RepL];exact ⟨_,_,[],[],rfl,rfl,hr,hrs⟩
theorem qum{d:Nat}{e:TypeId}{σ:Ty}(hc:qbX P d e=some [σ])(hs:∀fs,P.underlying e≠some (.struct fs))(ha:∀n q,P.underlying e≠some (.array n q)):σ.one=true:=by
 cases d with
 |zero=>simp [qbX]at hc
 |succ d =>
  simp only [qbX]at hc;split at hc
  ·cases hc;rfl
  ·cases hc;rfl
  ·cases hc;rfl
  ·cases hc;rfl
  ·cases hc;rfl
  ·split at hc
   ·cases hc;rfl
   ·cases hc;rfl
   ·cases hc;rfl
   ·cases hc
  ·rename_i fs hfs;exact absurd hfs (hs _)
  ·rename_i n e' hfs;exact absurd hfs (ha _ _)
  ·cases hc
def qEs(P:Program)(e:TypeId)(cs:List Ty):Option Ty:=match P.underlying e with
 |some (.struct _)=>some (cs.foldr Ty.pair .unit)
 |some (.array ..)=>some (cs.foldr Ty.pair .unit)
 |_=>match cs with
  |[τ]=>some τ
  |_=>none
theorem qDy{N:Nat}{d:Nat}{e:TypeId}{cs:List Ty}{τ:Ty}(hc:qbX P d e=some cs)(hτ:qEs P e cs=some τ){vals:List Value}(h:All2 (qvI N w) cs vals) :
  ∃(y:τ.den) (u:V) (v:Value),Rng N τ y/\RTy τ 1000 y u/\Rep w (cx0 w) u v []/\v.cells.toList=vals:=by
 have agg:τ=cs.foldr Ty.pair .unit->∃(y:τ.den) (u:V) (v:Value),Rng N τ y/\RTy τ 1000 y u/\Rep w (cx0 w) u v []/\v.cells.toList=vals:=by
  rintro rfl;obtain ⟨y,us,hy,hu,hr⟩:=qu6 cs vals h;exact ⟨y,.agg us,.agg vals.toArray,hy,hu,by simp only [Rep];exact ⟨vals,rfl,hr⟩,by simp [Value.cells]⟩
 unfold qEs at hτ;split at hτ
 ·cases hτ;exact agg rfl
 ·cases hτ;exact agg rfl
 ·rename_i hns hna;have hns':=hns;have hna':=hna;split at hτ
  ·cases hτ;have hone:=qum hc (λfs hh=>hns' fs hh) (λn q hh=>hna' n q hh)
   match vals,h with
   |v::_,.cons h1 .nil =>
    obtain ⟨y,u,hy,hu,hr⟩:=h1;refine ⟨y,u,v,hy,hu,hr,?_⟩;rw [qcv (qjQ (qAp hone hu) hr)]
  ·cases hτ
theorem frozen0{b:Nat}{e:Nat}{fz:Bool}(h:(cx0 w).ω b=some (e,fz)):fz=true/\b<w.heap.size/\∃c t fr,w.heap[b]?=some (.cells c t fr)/\e=c.size:=by
 simp only [cx0]at h;split at h
 ·rename_i c t fr hc;cases h;exact ⟨rfl,(Array.getElem?_eq_some_iff.1 hc).1,c,t,fr,hc,rfl⟩
 ·cases h
theorem qlm{a:Addr}{v:Value}(h:w.cell? a=some v):a.spot=none/\∃c t fr,w.heap[a.block]?=some (.cells c t fr)/\c[a.off]?=some v:=by
 unfold World.cell? at h;split at h
 ·rename_i c t fr hc;split at h
  ·cases h
  ·rename_i hs;exact ⟨by simpa using hs,c,t,fr,hc,h⟩
 ·cases h
theorem qAw{N:Nat}{τ:Ty}{b off len cap s:Nat}(hs:0<s)(hlc:len<=cap)(hcap:cap≠0)(hτ:τ.qcq=true)(hn:τ.qbv=s)
  (hel:∀i,i<cap->∃vals:List Value,vals.length=s/\(∀j,j<s->w.cell? ⟨b,off+i*s+j,none⟩=vals[j]?)/\(i<len->∃(y:τ.den) (u:V) (v:Value),Rng N τ y/\RTy τ 1000 y u/\Rep w (cx0 w) u v []/\v.cells.toList=vals)) :
  ∃(l:List τ.den) (us:List V),l.length=len/\(∀y∈l,Rng N τ y)/\All2 (RTy τ 1000) l us/\Rep w (cx0 w) (.sl .shared false us) (.slice (some ⟨b,off,none⟩) len cap) []:=by
 have key:∀n,n<=len->∃(l:List τ.den) (us:List V) (vals:List Value),l.length=n/\(∀y∈l,Rng N τ y)/\All2 (RTy τ 1000) l us/\RepE w (cx0 w) s us vals []/\vals.length=n*s/\(∀j v,vals[j]?=some v->w.cell? ⟨b,off+j,none⟩=some v):=by
  intro n;induction n with
  |zero=>exact λ_=>⟨[],[],[],rfl,by simp,.nil,by simp [RepE],by simp,by simp⟩
  |succ n ih =>
   intro hle;obtain ⟨l,us,vals,h1,h2,h3,h4,h5,h6⟩:=ih (by omega);obtain ⟨vs,hvl,hvc,hy⟩:=hel n (by omega);obtain ⟨y,u,v,hry,hu,hr,hcv⟩:=hy (by omega);refine ⟨l++[y],us++[u],vals++vs,by simp [h1],?_,h3.append (.cons hu .nil),?_,by simp [h5,hvl,Nat.succ_mul],?_⟩
   ·intro z hz;simp only [qo,List.mem_singleton]at hz;rcases hz with hz|rfl
    ·exact h2 z hz
    ·exact hry
   ·have h7:RepE w (cx0 w) s [u] vs []:=by
     simp only [RepE];exact ⟨v,[],[],[],by simp [hcv],by rw [<- hvl,<- hcv];simp,rfl,hr,rfl,rfl⟩
    simpa using qhc h4 h7
   ·intro j v hj;by_cases hlt:j<vals.length
    ·rw [qk hlt]at hj;exact h6 j v hj
    ·rw [List.getElem?_append_right (by omega)]at hj;have hjs:=(qq.1 hj).1;have:=hvc (j-vals.length) (by omega);rw [hj]at this;rw [<- this];congr 2
     omega
 obtain ⟨l,us,vals,h1,h2,h3,h4,h5,h6⟩:=key len (Nat.le_refl _);refine ⟨l,us,h1,h2,h3,?_⟩;have hlen:=h3.length;have hcells:=qea hτ h3
 obtain ⟨vs,hvl,hvc,_⟩:=hel 0 (by omega);have hc0:=hvc 0 (by omega);have hv0:∃v0,vs[0]?=some v0:=⟨vs[0]'(by omega),List.getElem?_eq_getElem (by omega)⟩
 obtain ⟨v0,hv0⟩:=hv0;rw [hv0]at hc0;obtain ⟨_,c,t,fr,hblk,hoff⟩:=qlm hc0;simp only [Nat.zero_mul,Nat.add_zero]at hblk hoff;have hoff':=(Array.getElem?_eq_some_iff.1 hoff).1;simp only [Rep];refine ⟨qyt h3,.inr ⟨b,off,cap,s,vals,[],?_,?_,by simp,?_,hs,?_,h6,⟨c.size,true,?_,?_,rfl⟩,h4,by simp,by simp⟩⟩
 ·rw [hlen,h1]
 ·rw [hlen,h1];exact hlc
 ·rw [hlen,h1];exact h5
 ·intro x hx;rw [(hcells x hx).1];exact hn
 ·simp only [cx0,hblk]
 ·by_cases h0:vals.length=0
  ·rw [h0];omega
  ·have:∃v1,vals[vals.length-1]?=some v1:=⟨vals[vals.length-1]'(by omega),List.getElem?_eq_getElem (by omega)⟩
   obtain ⟨v1,hv1⟩:=this;obtain ⟨_,c',t',fr',hblk',hoff1⟩:=qlm (h6 _ _ hv1);simp only at hblk' hoff1;rw [hblk]at hblk';cases hblk'
   have:=(Array.getElem?_eq_some_iff.1 hoff1).1;omega
theorem qw7{d:Nat}{e:TypeId}{cs:List Ty}{τ:Ty}(hc:qbX P d e=some cs)(hτ:qEs P e cs=some τ)(hones:∀c∈cs,c.one=true):τ.qcq=true/\τ.qbv=cs.length:=by
 have agg:∀cs:List Ty,(∀c∈cs,c.one=true)->(cs.foldr Ty.pair .unit).qoW=true/\(cs.foldr Ty.pair .unit).qcq=true/\(cs.foldr Ty.pair .unit).qbv=cs.length:=by
  intro cs;induction cs with
  |nil=>intro _;exact ⟨rfl,rfl,rfl⟩
  |cons c cs ih =>
   intro h;obtain ⟨h1,_,h3⟩:=ih λc' hc'=>h c' (by simp [hc']);simp only [List.foldr_cons,Ty.qoW,Ty.qcq,Ty.qbv,h c (by simp),h1,h3,Bool.and_self,List.length_cons];exact ⟨trivial,trivial,trivial⟩
 unfold qEs at hτ;split at hτ
 ·cases hτ;exact ⟨(agg cs hones).2.1,(agg cs hones).2.2⟩
 ·cases hτ;exact ⟨(agg cs hones).2.1,(agg cs hones).2.2⟩
 ·split at hτ
  ·cases hτ;have h1:=hones τ (by simp);cases τ<;>first|exact ⟨rfl,rfl⟩|simp [Ty.one]at h1
  ·cases hτ
theorem qnh{α β:Type}{g:α->Option β}:∀{l:List α} {r:List β},l.mapM g=some r->r.length=l.length/\∀(i:Nat) (a:α),l[i]?=some a->∃b,r[i]?=some b/\g a=some b
 |[],r,h=>by simp at h;subst h;exact ⟨rfl,by simp⟩
 |a::l,r,h=>by
  simp only [List.mapM_cons,Option.bind_eq_bind,qh]at h;obtain ⟨b,hb,r',hr',h⟩:=h;cases h;obtain ⟨h1,h2⟩:=qnh hr';refine ⟨by simp [h1],λi x hi=>?_⟩;cases i with
  |zero=>simp at hi;subst hi;exact ⟨b,rfl,hb⟩
  |succ n=>obtain ⟨c,hc,hg⟩:=h2 n x (by simpa using hi);exact ⟨c,by simpa using hc,hg⟩
theorem qfU:∀(d:Nat) (t:TypeId) (cs:List Ty),qbX P d t=some cs->∀c∈cs,c.one=true
 |0,t,cs,h=>by simp [qbX]at h
 |d+1,t,cs,h=>by
  simp only [qbX]at h;split at h
  ·cases h;simp [Ty.one]
  ·cases h;simp [Ty.one]
  ·cases h;simp [Ty.one]
  ·cases h;simp [Ty.one]
  ·cases h;simp [Ty.one]
  ·split at h
   ·cases h;simp [Ty.one]
   ·cases h;simp [Ty.one]
   ·cases h;simp [Ty.one]
   ·cases h
  ·rename_i fields _;obtain ⟨css,hcss,rfl⟩:=qf.1 h;obtain ⟨h1,h2⟩:=qnh hcss;intro c hc;obtain ⟨q,hq,hcq⟩:=List.mem_flatten.1 hc;obtain ⟨i,hi⟩:=List.mem_iff_getElem?.1 hq;have hlt:i<fields.toList.length:=by have:=(qq.1 hi).1;omega
   obtain ⟨b,hb,hg⟩:=h2 i _ (List.getElem?_eq_getElem hlt);rw [hi]at hb;cases hb;exact qfU d _ _ hg c hcq
  ·obtain ⟨q,hq,rfl⟩:=qf.1 h;intro c hc;obtain ⟨q',hq',hcq⟩:=List.mem_flatten.1 hc;obtain ⟨_,rfl⟩:=List.mem_replicate.1 hq';exact qfU d _ _ hq c hcq
  ·cases h
end
section
variable {H:Type} {enc:TypeId × Value->H} {P:Program} {w:World} {base:Nat} {held:Bool}
theorem qvm{d:Nat}{e:TypeId}{cs1 cs:List Ty}(hc:qbX P d e=some cs1)(h:(match qbX P d e,P.underlying e with
   |some cs,some (.struct _)=>some [Ty.sl (cs.foldr .pair .unit)]
   |some cs,some (.array ..)=>some [.sl (cs.foldr .pair .unit)]
   |some [τ],_=>some [.sl τ]
   |_,_=>none)=some cs):∃τ,cs=[.sl τ]/\qEs P e cs1=some τ:=by
 rw [hc]at h;unfold qEs;cases hu:P.underlying e with
 |none=>rw [hu]at h;simp only at h ⊢;split at h<;>simp_all
 |some dd =>
  rw [hu]at h;cases dd<;>simp only at h ⊢<;>first|(simp only [qe]at h;exact ⟨_,h.symm,rfl⟩)|(split at h<;>simp_all)
theorem qAf{X:Cx}:Rep w X (.sl .shared false []) (.slice none 0 0) []:=by simp [Rep,ptrsL]
theorem qAh{X:Cx}(a:Addr):Rep w X (.sl .shared false []) (.slice (some a) 0 0) []:=by simp [Rep,ptrsL]
theorem qiP(hl:laidOutB P=true){N:Nat}{S:DataW H->Prop}(hS:Sm N S):∀(d:Nat) (t:TypeId) (cs:List Ty),qbX P d t=some cs->okT P d t=true->∀(fuel:Nat) (vals:List Value) (x:DataW H×List MemPlace),S x.1 ->
  DataW.trod enc P w base (λ_=>true) held fuel t vals=some x->All2 (qvI N w) cs vals
 |0,t,cs,hc,_,fuel,vals,x,hx,h=>by simp [qbX]at hc
 |d+1,t,cs,hc,hok,fuel,vals,x,hx,h=>by
  simp only [qbX]at hc;simp only [okT,qi,decide_eq_true_eq]at hok;split at hc
  ·rename_i k hu;cases hc;obtain ⟨n,rfl,rfl,hwf⟩:=DataW.trod_int hu h;refine .cons ⟨n,.val (.int k n),?_,by simp [RTy],by simp [Rep]⟩ .nil;simp only [Rng];simp only [Lit.wf,qi,decide_eq_true_eq]at hwf;exact hwf
  ·rename_i hu;cases hc;obtain ⟨b,rfl,rfl⟩:=DataW.trod_bool hu h;exact .cons ⟨b,.val (.bool b),trivial,by simp [RTy],by simp [Rep]⟩ .nil
  ·rename_i hu;cases hc;obtain ⟨s,rfl,rfl,hs⟩:=DataW.trod_string hu h;have hsl:s.data.toList.length<=maxLen:=by
    have e:s.data.toList.length=s.size:=Array.length_toList;rw [e];exact hs
   exact .cons ⟨s.data.toList,.val (.string s),hS.str _ hx hsl,by simp [RTy],by simp [Rep]⟩ .nil
  ·rename_i hu;rw [hu]at hok;simp at hok
  ·rename_i hu;rw [hu]at hok;simp at hok
  ·rename_i e hu;obtain ⟨ht,hoe⟩:=hok;rw [hu]at hoe;simp only [qi,decide_eq_true_eq,beq_iff_eq]at hoe;cases hce:qbX P d e with
   |none=>rw [hce]at hc;simp at hc
   |some cs1 =>
    obtain ⟨τ,rfl,hτ⟩:=qvm hce (by rw [hce];rw [hce]at hc;exact hc);obtain ⟨hel,hnc⟩:=qw7 hce hτ (qfU d e cs1 hce);rcases open_slice hu h with ⟨rfl,rfl⟩|⟨a,len,cap,m,n,D,Pl,rfl,hb,hlc,hcm,hm,rfl,hx'⟩
    ·exact .cons ⟨[],.sl .shared false [],⟨Nat.zero_le _,by simp⟩,by simp only [RTy];exact ⟨_,_,[],rfl,qhO rfl (by simp) (λ_=>rfl),.nil⟩,qAf⟩ .nil
    ·simp only [if_true]at hm;subst hm;obtain ⟨hN,hSe⟩:=hS.slice _ _ hx (by simp;omega);by_cases hcap:m=0
     ·subst hcap;have hlen:len=0:=by omega
      subst hlen;exact .cons ⟨[],.sl .shared false [],⟨Nat.zero_le _,by simp⟩,by simp only [RTy];exact ⟨_,_,[],rfl,qhO rfl (by simp) (λ_=>rfl),.nil⟩,qAh a⟩ .nil
     ·have hspot:a.spot=none:=by
       obtain ⟨cs',hcs',_⟩:=hx' 0 (by omega);obtain ⟨_,hl1,hc1⟩:=World.cells?_some hcs';have h0:=hc1 0 (by omega);simp only [Nat.zero_mul]at h0;have:∃v0,cs'[0]?=some v0:=⟨cs'[0]'(by omega),List.getElem?_eq_getElem (by omega)⟩
       obtain ⟨v0,hv0⟩:=this;rw [hv0]at h0;have:=(qlm h0).1;simpa [Addr.add]using this
      obtain ⟨b,off,spot⟩:=a;simp only at hspot;subst hspot;have hsz:∀i,i<m->∃vals:List Value,vals.length=P.cellsOf e/\(∀j,j<P.cellsOf e->w.cell? ⟨b,off+i*P.cellsOf e+j,none⟩=vals[j]?) /\
        (i<len->∃(y:τ.den) (u:V) (v:Value),Rng N τ y/\RTy τ 1000 y u/\Rep w (cx0 w) u v []/\v.cells.toList=vals):=λi hi=>by
       obtain ⟨cs',hcs',htr⟩:=hx' i hi;obtain ⟨_,hl1,hc1⟩:=World.cells?_some hcs';refine ⟨cs',hl1,λj hj=>?_,λhil=>?_⟩
       ·rw [<- hc1 j hj,Addr.add_lit,Addr.add_lit]
       ·have hSi:S (D i):=hSe _ (List.mem_map.2 ⟨i,List.mem_range.2 hil,rfl⟩);exact qDy hce hτ (qiP hl hS d e cs1 hce hoe.2 n cs' _ hSi htr)
      have hn:τ.qbv=P.cellsOf e:=by
       have:=hoe.1.2;rw [hce]at this;simp only [qn,qe]at this;rw [hnc,this]
      obtain ⟨l,us,h1,h2,h3,h4⟩:=qAw (Nat.pos_of_ne_zero hoe.1.1) hlc hcap hel hn hsz;exact .cons ⟨l,.sl .shared false us,⟨by rw [h1];simpa using hN,h2⟩,by simp only [RTy];exact ⟨_,_,us,rfl,qhO rfl (by simp) (λ_=>rfl),h3⟩,h4⟩ .nil
  ·rename_i fields hu;obtain ⟨ht,hoe⟩:=hok;rw [hu]at hoe;simp only [List.all_eq_true]at hoe;obtain ⟨css,hcss,rfl⟩:=qf.1 hc;obtain ⟨hl1,hget⟩:=qnh hcss;obtain ⟨xs,n,_,rfl,hvl,hxl,hxs⟩:=DataW.trod_struct hu h;obtain ⟨_,hsum,hoff⟩:=kid_struct hl ht hu;refine glue css (fields.toList.map λf=>P.cellsOf f.type) vals (by simp [hl1]) (by rw [hvl,hsum]) λj c s hcj hsj=>?_;rw [List.getElem?_map]at hsj;obtain ⟨fd,hfd,rfl⟩:=qf.1 hsj;obtain ⟨c',hc',hg⟩:=hget j fd hfd;rw [hcj]at hc';cases hc';have hx1:=hxs j fd (by simpa using hfd);rw [hoff j fd hfd,List.map_take]at hx1;have hj:j<xs.length:=by rw [hxl];have:=(qq.1 hfd).1;simpa using this
   rw [List.getElem?_eq_getElem hj]at hx1;exact qiP hl hS d fd.type c hg (hoe fd (List.mem_of_getElem? hfd)) n _ _ (hS.agg _ hx _ (List.mem_map.2 ⟨xs[j],List.getElem_mem hj,rfl⟩)) hx1
  ·rename_i n' e hu;obtain ⟨ht,hoe⟩:=hok;rw [hu]at hoe;simp only at hoe;obtain ⟨cs1,hce,rfl⟩:=qf.1 hc;obtain ⟨_,hsum⟩:=kid_array hl ht hu;cases fuel with
   |zero=>simp [DataW.trod]at h
   |succ fuel =>
    unfold DataW.trod at h;rw [hu]at h;simp only at h;split at h
    ·rename_i hvl;obtain ⟨xs,hxs,rfl⟩:=qf.1 h;obtain ⟨hxl,hget⟩:=qnh hxs;refine glue _ (List.replicate n' (P.cellsOf e)) vals (by simp) (by rw [hvl,hsum];simp) λj c s hcj hsj=>?_;have hjn:j<n':=by have:=(qq.1 hcj).1;simpa using this
     rw [List.getElem?_replicate,if_pos hjn]at hcj hsj;cases hcj;cases hsj
     obtain ⟨b,hb,hg⟩:=hget j j (by simp [hjn]);have htk:((List.replicate n' (P.cellsOf e)).take j).sum=j*P.cellsOf e:=by
      rw [List.take_replicate];simp [Nat.min_eq_left (Nat.le_of_lt hjn)]
     rw [htk];exact qiP hl hS d e cs1 hce hoe fuel _ _ (hS.agg _ hx _ (List.mem_map.2 ⟨b,List.mem_of_getElem? hb,rfl⟩)) hg
    ·cases h
  ·cases hc
theorem qBY(hl:laidOutB P=true){N:Nat}{S:DataW H->Prop}(hS:Sm N S){t:TypeId}{τ:Ty}(hτ:qC8 P t=some τ)(hok:okT P 10 t=true){v:Value}{d:DataW H}{ps:List MemPlace}{b0:Nat}(hval:Value.okWide P w .any b0 t v)
  (h:DataW.Trod enc P w base (λ_=>true) held t v d ps) (hd:S d):qvI N w τ v:=by
 obtain ⟨fuel,hf⟩:=h;unfold qC8 at hτ;split at hτ
 ·rename_i cs hc;have hall:=qiP hl hS 10 t cs hc hok fuel _ _ hd hf;split at hτ
  ·rename_i ha;cases hτ;obtain ⟨y,us,hy,hu,hr⟩:=qu6 cs _ hall;have hv:∃c,v=.agg c:=by
    unfold qY at ha;unfold Value.okWide at hval;split at ha
    ·rename_i fs hfs;rw [hfs]at hval;obtain ⟨c,hc,_⟩:=hval;exact ⟨c,hc⟩
    ·rename_i n e hfs;rw [hfs]at hval;obtain ⟨c,hc,_⟩:=hval;exact ⟨c,hc⟩
    ·cases ha
   obtain ⟨c,rfl⟩:=hv;refine ⟨y,.agg us,hy,hu,?_⟩;simp only [Rep];exact ⟨c.toList,by simp,by simpa [Value.cells]using hr⟩
  ·rename_i ha
   match cs,hτ,hall with
   |τ'::cs',hτ,hall =>
    simp only [List.head?_cons,qe]at hτ;subst hτ;have hone:=qfU 10 t _ hc τ' (by simp);have hv:v.cells.toList=[v]:=by
     cases v with
     |agg c =>
      exfalso
      unfold qY at ha;unfold Value.okWide at hval;split at hval
      ·rename_i fs hfs;rw [hfs]at ha;simp at ha
      ·rename_i n e hfs;rw [hfs]at ha;simp at ha
      ·unfold Cell.okWide Cell.ok at hval;split at hval;all_goals first|(rename_i h1 h2;cases h2;done)|skip
       all_goals (split at hval<;>first|(exact hval.elim)|(rename_i h1 h2;cases h2))
     |_=>rfl
    rw [hv]at hall;cases hall with
    |cons h1 h2=>exact h1
 ·cases hτ
theorem qtz(hl:laidOutB P=true){N:Nat}{S:DataW H->Prop}(hS:Sm N S){b0:Nat}:∀(ts:List TypeId) (τs:List Ty) (vs:List Value) (ds:List (DataW H)) (ps:List MemPlace),ts.mapM (qC8 P)=some τs->ts.all (okT P 10)=true ->
  (∀(j:Nat) t v,ts[j]?=some t->vs[j]?=some v->Value.okWide P w .any b0 t v)->DataW.TrodAll enc P w base (λ_=>true) held ts vs ds ps->(∀d∈ds,S d) ->
  ∃x us,qEy N τs x/\RVL (qfP (τs.map .ty) x) us/\RepL w (cx0 w) us vs []
 |[],τs,vs,ds,ps,hm,_,_,h,_=>by
  simp at hm;subst hm;obtain ⟨rfl,_,_⟩:=trodAll_nil h;exact ⟨(),[],trivial,qak,by simp [RepL]⟩
 |t::ts,τs,vs,ds,ps,hm,hok,hval,h,hd=>by
  simp only [List.mapM_cons,Option.bind_eq_bind,qh]at hm;obtain ⟨τ,hτ,τs',hm',he⟩:=hm;cases he;simp only [List.all_cons,qi]at hok;obtain ⟨v,vs',d,ds',p,q,rfl,rfl,rfl,h1,h2⟩:=trodAll_cons h;obtain ⟨y,u,hy,hu,hr⟩:=qBY hl hS hτ hok.1 (hval 0 t v rfl rfl) h1 (hd d (by simp));obtain ⟨x,us,hx,hus,hrs⟩:=qtz hl hS ts τs' vs' ds' q hm' hok.2 (λj t' v' a b=>hval (j+1) t' v' (by simpa using a) (by simpa using b)) h2 λd' hd'=>hd d' (by simp [hd']);have hR:RepL w (cx0 w) (u::us) (v::vs') []:=by simp only [RepL];exact ⟨v,vs',[],[],rfl,rfl,hr,hrs⟩
  cases τs' with
  |nil=>exact ⟨y,u::us,hy,(qC.2 ⟨rv_ofTy _ _ _ _ hu,hus⟩:RVL (ofTy τ 1000 y::[]) (u::us)),hR⟩
  |cons τ2 τs2=>exact ⟨(y,x),u::us,⟨hy,hx⟩,(qC.2 ⟨rv_ofTy _ _ _ _ hu,hus⟩:RVL (ofTy τ 1000 y::qfP ((τ2::τs2).map .ty) x) (u::us)),hR⟩
theorem qlc(hl:laidOutB P=true){W W':World}(hb:Below W.heap.size W W'):∀{ts:List TypeId} {vs:List Value} {ds:List (DataW H)} {ps:List MemPlace},ts.all (λt=>P.readableRec t&&decide (t<P.types.size))=true ->
  DataW.TrodAll enc P W 0 (λ_=>true) true ts vs ds ps->(∀x∈ps,x.block<W.heap.size)->∀sp:Nat->Bool,(∀p∈ps,sp p.block=true)->DataW.TrodAll enc P W' 0 sp true ts vs ds ps
 |[],[],[],ps,_,h,_,sp,_=>h
 |t::ts,v::vs,d::ds,ps,hr,⟨p,q,h1,h2,e⟩,hlt,sp,hsp=>by
  simp only [List.all_cons,qi,decide_eq_true_eq]at hr;subst e;refine ⟨p,q,?_,qlc hl hb hr.2 h2 (λx hx=>hlt x (List.mem_append_right _ hx)) sp (λx hx=>hsp x (List.mem_append_right _ hx)),rfl⟩;exact WideElems.Trod_stays hl hr.1.1 hr.1.2 h1 (λx hx=>hb.same (hlt x (List.mem_append_left _ hx))) (λx hx=>hsp x (List.mem_append_left _ hx))
theorem qFQ{w:World}:LRel [] w (cx0 w) (λ_=>[]) where
 box:=λr c h=>by simp [qbD]at h
 boxD:=λ_ _=>rfl
 inj:=λr r' b h=>by simp [qbD]at h
 lin:=λ_=>Lin.nil
 dis:=λ_ _ _ b hb=>by cases hb
 ptrB:=λr c h=>by simp [qbD]at h
 up:=λr c h=>by simp [qbD]at h
 dom:=λb e fz h=>(frozen0 h).2.1
theorem qzt{H0:Hints}{lib:FuncId->Option (List V->Option V)}(hm:P.follows .mixedOrders=true)(qdJ:qj7 P H0)
  (qxi:∀g h args r,lib g=some h->h args=some r->qa9 P g args [] r []) (hl:laidOutB P=true) {N:Nat} {S:DataW H->Prop} (hS:Sm N S) {k:FuncId} {fn:Func} (hfn:P.funcs[k]?=some fn) (hbody:fn.body.isSome=true)
  {ts:List TypeId} {τs:List Ty} (hts:ts.mapM (qC8 P)=some τs) (hok:ts.all (okT P 10)=true) {F:denP (τs.map .ty)->Option Bool}
  (he:qby P H0 lib ⟨k,τs.map .ty,[(.bool,0)],F⟩) (hF:∀x,qEy N τs x->F x=some true)
  {W:World} {args:Array Value} {ds:List (DataW H)} {ps:List MemPlace} {b0:Nat} (hval:∀(j:Nat) t v,ts[j]?=some t->args.toList[j]?=some v->Value.okWide P W .any b0 t v)
  (h:DataW.TrodAll enc P W 0 (λ_=>true) true ts args.toList ds ps) (hd:∀d∈ds,S d) (hgl:qhG W (cx0 W)) :
  Calls P k args W λe W'=>e=.returned (.bool true)/\Below W.heap.size W W':=by
 obtain ⟨x,us,hx,hus,hrs⟩:=qtz hl hS ts τs args.toList ds ps hts hok hval h hd;obtain ⟨v,hcall,hr⟩:=qw8 hm qdJ qxi he (x:=x) (y:=true) (hF x hx) hus;simp only [qi3,ofL,qbC,ofTy,RV,RTy]at hr;subst hr;have hp:ptrsL us=[]:=by
  apply List.eq_nil_iff_forall_not_mem.2;intro q hq;have hk:∀(τs:List Ty) (x:denP (τs.map .ty)),ptrsTL (qfP (τs.map .ty) x)=[]:=by
   have h1:∀(τ:Ty) (y:τ.den),(ofTy τ 1000 y).qx=[]/\ptrsTL (ofTyC τ 1000 y)=[]:=by
    intro τ;induction τ with
    |pair a b iha ihb=>intro y;simp [ofTy,ofTyC,TV.qx,ptrsTL,(iha y.1).1,(ihb y.2).2]
    |_=>intro y;simp [ofTy,ofTyC,TV.qx,ptrsTL]
   intro τs;induction τs with
   |nil=>intro x;rfl
   |cons τ τs ih =>
    intro x;cases τs with
    |nil=>show ptrsTL [ofTy τ 1000 x]=[];simp [ptrsTL,(h1 τ x).1]
    |cons τ2 τs2=>show ptrsTL (ofTy τ 1000 x.1::qfP ((τ2::τs2).map .ty) x.2)=[];simp only [ptrsTL,(h1 τ x.1).1,List.nil_append];exact ih x.2
  have:=RVL.qx _ _ hus q hq;rw [hk]at this;cases this
 rcases hcall W (cx0 W) args.toList (λ_=>[]) hrs hgl qFQ (λq hq=>by rw [hp]at hq;cases hq) (λ_ b e fz h=>(frozen0 h).1)with ⟨_,hc⟩|⟨_,v,w',hv,_⟩
 ·refine (by simpa using hc:Calls P k args W _).mono ?_;rintro e W' ⟨v,rfl,X',O',Or,hrep,_,_,_,_,_,_,haft⟩;simp only [Rep]at hrep;obtain ⟨rfl,_⟩:=hrep;refine ⟨rfl,⟨haft.os,haft.tape,haft.out,haft.size,λb hb=>?_⟩⟩;exact (haft.kept b hb (by rintro (⟨r,h1,_⟩|⟨r,h1⟩)<;>simp [qbD]at h1)).1
 ·exfalso
  have hbs:fn.body.isNone=false:=by cases hb:fn.body<;>simp_all
  simp only [callFunc,Sem.run_bind,run_program,Result.andThen_ok,hfn,qdJ.1 k fn hfn hbody,hbs,qj,if_false,Sem.run_pure]at hv;cases hv
end
end Go.Tx
end
section
namespace Go.Proofs.YteiciemjanhdcaaGreatDoor.Hn
open Go
def qF8:List (List Nat):=[[],[],[],[49,61,65,81,86,88,96,102,104,106,213,261],[61,69,81,91,121,122,126,132,137,139,144,149,158,163,167,169,173,177,179,182,184,186,189,191,193,208,220,224,229,269],[36,41,44,46,51,54,67,68,77,78,82,83,90,91,95,105,106,108,110,113],[42,45,47,50,52,55,57,60,73,74,78,79,84,85,89,90,97,98,100,102,105,110,113,115,117,118,120,122,125],[86,96,98,110,115,121,135,141,143,151,157,159,167,170,175,178,184,191,198,200,251,262,265,271,273,276,280],[5,10,19,34,38],[13,21],[],[13,28,32,37,41,42,47],[],[],[10,13,15,29,30],[12,24],[],[],[],[],[15,30,38,44,46,50,55,59],[12,19,21],[6,11,18,26,30],[],[13],[],[5,10],[15,50,53,56],[9,12,14,28,43],[],[10,13,15,21,22],[],[],[],[21,32,35,65],[17,25,31],[28,47,51],[14,19,23,25,31,38,44,51,59,63,69,73,77,81,92,96,100],[],[8,11,13,42],[10,13,15,21,22],[],[],[],[11,16,21,30,33,35,40,55,64,68,72,76,84,88],[],[12,13,18],[11,19],[15,16,18,20,22,23,30],[21,27,29,31,32,39,40],[10,13,15,32],[22],[31],[],[5,10],[8],[8],[],[17],[8,17],[11],[14,21,22,36,37],[],[10,18,50,52],[],[],[],[11,17,30],[10,16],[13],[6],[],[37],[18,19,24,25,30,31,36,39,43,46,47,48],[13],[],[19,52,56,71],[11],[17,48,59],[],[],[],[],[],[9],[],[10,19,31],[],[],[],[23],[14],[],[],[],[13,18,33,34],[7,17],[12,13,18],[5,10],[13],[],[6],[],[],[],[20,43,62],[33,56,57,60],[10,18,41],[],[],[11],[],[],[],[19,28,30,31,34],[22],[],[15,34,74,78,87],[],[9],[12,28],[],[],[],[],[5,10],[19,21,28,30],[30,38,39,46,49,52,53,54,58],[14,24,25],[26,45],[],[],[51,55,56,59],[38,54,73,83,93,95],[12],[18,44],[],[23],[33,43,53,71],[15,22],[],[],[27,28,55,70],[26,29,36],[],[],[],[15,23,29,32],[],[48,58,64,77],[],[],[8,14],[],[],[],[],[12],[],[17],[8,12],[16],[],[8,16],[55],[13,19],[],[],[6,13,15,17],[],[17],[15],[34],[10,29],[16,25,26,30],[27,35,47,50],[15,24],[],[65,69],[],[],[],[17,20],[30,38,62,64,68],[38,50,57,73],[],[16,17,21,29],[],[21,31,37,44,45],[],[29,39,40,43],[],[],[16,23,31,32,35],[],[],[],[17,20,33],[],[],[],[],[],[],[],[],[27],[22],[17],[31,36,40,44,51,53],[],[27],[21,22,31,32],[9,24],[],[],[],[],[],[33,37,38],[],[19],[17],[60,64,69,70,75,76],[42],[12],[18,22,23],[],[],[],[],[],[],[],[21,22,28],[16,23,31,32,35],[],[15,27,40,44],[14],[],[],[25,26],[],[20,26],[75,94,115,116,140,141],[],[],[160,163],[82,95,96,99],[],[],[18,22,23],[],[],[17],[],[25,39,53,63,67,69,72],[],[],[],[],[],[17],[17],[25,26],[24,39,43,60,64,76,78,82,87,99,103,108,113],[],[],[],[11,78,79],[],[],[],[],[],[119,130,142,149,153,160,162,164,166,171],[],[],[],[37,38],[],[],[],[88,90,92],[],[],[],[],[],[],[],[],[],[],[],[],[],[],[],[],[],[],[],[],[],[],[],[],[],[],[],[],[],[]]
def qEJ:List (List (Nat×List Nat)):=[[],
 [],
 [],
 [(0,[11,12,13,14,15,16,17,21,75,76,77,78,79,80,81,82,83,84,85,86,87,88,89,90,91,92,93,94,95,96,97,98,99,100,101,102,103,104,105,106,107,108,109,110,111,112,113,114,115,116,117,118,119,120,121,122,123,124,125,126,127,128,129,130,131,132,133,134,135,136,137,138,139,140,141,142,143,144,145,146,147,148,149,150,151,152,153,154,155,156,157,158,159,160,161,162,163,164,165,166,167,168,169,170,171,172,173,174,175,176,177,178,179,180,181,182,183,184,185,186,187,188,189,190,191,192,193,194,195,196,197,198,199,200,201,202,203,204,205,206,207,208,209,210,211,212]),(2,[11,16,17,21,135,136,137,138,139,140,141,142,143,144,145,146,147,148,149,150,151,152,153,154,155,156,157,158,159,160,161,162,163,164,165,166,167,168,169,170,171,172,173,174,175,176,177,178,179,180,181,182,183,184,185,186,187,188,189,190,191,192,193,194,195,196,197,198,199,200,201,202,203,204,205,206,207]),(4,[11,21,238,239,240,241,242,243,244,245,246,247,248,249,250,251,252,253,254,255,256,257,258,259,260,261,262,263,264,265,266,267,268])],
 [(0,[13,18,24,55,56,57,58,59,60,61,62,63,64,65,66,67,68,69,70,71,72,73,74,75,76,77,78,79,80,81,82,83,84,85,86,87,88,89,90,91,92,93,94,95,96,97,98,99,100]),(2,[8,10,11,13,18,24,232,233,234,235,236,237,238,239,240,241,242,243,244,245,246,247,248,249])],
 [],
 [],
 [(0,[9,10,13,22,79,80,81,82,83,84,85,86,87,88,89,90,91,92,93,94,95,96,97,98,99,100,101,102,103,104,105,106,107,108,109,110,111]),(2,[9,13,25,214,215,216,217,218,219,220,221,222,223,224,225,226,227,228,229,230,231,232,233,234,235,236,237,238,239,240,241,242,243,244,245,246,247,248,249,250])],
 [],
 [],
 [],
 [(0,[31,32,33,34,35,36,37,38,39,40,41,42,43,44,45,46])],
 [],
 [],
 [],
 [(0,[5,9,10,11,12,13,14,15,16,17,18,19,20,21,22,23])],
 [(0,[11,12,13,14,15,16,17,18,19,20,21,22,23,24,25])],
 [(0,[10,11,12,13,14,15,16,17,18,19,20,21])],
 [],
 [],
 [(0,[13,14,31,32,33,34,35,36,37,38,39,40,41,42,43,44,45,46,47,48,49,50,51,52,53,54,55,56,57,58,59])],
 [(0,[30,31,32,33,34,35,36,37,38,39,40,41,42,43,44,45,46,47,48,49,50,51,52,53,54,55,56,57,58,59,60,61,62,63,64,65,66,67,68,69,70,71,72,73,74,75,76,77,78,79])],
 [],
 [],
 [],
 [(0,[9,10,11,12,13,14,15,16,17,18,19,20,21,22,23,24,25,26,27,28,29,30,31,32,33])],
 [],
 [],
 [],
 [],
 [],
 [],
 [],
 [(0,[11,12,13,14,15,16,17,18,19,20,21,22,23,24,25])],
 [(0,[9,28,29,30,31,32,33,34,35,36,37,38,39,40,41,42,43]),(2,[11,61,62,63,64,65,66,67,68,69,70,71])],
 [(0,[18,19,20,21,22,23,24,25,26,27,28,29,30])],
 [(0,[29,30,31,32,33,34,35,36,37,38,39,40,41,42,43,44,45,46,47,48,49,50])],
 [],
 [],
 [],
 [],
 [],
 [],
 [],
 [],
 [],
 [(0,[5,9,10,11,12,13,14,15,16,17])],
 [(0,[5,6,7,8,9,10,11,12,13,14,15,16,17,18])],
 [],
 [(0,[7,8,15,16,17,18,19,20,21,22,23,24,25,26,27,28,29,30,31,32,33,34])],
 [(0,[20,21,22,23,24,25,26,27,28,29,30,31])],
 [(0,[5,6,7,8,9,10,11,12,13,14,15,16,17,18,19,20,21])],
 [(0,[5,6,7,8,9,10,11,12,13,14,15,16,17,18,19,20,21,22,23,24,25,26,27,28,29,30])],
 [(0,[11,12,13,14,15,16,17,18,19,20,21,22,23,24,25,26])],
 [],
 [],
 [],
 [],
 [],
 [],
 [],
 [],
 [],
 [],
 [],
 [],
 [],
 [],
 [],
 [(0,[4,8,9,10,11,12,13,14])],
 [],
 [],
 [(0,[9,10,18,19,20,21,22,23,24,25,26,27,28,29,30,31])],
 [],
 [],
 [],
 [(1,[7,42,43,44,45,46,47,48,49,50,51,52,53,54,55]),(3,[10,66,67,68,69,70,71,72,73])],
 [],
 [(0,[7,8,9,10,14,15,16,17,18,19,20,21,22,23,24,25,26,27,28,29,30,31,32,33,34,35,36,37,38,39,40,41,42,43,44,45,46,47,48,49,50,51,52,53,54,55,56,57,58]),(2,[7,9,10,20,21,22,23,24,25,26,27,28,29,30,31,32,33,34,35,36,37,38,39,40,41,42,43,44,45,46,47])],
 [],
 [],
 [],
 [],
 [],
 [],
 [],
 [],
 [],
 [],
 [(0,[6,7,8,9,10,11,12,13,14,15,16,17])],
 [(0,[11,12,13,14,15,16,17,18,19,20,21,22,23])],
 [],
 [(0,[5,12,13,14,15,16,17,18,19,20,21,22,23,24,25,26,27,28,29,30,31,32,33,34,35,36,37,38,39,40,41,42,43,44,45])],
 [],
 [(0,[5,9,10,11,12,13,14,15,16,17,18]),(2,[12,13,14,15,16,17])],
 [],
 [],
 [(0,[5,9,10,11,12,13,14,15,16,17])],
 [],
 [(0,[4,8,9,10,11,12,13,14])],
 [],
 [],
 [],
 [],
 [],
 [(0,[9,10,11,24,25,26,27,28,29,30,31,32,33,34,35,36,37,38,39,40,41,42,43,44,45,46,47,48,49,50,51,52,53,54,55,56,57,58,59,60,61])],
 [(0,[12,14,15,39,40,41,42,43,44,45,46,47,48,49,50,51,52,53,54,55,56,57,58,59]),(2,[14,15,48,49,50,51,52,53,54,55,56,57,58])],
 [(0,[9,24,25,26,27,28,29,30,31,32,33,34,35,36,37,38,39,40,41,42])],
 [],
 [],
 [],
 [(0,[11,12,13,14,15,16,17,18,19,20,21,22,23,24,25])],
 [(0,[21,22,23,24,25,26,27,28,29,30,31,32,33,34,35,36,37,38])],
 [],
 [(0,[9,10,13,14,15,16,17,18,19,20,21,22,23,24,25,26,27,28,29,30,31,32,33])],
 [(0,[5,6,7,8,9,10,11,12,13,14,15,16,17,18,19,20,21])],
 [(0,[5,6,7,8,9,10])],
 [(0,[11,13,14,39,40,41,42,43,44,45,46,47,48,49,50,51,52,53,54,55])],
 [],
 [],
 [(0,[16,17,18,19,20,21,22,23,24,25,26,27,28])],
 [],
 [(0,[11,12,13,14,15,16,17,18,19,20,21,22,23,24,25,26])],
 [(0,[10,11,12,13,14,15,16,17,18,19,20,21])],
 [],
 [],
 [(0,[8,9,10,11,12,13,14,15,16,17,18,19,20,21,22,23,24,25,26,27])],
 [(0,[9,10,11,12,13,16,17,18,19,20,21,22,23,24,25,26,27,28,29,30,31,32,33,34,35,36,37,38,39,40,41,42,43,44,45,46,47,48,49,50,51,52,53,54,55,56,57])],
 [(0,[5,10,11,12,13,14,15,16,17,18,19,20,21,22,23])],
 [(0,[5,12,13,14,15,16,17,18,19,20,21,22,23,24,25,26,27,28,29,30,31,32,33,34,35,36,37,38,39,40,41,42,43,44,45]),(2,[27,28,29,30,31,32,33,34,35,36,37,38,39,40,41,42,43,44,45])],
 [(0,[5,10,11,12,13,14,15,16,17,18,19,20,21,22,23,24,25,26,27,28,29,30,31,32,33,34,35])],
 [(0,[4,5,6,24,25,26,27,28,29,30,31,32,33,34,35,36,37,38,39,40,41,42,43,44,45,46,47,48,49,50,51,52,53,54,55,56,57,58,59,60,61,62,63,64,65,66,67,68,69,70,71,72,73,74,75,76,77,78,79,80,81,82,83]),(2,[64,65,66,67,68,69,70,71,72,73,74,75,76,77,78,79,80,81,82,83])],
 [(0,[7,8,9,10,11,12,13,14,15,16,17,18,19,20,21,22,23,24,25,26,27,28,29,30,31,32,33,34,35,36,37,38,39,40,41,42,43,44,45,46,47,48,49,50,51,52,53,54,55,56,57,58]),(2,[9,10,19,20,21,22,23,24,25,26,27,28,29,30,31,32,33,34,35,36,37,38,39,40,41,42,43,44,45,46,47,48,49,50,51,52,53,54]),(4,[27,28,29,30,31,32,33,34,35,36,37,38,39,40,41,42,43,44,45,46,47,48,49,50])],
 [(0,[7,8,9,10,48,49,50,51,52,53,54,55,56,57,58,59,60,61,62,63,64,65,66,67,68,69,70,71,72,73,74,75,76,77,78,79,80,81,82,83,84,85,86,87,88])],
 [],
 [(0,[7,9,10,15,16,17,18,19,20,21,22,23,24,25,26,27,28,29,30,31,32]),(2,[7,9,10,21,22,23,24,25,26,27,28,29,30,31])],
 [],
 [(0,[4,5,13,14,15,16,17,18,19,20,21,22,23,24,25,26,27,28,29,30,31,32])],
 [(0,[7,10,29,30,31,32,33,34,35,36,37,38,39,40]),(2,[7,10,12,50,51,52,53,54,55,56,57,58,59,60,61,62,63,64,65,66,67,68,69,70]),(4,[7,10,12,56,57,58,59,60,61,62,63,64,65,66,67,68,69])],
 [(0,[6,7,11,12,13,14,15,16,17,18,19,20,21,22,23])],
 [],
 [],
 [],
 [(0,[8,9,15,16,17,18,19,20,21,22,23,24,25,26,27,28,29,30,31,32,33,34,35]),(2,[9,19,20,21,22,23,24,25,26,27,28,29,30,31,32,33,34])],
 [],
 [],
 [],
 [(0,[4,5,6,7,11,12,13,14,15,16,17,18,19,20,21,22,23,24,25,26,27,28,29,30,31]),(2,[5,7,18,19,20,21,22,23,24,25,26,27])],
 [],
 [(0,[8,9,10,13,14,16,25,26,27,28,29,30,31,32,33,34,35,36,37,38]),(2,[9,13,14,15,16,45,46,47,48,49,50,51,52,53,54,55,56,57,58,59,60,61,62,63,64,65,66,67,68,69,70,71,72,73,74,75,76]),(4,[9,13,15,16,51,52,53,54,55,56,57,58,59,60,61,62,63])],
 [],
 [],
 [],
 [],
 [],
 [],
 [],
 [],
 [],
 [(0,[5,9,10,11,12,13,14,15,16,17,18])],
 [],
 [(0,[4,5,9,10,11,12,13,14,15,16,17,18,19,20,21,22])],
 [],
 [],
 [],
 [(0,[5,9,10,11,12,13,14,15,16,17,18,19,20,21,22,23,24,25,26])],
 [],
 [],
 [],
 [],
 [],
 [],
 [(0,[10,11,12,13,14,15,16,17,18,19,20,21,22,23,24,25,26,27,28,29,30,31,32,33])],
 [],
 [(0,[6,7,12,13,14,15,16,17,18,19,20,21,22,23,24,25,26,27,28,29])],
 [(0,[8,17,18,19,20,21,22,23,24,25,26,27,28,29,30,31])],
 [(0,[4,5,6,7,11,12,13,14,15,16,17,18,19,20,21,22,23,24,25,26,27,28,29,30,31,32,33,34,35,36,37,38,39,40,41,42]),(2,[5,6,7,18,19,20,21,22,23,24,25,26,27,28,29,30,31,32,33,34,35,36,37,38,39,40,41])],
 [],
 [(0,[41,42,43,44,45,46,47,48,49,50,51,52,53,54,55,56,57,58,59,60,61,62,63,64])],
 [],
 [],
 [],
 [],
 [(0,[5,6,7,12,13,14,15,16,17,18,19,20,21,22,23,24,25,26,27,28,29,30,31,32,33,34,35,36,37,38,39,40,41,42,43,44,45,46,47,48,49,50,51,52,53,54,55,56,57,58,59,60,61,62,63,64,65,66,67]),(2,[7,36,37,38,39,40,41,42,43,44,45,46,47,48,49,50,51,52,53,54,55,56,57,58,59,60,61])],
 [(0,[60,61,62,63,64,65,66,67,68,69,70,71,72])],
 [],
 [(0,[6,7,12,13,14,15,16,17,18,19,20,21,22,23,24,25,26,27,28])],
 [],
 [(0,[5,6,7,8,25,26,27,28,29,30,31,32,33,34,35,36,37,38,39,40,41,42,43,44,45,46])],
 [],
 [(0,[9,10,11,12,13,14,15,16,17,18,19,20,21,22,23,24,25,26,27,28,29,30,31,32,33,34,35,36,37,38,39,40,41,42]),(2,[20,21,22,23,24,25,26,27,28,29,30,31,32,33,34,35,36,37,38])],
 [],
 [],
 [(0,[5,6,8,12,13,14,15,16,17,18,19,20,21,22]),(2,[5,8,28,29,30,31,32,33,34])],
 [],
 [],
 [],
 [(0,[8,9,13,14,15,16,17,18,19,20,21,22,23,24,25,26,27,28,29,30,31,32])],
 [(0,[5,9,10,11,12,13,14,15,16,17,18]),(2,[12,13,14,15,16,17])],
 [],
 [(0,[8,12,13,14,15,16,17,18,19,20,21,22,23,24,25])],
 [(0,[5,14,15,16,17,18,19,20,21,22,23,24,25])],
 [],
 [],
 [],
 [],
 [],
 [],
 [(0,[5,9,10,11,12,13,14,15,16,17,18])],
 [],
 [],
 [],
 [],
 [],
 [],
 [],
 [(0,[4,14,15,16,17,18,19,20,21,22,23,24,25,26,27,28])],
 [],
 [],
 [(0,[7,8,9,17,18,19,20,21,22,23,24,25,26,27,28,29,30,31,32,33,34,35,36,37,38,39,40,41,42,43,44,45])],
 [],
 [],
 [(0,[5,9,10,11,12,13,14,15,16,17,18])],
 [(0,[8,50,51,52,53,54,55,56,57,58,59,60,61,62,63])],
 [],
 [],
 [(0,[6,7,8,12,13,14,15,16,17,18,19,20,21,22,23,24])],
 [],
 [],
 [],
 [],
 [],
 [],
 [],
 [(0,[6,18,19,20,21,22,23,24,25,26,27])],
 [(0,[5,6,8,12,13,14,15,16,17,18,19,20,21,22]),(2,[5,8,28,29,30,31,32,33,34])],
 [],
 [(0,[5,6,12,13,14,15,16,17,18,19,20,21,22,23,24,25,26,27,28]),(2,[7,8,29,30,31,32,33,34,35,36,37,38,39,40,41,42,43,44,45,46,47,48])],
 [],
 [],
 [],
 [],
 [],
 [(0,[8,9,14,15,16,17,18,19,20,21,22,23,24,25,26,27,28,29,30,31,32,33])],
 [(1,[11,12,13,57,58,59,60,61,62,63,64,65,66,67,68,69,70,71,72,73,74,75,76,77,78,79,80,81,82,83,84,85,86,87,88,89,90,91,92,93,94,95,96,97,98,99,100,101,102,103,104,105,106,107,108,109,110,111,112,113,114,115,116,117,118,119,120,121,122,123,124,125,126,127,128,129,130,131,132,133,134,135,136,137,138,139,140,141,142])],
 [],
 [],
 [(0,[5,6,7,8,9,10,11,19,20,21,22,23,24,25,26,27,28,29,30,31,32,33,34,35,36,37,38,39,40,41,42,43,44,45,46,47,48,49,50,51,52,53,54,55,56,57,58,59,60,61,62,63,64,65,66,67,68,69,70,71,72,73,74,75,76,77,78,79,80,81,82,83,84,85,86,87,88,89,90,91,92,93,94,95])],
 [(0,[44,45,46,47,48,49,50,51,52,53,54,55,56,57]),(2,[18,66,67,68,69,70,71,72,73,74,75,76,77,78,79,80,81,82])],
 [],
 [],
 [(0,[6,7,8,12,13,14,15,16,17,18,19,20,21,22,23,24])],
 [],
 [],
 [(0,[5,9,10,11,12,13,14,15,16,17,18])],
 [],
 [],
 [],
 [],
 [],
 [],
 [],
 [(0,[5,9,10,11,12,13,14,15,16,17,18])],
 [(0,[5,9,10,11,12,13,14,15,16,17,18])],
 [],
 [],
 [],
 [],
 [],
 [(0,[18,19,20,21,22,23,24,25,26,27,28,29]),(2,[41,42,43,44,45,46,47,48,49,50,51,52,53,54,55,56,57,58,59,60,61,62,63,64,65,66,67,68,69,70,71,72,73,74,75,76,77,78,79,80])],
 [],
 [],
 [],
 [],
 [],
 [(3,[15,16,17,102,103,104,105,106,107,108,109,110,111,112,113,114,115,116,117,118,119,120,121,122,123,124,125,126,127,128,129,130,131,132,133,134,135,136,137,138,139,140,141,142,143,144,145,146,147,148,149,150,151,152,153,154,155,156,157,158,159,160,161,162,163])],
 [],
 [],
 [],
 [(0,[9,10,11,12,13,14,15,16,17,18,19,20,21]),(2,[24,25,26,27,28,29,30,31,32,33,34,35,36])],
 [],
 [],
 [],
 [(0,[51,52,53,54,55,56,57,58,59,60,61,62,63,64,65,66,67,68,69,70,71,72,73,74,75,76,77,78,79,80,81,82,83,84,85,86,87,88,89,90,91])],
 [],
 [],
 [],
 [],
 [],
 [],
 [],
 [],
 [],
 [],
 [],
 [],
 [],
 [],
 [],
 [],
 [],
 [],
 [],
 [],
 [],
 [],
 [],
 [],
 [],
 [],
 [],
 [],
 [],
 []]
def qFN:List (List Nat):=[[],[],[],[],[],[],[],[108,111],[],[],[],[],[],[],[],[],[],[],[],[],[],[],[],[],[],[],[],[],[],[],[],[],[],[],[64,70],[],[],[],[],[],[],[],[],[],[],[],[],[],[],[],[],[],[],[],[],[],[],[],[],[],[],[],[],[],[],[],[],[],[],[],[],[],[22,30],[],[],[],[],[],[],[],[],[],[],[],[],[],[],[],[],[],[],[],[],[],[],[],[],[],[],[],[],[],[],[],[],[],[],[],[],[],[],[],[],[],[],[],[],[],[],[],[],[],[],[],[],[],[],[],[],[],[],[],[],[],[],[],[],[],[],[],[],[],[],[21,23,25,26,33],[],[],[],[],[],[29,37],[],[],[],[],[],[],[],[],[],[],[],[],[],[],[],[],[],[],[],[],[],[],[],[],[],[],[],[],[],[],[],[],[],[],[],[],[],[],[],[],[],[],[],[],[],[],[],[],[],[],[],[],[],[],[],[],[],[],[],[],[],[],[],[],[],[],[],[],[],[],[],[],[],[],[],[],[],[],[],[],[],[],[],[],[],[],[],[],[],[],[],[],[],[],[],[],[],[42,45,53,54,55,58,66,67,68,71,79,80,81,84,92,93,110,113,121,122,123,126,134,135,145,148,156,157,162,166],[],[],[],[],[],[],[],[],[],[],[],[],[],[],[],[],[],[],[],[],[],[],[],[],[],[],[],[],[],[],[],[],[],[],[],[],[],[],[],[],[],[],[],[],[],[],[],[],[],[],[],[],[],[],[],[],[],[],[],[],[],[],[],[],[],[]]
def qB4:List Nat:=[80,86,164,193,218,235,241,264]
def qFW:List Nat:=[143,205,242]
def qFS:List Nat:=[]
def qyJ:List Nat:=[]
def qEu:List (Nat×List (Nat×List Nat)):=[]
def qEP:List Nat:=[160]
def qFp(f:Nat):Option (List Int->Option (List Int)):=none
def qGf(f:Nat):Option Nat:=if f=124 then some 237 else none
def qFc:List (List (Nat×List (Nat×Nat))):=[[],
 [],
 [],
 [(5,[(0,3),(1,3),(0,6),(1,6),(3,6),(4,6),(0,9),(1,9),(3,9),(4,9),(6,9),(7,9)]),(17,[(0,3),(1,3)]),(18,[(10,14),(22,24)]),(23,[(3,10),(6,10),(3,15),(6,15),(10,15),(11,15),(3,18),(6,18),(10,18),(11,18),(3,20),(6,20),(10,20),(11,20),(15,20),(18,20),(3,23),(6,23),(10,23),(11,23),(15,23),(18,23),(3,25),(6,25),(10,25),(11,25),(15,25),(18,25),(20,25),(23,25),(24,25),(3,26),(6,26),(10,26),(11,26),(15,26),(18,26),(20,26),(23,26),(24,26),(25,26)]),(24,[(1,3),(1,6),(3,6),(11,13),(11,16),(13,16),(22,27),(23,27),(33,38),(34,38)]),(27,[(0,3),(1,3),(0,6),(1,6),(3,6),(4,6),(0,9),(1,9),(3,9),(4,9),(6,9),(7,9)])],
 [(5,[(1,4),(2,4),(1,8),(2,8),(4,8),(5,8)]),(31,[(3,9)])],
 [],
 [],
 [(9,[(1,3),(1,6)]),(24,[(1,2)]),(31,[(1,3)]),(39,[(1,6),(4,6),(1,9),(4,9),(1,11),(4,11),(6,11),(9,11),(10,11)]),(42,[(0,5),(1,5),(3,5)]),(43,[(0,5),(1,5),(3,5)]),(44,[(18,20)])],
 [],
 [],
 [],
 [],
 [(1,[(1,4),(2,4)])],
 [],
 [],
 [(5,[(2,6),(3,6)])],
 [(6,[(3,7)])],
 [],
 [],
 [],
 [],
 [(7,[(4,9),(4,16),(9,16),(26,31),(26,38),(31,38)])],
 [],
 [],
 [],
 [(5,[(3,7),(3,14),(7,14)])],
 [],
 [(8,[(1,3),(1,6),(3,6),(1,8),(3,8),(6,8),(1,12),(3,12),(6,12),(8,12),(1,14),(3,14),(6,14),(8,14),(12,14),(1,17),(3,17),(6,17),(8,17),(12,17),(14,17),(1,19),(3,19),(6,19),(8,19),(12,19),(14,19),(17,19)])],
 [],
 [],
 [],
 [],
 [],
 [(6,[(3,7)])],
 [(10,[(1,4),(2,4)])],
 [],
 [(8,[(2,6)])],
 [(7,[(53,54),(53,55)])],
 [],
 [(4,[(2,5),(2,8),(5,8),(2,10),(5,10),(8,10)])],
 [],
 [],
 [],
 [(3,[(1,3),(1,6),(3,6),(4,6)])],
 [],
 [],
 [],
 [],
 [],
 [],
 [],
 [],
 [(7,[(5,13),(6,13)])],
 [(6,[(3,7)])],
 [],
 [],
 [],
 [(1,[(1,4),(2,4)])],
 [],
 [(5,[(1,3),(1,6),(3,6),(4,6)])],
 [],
 [(7,[(2,8),(3,8),(6,8)])],
 [(1,[(1,3),(1,4)])],
 [(5,[(1,7),(3,7),(5,7),(1,10),(3,10),(5,10),(7,10),(1,15),(3,15),(5,15),(7,15),(10,15),(11,15),(1,17),(3,17),(5,17),(7,17),(10,17),(11,17),(15,17),(16,17),(1,18),(3,18),(5,18),(7,18),(10,18),(11,18),(15,18),(16,18),(17,18)])],
 [],
 [],
 [],
 [],
 [(2,[(0,4),(0,6),(0,9),(4,9),(6,9),(0,11),(0,13)])],
 [],
 [],
 [],
 [(5,[(5,6)])],
 [],
 [],
 [],
 [],
 [],
 [(9,[(2,5),(2,12),(5,12),(2,18),(5,18),(12,18)])],
 [],
 [],
 [],
 [(1,[(1,3),(1,5),(3,5),(4,5)])],
 [],
 [],
 [],
 [(8,[(1,4),(2,4),(4,5)])],
 [],
 [],
 [],
 [],
 [],
 [(5,[(1,3),(1,6),(3,6),(1,8),(3,8),(6,8),(8,11)]),(6,[(1,3),(1,5),(3,5),(1,9),(3,9),(5,9),(1,11),(3,11),(5,11),(9,11),(1,13),(3,13),(5,13),(9,13),(11,13),(11,17),(13,17)])],
 [],
 [],
 [(5,[(10,12)])],
 [],
 [],
 [],
 [],
 [],
 [],
 [(1,[(4,8),(4,15),(8,15)])],
 [],
 [],
 [(8,[(1,6),(1,9),(6,9),(1,14),(6,14),(9,14)]),(9,[(5,12),(6,12)])],
 [(1,[(0,2),(1,2),(0,4),(1,4),(2,4),(3,4),(0,6),(1,6),(2,6),(3,6),(4,6)])],
 [(9,[(0,6),(2,6)])],
 [],
 [],
 [(5,[(1,3),(1,6),(3,6),(4,6),(1,8),(3,8),(4,8),(6,8)])],
 [(6,[(3,7)])],
 [(6,[(1,6),(4,6),(1,9),(4,9)])],
 [],
 [],
 [],
 [],
 [(9,[(2,6),(4,6),(2,8),(4,8),(2,9),(4,9)]),(16,[(2,12),(3,12),(5,12),(7,12),(10,12)])],
 [],
 [],
 [],
 [],
 [(6,[(3,7)])],
 [],
 [],
 [],
 [],
 [],
 [],
 [],
 [(7,[(2,8),(5,8),(2,9),(5,9),(2,11),(5,11),(8,11),(9,11),(10,11)])],
 [(8,[(1,6),(4,6),(1,9),(4,9)])],
 [(13,[(0,4),(0,7),(0,11),(4,11),(7,11),(0,14),(4,14),(7,14),(0,15),(4,15),(7,15),(0,16)])],
 [(1,[(6,9),(1,15),(6,15),(9,15),(13,15)]),(16,[(0,1),(0,2),(1,2),(0,5),(1,5),(1,6)])],
 [(2,[(1,2),(1,3)])],
 [(11,[(0,2),(0,4)])],
 [(1,[(0,2),(0,4)])],
 [],
 [(1,[(1,5),(2,5),(3,5)])],
 [],
 [],
 [(1,[(0,2),(0,4)])],
 [(1,[(1,4),(2,4),(1,7),(2,7),(4,7),(5,7),(1,10),(2,10),(4,10),(5,10),(7,10)]),(6,[(6,8),(2,15),(6,15),(8,15),(10,15),(13,15),(2,17),(6,17),(8,17),(10,17),(13,17),(15,17),(2,26),(6,26),(8,26),(10,26),(13,26),(15,26),(17,26),(18,26),(21,26),(24,26)])],
 [(8,[(5,9)])],
 [(1,[(0,4),(3,4)])],
 [],
 [],
 [],
 [],
 [(5,[(2,6)]),(16,[(0,1),(0,5),(1,5),(0,6)]),(18,[(3,7),(4,7)])],
 [],
 [],
 [],
 [],
 [],
 [],
 [(3,[(3,8)])],
 [],
 [(1,[(3,8)])],
 [],
 [],
 [(3,[(1,2),(1,5)])],
 [],
 [(2,[(0,7),(0,10),(0,13),(7,13),(10,13),(0,14),(0,15),(0,17)])],
 [(1,[(6,7),(6,10)]),(3,[(0,1),(0,5)]),(4,[(0,1),(0,2),(1,2),(0,3),(1,3),(0,4),(1,4),(2,4),(3,4),(1,7),(4,7)]),(8,[(3,7),(6,7),(3,8),(6,8),(7,8)]),(9,[(0,1),(0,2),(0,3),(1,3),(2,3),(0,6),(1,6),(2,6),(3,6),(0,7),(1,7),(2,7),(3,7),(6,7),(0,8),(1,8),(2,8),(3,8),(6,8),(7,8),(0,9),(6,9)])],
 [(5,[(1,3),(1,7),(3,7),(1,9),(3,9),(7,9)])],
 [],
 [],
 [],
 [],
 [],
 [],
 [(5,[(1,5),(4,5),(1,10),(4,10)])],
 [(2,[(0,5),(0,6),(0,8),(0,10)])],
 [(5,[(3,6)])],
 [(10,[(0,7),(6,7)])],
 [],
 [],
 [],
 [],
 [],
 [],
 [(5,[(2,5)])],
 [(5,[(3,6)]),(12,[(3,7),(3,12),(7,12),(3,18),(7,18),(12,18)])],
 [(3,[(6,9),(1,15),(6,15),(9,15),(13,15),(1,20),(6,20),(9,20),(13,20),(15,20),(18,20),(1,29),(6,29),(9,29),(13,29),(15,29),(18,29),(20,29),(21,29),(24,29),(25,29),(27,29),(1,31),(6,31),(9,31),(13,31),(15,31),(18,31),(20,31),(21,31),(24,31),(25,31),(27,31),(29,31)])],
 [],
 [],
 [],
 [],
 [],
 [],
 [],
 [],
 [],
 [],
 [(2,[(2,6),(3,6)])],
 [(1,[(0,5),(3,5),(4,5),(0,8),(3,8),(4,8),(5,8),(6,8),(7,8)])],
 [],
 [],
 [(1,[(0,8),(3,8),(7,8),(0,10),(3,10),(7,10),(8,10),(0,13),(3,13),(7,13),(8,13),(0,17),(3,17),(7,17),(8,17),(0,18),(3,18),(7,18),(8,18),(10,18),(13,18),(17,18)])],
 [(5,[(0,1),(0,4),(0,5),(1,5),(4,5),(0,8),(0,9)])],
 [(6,[(3,7)])],
 [],
 [(1,[(0,4),(3,4)])],
 [],
 [(1,[(4,8),(4,12),(8,12),(4,17),(8,17),(12,17),(14,17),(4,22),(8,22),(12,22),(14,22),(17,22)])],
 [],
 [],
 [],
 [],
 [],
 [(0,[(3,12),(8,12)])],
 [(1,[(1,6),(4,6)])],
 [],
 [],
 [],
 [],
 [],
 [],
 [(6,[(0,4),(1,4),(0,6),(1,6),(4,6),(0,8),(1,8),(0,11),(1,11)])],
 [],
 [],
 [],
 [],
 [],
 [],
 [],
 [],
 [],
 [],
 [],
 [],
 [],
 [],
 [],
 [],
 [],
 [],
 [],
 [],
 [],
 [],
 [],
 [(5,[(0,1),(0,4),(0,7),(0,11),(1,11),(4,11),(7,11),(0,12),(1,12),(4,12),(7,12),(0,13)])],
 [],
 [],
 [],
 [],
 [],
 [],
 [],
 [],
 [(1,[(1,5),(1,7)])],
 [(1,[(1,4)])],
 [],
 [],
 [],
 [(1,[(2,3)])],
 [(1,[(2,3)])],
 [],
 [],
 [],
 [],
 [],
 [],
 [],
 [],
 [],
 [],
 [],
 [],
 [],
 [],
 [],
 [],
 [],
 [],
 [],
 [],
 [],
 [],
 [],
 [],
 [],
 [],
 [],
 [],
 [],
 [],
 [],
 [],
 [],
 [],
 [],
 [],
 [],
 [],
 [],
 [],
 [],
 [],
 [],
 [],
 [],
 [],
 [],
 [],
 [],
 [],
 [],
 [],
 [],
 [],
 []]
def qE0:List (Nat×List (Nat×Nat))->Nat->List (Nat×Nat)
 |[],_=>[]
 |(k,c)::l,b=>if k=b then c else qE0 l b
def look:List (Nat×List Nat)->Nat->List Nat
 |[],_=>[]
 |(k,c)::l,b=>if k=b then c else look l b
def qEY:List (Nat×List (Nat×List Nat))->Nat->List (Nat×List Nat)
 |[],_=>[]
 |(k,c)::l,b=>if k=b then c else qEY l b
def hints:Ab.Hints:={
 take:=λf t=>(qF8.getD f []).contains t
 clear:=λf b=>look (qEJ.getD f []) b
 precise:=λf=>qB4.contains f
 pairs:=λf b=>qE0 (qFc.getD f []) b
 link:=λf t=>(qFN.getD f []).contains t
 qji:=λf=>qFW.contains f
 mapT:=λt=>qFS.contains t
 born:=λf=>qyJ.contains f
 turn:=qFp
 seq:=qGf
 qec:=λf=>qEP.contains f
 pre:=λf b=>look (qEY qEu f) b}
end Go.Proofs.YteiciemjanhdcaaGreatDoor.Hn
end
section
namespace Go.Ab
open Go
section
variable {P:Program}
def qvl:Value->Value->Bool
 |.int k n,.int k' n'=>decide (k=k')&&decide (n=n')
 |.bool b,.bool b'=>b==b'
 |.slice none 0 0,.slice none 0 0=>true
 |.string s,.string s'=>decide (s.data.toList=s'.data.toList)
 |_,_=>false
mutual
def V.same:V->V->Bool
 |.val a,.val b=>qvl a b
 |.sl f c l,.sl f' c' l'=>decide (f=f')&&c==c'&&sameL l l'
 |.agg l,.agg l'=>sameL l l'
 |.tuple l,.tuple l'=>sameL l l'
 |_,_=>false
def sameL:List V->List V->Bool
 |[],[]=>true
 |x::l,y::l'=>x.same y&&sameL l l'
 |_,_=>false
end
theorem qxY{a b:Value}(h:qvl a b=true):a=b:=by
 unfold qvl at h;split at h
 ·simp_all
 ·simp_all
 ·rfl
 ·rename_i s s';have h1:=of_decide_eq_true h;obtain ⟨⟨l⟩⟩:=s;obtain ⟨⟨l'⟩⟩:=s';simp only at h1;rw [h1]
 ·cases h
mutual
theorem same_eq:∀(x y:V),x.same y=true->x=y
 |.val a,y,h=>by cases y<;>simp only [V.same]at h<;>first|(rw [qxY h])|cases h
 |.sl f c l,y,h=>by
  cases y<;>simp only [V.same]at h<;>try (cases h;done)
  simp only [qi,decide_eq_true_eq,beq_iff_eq]at h;rw [h.1.1,h.1.2,sameL_eq _ _ h.2]
 |.agg l,y,h=>by
  cases y<;>simp only [V.same]at h<;>try (cases h;done)
  rw [sameL_eq _ _ h]
 |.tuple l,y,h=>by
  cases y<;>simp only [V.same]at h<;>try (cases h;done)
  rw [sameL_eq _ _ h]
 |.undef,y,h|.ptr ..,y,h|.cptr ..,y,h|.fn ..,y,h|.yld _,y,h|.mref _,y,h|.bsl ..,y,h|.mp _,y,h|.iface ..,y,h|.lp ..,y,h|.room ..,y,h=>by cases y<;>simp [V.same]at h
theorem sameL_eq:∀(l m:List V),sameL l m=true->l=m
 |[],[],_=>rfl
 |[],y::m,h=>by simp [sameL]at h
 |x::l,[],h=>by simp [sameL]at h
 |x::l,y::m,h=>by
  simp only [sameL,qi]at h;rw [same_eq x y h.1,sameL_eq l m h.2]
end
structure Ran where
 g:FuncId
 args:List V
 r:V
def qDM(t:List Ran)(g:FuncId):Option (List V->Option V) :=
 if t.any (λe=>decide (e.g=g))then some (λargs=>(t.find? λe=>decide (e.g=g)&&sameL e.args args).map (·.r))else none
theorem qBB{t:List Ran}(h:∀e∈t,qa9 P e.g e.args [] e.r []):∀g f args r,qDM t g=some f->f args=some r->qa9 P g args [] r []:=by
 intro g f args r hf hr;unfold qDM at hf;split at hf
 ·cases hf;obtain ⟨e,he,rfl⟩:=qf.1 hr;have h1:=List.find?_some he;simp only [qi,decide_eq_true_eq]at h1;rw [<- h1.1,<- sameL_eq _ _ h1.2];exact h e (List.mem_of_find?_eq_some he)
 ·cases hf
theorem qz5{H:Hints}(hm:P.follows .mixedOrders=true)(qdJ:qj7 P H){t:List Ran}(ht:∀e∈t,qa9 P e.g e.args [] e.r [])(n:Nat)(e:Ran)
  (h:(match (qsj P H (qDM t) n).call e.g e.args []with|some (r,[])=>r.same e.r|_=>false)=true):qa9 P e.g e.args [] e.r []:=by
 split at h
 ·rename_i r hr;rw [<- same_eq _ _ h];exact (qu5 hm qdJ (qBB ht) n).call _ _ _ _ _ hr
 ·cases h
end
end Go.Ab
end
section
namespace Go.Ab
open Go Go.RowKit Go.Shelf Go.Proofs
section
variable {P:Program}
theorem qBG{w w':World}{X:Cx}{O:Root->List Nat}(h:LRel [] w X O)(hs:w.heap.size<=w'.heap.size):LRel [] w' X O :=
 {
  box:=λr c hc=>by simp [qbD]at hc,boxD:=h.boxD,inj:=λr r' b h1=>by simp [qbD]at h1,lin:=h.lin,dis:=h.dis,ptrB:=λr c hc=>by simp [qbD]at hc,up:=λr c hc=>by simp [qbD]at hc,
  dom:=λb e fz hω=>Nat.lt_of_lt_of_le (h.dom b e fz hω) hs}
theorem qfg{g:FuncId}{args:List V}{r:V}(hp:r.qx=[])(h:∀(w:World) (X:Cx) (vals:List Value),RepL w X args vals []->qhG w X->Dom w X ->
  (callFunc g vals.toArray).run P w=.ok (.enter g vals.toArray) w/\Calls P g vals.toArray w λe w'=>∃v,e=.returned v/\(∀X',Rep w' X' r v [])/\Below w.heap.size w w'):qa9 P g args [] r []:=by
 intro w X vals O h1 h2 h3 _ _;obtain ⟨h4,h5⟩:=h w X vals h1 h2 h3.dom;refine .inl ⟨h4,h5.mono ?_⟩;rintro e w' ⟨v,rfl,hr,hb⟩;refine ⟨v,rfl,X,O,[],hr X,qBG h3 hb.size,Lin.nil,λ_ _ hb=>absurd hb (by simp),λq hq=>absurd hq (by rw [hp];simp),rfl,λ_=>rfl,⟨hb.size,λb hb' _=>⟨hb.block b hb',rfl⟩,λb e fz hω=>⟨e,fz,hω,Nat.le_refl _,λh=>h,λi v _ hc=>?_⟩,λ_ _=>rfl,?_,hb.os,hb.output,hb.tape⟩⟩
 ·rw [cell_of_heap (hb.block b (h3.dom b e fz hω))];exact hc
 ·rintro b (hb|⟨q,hb⟩)
  ·exact absurd hb (by simp)
  ·exact .inr (.inr ⟨q,hb⟩)
theorem enters {g : FuncId} {fn : Func} (hfn : P.funcs[g]? = some fn) (hb : fn.body.isSome = true) (hn : (fn.name == "runtime.NumGoroutine") = false) (args : Array Value) (w : World) : (callFunc g args).run P w = .ok (.enter g args) w := by
 have hbs:fn.body.isNone=false:=by cases h:fn.body<;>simp_all
 simp only [callFunc,Sem.run_bind,run_program,Result.andThen_ok,hfn,hn,hbs,qj,if_false,Sem.run_pure]
def Enters(P:Program)(g:FuncId):Prop:=∀(args:Array Value) (w:World),(callFunc g args).run P w=.ok (.enter g args) w
theorem qwY(w:World)(k:Nat)(os:Array Obj):Below w.heap.size w (Sort.grow (w.drewN k) os):=by
 have hh:∀k (w:World),(w.drewN k).heap=w.heap/\(w.drewN k).os=w.os/\(w.drewN k).output=w.output/\(w.drewN k).tape=w.tape:=λk w=>⟨rfl,rfl,rfl,rfl⟩
 obtain ⟨h1,h2,h3,h4⟩:=hh k w;refine ⟨h2,h4,h3,?_,λi hi=>?_⟩
 ·show w.heap.size<=((w.drewN k).heap++os).size;rw [h1];simp
 ·show ((w.drewN k).heap++os)[i]?=_;rw [h1,Array.getElem?_append_left hi]
theorem qFm{w:World}{X:Cx}(h:qhG w X){b:Nat}{arr:Array Value}(hm:(b,λa=>a=arr)∈qyj){n:String}(hg:P.globalNamed n=some b):w.var? P n=some arr:=by
 obtain ⟨_,arr',t,fr,h2,h3⟩:=h _ hm;simp only at h2 h3;subst h3;simp only [World.var?,hg,qb,h2]
theorem qyM{w:World}{X:Cx}(h:qhG w X){b:Nat}{p:Array Value->Prop}(hm:(b,p)∈qyj):∃arr t fr,w.heap[b]?=some (.cells arr t fr)/\p arr:=(h _ hm).2
theorem qD1{w:World}{X:Cx}{u:Value}{v:Value}{O:List Nat}(h:Rep w X (.val u) v O):v=u:=by simp only [Rep]at h;exact h.1
theorem qtQ{w:World}{X:Cx}{u:Value}{vs:List Value}{O:List Nat}(h:RepL w X [.val u] vs O):vs=[u]:=by
 simp only [RepL,Rep]at h;obtain ⟨_,_,_,_,rfl,_,⟨rfl,_⟩,rfl,_⟩:=h;rfl
theorem qoR{w:World}{X:Cx}{u u2:Value}{vs:List Value}{O:List Nat}(h:RepL w X [.val u,.val u2] vs O):vs=[u,u2]:=by
 simp only [RepL,Rep]at h;obtain ⟨_,_,_,_,rfl,_,⟨rfl,_⟩,_,_,_,_,rfl,_,⟨rfl,_⟩,rfl,_⟩:=h;rfl
theorem qhg{w:World}{X:Cx}(u:Value):Rep w X (.val u) u []:=by simp [Rep]
theorem qrP{w:World}{X:Cx}{x y:V}{u v:Value}(h1:Rep w X x u [])(h2:Rep w X y v []):Rep w X (.tuple [x,y]) (.tuple #[u,v]) []:=by
 simp only [Rep,RepL];exact ⟨[u,v],rfl,u,[v],[],[],rfl,rfl,h1,v,[],[],[],rfl,rfl,h2,rfl,rfl⟩
theorem qCa{w:World}{X:Cx}{x y z:V}{u v q:Value}(h1:Rep w X x u [])(h2:Rep w X y v [])(h3:Rep w X z q []):Rep w X (.tuple [x,y,z]) (.tuple #[u,v,q]) []:=by
 simp only [Rep,RepL];exact ⟨[u,v,q],rfl,u,[v,q],[],[],rfl,rfl,h1,v,[q],[],[],rfl,rfl,h2,q,[],[],[],rfl,rfl,h3,rfl,rfl⟩
theorem qAg{w:World}{X:Cx}(t:TypeId)(u:Value):Rep w X (.iface t .undef) (.iface t u) []:=by
 simp only [Rep];exact ⟨u,rfl,trivial⟩
theorem qDK {ρ : Ren} (L : LaysM.n171 P ρ) (hen : Enters P (ρ.f 171)) (htab : ∀ (w : World) (X : Cx), qhG w X -> Lib.TabIs P w "internal/strconv.uint64pow10" .u64 Lib.pow10Tab) (n : Int) (h0 : -9223372036854775808 <= n) (h1 : n <= 9223372036854775807) :
  qa9 P (ρ.f 171) [.val (.int .i64 n)] [] (.val (.string ⟨(Lib.itoa n).toArray⟩)) []:=by
 refine qfg rfl λw X vals hr hg _=>?_;obtain rfl:=qtQ hr;refine ⟨hen _ _,(Any.strconv_Itoa L n h0 h1 w (htab w X hg)).mono ?_⟩;rintro e w' ⟨rfl,k,os,rfl⟩;exact ⟨_,rfl,λX'=>by simp [Rep],qwY w k os⟩
def qyE(t:TypeId)(s:List UInt8):V:=match Lib.atoiAll s with
 |.ok v=>.tuple [.val (.int .i64 v),.val .nilIface]
 |.range=>.tuple [.val (.int .i64 (Lib.atoiSat s)),.iface t .undef]
 |_=>.tuple [.val (.int .i64 0),.iface t .undef]
theorem qDn{ρ:Ren}(L:LaysC.n172 P ρ)(hen:Enters P (ρ.f 172))(h15:∀(w:World) (X:Cx),qhG w X->∃ev,w.cell? ⟨ρ.g 15,0,none⟩=some ev/\(ev=.nilIface\/∃te pe,ev=.iface te pe))
  (h16:∀(w:World) (X:Cx),qhG w X->∃ev,w.cell? ⟨ρ.g 16,0,none⟩=some ev/\(ev=.nilIface\/∃te pe,ev=.iface te pe)) (s:ByteArray) (hs:s.size<=281474976710656) :
  qa9 P (ρ.f 172) [.val (.string s)] [] (qyE (ρ.t 168) s.data.toList) []:=by
 unfold qyE;refine qfg (by split<;>simp [V.qx,ptrsL]) λw X vals hr hg _=>?_;obtain rfl:=qtQ hr;refine ⟨hen _ _,?_⟩;cases hc:Lib.atoiAll s.data.toList with
 |ok v =>
  refine (Any.strconv_Atoi_ok L s (by omega) v hc w).mono ?_;rintro e w' ⟨rfl,hw⟩;refine ⟨_,rfl,λX'=>qrP (qhg _) (qhg _),?_⟩;rcases hw with rfl|⟨t,rfl⟩
  ·exact Below.refl _ _
  ·exact Lib.bytesWorld_below _ _ _
 |range =>
  obtain ⟨ev,h1,h2⟩:=h16 w X hg;refine (Any.strconv_Atoi_range L s hs hc ev w h1 h2).mono ?_;rintro e w' ⟨N,rfl,_,_,hb⟩;exact ⟨_,rfl,λX'=>qrP (qhg _) (qAg _ _),hb⟩
 |_ =>
  obtain ⟨ev,h1,h2⟩:=h15 w X hg;refine (Any.strconv_Atoi_syntax L s hs hc ev w h1 h2).mono ?_;rintro e w' ⟨N,rfl,_,_,hb⟩;exact ⟨_,rfl,λX'=>qrP (qhg _) (qAg _ _),hb⟩
theorem qsd{ρ:Ren}(L:Lays.n101 P ρ)(hen:Enters P (ρ.f 101))(s p:ByteArray):qa9 P (ρ.f 101) [.val (.string s),.val (.string p)] [] (.val (.string ⟨(Lib.trimPrefix s.data.toList p.data.toList).toArray⟩)) []:=by
 refine qfg rfl λw X vals hr hg _=>?_;obtain rfl:=qoR hr;refine ⟨hen _ _,(Any.strings_TrimPrefix L s p w).mono ?_⟩;rintro e w' ⟨rfl,rfl⟩;exact ⟨_,rfl,λX'=>by simp [Rep],Below.refl _ _⟩
theorem qBu{ρ:Ren}(L:Lays.n143 P ρ)(hen:Enters P (ρ.f 143))(hm:∀(w:World) (X:Cx),qhG w X->∃m,w.cell? ⟨ρ.g 1,0,none⟩=some (.int .i64 m))(s p:ByteArray)(hs:s.size<4294967281) :
  qa9 P (ρ.f 143) [.val (.string s),.val (.string p)] [] (.val (.int .i64 (Lib.index s.data.toList p.data.toList))) []:=by
 refine qfg rfl λw X vals hr hg _=>?_;obtain rfl:=qoR hr;obtain ⟨m,hm⟩:=hm w X hg;refine ⟨hen _ _,(Any.strings_Index L s p m w hs hm).mono ?_⟩;rintro e w' ⟨rfl,rfl⟩;exact ⟨_,rfl,λX'=>by simp [Rep],Below.refl _ _⟩
theorem qEN{ρ:Ren}(L:Lays.n145 P ρ)(hen:Enters P (ρ.f 145))(hm:∀(w:World) (X:Cx),qhG w X->∃m,w.cell? ⟨ρ.g 1,0,none⟩=some (.int .i64 m))(s p:ByteArray)(hs:s.size<4294967281) :
  qa9 P (ρ.f 145) [.val (.string s),.val (.string p)] [] (.tuple [.val (.string ⟨(Lib.cut s.data.toList p.data.toList).1.toArray⟩),.val (.string ⟨(Lib.cut s.data.toList p.data.toList).2.1.toArray⟩),.val (.bool (Lib.cut s.data.toList p.data.toList).2.2)]) []:=by
 refine qfg (by simp [V.qx,ptrsL]) λw X vals hr hg _=>?_;obtain rfl:=qoR hr;obtain ⟨m,hm⟩:=hm w X hg;refine ⟨hen _ _,(Any.strings_Cut L s p m w hs hm).mono ?_⟩;rintro e w' ⟨rfl,n,rfl⟩;exact ⟨_,rfl,λX'=>qCa (qhg _) (qhg _) (qhg _),⟨rfl,rfl,rfl,Nat.le_refl _,λ_ _=>rfl⟩⟩
def qgL:List V->Option (List (List UInt8))
 |[]=>some []
 |.val (.string s)::l=>(qgL l).map (s.data.toList::·)
 |_=>none
theorem qqC{w:World}{X:Cx}:∀{l:List V} {s:Nat} {vals:List Value} {O:List Nat} {xs:List (List UInt8)},qgL l=some xs->RepE w X s l vals O->vals=xs.map λx=>.string ⟨x.toArray⟩
 |[],s,vals,O,xs,hb,hr=>by
  simp only [qgL,qe]at hb;simp only [RepE]at hr;subst hb;exact hr.1
 |x::l,s,vals,O,xs,hb,hr=>by
  unfold qgL at hb;split at hb
  ·rename_i h;cases h
  ·rename_i str l' h;cases h;obtain ⟨xs',hb',rfl⟩:=qf.1 hb;simp only [RepE,Rep]at hr;obtain ⟨u,vs,O1,O2,rfl,hs,rfl,⟨rfl,rfl⟩,hr⟩:=hr;rw [qqC hb' hr];simp [Value.cells]
  ·cases hb
theorem qwG:∀{l:List V} {xs:List (List UInt8)},qgL l=some xs->l.length=xs.length
 |[],xs,hb=>by
  simp only [qgL,qe]at hb;subst hb;rfl
 |x::l,xs,hb=>by
  unfold qgL at hb;split at hb
  ·rename_i h;cases h
  ·rename_i str l' h;cases h;obtain ⟨xs',hb',rfl⟩:=qf.1 hb;simp [qwG hb']
  ·cases hb
theorem qDL{ρ:Ren}(L:Lays.n156 P ρ)(E:Builder.Extra P ρ)(hen:Enters P (ρ.f 156))(fl:Fl)(c:Bool)(l:List V)(xs:List (List UInt8))(sep:ByteArray)(hl:qgL l=some xs)(hN:xs.length<=140737488355328)
  (hlen:(Lib.join xs sep.data.toList).length<=140737488355328):qa9 P (ρ.f 156) [.sl fl c l,.val (.string sep)] [] (.val (.string ⟨(Lib.join xs sep.data.toList).toArray⟩)) []:=by
 refine qfg rfl λw X vals hr hg hd=>?_;simp only [RepL]at hr;obtain ⟨u,_,O1,_,rfl,_,h1,u2,_,_,_,rfl,_,h2,rfl,_⟩:=hr;obtain rfl:=qD1 h2;refine ⟨hen _ _,?_⟩;simp only [Rep]at h1;rcases h1.2 with ⟨rfl,_,hv⟩|⟨b,off,cap,s,vs,O',rfl,hcap,_,hvl,hs0,hall,hseg,hfl,hE,_⟩
 ·simp only [qgL,qe]at hl;subst hl;rcases hv with rfl|⟨_,a,rfl⟩
  ·refine (Any.strings_Join_none L E none 0 sep w).mono ?_;rintro e w' ⟨rfl,rfl⟩;exact ⟨_,rfl,λX'=>by rw [Lib.join_nil];exact qhg _,Below.refl _ _⟩
  ·refine (Any.strings_Join_none L E (some a) 0 sep w).mono ?_;rintro e w' ⟨rfl,rfl⟩;exact ⟨_,rfl,λX'=>by rw [Lib.join_nil];exact qhg _,Below.refl _ _⟩
 ·have hlen2:=qwG hl;have hvs:=qqC hl hE;have hb:b<w.heap.size:=by
   obtain ⟨e,fz,hω,_⟩:=hfl;exact hd b e fz hω
  have hj:=Any.strings_Join L E b off cap (xs.map λx=>⟨x.toArray⟩) sep w (λj x hx=>by
    rw [List.getElem?_map]at hx;obtain ⟨y,hy,rfl⟩:=qf.1 hx;exact hseg j _ (by rw [hvs,List.getElem?_map,hy];rfl)) hb (by simpa using hN) (by rw [List.length_map,<- hlen2];exact hcap) (by simpa [List.map_map,Function.comp_def]using hlen)
  rw [List.length_map,<- hlen2]at hj;refine hj.mono ?_;rintro e w' ⟨rfl,hb⟩;exact ⟨_,rfl,λX'=>by simp [Rep,List.map_map,Function.comp_def],hb⟩
end
end Go.Ab
end
section
namespace Go.Proofs.YteiciemjanhdcaaGreatDoor
open Go Go.Ab Go.RowKit
theorem qr3(s sep:ByteArray)(w:World):Calls Tryz.prog 187 #[.string s,.string sep,.int .i64 0] w λe w' =>
  e=.returned (.func (.func 237) #[] #[.pointer (some ⟨w.heap.size+1,0,none⟩),.pointer (some ⟨w.heap.size,0,none⟩),.pointer (some ⟨w.heap.size+2,0,none⟩)])/\∃t t2 t3,w'=((w.alloc (.cells #[.string s] t)).alloc (.cells #[.string sep] t2)).alloc (.cells #[.int .i64 0] t3):=by
 go_enter Tryz.func187,Tryz.ntmps187
 go_wp2
 go_ret
 exact ⟨by simp,_,_,_,rfl⟩
theorem qqS(s sep:ByteArray)(w:World):Calls Tryz.prog 124 #[.string s,.string sep] w λe w' =>
  e=.returned (.func (.func 237) #[] #[.pointer (some ⟨w.heap.size+1,0,none⟩),.pointer (some ⟨w.heap.size,0,none⟩),.pointer (some ⟨w.heap.size+2,0,none⟩)])/\∃t t2 t3,w'=((w.alloc (.cells #[.string s] t)).alloc (.cells #[.string sep] t2)).alloc (.cells #[.int .i64 0] t3):=by
 go_enter Tryz.func124,Tryz.ntmps124
 go_wp2_with fail
 refine (qr3 s sep w).mono λe w1 ⟨he,hw⟩=>?_;subst he
 go_wp2
 go_ret
 exact ⟨rfl,hw⟩
theorem qGk:qCH Tryz.prog Hn.hints:=λg c h=>by
 simp only [Hn.hints,Hn.qGf]at h;split at h
 ·rename_i e;subst e;cases h;intro s sep w;exact .inl ⟨enters Tryz.func124 (by kernel_rfl) (by kernel_rfl) _ _,(qqS s sep w).mono λe w' ⟨h1,h2⟩=>⟨_,h1,rfl,h2⟩⟩
 ·cases h
end Go.Proofs.YteiciemjanhdcaaGreatDoor
end
