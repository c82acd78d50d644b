/-
  ONE LAW OF A CHAPTER: its program side is run by an interpreter that is proved sound; what it computes is shown to be what the law says. No conditions. Part 5 of 8.
-/
import Derived.Test.YteiciemjanhdcaaGreatDoorMsed
import Derived.Deep.Slices
import Derived.Carry
import Derived.ChangeBears2
import Derived.ChangeSame
import Derived.JoinedCond
import Derived.OpenShut
import Derived.ProofKit
import Derived.Shelf.Strconv.Itoa3
import Derived.Shelf.Strconv.AtoiAll
import Derived.Shelf.Strings.OnBuilder
import Derived.Shelf.Strings.Prefix
import Derived.Shelf.Strings.Search3
import Derived.Shelf.Strings.Cut
import Derived.Shelf.Spec.TrailingZeros
import Derived.Test.YteiciemjanhdcaaGreatDoorProg
import Derived.WalkKit
import Derived.BigCall
import Derived.BigGuard
import Derived.KernelRfl
set_option linter.unusedSimpArgs false
set_option linter.unusedVariables false
set_option linter.unnecessarySimpa false
section
namespace Go.Tx
open Go Go.Ab
section
variable {P:Program} {H:Hints} {J:TH} {T:qvq} {O:TOrc} {lib:FuncId->Option (List V->Option V)} {f:FuncId} {ctx:List Tmp}
theorem qAL(p:Bool)(u:Value):qjn (ofConst p u).cells=false:=by
 have h0:∀u,qjn [qec p u]=false:=λu=>by
  unfold qec;split
  ·unfold qgF;split<;>rfl
  ·rfl
 have h1:∀u,qjn (qec p u).cells=false\/(∃cs,u=.agg cs):=λu=>by
  unfold qec;split
  ·left;unfold qgF;split<;>rfl
  ·left;rfl
 by_cases hu:∃cs,u=.agg cs
 ·obtain ⟨cs,rfl⟩:=hu;show qjn (cs.toList.map (qec p))=false;cases cs.toList with
  |nil=>rfl
  |cons x l=>rw [qi,qh8 (m:=[])];exact h0 x
 ·have e:ofConst p u=qec p u:=by
   unfold ofConst;split
   ·exact absurd ⟨_,rfl⟩ hu
   ·rfl
  rw [e];rcases h1 u with h2|h2
  ·exact h2
  ·exact absurd h2 hu
theorem qqO{c:List V}(h:qaE c=false):qaE (c.map V.qf5)=false:=by
 match c with
 |[]=>rfl
 |x::l =>
  simp only [qi];unfold V.qf5;split
  ·rfl
  ·cases x<;>first|rfl|(simp [qaE]at h)
theorem qwd{c:List V}(h:qjn c=false):qjn (c.map V.qf5)=false:=by
 match c with
 |[]=>rfl
 |x::l =>
  simp only [qi];unfold V.qf5;split
  ·rfl
  ·cases x<;>first|rfl|(simp [qjn]at h)
theorem qyO{ys:List V}:∀{p:Path} {v u:V},qvp ys p v=some u->∃c l,u=.sl .own c l:=by
 intro p v u h;unfold qvp at h;split at h
 ·cases h
 ·split at h
  ·split at h
   ·split at h
    ·split at h
     ·cases h;exact ⟨_,_,rfl⟩
     ·cases h
    ·split at h
     ·obtain ⟨z,_,rfl⟩:=qc.1 h;exact ⟨_,_,rfl⟩
     ·cases h
   ·cases h
  ·cases h
 ·cases h
theorem qEX{c:List V}{i:Nat}{u:V}(h:qjn c=false)(hu:qjn [u]=false):qjn (c.set i u)=false:=by
 cases c with
 |nil=>rfl
 |cons x l=>cases i with
  |zero=>rw [List.set_cons_zero,qh8 (m:=[])];exact hu
  |succ n=>rw [List.set_cons_succ,qh8 (m:=l)];exact h
theorem qDQ(hT:TOk P H lib T)(hO:OOk P H lib O){o:Oper}{xs:List TV}{ys:List V}{st:TSt}{s:St}{R:Type}{k:TV->TSt->Fp->Option R}{r:R}(hx:RVL xs ys)(hs:Rst st s)
  (h:qpl P H J T O ctx f o xs st R k=some r) :
  ∃v st' fp u s',k v st' fp=some r/\Ev (λC=>qcm P H C f o ys s=some (u,s',fp)) P H lib/\RV v u/\Rst st' s'/\Fr2 st st' s s'/\st'.E=st.E/\s'.E=s.E:=by
 rcases qhE o.op with ⟨t,hop⟩|⟨t,a,hop⟩|⟨c,fo,hop,hc⟩|hd
 ·unfold qpl at h;simp only [hop]at h;split at h
  ·rename_i d z hd hz;split at h
   ·rename_i hn;have hn':qaf st.B d=none:=by simpa using hn
    obtain ⟨z',hz',_,hcz⟩:=qnM hz;have hmz:qjn z'.cells=false:=by
     obtain ⟨i,u,_,_,rfl⟩:=qgg hz';exact qAL _ u
    obtain ⟨hR,hF⟩:=qym hs hn' (RVL.rc hcz) (λ_=>hmz);refine ⟨_,_,_,.ptr ⟨s.L.length,d⟩ 0,_,h,.of λC=>?_,by simp [RV,hs.len],hR,hF,rfl,rfl⟩;unfold qcm;simp only [hop,hd,hz'];rw [if_pos (by rw [qkE hs hn'];rfl),hs.len]
   ·cases h
  ·cases h
 ·unfold qpl at h;simp only [hop]at h;split at h
  ·rename_i d x hd;split at h
   ·rename_i hn;have hn':qaf st.B d=none:=by simpa using hn.1
    obtain ⟨v,rfl,hv⟩:=qhf hx;obtain ⟨hcells,hok⟩:=RV.cells hn.2.2 hv;obtain ⟨hR,hF⟩:=qym hs hn' (RVL.rc hcells) (λ_=>qzp hok);refine ⟨_,_,_,.ptr ⟨s.L.length,d⟩ 0,_,h,.of λC=>?_,by simp [RV,hs.len],hR,hF,rfl,rfl⟩;unfold qcm;simp only [hop,hd];rw [if_pos ⟨by rw [qkE hs hn'];rfl,by rw [hcells.length];exact hn.2.1,hok⟩,hs.len]
   ·cases h
  ·cases h
 ·rw [qyB hop hc]at h;cases xs with
  |nil=>cases h
  |cons fv args =>
   simp only [RVL]at hx;obtain ⟨fv',args',rfl,hfv,ha⟩:=hx;simp only at h;cases hbn:quk H fv args with
   |true =>
    rw [if_pos hbn]at h;obtain ⟨hb',v,st',fp,u,s',hk,hev,hr,hR,hF,e1,e2⟩:=qFZ hO hfv ha hs h;refine ⟨v,st',fp,u,s',hk,hev.imp λC hC=>?_,hr,hR,hF,e1,e2⟩;rw [qb5 hop hc];simp only [hb',if_true];exact hC
   |false =>
    rw [if_neg (by rw [hbn];simp)]at h;simp only [quk,Bool.or_eq_false_iff]at hbn;have hb':qll H fv' args'=false:=by
     have h':=h;unfold qsI at h';split at h'
     ·rename_i g first cap;split at h'
      ·rename_i hkn;have hbn1:qmH H fv'=false:=by rw [qmI (fv:=.any []) hfv];exact hbn.1
       have hbn2:qwe H fv'=false:=by rw [quj (fv:=.any []) hfv];exact hbn.2.1
       have hf':=hfv;simp only [RV]at hf';obtain ⟨first',cap',rfl,hf1,hc1⟩:=hf';unfold qll;rw [hbn1,hbn2,qtc hkn ((hf1.append ha).append hc1),hbn.2.2];rfl
      ·cases h'
     ·have hf':=hfv;simp only [RV]at hf';subst hf';rfl
     ·cases h'
    obtain ⟨v,st',u,s',hk,hev,hr,hR,hF,e1,e2,hp⟩:=qvH hT hO hfv ha hs h;refine ⟨v,st',_,u,s',hk,hev.imp λC hC=>?_,hr,hR,hF,e1,e2⟩;rw [qb5 hop hc];obtain ⟨hC,hlk⟩:=hC;simp only [hb',qf,if_false,hC,qj];rw [<- hp,hlk]
 ·rw [qyC hd]at h;obtain ⟨v,st',fp,u,s',hk,hm,hr,hR,hF,e1,e2⟩:=qB6 hx hs h;exact ⟨v,st',fp,u,s',hk,.of λC=>by rw [qad hd];exact hm,hr,hR,hF,e1,e2⟩
theorem qAB{E:Env}{E':List V}(h:RVL E.toL E')(t:Nat):RV (E.get t) (E'.getD t .undef):=by rw [qpZ];exact h.getD t
theorem qFF{o:Oper}{E:Env}{E':List V}(h:RVL E.toL E')(x:Operand):RV (rdT H f o E x) (rd H f o E' x):=by
 cases x with
 |tmp t =>
  simp only [rdT,rd];split
  ·exact qAB h t
  ·exact (qAB h t).qap
 |const v=>exact qzV _ _
 |global g=>exact qfe []
 |func g=>simp [rdT,rd,RV,RVL]
theorem qGD{o:Oper}{E:Env}{E':List V}(h:RVL E.toL E'):∀l:List Operand,RVL (l.map (rdT H f o E)) (l.map (rd H f o E'))
 |[]=>qaU
 |x::l=>qC.2 ⟨qFF h x,qGD h l⟩
theorem qmy:∀(ts:List Tmp) {E:Env} {E':List V},RVL E.toL E'->RVL (qcM E ts).toL (qG E' ts)
 |[],E,E',h=>h
 |t::ts,E,E',h=>by
  have h1:RVL (E.set t (E.get t).qap).toL (E'.modify t V.qap):=by
   rw [qtK];refine qgP (by simp [h.length]) λi x v hx hv=>?_;rw [List.getElem?_modify]at hx hv;obtain ⟨y,hy,rfl⟩:=qc.1 hx;obtain ⟨u,hu,rfl⟩:=qc.1 hv;obtain ⟨u2,hu2,hr⟩:=h.get hy;rw [hu]at hu2;cases hu2;by_cases e:t=i
   ·simp only [e,if_true];exact hr.qap
   ·simp only [if_neg e];exact hr
  exact qmy ts h1
theorem qvN{ts:List Tmp}{t:Nat}(h:t∉ts):∀E:List V,(qG E ts)[t]?=E[t]?:=by
 induction ts with
 |nil=>intro E;rfl
 |cons u ts ih =>
  intro E;simp only [qm,not_or]at h;have e:qG E (u::ts)=qG (E.modify u V.qap) ts:=rfl;rw [e,ih h.2,List.getElem?_modify];simp [Ne.symm h.1]
theorem qxG(ts:List Tmp)(E:List V):(qG E ts).length=E.length:=qbH ts E
theorem qkc{st:TSt}{s:St}(hs:Rst st s)(d:Option Tmp){v:TV}{u:V}(hv:RV v u):Rst (st.put d v) (s.put d u)/\Fr2 st (st.put d v) s (s.put d u):=by
 cases d with
 |none=>exact ⟨hs,Fr2.refl _ _⟩
 |some t =>
  refine ⟨⟨by show RVL (st.E.set t v).toL _;rw [qfI];exact hs.E.set t hv,hs.M⟩,⟨λx hx=>by simp [TSt.put,hx],λr hr=>hr,λx hx=>.inl ?_,λx hx rs hE=>⟨rs,?_⟩,λr hr=>.inl rfl,λr hr h=>h,rfl,by simp [St.put]⟩⟩
  case refine_2 =>
   simp only [TSt.put,Mask.mem_ins,not_or]at hx;simp only [TSt.put,qfI]at hE
   rwa [List.getElem?_set_ne (Ne.symm hx.1)]at hE
  simp only [TSt.put,Mask.mem_ins,not_or]at hx;simp only [St.put];rw [List.getElem?_set_ne (Ne.symm hx.1)]
theorem qqv{E:Env}{E':List V}(h:RVL E.toL E'){ts:List Tmp}{t:Nat}(ht:t∉ts.filter (λt=>(E.get t).owns)):(qG E' ts)[t]?=E'[t]?:=by
 rw [qh0];split
 ·rename_i hm;have hno:(E.get t).owns=false:=by
   cases hh:(E.get t).owns with
   |false=>rfl
   |true=>exact absurd (List.mem_filter.2 ⟨hm,hh⟩) ht
  cases hv:E'[t]? with
  |none=>rfl
  |some v =>
   have hr:=qAB h t;rw [List.getD_eq_getElem?_getD (l:=E'),hv]at hr;simp only [qj,qb];refine dull_of_owns v ?_;cases ho:v.owns with
   |false=>rfl
   |true=>have:=RV.owns _ _ hr ho;rw [hno]at this;cases this
 ·rfl
theorem qEz{x:TV}{rs:List Root}(h:x.qap=.any rs):x=.any rs:=by
 cases x with
 |room a s=>rcases a with _|a<;>simp [TV.qap]at h
 |_=>simp_all [TV.qap]
theorem qiG:∀(T:List Tmp) (E:Env) (t:Nat) (rs:List Root),(qcM E T).toL[t]?=some (.any rs)->∃rs',E.toL[t]?=some (.any rs')
 |[],E,t,rs,h=>⟨rs,h⟩
 |s::T,E,t,rs,h=>by
  have h':(qcM (E.set s (E.get s).qap) T).toL[t]?=some (.any rs):=h;obtain ⟨rs',h1⟩:=qiG T _ t rs h';rw [qtK,List.getElem?_modify]at h1;cases hE:E.toL[t]? with
  |none=>rw [hE]at h1;cases h1
  |some x =>
   rw [hE]at h1;simp only [Option.map_eq_map,qj,qb]at h1;split at h1
   ·exact ⟨rs',by rw [qEz h1]⟩
   ·exact ⟨rs',by rw [h1]⟩
theorem qoO(hT:TOk P H lib T)(hO:OOk P H lib O){o:Oper}{st:TSt}{s:St}{R:Type}{k:TSt->Fp->Option R}{r:R}(hs:Rst st s)(h:qme P H J T O ctx f o st R k=some r) :
  ∃st' fp s',k st' fp=some r/\Ev (λC=>qgv P H C f o s=some (s',fp)) P H lib/\Rst st' s'/\Fr2 st st' s s'/\∀t:Nat,t∉tmpsOf o->o.dst≠some t->s'.E[t]?=s.E[t]?:=by
 unfold qme at h;split at h
 ·cases h
 ·rename_i hn;have hs1:Rst (if qax H f o=true then {st with E:=qcM st.E (tmpsOf o),Wt:=Mask.ofList ((tmpsOf o).filter (λt=>(st.E.get t).owns))++st.Wt}else st) (if qax H f o=true then {s with E:=qG s.E (tmpsOf o)}else s) /\
    Fr2 st (if qax H f o=true then {st with E:=qcM st.E (tmpsOf o),Wt:=Mask.ofList ((tmpsOf o).filter (λt=>(st.E.get t).owns))++st.Wt}else st) s (if qax H f o=true then {s with E:=qG s.E (tmpsOf o)}else s):=by
   split
   ·refine ⟨⟨qmy _ hs.E,hs.M⟩,⟨λt ht=>by simp [ht],λr hr=>hr,λt ht=>.inl ?_,λt ht rs hE=>?_,λr hr=>.inl rfl,λr hr h=>h,rfl,qxG _ _⟩⟩
    ·simp only [Mask.mem_append,Mask.mem_ofList,not_or]at ht;exact qqv hs.E ht.1
    ·exact qiG _ _ _ _ hE
   ·exact ⟨hs,Fr2.refl _ _⟩
  obtain ⟨v,st',fp,u,s',hk,hev,hr,hR,hF,e1,e2⟩:=qDQ hT hO (qGD hs.E _) hs1.1 h;obtain ⟨hR2,hF2⟩:=qkc hR o.dst hr;refine ⟨_,fp,_,hk,hev.imp λC hC=>?_,hR2,(hs1.2.trans hF).trans hF2,λt h1 h2=>?_⟩
  ·unfold qgv;rw [if_neg hn,hC];rfl
  ·have h3:(s'.put o.dst u).E[t]?=s'.E[t]?:=by
    unfold St.put;cases hd:o.dst with
    |none=>rfl
    |some d =>
     simp only
     rw [List.getElem?_set_ne];rintro rfl;exact h2 hd
   rw [h3,e2];split
   ·exact qvN h1 s.E
   ·rfl
theorem qxT{ops:Array Oper}{o:Oper}{st:TSt}{s:St}{R:Type}{yes no:TSt->Option R}{r:R}(hs:Rst st s)(h:qxS ops o st R yes no=some r) :
  ∃st1 b,qdY ops s.E o=some b/\Rst st1 s/\Fr2 st st1 s s/\(if b then yes st1 else no st1)=some r:=by
 unfold qxS at h;unfold qdY;split at h
 ·rename_i hg;rw [hg];exact ⟨st,true,rfl,hs,Fr2.refl _ _,h⟩
 ·rename_i j want hg;rw [hg];simp only
  split at h
  ·rename_i t ht;rw [ht];simp only
   split at h
   ·rename_i o' b hb;obtain ⟨v,hv,hr⟩:=hs.E.get (some_get hb (by simp));simp only [RV,RTy]at hr;subst hr;rw [hv];have hset:∀c,b=c->Rst ({st with E:=st.E.set t (.t .bool 0 c)}:TSt) s:=λc hc=>⟨by
     rw [qfI];refine qkj hs.E t λu hu=>?_;rw [hv]at hu;cases hu;simp [RV,RTy,hc],hs.M⟩
    have hfr:∀c,Fr2 st ({st with E:=st.E.set t (.t .bool 0 c)}:TSt) s s:=λc=>⟨λx hx=>hx,λx hx=>hx,λx hx=>.inl rfl,λx hx rs hE=>⟨rs,by
     simp only [qfI,List.getElem?_set]at hE;split at hE
     ·split at hE<;>cases hE
     ·exact hE⟩,λx hx=>.inl rfl,λx hx h=>h,rfl,rfl⟩
    cases b with
    |true =>
     simp only [cond_true]at h;refine ⟨_,(true==want),rfl,hset true rfl,hfr true,?_⟩;cases want<;>exact h
    |false =>
     simp only [cond_false]at h;refine ⟨_,(false==want),rfl,hset false rfl,hfr false,?_⟩;cases want<;>exact h
   ·rename_i vs hb;obtain ⟨v,hv,hr⟩:=hs.E.get (some_get hb (by simp));simp only [RV]at hr;subst hr;rw [hv];split at h
    ·rename_i h0;exact ⟨st,false,by simp only [h0,if_true],hs,Fr2.refl _ _,h⟩
    ·cases h
   ·cases h
  ·cases h
def ql4(p:List (Int×Nat×Nat)):Path:=p.map λe=>(e.1.toNat,e.2.1,e.2.2)
theorem qCu{E:Env}{E':List V}(h:RVL E.toL E'){i:Operand}{n:Int}(hi:qv5 E i=some n)(h0:0<=n):idxOf E' i=some n.toNat:=by
 cases i with
 |tmp t =>
  simp only [qv5]at hi;obtain ⟨k,hk⟩:=qsb hi (qAB h t);simp only [idxOf,hk];exact qim h0
 |const v =>
  simp only [qv5]at hi;split at hi
  ·cases hi;simp only [idxOf];exact qim h0
  ·cases hi
 |_=>simp [qv5]at hi
theorem qkC{ops:Array Oper}{E:Env}{E':List V}(h:RVL E.toL E'):∀(n k:Nat) (d:Tmp) (rt:Rt) (p:List (Int×Nat×Nat)) (ptr:Bool),qiV P H f ops E n k d=some (rt,p,ptr)->(∀e∈p,0<=e.1)->qcv P H f ops E' n k d=some (rt,ql4 p,ptr):=by
 intro n;induction n with
 |zero=>intro k d rt p ptr hx;simp [qiV]at hx
 |succ n ih =>
  intro k d rt p ptr hx h0;simp only [qiV]at hx;simp only [qcv];split at hx
  ·rename_i hl;rw [if_pos hl];simp only [qb,Prod.mk.injEq]at hx;obtain ⟨rfl,rfl,rfl⟩:=hx;rfl
  ·rename_i hl;rw [if_neg hl];cases hc:qsp ops k d with
   |none=>rw [hc]at hx;cases hx
   |some c =>
    rw [hc]at hx;try simp only at hx ⊢
    cases hop:(ops[c]?).map Oper.op with
    |none=>rw [hop]at hx;cases hx
    |some op =>
     rw [hop]at hx;try simp only at hx ⊢
     split at hx
     ·rename_i a heq;cases heq;exact ih _ _ _ _ _ hx h0
     ·rename_i t a i heq;cases heq;try simp only
      split at hx
      ·rename_i r q j elem hq hj hu;simp only [qb,Prod.mk.injEq]at hx;obtain ⟨rfl,rfl,rfl⟩:=hx;rw [ih _ _ _ _ _ hq (λe he=>h0 e (by simp [he])),qCu h hj (h0 (j,0,P.cellsOf elem) (by simp)),hu];rfl
      ·cases hx
     ·rename_i t a fd heq;cases heq;try simp only
      split at hx
      ·rename_i r j o s q o' hq ho';simp only [qb,Prod.mk.injEq]at hx;obtain ⟨rfl,rfl,rfl⟩:=hx;rw [ih _ _ _ _ _ hq (λe he=>by
        rcases qm.1 he with rfl|he
        ·exact h0 (j,o+o',s) (by simp)
        ·exact h0 e (by simp [he])),ho']
       rfl
      ·cases hx
     ·rename_i t a heq;cases heq;try simp only
      split at hx
      ·cases hx
      ·rename_i hag;rw [if_neg hag];split at hx
       ·rename_i hla;rw [if_pos hla];split at hx
        ·rename_i r q hq;simp only [qb,Prod.mk.injEq]at hx;obtain ⟨rfl,rfl,rfl⟩:=hx;rw [ih _ _ _ _ _ hq h0]
        ·cases hx
       ·rename_i hla;rw [if_neg hla];split at hx
        ·rename_i r off hE;simp only [qb,Prod.mk.injEq]at hx;obtain ⟨rfl,rfl,rfl⟩:=hx;have:=qAB h a;rw [hE]at this;simp only [RV]at this;rw [this];rfl
        ·cases hx
     ·cases hx
theorem qBb{τ:Ty}(he:τ.qc9=true){o:Nat}{e:τ.den}{b:V}(hr:RTy τ o e b){cs:List TV}{cs':List V}(hc:RVL cs cs')(hlen:cs.length=τ.qca)(h0:τ.qca≠0):RV (qrQ (ofTy τ o e) cs) (qfs b cs'):=by
 have hd:∀(hone:τ.qca=1),RV (cs.headD (.any [])) (cs'.headD .undef):=λ_=>by
  cases hc':cs with
  |nil=>rw [hc']at hlen;simp at hlen;omega
  |cons x l =>
   rw [hc']at hc;simp only [RVL]at hc;obtain ⟨v,m,rfl,h1,_⟩:=hc;exact h1
 cases τ with
 |int k=>simp only [RTy]at hr;subst hr;exact hd rfl
 |bool=>simp only [RTy]at hr;subst hr;exact hd rfl
 |str=>simp only [RTy]at hr;subst hr;exact hd rfl
 |flt=>simp only [RTy]at hr;obtain ⟨_,rfl,_⟩:=hr;exact hd rfl
 |cx=>simp only [RTy]at hr;obtain ⟨_,_,rfl,_⟩:=hr;exact hd rfl
 |err=>simp only [RTy]at hr;rcases hr with ⟨_,rfl⟩|⟨_,t9,rfl⟩<;>exact hd rfl
 |mset t=>simp [Ty.qc9]at he
 |sl t=>simp only [RTy]at hr;obtain ⟨f,c,l',rfl,_⟩:=hr;exact hd rfl
 |unit=>exact absurd rfl h0
 |pair a b' =>
  simp only [RTy]at hr;obtain ⟨v1,l,rfl,_⟩:=hr;simp only [ofTy,qrQ,qfs,RV];exact ⟨cs',rfl,hc⟩
theorem qyX{α β:Type}{R:α->β->Prop}{l:List α}{l':List β}(h:All2 R l l'):∀(i:Nat) {a:α} {b:β},R a b->All2 R (l.set i a) (l'.set i b):=by
 induction h with
 |nil=>intro i a b _;exact .nil
 |cons h1 h2 ih =>
  intro i a b hab;cases i with
  |zero=>exact .cons hab h2
  |succ i=>exact .cons h1 (ih i hab)
theorem qEh{ys:List TV}{ys':List V}(hy:RVL ys ys'):∀(p:List (Int×Nat×Nat)) (x:TV) (v:V) {R:Type} {k:TV->Option R} {r:R},qGM ys p x R k=some r->RV x v ->
  (∀e∈p,0<=e.1)/\∃y u,k y=some r/\qvp ys' (ql4 p) v=some u/\RV y u:=by
 intro p;induction p with
 |nil=>intro x v R k r h;unfold qGM at h;cases h
 |cons q p ih =>
  obtain ⟨i,o,s⟩:=q;intro x v R k r h hx;by_cases hxs:∃τ lv l,x=.t (.sl τ) lv l
  ·obtain ⟨τ,lv,l,rfl⟩:=hxs;unfold qGM at h;split at h
   ·rename_i hc;obtain ⟨hown,hcl,hs0,hok,hel⟩:=hc;obtain ⟨e,he,h⟩:=qd.1 h;obtain ⟨h0,hget⟩:=qp0 he;simp only [RV,RTy]at hx;obtain ⟨fl,c,l',rfl,hfl,hall⟩:=hx;have hf:fl=.own:=hfl.own hown;subst hf;obtain ⟨b,hb,hr⟩:=hall.get hget;obtain ⟨hbl,hbo⟩:=qoG hel hr;have hcells:=(RV.cells (quG hel (nx lv) e) (rv_ofTy τ (nx lv) e b hr)).1;have hcl2:(ofTy τ (nx lv) e).cells.length=τ.qca:=by rw [<- hcells.length,hbl]
    have hn0:τ.qca≠0:=by rw [hcl];exact hs0
    have hfin:∀(cs:List TV) (cs':List V) (e':τ.den),RVL cs cs'->cs.length=τ.qca->qks τ (nx lv) (qrQ (ofTy τ (nx lv) e) cs)=some e' ->
      RV (.t (.sl τ) lv (l.set i.toNat e')) (.sl .own c (l'.set i.toNat (qfs b cs'))):=λcs cs' e' hcs hlen has=>by
     have:=qgi _ _ _ _ _ has (qBb hel hr hcs hlen hn0);simp only [RV,RTy];exact ⟨.own,c,_,rfl,qg1 hown,qyX hall _ this⟩
    cases p with
    |nil =>
     simp only at h;split at h
     ·rename_i hle;split at h
      ·rename_i e' has;have hsp:=qnE (off:=o) hcells hy;refine ⟨by simp [h0],_,_,h,?_,hfin _ _ e' hsp ?_ has⟩
       ·simp only [ql4,qi,List.map_nil,qvp];rw [hb];simp only
        rw [if_pos ⟨by rw [hbl,hcl],hbo⟩,if_pos (by rw [hy.length];exact hle)]
       ·rw [<- hsp.length,qcW (by rw [hy.length,hbl,hcl];exact hle),hbl]
      ·cases h
     ·cases h
    |cons q2 p2 =>
     simp only at h;split at h
     ·rename_i z hz;obtain ⟨z',hz',hrz⟩:=hcells.get hz;obtain ⟨h1,y,u,hk,hupd,hyu⟩:=ih z z' h hrz;split at hk
      ·rename_i e' has;have hset:=hcells.set o hyu;refine ⟨λe he=>?_,_,_,hk,?_,hfin _ _ e' hset (by simp [hcl2]) has⟩
       ·rcases qm.1 he with rfl|he
        ·exact h0
        ·exact h1 e he
       ·have hpv:ql4 ((i,o,s)::q2::p2)=(i.toNat,o,s)::ql4 (q2::p2):=rfl;have hpn:ql4 (q2::p2)=(q2.1.toNat,q2.2.1,q2.2.2)::ql4 p2:=rfl;rw [hpv];rw [hpn]at hupd ⊢;unfold qvp;rw [hb];simp only
        rw [if_pos ⟨by rw [hbl,hcl],hbo⟩,hz'];simp only
        rw [hupd];rfl
      ·cases hk
     ·cases h
   ·cases h
  ·exfalso
   cases x with
   |t τ lv l =>
    cases τ with
    |sl τ=>exact hxs ⟨τ,lv,l,rfl⟩
    |_=>simp [qGM]at h
   |_=>simp [qGM]at h
theorem qHM{x:TV}{v:V}(h:RV x v):RV x.qf5 v.qf5:=by
 unfold TV.qf5 V.qf5;cases hf:x.firm with
 |true =>
  rw [RV.firm x v hf h];simpa using h
 |false =>
  simp only [qf,if_false];split
  ·exact qfe _
  ·simp only [RV];exact ⟨λr hr=>RV.qv x v h r hr,qbm (qC.2 ⟨h,qaU⟩)⟩
theorem qny:∀{l:List TV} {l':List V},RVL l l'->RVL (l.map TV.qf5) (l'.map V.qf5)
 |[],l',h=>by simp only [RVL]at h;subst h;exact qaU
 |x::l,l',h=>by
  simp only [RVL]at h;obtain ⟨v,m,rfl,h1,h2⟩:=h;exact qC.2 ⟨qHM h1,qny h2⟩
theorem qzW:∀{l:List TV} {l':List V},RVL l l'->l.all TV.firm=true->l'.map V.qf5=l'
 |[],l',h,_=>by simp only [RVL]at h;subst h;rfl
 |x::l,l',h,hf=>by
  simp only [RVL]at h;obtain ⟨v,m,rfl,h1,h2⟩:=h;simp only [List.all_cons,qe]at hf;simp only [qi];rw [qzW h2 hf.2];have:v.qf5=v:=by unfold V.qf5;rw [RV.firm x v hf.1 h1];rfl
  rw [this]
theorem qDO{E:Env}{i:Nat}{x:TV}(h:E.toL[i]?=some x)(hf:x.firm=false)(ha:x.isAny=false):i∈qHS E :=
 qFa (by simp [TV.isAny]) h (by simp [hf,ha])
theorem qnC:∀{b:qR} {k:Nat} {c:List TV},qaf b k=some (some c)->c.all TV.firm=false->(⟨0,k⟩:Root)∈qyy b
 |[],k,c,h,_=>by simp [qaf]at h
 |(k',none)::b,k,c,h,hf=>by
  simp only [qaf]at h;split at h
  ·cases h
  ·simp only [qyy];exact qnC h hf
 |(k',some d)::b,k,c,h,hf=>by
  simp only [qaf]at h;simp only [qyy];split at h
  ·rename_i e;cases h;rw [hf];simp [e]
  ·split
   ·exact qnC h hf
   ·exact List.mem_cons_of_mem _ (qnC h hf)
theorem qik(s:Nat):∀b:qR,qaf (qCr b) s=(qaf b s).map (Option.map (List.map TV.qf5))
 |[]=>rfl
 |(k,c)::b=>by
  simp only [qCr,qi,qaf];split
  ·rfl
  ·exact qik s b
theorem qye{x:TV}(h:x.isAny=true):∃rs,x=.any rs:=by cases x<;>first|exact ⟨_,rfl⟩|(simp [TV.isAny]at h)
def qoI(s:St)(T:List Tmp):St:={s with E:=(qG s.E T).map V.qf5,B:=qmE s.B}
theorem qjF{st:TSt}(hL:st.L=[])(r:Root):st.cont r=if r.lvl=0 then (match qaf st.B r.slot with|some (some c)=>some c|_=>none)else none:=by
 unfold TSt.cont;rw [hL];simp only [List.length_nil];by_cases h:r.lvl=0
 ·rw [if_pos h,if_pos h];cases qaf st.B r.slot with
  |none=>rfl
  |some o=>cases o<;>rfl
 ·rw [if_neg h,if_neg h];simp
theorem qkJ{b:qR}(h:qrq b=true){k:Nat}{c:List TV}(hl:qaf b k=some (some c)):isRec c=false:=by
 unfold qrq at h;rw [List.all_eq_true]at h;have:=h _ (qeY hl);simpa using this
theorem qoJ{st:TSt}{s:St}(h:Rst st s)(hL:st.L=[])(hn0:qrq st.B=true)(T:List Tmp):s.L=[]/\qi1 s.B=true/\Rst (st.qcZ T) (qoI s T)/\Fr2 st (st.qcZ T) s (qoI s T):=by
 have hL':s.L=[]:=List.eq_nil_of_length_eq_zero (by rw [h.len,hL];rfl);have hB:∀k,RB (qaf st.B k) (qz s.B k):=λk=>by
  have:=h.M.rel 0 k;unfold qaK qaV at this;simpa [TSt.all,qeo,hL,hL']using this
 have hnd:(s.B.map (·.1)).Nodup:=h.M.nd s.B (by simp [qeo]);have hlp:∀k c,qz s.B k=some c->qaE c=false:=λk c hc=>by
  have:=hB k;cases ht:qaf st.B k with
  |none=>rw [ht]at this;simp only [RB]at this;rw [this]at hc;cases hc
  |some o =>
   rw [ht]at this;cases o with
   |none=>exact this c hc
   |some d=>obtain ⟨d',hd',hr⟩:=this;rw [hc]at hd';cases hd';exact qbm (hr.rvl (qkJ hn0 ht))
 have hE:=qmy T h.E;have hlen:(qG s.E T).length=s.E.length:=qbH T s.E;have hfirmE:∀(t:Nat),t∉qHS (qcM st.E T)->∀x v,(qcM st.E T).toL[t]?=some x->(qG s.E T)[t]?=some v->x.firm=true\/∃rs,x=.any rs:=λt hts x v hx _=>by
  cases hf:x.firm with
  |true=>exact .inl rfl
  |false =>
   cases ha:x.isAny with
   |true=>exact .inr (qye ha)
   |false=>exact absurd (qDO hx hf ha) hts
 have hmap:((qcM st.E T).qyb λ_ v=>v.qf5).toL=(qcM st.E T).toL.map TV.qf5:=by
  apply List.ext_getElem?;intro i;rw [qvh,List.getElem?_map]
 refine ⟨hL',?_,⟨by show RVL ((qcM st.E T).qyb λ_ v=>v.qf5).toL _;rw [hmap];exact qny hE,?_⟩,?_⟩
 ·unfold qi1;rw [List.all_eq_true];rintro ⟨k,c⟩ hk;simp only [hlp k c (qih hnd hk),Bool.not_false]
 ·refine ⟨by simp [TSt.all,qeo,TSt.qcZ,qoI,hL,hL'],λl k=>?_,λb hb=>?_,λl k c hc hlt=>?_⟩
  rotate_right
  ·unfold qaV at hc;simp only [qeo,qoI,hL',List.nil_append]at hc;cases l with
   |zero =>
    simp only [List.getElem?_cons_zero,qdK]at hc;obtain ⟨c0,h1,rfl⟩:=qc.1 hc;exact qwd (h.M.mp 0 k c0 (by unfold qaV;simpa [qeo,hL']using h1) hlt)
   |succ l=>simp at hc
  ·unfold qaK qaV;simp only [TSt.all,qeo,TSt.qcZ,qoI,hL,hL',List.nil_append];cases l with
   |zero =>
    simp only [List.getElem?_cons_zero];rw [qik,qdK];have:=hB k;cases ht:qaf st.B k with
    |none=>rw [ht]at this;simp only [RB]at this;rw [this]<;>rfl
    |some o =>
     rw [ht]at this;cases o with
     |none =>
      simp only [qj,Option.map_none];intro c hc;obtain ⟨c0,h1,rfl⟩:=qc.1 hc;exact qqO (this c0 h1)
     |some d=>obtain ⟨d',hd',hr⟩:=this;rw [hd'];exact ⟨_,rfl,(qny (hr.rvl (qkJ hn0 ht))).rc⟩
   |succ l=>simp [RB]
  ·simp only [qeo,qoI,hL',List.nil_append,List.mem_singleton]at hb;subst hb;simpa [qmE,List.map_map,Function.comp_def]using hnd
 ·refine ⟨λt ht=>by simp [TSt.qcZ,ht],λr hr=>by simp [TSt.qcZ,hr],λt ht=>?_,λt ht rs hE'=>?_,λr hr=>?_,λr hr hsm=>?_,rfl,by simp [qoI,hlen]⟩
  ·simp only [TSt.qcZ,Mask.mem_append,Mask.mem_ofList,not_or]at ht;simp only [qoI,List.getElem?_map];have hEt:=qqv h.E ht.1;rw [hEt];cases hv:s.E[t]? with
   |none=>left;rfl
   |some v =>
    simp only [qj];have hv2:(qG s.E T)[t]?=some v:=by rw [hEt];exact hv
    have hxt:∃x,(qcM st.E T).toL[t]?=some x:=by
     have hlt:t<(qcM st.E T).toL.length:=by
      have:=(qn.1 hv2).1;rw [<- hE.length];exact this
     exact ⟨_,List.getElem?_eq_getElem hlt⟩
    obtain ⟨x,hx⟩:=hxt;rcases hfirmE t ht.2.1 x v hx hv2 with hf|⟨rs,rfl⟩
    ·left
     obtain ⟨v',hv',hr⟩:=hE.get hx;rw [hv2]at hv';cases hv';unfold V.qf5;rw [RV.firm x v hf hr];rfl
    ·unfold V.qf5;cases hs:v.soft with
     |false=>left;rfl
     |true =>
      right
      exact ⟨qiG _ _ _ _ hx,rfl⟩
  ·simp only [TSt.qcZ,Mask.mem_append,Mask.mem_ofList,not_or]at ht;simp only [TSt.qcZ,hmap,List.getElem?_map]at hE';obtain ⟨x,hx,hxa⟩:=qc.1 hE';obtain ⟨v,hv,_⟩:=hE.get hx;rcases hfirmE t ht.2.1 x v hx hv with hf|⟨rs',rfl⟩
   ·unfold TV.qf5 at hxa;rw [hf]at hxa;simp only [if_true]at hxa;subst hxa;simp [TV.firm]at hf
   ·exact qiG _ _ _ _ hx
  ·simp only [TSt.qcZ,qk,not_or]at hr;rw [qgq (st:=qoI s T) hL',qgq hL'];by_cases h0:r.lvl=0
   ·rw [if_pos h0,if_pos h0];simp only [qoI,qdK];have:=hB r.slot;cases ht:qaf st.B r.slot with
    |none=>rw [ht]at this;simp only [RB]at this;rw [this];left;rfl
    |some o =>
     rw [ht]at this;cases o with
     |none =>
      right
      refine ⟨by rw [hL'];rfl,by rw [qjF hL,if_pos h0,ht],by simp,λc hc=>?_⟩;obtain ⟨c0,h1,rfl⟩:=qc.1 hc;exact qqO (this c0 h1)
     |some d =>
      left
      obtain ⟨d',hd',hrr⟩:=this;rw [hd'];cases hf:d.all TV.firm with
      |true=>simp only [qj];rw [qzW (hrr.rvl (qkJ hn0 ht)) hf]
      |false =>
       exfalso
       refine hr.1 ?_;have:=qnC ht hf;obtain ⟨l,sl⟩:=r;simp only at h0 this;rw [h0];exact this
   ·rw [if_neg h0,if_neg h0];left;rfl
  ·rw [qjF hL]at hsm;have hL2:(st.qcZ T).L=[]:=hL;rw [qjF hL2];by_cases h0:r.lvl=0
   ·rw [if_pos h0]at hsm ⊢;simp only [TSt.qcZ,qik];cases ht:qaf st.B r.slot with
    |none=>rw [ht]at hsm;cases hsm
    |some o =>
     rw [ht]at hsm;cases o with
     |none=>cases hsm
     |some d=>rfl
   ·rw [if_neg h0]at hsm;cases hsm
theorem qDP{st:TSt}{s:St}(h:Rst st s)(hL:st.L=[])(hn0:qrq st.B=true)(hB0:st.B.all (λp=>decide (p.1<16384))=true)(T:List Tmp):s.L=[]/\qwA s.B=true/\Rst (st.qcZ T) (qoI s T)/\Fr2 st (st.qcZ T) s (qoI s T):=by
 obtain ⟨hL',hnl,hR,hF⟩:=qoJ h hL hn0 T;refine ⟨hL',?_,hR,hF⟩;have hB:∀k,RB (qaf st.B k) (qz s.B k):=λk=>by
  have:=h.M.rel 0 k;unfold qaK qaV at this;simpa [TSt.all,qeo,hL,hL']using this
 have hnd:(s.B.map (·.1)).Nodup:=h.M.nd s.B (by simp [qeo]);have hmp:∀k c,qz s.B k=some c->qjn c=false:=λk c hc=>by
  by_cases hlt:k<16384
  ·have h9:qaV (qeo s) 0 k=some c:=by unfold qaV;simpa [qeo,hL']using hc
   exact h.M.mp 0 k c h9 hlt
  ·have:=hB k;cases ht:qaf st.B k with
   |none=>rw [ht]at this;simp only [RB]at this;rw [this]at hc;cases hc
   |some o =>
    rw [List.all_eq_true]at hB0;have h9:=hB0 _ (qeY ht);simp only [decide_eq_true_eq]at h9;omega
 unfold qwA;unfold qi1 at hnl;rw [List.all_eq_true]at hnl ⊢;rintro ⟨k,c⟩ hk;have h1:=hnl _ hk;simp only [Bool.not_eq_true']at h1;simp only [qgL h1 (hmp k c (qih hnd hk)),Bool.not_false]
theorem qHN{x:TV}{v:V}(h:RV x v):RV x.qf5 v:=by
 unfold TV.qf5;split
 ·exact h
 ·simp only [RV];exact ⟨RV.qv x v h,qbm (qC.2 ⟨h,qaU⟩)⟩
theorem qu2:∀{l:List TV} {l':List V},RVL l l'->RVL (l.map TV.qf5) l'
 |[],l',h=>h
 |x::l,l',h=>by
  simp only [RVL]at h;obtain ⟨v,m,rfl,h1,h2⟩:=h;exact qC.2 ⟨qHN h1,qu2 h2⟩
theorem qyz{st:TSt}{s:St}(h:Rst st s)(hL:st.L=[])(hn0:qrq st.B=true):Rst (st.qcZ []) s/\Fr2 st (st.qcZ []) s s:=by
 obtain ⟨hL',_,_,hf⟩:=qoJ h hL hn0 [];have hB:∀k,RB (qaf st.B k) (qz s.B k):=λk=>by
  have:=h.M.rel 0 k;unfold qaK qaV at this;simpa [TSt.all,qeo,hL,hL']using this
 have hE:RVL (qcM st.E []).toL s.E:=qmy [] h.E;have hmap:((qcM st.E []).qyb λ_ v=>v.qf5).toL=(qcM st.E []).toL.map TV.qf5:=by
  apply List.ext_getElem?;intro i;rw [qvh,List.getElem?_map]
 refine ⟨⟨by show RVL ((qcM st.E []).qyb λ_ v=>v.qf5).toL _;rw [hmap];exact qu2 hE,⟨by simp [TSt.all,qeo,TSt.qcZ,hL,hL'],λl k=>?_,h.M.nd,h.M.mp⟩⟩,⟨hf.wt,hf.wb,λ_ _=>.inl rfl,hf.an,λ_ _=>.inl rfl,hf.bn,rfl,rfl⟩⟩;unfold qaK qaV;simp only [TSt.all,qeo,TSt.qcZ,hL,hL',List.nil_append];cases l with
 |zero =>
  simp only [List.getElem?_cons_zero];rw [qik];have:=hB k;cases ht:qaf st.B k with
  |none=>rw [ht]at this;simp only [RB]at this;rw [this]<;>rfl
  |some o =>
   rw [ht]at this;cases o with
   |none=>exact this
   |some d=>obtain ⟨d',hd',hr⟩:=this;rw [hd'];exact ⟨_,rfl,(qu2 (hr.rvl (qkJ hn0 ht))).rc⟩
 |succ l=>simp [RB]
theorem qAi{xs:List Int}{o:Nat}{l:List V}(h:All2 (RTy (.int .i64) o) xs l):qqK l=some xs:=by
 induction h with
 |nil=>rfl
 |cons h1 _ ih =>
  simp only [RTy]at h1;subst h1;simp only [qqK,ih,qj]
theorem qqm(o:Nat):∀xs:List Int,All2 (RTy (.int .i64) o) xs (qe3 xs)
 |[]=>.nil
 |x::xs=>.cons (by simp only [RTy]) (qqm o xs)
theorem qGc{F:List Int->Option (List Int)}{t:Tmp}{d:Option Tmp}{st:TSt}{s:St}{R:Type}{k:TSt->Option R}{r:R}(hs:Rst st s)(h:qHY F t d st R k=some r) :
  ∃st' s',k st'=some r/\qkU F t d s=some s'/\Rst st' s'/\Fr2 st st' s s':=by
 unfold qHY at h;split at h
 ·rename_i hLn;simp only [qe,List.isEmpty_iff]at hLn;obtain ⟨hL,hn0⟩:=hLn;split at h
  ·rename_i o xs hget;split at h
   ·rename_i ho;obtain ⟨ys,hys,hk⟩:=qd.1 h;obtain ⟨hL',hnl,hR1,hF1⟩:=qoJ hs hL hn0 [];have hrt:=qAB hs.E t;rw [hget]at hrt;simp only [RV,RTy]at hrt;obtain ⟨f,c,l',hv,hfl,hall⟩:=hrt;have hf:=hfl.own ho;subst hf;have hin:=qAi (o:=0) hall;have hnew:RV (.t (.sl (.int .i64)) o ys) (.sl .own c (qe3 ys)):=by
     simp only [RV,RTy];exact ⟨.own,c,_,rfl,hfl,qqm 0 ys⟩
    have hand:RV (.any []) V.undef:=qfe [];cases hx:xs with
    |nil =>
     obtain ⟨hR0,hF0⟩:=qyz hs hL hn0;obtain ⟨hR2,hF2⟩:=qkc hR0 (some t) hnew;obtain ⟨hR3,hF3⟩:=qkc hR2 d hand;refine ⟨_,_,hk,?_,hR3,(hF0.trans hF2).trans hF3⟩;unfold qkU;rw [if_pos (by rw [hL',hnl];rfl),hv];simp only [hin,hys];rw [hx];rfl
    |cons x0 xs0 =>
     obtain ⟨hR2,hF2⟩:=qkc hR1 (some t) hnew;obtain ⟨hR3,hF3⟩:=qkc hR2 d hand;refine ⟨_,_,hk,?_,hR3,(hF1.trans hF2).trans hF3⟩;unfold qkU;rw [if_pos (by rw [hL',hnl];rfl),hv];simp only [hin,hys];rw [hx];rfl
   ·cases h
  ·cases h
 ·cases h
def qGj(h:Hole)(s:St):Prop:=∃c l' b,s.E[h.r]?=some (.sl .own c (l'.set h.j.toNat b))/\All2 (RTy h.τ (nx h.lv)) h.l l'/\b.cells=[b]/\b.oks=true/\(∀cs,qfs b cs=cs.headD .undef)/\0<=h.j/\h.j.toNat<l'.length/\qbY h.lv=true
def qiA(h:Option Hole)(s:St):Prop:=∀x,h=some x->qGj x s
theorem qs2{s:St}:qiA none s:=λx h=>by cases h
theorem qzs{o:Oper}{hole:Option Hole}{s s':St}(h:qiA hole s)(hk:∀t:Nat,t∉tmpsOf o->o.dst≠some t->s'.E[t]?=s.E[t]?):qiA (qut o hole) s':=by
 intro x hx;unfold qut at hx;split at hx
 ·rename_i h0;split at hx
  ·cases hx
  ·rename_i hc;cases hx;simp only [not_or]at hc;obtain ⟨c,l',b,h1,h2⟩:=h x rfl;exact ⟨c,l',b,by rw [hk x.r (by simpa using hc.2) hc.1];exact h1,h2⟩
 ·cases hx
theorem qCD{o:Oper}{hole:Option Hole}{s:St}(h:qiA hole s)(v:V):qiA (qut o hole) (s.put o.dst v) :=
 qzs h λt _ h2=>by
  unfold St.put;cases hd:o.dst with
  |none=>rfl
  |some d =>
   simp only
   rw [List.getElem?_set_ne];rintro rfl;exact h2 hd
theorem qEF{hole:Option Hole}{r0:Tmp}{p:List (Int×Nat×Nat)}{x:TV}{v:V}{st:TSt}{s sV:St}{R:Type}{k:TSt->Option R}{r:R}(hh:qiA hole sV)(hx:RV x v)(hs:Rst st s)(h:qEE hole r0 p x st R k=some r) :
  (∀e∈p,0<=e.1)/\∃st' y,k st'=some r/\qvp v.cells (ql4 p) (sV.E.getD r0 .undef)=some y/\y.soft=false/\Rst st' (s.put (some r0) y)/\Fr2 st st' s (s.put (some r0) y):=by
 unfold qEE at h;split at h
 ·rename_i hl i;split at h
  ·rename_i hr0;subst hr0;split at h
   ·rename_i τ o y;split at h
    ·rename_i e he;cases hd:decide (i=hl.j)with
     |false=>rw [hd]at h;cases h
     |true =>
      rw [hd]at h;simp only [cond_true]at h;have hij:i=hl.j:=of_decide_eq_true hd;subst hij;split at h
      ·rename_i hf;obtain ⟨c,l',b,h1,h2,h3,h4,h5,h6,h7,h8⟩:=hh hl rfl;have hvc:v.cells=[v]:=by
        simp only [RV,RTy]at hx;obtain ⟨f,c,m,rfl,_⟩:=hx;rfl
       have hy:=qgi _ _ _ _ _ he hx;have hnew:RV (.t (.sl hl.τ) hl.lv (hl.l.set hl.j.toNat e)) (.sl .own c (l'.set hl.j.toNat v)):=by
        simp only [RV,RTy];exact ⟨.own,c,_,rfl,qg1 h8,qyX h2 _ hy⟩
       obtain ⟨hR2,hF2⟩:=qkc hs (some hl.r) hnew;refine ⟨by simp [h6],_,_,h,?_,RV.firm _ _ hf hnew,hR2,hF2⟩;have hE:sV.E.getD hl.r .undef=.sl .own c (l'.set hl.j.toNat b):=by rw [List.getD_eq_getElem?_getD,h1];rfl
       rw [hE,hvc];simp only [ql4,qi,List.map_nil,qvp];have hg:(l'.set hl.j.toNat b)[hl.j.toNat]?=some b:=by rw [List.getElem?_set_self h7]
       rw [hg];simp only
       rw [if_pos ⟨by rw [h3];rfl,h4⟩,if_pos (by simp),h3,h5,List.set_set];simp [qV]
      ·cases h
    ·cases h
   ·cases h
  ·cases h
 ·cases h
theorem qIH{ops:Array Oper}{i:Nat}{o:Oper}{st:TSt}{s:St}{hole:Option Hole}{R:Type}{k:TSt->Option R}{r:R}(hs:Rst st s)(hh:qiA hole s)(h:lsT P H f ops i o st hole R k=some r) :
  ∃st' s',k st'=some r/\qlo P H f ops i o s=some s'/\Rst st' s'/\Fr2 st st' s s':=by
 unfold lsT at h;split at h
 ·rename_i t d xo hop;simp only at h;split at h
  ·rename_i hc;simp only [qe,decide_eq_true_eq,List.isEmpty_iff]at hc;obtain ⟨⟨⟨⟨⟨⟨⟨⟨⟨hL,hn0⟩,hB0⟩,hdst⟩,hgd⟩,hnd⟩,hs0⟩,hxl⟩,hxo⟩,hxp⟩:=hc;obtain ⟨hL',hnl,hsoft,hfr⟩:=qDP hs hL hn0 hB0 (tmpsOf o);have hrx:=qFF (H:=H) (f:=f) (o:=o) hs.E xo;obtain ⟨hcx,hox⟩:=RV.cells hxo hrx;have hpx:(rd H f o s.E xo).qv=[]:=by
    rw [List.eq_nil_iff_forall_not_mem];intro q hq;have:=RV.qv _ _ hrx q hq;rw [hxp]at this;cases this
   have hcond:(s.L.isEmpty&&qwA s.B&&o.dst.isNone&&o.guard.isNone&&qha (tmpsOf o)&&decide (P.cellsOf t≠0)&&decide ((rd H f o s.E xo).cells.length=P.cellsOf t)&&(rd H f o s.E xo).oks&&(rd H f o s.E xo).qv.isEmpty)=true:=by
    simp only [qe,decide_eq_true_eq];exact ⟨⟨⟨⟨⟨⟨⟨⟨by rw [hL'];rfl,hnl⟩,hdst⟩,hgd⟩,hnd⟩,hs0⟩,by rw [hcx.length];exact hxl⟩,hox⟩,by rw [hpx];rfl⟩
   have hrev:∀p:List (Int×Nat×Nat),(ql4 p).reverse=ql4 p.reverse:=λp=>by simp [ql4]
   split at h
   ·rename_i r0 p hlk;split at h
    ·cases h
    ·rename_i hrT;split at h
     ·obtain ⟨hp0,st',y,hk,hupd,hysoft,hR2,hF2⟩:=qEF hh hrx hsoft h;have hlk':=qkC hs.E _ _ _ _ _ _ hlk hp0;have hsing:(ql4 p).reverse=ql4 p:=by
       unfold qEE at h;split at h
       ·rfl
       ·cases h
      refine ⟨_,_,hk,?_,hR2,hfr.trans hF2⟩;unfold qlo;rw [hop];simp only
      rw [if_pos hcond,hlk'];simp only
      rw [if_neg hrT,hsing,hupd];simp only
      rw [hysoft];rfl
     obtain ⟨hp0,y,u,hk,hupd,hyu⟩:=qEh hcx _ _ _ h (qAB hs.E r0);split at hk
     ·rename_i hf;have hlk':=qkC hs.E _ _ _ _ _ _ hlk (λe he=>hp0 e (by simpa using he));obtain ⟨hR2,hF2⟩:=qkc hsoft (some r0) hyu;refine ⟨_,_,hk,?_,hR2,hfr.trans hF2⟩;unfold qlo;rw [hop];simp only
      rw [if_pos hcond,hlk'];simp only
      rw [if_neg hrT,hrev,hupd];simp only
      rw [RV.firm y u hf hyu];rfl
     ·cases hk
   ·rename_i q off p hlk;split at h
    ·rename_i cs hcs;split at h
     ·rename_i z hz;obtain ⟨c',hc',hrc⟩:=hs.box hcs;obtain ⟨z',hz',hrz⟩:=hrc.get hz;obtain ⟨hp0,y,u,hk,hupd,hyu⟩:=qEh hcx _ _ _ h hrz;split at hk
      ·rename_i hf;have hlk':=qkC hs.E _ _ _ _ _ _ hlk (λe he=>hp0 e (by simpa using he));have hsb:(st.qcZ (tmpsOf o)).box q=some (cs.map TV.qf5):=by
        have hL2:(st.qcZ (tmpsOf o)).L=[]:=hL;refine qy7 ?_ (qtz (qny hrc))
        replace hcs:=(qt2 hcs).1
        rw [qjF hL]at hcs;rw [qjF hL2];by_cases h0:q.lvl=0
        ·rw [if_pos h0]at hcs ⊢;simp only [TSt.qcZ,qik];split at hcs
         ·rename_i c hc;cases hcs;rw [hc];rfl
         ·cases hcs
        ·rw [if_neg h0]at hcs;cases hcs
       have hq0:q.lvl=0:=by
        rw [qgq hL']at hc';split at hc'
        ·assumption
        ·cases hc'
       obtain ⟨hR2,hF2⟩:=qr5 hsoft hsb ((qny hrc).set off hyu) (λhlt=>qEX (qwd (hs.M.mp q.lvl q.slot c' (by rw [<- qT];exact hc') hlt)) (by obtain ⟨c9,l9,h9⟩:=qyO hupd;rw [h9];rfl));refine ⟨_,_,hk,?_,hR2,hfr.trans hF2⟩;unfold qlo;rw [hop];simp only
       rw [if_pos hcond,hlk'];simp only
       rw [hc'];simp only
       rw [hz'];simp only
       rw [hrev,hupd];simp only
       rw [RV.firm y u hf hyu];simp only [qf,if_false,qb];unfold St.qu qoI;rw [if_pos (by rw [hq0,hL'];rfl)]
      ·cases hk
     ·cases h
    ·cases h
   ·cases h
  ·cases h
 ·cases h
theorem qCL{o:Oper}{E:Env}{E':List V}(h:RVL E.toL E')(hg:qya H f o E=true):qgs H f o E'=true:=by
 unfold qya at hg;unfold qgs;simp only [Bool.or_eq_true,qe]at hg ⊢;refine hg.imp id λ⟨h1,h2⟩=>⟨?_,?_⟩
 ·rw [h.length,qmi];exact h1
 ·split
  ·rename_i t a hop;rw [hop]at h2;simp only [Bool.or_eq_true]at h2 ⊢;refine h2.imp id λh3=>?_;have:=qAB h a;cases hx:E.get a with
   |cptr l=>rw [hx]at this;simp only [RV]at this;obtain ⟨f',l',hl',_⟩:=this;rw [hl']<;>rfl
   |_=>rw [hx]at h3;cases h3
  ·rfl
theorem qpU(hT:TOk P H lib T)(hO:OOk P H lib O){ops:Array Oper}{R:Type}{k:TSt->Option R}{r:R}:∀(is:List Nat) (st:TSt) (s:St),Rst st s->qAx P H J T O ctx f ops is st R k=some r ->
  ∃st' s',k st'=some r/\Ev (λC=>qhP P H C f ops is s=some s') P H lib/\Rst st' s'/\Fr2 st st' s s'
 |[],st,s,hs,h=>⟨st,s,h,.of λC=>rfl,hs,Fr2.refl _ _⟩
 |i::is,st,s,hs,h=>by
  simp only [qAx]at h;split at h
  ·cases h
  ·rename_i o ho;obtain ⟨st1,b,hw,hs1,hf1,hb⟩:=qxT hs h;cases b with
   |true =>
    simp only [if_true]at hb;obtain ⟨st2,fp,s2,hk,hev,hR,hF,hkeep⟩:=qoO hT hO hs1 hb;obtain ⟨st3,s3,hk3,hev3,hR3,hF3⟩:=qpU hT hO is st2 s2 hR hk;refine ⟨st3,s3,hk3,(hev.and hev3).imp λC hC=>?_,hR3,(hf1.trans hF).trans hF3⟩;simp only [qhP,ho,hw,qnF,hC.1,qj,hC.2]
   |false =>
    simp only [qf,if_false]at hb;obtain ⟨hR,hF⟩:=qkc hs1 o.dst (v:=.val undef) (u:=.val undef) (by simp [RV]);obtain ⟨st3,s3,hk3,hev3,hR3,hF3⟩:=qpU hT hO is _ _ hR hb;refine ⟨st3,s3,hk3,hev3.imp λC hC=>?_,hR3,(hf1.trans hF).trans hF3⟩;simp only [qhP,ho,hw,hC]
def Cov(l:List (Nat×Foot))(e:Nat×Foot):Prop:=∃e'∈l,e'.1=e.1/\e'.2.fp=e.2.fp/\e'.2.looks=e.2.looks/\∀t∈e.2.took,t∈e'.2.took
theorem qEc{o:Oper}{E:Env}{E':List V}(h:RVL E.toL E'):∀t∈qhJ H f o E',t∈qoU H f o E:=λt ht=>by
 unfold qhJ at ht;unfold qoU;split at ht
 ·rename_i htk;rw [if_pos htk];simp only [List.mem_filter]at ht ⊢;exact ⟨ht.1,RV.owns _ _ (qAB h t) ht.2⟩
 ·cases ht
theorem qqz(hT:TOk P H lib T)(hO:OOk P H lib O){ops:Array Oper}{R:Type}{k:TSt->List (Nat×Foot)->Option R}{r:R}:∀(is:List Nat) (st:TSt) (s:St) (acc:List (Nat×Foot)),Rst st s->qvP P H J T O ctx f ops is st acc R k=some r ->
  ∃st' s' fps fpv,k st' fps=some r/\Ev (λC=>qiM P H C f ops is s=some (s',fpv)) P H lib/\Rst st' s'/\Fr2 st st' s s'/\(∀e∈acc,e∈fps)/\(∀e∈fpv,Cov fps e)
 |[],st,s,acc,hs,h=>⟨st,s,acc,[],h,.of λC=>rfl,hs,Fr2.refl _ _,λe he=>he,by simp⟩
 |i::is,st,s,acc,hs,h=>by
  simp only [qvP]at h;split at h
  ·cases h
  ·rename_i o ho;obtain ⟨st1,b,hw,hs1,hf1,hb⟩:=qxT hs h;cases b with
   |true =>
    simp only [if_true]at hb;obtain ⟨st2,fp,s2,hk,hev,hR,hF,hkeep⟩:=qoO hT hO hs1 hb;obtain ⟨st3,s3,fps,fpv,hk3,hev3,hR3,hF3,hacc,hcov⟩:=qqz hT hO is st2 s2 _ hR hk;refine ⟨st3,s3,fps,(i,⟨fp,qhJ H f o s.E,qcw H f ops o⟩)::fpv,hk3,(hev.and hev3).imp λC hC=>?_,hR3,(hf1.trans hF).trans hF3,λe he=>hacc e (by simp [he]),λe he=>?_⟩
    ·simp only [qiM,qds,ho,hw,hC.1,qj,hC.2]
    ·rcases qm.1 he with rfl|he
     ·exact ⟨_,hacc _ (List.mem_cons_self ..),rfl,rfl,rfl,λt ht=>qEc hs1.E t ht⟩
     ·exact hcov e he
   |false =>
    simp only [qf,if_false]at hb;obtain ⟨hR,hF⟩:=qkc hs1 o.dst (v:=.val undef) (u:=.val undef) (by simp [RV]);obtain ⟨st3,s3,fps,fpv,hk3,hev3,hR3,hF3,hacc,hcov⟩:=qqz hT hO is _ _ _ hR hb;refine ⟨st3,s3,fps,(i,⟨.none,[],qcw H f ops o⟩)::fpv,hk3,hev3.imp λC hC=>?_,hR3,(hf1.trans hF).trans hF3,λe he=>hacc e (by simp [he]),λe he=>?_⟩
    ·simp only [qiM,qds,ho,hw,hC,qj]
    ·rcases qm.1 he with rfl|he
     ·exact ⟨_,hacc _ (List.mem_cons_self ..),rfl,rfl,rfl,λt ht=>by cases ht⟩
     ·exact hcov e he
theorem qIl{ops:Array Oper}{i:Nat}{o:Oper}{st:TSt}{s:St}{R:Type}{k:TSt->Hole->Option R}{r:R}(hs:Rst st s)(h:apT P H f ops i o st R k=some r) :
  ∃st' s' hole,k st' hole=some r/\qfY P H f ops i o s=some s'/\Rst st' s'/\Fr2 st st' s s'/\qGj hole s':=by
 unfold apT at h;split at h
 ·rename_i argTypes args _ hop;split at h
  ·rename_i d hd;split at h
   ·rename_i r0 j hlk;split at h
    ·cases h
    ·rename_i hrd;simp only [not_or]at hrd;split at h
     ·rename_i τ lv l hE;split at h
      ·rename_i hown;simp only [qe]at hown;obtain ⟨e,he,hk⟩:=qd.1 h;obtain ⟨h0,hget⟩:=qp0 he;have hlk':=qkC hs.E _ _ _ _ _ _ hlk (λe he=>by simp only [List.mem_singleton]at he;subst he;exact h0);have hr:=qAB hs.E r0;rw [hE]at hr;simp only [RV,RTy]at hr;obtain ⟨fl,c,l',hv,hfl,hall⟩:=hr;have hf:fl=.own:=hfl.own hown.1;subst hf;obtain ⟨b,hb,hrb⟩:=hall.get hget;have hrb0:RTy (.sl τ) (nx lv) e b:=hrb;obtain ⟨f2,c2,l2,rfl,hf2,hall2⟩:=hrb;have hf2':f2=.own:=hf2.own hown.2;subst hf2';have hlen:s.E.length=st.E.n:=by rw [hs.E.length,qmi]
       have hr0lt:r0<s.E.length:=by
        rcases Nat.lt_or_ge r0 s.E.length with h9|h9
        ·exact h9
        ·exfalso
         rw [List.getD_eq_getElem?_getD,List.getElem?_eq_none h9]at hv;cases hv
       have hjl:j.toNat<l'.length:=(qn.1 hb).1;have hdl:(V.sl .own c2 l2).qap=.sl .qap c2 (reflagL qac l2):=rfl;let y:V:=.sl .own c (l'.set j.toNat (V.qap (.sl .own c2 l2)))
       have hyp:y.qv=[]:=by simp [y,V.qv]
       refine ⟨_,{s with E:=(s.E.set r0 y).set d (.sl .own c2 l2)},_,hk,?_,⟨?_,hs.M⟩,?_,?_⟩
       ·unfold qfY;rw [hop];simp only
        rw [hd];simp only
        rw [hlk'];simp only [ql4,qi,List.map_nil];rw [if_neg (by simp only [not_or];exact ⟨hrd.1,by omega⟩),hv];simp only [qF5,hb];simp [y]
       ·show RVL ((st.E.set r0 (.any [])).set d _).toL _;rw [qfI,qfI];refine (hs.E.set r0 ?_).set d ?_
        ·simp only [RV];exact ⟨by rw [hyp];simp,by simp [y,qaE]⟩
        ·simp only [RV];exact hrb0
       ·refine ⟨λt ht=>by simp [Mask.mem_ins,ht],λq hq=>hq,λt ht=>.inl ?_,λt ht rs hE'=>?_,λq hq=>.inl rfl,λq hq h=>h,rfl,by simp⟩
        ·simp only [Mask.mem_ins,not_or]at ht;simp only
         rw [List.getElem?_set_ne (Ne.symm ht.2.1),List.getElem?_set_ne (Ne.symm ht.1)]
        ·simp only [Mask.mem_ins,not_or]at ht;simp only [qfI]at hE';rw [List.getElem?_set_ne (Ne.symm ht.2.1),List.getElem?_set_ne (Ne.symm ht.1)]at hE';exact ⟨rs,hE'⟩
       ·refine ⟨c,l',V.qap (.sl .own c2 l2),?_,hall,rfl,by simp [hdl,V.oks,V.cells,V.one],λcs=>by rw [hdl];rfl,h0,hjl,hown.1⟩;simp only
        rw [List.getElem?_set_ne (Ne.symm hrd.1),List.getElem?_set_self hr0lt]
      ·cases h
     ·cases h
   ·cases h
  ·cases h
 ·cases h
theorem qmz(hT:TOk P H lib T)(hO:OOk P H lib O){ops:Array Oper}{R:Type}{k:TSt->List (Nat×Foot)->Option R}{r:R}:∀(is:List Nat) (st:TSt) (s:St) (hole:Option Hole) (acc:List (Nat×Foot)),Rst st s->qiA hole s->qlh P H J T O ctx f ops is st hole acc R k=some r ->
  ∃st' s' fps fpv,k st' fps=some r/\Ev (λC=>qiL P H C f ops is s=some (s',fpv)) P H lib/\Rst st' s'/\Fr2 st st' s s'/\(∀e∈acc,e∈fps)/\(∀e∈fpv,Cov fps e)
 |[],st,s,hole,acc,hs,hh,h=>⟨st,s,acc,[],h,.of λC=>rfl,hs,Fr2.refl _ _,λe he=>he,by simp⟩
 |i::is,st,s,hole,acc,hs,hh,h=>by
  simp only [qlh]at h;split at h
  ·cases h
  ·rename_i o ho;split at h
   ·rename_i hls;obtain ⟨st2,s2,hk,hst,hR,hF⟩:=qIH hs hh h;obtain ⟨st3,s3,fps,fpv,hk3,hev3,hR3,hF3,hacc,hcov⟩:=qmz hT hO is st2 s2 none _ hR qs2 hk;refine ⟨st3,s3,fps,(i,⟨.all,[],looksAt ops o⟩)::fpv,hk3,hev3.imp λC hC=>?_,hR3,hF.trans hF3,λe he=>hacc e (by simp [he]),λe he=>?_⟩
    ·simp only [qiL,qlt,ho,hls,if_true,hst,qj,hC]
    ·rcases qm.1 he with rfl|he
     ·exact ⟨_,hacc _ (List.mem_cons_self ..),rfl,rfl,rfl,λt ht=>ht⟩
     ·exact hcov e he
   ·rename_i hls;have fin:∀(st:TSt) (s0:St) (hole:Option Hole),Rst st s0->qiA hole s0 ->
      (qxS ops o st R
       (λst=>qme P H J T O ctx f o st R λst' fp=>qlh P H J T O ctx f ops is st' (qut o hole) ((i,⟨fp,qoU H f o st.E,qcw H f ops o⟩)::acc) R k)
       (λst=>qlh P H J T O ctx f ops is (st.put o.dst (.val undef)) (qut o hole) ((i,⟨.none,[],qcw H f ops o⟩)::acc) R k))=some r ->
      ∃st' s' fps fpv,k st' fps=some r/\Ev (λC=>∃s1 ft rest,qds P H C f ops i s0=some (s1,ft)/\qiL P H C f ops is s1=some (s',rest)/\fpv=(i,ft)::rest) P H lib/\Rst st' s'/\Fr2 st st' s0 s'/\(∀e∈acc,e∈fps)/\(∀e∈fpv,Cov fps e):=by
     intro st s0 hole hs hh h;obtain ⟨st1,b,hw,hs1,hf1,hb⟩:=qxT hs h;cases b with
     |true =>
      simp only [if_true]at hb;obtain ⟨st2,fp,s2,hk,hev,hR,hF,hkeep⟩:=qoO hT hO hs1 hb;obtain ⟨st3,s3,fps,fpv,hk3,hev3,hR3,hF3,hacc,hcov⟩:=qmz hT hO is st2 s2 _ _ hR (qzs hh hkeep) hk;refine ⟨st3,s3,fps,(i,⟨fp,qhJ H f o s0.E,qcw H f ops o⟩)::fpv,hk3,(hev.and hev3).imp λC hC=>⟨s2,_,fpv,?_,hC.2,rfl⟩,hR3,(hf1.trans hF).trans hF3,λe he=>hacc e (by simp [he]),λe he=>?_⟩
      ·simp only [qds,ho,hw,hC.1,qj]
      ·rcases qm.1 he with rfl|he
       ·exact ⟨_,hacc _ (List.mem_cons_self ..),rfl,rfl,rfl,λt ht=>qEc hs1.E t ht⟩
       ·exact hcov e he
     |false =>
      simp only [qf,if_false]at hb;obtain ⟨hR,hF⟩:=qkc hs1 o.dst (v:=.val undef) (u:=.val undef) (by simp [RV]);obtain ⟨st3,s3,fps,fpv,hk3,hev3,hR3,hF3,hacc,hcov⟩:=qmz hT hO is _ _ _ _ hR (qCD hh _) hb;refine ⟨st3,s3,fps,(i,⟨.none,[],qcw H f ops o⟩)::fpv,hk3,hev3.imp λC hC=>⟨_,_,fpv,?_,hC,rfl⟩,hR3,(hf1.trans hF).trans hF3,λe he=>hacc e (by simp [he]),λe he=>?_⟩
      ·simp only [qds,ho,hw]
      ·rcases qm.1 he with rfl|he
       ·exact ⟨_,hacc _ (List.mem_cons_self ..),rfl,rfl,rfl,λt ht=>by cases ht⟩
       ·exact hcov e he
    split at h
    ·rename_i hap;split at h
     ·cases h
     rename_i hilk;obtain ⟨st1,s1,hl,hk,hta,hR,hF,hhl⟩:=qIl hs h;obtain ⟨st3,s3,fps,fpv,hk3,hev3,hR3,hF3,hacc,hcov⟩:=fin st1 s1 (some hl) hR (λx hx=>by cases hx;exact hhl) hk;refine ⟨st3,s3,fps,fpv,hk3,hev3.imp λC ⟨s2,ft,rest,h1,h2,h3⟩=>?_,hR3,hF.trans hF3,hacc,hcov⟩;simp only [qiL,qlt,ho,hls,hap,hilk,hta,if_true,qf,if_false,qa,h1,h2,h3,qj]
    ·rename_i hap;split at h
     ·rename_i hgt;have hg:=qCL hs.E hgt;obtain ⟨st3,s3,fps,fpv,hk3,hev3,hR3,hF3,hacc,hcov⟩:=fin st s hole hs hh h;refine ⟨st3,s3,fps,fpv,hk3,hev3.imp λC ⟨s2,ft,rest,h1,h2,h3⟩=>?_,hR3,hF3,hacc,hcov⟩;simp only [qiL,qlt,ho,hls,hap,hg,if_true,qf,if_false,h1,h2,h3,qj]
     ·cases h
theorem qtd{l l' m:List Tmp}(h:∀t∈l,t∈l')(hm:meets l m=true):meets l' m=true:=by
 unfold meets at hm ⊢;rw [List.any_eq_true]at hm ⊢;obtain ⟨t,ht,h2⟩:=hm;exact ⟨t,h t ht,h2⟩
theorem qwy{U:List (Nat×Nat)}{fps fpv:List (Nat×Foot)}(hc:∀e∈fpv,Cov fps e)(h:qj1 U fps=true):qj1 U fpv=true:=by
 unfold qj1 at h ⊢;rw [List.all_eq_true]at h ⊢;rintro ⟨i,j⟩ hu;have h1:=h (i,j) hu;simp only [List.all_eq_true]at h1 ⊢;rintro ⟨a,p⟩ ha;obtain ⟨⟨a',p'⟩,hp',hpa,hpf,hpl,hpt⟩:=hc (a,p) ha;simp only at hpa hpf hpl hpt;subst hpa;have h2:=h1 (a',p') hp';simp only [Bool.or_eq_true,List.all_eq_true]at h2 ⊢;rcases h2 with h2|h2
 ·exact .inl h2
 ·right
  rintro ⟨b,q⟩ hb;obtain ⟨⟨b',q'⟩,hq',hqa,hqf,hql,hqt⟩:=hc (b,q) hb;simp only at hqa hqf hql hqt;subst hqa;have h3:=h2 (b',q') hq';simp only [Bool.not_eq_true']at h3 ⊢;rcases h3 with h3|h3
  ·exact .inl h3
  ·right
   cases hcl:Foot.qiD p q with
   |false=>rfl
   |true =>
    have:Foot.qiD p' q'=true:=by
     unfold Foot.qiD at hcl ⊢;simp only [Bool.or_eq_true]at hcl ⊢;rw [<- hpf,<- hqf,<- hpl,<- hql]at hcl;rcases hcl with (h4|h4)|h4
     ·exact .inl (.inl h4)
     ·exact .inl (.inr (qtd hpt h4))
     ·exact .inr (qtd hqt h4)
    rw [this]at h3;cases h3
theorem qkG{σ ρ:Type}{g:σ->Option (σ⊕ρ)}{s:σ}{r:ρ}(h:qF g s=some r):∃n,qk6 g n s=some r:=by
 unfold qF at h;split at h
 ·rename_i hex;cases h;exact ⟨_,Classical.choose_spec (Classical.choose_spec hex)⟩
 ·cases h
theorem qCO{j:Join}{bid:Nat}{c:Code}(ih:Snd (tx P H J T O ctx f bid c) (qEn P H lib f bid c)){st:TSt}{s0:St}(hst:Rst st s0){R:Type}{k:Ex->TSt->Option R}{r:R} :
  ∀(n:Nat) (x:denL (j.ps.map (·.1))) (s:St),Rst (st.fresh.qcR j (ofL j.ps x)) s->Fr2 st.fresh (st.fresh.qcR j (ofL j.ps x)) s0 s ->
   qk6 (λx=>match (st.fresh.qcR j (ofL j.ps x)).clear (H.clear f bid)with
      |some st1=>tx P H J T O ctx f bid c st1 (denL (j.ps.map (·.1))⊕R) λe st2=>match e with
       |.normal=>(st2.outs st j).map .inl
       |e=>(k e (st2.merge st)).map .inr
      |none=>none) n x=some r ->
   ∃e st' s',qEn P H lib f bid (.loop c) s e s'/\Rst st' s'/\Fr2 st st' s0 s'/\k e st'=some r
 |0,x,s,hs,hf,h=>by simp [qk6]at h
 |n+1,x,s,hs,hf,h=>by
  simp only [qk6]at h;cases hcl:(st.fresh.qcR j (ofL j.ps x)).clear (H.clear f bid)with
  |none=>rw [hcl]at h;simp at h
  |some st1 =>
   rw [hcl]at h;simp only at h;obtain ⟨s1,hv1,hs1,hf1⟩:=qkw hs hcl;have done:∀(e:Ex) (st2:TSt) (s2:St),e≠.normal->qEn P H lib f bid c s1 e s2->Rst st2 s2->Fr2 st1 st2 s1 s2->k e (st2.merge st)=some r ->
     ∃e st' s',qEn P H lib f bid (.loop c) s e s'/\Rst st' s'/\Fr2 st st' s0 s'/\k e st'=some r:=by
    intro e st2 s2 hne hev hR hF hk;refine ⟨e,st2.merge st,s2,hev.imp λC hC=>?_,hR.merge,qzw ((hf.trans hf1).trans hF),hk⟩;simp only [ex,hv1,hC];cases e with
    |normal=>exact absurd rfl hne
    |_=>rfl
   split at h
   ·rename_i x' hx';obtain ⟨e,st2,s2,hev,hR,hF,hk⟩:=ih st1 _ _ _ s1 hx' hs1;cases e with
    |normal =>
     obtain ⟨y,hy,hy2⟩:=qc.1 hk;cases hy2;have hF0:Fr2 st.fresh st2 s0 s2:=(hf.trans hf1).trans hF;have hy':st2.outs st.fresh j=some x':=hy;obtain ⟨e',st',s',hev',hR',hF',hk'⟩:=qCO ih hst n x' s2 (qkO hst.fresh hR hF0 hy') (qkN (st:=st.fresh) hR hF0 hy') h;refine ⟨e',st',s',?_,hR',hF',hk'⟩;obtain ⟨n1,h1⟩:=hev;obtain ⟨n2,h2⟩:=hev';refine ⟨max n1 (n2+1),λm hm=>?_⟩;have e1:=h1 m (by omega);obtain ⟨m',rfl⟩:∃m',m=m'+1:=⟨m-1,by omega⟩
     have e2:=h2 m' (by omega);have hun:ex P H (qvn P H lib (m'+1)) f bid (.loop c) s=(match s.clear (H.clear f bid)with
      |some st=>match ex P H (qvn P H lib (m'+1)) f bid c st with
       |some (.normal,s)=>(qvn P H lib (m'+1)).code f bid (.loop c) s
       |r=>r
      |none=>none):=by simp only [ex]<;>rfl
     show ex P H (qvn P H lib (m'+1)) f bid (.loop c) s=_;rw [hun,hv1];simp only [e1];exact e2
    |exit id =>
     obtain ⟨y,hy,hy2⟩:=qc.1 hk;cases hy2
    |ret =>
     obtain ⟨y,hy,hy2⟩:=qc.1 hk;cases hy2
   ·rename_i y hx';cases h;obtain ⟨e,st2,s2,hev,hR,hF,hk⟩:=ih st1 _ _ _ s1 hx' hs1;cases e with
    |normal =>
     obtain ⟨y,hy,hy2⟩:=qc.1 hk;cases hy2
    |exit id =>
     obtain ⟨y',hy,hy2⟩:=qc.1 hk;cases hy2;exact done _ _ _ (by simp) hev hR hF hy
    |ret =>
     obtain ⟨y',hy,hy2⟩:=qc.1 hk;cases hy2;exact done _ _ _ (by simp) hev hR hF hy
   ·cases h
theorem qF0{j:Join}{st:TSt}{s:St}(hs:Rst st s)(hf:st.qn2 j=true){x:denL (j.ps.map (·.1))}(hx:asL j.ps (j.lv.map st.get)=some x) :
  Rst (st.fresh.qcR j (ofL j.ps x)) s/\Fr2 st.fresh (st.fresh.qcR j (ofL j.ps x)) s s:=by
 have ho:st.fresh.outs st.fresh j=some x:=by
  unfold TSt.outs;have h1:st.fresh.qn2 j=true:=hf;have h2:st.fresh.wrote j=true:=by
   have:Mask.empty.sub j.D=true:=Mask.qI7 λt ht=>absurd ht Mask.mem_empty;simp [TSt.wrote,TSt.fresh,this]
  have h3:st.fresh.qJk st.fresh j=true:=by
   unfold TSt.qJk;rw [List.all_eq_true];intro r _;cases st.fresh.cont r<;>simp
  rw [h1,h2,h3];exact hx
 exact ⟨qkO hs.fresh hs.fresh (Fr2.refl _ _) ho,qkN (st:=st.fresh) hs.fresh (Fr2.refl _ _) ho⟩
theorem qsg(ops:Array Oper):qkn H ops true=none:=by
 unfold qkn;split
 ·rename_i h _;cases h
 ·rfl
theorem qB1(s:St):s.clear []=some s:=by
 have h1:q9 [] s.B=s.B:=by
  have:∀B:Level,q9 [] B=B:=λB=>by
   induction B with
   |nil=>rfl
   |cons p B ih=>obtain ⟨k,c⟩:=p;simp [q9,ih]
  exact this s.B
 unfold St.clear;simp only [h1,true_or,if_true];rfl
theorem qHA{D:List Tmp}{st st1:TSt}{s:St}(h:Rst st s)(hc:qIc D st=some st1):∃s1,s.clear D=some s1/\Rst st1 s1/\Fr2 st st1 s s1:=by
 cases D with
 |nil =>
  simp only [qIc,qb]at hc;subst hc;exact ⟨s,qB1 s,h,Fr2.refl _ _⟩
 |cons d D=>exact qkw h hc
theorem qij(L:List qR)(B:qR)(l k:Nat):qaK (L++[B]) l k=if l=L.length then qaf B k else qaK L l k:=by
 unfold qaK;by_cases h:l=L.length
 ·subst h;simp
 ·rw [if_neg h];by_cases hlt:l<L.length
  ·rw [qh hlt]
  ·rw [List.getElem?_eq_none (by simp;omega),List.getElem?_eq_none (by omega)]
theorem qdo(L:List Level)(B:Level)(l k:Nat):qaV (L++[B]) l k=if l=L.length then qz B k else qaV L l k:=by
 unfold qaV;by_cases h:l=L.length
 ·subst h;simp
 ·rw [if_neg h];by_cases hlt:l<L.length
  ·rw [qh hlt]
  ·rw [List.getElem?_eq_none (by simp;omega),List.getElem?_eq_none (by omega)]
theorem LR.last{M:List qR}{M':List Level}{b:qR}{b':Level}(h:LR (M++[b]) (M'++[b']))(k:Nat):RB (qaf b k) (qz b' k):=by
 have hl:M'.length=M.length:=by have:=h.len;simp at this;exact this
 have:=h.rel M.length k;rw [qij,qdo,if_pos rfl,if_pos hl.symm]at this;exact this
theorem LR.qGE{M:List qR}{M':List Level}{b c:qR}{b' c':Level}(h:LR (M++[b]) (M'++[b']))(hr:∀k,RB (qaf c k) (qz c' k))(hn:(c'.map (·.1)).Nodup)(hm:∀k x,qz c' k=some x->k<16384->qjn x=false):LR (M++[c]) (M'++[c']):=by
 have hl:M'.length=M.length:=by have:=h.len;simp at this;exact this
 refine ⟨by simp [hl],λl k=>?_,λq hq=>?_,λl k x hx hlt=>?_⟩
 ·have:=h.rel l k;rw [qij,qdo,hl]at this ⊢;by_cases e:l=M.length
  ·rw [if_pos e,if_pos e];exact hr k
  ·rw [if_neg e,if_neg e]at this ⊢;exact this
 ·simp only [qk,List.mem_singleton]at hq;rcases hq with hq|rfl
  ·exact h.nd q (by simp [hq])
  ·exact hn
 ·have:=h.mp l k x;rw [qdo]at this hx;by_cases e:l=M'.length
  ·rw [if_pos e]at hx;exact hm k x hx hlt
  ·rw [if_neg e]at this hx;exact this hx hlt
theorem qDk{M:List qR}{M':List Level}{b:qR}{b':Level}(h:LR (M++[b]) (M'++[b']))(hf:qAA b=true){r:Root}(hr:r∈qpK b'):r∈qnn b:=by
 obtain ⟨k,c,hk,hrc⟩:=qwN hr;have hlk:=qih (h.nd b' (by simp)) hk;have hb:=h.last k;cases ht:qaf b k with
 |none=>rw [ht]at hb;simp only [RB]at hb;rw [hb]at hlk;cases hlk
 |some o =>
  obtain ⟨d,rfl⟩:=qze hf (qeY ht);rw [ht]at hb;obtain ⟨d',hd',hr'⟩:=hb;rw [hd']at hlk;cases hlk;exact qtg (qeY ht) (hr'.qv r hrc)
theorem qFE(hT:TOk P H lib T)(hO:OOk P H lib O){bid:Nat}{g:Operand}{ps:Array Tmp}{asz bo:Code}{st:TSt}{R:Type}{k:Ex->TSt->Option R}{r:R}{s:St}
  (h:tx P H J T O ctx f bid (.rangeFunc g ps asz bo) st R k=some r) (hs:Rst st s) :
  ∃e st' s',qEn P H lib f bid (.rangeFunc g ps asz bo) s e s'/\Rst st' s'/\Fr2 st st' s s'/\k e st'=some r:=by
 simp only [tx]at h;split at h
 ·rename_i hh first cap t ts hgv hps;split at h
  ·rename_i hnb;simp only [qe,Option.isNone_iff_eq_none,decide_eq_true_eq]at hnb;obtain ⟨hn,ht⟩:=hnb;have hlen:=hs.len;have hnV:=qkE hs hn;have hg:=qFF (H:=H) (f:=f) (o:=default) hs.E g;rw [hgv]at hg;simp only [RV]at hg;obtain ⟨first',cap',hV,hf1,hc1⟩:=hg;have hE:RVL (dullL st.E.toL) (s.E.map V.qap):=by
    have:=hs.E.qap;rw [qbC]at this;exact this
   have hR1:Rst {st with B:=(t,some [.lp .ready none f (dullL st.E.toL) (t::ts) asz bo])::st.B,Wb:=⟨st.L.length,t⟩::st.Wb} {s with B:=(t,[.lp .ready none f (s.E.map V.qap) (t::ts) asz bo])::s.B}:=by
    refine ⟨hs.E,LR.qGE hs.M (λq=>?_) ?_ (λq x hx hlt=>?_)⟩
    ·simp only [qaf,qz];by_cases e:t=q
     ·rw [if_pos e,if_pos e];exact ⟨_,rfl,_,rfl,hE⟩
     ·rw [if_neg e,if_neg e];exact hs.M.last q
    ·have:=hs.M.nd s.B (by simp [qeo]);simp only [qi,List.nodup_cons];refine ⟨λhm=>?_,this⟩;obtain ⟨⟨k',c⟩,hp,hp2⟩:=List.mem_map.1 hm;simp only at hp2;subst hp2;rw [qih this hp]at hnV;cases hnV
    ·simp only [qz]at hx;by_cases e:t=q
     ·rw [if_pos e]at hx;cases hx;rfl
     ·rw [if_neg e]at hx;refine hs.M.mp s.L.length q x ?_ hlt;unfold qeo;rw [qdo,if_pos rfl];exact hx
   have hfv:RV (.fn hh first cap) (.fn hh first' cap'):=by simp only [RV];exact ⟨_,_,rfl,hf1,hc1⟩
   have hyl:RVL [.yld ⟨st.L.length,t⟩] [.yld ⟨s.L.length,t⟩]:=by rw [hlen];exact qC.2 ⟨by simp only [RV],qaU⟩
   obtain ⟨v,st2,u,s2,hk,hev,_,hR2,hF2,hE2,hE2',_⟩:=qvH hT hO hfv hyl hR1 h;simp only at hk hE2 hE2';split at hk
   ·rename_i hcond;simp only [qe]at hcond;obtain ⟨hok,hfull⟩:=hcond;have hlen2:=hR2.len;have hlen3:s2.L.length=s.L.length:=hF2.len;have hcl:∀q,RB (qaf (qa5 [t] st2.B) q) (qz (q9 [t] s2.B) q):=λq=>by
     rw [qg6,qbh];by_cases e : [t].contains q=true
     ·rw [if_pos e,if_pos e];rfl
     ·rw [if_neg e,if_neg e];exact hR2.M.last q
    have hM3:LR (st2.L++[qa5 [t] st2.B]) (s2.L++[q9 [t] s2.B]):=by
     refine LR.qGE hR2.M hcl ((hR2.M.nd s2.B (by simp [qeo])).sublist ((qnU [t] s2.B).map _)) (λq x hx hlt=>?_);rw [qbh]at hx;split at hx
     ·cases hx
     ·refine hR2.M.mp s2.L.length q x ?_ hlt;unfold qeo;rw [qdo,if_pos rfl];exact hx
    have hokV:qeE s.L.length [t] (qpK (q9 [t] s2.B))=true:=by
     unfold qeE at hok ⊢;rw [List.all_eq_true]at hok ⊢;intro q hq;rw [hlen];exact hok q (qDk hM3 hfull hq)
    have hvB:∀{x pe g3 env3 ps3 as3 bo3},qaf st2.B t=some (some [.lp x pe g3 env3 ps3 as3 bo3])->∃env3',qz s2.B t=some [.lp x pe g3 env3' ps3 as3 bo3]:=λhl=>by
     have:=hR2.M.last t;rw [hl]at this;obtain ⟨c',h1,env',rfl,_⟩:=this;exact ⟨env',h1⟩
    have hrest:Rst {st2 with B:=qa5 [t] st2.B,Wb:=st.Wb++st2.Wb.filter (λq=>!decide (q=⟨st.L.length,t⟩))} {s with L:=s2.L,B:=q9 [t] s2.B}/\Fr2 st {st2 with B:=qa5 [t] st2.B,Wb:=st.Wb++st2.Wb.filter (λq=>!decide (q=⟨st.L.length,t⟩))} s {s with L:=s2.L,B:=q9 [t] s2.B}:=by
     refine ⟨⟨by have:=hR2.E;rw [hE2']at this;exact this,hM3⟩,⟨λx hx=>hF2.wt x hx,λx hx=>by simp [hx],λx hx=>.inl rfl,λx hx rs hr=>⟨rs,by rw [<- hE2];exact hr⟩,λq hq=>?_,λq hq hsm=>?_,hlen3,rfl⟩⟩
     ·have eB:∀q:Root,q≠⟨st.L.length,t⟩->({s with L:=s2.L,B:=q9 [t] s2.B}:St).box q=s2.box q:=λq hq=>by
       rw [qT,qT];unfold qeo;rw [qdo,qdo];by_cases e:q.lvl=s2.L.length
       ·rw [if_pos e,if_pos e,qbh,if_neg];intro hc;simp only [List.contains_cons,List.contains_nil,Bool.or_false,beq_iff_eq]at hc;exact hq (by cases q;simp only at hc e ⊢;subst hc;rw [e,hlen3,hlen])
       ·rw [if_neg e,if_neg e]
      have eS:∀q:Root,q≠⟨st.L.length,t⟩->({s with B:=(t,[.lp .ready none f (s.E.map V.qap) (t::ts) asz bo])::s.B}:St).box q=s.box q:=λq hq=>by
       rw [qT,qT];unfold qeo;rw [qdo,qdo];by_cases e:q.lvl=s.L.length
       ·rw [if_pos e,if_pos e];simp only [qz];rw [if_neg];intro hc;exact hq (by cases q;simp only at hc e ⊢;subst hc;rw [e,hlen])
       ·rw [if_neg e,if_neg e]
      by_cases e:q=⟨st.L.length,t⟩
      ·subst e;left
       rw [qT,qT];unfold qeo;rw [qdo,qdo];simp only
       rw [if_pos (by omega),if_pos hlen.symm,qbh,if_pos (by simp),hnV]
      ·have hq2:q∉st2.Wb:=λhm=>hq (by
        simp only [qk,List.mem_filter];exact .inr ⟨hm,by simp [e]⟩)
       rw [eB q e];rcases hF2.b q hq2 with h9|⟨h9,h10,h11,h12⟩
       ·left;rw [h9,eS q e]
       ·right
        refine ⟨h9,?_,by rw [h11,eS q e],h12⟩;rw [qbA]at h10 ⊢;unfold TSt.all at h10 ⊢;rw [qij]at h10 ⊢;by_cases e2:q.lvl=st.L.length
        ·simp only [e2,if_true,qaf]at h10 ⊢;rw [if_neg (by intro hc;exact e (by cases q;simp only at hc e2 ⊢;subst hc;rw [e2]))]at h10;exact h10
        ·simp only [e2,if_false]at h10 ⊢;exact h10
     ·by_cases e:q=⟨st.L.length,t⟩
      ·subst e;rw [qbA]at hsm;unfold TSt.all at hsm;rw [qij,if_pos rfl,hn]at hsm;cases hsm
      ·have hq2:q∉st2.Wb:=λhm=>hq (by
        simp only [qk,List.mem_filter];exact .inr ⟨hm,by simp [e]⟩)
       have i1:=hF2.bn q hq2 (by
        rw [qbA]at hsm ⊢;unfold TSt.all at hsm ⊢;rw [qij]at hsm ⊢;by_cases e2:q.lvl=st.L.length
        ·simp only [e2,if_true,qaf]at hsm ⊢;rw [if_neg (by intro hc;exact e (by cases q;simp only at hc e2 ⊢;subst hc;rw [e2]))];exact hsm
        ·simp only [e2,if_false]at hsm ⊢;exact hsm)
       rw [qbA]at i1 ⊢;unfold TSt.all at i1 ⊢;rw [qij]at i1 ⊢;by_cases e2:q.lvl=st2.L.length
       ·simp only [e2,if_true]at i1 ⊢;rw [qg6,if_neg]
        ·exact i1
        ·intro hc;simp only [List.contains_cons,List.contains_nil,Bool.or_false,beq_iff_eq]at hc;exact e (by cases q;simp only at hc e2 ⊢;subst hc;rw [e2];congr 1;omega)
       ·simp only [e2,if_false]at i1 ⊢;exact i1
    have hnV':(qz s.B t).isNone=true:=by rw [hnV];rfl
    split at hk
    ·rename_i hl;obtain ⟨env3',hb⟩:=hvB hl;exact ⟨.normal,_,_,hev.imp λC ⟨hC,_⟩=>by simp only [ex,hV,hps,hnV',if_true,hC,hokV,hb],hrest.1,hrest.2,hk⟩
    ·rename_i hl;obtain ⟨env3',hb⟩:=hvB hl;exact ⟨.ret,_,_,hev.imp λC ⟨hC,_⟩=>by simp only [ex,hV,hps,hnV',if_true,hC,hokV,hb],hrest.1,hrest.2,hk⟩
    ·rename_i id _ _ _ _ _ hl;obtain ⟨env3',hb⟩:=hvB hl;exact ⟨.exit _,_,_,hev.imp λC ⟨hC,_⟩=>by simp only [ex,hV,hps,hnV',if_true,hC,hokV,hb],hrest.1,hrest.2,hk⟩
    ·cases hk
   ·cases hk
  ·cases h
 ·cases h
theorem qsF(hT:TOk P H lib T)(hO:OOk P H lib O):∀(c:Code) (bid:Nat),Snd (tx P H J T O ctx f bid c) (qEn P H lib f bid c)
 |.skip,bid=>λst R k r s h hs=>⟨.normal,st,s,.of λC=>rfl,hs,Fr2.refl _ _,h⟩
 |.ret,bid=>λst R k r s h hs=>⟨.ret,st,s,.of λC=>rfl,hs,Fr2.refl _ _,h⟩
 |.exit id,bid=>λst R k r s h hs=>⟨.exit id,st,s,.of λC=>rfl,hs,Fr2.refl _ _,h⟩
 |.seq a b,bid=>λst R k r s h hs=>by
  simp only [tx]at h;obtain ⟨e,st1,s1,hev,hR,hF,hk⟩:=qsF hT hO a bid st _ _ r s h hs;cases e with
  |normal =>
   obtain ⟨e2,st2,s2,hev2,hR2,hF2,hk2⟩:=qsF hT hO b bid st1 _ _ r s1 hk hR;exact ⟨e2,st2,s2,(hev.and hev2).imp λC hC=>by simp only [ex,hC.1,hC.2],hR2,hF.trans hF2,hk2⟩
  |exit id=>exact ⟨.exit id,st1,s1,hev.imp λC hC=>by simp only [ex,hC],hR,hF,hk⟩
  |ret=>exact ⟨.ret,st1,s1,hev.imp λC hC=>by simp only [ex,hC],hR,hF,hk⟩
 |.cond c a b,bid=>λst R k r s h hs=>by
  simp only [tx]at h;refine qp4 (rel:=qEn P H lib f bid (.cond c a b)) ?_ _ st R k r s h hs;intro st R k r s h hs;have hr:=qFF (H:=H) (f:=f) (o:=default) hs.E c;simp only at h;split at h
  ·rename_i o t ht;rw [ht]at hr;simp only [RV,RTy]at hr;cases t with
   |true =>
    obtain ⟨e2,st2,s2,hev2,hR2,hF2,hk2⟩:=qsF hT hO a bid st _ _ r s h hs;exact ⟨e2,st2,s2,hev2.imp λC hC=>by simp only [ex,hr,if_true,hC],hR2,hF2,hk2⟩
   |false =>
    obtain ⟨e2,st2,s2,hev2,hR2,hF2,hk2⟩:=qsF hT hO b bid st _ _ r s h hs;exact ⟨e2,st2,s2,hev2.imp λC hC=>by simp only [ex,hr,qf,if_false,hC],hR2,hF2,hk2⟩
  ·cases h
 |.block id c,bid=>λst R k r s h hs=>by
  simp only [tx]at h;refine qp4 (rel:=qEn P H lib f bid (.block id c)) ?_ _ st R k r s h hs;intro st R k r s h hs;obtain ⟨e,st1,s1,hev,hR,hF,hk⟩:=qsF hT hO c id st _ _ r s h hs;cases e with
  |exit i =>
   simp only at hk;split at hk
   ·rename_i hi;exact ⟨.normal,st1,s1,hev.imp λC hC=>by simp only [ex,hC,hi,if_true],hR,hF,hk⟩
   ·rename_i hi;exact ⟨.exit i,st1,s1,hev.imp λC hC=>by simp only [ex,hC,hi,if_false],hR,hF,hk⟩
  |normal=>exact ⟨.normal,st1,s1,hev.imp λC hC=>by simp only [ex,hC],hR,hF,hk⟩
  |ret=>exact ⟨.ret,st1,s1,hev.imp λC hC=>by simp only [ex,hC],hR,hF,hk⟩
 |.region id ops draw,bid=>λst R k r s h hs=>by
  simp only [tx]at h;refine qp4 (rel:=qEn P H lib f bid (.region id ops draw)) ?_ _ st R k r s h hs;intro st R k r s h hs;simp only [qwS,qAT]at h;cases hpre:qIc (H.pre f id) st with
  |none=>rw [hpre]at h;cases h
  |some sta =>
  rw [hpre]at h;simp only at h;obtain ⟨sa,hcl,hs,hf0⟩:=qHA hs hpre;cases hnt:qkn H ops draw with
  |some p =>
   obtain ⟨F,t,e,d⟩:=p;rw [hnt]at h;simp only at h;split at h
   ·rename_i hlt;obtain ⟨hR0,hF0⟩:=qkc hs (some e) (qfe []);obtain ⟨st1,s1,hk,hts,hR,hF⟩:=qGc hR0 h;have hlt':e<sa.E.length:=by rw [hs.E.length,qmi];exact hlt
    exact ⟨.normal,st1,s1,.of λC=>by simp only [ex,hcl,hnt,hts,if_pos hlt',qj],hR,(hf0.trans hF0).trans hF,hk⟩
   ·cases h
  |none =>
  rw [hnt]at h;simp only at h;cases hls:qAC H f ops with
  |true =>
   rw [hls]at h;simp only [if_true]at h;split at h
   ·rename_i hok;obtain ⟨st1,s1,fps,fpv,hk,hev,hR,hF,_,hcov⟩:=qmz hT hO _ sta sa none [] hs qs2 h;split at hk
    ·rename_i hnc;refine ⟨.normal,st1,s1,hev.imp λC hC=>?_,hR,hf0.trans hF,hk⟩;have hnc':(!draw||qj1 (H.pairs f id) fpv)=true:=by
      simp only [Bool.or_eq_true]at hnc ⊢;exact hnc.imp (λh=>h) λh=>qwy hcov h
     simp only [ex,hcl,hnt,hls,if_true,hok,hC,hnc']
    ·cases hk
   ·cases h
  |false =>
  rw [hls]at h;simp only [qf,if_false]at h;split at h
  ·rename_i hd;split at h
   ·rename_i hok;split at h
    ·rename_i hU;obtain ⟨st1,s1,hk,hev,hR,hF⟩:=qpU hT hO _ sta sa hs h;rw [hU]at hok;exact ⟨.normal,st1,s1,hev.imp λC hC=>by simp only [ex,hcl,hnt,qsg,hls,qf,if_false,hd,if_true,hU,hok,hC,qj],hR,hf0.trans hF,hk⟩
    ·rename_i U hU;obtain ⟨st1,s1,fps,fpv,hk,hev,hR,hF,_,hcov⟩:=qqz hT hO _ sta sa [] hs h;split at hk
     ·rename_i hnc;have hnc':=qwy hcov hnc;refine ⟨.normal,st1,s1,hev.imp λC hC=>?_,hR,hf0.trans hF,hk⟩;simp only [ex,hcl,hnt,qsg,hls,qf,if_false,hd,if_true,hok];cases hp:H.pairs f id with
      |nil=>exact absurd hp (by simpa using hU)
      |cons u U' =>
       rw [hp]at hnc';simp only [hC,hnc',if_true]
     ·cases hk
   ·cases h
  ·rename_i hd;obtain ⟨st1,s1,hk,hev,hR,hF⟩:=qpU hT hO _ sta sa hs h;exact ⟨.normal,st1,s1,hev.imp λC hC=>by simp only [ex,hcl,hnt,hls,qf,if_false];rw [if_neg hd,hC];rfl,hR,hf0.trans hF,hk⟩
 |.loop c,bid=>λst R k r s h hs=>by
  simp only [tx]at h;split at h
  ·rename_i j hj;split at h
   ·rename_i hf;obtain ⟨x0,hx0,h⟩:=qd.1 h;obtain ⟨n,hn⟩:=qkG h;obtain ⟨h1,h2⟩:=qF0 hs hf hx0;exact qCO (qsF hT hO c bid) hs n x0 s h1 h2 hn
   ·cases h
  ·split at h
   ·rename_i st1 hcl;obtain ⟨s1,hv1,hs1,hf1⟩:=qkw hs hcl;obtain ⟨e,st2,s2,hev,hR,hF,hk⟩:=qsF hT hO c bid st1 _ _ r s1 h hs1;cases e with
    |normal =>
     obtain ⟨e3,st3,s3,hev3,hR3,hF3,hk3⟩:=hO.code ctx f bid (.loop c) st2 _ _ r s2 hk hR;exact ⟨e3,st3,s3,(hev.and hev3).imp λC hC=>by simp only [ex,hv1,hC.1,hC.2],hR3,(hf1.trans hF).trans hF3,hk3⟩
    |exit id=>exact ⟨.exit id,st2,s2,hev.imp λC hC=>by simp only [ex,hv1,hC],hR,hf1.trans hF,hk⟩
    |ret=>exact ⟨.ret,st2,s2,hev.imp λC hC=>by simp only [ex,hv1,hC],hR,hf1.trans hF,hk⟩
   ·cases h
 |.rangeFunc ..,bid=>λst R k r s h hs=>qFE hT hO h hs
 |.scope _,bid=>λst R k r s h hs=>by simp [tx]at h
 |.label _,bid=>λst R k r s h hs=>by simp [tx]at h
 |.goto _,bid=>λst R k r s h hs=>by simp [tx]at h
 |.refuse _,bid=>λst R k r s h hs=>by simp [tx]at h
end
section
variable {P:Program} {H:Hints} {J:TH} {T:qvq} {O:TOrc} {lib:FuncId->Option (List V->Option V)} {f:FuncId} {ctx:List Tmp}
theorem qiB{st:TSt}{s:St}(hs:Rst st s):∀(l:List ResultVar) (rs:List TV),qhp (l.map (qmd P st))=some rs->∃rs',qhK (l.map (qfc P s))=some rs'/\RVL rs rs'
 |[],rs,h=>by simp only [List.map_nil,qhp,qb]at h;subst h;exact ⟨[],rfl,qaU⟩
 |v::l,rs,h=>by
  simp only [qi]at h;cases h1:qmd P st v with
  |none=>rw [h1]at h;simp [qhp]at h
  |some x =>
   rw [h1]at h;simp only [qhp]at h;obtain ⟨rs0,h2,rfl⟩:=qc.1 h;obtain ⟨rs',h3,hr⟩:=qiB hs l rs0 h2;have:∃u,qfc P s v=some u/\RV x u:=by
    cases v with
    |tmp t =>
     simp only [qmd,qb]at h1;subst h1;exact ⟨_,rfl,qAB hs.E t⟩
    |cell a t =>
     simp only [qmd]at h1;split at h1
     ·rename_i r off hE;have hg:=qAB hs.E a;rw [hE]at hg;simp only [RV]at hg;split at h1
      ·rename_i cs hcs;split at h1
       ·rename_i hsl;obtain ⟨cs',hcs',hc⟩:=hs.box hcs;obtain ⟨u,hu,hr⟩:=qfF h1 (hc.drop off);refine ⟨u,?_,hr⟩;have hlp:=qgL (qbm hc) (hs.M.mp r.lvl r.slot cs' (by rw [<- qT];exact hcs') hsl);simp only [qfc,hg,hcs',hlp,qf,if_false,hu]
       ·cases h1
      ·cases h1
     ·cases h1
   obtain ⟨u,hu,hru⟩:=this;refine ⟨u::rs',?_,qC.2 ⟨hru,hr⟩⟩;simp only [qi,hu,qhK,h3,qj]
theorem qnQ{st:TSt}{s:St}(hs:Rst st s):∀(l:List ResultVar) (ks:List (Bool×Nat×Nat)),qnP (l.map (qiu st))=some ks->l.map (qU s)=ks
 |[],ks,h=>by simp only [List.map_nil,qnP,qb]at h;subst h;rfl
 |v::l,ks,h=>by
  simp only [qi]at h;cases h1:qiu st v with
  |none=>rw [h1]at h;simp [qnP]at h
  |some x =>
   rw [h1]at h;simp only [qnP]at h;obtain ⟨ks0,h2,rfl⟩:=qc.1 h;have:qU s v=x:=by
    cases v with
    |tmp t=>simp only [qiu,qb]at h1;subst h1;rfl
    |cell a t =>
     simp only [qiu]at h1;split at h1
     ·rename_i r off hE;have hg:=qAB hs.E a;rw [hE]at hg;simp only [RV]at hg;cases h1;simp only [qU,hg]
     ·cases h1
   simp only [qi,this,qnQ hs l ks0 h2]
theorem qnx:∀{rs:List TV} {rs':List V},RVL rs rs'->RV (qck rs) (packed rs')
 |[],rs',h=>by simp only [RVL]at h;subst h;simp [qck,packed,RV,RVL]
 |[x],rs',h=>by obtain ⟨v,rfl,hv⟩:=qhf h;exact hv
 |x::y::rs,rs',h=>by
  have h0:=h;simp only [RVL]at h;obtain ⟨v,m,rfl,_,v2,m2,rfl,_,_⟩:=h;simp only [qck,packed,RV];exact ⟨_,rfl,h0⟩
theorem qHL(hT:TOk P H lib T)(hO:OOk P H lib O){args:List TV}{M:List qR}{R:Type}{k:TV->List qR->List Root->Option R}{r:R}{vs:List V}{M':List Level}
  (h:runT P H J T O ctx f args M R k=some r) (ha:RVL args vs) (hM:LR M M') :
  ∃x N wb v N',k x N wb=some r/\RV x v/\LR N N'/\N.length=M.length/\(∀l sl,(⟨l,sl⟩:Root)∉wb->qaV N' l sl=qaV M' l sl/\∀c,qaK M l sl=some (some c)->∃c',qaK N l sl=some (some c'))/\J.lib f=false/\Ev (λC=>qIe P H C f vs M'=some (v,N')) P H lib:=by
 unfold runT at h;split at h
 ·cases h
 ·rename_i qAE;split at h
  ·rename_i fn hfn;split at h
   ·rename_i c hbody;have hE:RVL (Env.qji args fn.ntmps).toL (vs++List.replicate (fn.ntmps-vs.length) .undef):=by
     rw [qoT,ha.length];exact ha.append (RVL.replicate (qfe []) _)
    have h0:Rst {E:=Env.qji args fn.ntmps,L:=M,B:=[],Wt:=.empty,Wb:=[]} {E:=vs++List.replicate (fn.ntmps-vs.length) .undef,L:=M',B:=[]}:=⟨hE,hM.init⟩
    have hsnd:Snd (λst R k=>tx P H J T O ctx f 0 c st R λe st=>match e with
     |.normal=>k .normal st
     |.ret=>k .normal st
     |_=>none) (λs e s'=>e=.normal/\Ev (λC=>∃e,(e=.normal\/e=.ret)/\ex P H C f 0 c s=some (e,s')) P H lib):=by
     intro st R k r s h hs;obtain ⟨e,st1,s1,hev,hR,hF,hk⟩:=qsF hT hO c 0 st _ _ r s h hs;cases e with
     |normal=>exact ⟨.normal,st1,s1,⟨rfl,hev.imp λC hC=>⟨.normal,.inl rfl,hC⟩⟩,hR,hF,hk⟩
     |ret=>exact ⟨.normal,st1,s1,⟨rfl,hev.imp λC hC=>⟨.ret,.inr rfl,hC⟩⟩,hR,hF,hk⟩
     |exit id=>cases hk
    obtain ⟨e,st1,s1,⟨_,hev⟩,hR,hF,hk⟩:=qp4 hsnd _ _ _ _ _ _ h h0;split at hk
    ·rename_i rs ks hrs hks;have hlen:=hR.len;have hlen2:=hF.len;have hML:=hM.len;simp only at hlen2;have frame:∀l sl,(⟨l,sl⟩:Root)∉st1.Wb->qaV s1.L l sl=qaV M' l sl/\∀c,qaK M l sl=some (some c)->∃c',qaK st1.L l sl=some (some c'):=λl sl hl=>by
      refine ⟨?_,λc hc=>?_⟩
      ·by_cases e:l<s1.L.length
       ·rcases hF.b ⟨l,sl⟩ hl with this|⟨h9,_⟩
        ·rw [qT,qT]at this;unfold qaV qeo at this;simp only at this;unfold qaV;rw [qh e,qh (by omega)]at this;exact this
        ·simp only at h9;omega
       ·unfold qaV;rw [List.getElem?_eq_none (by omega),List.getElem?_eq_none (by omega)]
      ·have hlt:l<M.length:=by
        unfold qaK at hc;cases hM0:M[l]? with
        |none=>rw [hM0]at hc;cases hc
        |some b=>exact (qn.1 hM0).1
       have hbx:(({E:=Env.qji args fn.ntmps,L:=M,B:=[],Wt:=.empty,Wb:=[]}:TSt).cont ⟨l,sl⟩).isSome=true:=by
        rw [qbA];unfold qaK TSt.all;simp only
        rw [qh hlt];unfold qaK at hc;rw [hc];rfl
       obtain ⟨c',hc'⟩:=Option.isSome_iff_exists.1 (hF.bn ⟨l,sl⟩ hl hbx);have h10:=qf1 hc';refine ⟨c',?_⟩;unfold qaK TSt.all at h10;simp only at h10;rw [qh (by omega)]at h10;exact h10
     split at hk
     ·rename_i hc;simp only [qe]at hc;obtain ⟨⟨hkn,hpt⟩,hko⟩:=hc;obtain ⟨rs',hrs',hrr⟩:=qiB hR _ _ hrs;have hkeys:=qnQ hR _ _ hks;have hpeq:=RVL.ptrs_eq _ _ hkn hrr;refine ⟨_,_,_,packed (if M'.isEmpty&&!ownsL rs' then reflagL qkA rs' else rs'),s1.L,hk,?_,hR.M.front,by omega,frame,by simpa using qAE,hev.imp ?_⟩
      ·split
       ·exact qnx (RVL.qs7 qvU rfl _ _ hrr)
       ·exact qnx hrr
      ·rintro C ⟨e,he,hC⟩;unfold qIe;simp only [hfn,hbody,hC];rw [if_pos he,hrs'];simp only
       rw [if_pos];simp only [hpeq,hkeys,qe];rw [hML];exact ⟨hpt,hko⟩
     ·split at hk
      ·rename_i hc;simp only [qe,Bool.not_eq_true']at hc;obtain ⟨⟨⟨hkn,hem⟩,hko⟩,hpt⟩:=hc;split at hk
       ·rename_i xs hxs;split at hk
        ·rename_i hc2;simp only [qe]at hc2;obtain ⟨hkx,hpx⟩:=hc2;obtain ⟨rs',hrs',hrr⟩:=qiB hR _ _ hrs;have hkeys:=qnQ hR _ _ hks;have hpeq:=RVL.ptrs_eq _ _ hkn hrr;obtain ⟨us,hus,hru⟩:=peekTL_ok (bt:=st1.box) (bx:=s1.box) (λr c hc=>by
          obtain ⟨c',h1,h2⟩:=hR.box hc;exact ⟨c',h1,h2,λhlt=>hR.M.mp r.lvl r.slot c' (by rw [<- qT];exact h1) hlt⟩) _ _ _ hxs hrr
         have hpu:=RVL.ptrs_eq _ _ hkx hru;have hem':M'.isEmpty=true:=by
          rw [List.isEmpty_iff]at hem ⊢;subst hem;exact List.eq_nil_of_length_eq_zero (by rw [hML];rfl)
         refine ⟨_,_,_,packed us,s1.L,hk,qnx hru,hR.M.front,by omega,frame,by simpa using qAE,hev.imp ?_⟩;rintro C ⟨e,he,hC⟩;unfold qIe;simp only [hfn,hbody,hC];rw [if_pos he,hrs'];simp only
         have hn1:¬ (((ptrsL rs').all λr=>decide (r.lvl<M'.length))&&qs8 M'.length (fn.results.toList.map (qU s1)))=true:=by
          rw [hpeq,hML,hpt];simp
         rw [if_neg hn1,if_pos (by rw [hem',hkeys,hML,hko];rfl),hus];simp only [hpu,hpx,if_true]
        ·cases hk
       ·cases hk
      ·cases hk
    ·cases hk
   ·cases h
  ·cases h
theorem qrD:∀{rs:List TV},onlyMapsTL rs=true->(qck rs).onlyMaps=true
 |[],_=>rfl
 |[x],h=>by simpa [qck,onlyMapsTL]using h
 |x::y::l,h=>by simpa only [qck,TV.onlyMaps]using h
theorem qBW(hT:TOk P H lib T)(hO:OOk P H lib O){args:List TV}{R:Type}{k:TV->TV->Option R}{r:R}{vs:List V}
  (h:qBV P H J T O ctx f args R k=some r) (ha:RVL args vs) :
  ∃x τ o l v sl,k x (.t (.mset τ) o l)=some r/\qHm τ=true/\RV x v/\x.onlyMaps=true/\Ev (λC=>qBU P H C f vs=some (v,sl,kvs τ l)) P H lib:=by
 unfold qBV at h;split at h
 ·cases h
 ·split at h
  ·rename_i fn hfn;split at h
   ·rename_i c hbody;have hE:RVL (Env.qji args fn.ntmps).toL (vs++List.replicate (fn.ntmps-vs.length) .undef):=by
     rw [qoT,ha.length];exact ha.append (RVL.replicate (qfe []) _)
    have hM0:LR [] []:=⟨rfl,λl s=>by simp [qaK,qaV,RB],by simp,λl s c h=>by simp [qaV]at h⟩
    have h0:Rst {E:=Env.qji args fn.ntmps,L:=[],B:=[],Wt:=.empty,Wb:=[]} {E:=vs++List.replicate (fn.ntmps-vs.length) .undef,L:=[],B:=[]}:=⟨hE,hM0.init⟩
    obtain ⟨e,st1,s1,hev,hR,hF,hk⟩:=qsF hT hO c 0 _ _ _ r _ h h0;have key:(match qhp (fn.results.toList.map (qmd P st1))with
     |some rs=>match peekTL st1.box rs with
      |some xs=>match ptrsTL xs with
       |[q]=>if q.lvl=0 then (match st1.box q with
        |some [.t (.mset τ) o l]=>if knownL xs&&onlyMapsTL xs then k (qck xs) (.t (.mset τ) o l)else none
        |_=>none)else none
       |_=>none
      |none=>none
     |none=>none)=some r/\(e=.normal\/e=.ret):=by
     cases e with
     |normal=>exact ⟨hk,.inl rfl⟩
     |ret=>exact ⟨hk,.inr rfl⟩
     |exit id=>cases hk
    obtain ⟨hk2,he⟩:=key;split at hk2
    ·rename_i rs hrs;split at hk2
     ·rename_i xs hxs;split at hk2
      ·rename_i q hq;split at hk2
       ·rename_i hl0;split at hk2
        ·rename_i τ o l hbx;split at hk2
         ·rename_i hc;simp only [qe]at hc;obtain ⟨hkn,hom⟩:=hc;obtain ⟨rs',hrs',hrr⟩:=qiB hR _ _ hrs;obtain ⟨us,hus,hru⟩:=peekTL_ok (bt:=st1.box) (bx:=s1.box) (λr c hc=>by
           obtain ⟨c',h1,h2⟩:=hR.box hc;exact ⟨c',h1,h2,λhlt=>hR.M.mp r.lvl r.slot c' (by rw [<- qT];exact h1) hlt⟩) _ _ _ hxs hrr
          have hpeq:=RVL.ptrs_eq _ _ hkn hru;obtain ⟨c',hc',hcr⟩:=hR.box hbx;obtain ⟨v,rfl,hv⟩:=qhf hcr;simp only [RV,RTy]at hv;obtain ⟨hkt,rfl⟩:=hv;have hom':=(rvl_adopt q _ _ hom hru).2;refine ⟨_,τ,o,l,packed us,q.slot,hk2,hkt,qnx hru,qrD hom,hev.imp λC hC=>?_⟩;unfold qBU;simp only [hfn,hbody,hC];rw [if_pos he,hrs'];simp only [hus,hpeq,hq];rw [if_pos hl0,hc'];simp only [hom',if_true];rfl
         ·cases hk2
        ·cases hk2
       ·cases hk2
      ·cases hk2
     ·cases hk2
    ·cases hk2
   ·cases h
  ·cases h
theorem qB4{x:TV}(h:x≠.val (.slice none 0 0)):x.qfv=x:=by
 unfold TV.qfv;split
 ·exact absurd rfl h
 ·rfl
theorem qFN{x:TV}{v:V}(h:RV x v):RV x.qfv v.qfv:=by
 by_cases hv:v=.val (.slice none 0 0)
 ·subst hv;cases x with
  |any rs=>simp only [RV]at h;simp [TV.qfv,V.qfv,RV,V.qv,ptrsL,qaE]
  |t τ o y=>cases τ<;>simp [RV,RTy]at h
  |val u =>
   simp only [RV,V.val.injEq]at h;subst h;simp [TV.qfv,V.qfv,RV,FlR,qbY]
  |_=>simp [RV]at h
 ·rw [qy8 hv,qB4]
  ·exact h
  ·rintro rfl;simp only [RV]at h;exact hv h
theorem qw3:∀{l:List TV} {m:List V},RVL l m->RVL (l.map TV.qfv) (m.map V.qfv)
 |[],m,h=>by simp only [RVL]at h;subst h;exact qaU
 |x::l,m,h=>by
  simp only [RVL]at h;obtain ⟨v,m',rfl,h1,h2⟩:=h;exact qC.2 ⟨qFN h1,qw3 h2⟩
theorem qI4{g:FuncId}{l:List TV}{m:List V}(h:RVL l m):RVL (dnT H g l) (dnA H g m):=by
 unfold dnT dnA;cases H.qfv g
 ·exact h
 ·exact qw3 h
theorem qz8(hT:TOk P H lib T)(hJ:∀g,J.lib g=false->lib g=none):∀n,OOk P H lib (qsd P H J T n)
 |0=>⟨λctx g args M R k r vs M' h=>by simp [qsd]at h,λctx f bid c st R k r s h=>by simp [qsd]at h,λctx g args R k r vs h=>by simp [qsd]at h⟩
 |n+1=>by
  have ih:=qz8 hT hJ n;refine ⟨λctx g args M R k r vs M' h ha hM=>?_,λctx f bid c st R k r s h hs=>?_,λctx g args R k r vs h ha=>?_⟩
  rotate_right
  ·simp only [qsd]at h;obtain ⟨x,τ,o,l,v,sl,hk,hkt,hr,hom,hev⟩:=qBW hT ih h ha;refine ⟨x,τ,o,l,v,sl,hk,hkt,hr,hom,?_⟩;obtain ⟨n1,h1⟩:=hev;refine ⟨n1+1,λm hm=>?_⟩;obtain ⟨m',rfl⟩:∃m',m=m'+1:=⟨m-1,by omega⟩
   exact h1 m' (by omega)
  ·simp only [qsd]at h;obtain ⟨x,N,wb,v,N',hk,hr,hN,hlen,hfr,hl,hev⟩:=qHL hT ih h (qI4 ha) hM;refine ⟨x,N,wb,v,N',hk,hr,hN,hlen,hfr,?_⟩;obtain ⟨n1,h1⟩:=hev;refine ⟨n1+1,λm hm=>?_⟩;obtain ⟨m',rfl⟩:∃m',m=m'+1:=⟨m-1,by omega⟩
   have:=h1 m' (by omega);simp only [qvn,hJ g hl];exact this
  ·simp only [qsd]at h;obtain ⟨e,st',s',hev,hR,hF,hk⟩:=qsF hT ih c bid st _ _ r s h hs;refine ⟨e,st',s',?_,hR,hF,hk⟩;obtain ⟨n1,h1⟩:=hev;refine ⟨n1+1,λm hm=>?_⟩;obtain ⟨m',rfl⟩:∃m',m=m'+1:=⟨m-1,by omega⟩
   exact h1 m' (by omega)
def qce(P:Program)(H:Hints)(lib:FuncId->Option (List V->Option V))(e:Entry):Prop :=
 ∀x y,e.F x=some y->∀vs,RVL (qhm e.ps x) vs->∃v,qyU P H lib e.g vs [] v []/\RV (qlb e.rs y) v
theorem qAj{τ:Ty}{cs:List TV}{x:τ.den}{l':List V}(h:qxr τ cs=some x)(hr:RVL cs l'):RVL (ofTy τ 1000 x).cells l':=by
 unfold qxr at h;split at h
 ·rename_i h1;split at h
  ·rename_i c;obtain ⟨u,rfl,hu⟩:=qhf hr;have h2:=rv_ofTy _ _ _ _ (qgi _ _ _ _ _ h hu);have h3:(ofTy τ 1000 x).cells=[ofTy τ 1000 x]:=by cases τ<;>first|rfl|simp [Ty.one]at h1
   rw [h3];exact qC.2 ⟨h2,qaU⟩
  ·cases h
 ·rename_i h1;have h2:=rv_ofTy _ _ _ _ (qgi _ _ _ _ (.agg l') h (by simp only [RV];exact ⟨l',rfl,hr⟩));cases τ with
  |unit=>simp only [ofTy,TV.cells,RV]at h2 ⊢;obtain ⟨m,e,hm⟩:=h2;cases e;exact hm
  |pair a b=>simp only [ofTy,TV.cells,RV]at h2 ⊢;obtain ⟨m,e,hm⟩:=h2;cases e;exact hm
  |mset t=>simp [qks]at h
  |_=>simp [Ty.one]at h1
theorem qxs{c:Cp}{w:TV}{x:c.den}{v:V}(h:qGU c w=some x)(hr:RV w v):RV (qIS c x) v:=by
 cases c with
 |v τ=>exact rv_ofTy _ _ _ _ (qgi _ _ _ _ _ h hr)
 |p τ =>
  cases w<;>simp only [qGU]at h<;>try (cases h;done)
  rename_i sh cs;cases sh with
  |false=>simp only [qGU]at h;cases h
  |true =>
   simp only [qGU]at h;simp only [RV]at hr;obtain ⟨f,l',rfl,hf,hsh,hl⟩:=hr;simp only [qIS,RV];exact ⟨f,l',rfl,hf,hsh,qAj h hl⟩
theorem qy4:∀(cs:List Cp) (l:List TV) (x:denC cs) (l':List V),qvE cs l=some x->RVL l l'->RVL (qFj cs x) l'
 |[],l,x,l',h,hr=>by
  cases l with
  |nil=>simpa [qFj]using hr
  |cons=>simp [qvE]at h
 |[c],l,x,l',h,hr=>by
  match l,h,hr with
  |[v],h,hr =>
   obtain ⟨u,rfl,h1⟩:=qhf hr;exact qC.2 ⟨qxs h h1,qaU⟩
  |[],h,hr=>simp [qvE]at h
  |_::_::_,h,hr=>simp [qvE]at h
 |c::q::ps,l,x,l',h,hr=>by
  match l,h,hr with
  |[],h,hr=>simp [qvE]at h
  |v::l,h,hr =>
   simp only [qvE]at h;obtain ⟨y,hy,h⟩:=qd.1 h;obtain ⟨z,hz,h⟩:=qd.1 h;simp only [qb]at h;subst h;simp only [RVL]at hr;obtain ⟨u,m,rfl,h1,h2⟩:=hr;exact qC.2 ⟨qxs hy h1,qy4 (q::ps) l _ _ hz h2⟩
theorem qBQ{p:Pm}{w:TV}{x:p.den}{v:V}(h:qH7 p w=some x)(hr:RV w v):RV (qEm p x) v:=by
 cases p with
 |ty τ=>exact rv_ofTy _ _ _ _ (qgi _ _ _ _ _ h hr)
 |ptr τ=>exact qxs (c:=.p τ) h hr
 |fn g cs =>
  cases w<;>simp only [qH7]at h<;>try (cases h;done)
  rename_i g' first cap;cases first with
  |cons y ys=>simp only [qH7]at h;cases h
  |nil =>
   simp only [qH7]at h;split at h
   ·rename_i hg;subst hg;simp only [RV]at hr;obtain ⟨a',b',rfl,ha,hb⟩:=hr;simp only [RVL]at ha;subst ha;simp only [qEm,RV];exact ⟨[],b',rfl,qaU,qy4 _ _ _ _ h hb⟩
   ·cases h
theorem qt0:∀(ps:List Pm) (l:List TV) (x:denP ps) (l':List V),qvD ps l=some x->RVL l l'->RVL (qhm ps x) l'
 |[],l,x,l',h,hr=>by
  cases l with
  |nil=>simpa [qhm]using hr
  |cons=>simp [qvD]at h
 |[p],l,x,l',h,hr=>by
  match l,h,hr with
  |[v],h,hr =>
   obtain ⟨u,rfl,h1⟩:=qhf hr;exact qC.2 ⟨qBQ h h1,qaU⟩
  |[],h,hr=>simp [qvD]at h
  |_::_::_,h,hr=>simp [qvD]at h
 |p::q::ps,l,x,l',h,hr=>by
  match l,h,hr with
  |[],h,hr=>simp [qvD]at h
  |v::l,h,hr =>
   simp only [qvD]at h;obtain ⟨y,hy,h⟩:=qd.1 h;obtain ⟨z,hz,h⟩:=qd.1 h;simp only [qb]at h;subst h;simp only [RVL]at hr;obtain ⟨u,m,rfl,h1,h2⟩:=hr;exact qC.2 ⟨qBQ hy h1,qt0 (q::ps) l _ _ hz h2⟩
theorem qGK:∀{l:List Entry},(∀e∈l,qce P H lib e)->TOk P H lib (qz6 l)
 |[],_=>λg args R k r vs h=>by simp [qz6]at h
 |e::l,he=>λg args R k r vs h ha=>by
  have ih:=qGK (l:=l) λe' h'=>he e' (by simp [h']);simp only [qz6]at h;split at h
  ·rename_i hg;subst hg;split at h
   ·rename_i x hx;obtain ⟨y,hy,hk⟩:=qd.1 h;obtain ⟨v,hev,hr⟩:=he e (by simp) x y hy vs (qt0 _ _ _ _ hx ha);exact ⟨_,v,hk,hr,hev⟩
   ·exact ih _ _ _ _ _ _ h ha
  ·exact ih _ _ _ _ _ _ h ha
theorem qt:TOk P H lib (qz6 []):=qGK (by simp)
theorem qo{e:Entry}{l:List Entry}(h:qce P H lib e)(h':TOk P H lib (qz6 l)):TOk P H lib (qz6 (e::l)):=λg args R k r vs hh ha=>by
 simp only [qz6]at hh;split at hh
 ·rename_i hg;subst hg;split at hh
  ·rename_i x hx;obtain ⟨y,hy,hk⟩:=qd.1 hh;obtain ⟨v,hev,hr⟩:=h x y hy vs (qt0 _ _ _ _ hx ha);exact ⟨_,v,hk,hr,hev⟩
  ·exact h' _ _ _ _ _ _ hh ha
 ·exact h' _ _ _ _ _ _ hh ha
theorem qEq{rs:List (Ty×Nat)}{x:TV}{y:denL (rs.map (·.1))}{v:V}(h:qBR rs x=some y)(hr:RV x v):RV (qlb rs y) v:=by
 match rs,y,h with
 |[p],y,h =>
  simp only [qBR]at h;have:=qy2 [p] [x] y [v] h (qC.2 ⟨hr,qaU⟩);simp only [qlb];obtain ⟨τ,o⟩:=p;simp only [ofL]at this ⊢;exact (qC.1 this).1
 |[],y,h =>
  cases x<;>simp only [qBR]at h<;>try (cases h;done)
  rename_i l _;simp only [RV]at hr;obtain ⟨l',rfl,hl⟩:=hr;have:=qy2 [] l y l' h hl;simp only [qlb,ofL,qck,RV];exact ⟨l',rfl,this⟩
 |p::q::rs,y,h =>
  cases x<;>simp only [qBR]at h<;>try (cases h;done)
  rename_i l _;simp only [RV]at hr;obtain ⟨l',rfl,hl⟩:=hr;have:=qy2 (p::q::rs) l y l' h hl;have hpk:∀m:List TV,2<=m.length->qck m=.tuple m:=λm hm=>by
   match m,hm with
   |_::_::_,_=>rfl
  simp only [qlb];rw [hpk _ (by rw [qkr _ _ _ h];have:=qkr _ _ _ h;obtain ⟨τ,o⟩:=p;cases rs<;>simp [ofL]at this<;>omega)];simp only [RV];exact ⟨l',rfl,this⟩
theorem qpT(hT:TOk P H lib T)(hJ:∀g,J.lib g=false->lib g=none)(n:Nat)(g:FuncId)(ps:List Pm)(rs:List (Ty×Nat))(F:denP ps->Option (denL (rs.map (·.1))))
  (h:∀x,fnT P H J T n g (qhm ps x) rs=F x):qce P H lib ⟨g,ps,rs,F⟩:=by
 intro x y hy vs hvs;simp only at hy hvs;rw [<- h x]at hy;unfold fnT at hy;obtain ⟨w,N,wb,v,N',hk,hr,hN,hlen,_,hev⟩:=(qz8 hT hJ n).call _ _ _ _ _ _ _ _ [] hy hvs ⟨rfl,λl s=>by simp [qaK,qaV,RB],by simp,λl s c h=>by simp [qaV]at h⟩;have hN0:N=[]:=List.eq_nil_of_length_eq_zero (by rw [hlen];rfl);subst hN0;have hN0':N'=[]:=List.eq_nil_of_length_eq_zero (by rw [hN.len];rfl);subst hN0';exact ⟨v,hev,qEq hk hr⟩
theorem qAu(hm:P.follows .mixedOrders=true)(qeW:qmq P H)
  (qAE:∀g h args r,lib g=some h->h args=some r->qbD P g args [] r []) {e:Entry} (he:qce P H lib e) {x:denP e.ps} {y:denL (e.rs.map (·.1))} (h:e.F x=some y) {vs:List V} (hv:RVL (qhm e.ps x) vs) :
  ∃v,qbD P e.g vs [] v []/\RV (qlb e.rs y) v:=by
 obtain ⟨v,⟨n,hev⟩,hr⟩:=he x y h vs hv;exact ⟨v,(qyh hm qeW qAE n).call _ _ _ _ _ (hev n (Nat.le_refl _)),hr⟩
end
end Go.Tx
end
section
namespace Go.Tx
open Go Go.Ab Go.RowKit Go.ChangeShapes Go.WideShapes Go.Deep
section
def Rng(N:Nat):(τ:Ty)->τ.den->Prop
 |.int k,n=>k.min<=n/\n<=k.max
 |.bool,_=>True
 |.str,s=>s.length<=N
 |.flt,_=>True
 |.cx,_=>True
 |.err,_=>True
 |.mset _,_=>True
 |.sl t,l=>l.length<=N/\∀e∈l,Rng N t e
 |.unit,_=>True
 |.pair a b,x=>Rng N a x.1/\Rng N b x.2
def qIf(N:Nat):(τs:List Ty)->denP (τs.map .ty)->Prop
 |[],_=>True
 |[τ],x=>Rng N τ x
 |τ::q::l,x=>Rng N τ x.1/\qIf N (q::l) x.2
def cx0(w:World):Cx:={β:=λ_=>none,ω:=λb=>match w.heap[b]? with
 |some (.cells c _ _)=>some (c.size,true)
 |_=>none}
structure Sm {H:Type} (N:Nat) (S:DataW H->Prop):Prop where
 slice:∀es sp,S (.slice es sp)->es.length<=maxLen->es.length<=N/\∀e∈es,S e
 agg:∀ps,S (.agg ps)->∀p∈ps,S p
 str:∀b,S (.lit (.string b))->b.length<=maxLen->b.length<=N
def qyV(N:Nat)(w:World)(τ:Ty)(v:Value):Prop:=∃y u,Rng N τ y/\RTy τ 1000 y u/\Rep w (cx0 w) u v []
section
variable (P:Program)
def okT:Nat->TypeId->Bool
 |0,_=>false
 |d+1,t=>decide (t<P.types.size)&&match P.underlying t with
  |some (.slice e)=>decide (P.cellsOf e≠0)&&((qcH P d e).map List.length==some (P.cellsOf e))&&okT d e
  |some (.struct fields)=>fields.toList.all λfd=>okT d fd.type
  |some (.array _ e)=>okT d e
  |some (.float _)|some (.complex _)=>false
  |_=>true
end
variable {H:Type} {enc:TypeId × Value->H} {P:Program} {w:World} {base:Nat} {held:Bool}
theorem glue{α β:Type}{R:α->β->Prop}:∀(css:List (List α)) (szs:List Nat) (vals:List β),css.length=szs.length->vals.length=szs.sum ->
  (∀(j:Nat) c s,css[j]?=some c->szs[j]?=some s->All2 R c ((vals.drop (szs.take j).sum).take s))->All2 R css.flatten vals
 |[],szs,vals,h1,h2,_=>by
  have:szs=[]:=List.eq_nil_of_length_eq_zero (by simpa using h1.symm);subst this;have:vals=[]:=List.eq_nil_of_length_eq_zero (by simpa using h2);subst this;exact .nil
 |c::css,[],vals,h1,_,_=>by simp at h1
 |c::css,s::szs,vals,h1,h2,h=>by
  have h0:=h 0 c s rfl rfl;simp only [List.take_zero,List.sum_nil,List.drop_zero]at h0;have hr:=glue css szs (vals.drop s) (by simpa using h1) (by simp only [List.length_drop,h2,List.sum_cons];omega) λj c' s' hc hs=>by
   have:=h (j+1) c' s' (by simpa using hc) (by simpa using hs);simpa [List.take_succ_cons,List.sum_cons,List.drop_drop]using this
  have:=h0.append hr;simpa [List.flatten_cons]using this
theorem qyi{N:Nat}:∀(cs:List Ty) (vals:List Value),All2 (qyV N w) cs vals->∃(y:(cs.foldr Ty.pair .unit).den) (us:List V),Rng N _ y/\RTy (cs.foldr Ty.pair .unit) 1000 y (.agg us)/\RepL w (cx0 w) us vals []
 |[],vals,h=>by cases h;exact ⟨(),[],trivial,by simp [RTy],by simp [RepL]⟩
 |c::cs,vals,h=>by
  cases h with
  |cons h1 h2 =>
   obtain ⟨y,u,hy,hu,hr⟩:=h1;obtain ⟨ys,us,hys,hus,hrs⟩:=qyi cs _ h2;refine ⟨(y,ys),u::us,⟨hy,hys⟩,?_,?_⟩
   ·simp only [List.foldr_cons,RTy];exact ⟨u,us,rfl,hu,hus⟩
   ·simp only [RepL];exact ⟨_,_,[],[],rfl,rfl,hr,hrs⟩
theorem qxv{d:Nat}{e:TypeId}{σ:Ty}(hc:qcH P d e=some [σ])(hs:∀fs,P.underlying e≠some (.struct fs))(ha:∀n q,P.underlying e≠some (.array n q)):σ.one=true:=by
 cases d with
 |zero=>simp [qcH]at hc
 |succ d =>
  simp only [qcH]at hc;split at hc
  ·cases hc;rfl
  ·cases hc;rfl
  ·cases hc;rfl
  ·cases hc;rfl
  ·cases hc;rfl
  ·split at hc
   ·cases hc;rfl
   ·cases hc;rfl
   ·cases hc;rfl
   ·cases hc
  ·rename_i fs hfs;exact absurd hfs (hs _)
  ·rename_i n e' hfs;exact absurd hfs (ha _ _)
  ·cases hc
def qIb(P:Program)(e:TypeId)(cs:List Ty):Option Ty:=match P.underlying e with
 |some (.struct _)=>some (cs.foldr Ty.pair .unit)
 |some (.array ..)=>some (cs.foldr Ty.pair .unit)
 |_=>match cs with
  |[τ]=>some τ
  |_=>none
theorem qG9{N:Nat}{d:Nat}{e:TypeId}{cs:List Ty}{τ:Ty}(hc:qcH P d e=some cs)(hτ:qIb P e cs=some τ){vals:List Value}(h:All2 (qyV N w) cs vals) :
  ∃(y:τ.den) (u:V) (v:Value),Rng N τ y/\RTy τ 1000 y u/\Rep w (cx0 w) u v []/\v.cells.toList=vals:=by
 have agg:τ=cs.foldr Ty.pair .unit->∃(y:τ.den) (u:V) (v:Value),Rng N τ y/\RTy τ 1000 y u/\Rep w (cx0 w) u v []/\v.cells.toList=vals:=by
  rintro rfl;obtain ⟨y,us,hy,hu,hr⟩:=qyi cs vals h;exact ⟨y,.agg us,.agg vals.toArray,hy,hu,by simp only [Rep];exact ⟨vals,rfl,hr⟩,by simp [Value.cells]⟩
 unfold qIb at hτ;split at hτ
 ·cases hτ;exact agg rfl
 ·cases hτ;exact agg rfl
 ·rename_i hns hna;have hns':=hns;have hna':=hna;split at hτ
  ·cases hτ;have hone:=qxv hc (λfs hh=>hns' fs hh) (λn q hh=>hna' n q hh)
   match vals,h with
   |v::_,.cons h1 .nil =>
    obtain ⟨y,u,hy,hu,hr⟩:=h1;refine ⟨y,u,v,hy,hu,hr,?_⟩;rw [qdg (qmb (qDH hone hu) hr)]
  ·cases hτ
theorem frozen0{b:Nat}{e:Nat}{fz:Bool}(h:(cx0 w).ω b=some (e,fz)):fz=true/\b<w.heap.size/\∃c t fr,w.heap[b]?=some (.cells c t fr)/\e=c.size:=by
 simp only [cx0]at h;split at h
 ·rename_i c t fr hc;cases h;exact ⟨rfl,(Array.getElem?_eq_some_iff.1 hc).1,c,t,fr,hc,rfl⟩
 ·cases h
theorem qnT{a:Addr}{v:Value}(h:w.cell? a=some v):a.spot=none/\∃c t fr,w.heap[a.block]?=some (.cells c t fr)/\c[a.off]?=some v:=by
 unfold World.cell? at h;split at h
 ·rename_i c t fr hc;split at h
  ·cases h
  ·rename_i hs;exact ⟨by simpa using hs,c,t,fr,hc,h⟩
 ·cases h
theorem qDN{N:Nat}{τ:Ty}{b off len cap s:Nat}(hs:0<s)(hlc:len<=cap)(hcap:cap≠0)(hτ:τ.qc9=true)(hn:τ.qca=s)
  (hel:∀i,i<cap->∃vals:List Value,vals.length=s/\(∀j,j<s->w.cell? ⟨b,off+i*s+j,none⟩=vals[j]?)/\(i<len->∃(y:τ.den) (u:V) (v:Value),Rng N τ y/\RTy τ 1000 y u/\Rep w (cx0 w) u v []/\v.cells.toList=vals)) :
  ∃(l:List τ.den) (us:List V),l.length=len/\(∀y∈l,Rng N τ y)/\All2 (RTy τ 1000) l us/\Rep w (cx0 w) (.sl .shared false us) (.slice (some ⟨b,off,none⟩) len cap) []:=by
 have key:∀n,n<=len->∃(l:List τ.den) (us:List V) (vals:List Value),l.length=n/\(∀y∈l,Rng N τ y)/\All2 (RTy τ 1000) l us/\RepE w (cx0 w) s us vals []/\vals.length=n*s/\(∀j v,vals[j]?=some v->w.cell? ⟨b,off+j,none⟩=some v):=by
  intro n;induction n with
  |zero=>exact λ_=>⟨[],[],[],rfl,by simp,.nil,by simp [RepE],by simp,by simp⟩
  |succ n ih =>
   intro hle;obtain ⟨l,us,vals,h1,h2,h3,h4,h5,h6⟩:=ih (by omega);obtain ⟨vs,hvl,hvc,hy⟩:=hel n (by omega);obtain ⟨y,u,v,hry,hu,hr,hcv⟩:=hy (by omega);refine ⟨l++[y],us++[u],vals++vs,by simp [h1],?_,h3.append (.cons hu .nil),?_,by simp [h5,hvl,Nat.succ_mul],?_⟩
   ·intro z hz;simp only [qk,List.mem_singleton]at hz;rcases hz with hz|rfl
    ·exact h2 z hz
    ·exact hry
   ·have h7:RepE w (cx0 w) s [u] vs []:=by
     simp only [RepE];exact ⟨v,[],[],[],by simp [hcv],by rw [<- hvl,<- hcv];simp,rfl,hr,rfl,rfl⟩
    simpa using qi6 h4 h7
   ·intro j v hj;by_cases hlt:j<vals.length
    ·rw [qh hlt]at hj;exact h6 j v hj
    ·rw [List.getElem?_append_right (by omega)]at hj;have hjs:=(qn.1 hj).1;have:=hvc (j-vals.length) (by omega);rw [hj]at this;rw [<- this];congr 2
     omega
 obtain ⟨l,us,vals,h1,h2,h3,h4,h5,h6⟩:=key len (Nat.le_refl _);refine ⟨l,us,h1,h2,h3,?_⟩;have hlen:=h3.length;have hcells:=qft hτ h3
 obtain ⟨vs,hvl,hvc,_⟩:=hel 0 (by omega);have hc0:=hvc 0 (by omega);have hv0:∃v0,vs[0]?=some v0:=⟨vs[0]'(by omega),List.getElem?_eq_getElem (by omega)⟩
 obtain ⟨v0,hv0⟩:=hv0;rw [hv0]at hc0;obtain ⟨_,c,t,fr,hblk,hoff⟩:=qnT hc0;simp only [Nat.zero_mul,Nat.add_zero]at hblk hoff;have hoff':=(Array.getElem?_eq_some_iff.1 hoff).1;simp only [Rep];refine ⟨qBI h3,.inr ⟨b,off,cap,s,vals,[],?_,?_,by simp,?_,hs,?_,h6,⟨c.size,true,?_,?_,rfl⟩,h4,by simp,by simp⟩⟩
 ·rw [hlen,h1]
 ·rw [hlen,h1];exact hlc
 ·rw [hlen,h1];exact h5
 ·intro x hx;rw [(hcells x hx).1];exact hn
 ·simp only [cx0,hblk]
 ·by_cases h0:vals.length=0
  ·rw [h0];omega
  ·have:∃v1,vals[vals.length-1]?=some v1:=⟨vals[vals.length-1]'(by omega),List.getElem?_eq_getElem (by omega)⟩
   obtain ⟨v1,hv1⟩:=this;obtain ⟨_,c',t',fr',hblk',hoff1⟩:=qnT (h6 _ _ hv1);simp only at hblk' hoff1;rw [hblk]at hblk';cases hblk'
   have:=(Array.getElem?_eq_some_iff.1 hoff1).1;omega
theorem qAt{d:Nat}{e:TypeId}{cs:List Ty}{τ:Ty}(hc:qcH P d e=some cs)(hτ:qIb P e cs=some τ)(hones:∀c∈cs,c.one=true):τ.qc9=true/\τ.qca=cs.length:=by
 have agg:∀cs:List Ty,(∀c∈cs,c.one=true)->(cs.foldr Ty.pair .unit).qrZ=true/\(cs.foldr Ty.pair .unit).qc9=true/\(cs.foldr Ty.pair .unit).qca=cs.length:=by
  intro cs;induction cs with
  |nil=>intro _;exact ⟨rfl,rfl,rfl⟩
  |cons c cs ih =>
   intro h;obtain ⟨h1,_,h3⟩:=ih λc' hc'=>h c' (by simp [hc']);simp only [List.foldr_cons,Ty.qrZ,Ty.qc9,Ty.qca,h c (by simp),h1,h3,Bool.and_self,List.length_cons];exact ⟨trivial,trivial,trivial⟩
 unfold qIb at hτ;split at hτ
 ·cases hτ;exact ⟨(agg cs hones).2.1,(agg cs hones).2.2⟩
 ·cases hτ;exact ⟨(agg cs hones).2.1,(agg cs hones).2.2⟩
 ·split at hτ
  ·cases hτ;have h1:=hones τ (by simp);cases τ<;>first|exact ⟨rfl,rfl⟩|simp [Ty.one]at h1
  ·cases hτ
theorem qp5{α β:Type}{g:α->Option β}:∀{l:List α} {r:List β},l.mapM g=some r->r.length=l.length/\∀(i:Nat) (a:α),l[i]?=some a->∃b,r[i]?=some b/\g a=some b
 |[],r,h=>by simp at h;subst h;exact ⟨rfl,by simp⟩
 |a::l,r,h=>by
  simp only [List.mapM_cons,Option.bind_eq_bind,qd]at h;obtain ⟨b,hb,r',hr',h⟩:=h;cases h;obtain ⟨h1,h2⟩:=qp5 hr';refine ⟨by simp [h1],λi x hi=>?_⟩;cases i with
  |zero=>simp at hi;subst hi;exact ⟨b,rfl,hb⟩
  |succ n=>obtain ⟨c,hc,hg⟩:=h2 n x (by simpa using hi);exact ⟨c,by simpa using hc,hg⟩
theorem qhs:∀(d:Nat) (t:TypeId) (cs:List Ty),qcH P d t=some cs->∀c∈cs,c.one=true
 |0,t,cs,h=>by simp [qcH]at h
 |d+1,t,cs,h=>by
  simp only [qcH]at h;split at h
  ·cases h;simp [Ty.one]
  ·cases h;simp [Ty.one]
  ·cases h;simp [Ty.one]
  ·cases h;simp [Ty.one]
  ·cases h;simp [Ty.one]
  ·split at h
   ·cases h;simp [Ty.one]
   ·cases h;simp [Ty.one]
   ·cases h;simp [Ty.one]
   ·cases h
  ·rename_i fields _;obtain ⟨css,hcss,rfl⟩:=qc.1 h;obtain ⟨h1,h2⟩:=qp5 hcss;intro c hc;obtain ⟨q,hq,hcq⟩:=List.mem_flatten.1 hc;obtain ⟨i,hi⟩:=List.mem_iff_getElem?.1 hq;have hlt:i<fields.toList.length:=by have:=(qn.1 hi).1;omega
   obtain ⟨b,hb,hg⟩:=h2 i _ (List.getElem?_eq_getElem hlt);rw [hi]at hb;cases hb;exact qhs d _ _ hg c hcq
  ·obtain ⟨q,hq,rfl⟩:=qc.1 h;intro c hc;obtain ⟨q',hq',hcq⟩:=List.mem_flatten.1 hc;obtain ⟨_,rfl⟩:=List.mem_replicate.1 hq';exact qhs d _ _ hq c hcq
  ·cases h
end
section
variable {H:Type} {enc:TypeId × Value->H} {P:Program} {w:World} {base:Nat} {held:Bool}
theorem qyx{d:Nat}{e:TypeId}{cs1 cs:List Ty}(hc:qcH P d e=some cs1)(h:(match qcH P d e,P.underlying e with
   |some cs,some (.struct _)=>some [Ty.sl (cs.foldr .pair .unit)]
   |some cs,some (.array ..)=>some [.sl (cs.foldr .pair .unit)]
   |some [τ],_=>some [.sl τ]
   |_,_=>none)=some cs):∃τ,cs=[.sl τ]/\qIb P e cs1=some τ:=by
 rw [hc]at h;unfold qIb;cases hu:P.underlying e with
 |none=>rw [hu]at h;simp only at h ⊢;split at h<;>simp_all
 |some dd =>
  rw [hu]at h;cases dd<;>simp only at h ⊢<;>first|(simp only [qb]at h;exact ⟨_,h.symm,rfl⟩)|(split at h<;>simp_all)
theorem qDv{X:Cx}:Rep w X (.sl .shared false []) (.slice none 0 0) []:=by simp [Rep,ptrsL]
theorem qDx{X:Cx}(a:Addr):Rep w X (.sl .shared false []) (.slice (some a) 0 0) []:=by simp [Rep,ptrsL]
theorem qkL(hl:laidOutB P=true){N:Nat}{S:DataW H->Prop}(hS:Sm N S):∀(d:Nat) (t:TypeId) (cs:List Ty),qcH P d t=some cs->okT P d t=true->∀(fuel:Nat) (vals:List Value) (x:DataW H×List MemPlace),S x.1 ->
  DataW.trod enc P w base (λ_=>true) held fuel t vals=some x->All2 (qyV N w) cs vals
 |0,t,cs,hc,_,fuel,vals,x,hx,h=>by simp [qcH]at hc
 |d+1,t,cs,hc,hok,fuel,vals,x,hx,h=>by
  simp only [qcH]at hc;simp only [okT,qe,decide_eq_true_eq]at hok;split at hc
  ·rename_i k hu;cases hc;obtain ⟨n,rfl,rfl,hwf⟩:=DataW.trod_int hu h;refine .cons ⟨n,.val (.int k n),?_,by simp [RTy],by simp [Rep]⟩ .nil;simp only [Rng];simp only [Lit.wf,qe,decide_eq_true_eq]at hwf;exact hwf
  ·rename_i hu;cases hc;obtain ⟨b,rfl,rfl⟩:=DataW.trod_bool hu h;exact .cons ⟨b,.val (.bool b),trivial,by simp [RTy],by simp [Rep]⟩ .nil
  ·rename_i hu;cases hc;obtain ⟨s,rfl,rfl,hs⟩:=DataW.trod_string hu h;have hsl:s.data.toList.length<=maxLen:=by
    have e:s.data.toList.length=s.size:=Array.length_toList;rw [e];exact hs
   exact .cons ⟨s.data.toList,.val (.string s),hS.str _ hx hsl,by simp [RTy],by simp [Rep]⟩ .nil
  ·rename_i hu;rw [hu]at hok;simp at hok
  ·rename_i hu;rw [hu]at hok;simp at hok
  ·rename_i e hu;obtain ⟨ht,hoe⟩:=hok;rw [hu]at hoe;simp only [qe,decide_eq_true_eq,beq_iff_eq]at hoe;cases hce:qcH P d e with
   |none=>rw [hce]at hc;simp at hc
   |some cs1 =>
    obtain ⟨τ,rfl,hτ⟩:=qyx hce (by rw [hce];rw [hce]at hc;exact hc);obtain ⟨hel,hnc⟩:=qAt hce hτ (qhs d e cs1 hce);rcases open_slice hu h with ⟨rfl,rfl⟩|⟨a,len,cap,m,n,D,Pl,rfl,hb,hlc,hcm,hm,rfl,hx'⟩
    ·exact .cons ⟨[],.sl .shared false [],⟨Nat.zero_le _,by simp⟩,by simp only [RTy];exact ⟨_,_,[],rfl,qjK rfl (by simp) (λ_=>rfl),.nil⟩,qDv⟩ .nil
    ·simp only [if_true]at hm;subst hm;obtain ⟨hN,hSe⟩:=hS.slice _ _ hx (by simp;omega);by_cases hcap:m=0
     ·subst hcap;have hlen:len=0:=by omega
      subst hlen;exact .cons ⟨[],.sl .shared false [],⟨Nat.zero_le _,by simp⟩,by simp only [RTy];exact ⟨_,_,[],rfl,qjK rfl (by simp) (λ_=>rfl),.nil⟩,qDx a⟩ .nil
     ·have hspot:a.spot=none:=by
       obtain ⟨cs',hcs',_⟩:=hx' 0 (by omega);obtain ⟨_,hl1,hc1⟩:=World.cells?_some hcs';have h0:=hc1 0 (by omega);simp only [Nat.zero_mul]at h0;have:∃v0,cs'[0]?=some v0:=⟨cs'[0]'(by omega),List.getElem?_eq_getElem (by omega)⟩
       obtain ⟨v0,hv0⟩:=this;rw [hv0]at h0;have:=(qnT h0).1;simpa [Addr.add]using this
      obtain ⟨b,off,spot⟩:=a;simp only at hspot;subst hspot;have hsz:∀i,i<m->∃vals:List Value,vals.length=P.cellsOf e/\(∀j,j<P.cellsOf e->w.cell? ⟨b,off+i*P.cellsOf e+j,none⟩=vals[j]?) /\
        (i<len->∃(y:τ.den) (u:V) (v:Value),Rng N τ y/\RTy τ 1000 y u/\Rep w (cx0 w) u v []/\v.cells.toList=vals):=λi hi=>by
       obtain ⟨cs',hcs',htr⟩:=hx' i hi;obtain ⟨_,hl1,hc1⟩:=World.cells?_some hcs';refine ⟨cs',hl1,λj hj=>?_,λhil=>?_⟩
       ·rw [<- hc1 j hj,Addr.add_lit,Addr.add_lit]
       ·have hSi:S (D i):=hSe _ (List.mem_map.2 ⟨i,List.mem_range.2 hil,rfl⟩);exact qG9 hce hτ (qkL hl hS d e cs1 hce hoe.2 n cs' _ hSi htr)
      have hn:τ.qca=P.cellsOf e:=by
       have:=hoe.1.2;rw [hce]at this;simp only [qj,qb]at this;rw [hnc,this]
      obtain ⟨l,us,h1,h2,h3,h4⟩:=qDN (Nat.pos_of_ne_zero hoe.1.1) hlc hcap hel hn hsz;exact .cons ⟨l,.sl .shared false us,⟨by rw [h1];simpa using hN,h2⟩,by simp only [RTy];exact ⟨_,_,us,rfl,qjK rfl (by simp) (λ_=>rfl),h3⟩,h4⟩ .nil
  ·rename_i fields hu;obtain ⟨ht,hoe⟩:=hok;rw [hu]at hoe;simp only [List.all_eq_true]at hoe;obtain ⟨css,hcss,rfl⟩:=qc.1 hc;obtain ⟨hl1,hget⟩:=qp5 hcss;obtain ⟨xs,n,_,rfl,hvl,hxl,hxs⟩:=DataW.trod_struct hu h;obtain ⟨_,hsum,hoff⟩:=kid_struct hl ht hu;refine glue css (fields.toList.map λf=>P.cellsOf f.type) vals (by simp [hl1]) (by rw [hvl,hsum]) λj c s hcj hsj=>?_;rw [List.getElem?_map]at hsj;obtain ⟨fd,hfd,rfl⟩:=qc.1 hsj;obtain ⟨c',hc',hg⟩:=hget j fd hfd;rw [hcj]at hc';cases hc';have hx1:=hxs j fd (by simpa using hfd);rw [hoff j fd hfd,List.map_take]at hx1;have hj:j<xs.length:=by rw [hxl];have:=(qn.1 hfd).1;simpa using this
   rw [List.getElem?_eq_getElem hj]at hx1;exact qkL hl hS d fd.type c hg (hoe fd (List.mem_of_getElem? hfd)) n _ _ (hS.agg _ hx _ (List.mem_map.2 ⟨xs[j],List.getElem_mem hj,rfl⟩)) hx1
  ·rename_i n' e hu;obtain ⟨ht,hoe⟩:=hok;rw [hu]at hoe;simp only at hoe;obtain ⟨cs1,hce,rfl⟩:=qc.1 hc;obtain ⟨_,hsum⟩:=kid_array hl ht hu;cases fuel with
   |zero=>simp [DataW.trod]at h
   |succ fuel =>
    unfold DataW.trod at h;rw [hu]at h;simp only at h;split at h
    ·rename_i hvl;obtain ⟨xs,hxs,rfl⟩:=qc.1 h;obtain ⟨hxl,hget⟩:=qp5 hxs;refine glue _ (List.replicate n' (P.cellsOf e)) vals (by simp) (by rw [hvl,hsum];simp) λj c s hcj hsj=>?_;have hjn:j<n':=by have:=(qn.1 hcj).1;simpa using this
     rw [List.getElem?_replicate,if_pos hjn]at hcj hsj;cases hcj;cases hsj
     obtain ⟨b,hb,hg⟩:=hget j j (by simp [hjn]);have htk:((List.replicate n' (P.cellsOf e)).take j).sum=j*P.cellsOf e:=by
      rw [List.take_replicate];simp [Nat.min_eq_left (Nat.le_of_lt hjn)]
     rw [htk];exact qkL hl hS d e cs1 hce hoe fuel _ _ (hS.agg _ hx _ (List.mem_map.2 ⟨b,List.mem_of_getElem? hb,rfl⟩)) hg
    ·cases h
  ·cases hc
theorem qFq(hl:laidOutB P=true){N:Nat}{S:DataW H->Prop}(hS:Sm N S){t:TypeId}{τ:Ty}(hτ:qHZ P t=some τ)(hok:okT P 10 t=true){v:Value}{d:DataW H}{ps:List MemPlace}{b0:Nat}(hval:Value.okWide P w .any b0 t v)
  (h:DataW.Trod enc P w base (λ_=>true) held t v d ps) (hd:S d):qyV N w τ v:=by
 obtain ⟨fuel,hf⟩:=h;unfold qHZ at hτ;split at hτ
 ·rename_i cs hc;have hall:=qkL hl hS 10 t cs hc hok fuel _ _ hd hf;split at hτ
  ·rename_i ha;cases hτ;obtain ⟨y,us,hy,hu,hr⟩:=qyi cs _ hall;have hv:∃c,v=.agg c:=by
    unfold q8 at ha;unfold Value.okWide at hval;split at ha
    ·rename_i fs hfs;rw [hfs]at hval;obtain ⟨c,hc,_⟩:=hval;exact ⟨c,hc⟩
    ·rename_i n e hfs;rw [hfs]at hval;obtain ⟨c,hc,_⟩:=hval;exact ⟨c,hc⟩
    ·cases ha
   obtain ⟨c,rfl⟩:=hv;refine ⟨y,.agg us,hy,hu,?_⟩;simp only [Rep];exact ⟨c.toList,by simp,by simpa [Value.cells]using hr⟩
  ·rename_i ha
   match cs,hτ,hall with
   |τ'::cs',hτ,hall =>
    simp only [List.head?_cons,qb]at hτ;subst hτ;have hone:=qhs 10 t _ hc τ' (by simp);have hv:v.cells.toList=[v]:=by
     cases v with
     |agg c =>
      exfalso
      unfold q8 at ha;unfold Value.okWide at hval;split at hval
      ·rename_i fs hfs;rw [hfs]at ha;simp at ha
      ·rename_i n e hfs;rw [hfs]at ha;simp at ha
      ·unfold Cell.okWide Cell.ok at hval;split at hval;all_goals first|(rename_i h1 h2;cases h2;done)|skip
       all_goals (split at hval<;>first|(exact hval.elim)|(rename_i h1 h2;cases h2))
     |_=>rfl
    rw [hv]at hall;cases hall with
    |cons h1 h2=>exact h1
 ·cases hτ
theorem qwI(hl:laidOutB P=true){N:Nat}{S:DataW H->Prop}(hS:Sm N S){b0:Nat}:∀(ts:List TypeId) (τs:List Ty) (vs:List Value) (ds:List (DataW H)) (ps:List MemPlace),ts.mapM (qHZ P)=some τs->ts.all (okT P 10)=true ->
  (∀(j:Nat) t v,ts[j]?=some t->vs[j]?=some v->Value.okWide P w .any b0 t v)->DataW.TrodAll enc P w base (λ_=>true) held ts vs ds ps->(∀d∈ds,S d) ->
  ∃x us,qIf N τs x/\RVL (qhm (τs.map .ty) x) us/\RepL w (cx0 w) us vs []
 |[],τs,vs,ds,ps,hm,_,_,h,_=>by
  simp at hm;subst hm;obtain ⟨rfl,_,_⟩:=trodAll_nil h;exact ⟨(),[],trivial,qaU,by simp [RepL]⟩
 |t::ts,τs,vs,ds,ps,hm,hok,hval,h,hd=>by
  simp only [List.mapM_cons,Option.bind_eq_bind,qd]at hm;obtain ⟨τ,hτ,τs',hm',he⟩:=hm;cases he;simp only [List.all_cons,qe]at hok;obtain ⟨v,vs',d,ds',p,q,rfl,rfl,rfl,h1,h2⟩:=trodAll_cons h;obtain ⟨y,u,hy,hu,hr⟩:=qFq hl hS hτ hok.1 (hval 0 t v rfl rfl) h1 (hd d (by simp));obtain ⟨x,us,hx,hus,hrs⟩:=qwI hl hS ts τs' vs' ds' q hm' hok.2 (λj t' v' a b=>hval (j+1) t' v' (by simpa using a) (by simpa using b)) h2 λd' hd'=>hd d' (by simp [hd']);have hR:RepL w (cx0 w) (u::us) (v::vs') []:=by simp only [RepL];exact ⟨v,vs',[],[],rfl,rfl,hr,hrs⟩
  cases τs' with
  |nil=>exact ⟨y,u::us,hy,(qC.2 ⟨rv_ofTy _ _ _ _ hu,hus⟩:RVL (ofTy τ 1000 y::[]) (u::us)),hR⟩
  |cons τ2 τs2=>exact ⟨(y,x),u::us,⟨hy,hx⟩,(qC.2 ⟨rv_ofTy _ _ _ _ hu,hus⟩:RVL (ofTy τ 1000 y::qhm ((τ2::τs2).map .ty) x) (u::us)),hR⟩
theorem qnH(hl:laidOutB P=true){W W':World}(hb:Below W.heap.size W W'):∀{ts:List TypeId} {vs:List Value} {ds:List (DataW H)} {ps:List MemPlace},ts.all (λt=>P.readableRec t&&decide (t<P.types.size))=true ->
  DataW.TrodAll enc P W 0 (λ_=>true) true ts vs ds ps->(∀x∈ps,x.block<W.heap.size)->∀sp:Nat->Bool,(∀p∈ps,sp p.block=true)->DataW.TrodAll enc P W' 0 sp true ts vs ds ps
 |[],[],[],ps,_,h,_,sp,_=>h
 |t::ts,v::vs,d::ds,ps,hr,⟨p,q,h1,h2,e⟩,hlt,sp,hsp=>by
  simp only [List.all_cons,qe,decide_eq_true_eq]at hr;subst e;refine ⟨p,q,?_,qnH hl hb hr.2 h2 (λx hx=>hlt x (List.mem_append_right _ hx)) sp (λx hx=>hsp x (List.mem_append_right _ hx)),rfl⟩;exact WideElems.Trod_stays hl hr.1.1 hr.1.2 h1 (λx hx=>hb.same (hlt x (List.mem_append_left _ hx))) (λx hx=>hsp x (List.mem_append_left _ hx))
theorem qJB{w:World}:LRel [] w (cx0 w) (λ_=>[]) where
 box:=λr c h=>by simp [qcl]at h
 boxD:=λ_ _=>rfl
 inj:=λr r' b h=>by simp [qcl]at h
 lin:=λ_=>Lin.nil
 dis:=λ_ _ _ b hb=>by cases hb
 ptrB:=λr c h=>by simp [qcl]at h
 up:=λr c h=>by simp [qcl]at h
 dom:=λb e fz h=>(frozen0 h).2.1
theorem qCI{H0:Hints}{lib:FuncId->Option (List V->Option V)}(hm:P.follows .mixedOrders=true)(qeW:qmq P H0)
  (qAE:∀g h args r,lib g=some h->h args=some r->qbD P g args [] r []) (hl:laidOutB P=true) {N:Nat} {S:DataW H->Prop} (hS:Sm N S) {k:FuncId} {fn:Func} (hfn:P.funcs[k]?=some fn) (hbody:fn.body.isSome=true)
  {ts:List TypeId} {τs:List Ty} (hts:ts.mapM (qHZ P)=some τs) (hok:ts.all (okT P 10)=true) {F:denP (τs.map .ty)->Option Bool}
  (he:qce P H0 lib ⟨k,τs.map .ty,[(.bool,0)],F⟩) (hF:∀x,qIf N τs x->F x=some true)
  {W:World} {args:Array Value} {ds:List (DataW H)} {ps:List MemPlace} {b0:Nat} (hval:∀(j:Nat) t v,ts[j]?=some t->args.toList[j]?=some v->Value.okWide P W .any b0 t v)
  (h:DataW.TrodAll enc P W 0 (λ_=>true) true ts args.toList ds ps) (hd:∀d∈ds,S d) (hgl:qjA W (cx0 W)) :
  Calls P k args W λe W'=>e=.returned (.bool true)/\Below W.heap.size W W':=by
 obtain ⟨x,us,hx,hus,hrs⟩:=qwI hl hS ts τs args.toList ds ps hts hok hval h hd;obtain ⟨v,hcall,hr⟩:=qAu hm qeW qAE he (x:=x) (y:=true) (hF x hx) hus;simp only [qlb,ofL,qck,ofTy,RV,RTy]at hr;subst hr;have hp:ptrsL us=[]:=by
  apply List.eq_nil_iff_forall_not_mem.2;intro q hq;have hk:∀(τs:List Ty) (x:denP (τs.map .ty)),ptrsTL (qhm (τs.map .ty) x)=[]:=by
   have h1:∀(τ:Ty) (y:τ.den),(ofTy τ 1000 y).qv=[]/\ptrsTL (ofTyC τ 1000 y)=[]:=by
    intro τ;induction τ with
    |pair a b iha ihb=>intro y;simp [ofTy,ofTyC,TV.qv,ptrsTL,(iha y.1).1,(ihb y.2).2]
    |_=>intro y;simp [ofTy,ofTyC,TV.qv,ptrsTL]
   intro τs;induction τs with
   |nil=>intro x;rfl
   |cons τ τs ih =>
    intro x;cases τs with
    |nil=>show ptrsTL [ofTy τ 1000 x]=[];simp [ptrsTL,(h1 τ x).1]
    |cons τ2 τs2=>show ptrsTL (ofTy τ 1000 x.1::qhm ((τ2::τs2).map .ty) x.2)=[];simp only [ptrsTL,(h1 τ x.1).1,List.nil_append];exact ih x.2
  have:=RVL.qv _ _ hus q hq;rw [hk]at this;cases this
 rcases hcall W (cx0 W) args.toList (λ_=>[]) hrs hgl qJB (λq hq=>by rw [hp]at hq;cases hq) (λ_ b e fz h=>(frozen0 h).1)with ⟨_,hc⟩|⟨_,v,w',hv,_⟩
 ·refine (by simpa using hc:Calls P k args W _).mono ?_;rintro e W' ⟨v,rfl,X',O',Or,hrep,_,_,_,_,_,_,haft⟩;simp only [Rep]at hrep;obtain ⟨rfl,_⟩:=hrep;refine ⟨rfl,⟨haft.os,haft.tape,haft.out,haft.size,λb hb=>?_⟩⟩;exact (haft.kept b hb (by rintro (⟨r,h1,_⟩|⟨r,h1⟩)<;>simp [qcl]at h1)).1
 ·exfalso
  have hbs:fn.body.isNone=false:=by cases hb:fn.body<;>simp_all
  simp only [callFunc,Sem.run_bind,run_program,Result.andThen_ok,hfn,qeW.1 k fn hfn hbody,hbs,qf,if_false,Sem.run_pure]at hv;cases hv
end
end Go.Tx
end
section
namespace Go.Proofs.YteiciemjanhdcaaGreatDoor.Hn
open Go
def qJT:List (List Nat):=[[],[],[],[],[],[],[],[86,96,98,110,115,121,135,141,143,151,157,159,167,170,175,178,184,191,198,200,251,262,265,271,273,276,280],[],[],[],[13,28,32,37,41,42,47],[],[],[],[12,24],[],[],[],[],[15,30,38,44,46,50,55,59],[],[],[],[13],[],[],[],[],[],[],[],[],[],[],[],[],[],[],[],[],[],[],[],[],[],[12,13,18],[11,19],[15,16,18,20,22,23,30],[],[],[],[],[],[5,10],[8],[8],[],[17],[8,17],[11],[14,21,22,36,37],[],[10,18,50,52],[],[],[],[],[10,16],[13],[6],[],[37],[18,19,24,25,30,31,36,39,43,46,47,48],[13],[],[],[11],[17,48,59],[],[],[],[],[],[9],[],[],[],[],[],[],[],[],[],[],[],[],[],[],[],[],[],[],[],[],[],[],[],[],[],[],[],[],[],[],[],[],[],[],[],[],[],[],[],[],[5,10],[],[],[],[26,45],[],[],[51,55,56,59],[38,54,73,83,93,95],[12],[18,44],[],[23],[33,43,53,71],[15,22],[],[],[27,28,55,70],[26,29,36],[],[],[],[15,23,29,32],[],[48,58,64,77],[],[],[8,14],[],[],[],[],[],[],[17],[8,12],[16],[],[],[],[],[],[],[],[],[],[],[],[],[],[],[],[],[],[],[],[],[],[],[],[],[],[],[21,31,37,44,45],[],[29,39,40,43],[],[],[16,23,31,32,35],[],[],[],[17,20,33],[],[],[],[],[],[],[],[],[27],[],[17],[],[],[],[],[],[],[],[],[],[],[],[],[],[],[],[],[],[],[],[],[],[],[],[],[],[],[],[],[15,27,40,44],[14],[],[],[25,26],[],[20,26],[],[],[],[],[],[],[],[],[],[],[],[],[],[],[],[],[],[],[],[],[],[24,39,43,60,64,76,78,82,87,99,103,108,113]]
def qIq:List (List (Nat×List Nat)):=[[],[],[],[],[],[],[],[(0,[9,10,13,22,79,80,81,82,83,84,85,86,87,88,89,90,91,92,93,94,95,96,97,98,99,100,101,102,103,104,105,106,107,108,109,110,111]),(2,[9,13,25,214,215,216,217,218,219,220,221,222,223,224,225,226,227,228,229,230,231,232,233,234,235,236,237,238,239,240,241,242,243,244,245,246,247,248,249,250])],[],[],[],[(0,[31,32,33,34,35,36,37,38,39,40,41,42,43,44,45,46])],[],[],[],[(0,[5,9,10,11,12,13,14,15,16,17,18,19,20,21,22,23])],[(0,[11,12,13,14,15,16,17,18,19,20,21,22,23,24,25])],[(0,[10,11,12,13,14,15,16,17,18,19,20,21])],[],[],[(0,[13,14,31,32,33,34,35,36,37,38,39,40,41,42,43,44,45,46,47,48,49,50,51,52,53,54,55,56,57,58,59])],[],[],[],[],[],[],[],[],[],[],[],[],[],[],[],[],[],[],[],[],[],[],[],[],[],[(0,[5,9,10,11,12,13,14,15,16,17])],[(0,[5,6,7,8,9,10,11,12,13,14,15,16,17,18])],[],[],[],[],[],[(0,[11,12,13,14,15,16,17,18,19,20,21,22,23,24,25,26])],[],[],[],[],[],[],[],[],[],[],[],[],[],[],[],[(0,[4,8,9,10,11,12,13,14])],[],[],[(0,[9,10,18,19,20,21,22,23,24,25,26,27,28,29,30,31])],[],[],[],[],[],[(0,[7,8,9,10,14,15,16,17,18,19,20,21,22,23,24,25,26,27,28,29,30,31,32,33,34,35,36,37,38,39,40,41,42,43,44,45,46,47,48,49,50,51,52,53,54,55,56,57,58]),(2,[7,9,10,20,21,22,23,24,25,26,27,28,29,30,31,32,33,34,35,36,37,38,39,40,41,42,43,44,45,46,47])],[],[],[],[],[],[],[],[],[],[],[],[],[],[],[],[],[],[],[],[],[],[],[],[],[],[],[],[],[],[],[],[],[],[],[],[],[],[],[],[],[],[],[],[],[],[],[],[],[],[],[(0,[5,12,13,14,15,16,17,18,19,20,21,22,23,24,25,26,27,28,29,30,31,32,33,34,35,36,37,38,39,40,41,42,43,44,45]),(2,[27,28,29,30,31,32,33,34,35,36,37,38,39,40,41,42,43,44,45])],[(0,[5,10,11,12,13,14,15,16,17,18,19,20,21,22,23,24,25,26,27,28,29,30,31,32,33,34,35])],[(0,[4,5,6,24,25,26,27,28,29,30,31,32,33,34,35,36,37,38,39,40,41,42,43,44,45,46,47,48,49,50,51,52,53,54,55,56,57,58,59,60,61,62,63,64,65,66,67,68,69,70,71,72,73,74,75,76,77,78,79,80,81,82,83]),(2,[64,65,66,67,68,69,70,71,72,73,74,75,76,77,78,79,80,81,82,83])],[(0,[7,8,9,10,11,12,13,14,15,16,17,18,19,20,21,22,23,24,25,26,27,28,29,30,31,32,33,34,35,36,37,38,39,40,41,42,43,44,45,46,47,48,49,50,51,52,53,54,55,56,57,58]),(2,[9,10,19,20,21,22,23,24,25,26,27,28,29,30,31,32,33,34,35,36,37,38,39,40,41,42,43,44,45,46,47,48,49,50,51,52,53,54]),(4,[27,28,29,30,31,32,33,34,35,36,37,38,39,40,41,42,43,44,45,46,47,48,49,50])],[(0,[7,8,9,10,48,49,50,51,52,53,54,55,56,57,58,59,60,61,62,63,64,65,66,67,68,69,70,71,72,73,74,75,76,77,78,79,80,81,82,83,84,85,86,87,88])],[],[(0,[7,9,10,15,16,17,18,19,20,21,22,23,24,25,26,27,28,29,30,31,32]),(2,[7,9,10,21,22,23,24,25,26,27,28,29,30,31])],[],[(0,[4,5,13,14,15,16,17,18,19,20,21,22,23,24,25,26,27,28,29,30,31,32])],[(0,[7,10,29,30,31,32,33,34,35,36,37,38,39,40]),(2,[7,10,12,50,51,52,53,54,55,56,57,58,59,60,61,62,63,64,65,66,67,68,69,70]),(4,[7,10,12,56,57,58,59,60,61,62,63,64,65,66,67,68,69])],[(0,[6,7,11,12,13,14,15,16,17,18,19,20,21,22,23])],[],[],[],[(0,[8,9,15,16,17,18,19,20,21,22,23,24,25,26,27,28,29,30,31,32,33,34,35]),(2,[9,19,20,21,22,23,24,25,26,27,28,29,30,31,32,33,34])],[],[],[],[(0,[4,5,6,7,11,12,13,14,15,16,17,18,19,20,21,22,23,24,25,26,27,28,29,30,31]),(2,[5,7,18,19,20,21,22,23,24,25,26,27])],[],[(0,[8,9,10,13,14,16,25,26,27,28,29,30,31,32,33,34,35,36,37,38]),(2,[9,13,14,15,16,45,46,47,48,49,50,51,52,53,54,55,56,57,58,59,60,61,62,63,64,65,66,67,68,69,70,71,72,73,74,75,76]),(4,[9,13,15,16,51,52,53,54,55,56,57,58,59,60,61,62,63])],[],[],[],[],[],[],[],[],[],[(0,[5,9,10,11,12,13,14,15,16,17,18])],[],[(0,[4,5,9,10,11,12,13,14,15,16,17,18,19,20,21,22])],[],[],[],[],[],[],[],[],[],[],[],[],[],[],[],[],[],[],[],[],[],[],[],[],[],[],[(0,[5,6,7,8,25,26,27,28,29,30,31,32,33,34,35,36,37,38,39,40,41,42,43,44,45,46])],[],[(0,[9,10,11,12,13,14,15,16,17,18,19,20,21,22,23,24,25,26,27,28,29,30,31,32,33,34,35,36,37,38,39,40,41,42]),(2,[20,21,22,23,24,25,26,27,28,29,30,31,32,33,34,35,36,37,38])],[],[],[(0,[5,6,8,12,13,14,15,16,17,18,19,20,21,22]),(2,[5,8,28,29,30,31,32,33,34])],[],[],[],[(0,[8,9,13,14,15,16,17,18,19,20,21,22,23,24,25,26,27,28,29,30,31,32])],[(0,[5,9,10,11,12,13,14,15,16,17,18]),(2,[12,13,14,15,16,17])],[],[(0,[8,12,13,14,15,16,17,18,19,20,21,22,23,24,25])],[(0,[5,14,15,16,17,18,19,20,21,22,23,24,25])],[],[],[],[],[],[],[(0,[5,9,10,11,12,13,14,15,16,17,18])],[],[],[],[],[],[],[],[],[],[],[],[],[],[],[],[],[],[],[],[],[],[],[],[],[],[],[],[],[(0,[5,6,12,13,14,15,16,17,18,19,20,21,22,23,24,25,26,27,28]),(2,[7,8,29,30,31,32,33,34,35,36,37,38,39,40,41,42,43,44,45,46,47,48])],[],[],[],[],[],[(0,[8,9,14,15,16,17,18,19,20,21,22,23,24,25,26,27,28,29,30,31,32,33])]]
def qJy:List (List Nat):=[[],[],[],[],[],[],[],[108,111],[],[],[],[],[],[],[],[],[],[],[],[],[],[],[],[],[],[],[],[],[],[],[],[],[],[],[],[],[],[],[],[],[],[],[],[],[],[],[],[],[],[],[],[],[],[],[],[],[],[],[],[],[],[],[],[],[],[],[],[],[],[],[],[],[22,30],[],[],[],[],[],[],[],[],[],[],[],[],[],[],[],[],[],[],[],[],[],[],[],[],[],[],[],[],[],[],[],[],[],[],[],[],[],[],[],[],[],[],[],[],[],[],[],[],[],[],[],[],[],[],[],[],[],[],[],[],[],[],[],[],[],[],[],[],[],[],[21,23,25,26,33],[],[],[],[],[],[29,37]]
def qFx:List Nat:=[80,86,164,193,218,235,241,264]
def qJH:List Nat:=[143,205,242]
def qJD:List Nat:=[]
def qEt:List Nat:=[]
def qIc:List (Nat×List (Nat×List Nat)):=[]
def qIv:List Nat:=[160]
def qJd(f:Nat):Option (List Int->Option (List Int)):=none
def qJ3(f:Nat):Option Nat:=if f=124 then some 237 else none
def qIW:List (List (Nat×List (Nat×Nat))):=[[],[],[],[],[],[],[],[(9,[(1,3),(1,6)]),(24,[(1,2)]),(31,[(1,3)]),(39,[(1,6),(4,6),(1,9),(4,9),(1,11),(4,11),(6,11),(9,11),(10,11)]),(42,[(0,5),(1,5),(3,5)]),(43,[(0,5),(1,5),(3,5)]),(44,[(18,20)])],[],[],[],[],[(1,[(1,4),(2,4)])],[],[],[(5,[(2,6),(3,6)])],[(6,[(3,7)])],[],[],[],[],[],[],[],[],[],[],[],[],[],[],[],[],[],[],[],[],[],[],[],[],[],[],[],[],[],[],[],[],[],[],[],[],[(6,[(3,7)])],[],[],[],[(1,[(1,4),(2,4)])],[],[(5,[(1,3),(1,6),(3,6),(4,6)])],[],[(7,[(2,8),(3,8),(6,8)])],[(1,[(1,3),(1,4)])],[(5,[(1,7),(3,7),(5,7),(1,10),(3,10),(5,10),(7,10),(1,15),(3,15),(5,15),(7,15),(10,15),(11,15),(1,17),(3,17),(5,17),(7,17),(10,17),(11,17),(15,17),(16,17),(1,18),(3,18),(5,18),(7,18),(10,18),(11,18),(15,18),(16,18),(17,18)])],[],[],[],[],[(2,[(0,4),(0,6),(0,9),(4,9),(6,9),(0,11),(0,13)])],[],[],[],[(5,[(5,6)])],[],[],[],[],[],[(9,[(2,5),(2,12),(5,12),(2,18),(5,18),(12,18)])],[],[],[],[(1,[(1,3),(1,5),(3,5),(4,5)])],[],[],[],[],[],[],[],[],[],[],[],[],[],[],[],[],[],[],[],[],[],[],[],[],[],[],[],[],[],[],[],[],[],[],[],[],[],[],[],[],[],[],[],[],[],[],[],[(7,[(2,8),(5,8),(2,9),(5,9),(2,11),(5,11),(8,11),(9,11),(10,11)])],[(8,[(1,6),(4,6),(1,9),(4,9)])],[(13,[(0,4),(0,7),(0,11),(4,11),(7,11),(0,14),(4,14),(7,14),(0,15),(4,15),(7,15),(0,16)])],[(1,[(6,9),(1,15),(6,15),(9,15),(13,15)]),(16,[(0,1),(0,2),(1,2),(0,5),(1,5),(1,6)])],[(2,[(1,2),(1,3)])],[(11,[(0,2),(0,4)])],[(1,[(0,2),(0,4)])],[],[(1,[(1,5),(2,5),(3,5)])],[],[],[(1,[(0,2),(0,4)])],[(1,[(1,4),(2,4),(1,7),(2,7),(4,7),(5,7),(1,10),(2,10),(4,10),(5,10),(7,10)]),(6,[(6,8),(2,15),(6,15),(8,15),(10,15),(13,15),(2,17),(6,17),(8,17),(10,17),(13,17),(15,17),(2,26),(6,26),(8,26),(10,26),(13,26),(15,26),(17,26),(18,26),(21,26),(24,26)])],[(8,[(5,9)])],[(1,[(0,4),(3,4)])],[],[],[],[],[(5,[(2,6)]),(16,[(0,1),(0,5),(1,5),(0,6)]),(18,[(3,7),(4,7)])],[],[],[],[],[],[],[],[],[],[],[],[(3,[(1,2),(1,5)])],[],[],[],[],[],[],[],[],[],[],[],[],[],[],[],[],[],[],[],[],[],[],[],[],[],[],[],[],[],[],[],[],[],[(2,[(2,6),(3,6)])],[(1,[(0,5),(3,5),(4,5),(0,8),(3,8),(4,8),(5,8),(6,8),(7,8)])],[],[],[(1,[(0,8),(3,8),(7,8),(0,10),(3,10),(7,10),(8,10),(0,13),(3,13),(7,13),(8,13),(0,17),(3,17),(7,17),(8,17),(0,18),(3,18),(7,18),(8,18),(10,18),(13,18),(17,18)])],[(5,[(0,1),(0,4),(0,5),(1,5),(4,5),(0,8),(0,9)])],[(6,[(3,7)])],[],[(1,[(0,4),(3,4)])],[],[(1,[(4,8),(4,12),(8,12),(4,17),(8,17),(12,17),(14,17),(4,22),(8,22),(12,22),(14,22),(17,22)])],[],[],[],[],[],[],[],[],[],[],[],[],[],[],[],[],[],[],[],[],[],[],[],[],[],[],[],[],[],[],[],[],[],[],[],[],[],[(5,[(0,1),(0,4),(0,7),(0,11),(1,11),(4,11),(7,11),(0,12),(1,12),(4,12),(7,12),(0,13)])]]
def qIG:List (Nat×List (Nat×Nat))->Nat->List (Nat×Nat)
 |[],_=>[]
 |(k,c)::l,b=>if k=b then c else qIG l b
def look:List (Nat×List Nat)->Nat->List Nat
 |[],_=>[]
 |(k,c)::l,b=>if k=b then c else look l b
def qIE:List (Nat×List (Nat×List Nat))->Nat->List (Nat×List Nat)
 |[],_=>[]
 |(k,c)::l,b=>if k=b then c else qIE l b
def hints:Ab.Hints:={
 take:=λf t=>(qJT.getD f []).contains t
 clear:=λf b=>look (qIq.getD f []) b
 precise:=λf=>qFx.contains f
 pairs:=λf b=>qIG (qIW.getD f []) b
 link:=λf t=>(qJy.getD f []).contains t
 qlu:=λf=>qJH.contains f
 mapT:=λt=>qJD.contains t
 born:=λf=>qEt.contains f
 turn:=qJd
 seq:=qJ3
 qfv:=λf=>qIv.contains f
 pre:=λf b=>look (qIE qIc f) b}
end Go.Proofs.YteiciemjanhdcaaGreatDoor.Hn
end
section
namespace Go.Ab
open Go
section
variable {P:Program}
def qyw:Value->Value->Bool
 |.int k n,.int k' n'=>decide (k=k')&&decide (n=n')
 |.bool b,.bool b'=>b==b'
 |.slice none 0 0,.slice none 0 0=>true
 |.string s,.string s'=>decide (s.data.toList=s'.data.toList)
 |_,_=>false
mutual
def V.same:V->V->Bool
 |.val a,.val b=>qyw a b
 |.sl f c l,.sl f' c' l'=>decide (f=f')&&c==c'&&sameL l l'
 |.agg l,.agg l'=>sameL l l'
 |.tuple l,.tuple l'=>sameL l l'
 |_,_=>false
def sameL:List V->List V->Bool
 |[],[]=>true
 |x::l,y::l'=>x.same y&&sameL l l'
 |_,_=>false
end
theorem qBi{a b:Value}(h:qyw a b=true):a=b:=by
 unfold qyw at h;split at h
 ·simp_all
 ·simp_all
 ·rfl
 ·rename_i s s';have h1:=of_decide_eq_true h;obtain ⟨⟨l⟩⟩:=s;obtain ⟨⟨l'⟩⟩:=s';simp only at h1;rw [h1]
 ·cases h
mutual
theorem same_eq:∀(x y:V),x.same y=true->x=y
 |.val a,y,h=>by cases y<;>simp only [V.same]at h<;>first|(rw [qBi h])|cases h
 |.sl f c l,y,h=>by
  cases y<;>simp only [V.same]at h<;>try (cases h;done)
  simp only [qe,decide_eq_true_eq,beq_iff_eq]at h;rw [h.1.1,h.1.2,sameL_eq _ _ h.2]
 |.agg l,y,h=>by
  cases y<;>simp only [V.same]at h<;>try (cases h;done)
  rw [sameL_eq _ _ h]
 |.tuple l,y,h=>by
  cases y<;>simp only [V.same]at h<;>try (cases h;done)
  rw [sameL_eq _ _ h]
 |.undef,y,h|.ptr ..,y,h|.cptr ..,y,h|.fn ..,y,h|.yld _,y,h|.mref _,y,h|.bsl ..,y,h|.mp _,y,h|.iface ..,y,h|.lp ..,y,h|.room ..,y,h=>by cases y<;>simp [V.same]at h
theorem sameL_eq:∀(l m:List V),sameL l m=true->l=m
 |[],[],_=>rfl
 |[],y::m,h=>by simp [sameL]at h
 |x::l,[],h=>by simp [sameL]at h
 |x::l,y::m,h=>by
  simp only [sameL,qe]at h;rw [same_eq x y h.1,sameL_eq l m h.2]
end
structure Ran where
 g:FuncId
 args:List V
 r:V
def qHn(t:List Ran)(g:FuncId):Option (List V->Option V) :=
 if t.any (λe=>decide (e.g=g))then some (λargs=>(t.find? λe=>decide (e.g=g)&&sameL e.args args).map (·.r))else none
theorem qE1{t:List Ran}(h:∀e∈t,qbD P e.g e.args [] e.r []):∀g f args r,qHn t g=some f->f args=some r->qbD P g args [] r []:=by
 intro g f args r hf hr;unfold qHn at hf;split at hf
 ·cases hf;obtain ⟨e,he,rfl⟩:=qc.1 hr;have h1:=List.find?_some he;simp only [qe,decide_eq_true_eq]at h1;rw [<- h1.1,<- sameL_eq _ _ h1.2];exact h e (List.mem_of_find?_eq_some he)
 ·cases hf
theorem qDm{H:Hints}(hm:P.follows .mixedOrders=true)(qeW:qmq P H){t:List Ran}(ht:∀e∈t,qbD P e.g e.args [] e.r [])(n:Nat)(e:Ran)
  (h:(match (qvn P H (qHn t) n).call e.g e.args []with|some (r,[])=>r.same e.r|_=>false)=true):qbD P e.g e.args [] e.r []:=by
 split at h
 ·rename_i r hr;rw [<- same_eq _ _ h];exact (qyh hm qeW (qE1 ht) n).call _ _ _ _ _ hr
 ·cases h
end
end Go.Ab
end
section
namespace Go.Ab
open Go Go.RowKit Go.Shelf Go.Proofs
section
variable {P:Program}
theorem qE6{w w':World}{X:Cx}{O:Root->List Nat}(h:LRel [] w X O)(hs:w.heap.size<=w'.heap.size):LRel [] w' X O :=
 {
  box:=λr c hc=>by simp [qcl]at hc,boxD:=h.boxD,inj:=λr r' b h1=>by simp [qcl]at h1,lin:=h.lin,dis:=h.dis,ptrB:=λr c hc=>by simp [qcl]at hc,up:=λr c hc=>by simp [qcl]at hc,
  dom:=λb e fz hω=>Nat.lt_of_lt_of_le (h.dom b e fz hω) hs}
theorem qgK{g:FuncId}{args:List V}{r:V}(hp:r.qv=[])(h:∀(w:World) (X:Cx) (vals:List Value),RepL w X args vals []->qjA w X->Dom w X ->
  (callFunc g vals.toArray).run P w=.ok (.enter g vals.toArray) w/\Calls P g vals.toArray w λe w'=>∃v,e=.returned v/\(∀X',Rep w' X' r v [])/\Below w.heap.size w w'):qbD P g args [] r []:=by
 intro w X vals O h1 h2 h3 _ _;obtain ⟨h4,h5⟩:=h w X vals h1 h2 h3.dom;refine .inl ⟨h4,h5.mono ?_⟩;rintro e w' ⟨v,rfl,hr,hb⟩;refine ⟨v,rfl,X,O,[],hr X,qE6 h3 hb.size,Lin.nil,λ_ _ hb=>absurd hb (by simp),λq hq=>absurd hq (by rw [hp];simp),rfl,λ_=>rfl,⟨hb.size,λb hb' _=>⟨hb.block b hb',rfl⟩,λb e fz hω=>⟨e,fz,hω,Nat.le_refl _,λh=>h,λi v _ hc=>?_⟩,λ_ _=>rfl,?_,hb.os,hb.output,hb.tape⟩⟩
 ·rw [cell_of_heap (hb.block b (h3.dom b e fz hω))];exact hc
 ·rintro b (hb|⟨q,hb⟩)
  ·exact absurd hb (by simp)
  ·exact .inr (.inr ⟨q,hb⟩)
theorem enters {g : FuncId} {fn : Func} (hfn : P.funcs[g]? = some fn) (hb : fn.body.isSome = true) (hn : (fn.name == "runtime.NumGoroutine") = false) (args : Array Value) (w : World) : (callFunc g args).run P w = .ok (.enter g args) w := by
 have hbs:fn.body.isNone=false:=by cases h:fn.body<;>simp_all
 simp only [callFunc,Sem.run_bind,run_program,Result.andThen_ok,hfn,hn,hbs,qf,if_false,Sem.run_pure]
def Enters(P:Program)(g:FuncId):Prop:=∀(args:Array Value) (w:World),(callFunc g args).run P w=.ok (.enter g args) w
theorem qAk(w:World)(k:Nat)(os:Array Obj):Below w.heap.size w (Sort.grow (w.drewN k) os):=by
 have hh:∀k (w:World),(w.drewN k).heap=w.heap/\(w.drewN k).os=w.os/\(w.drewN k).output=w.output/\(w.drewN k).tape=w.tape:=λk w=>⟨rfl,rfl,rfl,rfl⟩
 obtain ⟨h1,h2,h3,h4⟩:=hh k w;refine ⟨h2,h4,h3,?_,λi hi=>?_⟩
 ·show w.heap.size<=((w.drewN k).heap++os).size;rw [h1];simp
 ·show ((w.drewN k).heap++os)[i]?=_;rw [h1,Array.getElem?_append_left hi]
theorem qJa{w:World}{X:Cx}(h:qjA w X){b:Nat}{arr:Array Value}(hm:(b,λa=>a=arr)∈qBA){n:String}(hg:P.globalNamed n=some b):w.var? P n=some arr:=by
 obtain ⟨_,arr',t,fr,h2,h3⟩:=h _ hm;simp only at h2 h3;subst h3;simp only [World.var?,hg,qa,h2]
theorem qBZ{w:World}{X:Cx}(h:qjA w X){b:Nat}{p:Array Value->Prop}(hm:(b,p)∈qBA):∃arr t fr,w.heap[b]?=some (.cells arr t fr)/\p arr:=(h _ hm).2
theorem qHG{w:World}{X:Cx}{u:Value}{v:Value}{O:List Nat}(h:Rep w X (.val u) v O):v=u:=by simp only [Rep]at h;exact h.1
theorem qwX{w:World}{X:Cx}{u:Value}{vs:List Value}{O:List Nat}(h:RepL w X [.val u] vs O):vs=[u]:=by
 simp only [RepL,Rep]at h;obtain ⟨_,_,_,_,rfl,_,⟨rfl,_⟩,rfl,_⟩:=h;rfl
theorem qrV{w:World}{X:Cx}{u u2:Value}{vs:List Value}{O:List Nat}(h:RepL w X [.val u,.val u2] vs O):vs=[u,u2]:=by
 simp only [RepL,Rep]at h;obtain ⟨_,_,_,_,rfl,_,⟨rfl,_⟩,_,_,_,_,rfl,_,⟨rfl,_⟩,rfl,_⟩:=h;rfl
theorem qi9{w:World}{X:Cx}(u:Value):Rep w X (.val u) u []:=by simp [Rep]
theorem quX{w:World}{X:Cx}{x y:V}{u v:Value}(h1:Rep w X x u [])(h2:Rep w X y v []):Rep w X (.tuple [x,y]) (.tuple #[u,v]) []:=by
 simp only [Rep,RepL];exact ⟨[u,v],rfl,u,[v],[],[],rfl,rfl,h1,v,[],[],[],rfl,rfl,h2,rfl,rfl⟩
theorem qFH{w:World}{X:Cx}{x y z:V}{u v q:Value}(h1:Rep w X x u [])(h2:Rep w X y v [])(h3:Rep w X z q []):Rep w X (.tuple [x,y,z]) (.tuple #[u,v,q]) []:=by
 simp only [Rep,RepL];exact ⟨[u,v,q],rfl,u,[v,q],[],[],rfl,rfl,h1,v,[q],[],[],rfl,rfl,h2,q,[],[],[],rfl,rfl,h3,rfl,rfl⟩
theorem qDw{w:World}{X:Cx}(t:TypeId)(u:Value):Rep w X (.iface t .undef) (.iface t u) []:=by
 simp only [Rep];exact ⟨u,rfl,trivial⟩
theorem qHk {ρ : Ren} (L : LaysM.n171 P ρ) (hen : Enters P (ρ.f 171)) (htab : ∀ (w : World) (X : Cx), qjA w X -> Lib.TabIs P w "internal/strconv.uint64pow10" .u64 Lib.pow10Tab) (n : Int) (h0 : -9223372036854775808 <= n) (h1 : n <= 9223372036854775807) :
  qbD P (ρ.f 171) [.val (.int .i64 n)] [] (.val (.string ⟨(Lib.itoa n).toArray⟩)) []:=by
 refine qgK rfl λw X vals hr hg _=>?_;obtain rfl:=qwX hr;refine ⟨hen _ _,(Any.strconv_Itoa L n h0 h1 w (htab w X hg)).mono ?_⟩;rintro e w' ⟨rfl,k,os,rfl⟩;exact ⟨_,rfl,λX'=>by simp [Rep],qAk w k os⟩
def qBS(t:TypeId)(s:List UInt8):V:=match Lib.atoiAll s with
 |.ok v=>.tuple [.val (.int .i64 v),.val .nilIface]
 |.range=>.tuple [.val (.int .i64 (Lib.atoiSat s)),.iface t .undef]
 |_=>.tuple [.val (.int .i64 0),.iface t .undef]
theorem qGW{ρ:Ren}(L:LaysC.n172 P ρ)(hen:Enters P (ρ.f 172))(h15:∀(w:World) (X:Cx),qjA w X->∃ev,w.cell? ⟨ρ.g 15,0,none⟩=some ev/\(ev=.nilIface\/∃te pe,ev=.iface te pe))
  (h16:∀(w:World) (X:Cx),qjA w X->∃ev,w.cell? ⟨ρ.g 16,0,none⟩=some ev/\(ev=.nilIface\/∃te pe,ev=.iface te pe)) (s:ByteArray) (hs:s.size<=281474976710656) :
  qbD P (ρ.f 172) [.val (.string s)] [] (qBS (ρ.t 168) s.data.toList) []:=by
 unfold qBS;refine qgK (by split<;>simp [V.qv,ptrsL]) λw X vals hr hg _=>?_;obtain rfl:=qwX hr;refine ⟨hen _ _,?_⟩;cases hc:Lib.atoiAll s.data.toList with
 |ok v =>
  refine (Any.strconv_Atoi_ok L s (by omega) v hc w).mono ?_;rintro e w' ⟨rfl,hw⟩;refine ⟨_,rfl,λX'=>quX (qi9 _) (qi9 _),?_⟩;rcases hw with rfl|⟨t,rfl⟩
  ·exact Below.refl _ _
  ·exact Lib.bytesWorld_below _ _ _
 |range =>
  obtain ⟨ev,h1,h2⟩:=h16 w X hg;refine (Any.strconv_Atoi_range L s hs hc ev w h1 h2).mono ?_;rintro e w' ⟨N,rfl,_,_,hb⟩;exact ⟨_,rfl,λX'=>quX (qi9 _) (qDw _ _),hb⟩
 |_ =>
  obtain ⟨ev,h1,h2⟩:=h15 w X hg;refine (Any.strconv_Atoi_syntax L s hs hc ev w h1 h2).mono ?_;rintro e w' ⟨N,rfl,_,_,hb⟩;exact ⟨_,rfl,λX'=>quX (qi9 _) (qDw _ _),hb⟩
theorem qvi{ρ:Ren}(L:Lays.n101 P ρ)(hen:Enters P (ρ.f 101))(s p:ByteArray):qbD P (ρ.f 101) [.val (.string s),.val (.string p)] [] (.val (.string ⟨(Lib.trimPrefix s.data.toList p.data.toList).toArray⟩)) []:=by
 refine qgK rfl λw X vals hr hg _=>?_;obtain rfl:=qrV hr;refine ⟨hen _ _,(Any.strings_TrimPrefix L s p w).mono ?_⟩;rintro e w' ⟨rfl,rfl⟩;exact ⟨_,rfl,λX'=>by simp [Rep],Below.refl _ _⟩
theorem qEU{ρ:Ren}(L:Lays.n143 P ρ)(hen:Enters P (ρ.f 143))(hm:∀(w:World) (X:Cx),qjA w X->∃m,w.cell? ⟨ρ.g 1,0,none⟩=some (.int .i64 m))(s p:ByteArray)(hs:s.size<4294967281) :
  qbD P (ρ.f 143) [.val (.string s),.val (.string p)] [] (.val (.int .i64 (Lib.index s.data.toList p.data.toList))) []:=by
 refine qgK rfl λw X vals hr hg _=>?_;obtain rfl:=qrV hr;obtain ⟨m,hm⟩:=hm w X hg;refine ⟨hen _ _,(Any.strings_Index L s p m w hs hm).mono ?_⟩;rintro e w' ⟨rfl,rfl⟩;exact ⟨_,rfl,λX'=>by simp [Rep],Below.refl _ _⟩
theorem qIt{ρ:Ren}(L:Lays.n145 P ρ)(hen:Enters P (ρ.f 145))(hm:∀(w:World) (X:Cx),qjA w X->∃m,w.cell? ⟨ρ.g 1,0,none⟩=some (.int .i64 m))(s p:ByteArray)(hs:s.size<4294967281) :
  qbD P (ρ.f 145) [.val (.string s),.val (.string p)] [] (.tuple [.val (.string ⟨(Lib.cut s.data.toList p.data.toList).1.toArray⟩),.val (.string ⟨(Lib.cut s.data.toList p.data.toList).2.1.toArray⟩),.val (.bool (Lib.cut s.data.toList p.data.toList).2.2)]) []:=by
 refine qgK (by simp [V.qv,ptrsL]) λw X vals hr hg _=>?_;obtain rfl:=qrV hr;obtain ⟨m,hm⟩:=hm w X hg;refine ⟨hen _ _,(Any.strings_Cut L s p m w hs hm).mono ?_⟩;rintro e w' ⟨rfl,n,rfl⟩;exact ⟨_,rfl,λX'=>qFH (qi9 _) (qi9 _) (qi9 _),⟨rfl,rfl,rfl,Nat.le_refl _,λ_ _=>rfl⟩⟩
def qix:List V->Option (List (List UInt8))
 |[]=>some []
 |.val (.string s)::l=>(qix l).map (s.data.toList::·)
 |_=>none
theorem qtH{w:World}{X:Cx}:∀{l:List V} {s:Nat} {vals:List Value} {O:List Nat} {xs:List (List UInt8)},qix l=some xs->RepE w X s l vals O->vals=xs.map λx=>.string ⟨x.toArray⟩
 |[],s,vals,O,xs,hb,hr=>by
  simp only [qix,qb]at hb;simp only [RepE]at hr;subst hb;exact hr.1
 |x::l,s,vals,O,xs,hb,hr=>by
  unfold qix at hb;split at hb
  ·rename_i h;cases h
  ·rename_i str l' h;cases h;obtain ⟨xs',hb',rfl⟩:=qc.1 hb;simp only [RepE,Rep]at hr;obtain ⟨u,vs,O1,O2,rfl,hs,rfl,⟨rfl,rfl⟩,hr⟩:=hr;rw [qtH hb' hr];simp [Value.cells]
  ·cases hb
theorem qz0:∀{l:List V} {xs:List (List UInt8)},qix l=some xs->l.length=xs.length
 |[],xs,hb=>by
  simp only [qix,qb]at hb;subst hb;rfl
 |x::l,xs,hb=>by
  unfold qix at hb;split at hb
  ·rename_i h;cases h
  ·rename_i str l' h;cases h;obtain ⟨xs',hb',rfl⟩:=qc.1 hb;simp [qz0 hb']
  ·cases hb
theorem qHl{ρ:Ren}(L:Lays.n156 P ρ)(E:Builder.Extra P ρ)(hen:Enters P (ρ.f 156))(fl:Fl)(c:Bool)(l:List V)(xs:List (List UInt8))(sep:ByteArray)(hl:qix l=some xs)(hN:xs.length<=140737488355328)
  (hlen:(Lib.join xs sep.data.toList).length<=140737488355328):qbD P (ρ.f 156) [.sl fl c l,.val (.string sep)] [] (.val (.string ⟨(Lib.join xs sep.data.toList).toArray⟩)) []:=by
 refine qgK rfl λw X vals hr hg hd=>?_;simp only [RepL]at hr;obtain ⟨u,_,O1,_,rfl,_,h1,u2,_,_,_,rfl,_,h2,rfl,_⟩:=hr;obtain rfl:=qHG h2;refine ⟨hen _ _,?_⟩;simp only [Rep]at h1;rcases h1.2 with ⟨rfl,_,hv⟩|⟨b,off,cap,s,vs,O',rfl,hcap,_,hvl,hs0,hall,hseg,hfl,hE,_⟩
 ·simp only [qix,qb]at hl;subst hl;rcases hv with rfl|⟨_,a,rfl⟩
  ·refine (Any.strings_Join_none L E none 0 sep w).mono ?_;rintro e w' ⟨rfl,rfl⟩;exact ⟨_,rfl,λX'=>by rw [Lib.join_nil];exact qi9 _,Below.refl _ _⟩
  ·refine (Any.strings_Join_none L E (some a) 0 sep w).mono ?_;rintro e w' ⟨rfl,rfl⟩;exact ⟨_,rfl,λX'=>by rw [Lib.join_nil];exact qi9 _,Below.refl _ _⟩
 ·have hlen2:=qz0 hl;have hvs:=qtH hl hE;have hb:b<w.heap.size:=by
   obtain ⟨e,fz,hω,_⟩:=hfl;exact hd b e fz hω
  have hj:=Any.strings_Join L E b off cap (xs.map λx=>⟨x.toArray⟩) sep w (λj x hx=>by
    rw [List.getElem?_map]at hx;obtain ⟨y,hy,rfl⟩:=qc.1 hx;exact hseg j _ (by rw [hvs,List.getElem?_map,hy];rfl)) hb (by simpa using hN) (by rw [List.length_map,<- hlen2];exact hcap) (by simpa [List.map_map,Function.comp_def]using hlen)
  rw [List.length_map,<- hlen2]at hj;refine hj.mono ?_;rintro e w' ⟨rfl,hb⟩;exact ⟨_,rfl,λX'=>by simp [Rep,List.map_map,Function.comp_def],hb⟩
end
end Go.Ab
end
section
namespace Go.Proofs.YteiciemjanhdcaaGreatDoor
open Go Go.Ab Go.RowKit
theorem qu7(s sep:ByteArray)(w:World):Calls Tryz.prog 187 #[.string s,.string sep,.int .i64 0] w λe w' =>
  e=.returned (.func (.func 237) #[] #[.pointer (some ⟨w.heap.size+1,0,none⟩),.pointer (some ⟨w.heap.size,0,none⟩),.pointer (some ⟨w.heap.size+2,0,none⟩)])/\∃t t2 t3,w'=((w.alloc (.cells #[.string s] t)).alloc (.cells #[.string sep] t2)).alloc (.cells #[.int .i64 0] t3):=by
 go_enter Tryz.func187,Tryz.ntmps187
 go_wp2
 go_ret
 exact ⟨by simp,_,_,_,rfl⟩
theorem qtT(s sep:ByteArray)(w:World):Calls Tryz.prog 124 #[.string s,.string sep] w λe w' =>
  e=.returned (.func (.func 237) #[] #[.pointer (some ⟨w.heap.size+1,0,none⟩),.pointer (some ⟨w.heap.size,0,none⟩),.pointer (some ⟨w.heap.size+2,0,none⟩)])/\∃t t2 t3,w'=((w.alloc (.cells #[.string s] t)).alloc (.cells #[.string sep] t2)).alloc (.cells #[.int .i64 0] t3):=by
 go_enter Tryz.func124,Tryz.ntmps124
 go_wp2_with fail
 refine (qu7 s sep w).mono λe w1 ⟨he,hw⟩=>?_;subst he
 go_wp2
 go_ret
 exact ⟨rfl,hw⟩
theorem qKa:qGk Tryz.prog Hn.hints:=λg c h=>by
 simp only [Hn.hints,Hn.qJ3]at h;split at h
 ·rename_i e;subst e;cases h;intro s sep w;exact .inl ⟨enters Tryz.func124 (by kernel_rfl) (by kernel_rfl) _ _,(qtT s sep w).mono λe w' ⟨h1,h2⟩=>⟨_,h1,rfl,h2⟩⟩
 ·cases h
end Go.Proofs.YteiciemjanhdcaaGreatDoor
end
