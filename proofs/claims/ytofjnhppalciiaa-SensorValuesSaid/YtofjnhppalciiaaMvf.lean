/-
  ONE LAW OF A CHAPTER: its program side is run by an interpreter that is proved sound; what it computes is shown to be what the law says. No conditions. Part 6 of 8.
-/
import Derived.Test.YtofjnhppalciiaaMve
import Derived.Deep.Slices
import Derived.Carry
import Derived.ChangeBears2
import Derived.ChangeSame
import Derived.JoinedCond
import Derived.OpenShut
import Derived.ProofKit
set_option linter.unusedSimpArgs false
set_option linter.unusedVariables false
set_option linter.unnecessarySimpa false
section
namespace Go.Tx
open Go Go.Ab
section
variable {P:Program} {H:Hints} {J:TH} {T:qp6} {O:TOrc} {lib:FuncId->Option (List V->Option V)} {f:FuncId} {ctx:List Tmp}
theorem quO(p:Bool)(u:Value):qfP (ofConst p u).cells=false:=by
 have h0:∀u,qfP [qcB p u]=false:=λu=>by
  unfold qcB;split
  ·unfold qef;split<;>rfl
  ·rfl
 have h1:∀u,qfP (qcB p u).cells=false\/(∃cs,u=.agg cs):=λu=>by
  unfold qcB;split
  ·left;unfold qef;split<;>rfl
  ·left;rfl
 by_cases hu:∃cs,u=.agg cs
 ·obtain ⟨cs,rfl⟩:=hu;show qfP (cs.toList.map (qcB p))=false;cases cs.toList with
  |nil=>rfl
  |cons x l=>rw [qh,qfy (m:=[])];exact h0 x
 ·have e:ofConst p u=qcB p u:=by
   unfold ofConst;split
   ·exact absurd ⟨_,rfl⟩ hu
   ·rfl
  rw [e];rcases h1 u with h2|h2
  ·exact h2
  ·exact absurd h2 hu
theorem qlS{c:List V}(h:q3 c=false):q3 (c.map V.qbx)=false:=by
 match c with
 |[]=>rfl
 |x::l =>
  simp only [qh];unfold V.qbx;split
  ·rfl
  ·cases x<;>first|rfl|(simp [q3]at h)
theorem qqU{c:List V}(h:qfP c=false):qfP (c.map V.qbx)=false:=by
 match c with
 |[]=>rfl
 |x::l =>
  simp only [qh];unfold V.qbx;split
  ·rfl
  ·cases x<;>first|rfl|(simp [qfP]at h)
theorem qte{ys:List V}:∀{p:Path} {v u:V},qp4 ys p v=some u->∃c l,u=.sl .own c l:=by
 intro p v u h;unfold qp4 at h;split at h
 ·cases h
 ·split at h
  ·split at h
   ·split at h
    ·split at h
     ·cases h;exact ⟨_,_,rfl⟩
     ·cases h
    ·split at h
     ·obtain ⟨z,_,rfl⟩:=qc.1 h;exact ⟨_,_,rfl⟩
     ·cases h
   ·cases h
  ·cases h
 ·cases h
theorem qyx{c:List V}{i:Nat}{u:V}(h:qfP c=false)(hu:qfP [u]=false):qfP (c.set i u)=false:=by
 cases c with
 |nil=>rfl
 |cons x l=>cases i with
  |zero=>rw [List.set_cons_zero,qfy (m:=[])];exact hu
  |succ n=>rw [List.set_cons_succ,qfy (m:=l)];exact h
theorem qxG(hT:TOk P H lib T)(hO:OOk P H lib O){o:Oper}{xs:List TV}{ys:List V}{st:TSt}{s:St}{R:Type}{k:TV->TSt->Fp->Option R}{r:R}(hx:RVL xs ys)(hs:Rst st s)
  (h:qkJ P H J T O ctx f o xs st R k=some r) :
  ∃v st' fp u s',k v st' fp=some r/\Ev (λC=>qbp P H C f o ys s=some (u,s',fp)) P H lib/\RV v u/\Rst st' s'/\Fr2 st st' s s'/\st'.E=st.E/\s'.E=s.E:=by
 rcases qe9 o.op with ⟨t,hop⟩|⟨t,a,hop⟩|⟨c,fo,hop,hc⟩|hd
 ·unfold qkJ at h;simp only [hop]at h;split at h
  ·rename_i d z hd hz;split at h
   ·rename_i hn;have hn':qU st.B d=none:=by simpa using hn
    obtain ⟨z',hz',_,hcz⟩:=qhO hz;have hmz:qfP z'.cells=false:=by
     obtain ⟨i,u,_,_,rfl⟩:=qdk hz';exact quO _ u
    obtain ⟨hR,hF⟩:=qmE hs hn' (RVL.rc hcz) (λ_=>hmz);refine ⟨_,_,_,.ptr ⟨s.L.length,d⟩ 0,_,h,.of λC=>?_,by simp [RV,hs.len],hR,hF,rfl,rfl⟩;unfold qbp;simp only [hop,hd,hz'];rw [if_pos (by rw [qeq hs hn'];rfl),hs.len]
   ·cases h
  ·cases h
 ·unfold qkJ at h;simp only [hop]at h;split at h
  ·rename_i d x hd;split at h
   ·rename_i hn;have hn':qU st.B d=none:=by simpa using hn.1
    obtain ⟨v,rfl,hv⟩:=qdg hx;obtain ⟨hcells,hok⟩:=RV.cells hn.2.2 hv;obtain ⟨hR,hF⟩:=qmE hs hn' (RVL.rc hcells) (λ_=>qtD hok);refine ⟨_,_,_,.ptr ⟨s.L.length,d⟩ 0,_,h,.of λC=>?_,by simp [RV,hs.len],hR,hF,rfl,rfl⟩;unfold qbp;simp only [hop,hd];rw [if_pos ⟨by rw [qeq hs hn'];rfl,by rw [hcells.length];exact hn.2.1,hok⟩,hs.len]
   ·cases h
  ·cases h
 ·rw [qs2 hop hc]at h;cases xs with
  |nil=>cases h
  |cons fv args =>
   simp only [RVL]at hx;obtain ⟨fv',args',rfl,hfv,ha⟩:=hx;simp only at h;cases hbn:qo5 H fv args with
   |true =>
    rw [if_pos hbn]at h;obtain ⟨hb',v,st',fp,u,s',hk,hev,hr,hR,hF,e1,e2⟩:=qzc hO hfv ha hs h;refine ⟨v,st',fp,u,s',hk,hev.imp λC hC=>?_,hr,hR,hF,e1,e2⟩;rw [qbf hop hc];simp only [hb',if_true];exact hC
   |false =>
    rw [if_neg (by rw [hbn];simp)]at h;simp only [qo5,Bool.or_eq_false_iff]at hbn;have hb':qh5 H fv' args'=false:=by
     have h':=h;unfold qnC at h';split at h'
     ·rename_i g first cap;split at h'
      ·rename_i hkn;have hbn1:qiT H fv'=false:=by rw [qiU (fv:=.any []) hfv];exact hbn.1
       have hbn2:qqV H fv'=false:=by rw [qo4 (fv:=.any []) hfv];exact hbn.2.1
       have hf':=hfv;simp only [RV]at hf';obtain ⟨first',cap',rfl,hf1,hc1⟩:=hf';unfold qh5;rw [hbn1,hbn2,qnZ hkn ((hf1.append ha).append hc1),hbn.2.2];rfl
      ·cases h'
     ·have hf':=hfv;simp only [RV]at hf';subst hf';rfl
     ·cases h'
    obtain ⟨v,st',u,s',hk,hev,hr,hR,hF,e1,e2,hp⟩:=qqm hT hO hfv ha hs h;refine ⟨v,st',_,u,s',hk,hev.imp λC hC=>?_,hr,hR,hF,e1,e2⟩;rw [qbf hop hc];obtain ⟨hC,hlk⟩:=hC;simp only [hb',qf,if_false,hC,qi];rw [<- hp,hlk]
 ·rw [qs3 hd]at h;obtain ⟨v,st',fp,u,s',hk,hm,hr,hR,hF,e1,e2⟩:=qwh hx hs h;exact ⟨v,st',fp,u,s',hk,.of λC=>by rw [qX hd];exact hm,hr,hR,hF,e1,e2⟩
theorem qoW{E:Env}{E':List V}(h:RVL E.toL E')(t:Nat):RV (E.get t) (E'.getD t .undef):=by rw [qk8];exact h.getD t
theorem qy1{o:Oper}{E:Env}{E':List V}(h:RVL E.toL E')(x:Operand):RV (rdT H f o E x) (rd H f o E' x):=by
 cases x with
 |tmp t =>
  simp only [rdT,rd];split
  ·exact qoW h t
  ·exact (qoW h t).q5
 |const v=>exact qpH _ _
 |global g=>exact qaR []
 |func g=>simp [rdT,rd,RV,RVL]
theorem qxd{o:Oper}{E:Env}{E':List V}(h:RVL E.toL E'):∀l:List Operand,RVL (l.map (rdT H f o E)) (l.map (rd H f o E'))
 |[]=>q6
 |x::l=>qx.2 ⟨qy1 h x,qxd h l⟩
theorem qiK:∀(ts:List Tmp) {E:Env} {E':List V},RVL E.toL E'->RVL (qbE E ts).toL (qA E' ts)
 |[],E,E',h=>h
 |t::ts,E,E',h=>by
  have h1:RVL (E.set t (E.get t).q5).toL (E'.modify t V.q5):=by
   rw [qor];refine qet (by simp [h.length]) λi x v hx hv=>?_;rw [List.getElem?_modify]at hx hv;obtain ⟨y,hy,rfl⟩:=qc.1 hx;obtain ⟨u,hu,rfl⟩:=qc.1 hv;obtain ⟨u2,hu2,hr⟩:=h.get hy;rw [hu]at hu2;cases hu2;by_cases e:t=i
   ·simp only [e,if_true];exact hr.q5
   ·simp only [if_neg e];exact hr
  exact qiK ts h1
theorem qqA{ts:List Tmp}{t:Nat}(h:t∉ts):∀E:List V,(qA E ts)[t]?=E[t]?:=by
 induction ts with
 |nil=>intro E;rfl
 |cons u ts ih =>
  intro E;simp only [qk,not_or]at h;have e:qA E (u::ts)=qA (E.modify u V.q5) ts:=rfl;rw [e,ih h.2,List.getElem?_modify];simp [Ne.symm h.1]
theorem qse(ts:List Tmp)(E:List V):(qA E ts).length=E.length:=qaN ts E
theorem qcC{st:TSt}{s:St}(hs:Rst st s)(d:Option Tmp){v:TV}{u:V}(hv:RV v u):Rst (st.put d v) (s.put d u)/\Fr2 st (st.put d v) s (s.put d u):=by
 cases d with
 |none=>exact ⟨hs,Fr2.refl _ _⟩
 |some t =>
  refine ⟨⟨by show RVL (st.E.set t v).toL _;rw [qdD];exact hs.E.set t hv,hs.M⟩,⟨λx hx=>by simp [TSt.put,hx],λr hr=>hr,λx hx=>.inl ?_,λx hx rs hE=>⟨rs,?_⟩,λr hr=>.inl rfl,λr hr h=>h,rfl,by simp [St.put]⟩⟩
  case refine_2 =>
   simp only [TSt.put,Mask.mem_ins,not_or]at hx;simp only [TSt.put,qdD]at hE
   rwa [List.getElem?_set_ne (Ne.symm hx.1)]at hE
  simp only [TSt.put,Mask.mem_ins,not_or]at hx;simp only [St.put];rw [List.getElem?_set_ne (Ne.symm hx.1)]
theorem qlz{E:Env}{E':List V}(h:RVL E.toL E'){ts:List Tmp}{t:Nat}(ht:t∉ts.filter (λt=>(E.get t).owns)):(qA E' ts)[t]?=E'[t]?:=by
 rw [qfu];split
 ·rename_i hm;have hno:(E.get t).owns=false:=by
   cases hh:(E.get t).owns with
   |false=>rfl
   |true=>exact absurd (List.mem_filter.2 ⟨hm,hh⟩) ht
  cases hv:E'[t]? with
  |none=>rfl
  |some v =>
   have hr:=qoW h t;rw [List.getD_eq_getElem?_getD (l:=E'),hv]at hr;simp only [qi,qb];refine dull_of_owns v ?_;cases ho:v.owns with
   |false=>rfl
   |true=>have:=RV.owns _ _ hr ho;rw [hno]at this;cases this
 ·rfl
theorem qym{x:TV}{rs:List Root}(h:x.q5=.any rs):x=.any rs:=by
 cases x with
 |room a s=>rcases a with _|a<;>simp [TV.q5]at h
 |_=>simp_all [TV.q5]
theorem qfZ:∀(T:List Tmp) (E:Env) (t:Nat) (rs:List Root),(qbE E T).toL[t]?=some (.any rs)->∃rs',E.toL[t]?=some (.any rs')
 |[],E,t,rs,h=>⟨rs,h⟩
 |s::T,E,t,rs,h=>by
  have h':(qbE (E.set s (E.get s).q5) T).toL[t]?=some (.any rs):=h;obtain ⟨rs',h1⟩:=qfZ T _ t rs h';rw [qor,List.getElem?_modify]at h1;cases hE:E.toL[t]? with
  |none=>rw [hE]at h1;cases h1
  |some x =>
   rw [hE]at h1;simp only [Option.map_eq_map,qi,qb]at h1;split at h1
   ·exact ⟨rs',by rw [qym h1]⟩
   ·exact ⟨rs',by rw [h1]⟩
theorem qhJ(hT:TOk P H lib T)(hO:OOk P H lib O){o:Oper}{st:TSt}{s:St}{R:Type}{k:TSt->Fp->Option R}{r:R}(hs:Rst st s)(h:qhb P H J T O ctx f o st R k=some r) :
  ∃st' fp s',k st' fp=some r/\Ev (λC=>qd9 P H C f o s=some (s',fp)) P H lib/\Rst st' s'/\Fr2 st st' s s'/\∀t:Nat,t∉tmpsOf o->o.dst≠some t->s'.E[t]?=s.E[t]?:=by
 unfold qhb at h;split at h
 ·cases h
 ·rename_i hn;have hs1:Rst (if q7 H f o=true then {st with E:=qbE st.E (tmpsOf o),Wt:=Mask.ofList ((tmpsOf o).filter (λt=>(st.E.get t).owns))++st.Wt}else st) (if q7 H f o=true then {s with E:=qA s.E (tmpsOf o)}else s) /\
    Fr2 st (if q7 H f o=true then {st with E:=qbE st.E (tmpsOf o),Wt:=Mask.ofList ((tmpsOf o).filter (λt=>(st.E.get t).owns))++st.Wt}else st) s (if q7 H f o=true then {s with E:=qA s.E (tmpsOf o)}else s):=by
   split
   ·refine ⟨⟨qiK _ hs.E,hs.M⟩,⟨λt ht=>by simp [ht],λr hr=>hr,λt ht=>.inl ?_,λt ht rs hE=>?_,λr hr=>.inl rfl,λr hr h=>h,rfl,qse _ _⟩⟩
    ·simp only [Mask.mem_append,Mask.mem_ofList,not_or]at ht;exact qlz hs.E ht.1
    ·exact qfZ _ _ _ _ hE
   ·exact ⟨hs,Fr2.refl _ _⟩
  obtain ⟨v,st',fp,u,s',hk,hev,hr,hR,hF,e1,e2⟩:=qxG hT hO (qxd hs.E _) hs1.1 h;obtain ⟨hR2,hF2⟩:=qcC hR o.dst hr;refine ⟨_,fp,_,hk,hev.imp λC hC=>?_,hR2,(hs1.2.trans hF).trans hF2,λt h1 h2=>?_⟩
  ·unfold qd9;rw [if_neg hn,hC];rfl
  ·have h3:(s'.put o.dst u).E[t]?=s'.E[t]?:=by
    unfold St.put;cases hd:o.dst with
    |none=>rfl
    |some d =>
     simp only
     rw [List.getElem?_set_ne];rintro rfl;exact h2 hd
   rw [h3,e2];split
   ·exact qqA h1 s.E
   ·rfl
theorem qoU{ops:Array Oper}{o:Oper}{st:TSt}{s:St}{R:Type}{yes no:TSt->Option R}{r:R}(hs:Rst st s)(h:qqL ops o st R yes no=some r) :
  ∃st1 b,qcx ops s.E o=some b/\Rst st1 s/\Fr2 st st1 s s/\(if b then yes st1 else no st1)=some r:=by
 unfold qqL at h;unfold qcx;split at h
 ·rename_i hg;rw [hg];exact ⟨st,true,rfl,hs,Fr2.refl _ _,h⟩
 ·rename_i j want hg;rw [hg];simp only
  split at h
  ·rename_i t ht;rw [ht];simp only
   split at h
   ·rename_i o' b hb;obtain ⟨v,hv,hr⟩:=hs.E.get (some_get hb (by simp));simp only [RV,RTy]at hr;subst hr;rw [hv];have hset:∀c,b=c->Rst ({st with E:=st.E.set t (.t .bool 0 c)}:TSt) s:=λc hc=>⟨by
     rw [qdD];refine qg8 hs.E t λu hu=>?_;rw [hv]at hu;cases hu;simp [RV,RTy,hc],hs.M⟩
    have hfr:∀c,Fr2 st ({st with E:=st.E.set t (.t .bool 0 c)}:TSt) s s:=λc=>⟨λx hx=>hx,λx hx=>hx,λx hx=>.inl rfl,λx hx rs hE=>⟨rs,by
     simp only [qdD,List.getElem?_set]at hE;split at hE
     ·split at hE<;>cases hE
     ·exact hE⟩,λx hx=>.inl rfl,λx hx h=>h,rfl,rfl⟩
    cases b with
    |true =>
     simp only [cond_true]at h;refine ⟨_,(true==want),rfl,hset true rfl,hfr true,?_⟩;cases want<;>exact h
    |false =>
     simp only [cond_false]at h;refine ⟨_,(false==want),rfl,hset false rfl,hfr false,?_⟩;cases want<;>exact h
   ·rename_i vs hb;obtain ⟨v,hv,hr⟩:=hs.E.get (some_get hb (by simp));simp only [RV]at hr;subst hr;rw [hv];split at h
    ·rename_i h0;exact ⟨st,false,by simp only [h0,if_true],hs,Fr2.refl _ _,h⟩
    ·cases h
   ·cases h
  ·cases h
def qim(p:List (Int×Nat×Nat)):Path:=p.map λe=>(e.1.toNat,e.2.1,e.2.2)
theorem qwx{E:Env}{E':List V}(h:RVL E.toL E'){i:Operand}{n:Int}(hi:qqO E i=some n)(h0:0<=n):idxOf E' i=some n.toNat:=by
 cases i with
 |tmp t =>
  simp only [qqO]at hi;obtain ⟨k,hk⟩:=qm7 hi (qoW h t);simp only [idxOf,hk];exact qfG h0
 |const v =>
  simp only [qqO]at hi;split at hi
  ·cases hi;simp only [idxOf];exact qfG h0
  ·cases hi
 |_=>simp [qqO]at hi
theorem qhq{ops:Array Oper}{E:Env}{E':List V}(h:RVL E.toL E'):∀(n k:Nat) (d:Tmp) (rt:Rt) (p:List (Int×Nat×Nat)) (ptr:Bool),qf8 P H f ops E n k d=some (rt,p,ptr)->(∀e∈p,0<=e.1)->qbo P H f ops E' n k d=some (rt,qim p,ptr):=by
 intro n;induction n with
 |zero=>intro k d rt p ptr hx;simp [qf8]at hx
 |succ n ih =>
  intro k d rt p ptr hx h0;simp only [qf8]at hx;simp only [qbo];split at hx
  ·rename_i hl;rw [if_pos hl];simp only [qb,Prod.mk.injEq]at hx;obtain ⟨rfl,rfl,rfl⟩:=hx;rfl
  ·rename_i hl;rw [if_neg hl];cases hc:qnm ops k d with
   |none=>rw [hc]at hx;cases hx
   |some c =>
    rw [hc]at hx;try simp only at hx ⊢
    cases hop:(ops[c]?).map Oper.op with
    |none=>rw [hop]at hx;cases hx
    |some op =>
     rw [hop]at hx;try simp only at hx ⊢
     split at hx
     ·rename_i a heq;cases heq;exact ih _ _ _ _ _ hx h0
     ·rename_i t a i heq;cases heq;try simp only
      split at hx
      ·rename_i r q j elem hq hj hu;simp only [qb,Prod.mk.injEq]at hx;obtain ⟨rfl,rfl,rfl⟩:=hx;rw [ih _ _ _ _ _ hq (λe he=>h0 e (by simp [he])),qwx h hj (h0 (j,0,P.cellsOf elem) (by simp)),hu];rfl
      ·cases hx
     ·rename_i t a fd heq;cases heq;try simp only
      split at hx
      ·rename_i r j o s q o' hq ho';simp only [qb,Prod.mk.injEq]at hx;obtain ⟨rfl,rfl,rfl⟩:=hx;rw [ih _ _ _ _ _ hq (λe he=>by
        rcases qk.1 he with rfl|he
        ·exact h0 (j,o+o',s) (by simp)
        ·exact h0 e (by simp [he])),ho']
       rfl
      ·cases hx
     ·rename_i t a heq;cases heq;try simp only
      split at hx
      ·cases hx
      ·rename_i hag;rw [if_neg hag];split at hx
       ·rename_i hla;rw [if_pos hla];split at hx
        ·rename_i r q hq;simp only [qb,Prod.mk.injEq]at hx;obtain ⟨rfl,rfl,rfl⟩:=hx;rw [ih _ _ _ _ _ hq h0]
        ·cases hx
       ·rename_i hla;rw [if_neg hla];split at hx
        ·rename_i r off hE;simp only [qb,Prod.mk.injEq]at hx;obtain ⟨rfl,rfl,rfl⟩:=hx;have:=qoW h a;rw [hE]at this;simp only [RV]at this;rw [this];rfl
        ·cases hx
     ·cases hx
theorem qu8{τ:Ty}(he:τ.qbn=true){o:Nat}{e:τ.den}{b:V}(hr:RTy τ o e b){cs:List TV}{cs':List V}(hc:RVL cs cs')(hlen:cs.length=τ.qaU)(h0:τ.qaU≠0):RV (qmJ (ofTy τ o e) cs) (qdn b cs'):=by
 have hd:∀(hone:τ.qaU=1),RV (cs.headD (.any [])) (cs'.headD .undef):=λ_=>by
  cases hc':cs with
  |nil=>rw [hc']at hlen;simp at hlen;omega
  |cons x l =>
   rw [hc']at hc;simp only [RVL]at hc;obtain ⟨v,m,rfl,h1,_⟩:=hc;exact h1
 cases τ with
 |int k=>simp only [RTy]at hr;subst hr;exact hd rfl
 |bool=>simp only [RTy]at hr;subst hr;exact hd rfl
 |str=>simp only [RTy]at hr;subst hr;exact hd rfl
 |flt=>simp only [RTy]at hr;obtain ⟨_,rfl,_⟩:=hr;exact hd rfl
 |cx=>simp only [RTy]at hr;obtain ⟨_,_,rfl,_⟩:=hr;exact hd rfl
 |err=>simp only [RTy]at hr;rcases hr with ⟨_,rfl⟩|⟨_,t9,rfl⟩<;>exact hd rfl
 |mset t=>simp [Ty.qbn]at he
 |sl t=>simp only [RTy]at hr;obtain ⟨f,c,l',rfl,_⟩:=hr;exact hd rfl
 |nsl t=>simp only [RTy]at hr;rcases hr with ⟨_,rfl⟩|⟨_,f,c,l',rfl,_⟩<;>exact hd rfl
 |unit=>exact absurd rfl h0
 |pair a b' =>
  simp only [RTy]at hr;obtain ⟨v1,l,rfl,_⟩:=hr;simp only [ofTy,qmJ,qdn,RV];exact ⟨cs',rfl,hc⟩
theorem qtj{α β:Type}{R:α->β->Prop}{l:List α}{l':List β}(h:All2 R l l'):∀(i:Nat) {a:α} {b:β},R a b->All2 R (l.set i a) (l'.set i b):=by
 induction h with
 |nil=>intro i a b _;exact .nil
 |cons h1 h2 ih =>
  intro i a b hab;cases i with
  |zero=>exact .cons hab h2
  |succ i=>exact .cons h1 (ih i hab)
theorem qx0{ys:List TV}{ys':List V}(hy:RVL ys ys'):∀(p:List (Int×Nat×Nat)) (x:TV) (v:V) {R:Type} {k:TV->Option R} {r:R},qzS ys p x R k=some r->RV x v ->
  (∀e∈p,0<=e.1)/\∃y u,k y=some r/\qp4 ys' (qim p) v=some u/\RV y u:=by
 intro p;induction p with
 |nil=>intro x v R k r h;unfold qzS at h;cases h
 |cons q p ih =>
  obtain ⟨i,o,s⟩:=q;intro x v R k r h hx;by_cases hxs:∃τ lv l,x=.t (.sl τ) lv l
  ·obtain ⟨τ,lv,l,rfl⟩:=hxs;unfold qzS at h;split at h
   ·rename_i hc;obtain ⟨hown,hcl,hs0,hok,hel⟩:=hc;obtain ⟨e,he,h⟩:=qd.1 h;obtain ⟨h0,hget⟩:=qk9 he;simp only [RV,RTy]at hx;obtain ⟨fl,c,l',rfl,hfl,hall⟩:=hx;have hf:fl=.own:=hfl.own hown;subst hf;obtain ⟨b,hb,hr⟩:=hall.get hget;obtain ⟨hbl,hbo⟩:=qhG hel hr;have hcells:=(RV.cells (qpr hel (nx lv) e) (rv_ofTy τ (nx lv) e b hr)).1;have hcl2:(ofTy τ (nx lv) e).cells.length=τ.qaU:=by rw [<- hcells.length,hbl]
    have hn0:τ.qaU≠0:=by rw [hcl];exact hs0
    have hfin:∀(cs:List TV) (cs':List V) (e':τ.den),RVL cs cs'->cs.length=τ.qaU->qem τ (nx lv) (qmJ (ofTy τ (nx lv) e) cs)=some e' ->
      RV (.t (.sl τ) lv (l.set i.toNat e')) (.sl .own c (l'.set i.toNat (qdn b cs'))):=λcs cs' e' hcs hlen has=>by
     have:=qcP _ _ _ _ _ has (qu8 hel hr hcs hlen hn0);simp only [RV,RTy];exact ⟨.own,c,_,rfl,qeF hown,qtj hall _ this⟩
    cases p with
    |nil =>
     simp only at h;split at h
     ·rename_i hle;split at h
      ·rename_i e' has;have hsp:=qjs (off:=o) hcells hy;refine ⟨by simp [h0],_,_,h,?_,hfin _ _ e' hsp ?_ has⟩
       ·simp only [qim,qh,List.map_nil,qp4];rw [hb];simp only
        rw [if_pos ⟨by rw [hbl,hcl],hbo⟩,if_pos (by rw [hy.length];exact hle)]
       ·rw [<- hsp.length,qbM (by rw [hy.length,hbl,hcl];exact hle),hbl]
      ·cases h
     ·cases h
    |cons q2 p2 =>
     simp only at h;split at h
     ·rename_i z hz;obtain ⟨z',hz',hrz⟩:=hcells.get hz;obtain ⟨h1,y,u,hk,hupd,hyu⟩:=ih z z' h hrz;split at hk
      ·rename_i e' has;have hset:=hcells.set o hyu;refine ⟨λe he=>?_,_,_,hk,?_,hfin _ _ e' hset (by simp [hcl2]) has⟩
       ·rcases qk.1 he with rfl|he
        ·exact h0
        ·exact h1 e he
       ·have hpv:qim ((i,o,s)::q2::p2)=(i.toNat,o,s)::qim (q2::p2):=rfl;have hpn:qim (q2::p2)=(q2.1.toNat,q2.2.1,q2.2.2)::qim p2:=rfl;rw [hpv];rw [hpn]at hupd ⊢;unfold qp4;rw [hb];simp only
        rw [if_pos ⟨by rw [hbl,hcl],hbo⟩,hz'];simp only
        rw [hupd];rfl
      ·cases hk
     ·cases h
   ·cases h
  ·exfalso
   cases x with
   |t τ lv l =>
    cases τ with
    |sl τ=>exact hxs ⟨τ,lv,l,rfl⟩
    |_=>simp [qzS]at h
   |_=>simp [qzS]at h
theorem qAC{x:TV}{v:V}(h:RV x v):RV x.qbx v.qbx:=by
 unfold TV.qbx V.qbx;cases hf:x.firm with
 |true =>
  rw [RV.firm x v hf h];simpa using h
 |false =>
  simp only [qf,if_false];split
  ·exact qaR _
  ·simp only [RV];exact ⟨λr hr=>RV.qq x v h r hr,qal (qx.2 ⟨h,q6⟩)⟩
theorem qjm:∀{l:List TV} {l':List V},RVL l l'->RVL (l.map TV.qbx) (l'.map V.qbx)
 |[],l',h=>by simp only [RVL]at h;subst h;exact q6
 |x::l,l',h=>by
  simp only [RVL]at h;obtain ⟨v,m,rfl,h1,h2⟩:=h;exact qx.2 ⟨qAC h1,qjm h2⟩
theorem qt4:∀{l:List TV} {l':List V},RVL l l'->l.all TV.firm=true->l'.map V.qbx=l'
 |[],l',h,_=>by simp only [RVL]at h;subst h;rfl
 |x::l,l',h,hf=>by
  simp only [RVL]at h;obtain ⟨v,m,rfl,h1,h2⟩:=h;simp only [List.all_cons,qe]at hf;simp only [qh];rw [qt4 h2 hf.2];have:v.qbx=v:=by unfold V.qbx;rw [RV.firm x v hf.1 h1];rfl
  rw [this]
theorem qxE{E:Env}{i:Nat}{x:TV}(h:E.toL[i]?=some x)(hf:x.firm=false)(ha:x.isAny=false):i∈qAG E :=
 qyI (by simp [TV.isAny]) h (by simp [hf,ha])
theorem qjq:∀{b:qI} {k:Nat} {c:List TV},qU b k=some (some c)->c.all TV.firm=false->(⟨0,k⟩:Root)∈qsY b
 |[],k,c,h,_=>by simp [qU]at h
 |(k',none)::b,k,c,h,hf=>by
  simp only [qU]at h;split at h
  ·cases h
  ·simp only [qsY];exact qjq h hf
 |(k',some d)::b,k,c,h,hf=>by
  simp only [qU]at h;simp only [qsY];split at h
  ·rename_i e;cases h;rw [hf];simp [e]
  ·split
   ·exact qjq h hf
   ·exact List.mem_cons_of_mem _ (qjq h hf)
theorem qfC(s:Nat):∀b:qI,qU (qwt b) s=(qU b s).map (Option.map (List.map TV.qbx))
 |[]=>rfl
 |(k,c)::b=>by
  simp only [qwt,qh,qU];split
  ·rfl
  ·exact qfC s b
theorem qsB{x:TV}(h:x.isAny=true):∃rs,x=.any rs:=by cases x<;>first|exact ⟨_,rfl⟩|(simp [TV.isAny]at h)
def qkd(s:St)(T:List Tmp):St:={s with E:=(qA s.E T).map V.qbx,B:=qbN s.B}
theorem qgF{st:TSt}(hL:st.L=[])(r:Root):st.cont r=if r.lvl=0 then (match qU st.B r.slot with|some (some c)=>some c|_=>none)else none:=by
 unfold TSt.cont;rw [hL];simp only [List.length_nil];by_cases h:r.lvl=0
 ·rw [if_pos h,if_pos h];cases qU st.B r.slot with
  |none=>rfl
  |some o=>cases o<;>rfl
 ·rw [if_neg h,if_neg h];simp
theorem qhu{b:qI}(h:qgV b=true){k:Nat}{c:List TV}(hl:qU b k=some (some c)):isRec c=false:=by
 unfold qgV at h;rw [List.all_eq_true]at h;have:=h _ (qc7 hl);simpa using this
theorem qfM{st:TSt}{s:St}(h:Rst st s)(hL:st.L=[])(hn0:qgV st.B=true)(T:List Tmp):s.L=[]/\qca s.B=true/\Rst (st.qbw T) (qkd s T)/\Fr2 st (st.qbw T) s (qkd s T):=by
 have hL':s.L=[]:=List.eq_nil_of_length_eq_zero (by rw [h.len,hL];rfl);have hB:∀k,RB (qU st.B k) (qy s.B k):=λk=>by
  have:=h.M.rel 0 k;unfold qad qaj at this;simpa [TSt.all,qcO,hL,hL']using this
 have hnd:(s.B.map (·.1)).Nodup:=h.M.nd s.B (by simp [qcO]);have hlp:∀k c,qy s.B k=some c->q3 c=false:=λk c hc=>by
  have:=hB k;cases ht:qU st.B k with
  |none=>rw [ht]at this;simp only [RB]at this;rw [this]at hc;cases hc
  |some o =>
   rw [ht]at this;cases o with
   |none=>exact this c hc
   |some d=>obtain ⟨d',hd',hr⟩:=this;rw [hc]at hd';cases hd';exact qal (hr.rvl (qhu hn0 ht))
 have hE:=qiK T h.E;have hlen:(qA s.E T).length=s.E.length:=qaN T s.E;have hfirmE:∀(t:Nat),t∉qAG (qbE st.E T)->∀x v,(qbE st.E T).toL[t]?=some x->(qA s.E T)[t]?=some v->x.firm=true\/∃rs,x=.any rs:=λt hts x v hx _=>by
  cases hf:x.firm with
  |true=>exact .inl rfl
  |false =>
   cases ha:x.isAny with
   |true=>exact .inr (qsB ha)
   |false=>exact absurd (qxE hx hf ha) hts
 have hmap:((qbE st.E T).qsz λ_ v=>v.qbx).toL=(qbE st.E T).toL.map TV.qbx:=by
  apply List.ext_getElem?;intro i;rw [qpZ,List.getElem?_map]
 refine ⟨hL',?_,⟨by show RVL ((qbE st.E T).qsz λ_ v=>v.qbx).toL _;rw [hmap];exact qjm hE,?_⟩,?_⟩
 ·unfold qca;rw [List.all_eq_true];rintro ⟨k,c⟩ hk;simp only [hlp k c (qfA hnd hk),Bool.not_false]
 ·refine ⟨by simp [TSt.all,qcO,TSt.qbw,qkd,hL,hL'],λl k=>?_,λb hb=>?_,λl k c hc hlt=>?_⟩
  rotate_right
  ·unfold qaj at hc;simp only [qcO,qkd,hL',List.nil_append]at hc;cases l with
   |zero =>
    simp only [List.getElem?_cons_zero,qbT]at hc;obtain ⟨c0,h1,rfl⟩:=qc.1 hc;exact qqU (h.M.mp 0 k c0 (by unfold qaj;simpa [qcO,hL']using h1) hlt)
   |succ l=>simp at hc
  ·unfold qad qaj;simp only [TSt.all,qcO,TSt.qbw,qkd,hL,hL',List.nil_append];cases l with
   |zero =>
    simp only [List.getElem?_cons_zero];rw [qfC,qbT];have:=hB k;cases ht:qU st.B k with
    |none=>rw [ht]at this;simp only [RB]at this;rw [this]<;>rfl
    |some o =>
     rw [ht]at this;cases o with
     |none =>
      simp only [qi,Option.map_none];intro c hc;obtain ⟨c0,h1,rfl⟩:=qc.1 hc;exact qlS (this c0 h1)
     |some d=>obtain ⟨d',hd',hr⟩:=this;rw [hd'];exact ⟨_,rfl,(qjm (hr.rvl (qhu hn0 ht))).rc⟩
   |succ l=>simp [RB]
  ·simp only [qcO,qkd,hL',List.nil_append,List.mem_singleton]at hb;subst hb;simpa [qbN,List.map_map,Function.comp_def]using hnd
 ·refine ⟨λt ht=>by simp [TSt.qbw,ht],λr hr=>by simp [TSt.qbw,hr],λt ht=>?_,λt ht rs hE'=>?_,λr hr=>?_,λr hr hsm=>?_,rfl,by simp [qkd,hlen]⟩
  ·simp only [TSt.qbw,Mask.mem_append,Mask.mem_ofList,not_or]at ht;simp only [qkd,List.getElem?_map];have hEt:=qlz h.E ht.1;rw [hEt];cases hv:s.E[t]? with
   |none=>left;rfl
   |some v =>
    simp only [qi];have hv2:(qA s.E T)[t]?=some v:=by rw [hEt];exact hv
    have hxt:∃x,(qbE st.E T).toL[t]?=some x:=by
     have hlt:t<(qbE st.E T).toL.length:=by
      have:=(qm.1 hv2).1;rw [<- hE.length];exact this
     exact ⟨_,List.getElem?_eq_getElem hlt⟩
    obtain ⟨x,hx⟩:=hxt;rcases hfirmE t ht.2.1 x v hx hv2 with hf|⟨rs,rfl⟩
    ·left
     obtain ⟨v',hv',hr⟩:=hE.get hx;rw [hv2]at hv';cases hv';unfold V.qbx;rw [RV.firm x v hf hr];rfl
    ·unfold V.qbx;cases hs:v.soft with
     |false=>left;rfl
     |true =>
      right
      exact ⟨qfZ _ _ _ _ hx,rfl⟩
  ·simp only [TSt.qbw,Mask.mem_append,Mask.mem_ofList,not_or]at ht;simp only [TSt.qbw,hmap,List.getElem?_map]at hE';obtain ⟨x,hx,hxa⟩:=qc.1 hE';obtain ⟨v,hv,_⟩:=hE.get hx;rcases hfirmE t ht.2.1 x v hx hv with hf|⟨rs',rfl⟩
   ·unfold TV.qbx at hxa;rw [hf]at hxa;simp only [if_true]at hxa;subst hxa;simp [TV.firm]at hf
   ·exact qfZ _ _ _ _ hx
  ·simp only [TSt.qbw,qj,not_or]at hr;rw [qcV (st:=qkd s T) hL',qcV hL'];by_cases h0:r.lvl=0
   ·rw [if_pos h0,if_pos h0];simp only [qkd,qbT];have:=hB r.slot;cases ht:qU st.B r.slot with
    |none=>rw [ht]at this;simp only [RB]at this;rw [this];left;rfl
    |some o =>
     rw [ht]at this;cases o with
     |none =>
      right
      refine ⟨by rw [hL'];rfl,by rw [qgF hL,if_pos h0,ht],by simp,λc hc=>?_⟩;obtain ⟨c0,h1,rfl⟩:=qc.1 hc;exact qlS (this c0 h1)
     |some d =>
      left
      obtain ⟨d',hd',hrr⟩:=this;rw [hd'];cases hf:d.all TV.firm with
      |true=>simp only [qi];rw [qt4 (hrr.rvl (qhu hn0 ht)) hf]
      |false =>
       exfalso
       refine hr.1 ?_;have:=qjq ht hf;obtain ⟨l,sl⟩:=r;simp only at h0 this;rw [h0];exact this
   ·rw [if_neg h0,if_neg h0];left;rfl
  ·rw [qgF hL]at hsm;have hL2:(st.qbw T).L=[]:=hL;rw [qgF hL2];by_cases h0:r.lvl=0
   ·rw [if_pos h0]at hsm ⊢;simp only [TSt.qbw,qfC];cases ht:qU st.B r.slot with
    |none=>rw [ht]at hsm;cases hsm
    |some o =>
     rw [ht]at hsm;cases o with
     |none=>cases hsm
     |some d=>rfl
   ·rw [if_neg h0]at hsm;cases hsm
theorem qxF{st:TSt}{s:St}(h:Rst st s)(hL:st.L=[])(hn0:qgV st.B=true)(hB0:st.B.all (λp=>decide (p.1<16384))=true)(T:List Tmp):s.L=[]/\qrb s.B=true/\Rst (st.qbw T) (qkd s T)/\Fr2 st (st.qbw T) s (qkd s T):=by
 obtain ⟨hL',hnl,hR,hF⟩:=qfM h hL hn0 T;refine ⟨hL',?_,hR,hF⟩;have hB:∀k,RB (qU st.B k) (qy s.B k):=λk=>by
  have:=h.M.rel 0 k;unfold qad qaj at this;simpa [TSt.all,qcO,hL,hL']using this
 have hnd:(s.B.map (·.1)).Nodup:=h.M.nd s.B (by simp [qcO]);have hmp:∀k c,qy s.B k=some c->qfP c=false:=λk c hc=>by
  by_cases hlt:k<16384
  ·have h9:qaj (qcO s) 0 k=some c:=by unfold qaj;simpa [qcO,hL']using hc
   exact h.M.mp 0 k c h9 hlt
  ·have:=hB k;cases ht:qU st.B k with
   |none=>rw [ht]at this;simp only [RB]at this;rw [this]at hc;cases hc
   |some o =>
    rw [List.all_eq_true]at hB0;have h9:=hB0 _ (qc7 ht);simp only [decide_eq_true_eq]at h9;omega
 unfold qrb;unfold qca at hnl;rw [List.all_eq_true]at hnl ⊢;rintro ⟨k,c⟩ hk;have h1:=hnl _ hk;simp only [Bool.not_eq_true']at h1;simp only [qcX h1 (hmp k c (qfA hnd hk)),Bool.not_false]
theorem qAD{x:TV}{v:V}(h:RV x v):RV x.qbx v:=by
 unfold TV.qbx;split
 ·exact h
 ·simp only [RV];exact ⟨RV.qq x v h,qal (qx.2 ⟨h,q6⟩)⟩
theorem qpJ:∀{l:List TV} {l':List V},RVL l l'->RVL (l.map TV.qbx) l'
 |[],l',h=>h
 |x::l,l',h=>by
  simp only [RVL]at h;obtain ⟨v,m,rfl,h1,h2⟩:=h;exact qx.2 ⟨qAD h1,qpJ h2⟩
theorem qsZ{st:TSt}{s:St}(h:Rst st s)(hL:st.L=[])(hn0:qgV st.B=true):Rst (st.qbw []) s/\Fr2 st (st.qbw []) s s:=by
 obtain ⟨hL',_,_,hf⟩:=qfM h hL hn0 [];have hB:∀k,RB (qU st.B k) (qy s.B k):=λk=>by
  have:=h.M.rel 0 k;unfold qad qaj at this;simpa [TSt.all,qcO,hL,hL']using this
 have hE:RVL (qbE st.E []).toL s.E:=qiK [] h.E;have hmap:((qbE st.E []).qsz λ_ v=>v.qbx).toL=(qbE st.E []).toL.map TV.qbx:=by
  apply List.ext_getElem?;intro i;rw [qpZ,List.getElem?_map]
 refine ⟨⟨by show RVL ((qbE st.E []).qsz λ_ v=>v.qbx).toL _;rw [hmap];exact qpJ hE,⟨by simp [TSt.all,qcO,TSt.qbw,hL,hL'],λl k=>?_,h.M.nd,h.M.mp⟩⟩,⟨hf.wt,hf.wb,λ_ _=>.inl rfl,hf.an,λ_ _=>.inl rfl,hf.bn,rfl,rfl⟩⟩;unfold qad qaj;simp only [TSt.all,qcO,TSt.qbw,hL,hL',List.nil_append];cases l with
 |zero =>
  simp only [List.getElem?_cons_zero];rw [qfC];have:=hB k;cases ht:qU st.B k with
  |none=>rw [ht]at this;simp only [RB]at this;rw [this]<;>rfl
  |some o =>
   rw [ht]at this;cases o with
   |none=>exact this
   |some d=>obtain ⟨d',hd',hr⟩:=this;rw [hd'];exact ⟨_,rfl,(qpJ (hr.rvl (qhu hn0 ht))).rc⟩
 |succ l=>simp [RB]
theorem qup{xs:List Int}{o:Nat}{l:List V}(h:All2 (RTy (.int .i64) o) xs l):qlO l=some xs:=by
 induction h with
 |nil=>rfl
 |cons h1 _ ih =>
  simp only [RTy]at h1;subst h1;simp only [qlO,ih,qi]
theorem qlq(o:Nat):∀xs:List Int,All2 (RTy (.int .i64) o) xs (qda xs)
 |[]=>.nil
 |x::xs=>.cons (by simp only [RTy]) (qlq o xs)
theorem qzn{F:List Int->Option (List Int)}{t:Tmp}{d:Option Tmp}{st:TSt}{s:St}{R:Type}{k:TSt->Option R}{r:R}(hs:Rst st s)(h:qAN F t d st R k=some r) :
  ∃st' s',k st'=some r/\qhM F t d s=some s'/\Rst st' s'/\Fr2 st st' s s':=by
 unfold qAN at h;split at h
 ·rename_i hLn;simp only [qe,List.isEmpty_iff]at hLn;obtain ⟨hL,hn0⟩:=hLn;split at h
  ·rename_i o xs hget;split at h
   ·rename_i ho;obtain ⟨ys,hys,hk⟩:=qd.1 h;obtain ⟨hL',hnl,hR1,hF1⟩:=qfM hs hL hn0 [];have hrt:=qoW hs.E t;rw [hget]at hrt;simp only [RV,RTy]at hrt;obtain ⟨f,c,l',hv,hfl,hall⟩:=hrt;have hf:=hfl.own ho;subst hf;have hin:=qup (o:=0) hall;have hnew:RV (.t (.sl (.int .i64)) o ys) (.sl .own c (qda ys)):=by
     simp only [RV,RTy];exact ⟨.own,c,_,rfl,hfl,qlq 0 ys⟩
    have hand:RV (.any []) V.undef:=qaR [];cases hx:xs with
    |nil =>
     obtain ⟨hR0,hF0⟩:=qsZ hs hL hn0;obtain ⟨hR2,hF2⟩:=qcC hR0 (some t) hnew;obtain ⟨hR3,hF3⟩:=qcC hR2 d hand;refine ⟨_,_,hk,?_,hR3,(hF0.trans hF2).trans hF3⟩;unfold qhM;rw [if_pos (by rw [hL',hnl];rfl),hv];simp only [hin,hys];rw [hx];rfl
    |cons x0 xs0 =>
     obtain ⟨hR2,hF2⟩:=qcC hR1 (some t) hnew;obtain ⟨hR3,hF3⟩:=qcC hR2 d hand;refine ⟨_,_,hk,?_,hR3,(hF1.trans hF2).trans hF3⟩;unfold qhM;rw [if_pos (by rw [hL',hnl];rfl),hv];simp only [hin,hys];rw [hx];rfl
   ·cases h
  ·cases h
 ·cases h
def qzu(h:Hole)(s:St):Prop:=∃c l' b,s.E[h.r]?=some (.sl .own c (l'.set h.j.toNat b))/\All2 (RTy h.τ (nx h.lv)) h.l l'/\b.cells=[b]/\b.oks=true/\(∀cs,qdn b cs=cs.headD .undef)/\0<=h.j/\h.j.toNat<l'.length/\qaE h.lv=true
def qfR(h:Option Hole)(s:St):Prop:=∀x,h=some x->qzu x s
theorem qjL{s:St}:qfR none s:=λx h=>by cases h
theorem qtF{o:Oper}{hole:Option Hole}{s s':St}(h:qfR hole s)(hk:∀t:Nat,t∉tmpsOf o->o.dst≠some t->s'.E[t]?=s.E[t]?):qfR (qpc o hole) s':=by
 intro x hx;unfold qpc at hx;split at hx
 ·rename_i h0;split at hx
  ·cases hx
  ·rename_i hc;cases hx;simp only [not_or]at hc;obtain ⟨c,l',b,h1,h2⟩:=h x rfl;exact ⟨c,l',b,by rw [hk x.r (by simpa using hc.2) hc.1];exact h1,h2⟩
 ·cases hx
theorem qwD{o:Oper}{hole:Option Hole}{s:St}(h:qfR hole s)(v:V):qfR (qpc o hole) (s.put o.dst v) :=
 qtF h λt _ h2=>by
  unfold St.put;cases hd:o.dst with
  |none=>rfl
  |some d =>
   simp only
   rw [List.getElem?_set_ne];rintro rfl;exact h2 hd
theorem qyq{hole:Option Hole}{r0:Tmp}{p:List (Int×Nat×Nat)}{x:TV}{v:V}{st:TSt}{s sV:St}{R:Type}{k:TSt->Option R}{r:R}(hh:qfR hole sV)(hx:RV x v)(hs:Rst st s)(h:qyp hole r0 p x st R k=some r) :
  (∀e∈p,0<=e.1)/\∃st' y,k st'=some r/\qp4 v.cells (qim p) (sV.E.getD r0 .undef)=some y/\y.soft=false/\Rst st' (s.put (some r0) y)/\Fr2 st st' s (s.put (some r0) y):=by
 unfold qyp at h;split at h
 ·rename_i hl i;split at h
  ·rename_i hr0;subst hr0;split at h
   ·rename_i τ o y;split at h
    ·rename_i e he;cases hd:decide (i=hl.j)with
     |false=>rw [hd]at h;cases h
     |true =>
      rw [hd]at h;simp only [cond_true]at h;have hij:i=hl.j:=of_decide_eq_true hd;subst hij;split at h
      ·rename_i hf;obtain ⟨c,l',b,h1,h2,h3,h4,h5,h6,h7,h8⟩:=hh hl rfl;have hvc:v.cells=[v]:=by
        simp only [RV,RTy]at hx;obtain ⟨f,c,m,rfl,_⟩:=hx;rfl
       have hy:=qcP _ _ _ _ _ he hx;have hnew:RV (.t (.sl hl.τ) hl.lv (hl.l.set hl.j.toNat e)) (.sl .own c (l'.set hl.j.toNat v)):=by
        simp only [RV,RTy];exact ⟨.own,c,_,rfl,qeF h8,qtj h2 _ hy⟩
       obtain ⟨hR2,hF2⟩:=qcC hs (some hl.r) hnew;refine ⟨by simp [h6],_,_,h,?_,RV.firm _ _ hf hnew,hR2,hF2⟩;have hE:sV.E.getD hl.r .undef=.sl .own c (l'.set hl.j.toNat b):=by rw [List.getD_eq_getElem?_getD,h1];rfl
       rw [hE,hvc];simp only [qim,qh,List.map_nil,qp4];have hg:(l'.set hl.j.toNat b)[hl.j.toNat]?=some b:=by rw [List.getElem?_set_self h7]
       rw [hg];simp only
       rw [if_pos ⟨by rw [h3];rfl,h4⟩,if_pos (by simp),h3,h5,List.set_set];simp [qP]
      ·cases h
    ·cases h
   ·cases h
  ·cases h
 ·cases h
theorem qBt{ops:Array Oper}{i:Nat}{o:Oper}{st:TSt}{s:St}{hole:Option Hole}{R:Type}{k:TSt->Option R}{r:R}(hs:Rst st s)(hh:qfR hole s)(h:lsT P H f ops i o st hole R k=some r) :
  ∃st' s',k st'=some r/\qgw P H f ops i o s=some s'/\Rst st' s'/\Fr2 st st' s s':=by
 unfold lsT at h;split at h
 ·rename_i t d xo hop;simp only at h;split at h
  ·rename_i hc;simp only [qe,decide_eq_true_eq,List.isEmpty_iff]at hc;obtain ⟨⟨⟨⟨⟨⟨⟨⟨⟨hL,hn0⟩,hB0⟩,hdst⟩,hgd⟩,hnd⟩,hs0⟩,hxl⟩,hxo⟩,hxp⟩:=hc;obtain ⟨hL',hnl,hsoft,hfr⟩:=qxF hs hL hn0 hB0 (tmpsOf o);have hrx:=qy1 (H:=H) (f:=f) (o:=o) hs.E xo;obtain ⟨hcx,hox⟩:=RV.cells hxo hrx;have hpx:(rd H f o s.E xo).qq=[]:=by
    rw [List.eq_nil_iff_forall_not_mem];intro q hq;have:=RV.qq _ _ hrx q hq;rw [hxp]at this;cases this
   have hcond:(s.L.isEmpty&&qrb s.B&&o.dst.isNone&&o.guard.isNone&&qcb (tmpsOf o)&&decide (P.cellsOf t≠0)&&decide ((rd H f o s.E xo).cells.length=P.cellsOf t)&&(rd H f o s.E xo).oks&&(rd H f o s.E xo).qq.isEmpty)=true:=by
    simp only [qe,decide_eq_true_eq];exact ⟨⟨⟨⟨⟨⟨⟨⟨by rw [hL'];rfl,hnl⟩,hdst⟩,hgd⟩,hnd⟩,hs0⟩,by rw [hcx.length];exact hxl⟩,hox⟩,by rw [hpx];rfl⟩
   have hrev:∀p:List (Int×Nat×Nat),(qim p).reverse=qim p.reverse:=λp=>by simp [qim]
   split at h
   ·rename_i r0 p hlk;split at h
    ·cases h
    ·rename_i hrT;split at h
     ·obtain ⟨hp0,st',y,hk,hupd,hysoft,hR2,hF2⟩:=qyq hh hrx hsoft h;have hlk':=qhq hs.E _ _ _ _ _ _ hlk hp0;have hsing:(qim p).reverse=qim p:=by
       unfold qyp at h;split at h
       ·rfl
       ·cases h
      refine ⟨_,_,hk,?_,hR2,hfr.trans hF2⟩;unfold qgw;rw [hop];simp only
      rw [if_pos hcond,hlk'];simp only
      rw [if_neg hrT,hsing,hupd];simp only
      rw [hysoft];rfl
     obtain ⟨hp0,y,u,hk,hupd,hyu⟩:=qx0 hcx _ _ _ h (qoW hs.E r0);split at hk
     ·rename_i hf;have hlk':=qhq hs.E _ _ _ _ _ _ hlk (λe he=>hp0 e (by simpa using he));obtain ⟨hR2,hF2⟩:=qcC hsoft (some r0) hyu;refine ⟨_,_,hk,?_,hR2,hfr.trans hF2⟩;unfold qgw;rw [hop];simp only
      rw [if_pos hcond,hlk'];simp only
      rw [if_neg hrT,hrev,hupd];simp only
      rw [RV.firm y u hf hyu];rfl
     ·cases hk
   ·rename_i q off p hlk;split at h
    ·rename_i cs hcs;split at h
     ·rename_i z hz;obtain ⟨c',hc',hrc⟩:=hs.box hcs;obtain ⟨z',hz',hrz⟩:=hrc.get hz;obtain ⟨hp0,y,u,hk,hupd,hyu⟩:=qx0 hcx _ _ _ h hrz;split at hk
      ·rename_i hf;have hlk':=qhq hs.E _ _ _ _ _ _ hlk (λe he=>hp0 e (by simpa using he));have hsb:(st.qbw (tmpsOf o)).box q=some (cs.map TV.qbx):=by
        have hL2:(st.qbw (tmpsOf o)).L=[]:=hL;refine qtr ?_ (qok (qjm hrc))
        replace hcs:=(qoJ hcs).1
        rw [qgF hL]at hcs;rw [qgF hL2];by_cases h0:q.lvl=0
        ·rw [if_pos h0]at hcs ⊢;simp only [TSt.qbw,qfC];split at hcs
         ·rename_i c hc;cases hcs;rw [hc];rfl
         ·cases hcs
        ·rw [if_neg h0]at hcs;cases hcs
       have hq0:q.lvl=0:=by
        rw [qcV hL']at hc';split at hc'
        ·assumption
        ·cases hc'
       obtain ⟨hR2,hF2⟩:=qg9 hsoft hsb ((qjm hrc).set off hyu) (λhlt=>qyx (qqU (hs.M.mp q.lvl q.slot c' (by rw [<- qK];exact hc') hlt)) (by obtain ⟨c9,l9,h9⟩:=qte hupd;rw [h9];rfl));refine ⟨_,_,hk,?_,hR2,hfr.trans hF2⟩;unfold qgw;rw [hop];simp only
       rw [if_pos hcond,hlk'];simp only
       rw [hc'];simp only
       rw [hz'];simp only
       rw [hrev,hupd];simp only
       rw [RV.firm y u hf hyu];simp only [qf,if_false,qb];unfold St.qo qkd;rw [if_pos (by rw [hq0,hL'];rfl)]
      ·cases hk
     ·cases h
    ·cases h
   ·cases h
  ·cases h
 ·cases h
theorem qwI{o:Oper}{E:Env}{E':List V}(h:RVL E.toL E')(hg:qsy H f o E=true):qd8 H f o E'=true:=by
 unfold qsy at hg;unfold qd8;simp only [Bool.or_eq_true,qe]at hg ⊢;refine hg.imp id λ⟨h1,h2⟩=>⟨?_,?_⟩
 ·rw [h.length,qgq];exact h1
 ·split
  ·rename_i t a hop;rw [hop]at h2;simp only [Bool.or_eq_true]at h2 ⊢;refine h2.imp id λh3=>?_;have:=qoW h a;cases hx:E.get a with
   |cptr l=>rw [hx]at this;simp only [RV]at this;obtain ⟨f',l',hl',_⟩:=this;rw [hl']<;>rfl
   |_=>rw [hx]at h3;cases h3
  ·rfl
theorem qk4(hT:TOk P H lib T)(hO:OOk P H lib O){ops:Array Oper}{R:Type}{k:TSt->Option R}{r:R}:∀(is:List Nat) (st:TSt) (s:St),Rst st s->quE P H J T O ctx f ops is st R k=some r ->
  ∃st' s',k st'=some r/\Ev (λC=>qfj P H C f ops is s=some s') P H lib/\Rst st' s'/\Fr2 st st' s s'
 |[],st,s,hs,h=>⟨st,s,h,.of λC=>rfl,hs,Fr2.refl _ _⟩
 |i::is,st,s,hs,h=>by
  simp only [quE]at h;split at h
  ·cases h
  ·rename_i o ho;obtain ⟨st1,b,hw,hs1,hf1,hb⟩:=qoU hs h;cases b with
   |true =>
    simp only [if_true]at hb;obtain ⟨st2,fp,s2,hk,hev,hR,hF,hkeep⟩:=qhJ hT hO hs1 hb;obtain ⟨st3,s3,hk3,hev3,hR3,hF3⟩:=qk4 hT hO is st2 s2 hR hk;refine ⟨st3,s3,hk3,(hev.and hev3).imp λC hC=>?_,hR3,(hf1.trans hF).trans hF3⟩;simp only [qfj,ho,hw,qjt,hC.1,qi,hC.2]
   |false =>
    simp only [qf,if_false]at hb;obtain ⟨hR,hF⟩:=qcC hs1 o.dst (v:=.val undef) (u:=.val undef) (by simp [RV]);obtain ⟨st3,s3,hk3,hev3,hR3,hF3⟩:=qk4 hT hO is _ _ hR hb;refine ⟨st3,s3,hk3,hev3.imp λC hC=>?_,hR3,(hf1.trans hF).trans hF3⟩;simp only [qfj,ho,hw,hC]
def Cov(l:List (Nat×Foot))(e:Nat×Foot):Prop:=∃e'∈l,e'.1=e.1/\e'.2.fp=e.2.fp/\e'.2.looks=e.2.looks/\∀t∈e.2.took,t∈e'.2.took
theorem qxW{o:Oper}{E:Env}{E':List V}(h:RVL E.toL E'):∀t∈qff H f o E',t∈qkm H f o E:=λt ht=>by
 unfold qff at ht;unfold qkm;split at ht
 ·rename_i htk;rw [if_pos htk];simp only [List.mem_filter]at ht ⊢;exact ⟨ht.1,RV.owns _ _ (qoW h t) ht.2⟩
 ·cases ht
theorem qlC(hT:TOk P H lib T)(hO:OOk P H lib O){ops:Array Oper}{R:Type}{k:TSt->List (Nat×Foot)->Option R}{r:R}:∀(is:List Nat) (st:TSt) (s:St) (acc:List (Nat×Foot)),Rst st s->qqC P H J T O ctx f ops is st acc R k=some r ->
  ∃st' s' fps fpv,k st' fps=some r/\Ev (λC=>qf0 P H C f ops is s=some (s',fpv)) P H lib/\Rst st' s'/\Fr2 st st' s s'/\(∀e∈acc,e∈fps)/\(∀e∈fpv,Cov fps e)
 |[],st,s,acc,hs,h=>⟨st,s,acc,[],h,.of λC=>rfl,hs,Fr2.refl _ _,λe he=>he,by simp⟩
 |i::is,st,s,acc,hs,h=>by
  simp only [qqC]at h;split at h
  ·cases h
  ·rename_i o ho;obtain ⟨st1,b,hw,hs1,hf1,hb⟩:=qoU hs h;cases b with
   |true =>
    simp only [if_true]at hb;obtain ⟨st2,fp,s2,hk,hev,hR,hF,hkeep⟩:=qhJ hT hO hs1 hb;obtain ⟨st3,s3,fps,fpv,hk3,hev3,hR3,hF3,hacc,hcov⟩:=qlC hT hO is st2 s2 _ hR hk;refine ⟨st3,s3,fps,(i,⟨fp,qff H f o s.E,qbv H f ops o⟩)::fpv,hk3,(hev.and hev3).imp λC hC=>?_,hR3,(hf1.trans hF).trans hF3,λe he=>hacc e (by simp [he]),λe he=>?_⟩
    ·simp only [qf0,qfQ,ho,hw,hC.1,qi,hC.2]
    ·rcases qk.1 he with rfl|he
     ·exact ⟨_,hacc _ (List.mem_cons_self ..),rfl,rfl,rfl,λt ht=>qxW hs1.E t ht⟩
     ·exact hcov e he
   |false =>
    simp only [qf,if_false]at hb;obtain ⟨hR,hF⟩:=qcC hs1 o.dst (v:=.val undef) (u:=.val undef) (by simp [RV]);obtain ⟨st3,s3,fps,fpv,hk3,hev3,hR3,hF3,hacc,hcov⟩:=qlC hT hO is _ _ _ hR hb;refine ⟨st3,s3,fps,(i,⟨.none,[],qbv H f ops o⟩)::fpv,hk3,hev3.imp λC hC=>?_,hR3,(hf1.trans hF).trans hF3,λe he=>hacc e (by simp [he]),λe he=>?_⟩
    ·simp only [qf0,qfQ,ho,hw,hC,qi]
    ·rcases qk.1 he with rfl|he
     ·exact ⟨_,hacc _ (List.mem_cons_self ..),rfl,rfl,rfl,λt ht=>by cases ht⟩
     ·exact hcov e he
theorem qBb{ops:Array Oper}{i:Nat}{o:Oper}{st:TSt}{s:St}{R:Type}{k:TSt->Hole->Option R}{r:R}(hs:Rst st s)(h:apT P H f ops i o st R k=some r) :
  ∃st' s' hole,k st' hole=some r/\qdP P H f ops i o s=some s'/\Rst st' s'/\Fr2 st st' s s'/\qzu hole s':=by
 unfold apT at h;split at h
 ·rename_i argTypes args _ hop;split at h
  ·rename_i d hd;split at h
   ·rename_i r0 j hlk;split at h
    ·cases h
    ·rename_i hrd;simp only [not_or]at hrd;split at h
     ·rename_i τ lv l hE;split at h
      ·rename_i hown;simp only [qe]at hown;obtain ⟨e,he,hk⟩:=qd.1 h;obtain ⟨h0,hget⟩:=qk9 he;have hlk':=qhq hs.E _ _ _ _ _ _ hlk (λe he=>by simp only [List.mem_singleton]at he;subst he;exact h0);have hr:=qoW hs.E r0;rw [hE]at hr;simp only [RV,RTy]at hr;obtain ⟨fl,c,l',hv,hfl,hall⟩:=hr;have hf:fl=.own:=hfl.own hown.1;subst hf;obtain ⟨b,hb,hrb⟩:=hall.get hget;have hrb0:RTy (.sl τ) (nx lv) e b:=hrb;obtain ⟨f2,c2,l2,rfl,hf2,hall2⟩:=hrb;have hf2':f2=.own:=hf2.own hown.2;subst hf2';have hlen:s.E.length=st.E.n:=by rw [hs.E.length,qgq]
       have hr0lt:r0<s.E.length:=by
        rcases Nat.lt_or_ge r0 s.E.length with h9|h9
        ·exact h9
        ·exfalso
         rw [List.getD_eq_getElem?_getD,List.getElem?_eq_none h9]at hv;cases hv
       have hjl:j.toNat<l'.length:=(qm.1 hb).1;have hdl:(V.sl .own c2 l2).q5=.sl .q5 c2 (reflagL qW l2):=rfl;let y:V:=.sl .own c (l'.set j.toNat (V.q5 (.sl .own c2 l2)))
       have hyp:y.qq=[]:=by simp [y,V.qq]
       refine ⟨_,{s with E:=(s.E.set r0 y).set d (.sl .own c2 l2)},_,hk,?_,⟨?_,hs.M⟩,?_,?_⟩
       ·unfold qdP;rw [hop];simp only
        rw [hd];simp only
        rw [hlk'];simp only [qim,qh,List.map_nil];rw [if_neg (by simp only [not_or];exact ⟨hrd.1,by omega⟩),hv];simp only [qzh,hb];simp [y]
       ·show RVL ((st.E.set r0 (.any [])).set d _).toL _;rw [qdD,qdD];refine (hs.E.set r0 ?_).set d ?_
        ·simp only [RV];exact ⟨by rw [hyp];simp,by simp [y,q3]⟩
        ·simp only [RV];exact hrb0
       ·refine ⟨λt ht=>by simp [Mask.mem_ins,ht],λq hq=>hq,λt ht=>.inl ?_,λt ht rs hE'=>?_,λq hq=>.inl rfl,λq hq h=>h,rfl,by simp⟩
        ·simp only [Mask.mem_ins,not_or]at ht;simp only
         rw [List.getElem?_set_ne (Ne.symm ht.2.1),List.getElem?_set_ne (Ne.symm ht.1)]
        ·simp only [Mask.mem_ins,not_or]at ht;simp only [qdD]at hE';rw [List.getElem?_set_ne (Ne.symm ht.2.1),List.getElem?_set_ne (Ne.symm ht.1)]at hE';exact ⟨rs,hE'⟩
       ·refine ⟨c,l',V.q5 (.sl .own c2 l2),?_,hall,rfl,by simp [hdl,V.oks,V.cells,V.one],λcs=>by rw [hdl];rfl,h0,hjl,hown.1⟩;simp only
        rw [List.getElem?_set_ne (Ne.symm hrd.1),List.getElem?_set_self hr0lt]
      ·cases h
     ·cases h
   ·cases h
  ·cases h
 ·cases h
theorem qgI(hT:TOk P H lib T)(hO:OOk P H lib O){ops:Array Oper}{R:Type}{k:TSt->List (Nat×Foot)->Option R}{r:R}:∀(is:List Nat) (st:TSt) (s:St) (hole:Option Hole) (acc:List (Nat×Foot)),Rst st s->qfR hole s->qgH P H J T O ctx f ops is st hole acc R k=some r ->
  ∃st' s' fps fpv,k st' fps=some r/\Ev (λC=>qd1 P H C f ops is s=some (s',fpv)) P H lib/\Rst st' s'/\Fr2 st st' s s'/\(∀e∈acc,e∈fps)/\(∀e∈fpv,Cov fps e)
 |[],st,s,hole,acc,hs,hh,h=>⟨st,s,acc,[],h,.of λC=>rfl,hs,Fr2.refl _ _,λe he=>he,by simp⟩
 |i::is,st,s,hole,acc,hs,hh,h=>by
  simp only [qgH]at h;split at h
  ·cases h
  ·rename_i o ho;split at h
   ·rename_i hls;obtain ⟨st2,s2,hk,hst,hR,hF⟩:=qBt hs hh h;obtain ⟨st3,s3,fps,fpv,hk3,hev3,hR3,hF3,hacc,hcov⟩:=qgI hT hO is st2 s2 none _ hR qjL hk;refine ⟨st3,s3,fps,(i,⟨.all,[],looksAt ops o⟩)::fpv,hk3,hev3.imp λC hC=>?_,hR3,hF.trans hF3,λe he=>hacc e (by simp [he]),λe he=>?_⟩
    ·simp only [qd1,qhZ,ho,hls,if_true,hst,qi,hC]
    ·rcases qk.1 he with rfl|he
     ·exact ⟨_,hacc _ (List.mem_cons_self ..),rfl,rfl,rfl,λt ht=>ht⟩
     ·exact hcov e he
   ·rename_i hls;have fin:∀(st:TSt) (s0:St) (hole:Option Hole),Rst st s0->qfR hole s0 ->
      (qqL ops o st R
       (λst=>qhb P H J T O ctx f o st R λst' fp=>qgH P H J T O ctx f ops is st' (qpc o hole) ((i,⟨fp,qkm H f o st.E,qbv H f ops o⟩)::acc) R k)
       (λst=>qgH P H J T O ctx f ops is (st.put o.dst (.val undef)) (qpc o hole) ((i,⟨.none,[],qbv H f ops o⟩)::acc) R k))=some r ->
      ∃st' s' fps fpv,k st' fps=some r/\Ev (λC=>∃s1 ft rest,qfQ P H C f ops i s0=some (s1,ft)/\qd1 P H C f ops is s1=some (s',rest)/\fpv=(i,ft)::rest) P H lib/\Rst st' s'/\Fr2 st st' s0 s'/\(∀e∈acc,e∈fps)/\(∀e∈fpv,Cov fps e):=by
     intro st s0 hole hs hh h;obtain ⟨st1,b,hw,hs1,hf1,hb⟩:=qoU hs h;cases b with
     |true =>
      simp only [if_true]at hb;obtain ⟨st2,fp,s2,hk,hev,hR,hF,hkeep⟩:=qhJ hT hO hs1 hb;obtain ⟨st3,s3,fps,fpv,hk3,hev3,hR3,hF3,hacc,hcov⟩:=qgI hT hO is st2 s2 _ _ hR (qtF hh hkeep) hk;refine ⟨st3,s3,fps,(i,⟨fp,qff H f o s0.E,qbv H f ops o⟩)::fpv,hk3,(hev.and hev3).imp λC hC=>⟨s2,_,fpv,?_,hC.2,rfl⟩,hR3,(hf1.trans hF).trans hF3,λe he=>hacc e (by simp [he]),λe he=>?_⟩
      ·simp only [qfQ,ho,hw,hC.1,qi]
      ·rcases qk.1 he with rfl|he
       ·exact ⟨_,hacc _ (List.mem_cons_self ..),rfl,rfl,rfl,λt ht=>qxW hs1.E t ht⟩
       ·exact hcov e he
     |false =>
      simp only [qf,if_false]at hb;obtain ⟨hR,hF⟩:=qcC hs1 o.dst (v:=.val undef) (u:=.val undef) (by simp [RV]);obtain ⟨st3,s3,fps,fpv,hk3,hev3,hR3,hF3,hacc,hcov⟩:=qgI hT hO is _ _ _ _ hR (qwD hh _) hb;refine ⟨st3,s3,fps,(i,⟨.none,[],qbv H f ops o⟩)::fpv,hk3,hev3.imp λC hC=>⟨_,_,fpv,?_,hC,rfl⟩,hR3,(hf1.trans hF).trans hF3,λe he=>hacc e (by simp [he]),λe he=>?_⟩
      ·simp only [qfQ,ho,hw]
      ·rcases qk.1 he with rfl|he
       ·exact ⟨_,hacc _ (List.mem_cons_self ..),rfl,rfl,rfl,λt ht=>by cases ht⟩
       ·exact hcov e he
    split at h
    ·rename_i hap;split at h
     ·cases h
     rename_i hilk;obtain ⟨st1,s1,hl,hk,hta,hR,hF,hhl⟩:=qBb hs h;obtain ⟨st3,s3,fps,fpv,hk3,hev3,hR3,hF3,hacc,hcov⟩:=fin st1 s1 (some hl) hR (λx hx=>by cases hx;exact hhl) hk;refine ⟨st3,s3,fps,fpv,hk3,hev3.imp λC ⟨s2,ft,rest,h1,h2,h3⟩=>?_,hR3,hF.trans hF3,hacc,hcov⟩;simp only [qd1,qhZ,ho,hls,hap,hilk,hta,if_true,qf,if_false,qa,h1,h2,h3,qi]
    ·rename_i hap;split at h
     ·rename_i hgt;have hg:=qwI hs.E hgt;obtain ⟨st3,s3,fps,fpv,hk3,hev3,hR3,hF3,hacc,hcov⟩:=fin st s hole hs hh h;refine ⟨st3,s3,fps,fpv,hk3,hev3.imp λC ⟨s2,ft,rest,h1,h2,h3⟩=>?_,hR3,hF3,hacc,hcov⟩;simp only [qd1,qhZ,ho,hls,hap,hg,if_true,qf,if_false,h1,h2,h3,qi]
     ·cases h
theorem qn0{l l' m:List Tmp}(h:∀t∈l,t∈l')(hm:meets l m=true):meets l' m=true:=by
 unfold meets at hm ⊢;rw [List.any_eq_true]at hm ⊢;obtain ⟨t,ht,h2⟩:=hm;exact ⟨t,h t ht,h2⟩
theorem qq9{U:List (Nat×Nat)}{fps fpv:List (Nat×Foot)}(hc:∀e∈fpv,Cov fps e)(h:qgU U fps=true):qgU U fpv=true:=by
 unfold qgU at h ⊢;rw [List.all_eq_true]at h ⊢;rintro ⟨i,j⟩ hu;have h1:=h (i,j) hu;simp only [List.all_eq_true]at h1 ⊢;rintro ⟨a,p⟩ ha;obtain ⟨⟨a',p'⟩,hp',hpa,hpf,hpl,hpt⟩:=hc (a,p) ha;simp only at hpa hpf hpl hpt;subst hpa;have h2:=h1 (a',p') hp';simp only [Bool.or_eq_true,List.all_eq_true]at h2 ⊢;rcases h2 with h2|h2
 ·exact .inl h2
 ·right
  rintro ⟨b,q⟩ hb;obtain ⟨⟨b',q'⟩,hq',hqa,hqf,hql,hqt⟩:=hc (b,q) hb;simp only at hqa hqf hql hqt;subst hqa;have h3:=h2 (b',q') hq';simp only [Bool.not_eq_true']at h3 ⊢;rcases h3 with h3|h3
  ·exact .inl h3
  ·right
   cases hcl:Foot.qfX p q with
   |false=>rfl
   |true =>
    have:Foot.qfX p' q'=true:=by
     unfold Foot.qfX at hcl ⊢;simp only [Bool.or_eq_true]at hcl ⊢;rw [<- hpf,<- hqf,<- hpl,<- hql]at hcl;rcases hcl with (h4|h4)|h4
     ·exact .inl (.inl h4)
     ·exact .inl (.inr (qn0 hpt h4))
     ·exact .inr (qn0 hqt h4)
    rw [this]at h3;cases h3
theorem qhs{σ ρ:Type}{g:σ->Option (σ⊕ρ)}{s:σ}{r:ρ}(h:qaP g s=some r):∃n,qhV g n s=some r:=by
 unfold qaP at h;split at h
 ·rename_i hex;cases h;exact ⟨_,Classical.choose_spec (Classical.choose_spec hex)⟩
 ·cases h
theorem qwM{j:Join}{bid:Nat}{c:Code}(ih:Snd (tx P H J T O ctx f bid c) (qx3 P H lib f bid c)){st:TSt}{s0:St}(hst:Rst st s0){R:Type}{k:Ex->TSt->Option R}{r:R} :
  ∀(n:Nat) (x:denL (j.ps.map (·.1))) (s:St),Rst (st.fresh.qbG j (ofL j.ps x)) s->Fr2 st.fresh (st.fresh.qbG j (ofL j.ps x)) s0 s ->
   qhV (λx=>match (st.fresh.qbG j (ofL j.ps x)).clear (H.clear f bid)with
      |some st1=>tx P H J T O ctx f bid c st1 (denL (j.ps.map (·.1))⊕R) λe st2=>match e with
       |.normal=>(st2.outs st j).map .inl
       |e=>(k e (st2.merge st)).map .inr
      |none=>none) n x=some r ->
   ∃e st' s',qx3 P H lib f bid (.loop c) s e s'/\Rst st' s'/\Fr2 st st' s0 s'/\k e st'=some r
 |0,x,s,hs,hf,h=>by simp [qhV]at h
 |n+1,x,s,hs,hf,h=>by
  simp only [qhV]at h;cases hcl:(st.fresh.qbG j (ofL j.ps x)).clear (H.clear f bid)with
  |none=>rw [hcl]at h;simp at h
  |some st1 =>
   rw [hcl]at h;simp only at h;obtain ⟨s1,hv1,hs1,hf1⟩:=qhi hs hcl;have done:∀(e:Ex) (st2:TSt) (s2:St),e≠.normal->qx3 P H lib f bid c s1 e s2->Rst st2 s2->Fr2 st1 st2 s1 s2->k e (st2.merge st)=some r ->
     ∃e st' s',qx3 P H lib f bid (.loop c) s e s'/\Rst st' s'/\Fr2 st st' s0 s'/\k e st'=some r:=by
    intro e st2 s2 hne hev hR hF hk;refine ⟨e,st2.merge st,s2,hev.imp λC hC=>?_,hR.merge,qtK ((hf.trans hf1).trans hF),hk⟩;simp only [ex,hv1,hC];cases e with
    |normal=>exact absurd rfl hne
    |_=>rfl
   split at h
   ·rename_i x' hx';obtain ⟨e,st2,s2,hev,hR,hF,hk⟩:=ih st1 _ _ _ s1 hx' hs1;cases e with
    |normal =>
     obtain ⟨y,hy,hy2⟩:=qc.1 hk;cases hy2;have hF0:Fr2 st.fresh st2 s0 s2:=(hf.trans hf1).trans hF;have hy':st2.outs st.fresh j=some x':=hy;obtain ⟨e',st',s',hev',hR',hF',hk'⟩:=qwM ih hst n x' s2 (qhD hst.fresh hR hF0 hy') (qhC (st:=st.fresh) hR hF0 hy') h;refine ⟨e',st',s',?_,hR',hF',hk'⟩;obtain ⟨n1,h1⟩:=hev;obtain ⟨n2,h2⟩:=hev';refine ⟨max n1 (n2+1),λm hm=>?_⟩;have e1:=h1 m (by omega);obtain ⟨m',rfl⟩:∃m',m=m'+1:=⟨m-1,by omega⟩
     have e2:=h2 m' (by omega);have hun:ex P H (qkV P H lib (m'+1)) f bid (.loop c) s=(match s.clear (H.clear f bid)with
      |some st=>match ex P H (qkV P H lib (m'+1)) f bid c st with
       |some (.normal,s)=>(qkV P H lib (m'+1)).code f bid (.loop c) s
       |r=>r
      |none=>none):=by simp only [ex]<;>rfl
     show ex P H (qkV P H lib (m'+1)) f bid (.loop c) s=_;rw [hun,hv1];simp only [e1];exact e2
    |exit id =>
     obtain ⟨y,hy,hy2⟩:=qc.1 hk;cases hy2
    |ret =>
     obtain ⟨y,hy,hy2⟩:=qc.1 hk;cases hy2
   ·rename_i y hx';cases h;obtain ⟨e,st2,s2,hev,hR,hF,hk⟩:=ih st1 _ _ _ s1 hx' hs1;cases e with
    |normal =>
     obtain ⟨y,hy,hy2⟩:=qc.1 hk;cases hy2
    |exit id =>
     obtain ⟨y',hy,hy2⟩:=qc.1 hk;cases hy2;exact done _ _ _ (by simp) hev hR hF hy
    |ret =>
     obtain ⟨y',hy,hy2⟩:=qc.1 hk;cases hy2;exact done _ _ _ (by simp) hev hR hF hy
   ·cases h
theorem qzd{j:Join}{st:TSt}{s:St}(hs:Rst st s)(hf:st.qjJ j=true){x:denL (j.ps.map (·.1))}(hx:asL j.ps (j.lv.map st.get)=some x) :
  Rst (st.fresh.qbG j (ofL j.ps x)) s/\Fr2 st.fresh (st.fresh.qbG j (ofL j.ps x)) s s:=by
 have ho:st.fresh.outs st.fresh j=some x:=by
  unfold TSt.outs;have h1:st.fresh.qjJ j=true:=hf;have h2:st.fresh.wrote j=true:=by
   have:Mask.empty.sub j.D=true:=Mask.qBI λt ht=>absurd ht Mask.mem_empty;simp [TSt.wrote,TSt.fresh,this]
  have h3:st.fresh.qBU st.fresh j=true:=by
   unfold TSt.qBU;rw [List.all_eq_true];intro r _;cases st.fresh.cont r<;>simp
  rw [h1,h2,h3];exact hx
 exact ⟨qhD hs.fresh hs.fresh (Fr2.refl _ _) ho,qhC (st:=st.fresh) hs.fresh (Fr2.refl _ _) ho⟩
theorem qm9(ops:Array Oper):qgy H ops true=none:=by
 unfold qgy;split
 ·rename_i h _;cases h
 ·rfl
theorem qwb(s:St):s.clear []=some s:=by
 have h1:qT [] s.B=s.B:=by
  have:∀B:Level,qT [] B=B:=λB=>by
   induction B with
   |nil=>rfl
   |cons p B ih=>obtain ⟨k,c⟩:=p;simp [qT,ih]
  exact this s.B
 unfold St.clear;simp only [h1,true_or,if_true];rfl
theorem qAz{D:List Tmp}{st st1:TSt}{s:St}(h:Rst st s)(hc:qA0 D st=some st1):∃s1,s.clear D=some s1/\Rst st1 s1/\Fr2 st st1 s s1:=by
 cases D with
 |nil =>
  simp only [qA0,qb]at hc;subst hc;exact ⟨s,qwb s,h,Fr2.refl _ _⟩
 |cons d D=>exact qhi h hc
theorem qfB(L:List qI)(B:qI)(l k:Nat):qad (L++[B]) l k=if l=L.length then qU B k else qad L l k:=by
 unfold qad;by_cases h:l=L.length
 ·subst h;simp
 ·rw [if_neg h];by_cases hlt:l<L.length
  ·rw [qg hlt]
  ·rw [List.getElem?_eq_none (by simp;omega),List.getElem?_eq_none (by omega)]
theorem qb5(L:List Level)(B:Level)(l k:Nat):qaj (L++[B]) l k=if l=L.length then qy B k else qaj L l k:=by
 unfold qaj;by_cases h:l=L.length
 ·subst h;simp
 ·rw [if_neg h];by_cases hlt:l<L.length
  ·rw [qg hlt]
  ·rw [List.getElem?_eq_none (by simp;omega),List.getElem?_eq_none (by omega)]
theorem LR.last{M:List qI}{M':List Level}{b:qI}{b':Level}(h:LR (M++[b]) (M'++[b']))(k:Nat):RB (qU b k) (qy b' k):=by
 have hl:M'.length=M.length:=by have:=h.len;simp at this;exact this
 have:=h.rel M.length k;rw [qfB,qb5,if_pos rfl,if_pos hl.symm]at this;exact this
theorem LR.qzL{M:List qI}{M':List Level}{b c:qI}{b' c':Level}(h:LR (M++[b]) (M'++[b']))(hr:∀k,RB (qU c k) (qy c' k))(hn:(c'.map (·.1)).Nodup)(hm:∀k x,qy c' k=some x->k<16384->qfP x=false):LR (M++[c]) (M'++[c']):=by
 have hl:M'.length=M.length:=by have:=h.len;simp at this;exact this
 refine ⟨by simp [hl],λl k=>?_,λq hq=>?_,λl k x hx hlt=>?_⟩
 ·have:=h.rel l k;rw [qfB,qb5,hl]at this ⊢;by_cases e:l=M.length
  ·rw [if_pos e,if_pos e];exact hr k
  ·rw [if_neg e,if_neg e]at this ⊢;exact this
 ·simp only [qj,List.mem_singleton]at hq;rcases hq with hq|rfl
  ·exact h.nd q (by simp [hq])
  ·exact hn
 ·have:=h.mp l k x;rw [qb5]at this hx;by_cases e:l=M'.length
  ·rw [if_pos e]at hx;exact hm k x hx hlt
  ·rw [if_neg e]at this hx;exact this hx hlt
theorem qw8{M:List qI}{M':List Level}{b:qI}{b':Level}(h:LR (M++[b]) (M'++[b']))(hf:quG b=true){r:Root}(hr:r∈qkW b'):r∈qjf b:=by
 obtain ⟨k,c,hk,hrc⟩:=qrn hr;have hlk:=qfA (h.nd b' (by simp)) hk;have hb:=h.last k;cases ht:qU b k with
 |none=>rw [ht]at hb;simp only [RB]at hb;rw [hb]at hlk;cases hlk
 |some o =>
  obtain ⟨d,rfl⟩:=qtw hf (qc7 ht);rw [ht]at hb;obtain ⟨d',hd',hr'⟩:=hb;rw [hd']at hlk;cases hlk;exact qn3 (qc7 ht) (hr'.qq r hrc)
theorem qy0(hT:TOk P H lib T)(hO:OOk P H lib O){bid:Nat}{g:Operand}{ps:Array Tmp}{asz bo:Code}{st:TSt}{R:Type}{k:Ex->TSt->Option R}{r:R}{s:St}
  (h:tx P H J T O ctx f bid (.rangeFunc g ps asz bo) st R k=some r) (hs:Rst st s) :
  ∃e st' s',qx3 P H lib f bid (.rangeFunc g ps asz bo) s e s'/\Rst st' s'/\Fr2 st st' s s'/\k e st'=some r:=by
 simp only [tx]at h;split at h
 ·rename_i hh first cap t ts hgv hps;split at h
  ·rename_i hnb;simp only [qe,Option.isNone_iff_eq_none,decide_eq_true_eq]at hnb;obtain ⟨hn,ht⟩:=hnb;have hlen:=hs.len;have hnV:=qeq hs hn;have hg:=qy1 (H:=H) (f:=f) (o:=default) hs.E g;rw [hgv]at hg;simp only [RV]at hg;obtain ⟨first',cap',hV,hf1,hc1⟩:=hg;have hE:RVL (dullL st.E.toL) (s.E.map V.q5):=by
    have:=hs.E.q5;rw [qaa]at this;exact this
   have hR1:Rst {st with B:=(t,some [.lp .ready none f (dullL st.E.toL) (t::ts) asz bo])::st.B,Wb:=⟨st.L.length,t⟩::st.Wb} {s with B:=(t,[.lp .ready none f (s.E.map V.q5) (t::ts) asz bo])::s.B}:=by
    refine ⟨hs.E,LR.qzL hs.M (λq=>?_) ?_ (λq x hx hlt=>?_)⟩
    ·simp only [qU,qy];by_cases e:t=q
     ·rw [if_pos e,if_pos e];exact ⟨_,rfl,_,rfl,hE⟩
     ·rw [if_neg e,if_neg e];exact hs.M.last q
    ·have:=hs.M.nd s.B (by simp [qcO]);simp only [qh,List.nodup_cons];refine ⟨λhm=>?_,this⟩;obtain ⟨⟨k',c⟩,hp,hp2⟩:=List.mem_map.1 hm;simp only at hp2;subst hp2;rw [qfA this hp]at hnV;cases hnV
    ·simp only [qy]at hx;by_cases e:t=q
     ·rw [if_pos e]at hx;cases hx;rfl
     ·rw [if_neg e]at hx;refine hs.M.mp s.L.length q x ?_ hlt;unfold qcO;rw [qb5,if_pos rfl];exact hx
   have hfv:RV (.fn hh first cap) (.fn hh first' cap'):=by simp only [RV];exact ⟨_,_,rfl,hf1,hc1⟩
   have hyl:RVL [.yld ⟨st.L.length,t⟩] [.yld ⟨s.L.length,t⟩]:=by rw [hlen];exact qx.2 ⟨by simp only [RV],q6⟩
   obtain ⟨v,st2,u,s2,hk,hev,_,hR2,hF2,hE2,hE2',_⟩:=qqm hT hO hfv hyl hR1 h;simp only at hk hE2 hE2';split at hk
   ·rename_i hcond;simp only [qe]at hcond;obtain ⟨hok,hfull⟩:=hcond;have hlen2:=hR2.len;have hlen3:s2.L.length=s.L.length:=hF2.len;have hcl:∀q,RB (qU (qau [t] st2.B) q) (qy (qT [t] s2.B) q):=λq=>by
     rw [qeJ,qaz];by_cases e : [t].contains q=true
     ·rw [if_pos e,if_pos e];rfl
     ·rw [if_neg e,if_neg e];exact hR2.M.last q
    have hM3:LR (st2.L++[qau [t] st2.B]) (s2.L++[qT [t] s2.B]):=by
     refine LR.qzL hR2.M hcl ((hR2.M.nd s2.B (by simp [qcO])).sublist ((qjC [t] s2.B).map _)) (λq x hx hlt=>?_);rw [qaz]at hx;split at hx
     ·cases hx
     ·refine hR2.M.mp s2.L.length q x ?_ hlt;unfold qcO;rw [qb5,if_pos rfl];exact hx
    have hokV:qcY s.L.length [t] (qkW (qT [t] s2.B))=true:=by
     unfold qcY at hok ⊢;rw [List.all_eq_true]at hok ⊢;intro q hq;rw [hlen];exact hok q (qw8 hM3 hfull hq)
    have hvB:∀{x pe g3 env3 ps3 as3 bo3},qU st2.B t=some (some [.lp x pe g3 env3 ps3 as3 bo3])->∃env3',qy s2.B t=some [.lp x pe g3 env3' ps3 as3 bo3]:=λhl=>by
     have:=hR2.M.last t;rw [hl]at this;obtain ⟨c',h1,env',rfl,_⟩:=this;exact ⟨env',h1⟩
    have hrest:Rst {st2 with B:=qau [t] st2.B,Wb:=st.Wb++st2.Wb.filter (λq=>!decide (q=⟨st.L.length,t⟩))} {s with L:=s2.L,B:=qT [t] s2.B}/\Fr2 st {st2 with B:=qau [t] st2.B,Wb:=st.Wb++st2.Wb.filter (λq=>!decide (q=⟨st.L.length,t⟩))} s {s with L:=s2.L,B:=qT [t] s2.B}:=by
     refine ⟨⟨by have:=hR2.E;rw [hE2']at this;exact this,hM3⟩,⟨λx hx=>hF2.wt x hx,λx hx=>by simp [hx],λx hx=>.inl rfl,λx hx rs hr=>⟨rs,by rw [<- hE2];exact hr⟩,λq hq=>?_,λq hq hsm=>?_,hlen3,rfl⟩⟩
     ·have eB:∀q:Root,q≠⟨st.L.length,t⟩->({s with L:=s2.L,B:=qT [t] s2.B}:St).box q=s2.box q:=λq hq=>by
       rw [qK,qK];unfold qcO;rw [qb5,qb5];by_cases e:q.lvl=s2.L.length
       ·rw [if_pos e,if_pos e,qaz,if_neg];intro hc;simp only [List.contains_cons,List.contains_nil,Bool.or_false,beq_iff_eq]at hc;exact hq (by cases q;simp only at hc e ⊢;subst hc;rw [e,hlen3,hlen])
       ·rw [if_neg e,if_neg e]
      have eS:∀q:Root,q≠⟨st.L.length,t⟩->({s with B:=(t,[.lp .ready none f (s.E.map V.q5) (t::ts) asz bo])::s.B}:St).box q=s.box q:=λq hq=>by
       rw [qK,qK];unfold qcO;rw [qb5,qb5];by_cases e:q.lvl=s.L.length
       ·rw [if_pos e,if_pos e];simp only [qy];rw [if_neg];intro hc;exact hq (by cases q;simp only at hc e ⊢;subst hc;rw [e,hlen])
       ·rw [if_neg e,if_neg e]
      by_cases e:q=⟨st.L.length,t⟩
      ·subst e;left
       rw [qK,qK];unfold qcO;rw [qb5,qb5];simp only
       rw [if_pos (by omega),if_pos hlen.symm,qaz,if_pos (by simp),hnV]
      ·have hq2:q∉st2.Wb:=λhm=>hq (by
        simp only [qj,List.mem_filter];exact .inr ⟨hm,by simp [e]⟩)
       rw [eB q e];rcases hF2.b q hq2 with h9|⟨h9,h10,h11,h12⟩
       ·left;rw [h9,eS q e]
       ·right
        refine ⟨h9,?_,by rw [h11,eS q e],h12⟩;rw [qaK]at h10 ⊢;unfold TSt.all at h10 ⊢;rw [qfB]at h10 ⊢;by_cases e2:q.lvl=st.L.length
        ·simp only [e2,if_true,qU]at h10 ⊢;rw [if_neg (by intro hc;exact e (by cases q;simp only at hc e2 ⊢;subst hc;rw [e2]))]at h10;exact h10
        ·simp only [e2,if_false]at h10 ⊢;exact h10
     ·by_cases e:q=⟨st.L.length,t⟩
      ·subst e;rw [qaK]at hsm;unfold TSt.all at hsm;rw [qfB,if_pos rfl,hn]at hsm;cases hsm
      ·have hq2:q∉st2.Wb:=λhm=>hq (by
        simp only [qj,List.mem_filter];exact .inr ⟨hm,by simp [e]⟩)
       have i1:=hF2.bn q hq2 (by
        rw [qaK]at hsm ⊢;unfold TSt.all at hsm ⊢;rw [qfB]at hsm ⊢;by_cases e2:q.lvl=st.L.length
        ·simp only [e2,if_true,qU]at hsm ⊢;rw [if_neg (by intro hc;exact e (by cases q;simp only at hc e2 ⊢;subst hc;rw [e2]))];exact hsm
        ·simp only [e2,if_false]at hsm ⊢;exact hsm)
       rw [qaK]at i1 ⊢;unfold TSt.all at i1 ⊢;rw [qfB]at i1 ⊢;by_cases e2:q.lvl=st2.L.length
       ·simp only [e2,if_true]at i1 ⊢;rw [qeJ,if_neg]
        ·exact i1
        ·intro hc;simp only [List.contains_cons,List.contains_nil,Bool.or_false,beq_iff_eq]at hc;exact e (by cases q;simp only at hc e2 ⊢;subst hc;rw [e2];congr 1;omega)
       ·simp only [e2,if_false]at i1 ⊢;exact i1
    have hnV':(qy s.B t).isNone=true:=by rw [hnV];rfl
    split at hk
    ·rename_i hl;obtain ⟨env3',hb⟩:=hvB hl;exact ⟨.normal,_,_,hev.imp λC ⟨hC,_⟩=>by simp only [ex,hV,hps,hnV',if_true,hC,hokV,hb],hrest.1,hrest.2,hk⟩
    ·rename_i hl;obtain ⟨env3',hb⟩:=hvB hl;exact ⟨.ret,_,_,hev.imp λC ⟨hC,_⟩=>by simp only [ex,hV,hps,hnV',if_true,hC,hokV,hb],hrest.1,hrest.2,hk⟩
    ·rename_i id _ _ _ _ _ hl;obtain ⟨env3',hb⟩:=hvB hl;exact ⟨.exit _,_,_,hev.imp λC ⟨hC,_⟩=>by simp only [ex,hV,hps,hnV',if_true,hC,hokV,hb],hrest.1,hrest.2,hk⟩
    ·cases hk
   ·cases hk
  ·cases h
 ·cases h
theorem qwy{E:Env}{E':List V}(h:RVL E.toL E'){x:Operand}(hx:qBT E x=true):qAY E' x=true:=by
 unfold qBT at hx;unfold qAY;split at hx
 ·rename_i t;split at hx
  ·rename_i k o n ht;have hr:=qoW h t;rw [ht]at hr;simp only [RV,RTy]at hr;cases hE:E'[t]? with
   |none=>rw [List.getD_eq_getElem?_getD,hE]at hr;cases hr
   |some v =>
    rw [List.getD_eq_getElem?_getD,hE]at hr;simp only [Option.getD_some]at hr;subst hr;simp only [hE]
  ·cases hx
 ·rename_i v;split at hx
  ·rfl
  ·cases hx
 ·cases hx
theorem qw7{E:Env}{E':List V}(h:RVL E.toL E'){t:Tmp}{r:Root}{off:Nat}(hx:E.get t=.ptr r off):E'[t]?=some (.ptr r off):=by
 have hr:=qoW h t;rw [hx]at hr;simp only [RV]at hr;cases hE:E'[t]? with
 |none=>rw [List.getD_eq_getElem?_getD,hE]at hr;cases hr
 |some v =>
  rw [List.getD_eq_getElem?_getD,hE]at hr;simp only [Option.getD_some]at hr;rw [hr]
theorem qsJ{ops:Array Oper}{st:TSt}{s:St}(hs:Rst st s)(h:qpy ops st=true):qpx ops s=true:=by
 unfold qpy at h;unfold qpx;refine List.all_eq_true.2 λo ho=>?_;have h1:=List.all_eq_true.1 h o ho;unfold qtS at h1;unfold qmx;split at h1
 ·rename_i op t x y t2 hop;simp only [qe]at h1;simp only [hop];rw [qwy hs.E h1.1,qwy hs.E h1.2];rfl
 ·rename_i t a hop;simp only [hop];split at h1
  ·rename_i r off ha;simp only [qe,decide_eq_true_eq]at h1;obtain ⟨⟨hsl,hb⟩,hbx⟩:=h1;split at hbx
   ·rename_i cs hcs;obtain ⟨c',hc',hrc⟩:=hs.box hcs;have hlp:=qcX (qal hrc) (hs.M.mp r.lvl r.slot c' (by rw [<- qK];exact hc') hsl);rw [qw7 hs.E ha];simp only [hc',hlp,Bool.not_false,Bool.true_and,qe,decide_eq_true_eq];refine ⟨?_,by rw [hrc.length];simpa using hbx⟩;unfold qBd at hb;unfold qx9;obtain ⟨o2,ho2,h2⟩:=List.any_eq_true.1 hb;obtain ⟨t2,ht2,h3⟩:=List.any_eq_true.1 h2;refine List.any_eq_true.2 ⟨o2,ho2,List.any_eq_true.2 ⟨t2,ht2,?_⟩⟩;simp only [qe]at h3 ⊢;refine ⟨h3.1,?_⟩;have h4:=h3.2;unfold qzE at h4;split at h4
    ·rename_i r' o' hE;rw [qw7 hs.E hE];exact h4
    ·cases h4
   ·cases hbx
  ·cases h1
 ·rename_i hn1 hn2;split
  ·rename_i op t x y t2 hop;exact absurd hop (hn1 _ _ _ _ _)
  ·rename_i t a hop;exact absurd hop (hn2 _ _)
  ·rfl
theorem qBf{st:TSt}{s:St}(hs:Rst st s):∀r c,st.bxF r=some c->∃c',bxH s r=some c'/\RVL c c'/\(r.slot<16384->qfP c'=false):=by
 intro r c h;unfold TSt.bxF at h;split at h
 ·rename_i c0 hc;split at h
  ·rename_i hf;simp only [qb]at h;subst h;simp only [qe,decide_eq_true_eq]at hf;obtain ⟨c',h1,h2⟩:=hs.box hc;have hmp:=hs.M.mp r.lvl r.slot c' (by rw [<- qK];exact h1) hf.2;refine ⟨c',?_,h2,λ_=>hmp⟩;unfold bxH;rw [h1];simp only
   rw [qcX (qal h2) hmp,RVL.firm _ _ hf.1 h2];rfl
  ·cases h
 ·cases h
theorem qwY{x:TV}{v:V}(h:qwX x=true)(hr:RV x v):qsE v=true:=by
 unfold qwX at h;simp only [Bool.or_eq_true]at h;rcases h with h|h
 ·unfold qsE;rw [RV.qb9 _ _ h hr];rfl
 ·cases x<;>try (cases h;done)
  simp only [RV]at hr;obtain ⟨f,c,rfl,_⟩:=hr;unfold qsE;cases f<;>simp [V.qb9,mineL]
theorem qpP:∀{l:List V},(∀y∈l,y.soft=false)->softL l=false
 |[],_=>rfl
 |y::l,h=>by
  simp only [softL,Bool.or_eq_false_iff];exact ⟨h y (by simp),qpP λz hz=>h z (by simp [hz])⟩
theorem qBA(hO:OOk P H lib O){o:Oper}{st:TSt}{s:St}{R:Type}{k:TSt->Option R}{r:R}(hs:Rst st s)(h:owT H O ctx f o st R k=some r) :
  ∃st' s',k st'=some r/\Ev (λC=>qri H C f o s=some s') P H lib/\Rst st' s'/\Fr2 st st' s s':=by
 unfold owT at h;split at h
 rotate_left
 ·cases h
 rename_i g args _ hop;split at h
 rotate_left
 ·cases h
 rename_i e rest hargs;split at h
 rotate_left
 ·cases h
 rename_i hc;simp only [qe,List.isEmpty_iff]at hc;obtain ⟨⟨⟨⟨hL,hn0⟩,hgd⟩,hgo⟩,hnd⟩:=hc;obtain ⟨hL',hnl,hR1,hF1⟩:=qfM hs hL hn0 [];split at h
 rotate_left
 ·cases h
 rename_i c0 τ lv l xs hxs;split at h
 rotate_left
 ·cases h
 rename_i hc2;simp only [qe,decide_eq_true_eq,Bool.not_eq_true']at hc2;obtain ⟨⟨⟨hlv,hdep⟩,hfirm⟩,hown⟩:=hc2;have hrds:=qxd (H:=H) (f:=f) (o:=o) hs.E o.op.operands.toList;rw [hxs]at hrds;obtain ⟨c0',m1,hm1,hr0,hrest⟩:=(by simpa only [RVL]using hrds:∃v m,o.op.operands.toList.map (rd H f o s.E)=v::m/\RV c0 v/\RVL (TV.t (.sl τ) lv l::xs) m)
 obtain ⟨v1,m2,hm2,hr1,hrx⟩:=(by simpa only [RVL]using hrest:∃v m,m1=v::m/\RV (TV.t (.sl τ) lv l) v/\RVL xs m)
 have hr1':=hr1;simp only [RV,RTy]at hr1;obtain ⟨fl,c,l',rfl,hfl,hall⟩:=hr1;have hfe:=hfl.own hlv;subst hfe;split at h
 rotate_left
 ·cases h
 rename_i ys hys;split at h
 rotate_left
 ·cases h
 rename_i hc3;simp only [qe,Bool.not_eq_true',List.isEmpty_iff]at hc3;obtain ⟨⟨hkn,hptr⟩,hoy⟩:=hc3;obtain ⟨us,hus,hru⟩:=peekTL_ok (qBf hs) _ _ _ hys hrx;have hpus:ptrsL us=[]:=by rw [RVL.ptrs_eq _ _ hkn hru];exact hptr
 obtain ⟨x,v,hk,hrv,hev⟩:=hO.own _ _ _ _ _ _ _ h (qx.2 ⟨hr1',hru⟩);split at hk
 rotate_left
 ·cases hk
 rename_i hc4;simp only [qe,List.isEmpty_iff]at hc4;obtain ⟨⟨hkx,hpx⟩,hok⟩:=hc4;obtain ⟨hR2,hF2⟩:=qcC hR1 (some e) (qaR []);obtain ⟨hR3,hF3⟩:=qcC hR2 o.dst hrv;refine ⟨_,_,hk,hev.imp λC hC=>?_,hR3,(hF1.trans hF2).trans hF3⟩;have hsl:softL l'=false:=by
  refine qpP λy hy=>?_;obtain ⟨a,_,ha⟩:=qck hall y hy;exact (qdW _ _ _ _ (by rw [hdep];unfold sure;split<;>simp) ha).1
 have hol:ownsL l'=false:=by
  cases ho:ownsL l' with
  |false=>rfl
  |true =>
   obtain ⟨y,hy,hy2⟩:=qgZ.1 ho;obtain ⟨a,_,ha⟩:=qck hall y hy;have:=(qfd _ _ _ _ ha hy2).2;omega
 have hom:ownsL m2=false:=by
  cases ho:ownsL m2 with
  |false=>rfl
  |true=>rw [RVL.owns _ _ hrx ho]at hown;cases hown
 have hpv:v.qq=[]:=by
  rw [RV.ptrs_eq _ _ hkx hrv];exact hpx
 unfold qri;rw [hop];simp only
 rw [hargs];simp only
 rw [if_pos (by rw [hL',hnl,hgd,hgo,hnd];rfl)];rw [hop]at hm1;rw [hm1,hm2];simp only
 rw [hsl,hol,RVL.firm _ _ hfirm hrx,hom];simp only [Bool.not_false,Bool.and_self,if_true];rw [hus];simp only
 rw [hpus];simp only [List.isEmpty_nil,if_true];rw [hC];simp only
 rw [hpv,qwY hok hrv];rfl
theorem qoR(hT:TOk P H lib T)(hO:OOk P H lib O){ops:Array Oper}{R:Type}{k:TSt->Option R}{r:R}:∀(is:List Nat) (st:TSt) (s:St),Rst st s->qAW P H J T O ctx f ops is st R k=some r ->
  ∃st' s',k st'=some r/\Ev (λC=>exW P H C f ops is s=some s') P H lib/\Rst st' s'/\Fr2 st st' s s'
 |[],st,s,hs,h=>⟨st,s,h,.of λC=>rfl,hs,Fr2.refl _ _⟩
 |i::is,st,s,hs,h=>by
  simp only [qAW]at h;split at h
  ·cases h
  ·rename_i o ho;split at h
   ·rename_i hw;obtain ⟨st1,s1,hk,hev,hR,hF⟩:=qBA hO hs h;obtain ⟨st3,s3,hk3,hev3,hR3,hF3⟩:=qoR hT hO is st1 s1 hR hk;refine ⟨st3,s3,hk3,(hev.and hev3).imp λC hC=>?_,hR3,hF.trans hF3⟩;simp only [exW,ho,hw,if_true,hC.1,hC.2]
   ·rename_i hnw;obtain ⟨st1,b,hw,hs1,hf1,hb⟩:=qoU hs h;cases b with
    |true =>
     simp only [if_true]at hb;obtain ⟨st2,fp,s2,hk,hev,hR,hF,hkeep⟩:=qhJ hT hO hs1 hb;obtain ⟨st3,s3,hk3,hev3,hR3,hF3⟩:=qoR hT hO is st2 s2 hR hk;refine ⟨st3,s3,hk3,(hev.and hev3).imp λC hC=>?_,hR3,(hf1.trans hF).trans hF3⟩;simp only [exW,ho];rw [if_neg hnw];simp only [qfQ,ho,hw,hC.1,qi,hC.2]
    |false =>
     simp only [qf,if_false]at hb;obtain ⟨hR,hF⟩:=qcC hs1 o.dst (v:=.val undef) (u:=.val undef) (by simp [RV]);obtain ⟨st3,s3,hk3,hev3,hR3,hF3⟩:=qoR hT hO is _ _ hR hb;refine ⟨st3,s3,hk3,hev3.imp λC hC=>?_,hR3,(hf1.trans hF).trans hF3⟩;simp only [exW,ho];rw [if_neg hnw];simp only [qfQ,ho,hw,hC]
theorem qqz{st:TSt}{s:St}(hs:Rst st s)(hL:st.L=[])(hn0:qgV st.B=true)(a b x t:Tmp) :
  s.L=[]/\qca s.B=true/\Rst (qqy st a b x t) {s with E:=((((s.E.set a .undef).set b .undef).set x .undef).map V.qbx).set t .undef,B:=qbN s.B}/\Fr2 st (qqy st a b x t) s {s with E:=((((s.E.set a .undef).set b .undef).set x .undef).map V.qbx).set t .undef,B:=qbN s.B}:=by
 obtain ⟨hR1,hF1⟩:=qcC hs (some a) (qaR []);obtain ⟨hR2,hF2⟩:=qcC hR1 (some b) (qaR []);obtain ⟨hR3,hF3⟩:=qcC hR2 (some x) (qaR []);obtain ⟨hL',hnl,hR4,hF4⟩:=qfM hR3 hL hn0 [];obtain ⟨hR5,hF5⟩:=qcC hR4 (some t) (qaR []);exact ⟨hL',hnl,hR5,(((hF1.trans hF2).trans hF3).trans hF4).trans hF5⟩
theorem qhn{E:List V}{t:Nat}{v:V}(h:E.getD t .undef=v)(hv:v≠.undef):E[t]?=some v:=by
 rw [List.getD_eq_getElem?_getD]at h;cases hE:E[t]? with
 |none=>rw [hE]at h;exact absurd h.symm hv
 |some u=>rw [hE]at h;simpa using h
theorem qrk{τ:Ty}{lv:Nat}{l:List τ.den}{l':List V}(hdep:τ.depth=0)(hel:τ.qbn=true)(hall:All2 (RTy τ (nx lv)) l l'){n:Nat}(hn:τ.qaU=n) :
  softL l'=false/\ownsL l'=false/\l'.all (λe=>decide (e.cells.length=n))=true:=by
 refine ⟨qpP λy hy=>?_,?_,?_⟩
 ·obtain ⟨a,_,ha⟩:=qck hall y hy;exact (qdW _ _ _ _ (by rw [hdep];unfold sure;split<;>simp) ha).1
 ·cases ho:ownsL l' with
  |false=>rfl
  |true =>
   obtain ⟨y,hy,hy2⟩:=qgZ.1 ho;obtain ⟨a,_,ha⟩:=qck hall y hy;have:=(qfd _ _ _ _ ha hy2).2;omega
 ·rw [List.all_eq_true];intro y hy;obtain ⟨a,_,ha⟩:=qck hall y hy;rw [decide_eq_true_eq,(qhG hel ha).1,hn]
theorem qAa{ops:Array Oper}{st:TSt}{s:St}{R:Type}{k:TSt->Option R}{r:R}(hs:Rst st s)(h:qB5 P ops st R k=some r) :
  ∃st' s',k st'=some r/\qjE P ops s=some s'/\Rst st' s'/\Fr2 st st' s s':=by
 unfold qB5 at h;split at h
 rotate_left
 ·cases h
 rename_i ty t i a b x d hcut;split at h
 rotate_left
 ·cases h
 rename_i hc;simp only [qe,decide_eq_true_eq,List.isEmpty_iff]at hc;obtain ⟨⟨⟨⟨hL,hn0⟩,ha⟩,hb⟩,hx⟩:=hc;obtain ⟨hL',hnl,hR,hF⟩:=qqz hs hL hn0 a b x t;split at h
 rotate_left
 ·cases h
 rename_i elem τ lv l kk o n hund hgt hgi;split at h
 rotate_left
 ·cases h
 rename_i hc2;simp only [qe,decide_eq_true_eq]at hc2;obtain ⟨⟨⟨⟨hlv,hdep⟩,hel⟩,hs0⟩,hnc⟩:=hc2;obtain ⟨l2,hl2,hk⟩:=qd.1 h;have hrt:=qoW hs.E t;rw [hgt]at hrt;simp only [RV,RTy]at hrt;obtain ⟨fl,c,l',hvt,hfl,hall⟩:=hrt;have hfe:=hfl.own hlv;subst hfe;have hri:=qoW hs.E i;rw [hgi]at hri;simp only [RV,RTy]at hri;have hEt:=qhn hvt (by simp);have hEi:=qhn hri (by simp);obtain ⟨hsl,hol,hcl⟩:=qrk hdep hel hall hnc;have hlen:=hall.length;unfold qBj at hl2;split at hl2
 rotate_left
 ·cases hl2
 rename_i hn;simp only [qb]at hl2;subst hl2;obtain ⟨hne,hn1,hn2⟩:=hn;have hne':l'.isEmpty=false:=by
  cases l' with
  |nil=>cases l with
   |nil=>cases hne
   |cons=>simp at hlen
  |cons=>rfl
 have hval:qjE P ops s=some (({s with E:=((((s.E.set a .undef).set b .undef).set x .undef).map V.qbx).set t .undef,B:=qbN s.B}:St).put (some d) (qyi c l' n.toNat)):=by
  unfold qjE;rw [hcut];simp only
  rw [if_pos (by simp only [qe,decide_eq_true_eq];refine ⟨⟨⟨⟨by rw [hL'];rfl,hnl⟩,?_⟩,?_⟩,?_⟩<;>(rw [hs.E.length,qgq];assumption)),hund,hEt,hEi];simp only
  rw [if_pos ⟨hn1,by omega,hne',hsl,hol,hs0,hcl⟩]
 cases hz:decide (n=0)with
 |true =>
  rw [hz]at hk;simp only [cond_true]at hk;have hn0' : @Eq Int n 0:=of_decide_eq_true hz;have hv:RV (.empty 0) (qyi c l' n.toNat):=by
   unfold qyi;rw [if_pos (by omega)];simp [RV,FlR,qaE]
  obtain ⟨hR2,hF2⟩:=qcC hR (some d) hv;exact ⟨_,_,hk,hval,hR2,hF.trans hF2⟩
 |false =>
  rw [hz]at hk;simp only [cond_false]at hk;have hn0':¬ @Eq Int n 0:=of_decide_eq_false hz;have hv:RV (.t (.sl τ) lv (l.take n.toNat)) (qyi c l' n.toNat):=by
   unfold qyi;rw [if_neg (by omega)];simp only [RV,RTy];split
   ·rename_i he;exact ⟨.own,c,l',rfl,hfl,by
     have h1:l.take n.toNat=l:=List.take_of_length_le (by omega);rw [h1];exact hall⟩
   ·exact ⟨.own,false,_,rfl,hfl,hall.take _⟩
  obtain ⟨hR2,hF2⟩:=qcC hR (some d) hv;exact ⟨_,_,hk,hval,hR2,hF.trans hF2⟩
theorem qz6{ops:Array Oper}{st:TSt}{s:St}{R:Type}{k:TSt->Option R}{r:R}(hs:Rst st s)(h:qB4 P H f ops st R k=some r) :
  ∃st' s',k st'=some r/\qjD P H f ops s=some s'/\Rst st' s'/\Fr2 st st' s s':=by
 unfold qB4 at h;split at h
 rotate_left
 ·cases h
 rename_i ty ty2 t i a b x hcut;split at h
 rotate_left
 ·cases h
 rename_i hc;simp only [qe,decide_eq_true_eq,List.isEmpty_iff]at hc;obtain ⟨⟨⟨⟨hL,hn0⟩,ha⟩,hb⟩,hx⟩:=hc;obtain ⟨hL',hnl,hR,hF⟩:=qqz hs hL hn0 a b x t;split at h
 rotate_left
 ·cases h
 rename_i elem elem2 τ lv l kk o n hund hund2 hgt hgi;split at h
 rotate_left
 ·cases h
 rename_i z zt hz hzt;split at h
 rotate_left
 ·cases h
 rename_i hc2;simp only [qe,decide_eq_true_eq]at hc2;obtain ⟨⟨⟨⟨⟨⟨⟨hlv,hdep⟩,hel⟩,hee⟩,hs0⟩,hnc⟩,hzs⟩,hzo⟩:=hc2;obtain ⟨zx,hzx,h⟩:=qd.1 h;obtain ⟨l2,hl2,hk⟩:=qd.1 h;have hrt:=qoW hs.E t;rw [hgt]at hrt;simp only [RV,RTy]at hrt;obtain ⟨fl,c,l',hvt,hfl,hall⟩:=hrt;have hfe:=hfl.own hlv;subst hfe;have hri:=qoW hs.E i;rw [hgi]at hri;simp only [RV,RTy]at hri;have hEt:=qhn hvt (by simp);have hEi:=qhn hri (by simp);obtain ⟨hsl,hol,hcl⟩:=qrk hdep hel hall hnc;have hlen:=hall.length;unfold qBi at hl2;split at hl2
 rotate_left
 ·cases hl2
 rename_i hn;simp only [qb]at hl2;subst hl2;obtain ⟨hne,hn1,hn2⟩:=hn;have hne':l'.isEmpty=false:=by
  cases l' with
  |nil=>cases l with
   |nil=>cases hne
   |cons=>simp at hlen
  |cons=>rfl
 obtain ⟨zv,hzv,hrz⟩:∃zv,zeroOf P H f elem2=some zv/\RV zt zv:=by
  unfold qnB at hzt;unfold zeroOf;rw [hz]at hzt ⊢;simp only [qi,qb]at hzt ⊢;subst hzt;exact ⟨_,rfl,qpH _ _⟩
 have hzz:=qcP _ _ _ _ _ hzx hrz;have hval:qjD P H f ops s=some (({s with E:=((((s.E.set a .undef).set b .undef).set x .undef).map V.qbx).set t .undef,B:=qbN s.B}:St).put (some t) (.sl .own c (l'.take n.toNat++List.replicate (l'.length-n.toNat) zv))):=by
  unfold qjD;rw [hcut];simp only
  rw [if_pos (by simp only [qe,decide_eq_true_eq];refine ⟨⟨⟨⟨by rw [hL'];rfl,hnl⟩,?_⟩,?_⟩,?_⟩<;>(rw [hs.E.length,qgq];assumption)),hund,hund2,hEt,hEi];simp only
  rw [hz,hzv];simp only
  rw [if_pos ⟨hee,hn1,by omega,hne',hsl,hol,hs0,hcl,hzs,(RV.cells hzo hrz).2⟩];simp only [St.put,List.set_set]
 have hv:RV (.t (.sl τ) lv (l.take n.toNat++List.replicate (l.length-n.toNat) zx)) (.sl .own c (l'.take n.toNat++List.replicate (l'.length-n.toNat) zv)):=by
  simp only [RV,RTy];exact ⟨.own,c,_,rfl,hfl,by rw [hlen];exact (hall.take _).append (All2.replicate hzz _)⟩
 obtain ⟨hR2,hF2⟩:=qcC hR (some t) hv;exact ⟨_,_,hk,hval,hR2,hF.trans hF2⟩
theorem qBH(hT:TOk P H lib T)(hO:OOk P H lib O){sp:Nat}{ops:Array Oper}{draw:Bool}{st:TSt}{s:St}{R:Type}{k:Ex->TSt->Option R}{r:R}(hs:Rst st s)(h:spT P H J T O ctx f sp ops draw st R k=some r) :
  ∃st' s',k .normal st'=some r/\Ev (λC=>qoo P H C f sp ops draw s=some (.normal,s')) P H lib/\Rst st' s'/\Fr2 st st' s s':=by
 unfold spT at h;split at h
 ·cases h
 rename_i hd;split at h
 ·obtain ⟨st1,s1,hk,hev,hR,hF⟩:=qoR hT hO _ _ _ hs h;exact ⟨st1,s1,hk,hev.imp λC hC=>by unfold qoo;rw [if_neg hd];simp only [hC,qi],hR,hF⟩
 ·obtain ⟨st1,s1,hk,hev,hR,hF⟩:=qz6 hs h;exact ⟨st1,s1,hk,.of λC=>by unfold qoo;rw [if_neg hd];simp only [hev,qi],hR,hF⟩
 ·obtain ⟨st1,s1,hk,hev,hR,hF⟩:=qAa hs h;exact ⟨st1,s1,hk,.of λC=>by unfold qoo;rw [if_neg hd];simp only [hev,qi],hR,hF⟩
 ·cases h
theorem qna(hT:TOk P H lib T)(hO:OOk P H lib O):∀(c:Code) (bid:Nat),Snd (tx P H J T O ctx f bid c) (qx3 P H lib f bid c)
 |.skip,bid=>λst R k r s h hs=>⟨.normal,st,s,.of λC=>rfl,hs,Fr2.refl _ _,h⟩
 |.ret,bid=>λst R k r s h hs=>⟨.ret,st,s,.of λC=>rfl,hs,Fr2.refl _ _,h⟩
 |.exit id,bid=>λst R k r s h hs=>⟨.exit id,st,s,.of λC=>rfl,hs,Fr2.refl _ _,h⟩
 |.seq a b,bid=>λst R k r s h hs=>by
  simp only [tx]at h;obtain ⟨e,st1,s1,hev,hR,hF,hk⟩:=qna hT hO a bid st _ _ r s h hs;cases e with
  |normal =>
   obtain ⟨e2,st2,s2,hev2,hR2,hF2,hk2⟩:=qna hT hO b bid st1 _ _ r s1 hk hR;exact ⟨e2,st2,s2,(hev.and hev2).imp λC hC=>by simp only [ex,hC.1,hC.2],hR2,hF.trans hF2,hk2⟩
  |exit id=>exact ⟨.exit id,st1,s1,hev.imp λC hC=>by simp only [ex,hC],hR,hF,hk⟩
  |ret=>exact ⟨.ret,st1,s1,hev.imp λC hC=>by simp only [ex,hC],hR,hF,hk⟩
 |.cond c a b,bid=>λst R k r s h hs=>by
  simp only [tx]at h;refine qla (rel:=qx3 P H lib f bid (.cond c a b)) ?_ _ st R k r s h hs;intro st R k r s h hs;have hr:=qy1 (H:=H) (f:=f) (o:=default) hs.E c;simp only at h;split at h
  ·rename_i o t ht;rw [ht]at hr;simp only [RV,RTy]at hr;cases t with
   |true =>
    obtain ⟨e2,st2,s2,hev2,hR2,hF2,hk2⟩:=qna hT hO a bid st _ _ r s h hs;exact ⟨e2,st2,s2,hev2.imp λC hC=>by simp only [ex,hr,if_true,hC],hR2,hF2,hk2⟩
   |false =>
    obtain ⟨e2,st2,s2,hev2,hR2,hF2,hk2⟩:=qna hT hO b bid st _ _ r s h hs;exact ⟨e2,st2,s2,hev2.imp λC hC=>by simp only [ex,hr,qf,if_false,hC],hR2,hF2,hk2⟩
  ·cases h
 |.block id c,bid=>λst R k r s h hs=>by
  simp only [tx]at h;refine qla (rel:=qx3 P H lib f bid (.block id c)) ?_ _ st R k r s h hs;intro st R k r s h hs;obtain ⟨e,st1,s1,hev,hR,hF,hk⟩:=qna hT hO c id st _ _ r s h hs;cases e with
  |exit i =>
   simp only at hk;split at hk
   ·rename_i hi;exact ⟨.normal,st1,s1,hev.imp λC hC=>by simp only [ex,hC,hi,if_true],hR,hF,hk⟩
   ·rename_i hi;exact ⟨.exit i,st1,s1,hev.imp λC hC=>by simp only [ex,hC,hi,if_false],hR,hF,hk⟩
  |normal=>exact ⟨.normal,st1,s1,hev.imp λC hC=>by simp only [ex,hC],hR,hF,hk⟩
  |ret=>exact ⟨.ret,st1,s1,hev.imp λC hC=>by simp only [ex,hC],hR,hF,hk⟩
 |.region id ops draw,bid=>λst R k r s h hs=>by
  simp only [tx]at h;refine qla (rel:=qx3 P H lib f bid (.region id ops draw)) ?_ _ st R k r s h hs;intro st R k r s h hs;simp only [qrs,quU]at h;cases hpre:qA0 (H.pre f id) st with
  |none=>rw [hpre]at h;cases h
  |some sta =>
  rw [hpre]at h;simp only at h;obtain ⟨sa,hcl,hs,hf0⟩:=qAz hs hpre;by_cases hsp:H.sp f id=0
  rotate_left
  ·rw [if_neg hsp]at h;obtain ⟨st1,s1,hk,hev,hR,hF⟩:=qBH hT hO hs h;exact ⟨.normal,st1,s1,hev.imp λC hC=>by simp only [ex,hcl];rw [if_neg hsp,hC],hR,hf0.trans hF,hk⟩
  rw [if_pos hsp]at h;cases hnt:qgy H ops draw with
  |some p =>
   obtain ⟨F,t,e,d⟩:=p;rw [hnt]at h;simp only at h;split at h
   ·rename_i hlt;obtain ⟨hR0,hF0⟩:=qcC hs (some e) (qaR []);obtain ⟨st1,s1,hk,hts,hR,hF⟩:=qzn hR0 h;have hlt':e<sa.E.length:=by rw [hs.E.length,qgq];exact hlt
    exact ⟨.normal,st1,s1,.of λC=>by simp only [ex,hcl,hsp,if_true,hnt,hts,if_pos hlt',qi],hR,(hf0.trans hF0).trans hF,hk⟩
   ·cases h
  |none =>
  rw [hnt]at h;simp only at h;cases hls:qsn H f ops with
  |true =>
   rw [hls]at h;simp only [if_true]at h;cases hpe:(H.perm f id).isEmpty with
   |false =>
    rw [hpe]at h;simp only [qf,if_false]at h;split at h
    ·rename_i hok;obtain ⟨st1,s1,fps,fpv,hk,hev,hR,hF,_,hcov⟩:=qgI hT hO _ sta sa none [] hs qjL h;split at hk
     ·rename_i hnc;refine ⟨.normal,st1,s1,hev.imp λC hC=>?_,hR,hf0.trans hF,hk⟩;simp only [ex,hcl,hsp,if_true,hnt,hls,hpe,if_true,qf,if_false];unfold qpz;rw [if_pos hok,hC];simp only
      rw [if_pos (qsJ hR hnc)]
     ·cases hk
    ·cases h
   |true =>
   rw [hpe]at h;simp only [if_true]at h;split at h
   ·rename_i hok;obtain ⟨st1,s1,fps,fpv,hk,hev,hR,hF,_,hcov⟩:=qgI hT hO _ sta sa none [] hs qjL h;split at hk
    ·rename_i hnc;refine ⟨.normal,st1,s1,hev.imp λC hC=>?_,hR,hf0.trans hF,hk⟩;have hnc':(!draw||qgU (H.pairs f id) fpv)=true:=by
      simp only [Bool.or_eq_true]at hnc ⊢;exact hnc.imp (λh=>h) λh=>qq9 hcov h
     simp only [ex,hcl,hsp,if_true,hnt,hls,hpe,if_true,hok,hC,hnc']
    ·cases hk
   ·cases h
  |false =>
  rw [hls]at h;simp only [qf,if_false]at h;split at h
  ·rename_i hd;split at h
   ·rename_i hok;split at h
    ·rename_i hU;obtain ⟨st1,s1,hk,hev,hR,hF⟩:=qk4 hT hO _ sta sa hs h;rw [hU]at hok;exact ⟨.normal,st1,s1,hev.imp λC hC=>by simp only [ex,hcl,hsp,if_true,hnt,qm9,hls,qf,if_false,hd,if_true,hU,hok,hC,qi],hR,hf0.trans hF,hk⟩
    ·rename_i U hU;obtain ⟨st1,s1,fps,fpv,hk,hev,hR,hF,_,hcov⟩:=qlC hT hO _ sta sa [] hs h;split at hk
     ·rename_i hnc;have hnc':=qq9 hcov hnc;refine ⟨.normal,st1,s1,hev.imp λC hC=>?_,hR,hf0.trans hF,hk⟩;simp only [ex,hcl,hsp,if_true,hnt,qm9,hls,qf,if_false,hd,if_true,hok];cases hp:H.pairs f id with
      |nil=>exact absurd hp (by simpa using hU)
      |cons u U' =>
       rw [hp]at hnc';simp only [hC,hnc',if_true]
     ·cases hk
   ·cases h
  ·rename_i hd;obtain ⟨st1,s1,hk,hev,hR,hF⟩:=qk4 hT hO _ sta sa hs h;exact ⟨.normal,st1,s1,hev.imp λC hC=>by simp only [ex,hcl,hsp,if_true,hnt,hls,qf,if_false];rw [if_neg hd,hC];rfl,hR,hf0.trans hF,hk⟩
 |.loop c,bid=>λst R k r s h hs=>by
  simp only [tx]at h;split at h
  ·rename_i j hj;split at h
   ·rename_i hf;obtain ⟨x0,hx0,h⟩:=qd.1 h;obtain ⟨n,hn⟩:=qhs h;obtain ⟨h1,h2⟩:=qzd hs hf hx0;exact qwM (qna hT hO c bid) hs n x0 s h1 h2 hn
   ·cases h
  ·split at h
   ·rename_i st1 hcl;obtain ⟨s1,hv1,hs1,hf1⟩:=qhi hs hcl;obtain ⟨e,st2,s2,hev,hR,hF,hk⟩:=qna hT hO c bid st1 _ _ r s1 h hs1;cases e with
    |normal =>
     obtain ⟨e3,st3,s3,hev3,hR3,hF3,hk3⟩:=hO.code ctx f bid (.loop c) st2 _ _ r s2 hk hR;exact ⟨e3,st3,s3,(hev.and hev3).imp λC hC=>by simp only [ex,hv1,hC.1,hC.2],hR3,(hf1.trans hF).trans hF3,hk3⟩
    |exit id=>exact ⟨.exit id,st2,s2,hev.imp λC hC=>by simp only [ex,hv1,hC],hR,hf1.trans hF,hk⟩
    |ret=>exact ⟨.ret,st2,s2,hev.imp λC hC=>by simp only [ex,hv1,hC],hR,hf1.trans hF,hk⟩
   ·cases h
 |.rangeFunc ..,bid=>λst R k r s h hs=>qy0 hT hO h hs
 |.scope _,bid=>λst R k r s h hs=>by simp [tx]at h
 |.label _,bid=>λst R k r s h hs=>by simp [tx]at h
 |.goto _,bid=>λst R k r s h hs=>by simp [tx]at h
 |.refuse _,bid=>λst R k r s h hs=>by simp [tx]at h
end
section
variable {P:Program} {H:Hints} {J:TH} {T:qp6} {O:TOrc} {lib:FuncId->Option (List V->Option V)} {f:FuncId} {ctx:List Tmp}
theorem qez{st:TSt}{s:St}(hs:Rst st s):∀(l:List ResultVar) (rs:List TV),qdF (l.map (qgj P st))=some rs->∃rs',qey (l.map (qcL P s))=some rs'/\RVL rs rs'
 |[],rs,h=>by simp only [List.map_nil,qdF,qb]at h;subst h;exact ⟨[],rfl,q6⟩
 |v::l,rs,h=>by
  simp only [qh]at h;cases h1:qgj P st v with
  |none=>rw [h1]at h;simp [qdF]at h
  |some x =>
   rw [h1]at h;simp only [qdF]at h;obtain ⟨rs0,h2,rfl⟩:=qc.1 h;obtain ⟨rs',h3,hr⟩:=qez hs l rs0 h2;have:∃u,qcL P s v=some u/\RV x u:=by
    cases v with
    |tmp t =>
     simp only [qgj,qb]at h1;subst h1;exact ⟨_,rfl,qoW hs.E t⟩
    |cell a t =>
     simp only [qgj]at h1;split at h1
     ·rename_i r off hE;have hg:=qoW hs.E a;rw [hE]at hg;simp only [RV]at hg;split at h1
      ·rename_i cs hcs;split at h1
       ·rename_i hsl;obtain ⟨cs',hcs',hc⟩:=hs.box hcs;obtain ⟨u,hu,hr⟩:=qdy h1 (hc.drop off);refine ⟨u,?_,hr⟩;have hlp:=qcX (qal hc) (hs.M.mp r.lvl r.slot cs' (by rw [<- qK];exact hcs') hsl);simp only [qcL,hg,hcs',hlp,qf,if_false,hu]
       ·cases h1
      ·cases h1
     ·cases h1
   obtain ⟨u,hu,hru⟩:=this;refine ⟨u::rs',?_,qx.2 ⟨hru,hr⟩⟩;simp only [qh,hu,qey,h3,qi]
theorem qhf{st:TSt}{s:St}(hs:Rst st s):∀(l:List ResultVar) (ks:List (Bool×Nat×Nat)),qgE (l.map (qdB st))=some ks->l.map (qM s)=ks
 |[],ks,h=>by simp only [List.map_nil,qgE,qb]at h;subst h;rfl
 |v::l,ks,h=>by
  simp only [qh]at h;cases h1:qdB st v with
  |none=>rw [h1]at h;simp [qgE]at h
  |some x =>
   rw [h1]at h;simp only [qgE]at h;obtain ⟨ks0,h2,rfl⟩:=qc.1 h;have:qM s v=x:=by
    cases v with
    |tmp t=>simp only [qdB,qb]at h1;subst h1;rfl
    |cell a t =>
     simp only [qdB]at h1;split at h1
     ·rename_i r off hE;have hg:=qoW hs.E a;rw [hE]at hg;simp only [RV]at hg;cases h1;simp only [qM,hg]
     ·cases h1
   simp only [qh,this,qhf hs l ks0 h2]
theorem qg7:∀{rs:List TV} {rs':List V},RVL rs rs'->RV (qcd rs) (packed rs')
 |[],rs',h=>by simp only [RVL]at h;subst h;simp [qcd,packed,RV,RVL]
 |[x],rs',h=>by obtain ⟨v,rfl,hv⟩:=qdg h;exact hv
 |x::y::rs,rs',h=>by
  have h0:=h;simp only [RVL]at h;obtain ⟨v,m,rfl,_,v2,m2,rfl,_,_⟩:=h;simp only [qcd,packed,RV];exact ⟨_,rfl,h0⟩
theorem qAA(hT:TOk P H lib T)(hO:OOk P H lib O){args:List TV}{M:List qI}{R:Type}{k:TV->List qI->List Root->Option R}{r:R}{vs:List V}{M':List Level}
  (h:runT P H J T O ctx f args M R k=some r) (ha:RVL args vs) (hM:LR M M') :
  ∃x N wb v N',k x N wb=some r/\RV x v/\LR N N'/\N.length=M.length/\(∀l sl,(⟨l,sl⟩:Root)∉wb->qaj N' l sl=qaj M' l sl/\∀c,qad M l sl=some (some c)->∃c',qad N l sl=some (some c'))/\J.lib f=false/\Ev (λC=>qy4 P H C f vs M'=some (v,N')) P H lib:=by
 unfold runT at h;split at h
 ·cases h
 ·rename_i hlib;split at h
  ·rename_i fn hfn;split at h
   ·rename_i c hbody;have hE:RVL (Env.qeN args fn.ntmps).toL (vs++List.replicate (fn.ntmps-vs.length) .undef):=by
     rw [qhL,ha.length];exact ha.append (RVL.replicate (qaR []) _)
    have h0:Rst {E:=Env.qeN args fn.ntmps,L:=M,B:=[],Wt:=.empty,Wb:=[]} {E:=vs++List.replicate (fn.ntmps-vs.length) .undef,L:=M',B:=[]}:=⟨hE,hM.init⟩
    have hsnd:Snd (λst R k=>tx P H J T O ctx f 0 c st R λe st=>match e with
     |.normal=>k .normal st
     |.ret=>k .normal st
     |_=>none) (λs e s'=>e=.normal/\Ev (λC=>∃e,(e=.normal\/e=.ret)/\ex P H C f 0 c s=some (e,s')) P H lib):=by
     intro st R k r s h hs;obtain ⟨e,st1,s1,hev,hR,hF,hk⟩:=qna hT hO c 0 st _ _ r s h hs;cases e with
     |normal=>exact ⟨.normal,st1,s1,⟨rfl,hev.imp λC hC=>⟨.normal,.inl rfl,hC⟩⟩,hR,hF,hk⟩
     |ret=>exact ⟨.normal,st1,s1,⟨rfl,hev.imp λC hC=>⟨.ret,.inr rfl,hC⟩⟩,hR,hF,hk⟩
     |exit id=>cases hk
    obtain ⟨e,st1,s1,⟨_,hev⟩,hR,hF,hk⟩:=qla hsnd _ _ _ _ _ _ h h0;split at hk
    ·rename_i rs ks hrs hks;have hlen:=hR.len;have hlen2:=hF.len;have hML:=hM.len;simp only at hlen2;have frame:∀l sl,(⟨l,sl⟩:Root)∉st1.Wb->qaj s1.L l sl=qaj M' l sl/\∀c,qad M l sl=some (some c)->∃c',qad st1.L l sl=some (some c'):=λl sl hl=>by
      refine ⟨?_,λc hc=>?_⟩
      ·by_cases e:l<s1.L.length
       ·rcases hF.b ⟨l,sl⟩ hl with this|⟨h9,_⟩
        ·rw [qK,qK]at this;unfold qaj qcO at this;simp only at this;unfold qaj;rw [qg e,qg (by omega)]at this;exact this
        ·simp only at h9;omega
       ·unfold qaj;rw [List.getElem?_eq_none (by omega),List.getElem?_eq_none (by omega)]
      ·have hlt:l<M.length:=by
        unfold qad at hc;cases hM0:M[l]? with
        |none=>rw [hM0]at hc;cases hc
        |some b=>exact (qm.1 hM0).1
       have hbx:(({E:=Env.qeN args fn.ntmps,L:=M,B:=[],Wt:=.empty,Wb:=[]}:TSt).cont ⟨l,sl⟩).isSome=true:=by
        rw [qaK];unfold qad TSt.all;simp only
        rw [qg hlt];unfold qad at hc;rw [hc];rfl
       obtain ⟨c',hc'⟩:=Option.isSome_iff_exists.1 (hF.bn ⟨l,sl⟩ hl hbx);have h10:=qdR hc';refine ⟨c',?_⟩;unfold qad TSt.all at h10;simp only at h10;rw [qg (by omega)]at h10;exact h10
     split at hk
     ·rename_i hc;simp only [qe]at hc;obtain ⟨⟨hkn,hpt⟩,hko⟩:=hc;obtain ⟨rs',hrs',hrr⟩:=qez hR _ _ hrs;have hkeys:=qhf hR _ _ hks;have hpeq:=RVL.ptrs_eq _ _ hkn hrr;refine ⟨_,_,_,packed (if M'.isEmpty&&!ownsL rs' then reflagL qhm rs' else rs'),s1.L,hk,?_,hR.M.front,by omega,frame,by simpa using hlib,hev.imp ?_⟩
      ·split
       ·exact qg7 (RVL.qgM qqI rfl _ _ hrr)
       ·exact qg7 hrr
      ·rintro C ⟨e,he,hC⟩;unfold qy4;simp only [hfn,hbody,hC];rw [if_pos he,hrs'];simp only
       rw [if_pos];simp only [hpeq,hkeys,qe];rw [hML];exact ⟨hpt,hko⟩
     ·split at hk
      ·rename_i hc;simp only [qe,Bool.not_eq_true']at hc;obtain ⟨⟨⟨hkn,hem⟩,hko⟩,hpt⟩:=hc;split at hk
       ·rename_i xs hxs;split at hk
        ·rename_i hc2;simp only [qe]at hc2;obtain ⟨hkx,hpx⟩:=hc2;obtain ⟨rs',hrs',hrr⟩:=qez hR _ _ hrs;have hkeys:=qhf hR _ _ hks;have hpeq:=RVL.ptrs_eq _ _ hkn hrr;obtain ⟨us,hus,hru⟩:=peekTL_ok (bt:=st1.box) (bx:=s1.box) (λr c hc=>by
          obtain ⟨c',h1,h2⟩:=hR.box hc;exact ⟨c',h1,h2,λhlt=>hR.M.mp r.lvl r.slot c' (by rw [<- qK];exact h1) hlt⟩) _ _ _ hxs hrr
         have hpu:=RVL.ptrs_eq _ _ hkx hru;have hem':M'.isEmpty=true:=by
          rw [List.isEmpty_iff]at hem ⊢;subst hem;exact List.eq_nil_of_length_eq_zero (by rw [hML];rfl)
         refine ⟨_,_,_,packed us,s1.L,hk,qg7 hru,hR.M.front,by omega,frame,by simpa using hlib,hev.imp ?_⟩;rintro C ⟨e,he,hC⟩;unfold qy4;simp only [hfn,hbody,hC];rw [if_pos he,hrs'];simp only
         have hn1:¬ (((ptrsL rs').all λr=>decide (r.lvl<M'.length))&&qh6 M'.length (fn.results.toList.map (qM s1)))=true:=by
          rw [hpeq,hML,hpt];simp
         rw [if_neg hn1,if_pos (by rw [hem',hkeys,hML,hko];rfl),hus];simp only [hpu,hpx,if_true]
        ·cases hk
       ·cases hk
      ·cases hk
    ·cases hk
   ·cases h
  ·cases h
theorem qmt:∀{rs:List TV},onlyMapsTL rs=true->(qcd rs).onlyMaps=true
 |[],_=>rfl
 |[x],h=>by simpa [qcd,onlyMapsTL]using h
 |x::y::l,h=>by simpa only [qcd,TV.onlyMaps]using h
theorem qv3(hT:TOk P H lib T)(hO:OOk P H lib O){args:List TV}{R:Type}{k:TV->TV->Option R}{r:R}{vs:List V}
  (h:qv2 P H J T O ctx f args R k=some r) (ha:RVL args vs) :
  ∃x τ o l v sl,k x (.t (.mset τ) o l)=some r/\qgN τ=true/\RV x v/\x.onlyMaps=true/\Ev (λC=>qv1 P H C f vs=some (v,sl,kvs τ l)) P H lib:=by
 unfold qv2 at h;split at h
 ·cases h
 ·split at h
  ·rename_i fn hfn;split at h
   ·rename_i c hbody;have hE:RVL (Env.qeN args fn.ntmps).toL (vs++List.replicate (fn.ntmps-vs.length) .undef):=by
     rw [qhL,ha.length];exact ha.append (RVL.replicate (qaR []) _)
    have hM0:LR [] []:=⟨rfl,λl s=>by simp [qad,qaj,RB],by simp,λl s c h=>by simp [qaj]at h⟩
    have h0:Rst {E:=Env.qeN args fn.ntmps,L:=[],B:=[],Wt:=.empty,Wb:=[]} {E:=vs++List.replicate (fn.ntmps-vs.length) .undef,L:=[],B:=[]}:=⟨hE,hM0.init⟩
    obtain ⟨e,st1,s1,hev,hR,hF,hk⟩:=qna hT hO c 0 _ _ _ r _ h h0;have key:(match qdF (fn.results.toList.map (qgj P st1))with
     |some rs=>match peekTL st1.box rs with
      |some xs=>match ptrsTL xs with
       |[q]=>if q.lvl=0 then (match st1.box q with
        |some [.t (.mset τ) o l]=>if knownL xs&&onlyMapsTL xs then k (qcd xs) (.t (.mset τ) o l)else none
        |_=>none)else none
       |_=>none
      |none=>none
     |none=>none)=some r/\(e=.normal\/e=.ret):=by
     cases e with
     |normal=>exact ⟨hk,.inl rfl⟩
     |ret=>exact ⟨hk,.inr rfl⟩
     |exit id=>cases hk
    obtain ⟨hk2,he⟩:=key;split at hk2
    ·rename_i rs hrs;split at hk2
     ·rename_i xs hxs;split at hk2
      ·rename_i q hq;split at hk2
       ·rename_i hl0;split at hk2
        ·rename_i τ o l hbx;split at hk2
         ·rename_i hc;simp only [qe]at hc;obtain ⟨hkn,hom⟩:=hc;obtain ⟨rs',hrs',hrr⟩:=qez hR _ _ hrs;obtain ⟨us,hus,hru⟩:=peekTL_ok (bt:=st1.box) (bx:=s1.box) (λr c hc=>by
           obtain ⟨c',h1,h2⟩:=hR.box hc;exact ⟨c',h1,h2,λhlt=>hR.M.mp r.lvl r.slot c' (by rw [<- qK];exact h1) hlt⟩) _ _ _ hxs hrr
          have hpeq:=RVL.ptrs_eq _ _ hkn hru;obtain ⟨c',hc',hcr⟩:=hR.box hbx;obtain ⟨v,rfl,hv⟩:=qdg hcr;simp only [RV,RTy]at hv;obtain ⟨hkt,rfl⟩:=hv;have hom':=(rvl_adopt q _ _ hom hru).2;refine ⟨_,τ,o,l,packed us,q.slot,hk2,hkt,qg7 hru,qmt hom,hev.imp λC hC=>?_⟩;unfold qv1;simp only [hfn,hbody,hC];rw [if_pos he,hrs'];simp only [hus,hpeq,hq];rw [if_pos hl0,hc'];simp only [hom',if_true];rfl
         ·cases hk2
        ·cases hk2
       ·cases hk2
      ·cases hk2
     ·cases hk2
    ·cases hk2
   ·cases h
  ·cases h
theorem qyU(hT:TOk P H lib T)(hO:OOk P H lib O){args:List TV}{R:Type}{k:TV->Option R}{r:R}{vs:List V}
  (h:qAy P H J T O ctx f args R k=some r) (ha:RVL args vs) :
  ∃x v,k x=some r/\RV x v/\J.lib f=false/\Ev (λC=>qBB P H C f vs=some v) P H lib:=by
 unfold qAy at h;split at h
 ·cases h
 ·rename_i hl;split at h
  ·rename_i fn hfn;split at h
   ·rename_i c hbody;have hE:RVL (Env.qeN args fn.ntmps).toL (vs++List.replicate (fn.ntmps-vs.length) .undef):=by
     rw [qhL,ha.length];exact ha.append (RVL.replicate (qaR []) _)
    have hM0:LR [] []:=⟨rfl,λl s=>by simp [qad,qaj,RB],by simp,λl s c h=>by simp [qaj]at h⟩
    have h0:Rst {E:=Env.qeN args fn.ntmps,L:=[],B:=[],Wt:=.empty,Wb:=[]} {E:=vs++List.replicate (fn.ntmps-vs.length) .undef,L:=[],B:=[]}:=⟨hE,hM0.init⟩
    obtain ⟨e,st1,s1,hev,hR,hF,hk⟩:=qna hT hO c 0 _ _ _ r _ h h0;have key:(match qdF (fn.results.toList.map (qgj P st1)),qgE (fn.results.toList.map (qdB st1))with
     |some rs,some ks=>if knownL rs&&(ptrsTL rs).isEmpty&&qh6 0 ks then k (qcd rs)else none
     |_,_=>none)=some r/\(e=.normal\/e=.ret):=by
     cases e with
     |normal=>exact ⟨hk,.inl rfl⟩
     |ret=>exact ⟨hk,.inr rfl⟩
     |exit id=>cases hk
    obtain ⟨hk2,he⟩:=key;split at hk2
    ·rename_i rs ks hrs hks;split at hk2
     ·rename_i hc;simp only [qe,List.isEmpty_iff]at hc;obtain ⟨⟨hkn,hp⟩,hko⟩:=hc;obtain ⟨rs',hrs',hrr⟩:=qez hR _ _ hrs;have hks':=qhf hR _ _ hks;refine ⟨_,packed rs',hk2,qg7 hrr,by simpa using hl,hev.imp λC hC=>?_⟩;unfold qBB;simp only [hfn,hbody,hC];rw [if_pos he,hrs'];simp only
      rw [RVL.ptrs_eq _ _ hkn hrr,hp,hks',hko];rfl
     ·cases hk2
    ·cases hk2
   ·cases h
  ·cases h
theorem qwf{x:TV}(h:x≠.val (.slice none 0 0))(h2:∀t o y,x≠.t (.nsl t) o y):x.qc0=x:=by
 unfold TV.qc0;split
 ·exact absurd rfl h
 ·exact absurd rfl (h2 _ _ _)
 ·rfl
theorem qy5{x:TV}{v:V}(h:RV x v):RV x.qc0 v.qc0:=by
 by_cases hv:v=.val (.slice none 0 0)
 ·subst hv;cases x with
  |any rs=>simp only [RV]at h;simp [TV.qc0,V.qc0,RV,V.qq,ptrsL,q3]
  |t τ o y=>cases τ<;>first|(simp [RV,RTy]at h;done)|(simp [TV.qc0,V.qc0,RV,V.qq,ptrsL,q3])
  |val u =>
   simp only [RV,V.val.injEq]at h;subst h;simp [TV.qc0,V.qc0,RV,FlR,qaE]
  |_=>simp [RV]at h
 ·by_cases hx:∃t o y,x=.t (.nsl t) o y
  ·obtain ⟨t,o,y,rfl⟩:=hx;rw [qoO hv];simp only [RV]at h;simp only [TV.qc0,RV];have h1:=qbJ _ _ _ _ h;refine ⟨by rw [h1];simp,qhp h⟩
  ·rw [qoO hv,qwf]
   ·exact h
   ·rintro rfl;simp only [RV]at h;exact hv h
   ·rintro t o y rfl;exact hx ⟨t,o,y,rfl⟩
theorem qrC:∀{l:List TV} {m:List V},RVL l m->RVL (l.map TV.qc0) (m.map V.qc0)
 |[],m,h=>by simp only [RVL]at h;subst h;exact q6
 |x::l,m,h=>by
  simp only [RVL]at h;obtain ⟨v,m',rfl,h1,h2⟩:=h;exact qx.2 ⟨qy5 h1,qrC h2⟩
theorem qBF{g:FuncId}{l:List TV}{m:List V}(h:RVL l m):RVL (dnT H g l) (dnA H g m):=by
 unfold dnT dnA;cases H.qc0 g
 ·exact h
 ·exact qrC h
def qCz(P:Program)(H:Hints)(lib:FuncId->Option (List V->Option V))(g:FuncId)(cs vs cs':List V):Prop:=Ev (λC=>qy4 P H C g (.ptr ⟨0,0⟩ 0::vs) [[(0,cs)]]=some (.tuple [],[[(0,cs')]])) P H lib
def qBQ(P:Program)(H:Hints)(lib:FuncId->Option (List V->Option V))(I:IoT):Prop :=
 ∀g c args (R:Type) (k:List TV->Option R) r cs vs,I g c args R k=some r->RVL c cs->RVL args vs->lib g=none/\∃c' cs',k c'=some r/\RVL c' cs'/\qCz P H lib g cs vs cs'
mutual
theorem denilD_ptrs:∀v:V,v.denilD.qq=v.qq
 |.agg l=>by simp only [V.denilD,V.qq,denilDL_ptrs l]
 |.tuple l=>by simp only [V.denilD,V.qq,denilDL_ptrs l]
 |.val u=>by unfold V.denilD;split<;>first|rfl|(rename_i e;cases e;simp [V.qq,ptrsL])|(rename_i e;cases e)
 |.undef|.ptr .. | .cptr .. | .sl .. | .room .. | .fn .. | .yld _|.iface .. | .mref _|.bsl .. | .mp _|.lp ..=>rfl
theorem denilDL_ptrs:∀l:List V,ptrsL (denilDL l)=ptrsL l
 |[]=>rfl
 |v::l=>by simp only [denilDL,ptrsL,denilD_ptrs v,denilDL_ptrs l]
end
theorem qic{v:V}(h:q3 [v]=false):q3 [v.denilD]=false:=by
 cases v<;>first|exact h|rfl|(unfold V.denilD;split<;>first|rfl|exact h)
theorem qvg:∀(τ:Ty) (o:Nat) (x:τ.den) (v:V),(∀t,τ≠.nsl t)->(∀a b,τ≠.pair a b)->RTy τ o x v->v.denilD=v
 |.int _,_,_,v,_,_,h=>by simp only [RTy]at h;subst h;rfl
 |.bool,_,_,v,_,_,h=>by simp only [RTy]at h;subst h;rfl
 |.str,_,_,v,_,_,h=>by simp only [RTy]at h;subst h;rfl
 |.flt,_,_,v,_,_,h=>by simp only [RTy]at h;obtain ⟨_,rfl,_⟩:=h;rfl
 |.cx,_,_,v,_,_,h=>by simp only [RTy]at h;obtain ⟨_,_,rfl,_⟩:=h;rfl
 |.err,_,_,v,_,_,h=>by simp only [RTy]at h;rcases h with ⟨_,rfl⟩|⟨_,_,rfl⟩<;>rfl
 |.mset _,_,_,v,_,_,h=>by simp only [RTy]at h;obtain ⟨_,rfl⟩:=h;rfl
 |.nsl t,_,_,v,hx,_,h=>absurd rfl (hx t)
 |.sl _,_,_,v,_,_,h=>by simp only [RTy]at h;obtain ⟨_,_,_,rfl,_⟩:=h;rfl
 |.unit,_,_,v,_,_,h=>by simp only [RTy]at h;subst h;rfl
 |.pair a b,_,_,v,_,hy,h=>absurd rfl (hy a b)
mutual
theorem rv_denilD:∀(x:TV) (v:V),RV x v->RV x.denilD v.denilD
 |.agg l,v,h=>by
  simp only [RV]at h;obtain ⟨l',rfl,h⟩:=h;simp only [TV.denilD,V.denilD,RV];exact ⟨_,rfl,rvl_denilD l l' h⟩
 |.tuple l,v,h=>by
  simp only [RV]at h;obtain ⟨l',rfl,h⟩:=h;simp only [TV.denilD,V.denilD,RV];exact ⟨_,rfl,rvl_denilD l l' h⟩
 |.any rs,v,h=>by
  simp only [RV]at h;simp only [TV.denilD,RV];exact ⟨by rw [denilD_ptrs];exact h.1,qic h.2⟩
 |.t τ o x,v,h=>by
  by_cases hx:∃t,τ=.nsl t
  ·obtain ⟨t,rfl⟩:=hx;simp only [RV]at h;simp only [TV.denilD,RV];have h1:=qbJ _ _ _ _ h;exact ⟨by rw [denilD_ptrs,h1];simp,qic (qhp h)⟩
  ·by_cases hy:∃a b,τ=.pair a b
   ·obtain ⟨a,b,rfl⟩:=hy;simp only [RV]at h;simp only [TV.denilD,RV];have h1:=qbJ _ _ _ _ h;exact ⟨by rw [denilD_ptrs,h1];simp,qic (qhp h)⟩
   ·have e1:(TV.t τ o x).denilD=.t τ o x:=by cases τ<;>first|rfl|exact absurd ⟨_,rfl⟩ hx|exact absurd ⟨_,_,rfl⟩ hy
    rw [e1];simp only [RV]at h ⊢;rw [qvg τ o x v (λt e=>hx ⟨t,e⟩) (λa b e=>hy ⟨a,b,e⟩) h];exact h
 |.val u,v,h=>by
  simp only [RV]at h;subst h;by_cases hu:u=.slice none 0 0
  ·subst hu;simp [TV.denilD,V.denilD,RV,FlR,qaE]
  ·have e:(V.val u).denilD=.val u:=by
    unfold V.denilD;split<;>first|rfl|(rename_i e;cases e;exact absurd rfl hu)|(rename_i e;cases e)
   have e2:(TV.val u).denilD=.val u:=by
    unfold TV.denilD;split<;>first|rfl|(rename_i e;cases e;exact absurd rfl hu)|(rename_i e;cases e)
   rw [e,e2];simp [RV]
 |.clp τ x,v,h=>by simp only [TV.denilD,RV]at h ⊢;obtain ⟨f,l',rfl,h1⟩:=h;exact ⟨f,l',rfl,h1⟩
 |.room a s,v,h=>by
  have e:v.denilD=v:=by simp only [RV]at h;cases v<;>first|rfl|(simp at h)
  rw [e];exact h
 |.empty o,v,h=>by simp only [TV.denilD,RV]at h ⊢;obtain ⟨f,c,rfl,h1⟩:=h;exact ⟨f,c,rfl,h1⟩
 |.fn ..,v,h=>by simp only [TV.denilD,RV]at h ⊢;obtain ⟨a,b,rfl,h1⟩:=h;exact ⟨a,b,rfl,h1⟩
 |.ptr ..,v,h=>by simp only [TV.denilD,RV]at h ⊢;subst h;rfl
 |.cptr ..,v,h=>by simp only [TV.denilD,RV]at h ⊢;obtain ⟨f,l',rfl,h1⟩:=h;exact ⟨f,l',rfl,h1⟩
 |.iface ..,v,h=>by simp only [TV.denilD,RV]at h ⊢;obtain ⟨a,rfl,h1⟩:=h;exact ⟨a,rfl,h1⟩
 |.mref _,v,h=>by simp only [TV.denilD,RV]at h ⊢;subst h;rfl
 |.bsl ..,v,h=>by simp only [TV.denilD,RV]at h ⊢;subst h;rfl
 |.yld _,v,h=>by simp only [TV.denilD,RV]at h ⊢;subst h;rfl
 |.lp ..,v,h=>by simp only [RV]at h
theorem rvl_denilD:∀(l:List TV) (m:List V),RVL l m->RVL (denilDTL l) (denilDL m)
 |[],m,h=>by simp only [RVL]at h;subst h;simp [denilDTL,denilDL,RVL]
 |x::l,m,h=>by
  simp only [RVL]at h;obtain ⟨v,m',rfl,h1,h2⟩:=h;simp only [denilDTL,denilDL];exact qx.2 ⟨rv_denilD x v h1,rvl_denilD l m' h2⟩
end
theorem qBE{g:FuncId}{x:TV}{v:V}(h:RV x v):RV (qB7 H g x) (dnR H g v):=by
 unfold qB7 dnR;cases H.denr g
 ·exact h
 ·exact rv_denilD x v h
theorem quz{x:TV}(h:x≠.val (.slice none 0 0))(h2:∀t o y,x≠.t (.nsl t) o y):x.qbi=x:=by
 unfold TV.qbi;split
 ·exact absurd rfl h
 ·exact absurd rfl (h2 _ _ _)
 ·rfl
theorem qxx{x:TV}{v:V}(h:RV x v):RV x.qbi v.qbi:=by
 by_cases hv:v=.val (.slice none 0 0)
 ·subst hv;cases x with
  |any rs=>simp only [RV]at h;simp [TV.qbi,V.qbi,RV,V.qq,ptrsL,q3]
  |t τ o y=>cases τ<;>first|(simp [RV,RTy]at h;done)|(simp [TV.qbi,V.qbi,RV,V.qq,ptrsL,q3])
  |val u =>
   simp only [RV,V.val.injEq]at h;subst h;simp [TV.qbi,V.qbi,RV,FlR,qaE]
  |_=>simp [RV]at h
 ·by_cases hx:∃t o y,x=.t (.nsl t) o y
  ·obtain ⟨t,o,y,rfl⟩:=hx;rw [qly hv];simp only [RV]at h;simp only [TV.qbi,RV];have h1:=qbJ _ _ _ _ h;refine ⟨by rw [h1];simp,qhp h⟩
  ·rw [qly hv,quz]
   ·exact h
   ·rintro rfl;simp only [RV]at h;exact hv h
   ·rintro t o y rfl;exact hx ⟨t,o,y,rfl⟩
theorem qoj:∀{l:List TV} {m:List V},RVL l m->RVL (l.map TV.qbi) (m.map V.qbi)
 |[],m,h=>by simp only [RVL]at h;subst h;exact q6
 |x::l,m,h=>by
  simp only [RVL]at h;obtain ⟨v,m',rfl,h1,h2⟩:=h;exact qx.2 ⟨qxx h1,qoj h2⟩
theorem qBo:qBQ P H lib (λ_ _ _ _ _=>none):=λ_ _ _ _ _ _ _ _ h=>by cases h
theorem qre:∀{c:List TV} {cs:List V},c.all TV.one=true->RVL c cs->qc3 cs=false
 |[],cs,_,h=>by simp only [RVL]at h;subst h;rfl
 |x::c,cs,h1,h=>by
  simp only [RVL]at h;obtain ⟨v,m,rfl,h2,_⟩:=h;simp only [List.all_cons,qe]at h1;have:=RV.one h1.1 h2;cases v<;>first|rfl|(simp [V.one]at this)
theorem qwK(M:List qI)(q:Root):qtH M q=qad M q.lvl q.slot:=by unfold qtH qad;rfl
theorem qyc(M:List Level)(q:Root):qv6 M q=qaj M q.lvl q.slot:=by unfold qv6 qaj;rfl
theorem qAo{c:List V}(h:qc3 c=false):qfP c=false:=by
 cases c with
 |nil=>rfl
 |cons v l=>cases v<;>first|rfl|(simp [qc3]at h)
theorem qAm{I:IoT}(hI:qBQ P H lib I){g:FuncId}(hg:H.io g=true){args:List TV}{M:List qI}{R:Type}{k:TV->List qI->List Root->Option R}{r:R}{vs:List V}{M':List Level}
  (h:qB9 I g args M R k=some r) (ha:RVL args vs) (hM:LR M M') :
  ∃x N wb v N',k x N wb=some r/\RV x v/\LR N N'/\N.length=M.length/\(∀l sl,(⟨l,sl⟩:Root)∉wb->qaj N' l sl=qaj M' l sl/\∀c,qad M l sl=some (some c)->∃c',qad N l sl=some (some c'))/\qp5 P H lib g vs M' v N':=by
 unfold qB9 at h;split at h
 rotate_left
 ·cases h
 rename_i q off rest;split at h
 rotate_left
 ·cases h
 rename_i h1;simp only [qe,decide_eq_true_eq,List.isEmpty_iff]at h1;obtain ⟨⟨⟨rfl,hslot⟩,hkr⟩,hpr⟩:=h1;split at h
 rotate_left
 ·cases h
 rename_i c hc;split at h
 rotate_left
 ·cases h
 rename_i h2;simp only [qe,List.isEmpty_iff]at h2;obtain ⟨⟨hone,hkc⟩,hpc⟩:=h2;rw [qwK]at hc;have hrel:=hM.rel q.lvl q.slot;rw [hc]at hrel;obtain ⟨cs,hcs,hrc⟩:=hrel;have hlc:RVL c cs:=hrc.rvl (by
  cases c with
  |nil=>rfl
  |cons x l=>simp only [List.all_cons,qe]at hone;cases x<;>first|rfl|(simp [TV.one]at hone))
 simp only [RVL]at ha;obtain ⟨v0,vrest,rfl,hv0,har⟩:=ha;simp only [RV]at hv0;subst hv0;obtain ⟨hlib,c',cs',hk,hlc',n,hev⟩:=hI g c (rest.map TV.qbi) _ _ _ cs (vrest.map V.qbi) h hlc (qoj har);split at hk
 rotate_left
 ·cases hk
 rename_i h3;simp only [qe,List.isEmpty_iff]at h3;obtain ⟨⟨hone',hkc'⟩,hpc'⟩:=h3;have hlp:=qre hone hlc;have hlp':=qre hone' hlc';have ep:ptrsL cs=[]:=by rw [RVL.ptrs_eq _ _ hkc hlc];exact hpc
 have ep':ptrsL cs'=[]:=by rw [RVL.ptrs_eq _ _ hkc' hlc'];exact hpc'
 have epr:ptrsL vrest=[]:=by rw [RVL.ptrs_eq _ _ hkr har];exact hpr
 refine ⟨.tuple [],qy8 M q c',[q],.tuple [],qzN M' q cs',hk,by simp [RV,RVL],?_,by simp [qy8],?_,⟨n+1,λm hm=>?_⟩⟩
 ·exact hM.qo q.lvl q.slot (by rw [hc];simp) hlc'.rc (λ_=>qAo hlp')
 ·intro l sl hne;have hne':¬ (l=q.lvl/\sl=q.slot):=λ⟨e1,e2⟩=>hne (by simp [e1,e2]);constructor
  ·unfold qzN;rw [qgR];split
   ·rename_i e;subst e;have hs:sl≠q.slot:=λe=>hne' ⟨rfl,e⟩;unfold qaj;cases M'[q.lvl]? with
    |none=>rfl
    |some b=>simp only;rw [qdu,if_neg hs]
   ·rfl
  ·intro c2 hc2;unfold qy8;rw [qe5];split
   ·rename_i e;subst e;have hs:sl≠q.slot:=λe=>hne' ⟨rfl,e⟩;unfold qad at hc2;cases hMq:M[q.lvl]? with
    |none=>rw [hMq]at hc2;cases hc2
    |some b=>rw [hMq]at hc2;simp only at hc2 ⊢;rw [qfD,if_neg hs];exact ⟨c2,hc2⟩
   ·exact ⟨c2,hc2⟩
 ·obtain ⟨m',rfl⟩:∃m',m=m'+1:=⟨m-1,by omega⟩
  have:=hev m' (by omega);simp only [qkV,hlib,hg,if_true];unfold ioF;simp only [epr,List.isEmpty_nil,if_true,qyc,hcs,hlp,ep,Bool.not_false,Bool.and_self];rw [show (List.map V.qbi (V.ptr ⟨0,0⟩ 0::vrest))=V.ptr ⟨0,0⟩ 0::vrest.map V.qbi from rfl,this];simp [V.qq,V.owns,ownsL,ptrsL,hlp',ep']
theorem qud(hT:TOk P H lib T)(hJ:∀g,J.lib g=false->lib g=none)(hI:qBQ P H lib J.io):∀n,OOk P H lib (qju P H J T n)
 |0=>⟨λctx g args M R k r vs M' h=>by simp [qju]at h,λctx f bid c st R k r s h=>by simp [qju]at h,λctx g args R k r vs h=>by simp [qju]at h,λctx g args R k r vs h=>by simp [qju]at h⟩
 |n+1=>by
  have ih:=qud hT hJ hI n;refine ⟨λctx g args M R k r vs M' h ha hM=>?_,λctx f bid c st R k r s h hs=>?_,λctx g args R k r vs h ha=>?_,λctx g args R k r vs h ha=>?_⟩
  rotate_right
  ·simp only [qju]at h;split at h
   rotate_left
   ·cases h
   rename_i hc;simp only [qe,Bool.not_eq_true']at hc;obtain ⟨⟨hgo,hne⟩,hot⟩:=hc;obtain ⟨x,v,hk,hr,hl,hev⟩:=qyU hT ih h ha;refine ⟨x,v,hk,hr,?_⟩;obtain ⟨n1,h1⟩:=hev;refine ⟨n1+1,λm hm=>?_⟩;obtain ⟨m',rfl⟩:∃m',m=m'+1:=⟨m-1,by omega⟩
   have h2:=h1 m' (by omega);simp only [qkV];have hvs:vs.isEmpty=false/\ownsL vs.tail=false:=by
    cases args with
    |nil=>cases hne
    |cons a asz =>
     simp only [RVL]at ha;obtain ⟨v0,m0,rfl,_,h3⟩:=ha;refine ⟨rfl,?_⟩;cases ho:ownsL m0 with
     |false=>exact ho
     |true=>rw [List.tail_cons,RVL.owns _ _ h3 ho]at hot;cases hot
   rw [hgo,hJ g hl,hvs.1,hvs.2];exact h2
  rotate_right
  ·simp only [qju]at h;obtain ⟨x,τ,o,l,v,sl,hk,hkt,hr,hom,hev⟩:=qv3 hT ih h ha;refine ⟨x,τ,o,l,v,sl,hk,hkt,hr,hom,?_⟩;obtain ⟨n1,h1⟩:=hev;refine ⟨n1+1,λm hm=>?_⟩;obtain ⟨m',rfl⟩:∃m',m=m'+1:=⟨m-1,by omega⟩
   exact h1 m' (by omega)
  ·simp only [qju]at h;split at h
   ·rename_i hg;exact qAm hI hg h ha hM
   rename_i hg;obtain ⟨x,N,wb,v,N',hk,hr,hN,hlen,hfr,hl,hev⟩:=qAA hT ih h (qBF ha) hM;refine ⟨_,N,wb,_,N',hk,qBE hr,hN,hlen,hfr,?_⟩;obtain ⟨n1,h1⟩:=hev;refine ⟨n1+1,λm hm=>?_⟩;obtain ⟨m',rfl⟩:∃m',m=m'+1:=⟨m-1,by omega⟩
   have:=h1 m' (by omega);simp only [qkV,hJ g hl];rw [if_neg hg];have h3:qy4 P H (qkV P H lib m') g (dnA H g vs) M'=some (v,N'):=this;rw [h3];rfl
  ·simp only [qju]at h;obtain ⟨e,st',s',hev,hR,hF,hk⟩:=qna hT ih c bid st _ _ r s h hs;refine ⟨e,st',s',?_,hR,hF,hk⟩;obtain ⟨n1,h1⟩:=hev;refine ⟨n1+1,λm hm=>?_⟩;obtain ⟨m',rfl⟩:∃m',m=m'+1:=⟨m-1,by omega⟩
   exact h1 m' (by omega)
def qN(P:Program)(H:Hints)(lib:FuncId->Option (List V->Option V))(e:Entry):Prop :=
 ∀x y,e.F x=some y->∀vs,RVL (qaF e.ps x) vs->∃v,qp5 P H lib e.g vs [] v []/\RV (qpw e.rs y) v
theorem quq{τ:Ty}{cs:List TV}{x:τ.den}{l':List V}(h:qr4 τ cs=some x)(hr:RVL cs l'):RVL (ofTy τ 1000 x).cells l':=by
 unfold qr4 at h;split at h
 ·rename_i h1;split at h
  ·rename_i c;obtain ⟨u,rfl,hu⟩:=qdg hr;have h2:=rv_ofTy _ _ _ _ (qcP _ _ _ _ _ h hu);have h3:(ofTy τ 1000 x).cells=[ofTy τ 1000 x]:=by cases τ<;>first|rfl|simp [Ty.one]at h1
   rw [h3];exact qx.2 ⟨h2,q6⟩
  ·cases h
 ·rename_i h1;have h2:=rv_ofTy _ _ _ _ (qcP _ _ _ _ (.agg l') h (by simp only [RV];exact ⟨l',rfl,hr⟩));cases τ with
  |unit=>simp only [ofTy,TV.cells,RV]at h2 ⊢;obtain ⟨m,e,hm⟩:=h2;cases e;exact hm
  |pair a b=>simp only [ofTy,TV.cells,RV]at h2 ⊢;obtain ⟨m,e,hm⟩:=h2;cases e;exact hm
  |mset t=>simp [qem]at h
  |_=>simp [Ty.one]at h1
theorem qr5{c:Cp}{w:TV}{x:c.den}{v:V}(h:qz1 c w=some x)(hr:RV w v):RV (qBw c x) v:=by
 cases c with
 |v τ=>exact rv_ofTy _ _ _ _ (qcP _ _ _ _ _ h hr)
 |p τ =>
  cases w<;>simp only [qz1]at h<;>try (cases h;done)
  rename_i sh cs;cases sh with
  |false=>simp only [qz1]at h;cases h
  |true =>
   simp only [qz1]at h;simp only [RV]at hr;obtain ⟨f,l',rfl,hf,hsh,hl⟩:=hr;simp only [qBw,RV];exact ⟨f,l',rfl,hf,hsh,quq h hl⟩
theorem qtp:∀(cs:List Cp) (l:List TV) (x:denC cs) (l':List V),qqj cs l=some x->RVL l l'->RVL (qyM cs x) l'
 |[],l,x,l',h,hr=>by
  cases l with
  |nil=>simpa [qyM]using hr
  |cons=>simp [qqj]at h
 |[c],l,x,l',h,hr=>by
  match l,h,hr with
  |[v],h,hr =>
   obtain ⟨u,rfl,h1⟩:=qdg hr;exact qx.2 ⟨qr5 h h1,q6⟩
  |[],h,hr=>simp [qqj]at h
  |_::_::_,h,hr=>simp [qqj]at h
 |c::q::ps,l,x,l',h,hr=>by
  match l,h,hr with
  |[],h,hr=>simp [qqj]at h
  |v::l,h,hr =>
   simp only [qqj]at h;obtain ⟨y,hy,h⟩:=qd.1 h;obtain ⟨z,hz,h⟩:=qd.1 h;simp only [qb]at h;subst h;simp only [RVL]at hr;obtain ⟨u,m,rfl,h1,h2⟩:=hr;exact qx.2 ⟨qr5 hy h1,qtp (q::ps) l _ _ hz h2⟩
theorem qvX{p:Pm}{w:TV}{x:p.den}{v:V}(h:qAU p w=some x)(hr:RV w v):RV (qBW p x) v:=by
 cases p with
 |ty τ=>exact rv_ofTy _ _ _ _ (qcP _ _ _ _ _ h hr)
 |ptr τ=>exact qr5 (c:=.p τ) h hr
 |fn g cs =>
  cases w<;>simp only [qAU]at h<;>try (cases h;done)
  rename_i g' first cap;cases first with
  |cons y ys=>simp only [qAU]at h;cases h
  |nil =>
   simp only [qAU]at h;split at h
   ·rename_i hg;subst hg;simp only [RV]at hr;obtain ⟨a',b',rfl,ha,hb⟩:=hr;simp only [RVL]at ha;subst ha;simp only [qBW,RV];exact ⟨[],b',rfl,q6,qtp _ _ _ _ h hb⟩
   ·cases h
theorem qoI:∀(ps:List Pm) (l:List TV) (x:denP ps) (l':List V),qqi ps l=some x->RVL l l'->RVL (qaF ps x) l'
 |[],l,x,l',h,hr=>by
  cases l with
  |nil=>simpa [qaF]using hr
  |cons=>simp [qqi]at h
 |[p],l,x,l',h,hr=>by
  match l,h,hr with
  |[v],h,hr =>
   obtain ⟨u,rfl,h1⟩:=qdg hr;exact qx.2 ⟨qvX h h1,q6⟩
  |[],h,hr=>simp [qqi]at h
  |_::_::_,h,hr=>simp [qqi]at h
 |p::q::ps,l,x,l',h,hr=>by
  match l,h,hr with
  |[],h,hr=>simp [qqi]at h
  |v::l,h,hr =>
   simp only [qqi]at h;obtain ⟨y,hy,h⟩:=qd.1 h;obtain ⟨z,hz,h⟩:=qd.1 h;simp only [qb]at h;subst h;simp only [RVL]at hr;obtain ⟨u,m,rfl,h1,h2⟩:=hr;exact qx.2 ⟨qvX hy h1,qoI (q::ps) l _ _ hz h2⟩
theorem qzQ:∀{l:List Entry},(∀e∈l,qN P H lib e)->TOk P H lib (qea l)
 |[],_=>λg args R k r vs h=>by simp [qea]at h
 |e::l,he=>λg args R k r vs h ha=>by
  have ih:=qzQ (l:=l) λe' h'=>he e' (by simp [h']);simp only [qea]at h;split at h
  ·rename_i hg;subst hg;split at h
   ·rename_i x hx;obtain ⟨y,hy,hk⟩:=qd.1 h;obtain ⟨v,hev,hr⟩:=he e (by simp) x y hy vs (qoI _ _ _ _ hx ha);exact ⟨_,v,hk,hr,hev⟩
   ·exact ih _ _ _ _ _ _ h ha
  ·exact ih _ _ _ _ _ _ h ha
theorem qY:TOk P H lib (qea []):=qzQ (by simp)
theorem qt{e:Entry}{l:List Entry}(h:qN P H lib e)(h':TOk P H lib (qea l)):TOk P H lib (qea (e::l)):=λg args R k r vs hh ha=>by
 simp only [qea]at hh;split at hh
 ·rename_i hg;subst hg;split at hh
  ·rename_i x hx;obtain ⟨y,hy,hk⟩:=qd.1 hh;obtain ⟨v,hev,hr⟩:=h x y hy vs (qoI _ _ _ _ hx ha);exact ⟨_,v,hk,hr,hev⟩
  ·exact h' _ _ _ _ _ _ hh ha
 ·exact h' _ _ _ _ _ _ hh ha
theorem qx7{rs:List (Ty×Nat)}{x:TV}{y:denL (rs.map (·.1))}{v:V}(h:qvY rs x=some y)(hr:RV x v):RV (qpw rs y) v:=by
 match rs,y,h with
 |[p],y,h =>
  simp only [qvY]at h;have:=qtn [p] [x] y [v] h (qx.2 ⟨hr,q6⟩);simp only [qpw];obtain ⟨τ,o⟩:=p;simp only [ofL]at this ⊢;exact (qx.1 this).1
 |[],y,h =>
  cases x<;>simp only [qvY]at h<;>try (cases h;done)
  rename_i l _;simp only [RV]at hr;obtain ⟨l',rfl,hl⟩:=hr;have:=qtn [] l y l' h hl;simp only [qpw,ofL,qcd,RV];exact ⟨l',rfl,this⟩
 |p::q::rs,y,h =>
  cases x<;>simp only [qvY]at h<;>try (cases h;done)
  rename_i l _;simp only [RV]at hr;obtain ⟨l',rfl,hl⟩:=hr;have:=qtn (p::q::rs) l y l' h hl;have hpk:∀m:List TV,2<=m.length->qcd m=.tuple m:=λm hm=>by
   match m,hm with
   |_::_::_,_=>rfl
  simp only [qpw];rw [hpk _ (by rw [qhg _ _ _ h];have:=qhg _ _ _ h;obtain ⟨τ,o⟩:=p;cases rs<;>simp [ofL]at this<;>omega)];simp only [RV];exact ⟨l',rfl,this⟩
theorem qJ(hT:TOk P H lib T)(hJ:∀g,J.lib g=false->lib g=none)(n:Nat)(g:FuncId)(ps:List Pm)(rs:List (Ty×Nat))(F:denP ps->Option (denL (rs.map (·.1))))
  (h:∀x,fnT P H J T n g (qaF ps x) rs=F x) (hI:qBQ P H lib J.io:=by exact qBo):qN P H lib ⟨g,ps,rs,F⟩:=by
 intro x y hy vs hvs;simp only at hy hvs;rw [<- h x]at hy;unfold fnT at hy;obtain ⟨w,N,wb,v,N',hk,hr,hN,hlen,_,hev⟩:=(qud hT hJ hI n).call _ _ _ _ _ _ _ _ [] hy hvs ⟨rfl,λl s=>by simp [qad,qaj,RB],by simp,λl s c h=>by simp [qaj]at h⟩;have hN0:N=[]:=List.eq_nil_of_length_eq_zero (by rw [hlen];rfl);subst hN0;have hN0':N'=[]:=List.eq_nil_of_length_eq_zero (by rw [hN.len];rfl);subst hN0';exact ⟨v,hev,qx7 hk hr⟩
theorem quB(hm:P.follows .mixedOrders=true)(qbO:qh1 P H)
  (hlib:∀g h args r,lib g=some h->h args=some r->qaS P g args [] r []) {e:Entry} (he:qN P H lib e) {x:denP e.ps} {y:denL (e.rs.map (·.1))} (h:e.F x=some y) {vs:List V} (hv:RVL (qaF e.ps x) vs) :
  ∃v,qaS P e.g vs [] v []/\RV (qpw e.rs y) v:=by
 obtain ⟨v,⟨n,hev⟩,hr⟩:=he x y h vs hv;exact ⟨v,(qsG hm qbO hlib n).call _ _ _ _ _ (hev n (Nat.le_refl _)),hr⟩
end
end Go.Tx
end
section
namespace Go.Tx
open Go Go.Ab Go.RowKit Go.ChangeShapes Go.WideShapes Go.Deep
section
def Rng(N:Nat):(τ:Ty)->τ.den->Prop
 |.int k,n=>k.min<=n/\n<=k.max
 |.bool,_=>True
 |.str,s=>s.length<=N
 |.flt,_=>True
 |.cx,_=>True
 |.err,_=>True
 |.mset _,_=>True
 |.nsl _,_=>True
 |.sl t,l=>l.length<=N/\∀e∈l,Rng N t e
 |.unit,_=>True
 |.pair a b,x=>Rng N a x.1/\Rng N b x.2
def qA4(N:Nat):(τs:List Ty)->denP (τs.map .ty)->Prop
 |[],_=>True
 |[τ],x=>Rng N τ x
 |τ::q::l,x=>Rng N τ x.1/\qA4 N (q::l) x.2
def cx0(w:World):Cx:={β:=λ_=>none,ω:=λb=>match w.heap[b]? with
 |some (.cells c _ _)=>some (c.size,true)
 |_=>none}
structure Sm {H:Type} (N:Nat) (S:DataW H->Prop):Prop where
 slice:∀es sp,S (.slice es sp)->es.length<=maxLen->es.length<=N/\∀e∈es,S e
 agg:∀ps,S (.agg ps)->∀p∈ps,S p
 str:∀b,S (.lit (.string b))->b.length<=maxLen->b.length<=N
def qti(N:Nat)(w:World)(τ:Ty)(v:Value):Prop:=∃y u,Rng N τ y/\RTy τ 1000 y u/\Rep w (cx0 w) u v []
section
variable (P:Program)
def okT:Nat->TypeId->Bool
 |0,_=>false
 |d+1,t=>decide (t<P.types.size)&&match P.underlying t with
  |some (.slice e)=>decide (P.cellsOf e≠0)&&((qbD P d e).map List.length==some (P.cellsOf e))&&okT d e
  |some (.struct fields)=>fields.toList.all λfd=>okT d fd.type
  |some (.array _ e)=>okT d e
  |some (.float _)|some (.complex _)=>false
  |_=>true
end
variable {H:Type} {enc:TypeId × Value->H} {P:Program} {w:World} {base:Nat} {held:Bool}
theorem glue{α β:Type}{R:α->β->Prop}:∀(css:List (List α)) (szs:List Nat) (vals:List β),css.length=szs.length->vals.length=szs.sum ->
  (∀(j:Nat) c s,css[j]?=some c->szs[j]?=some s->All2 R c ((vals.drop (szs.take j).sum).take s))->All2 R css.flatten vals
 |[],szs,vals,h1,h2,_=>by
  have:szs=[]:=List.eq_nil_of_length_eq_zero (by simpa using h1.symm);subst this;have:vals=[]:=List.eq_nil_of_length_eq_zero (by simpa using h2);subst this;exact .nil
 |c::css,[],vals,h1,_,_=>by simp at h1
 |c::css,s::szs,vals,h1,h2,h=>by
  have h0:=h 0 c s rfl rfl;simp only [List.take_zero,List.sum_nil,List.drop_zero]at h0;have hr:=glue css szs (vals.drop s) (by simpa using h1) (by simp only [List.length_drop,h2,List.sum_cons];omega) λj c' s' hc hs=>by
   have:=h (j+1) c' s' (by simpa using hc) (by simpa using hs);simpa [List.take_succ_cons,List.sum_cons,List.drop_drop]using this
  have:=h0.append hr;simpa [List.flatten_cons]using this
theorem qsH{N:Nat}:∀(cs:List Ty) (vals:List Value),All2 (qti N w) cs vals->∃(y:(cs.foldr Ty.pair .unit).den) (us:List V),Rng N _ y/\RTy (cs.foldr Ty.pair .unit) 1000 y (.agg us)/\RepL w (cx0 w) us vals []
 |[],vals,h=>by cases h;exact ⟨(),[],trivial,by simp [RTy],by simp [RepL]⟩
 |c::cs,vals,h=>by
  cases h with
  |cons h1 h2 =>
   obtain ⟨y,u,hy,hu,hr⟩:=h1;obtain ⟨ys,us,hys,hus,hrs⟩:=qsH cs _ h2;refine ⟨(y,ys),u::us,⟨hy,hys⟩,?_,?_⟩
   ·simp only [List.foldr_cons,RTy];exact ⟨u,us,rfl,hu,hus⟩
   ·simp only [RepL];exact ⟨_,_,[],[],rfl,rfl,hr,hrs⟩
theorem qsa{d:Nat}{e:TypeId}{σ:Ty}(hc:qbD P d e=some [σ])(hs:∀fs,P.underlying e≠some (.struct fs))(ha:∀n q,P.underlying e≠some (.array n q)):σ.one=true:=by
 cases d with
 |zero=>simp [qbD]at hc
 |succ d =>
  simp only [qbD]at hc;split at hc
  ·cases hc;rfl
  ·cases hc;rfl
  ·cases hc;rfl
  ·cases hc;rfl
  ·cases hc;rfl
  ·split at hc
   ·cases hc;rfl
   ·cases hc;rfl
   ·cases hc;rfl
   ·cases hc
  ·rename_i fs hfs;exact absurd hfs (hs _)
  ·rename_i n e' hfs;exact absurd hfs (ha _ _)
  ·cases hc
def qAV(P:Program)(e:TypeId)(cs:List Ty):Option Ty:=match P.underlying e with
 |some (.struct _)=>some (cs.foldr Ty.pair .unit)
 |some (.array ..)=>some (cs.foldr Ty.pair .unit)
 |_=>match cs with
  |[τ]=>some τ
  |_=>none
theorem qAc{N:Nat}{d:Nat}{e:TypeId}{cs:List Ty}{τ:Ty}(hc:qbD P d e=some cs)(hτ:qAV P e cs=some τ){vals:List Value}(h:All2 (qti N w) cs vals) :
  ∃(y:τ.den) (u:V) (v:Value),Rng N τ y/\RTy τ 1000 y u/\Rep w (cx0 w) u v []/\v.cells.toList=vals:=by
 have agg:τ=cs.foldr Ty.pair .unit->∃(y:τ.den) (u:V) (v:Value),Rng N τ y/\RTy τ 1000 y u/\Rep w (cx0 w) u v []/\v.cells.toList=vals:=by
  rintro rfl;obtain ⟨y,us,hy,hu,hr⟩:=qsH cs vals h;exact ⟨y,.agg us,.agg vals.toArray,hy,hu,by simp only [Rep];exact ⟨vals,rfl,hr⟩,by simp [Value.cells]⟩
 unfold qAV at hτ;split at hτ
 ·cases hτ;exact agg rfl
 ·cases hτ;exact agg rfl
 ·rename_i hns hna;have hns':=hns;have hna':=hna;split at hτ
  ·cases hτ;have hone:=qsa hc (λfs hh=>hns' fs hh) (λn q hh=>hna' n q hh)
   match vals,h with
   |v::_,.cons h1 .nil =>
    obtain ⟨y,u,hy,hu,hr⟩:=h1;refine ⟨y,u,v,hy,hu,hr,?_⟩;rw [qb3 (qis (qxu hone hu) hr)]
  ·cases hτ
theorem qwq{b:Nat}{e:Nat}{fz:Bool}(h:(cx0 w).ω b=some (e,fz)):fz=true/\b<w.heap.size/\∃c t fr,w.heap[b]?=some (.cells c t fr)/\e=c.size:=by
 simp only [cx0]at h;split at h
 ·rename_i c t fr hc;cases h;exact ⟨rfl,(Array.getElem?_eq_some_iff.1 hc).1,c,t,fr,hc,rfl⟩
 ·cases h
theorem qjB{a:Addr}{v:Value}(h:w.cell? a=some v):a.spot=none/\∃c t fr,w.heap[a.block]?=some (.cells c t fr)/\c[a.off]?=some v:=by
 unfold World.cell? at h;split at h
 ·rename_i c t fr hc;split at h
  ·cases h
  ·rename_i hs;exact ⟨by simpa using hs,c,t,fr,hc,h⟩
 ·cases h
theorem qxD{N:Nat}{τ:Ty}{b off len cap s:Nat}(hs:0<s)(hlc:len<=cap)(hcap:cap≠0)(hτ:τ.qbn=true)(hn:τ.qaU=s)
  (hel:∀i,i<cap->∃vals:List Value,vals.length=s/\(∀j,j<s->w.cell? ⟨b,off+i*s+j,none⟩=vals[j]?)/\(i<len->∃(y:τ.den) (u:V) (v:Value),Rng N τ y/\RTy τ 1000 y u/\Rep w (cx0 w) u v []/\v.cells.toList=vals)) :
  ∃(l:List τ.den) (us:List V),l.length=len/\(∀y∈l,Rng N τ y)/\All2 (RTy τ 1000) l us/\Rep w (cx0 w) (.sl .shared false us) (.slice (some ⟨b,off,none⟩) len cap) []:=by
 have key:∀n,n<=len->∃(l:List τ.den) (us:List V) (vals:List Value),l.length=n/\(∀y∈l,Rng N τ y)/\All2 (RTy τ 1000) l us/\RepE w (cx0 w) s us vals []/\vals.length=n*s/\(∀j v,vals[j]?=some v->w.cell? ⟨b,off+j,none⟩=some v):=by
  intro n;induction n with
  |zero=>exact λ_=>⟨[],[],[],rfl,by simp,.nil,by simp [RepE],by simp,by simp⟩
  |succ n ih =>
   intro hle;obtain ⟨l,us,vals,h1,h2,h3,h4,h5,h6⟩:=ih (by omega);obtain ⟨vs,hvl,hvc,hy⟩:=hel n (by omega);obtain ⟨y,u,v,hry,hu,hr,hcv⟩:=hy (by omega);refine ⟨l++[y],us++[u],vals++vs,by simp [h1],?_,h3.append (.cons hu .nil),?_,by simp [h5,hvl,Nat.succ_mul],?_⟩
   ·intro z hz;simp only [qj,List.mem_singleton]at hz;rcases hz with hz|rfl
    ·exact h2 z hz
    ·exact hry
   ·have h7:RepE w (cx0 w) s [u] vs []:=by
     simp only [RepE];exact ⟨v,[],[],[],by simp [hcv],by rw [<- hvl,<- hcv];simp,rfl,hr,rfl,rfl⟩
    simpa using qeR h4 h7
   ·intro j v hj;by_cases hlt:j<vals.length
    ·rw [qg hlt]at hj;exact h6 j v hj
    ·rw [List.getElem?_append_right (by omega)]at hj;have hjs:=(qm.1 hj).1;have:=hvc (j-vals.length) (by omega);rw [hj]at this;rw [<- this];congr 2
     omega
 obtain ⟨l,us,vals,h1,h2,h3,h4,h5,h6⟩:=key len (Nat.le_refl _);refine ⟨l,us,h1,h2,h3,?_⟩;have hlen:=h3.length;have hcells:=qdo hτ h3
 obtain ⟨vs,hvl,hvc,_⟩:=hel 0 (by omega);have hc0:=hvc 0 (by omega);have hv0:∃v0,vs[0]?=some v0:=⟨vs[0]'(by omega),List.getElem?_eq_getElem (by omega)⟩
 obtain ⟨v0,hv0⟩:=hv0;rw [hv0]at hc0;obtain ⟨_,c,t,fr,hblk,hoff⟩:=qjB hc0;simp only [Nat.zero_mul,Nat.add_zero]at hblk hoff;have hoff':=(Array.getElem?_eq_some_iff.1 hoff).1;simp only [Rep];refine ⟨qvP h3,.inr ⟨b,off,cap,s,vals,[],?_,?_,by simp,?_,hs,?_,h6,⟨c.size,true,?_,?_,rfl⟩,h4,by simp,by simp⟩⟩
 ·rw [hlen,h1]
 ·rw [hlen,h1];exact hlc
 ·rw [hlen,h1];exact h5
 ·intro x hx;rw [(hcells x hx).1];exact hn
 ·simp only [cx0,hblk]
 ·by_cases h0:vals.length=0
  ·rw [h0];omega
  ·have:∃v1,vals[vals.length-1]?=some v1:=⟨vals[vals.length-1]'(by omega),List.getElem?_eq_getElem (by omega)⟩
   obtain ⟨v1,hv1⟩:=this;obtain ⟨_,c',t',fr',hblk',hoff1⟩:=qjB (h6 _ _ hv1);simp only at hblk' hoff1;rw [hblk]at hblk';cases hblk'
   have:=(Array.getElem?_eq_some_iff.1 hoff1).1;omega
theorem quA{d:Nat}{e:TypeId}{cs:List Ty}{τ:Ty}(hc:qbD P d e=some cs)(hτ:qAV P e cs=some τ)(hones:∀c∈cs,c.one=true):τ.qbn=true/\τ.qaU=cs.length:=by
 have agg:∀cs:List Ty,(∀c∈cs,c.one=true)->(cs.foldr Ty.pair .unit).qmT=true/\(cs.foldr Ty.pair .unit).qbn=true/\(cs.foldr Ty.pair .unit).qaU=cs.length:=by
  intro cs;induction cs with
  |nil=>intro _;exact ⟨rfl,rfl,rfl⟩
  |cons c cs ih =>
   intro h;obtain ⟨h1,_,h3⟩:=ih λc' hc'=>h c' (by simp [hc']);simp only [List.foldr_cons,Ty.qmT,Ty.qbn,Ty.qaU,h c (by simp),h1,h3,Bool.and_self,List.length_cons];exact ⟨trivial,trivial,trivial⟩
 unfold qAV at hτ;split at hτ
 ·cases hτ;exact ⟨(agg cs hones).2.1,(agg cs hones).2.2⟩
 ·cases hτ;exact ⟨(agg cs hones).2.1,(agg cs hones).2.2⟩
 ·split at hτ
  ·cases hτ;have h1:=hones τ (by simp);cases τ<;>first|exact ⟨rfl,rfl⟩|simp [Ty.one]at h1
  ·cases hτ
theorem qlb{α β:Type}{g:α->Option β}:∀{l:List α} {r:List β},l.mapM g=some r->r.length=l.length/\∀(i:Nat) (a:α),l[i]?=some a->∃b,r[i]?=some b/\g a=some b
 |[],r,h=>by simp at h;subst h;exact ⟨rfl,by simp⟩
 |a::l,r,h=>by
  simp only [List.mapM_cons,Option.bind_eq_bind,qd]at h;obtain ⟨b,hb,r',hr',h⟩:=h;cases h;obtain ⟨h1,h2⟩:=qlb hr';refine ⟨by simp [h1],λi x hi=>?_⟩;cases i with
  |zero=>simp at hi;subst hi;exact ⟨b,rfl,hb⟩
  |succ n=>obtain ⟨c,hc,hg⟩:=h2 n x (by simpa using hi);exact ⟨c,by simpa using hc,hg⟩
theorem qe1:∀(d:Nat) (t:TypeId) (cs:List Ty),qbD P d t=some cs->∀c∈cs,c.one=true
 |0,t,cs,h=>by simp [qbD]at h
 |d+1,t,cs,h=>by
  simp only [qbD]at h;split at h
  ·cases h;simp [Ty.one]
  ·cases h;simp [Ty.one]
  ·cases h;simp [Ty.one]
  ·cases h;simp [Ty.one]
  ·cases h;simp [Ty.one]
  ·split at h
   ·cases h;simp [Ty.one]
   ·cases h;simp [Ty.one]
   ·cases h;simp [Ty.one]
   ·cases h
  ·rename_i fields _;obtain ⟨css,hcss,rfl⟩:=qc.1 h;obtain ⟨h1,h2⟩:=qlb hcss;intro c hc;obtain ⟨q,hq,hcq⟩:=List.mem_flatten.1 hc;obtain ⟨i,hi⟩:=List.mem_iff_getElem?.1 hq;have hlt:i<fields.toList.length:=by have:=(qm.1 hi).1;omega
   obtain ⟨b,hb,hg⟩:=h2 i _ (List.getElem?_eq_getElem hlt);rw [hi]at hb;cases hb;exact qe1 d _ _ hg c hcq
  ·obtain ⟨q,hq,rfl⟩:=qc.1 h;intro c hc;obtain ⟨q',hq',hcq⟩:=List.mem_flatten.1 hc;obtain ⟨_,rfl⟩:=List.mem_replicate.1 hq';exact qe1 d _ _ hq c hcq
  ·cases h
end
section
variable {H:Type} {enc:TypeId × Value->H} {P:Program} {w:World} {base:Nat} {held:Bool}
theorem qsX{d:Nat}{e:TypeId}{cs1 cs:List Ty}(hc:qbD P d e=some cs1)(h:(match qbD P d e,P.underlying e with
   |some cs,some (.struct _)=>some [Ty.sl (cs.foldr .pair .unit)]
   |some cs,some (.array ..)=>some [.sl (cs.foldr .pair .unit)]
   |some [τ],_=>some [.sl τ]
   |_,_=>none)=some cs):∃τ,cs=[.sl τ]/\qAV P e cs1=some τ:=by
 rw [hc]at h;unfold qAV;cases hu:P.underlying e with
 |none=>rw [hu]at h;simp only at h ⊢;split at h<;>simp_all
 |some dd =>
  rw [hu]at h;cases dd<;>simp only at h ⊢<;>first|(simp only [qb]at h;exact ⟨_,h.symm,rfl⟩)|(split at h<;>simp_all)
theorem qxo{X:Cx}:Rep w X (.sl .shared false []) (.slice none 0 0) []:=by simp [Rep,ptrsL]
theorem qxp{X:Cx}(a:Addr):Rep w X (.sl .shared false []) (.slice (some a) 0 0) []:=by simp [Rep,ptrsL]
theorem qhv(hl:laidOutB P=true){N:Nat}{S:DataW H->Prop}(hS:Sm N S):∀(d:Nat) (t:TypeId) (cs:List Ty),qbD P d t=some cs->okT P d t=true->∀(fuel:Nat) (vals:List Value) (x:DataW H×List MemPlace),S x.1 ->
  DataW.trod enc P w base (λ_=>true) held fuel t vals=some x->All2 (qti N w) cs vals
 |0,t,cs,hc,_,fuel,vals,x,hx,h=>by simp [qbD]at hc
 |d+1,t,cs,hc,hok,fuel,vals,x,hx,h=>by
  simp only [qbD]at hc;simp only [okT,qe,decide_eq_true_eq]at hok;split at hc
  ·rename_i k hu;cases hc;obtain ⟨n,rfl,rfl,hwf⟩:=DataW.trod_int hu h;refine .cons ⟨n,.val (.int k n),?_,by simp [RTy],by simp [Rep]⟩ .nil;simp only [Rng];simp only [Lit.wf,qe,decide_eq_true_eq]at hwf;exact hwf
  ·rename_i hu;cases hc;obtain ⟨b,rfl,rfl⟩:=DataW.trod_bool hu h;exact .cons ⟨b,.val (.bool b),trivial,by simp [RTy],by simp [Rep]⟩ .nil
  ·rename_i hu;cases hc;obtain ⟨s,rfl,rfl,hs⟩:=DataW.trod_string hu h;have hsl:s.data.toList.length<=maxLen:=by
    have e:s.data.toList.length=s.size:=Array.length_toList;rw [e];exact hs
   exact .cons ⟨s.data.toList,.val (.string s),hS.str _ hx hsl,by simp [RTy],by simp [Rep]⟩ .nil
  ·rename_i hu;rw [hu]at hok;simp at hok
  ·rename_i hu;rw [hu]at hok;simp at hok
  ·rename_i e hu;obtain ⟨ht,hoe⟩:=hok;rw [hu]at hoe;simp only [qe,decide_eq_true_eq,beq_iff_eq]at hoe;cases hce:qbD P d e with
   |none=>rw [hce]at hc;simp at hc
   |some cs1 =>
    obtain ⟨τ,rfl,hτ⟩:=qsX hce (by rw [hce];rw [hce]at hc;exact hc);obtain ⟨hel,hnc⟩:=quA hce hτ (qe1 d e cs1 hce);rcases open_slice hu h with ⟨rfl,rfl⟩|⟨a,len,cap,m,n,D,Pl,rfl,hb,hlc,hcm,hm,rfl,hx'⟩
    ·exact .cons ⟨[],.sl .shared false [],⟨Nat.zero_le _,by simp⟩,by simp only [RTy];exact ⟨_,_,[],rfl,qe3 rfl (by simp) (λ_=>rfl),.nil⟩,qxo⟩ .nil
    ·simp only [if_true]at hm;subst hm;obtain ⟨hN,hSe⟩:=hS.slice _ _ hx (by simp;omega);by_cases hcap:m=0
     ·subst hcap;have hlen:len=0:=by omega
      subst hlen;exact .cons ⟨[],.sl .shared false [],⟨Nat.zero_le _,by simp⟩,by simp only [RTy];exact ⟨_,_,[],rfl,qe3 rfl (by simp) (λ_=>rfl),.nil⟩,qxp a⟩ .nil
     ·have hspot:a.spot=none:=by
       obtain ⟨cs',hcs',_⟩:=hx' 0 (by omega);obtain ⟨_,hl1,hc1⟩:=World.cells?_some hcs';have h0:=hc1 0 (by omega);simp only [Nat.zero_mul]at h0;have:∃v0,cs'[0]?=some v0:=⟨cs'[0]'(by omega),List.getElem?_eq_getElem (by omega)⟩
       obtain ⟨v0,hv0⟩:=this;rw [hv0]at h0;have:=(qjB h0).1;simpa [Addr.add]using this
      obtain ⟨b,off,spot⟩:=a;simp only at hspot;subst hspot;have hsz:∀i,i<m->∃vals:List Value,vals.length=P.cellsOf e/\(∀j,j<P.cellsOf e->w.cell? ⟨b,off+i*P.cellsOf e+j,none⟩=vals[j]?) /\
        (i<len->∃(y:τ.den) (u:V) (v:Value),Rng N τ y/\RTy τ 1000 y u/\Rep w (cx0 w) u v []/\v.cells.toList=vals):=λi hi=>by
       obtain ⟨cs',hcs',htr⟩:=hx' i hi;obtain ⟨_,hl1,hc1⟩:=World.cells?_some hcs';refine ⟨cs',hl1,λj hj=>?_,λhil=>?_⟩
       ·rw [<- hc1 j hj,Addr.add_lit,Addr.add_lit]
       ·have hSi:S (D i):=hSe _ (List.mem_map.2 ⟨i,List.mem_range.2 hil,rfl⟩);exact qAc hce hτ (qhv hl hS d e cs1 hce hoe.2 n cs' _ hSi htr)
      have hn:τ.qaU=P.cellsOf e:=by
       have:=hoe.1.2;rw [hce]at this;simp only [qi,qb]at this;rw [hnc,this]
      obtain ⟨l,us,h1,h2,h3,h4⟩:=qxD (Nat.pos_of_ne_zero hoe.1.1) hlc hcap hel hn hsz;exact .cons ⟨l,.sl .shared false us,⟨by rw [h1];simpa using hN,h2⟩,by simp only [RTy];exact ⟨_,_,us,rfl,qe3 rfl (by simp) (λ_=>rfl),h3⟩,h4⟩ .nil
  ·rename_i fields hu;obtain ⟨ht,hoe⟩:=hok;rw [hu]at hoe;simp only [List.all_eq_true]at hoe;obtain ⟨css,hcss,rfl⟩:=qc.1 hc;obtain ⟨hl1,hget⟩:=qlb hcss;obtain ⟨xs,n,_,rfl,hvl,hxl,hxs⟩:=DataW.trod_struct hu h;obtain ⟨_,hsum,hoff⟩:=kid_struct hl ht hu;refine glue css (fields.toList.map λf=>P.cellsOf f.type) vals (by simp [hl1]) (by rw [hvl,hsum]) λj c s hcj hsj=>?_;rw [List.getElem?_map]at hsj;obtain ⟨fd,hfd,rfl⟩:=qc.1 hsj;obtain ⟨c',hc',hg⟩:=hget j fd hfd;rw [hcj]at hc';cases hc';have hx1:=hxs j fd (by simpa using hfd);rw [hoff j fd hfd,List.map_take]at hx1;have hj:j<xs.length:=by rw [hxl];have:=(qm.1 hfd).1;simpa using this
   rw [List.getElem?_eq_getElem hj]at hx1;exact qhv hl hS d fd.type c hg (hoe fd (List.mem_of_getElem? hfd)) n _ _ (hS.agg _ hx _ (List.mem_map.2 ⟨xs[j],List.getElem_mem hj,rfl⟩)) hx1
  ·rename_i n' e hu;obtain ⟨ht,hoe⟩:=hok;rw [hu]at hoe;simp only at hoe;obtain ⟨cs1,hce,rfl⟩:=qc.1 hc;obtain ⟨_,hsum⟩:=kid_array hl ht hu;cases fuel with
   |zero=>simp [DataW.trod]at h
   |succ fuel =>
    unfold DataW.trod at h;rw [hu]at h;simp only at h;split at h
    ·rename_i hvl;obtain ⟨xs,hxs,rfl⟩:=qc.1 h;obtain ⟨hxl,hget⟩:=qlb hxs;refine glue _ (List.replicate n' (P.cellsOf e)) vals (by simp) (by rw [hvl,hsum];simp) λj c s hcj hsj=>?_;have hjn:j<n':=by have:=(qm.1 hcj).1;simpa using this
     rw [List.getElem?_replicate,if_pos hjn]at hcj hsj;cases hcj;cases hsj
     obtain ⟨b,hb,hg⟩:=hget j j (by simp [hjn]);have htk:((List.replicate n' (P.cellsOf e)).take j).sum=j*P.cellsOf e:=by
      rw [List.take_replicate];simp [Nat.min_eq_left (Nat.le_of_lt hjn)]
     rw [htk];exact qhv hl hS d e cs1 hce hoe fuel _ _ (hS.agg _ hx _ (List.mem_map.2 ⟨b,List.mem_of_getElem? hb,rfl⟩)) hg
    ·cases h
  ·cases hc
theorem qyT(hl:laidOutB P=true){N:Nat}{S:DataW H->Prop}(hS:Sm N S){t:TypeId}{τ:Ty}(hτ:qzR P t=some τ)(hok:okT P 10 t=true){v:Value}{d:DataW H}{ps:List MemPlace}{b0:Nat}(hval:Value.okWide P w .any b0 t v)
  (h:DataW.Trod enc P w base (λ_=>true) held t v d ps) (hd:S d):qti N w τ v:=by
 obtain ⟨fuel,hf⟩:=h;unfold qzR at hτ;split at hτ
 ·rename_i cs hc;have hall:=qhv hl hS 10 t cs hc hok fuel _ _ hd hf;split at hτ
  ·rename_i ha;cases hτ;obtain ⟨y,us,hy,hu,hr⟩:=qsH cs _ hall;have hv:∃c,v=.agg c:=by
    unfold qO at ha;unfold Value.okWide at hval;split at ha
    ·rename_i fs hfs;rw [hfs]at hval;obtain ⟨c,hc,_⟩:=hval;exact ⟨c,hc⟩
    ·rename_i n e hfs;rw [hfs]at hval;obtain ⟨c,hc,_⟩:=hval;exact ⟨c,hc⟩
    ·cases ha
   obtain ⟨c,rfl⟩:=hv;refine ⟨y,.agg us,hy,hu,?_⟩;simp only [Rep];exact ⟨c.toList,by simp,by simpa [Value.cells]using hr⟩
  ·rename_i ha
   match cs,hτ,hall with
   |τ'::cs',hτ,hall =>
    simp only [List.head?_cons,qb]at hτ;subst hτ;have hone:=qe1 10 t _ hc τ' (by simp);have hv:v.cells.toList=[v]:=by
     cases v with
     |agg c =>
      exfalso
      unfold qO at ha;unfold Value.okWide at hval;split at hval
      ·rename_i fs hfs;rw [hfs]at ha;simp at ha
      ·rename_i n e hfs;rw [hfs]at ha;simp at ha
      ·unfold Cell.okWide Cell.ok at hval;split at hval;all_goals first|(rename_i h1 h2;cases h2;done)|skip
       all_goals (split at hval<;>first|(exact hval.elim)|(rename_i h1 h2;cases h2))
     |_=>rfl
    rw [hv]at hall;cases hall with
    |cons h1 h2=>exact h1
 ·cases hτ
theorem qrg(hl:laidOutB P=true){N:Nat}{S:DataW H->Prop}(hS:Sm N S){b0:Nat}:∀(ts:List TypeId) (τs:List Ty) (vs:List Value) (ds:List (DataW H)) (ps:List MemPlace),ts.mapM (qzR P)=some τs->ts.all (okT P 10)=true ->
  (∀(j:Nat) t v,ts[j]?=some t->vs[j]?=some v->Value.okWide P w .any b0 t v)->DataW.TrodAll enc P w base (λ_=>true) held ts vs ds ps->(∀d∈ds,S d) ->
  ∃x us,qA4 N τs x/\RVL (qaF (τs.map .ty) x) us/\RepL w (cx0 w) us vs []
 |[],τs,vs,ds,ps,hm,_,_,h,_=>by
  simp at hm;subst hm;obtain ⟨rfl,_,_⟩:=trodAll_nil h;exact ⟨(),[],trivial,q6,by simp [RepL]⟩
 |t::ts,τs,vs,ds,ps,hm,hok,hval,h,hd=>by
  simp only [List.mapM_cons,Option.bind_eq_bind,qd]at hm;obtain ⟨τ,hτ,τs',hm',he⟩:=hm;cases he;simp only [List.all_cons,qe]at hok;obtain ⟨v,vs',d,ds',p,q,rfl,rfl,rfl,h1,h2⟩:=trodAll_cons h;obtain ⟨y,u,hy,hu,hr⟩:=qyT hl hS hτ hok.1 (hval 0 t v rfl rfl) h1 (hd d (by simp));obtain ⟨x,us,hx,hus,hrs⟩:=qrg hl hS ts τs' vs' ds' q hm' hok.2 (λj t' v' a b=>hval (j+1) t' v' (by simpa using a) (by simpa using b)) h2 λd' hd'=>hd d' (by simp [hd']);have hR:RepL w (cx0 w) (u::us) (v::vs') []:=by simp only [RepL];exact ⟨v,vs',[],[],rfl,rfl,hr,hrs⟩
  cases τs' with
  |nil=>exact ⟨y,u::us,hy,(qx.2 ⟨rv_ofTy _ _ _ _ hu,hus⟩:RVL (ofTy τ 1000 y::[]) (u::us)),hR⟩
  |cons τ2 τs2=>exact ⟨(y,x),u::us,⟨hy,hx⟩,(qx.2 ⟨rv_ofTy _ _ _ _ hu,hus⟩:RVL (ofTy τ 1000 y::qaF ((τ2::τs2).map .ty) x) (u::us)),hR⟩
theorem qjv(hl:laidOutB P=true){W W':World}(hb:Below W.heap.size W W'):∀{ts:List TypeId} {vs:List Value} {ds:List (DataW H)} {ps:List MemPlace},ts.all (λt=>P.readableRec t&&decide (t<P.types.size))=true ->
  DataW.TrodAll enc P W 0 (λ_=>true) true ts vs ds ps->(∀x∈ps,x.block<W.heap.size)->∀sp:Nat->Bool,(∀p∈ps,sp p.block=true)->DataW.TrodAll enc P W' 0 sp true ts vs ds ps
 |[],[],[],ps,_,h,_,sp,_=>h
 |t::ts,v::vs,d::ds,ps,hr,⟨p,q,h1,h2,e⟩,hlt,sp,hsp=>by
  simp only [List.all_cons,qe,decide_eq_true_eq]at hr;subst e;refine ⟨p,q,?_,qjv hl hb hr.2 h2 (λx hx=>hlt x (List.mem_append_right _ hx)) sp (λx hx=>hsp x (List.mem_append_right _ hx)),rfl⟩;exact WideElems.Trod_stays hl hr.1.1 hr.1.2 h1 (λx hx=>hb.same (hlt x (List.mem_append_left _ hx))) (λx hx=>hsp x (List.mem_append_left _ hx))
theorem qCd{w:World}:LRel [] w (cx0 w) (λ_=>[]) where
 box:=λr c h=>by simp [qa9]at h
 boxD:=λ_ _=>rfl
 inj:=λr r' b h=>by simp [qa9]at h
 lin:=λ_=>Lin.nil
 dis:=λ_ _ _ b hb=>by cases hb
 ptrB:=λr c h=>by simp [qa9]at h
 up:=λr c h=>by simp [qa9]at h
 dom:=λb e fz h=>(qwq h).2.1
theorem qwH{H0:Hints}{lib:FuncId->Option (List V->Option V)}(hm:P.follows .mixedOrders=true)(qbO:qh1 P H0)
  (hlib:∀g h args r,lib g=some h->h args=some r->qaS P g args [] r []) (hl:laidOutB P=true) {N:Nat} {S:DataW H->Prop} (hS:Sm N S) {k:FuncId} {fn:Func} (hfn:P.funcs[k]?=some fn) (hbody:fn.body.isSome=true)
  {ts:List TypeId} {τs:List Ty} (hts:ts.mapM (qzR P)=some τs) (hok:ts.all (okT P 10)=true) {F:denP (τs.map .ty)->Option Bool}
  (he:qN P H0 lib ⟨k,τs.map .ty,[(.bool,0)],F⟩) (hF:∀x,qA4 N τs x->F x=some true)
  {W:World} {args:Array Value} {ds:List (DataW H)} {ps:List MemPlace} {b0:Nat} (hval:∀(j:Nat) t v,ts[j]?=some t->args.toList[j]?=some v->Value.okWide P W .any b0 t v)
  (h:DataW.TrodAll enc P W 0 (λ_=>true) true ts args.toList ds ps) (hd:∀d∈ds,S d) (hgl:qlo W (cx0 W)) :
  Calls P k args W λe W'=>e=.returned (.bool true)/\Below W.heap.size W W':=by
 obtain ⟨x,us,hx,hus,hrs⟩:=qrg hl hS ts τs args.toList ds ps hts hok hval h hd;obtain ⟨v,hcall,hr⟩:=quB hm qbO hlib he (x:=x) (y:=true) (hF x hx) hus;simp only [qpw,ofL,qcd,ofTy,RV,RTy]at hr;subst hr;have hp:ptrsL us=[]:=by
  apply List.eq_nil_iff_forall_not_mem.2;intro q hq;have hk:∀(τs:List Ty) (x:denP (τs.map .ty)),ptrsTL (qaF (τs.map .ty) x)=[]:=by
   have h1:∀(τ:Ty) (y:τ.den),(ofTy τ 1000 y).qq=[]/\ptrsTL (ofTyC τ 1000 y)=[]:=by
    intro τ;induction τ with
    |pair a b iha ihb=>intro y;simp [ofTy,ofTyC,TV.qq,ptrsTL,(iha y.1).1,(ihb y.2).2]
    |_=>intro y;simp [ofTy,ofTyC,TV.qq,ptrsTL]
   intro τs;induction τs with
   |nil=>intro x;rfl
   |cons τ τs ih =>
    intro x;cases τs with
    |nil=>show ptrsTL [ofTy τ 1000 x]=[];simp [ptrsTL,(h1 τ x).1]
    |cons τ2 τs2=>show ptrsTL (ofTy τ 1000 x.1::qaF ((τ2::τs2).map .ty) x.2)=[];simp only [ptrsTL,(h1 τ x.1).1,List.nil_append];exact ih x.2
  have:=RVL.qq _ _ hus q hq;rw [hk]at this;cases this
 rcases hcall W (cx0 W) args.toList (λ_=>[]) hrs hgl qCd (λq hq=>by rw [hp]at hq;cases hq) (λ_ b e fz h=>(qwq h).1)with ⟨_,hc⟩|⟨_,v,w',hv,_⟩
 ·refine (by simpa using hc:Calls P k args W _).mono ?_;rintro e W' ⟨v,rfl,X',O',Or,hrep,_,_,_,_,_,_,haft⟩;simp only [Rep]at hrep;obtain ⟨rfl,_⟩:=hrep;refine ⟨rfl,⟨haft.os,haft.tape,haft.out,haft.size,λb hb=>?_⟩⟩;exact (haft.kept b hb (by rintro (⟨r,h1,_⟩|⟨r,h1⟩)<;>simp [qa9]at h1)).1
 ·exfalso
  have hbs:fn.body.isNone=false:=by cases hb:fn.body<;>simp_all
  simp only [callFunc,Sem.run_bind,run_program,Result.andThen_ok,hfn,qbO.1 k fn hfn hbody,hbs,qf,if_false,Sem.run_pure]at hv;cases hv
end
end Go.Tx
end
section
namespace Go.Proofs.Ytofjnhppalciiaa.Hn
open Go
def qCu:List (List Nat):=[[],[],[],[36,42,51,61,66,70,71,81,85,90,94,102,158,159,162,165,168],[28,34,41,46,48,54,56,62,64,69,73,74,92,93,97,102,107,153,155],[127,131,133,139,140,143,144,147,156,171,181,184,197,210,221,231,234,237,238,243,245,280],[14,19,23,25,31,38,44,51,59,63,69,73,77,81,92,96,100],[8],[21,22,31,32],[],[10,19,31],[11,19],[14,22,23,28,32,33,47,51],[],[29,30,43],[26],[],[45],[36],[],[57],[],[17],[],[21,32,35,65],[20,43,62],[12,28],[17,21],[23],[],[],[],[],[58,59,64,65],[40,41,46,47],[],[17,53,55],[43,44,48,55],[15],[],[5,10],[13],[74,75,78,79],[21,22,27,31,41,49,60,74,77,82],[],[],[15,50,53,56],[],[33,56,57,60],[],[],[10,18,41],[],[],[11],[],[],[13],[6],[18,22,23],[],[5,10],[],[8,16],[55],[13,19],[21,28,29],[33,37,38],[19],[5,10],[],[18,22,23],[],[],[7,17],[],[],[15],[40,42,45,52],[],[],[],[13,40],[],[],[9,24],[],[],[14],[],[],[34],[10,29],[16,25,26,30],[27,35,47,50],[15,24],[],[],[],[],[],[],[9,34],[],[17],[],[],[],[],[],[],[],[],[17],[17],[17],[17],[17],[],[],[],[],[],[],[],[],[],[],[],[],[],[],[],[]]
def qBh:List (List (Nat×List Nat)):=[[],
 [],
 [],
 [],
 [(0,[177,178,179,180,181,182,183,184,185,186,187,188,189,190,191,192,193,194,195,196,197,198,199,200,201,202,203,204,205,206,207,208,209,210,211,212])],
 [(0,[10,11,12,13,14,30,68,69,70,71,72,73,74,75,76,77,78,79,80,81,82,83,84,85,86,87,88,89,90,91,92,93,94,95,96,97,98,99,100,101,102,103,104,105,106,107,108,109,110,111,112,113,114,115,116,117,118,119,120,121,122,123,124,125,126,127,128,129,130,131,132,133,134,135,136,137,138,139,140,141,142,143,144,145,146]),(2,[13,14,30,75,76,77,78,79,80,81,82,83,84,85,86,87,88,89,90,91,92,93,94,95,96,97,98,99,100,101,102,103,104,105,106,107,108,109,110,111,112,113,114,115,116,117,118,119,120,121,122,123,124,125,126,127,128,129,130,131,132,133,134,135,136,137,138]),(4,[10,11,22,23,30,191,192,193,194,195,196,197,198,199,200,201,202,203,204,205,206,207,208,209,210,211,212,213,214,215,216,217,218,219,220]),(6,[7,10,11,30,255,256,257,258,259,260,261,262,263,264,265,266,267,268,269,270,271,272,273,274,275,276,277,278,279,280,281,282])],
 [],
 [],
 [],
 [],
 [],
 [(0,[5,6,7,8,9,10,11,12,13,14,15,16,17,18])],
 [(0,[10,12,13,36,37,38,39,40,41,42,43,44,45,46,47,48,49,50])],
 [],
 [(0,[5,14,15,16,17,18,19,20,21,22,23,24,25,26,27,28,29,30,31,32,33,34,35,36,37,38,39,40,41,42,43])],
 [(0,[6,13,14,15,16,17,18,19,20,21,22,23,24,25,26,27,28,29,30,31,32,33,34,35,36,37])],
 [(0,[21,22,23,24,25,26,27,28,29,30,31,32,33,34,35,36,37,38])],
 [(0,[13,14,15,16,17,18,19,20,21,22,23,24,25,26,27,28,29,30,31,32,33,34,35,36,37,38,39,40,41,42,43])],
 [(0,[5,6,7,8,9,10,11,12,13,14,15,16,17,18,19,20,21,22,23,24,25,26,27,28,29,30,31,32,33,34,35])],
 [(0,[6,19,20,21,22,23,24,25,26,27,28,29,30,31,32,33,34,35,36,37,38,39,40,41,42,43,44,45,46,47,48,49,50,51,52,53,54,55,56,57,58,59,60,61,62,63,64,65,66,67,68,69]),(2,[33,34,35,36,37,38,39,40,41,42,43,44,45,46,47,48,49,50,51,52,53,54,55,56])],
 [(0,[8,9,10,11,12,13,14,15,16,17,18,19,20,21,22,23,24,25,26,27,28,29,30,31,32,33,34,35,36,37,38,39,40,41,42,43,44,45,46,47,48,49,50,51,52,53,54,55,56,57,58,59,60,61,62]),(2,[9,16,17,18,19,20,21,22,23,24,25,26,27,28,29,30,31,32,33,34,35,36,37,38,39,40,41,42,43,44,45,46,47,48,49,50,51,52,53,54,55,56,57,58,59,60,61,62])],
 [],
 [],
 [],
 [(0,[9,28,29,30,31,32,33,34,35,36,37,38,39,40,41,42,43]),(2,[11,61,62,63,64,65,66,67,68,69,70,71])],
 [(0,[9,10,11,24,25,26,27,28,29,30,31,32,33,34,35,36,37,38,39,40,41,42,43,44,45,46,47,48,49,50,51,52,53,54,55,56,57,58,59,60,61])],
 [],
 [],
 [(0,[11,12,13,14,15,16,17,18,19,20,21,22,23])],
 [],
 [],
 [],
 [(0,[11,12,13,14,15,16,17,18,19,20,21,22,23,24,25])],
 [(0,[7,8,9,10,11,12,13,14,15,16,17,18,19,20,21,22,23,24,25,26,27,28,29,30,31,32,33,34,35,36,37,38,39,40,41,42,43,44,45,46,47,48,49,50,51,52,53,54,55,56,57,58,59,60,61,62,63,64]),(2,[31,32,33,34,35,36,37,38,39,40,41,42,43,44,45,46,47,48,49,50,51,52,53,54,55,56,57])],
 [(0,[7,8,9,10,11,12,13,14,15,16,17,18,19,20,21,22,23,24,25,26,27,28,29,30,31,32,33,34,35,36,37,38,39,40,41,42,43,44,45,46]),(2,[15,16,17,18,19,20,21,22,23,24,25,26,27,28,29,30,31,32,33])],
 [],
 [(0,[11,12,13,14,15,16,17,18,19,20,21,22,23,24,25,26,27,28,29,30,31,32,33,34,35]),(2,[36,37,38,39,40,41,42,43,44,45,46,47,48,49,50])],
 [(0,[7,8,9,10,11,12,13,14,15,16,17,18,19,20,21,22,23,24,25,26,27,28,29,30,31,32,33,34,35,36,37,38,39,40,41,42,43,44,45,46,47,48,49,50,51,52,53,54])],
 [],
 [],
 [],
 [],
 [(0,[5,6,7,8,11,12,13,14,15,16,17,18,19,20,21,22,23,24,25,26,27,28,29,30,31,32,33,34,35,36,37,38,39,40,41,42,43,44,45,46,47,48,49,50,51,52,53,54,55,56,57,58,59,60,61,62,63,64,65,66,67,68,69,70,71,72,73,74,75,76,77,78]),(2,[7,8,16,17,18,19,20,21,22,23,24,25,26,27,28,29,30,31,32,33,34,35,36,37,38,39,40,41,42,43,44,45,46,47,48,49,50,51,52,53,54,55,56,57,58,59,60,61,62,63,64,65,66,67,68,69,70,71,72,73,74,75,76,77]),(4,[8,22,23,24,25,26,27,28,29,30,31,32,33,34,35,36,37,38,39,40,41,42,43,44,45,46,47,48,49,50,51,52,53,54,55,56,57,58,59,60,61,62,63,64,65,66,67,68,69,70,71,72,73,74,75,76,77])],
 [(0,[10,38,39,40,41,42,43,44,45,46,47,48]),(2,[7,11,12,13,14,52,53,54,55,56,57,58,59,60,61,62,63,64,65,66,67,68,69,70,71,72,73,74,75,76,77,78,79,80,81]),(4,[7,13,14,65,66,67,68,69,70,71,72,73,74,75,76,77,78,79,80])],
 [(0,[6,7,8,9,10,11,12,13,14,15,16,17])],
 [(0,[11,12,13,14,15,16,17,18,19,20,21,22,23,24,25])],
 [],
 [],
 [(0,[12,14,15,39,40,41,42,43,44,45,46,47,48,49,50,51,52,53,54,55,56,57,58,59]),(2,[14,15,48,49,50,51,52,53,54,55,56,57,58])],
 [],
 [],
 [(0,[9,24,25,26,27,28,29,30,31,32,33,34,35,36,37,38,39,40,41,42])],
 [],
 [],
 [],
 [],
 [(0,[4,5,6,7,8,9,10,11,12,13,14,15])],
 [(0,[4,8,9,10,11,12,13,14])],
 [],
 [(0,[6,7,8,12,13,14,15,16,17,18,19,20,21,22,23,24])],
 [],
 [],
 [],
 [],
 [],
 [(0,[5,9,10,11,12,13,14,15,16,17,18,19,20,21,22,23,24,25,26])],
 [],
 [(0,[7,8,9,17,18,19,20,21,22,23,24,25,26,27,28,29,30,31,32,33,34,35,36,37,38,39,40,41,42,43,44,45])],
 [],
 [],
 [],
 [(0,[6,7,8,12,13,14,15,16,17,18,19,20,21,22,23,24])],
 [],
 [],
 [],
 [(0,[5,9,10,11,12,13,14,15,16,17,18]),(2,[12,13,14,15,16,17])],
 [],
 [],
 [(0,[8,9,13,14,15,16,17,18,19,20,21,22,23,24,25,26,27,28,29,30,31,32,33,34,35,36,37,38,39,40,41,42,43,44,45,46,47,48,49,50,51])],
 [],
 [],
 [],
 [(0,[7,16,17,18,19,20,21,22,23,24,25,26,27,28,29,30,31,32,33,34,35])],
 [],
 [(0,[5,6,7,8,9,10])],
 [],
 [],
 [],
 [],
 [(0,[5,12,13,14,15,16,17,18,19,20,21,22,23,24,25,26,27,28,29,30,31,32,33,34,35,36,37,38,39,40,41,42,43,44,45])],
 [],
 [(0,[10,11,12,13,14,15,16,17,18,19,20,21,22,23,24,25,26,27,28,29,30,31,32,33])],
 [],
 [(0,[6,7,12,13,14,15,16,17,18,19,20,21,22,23,24,25,26,27,28,29])],
 [(0,[8,17,18,19,20,21,22,23,24,25,26,27,28,29,30,31])],
 [(0,[4,5,6,7,11,12,13,14,15,16,17,18,19,20,21,22,23,24,25,26,27,28,29,30,31,32,33,34,35,36,37,38,39,40,41,42]),(2,[5,6,7,18,19,20,21,22,23,24,25,26,27,28,29,30,31,32,33,34,35,36,37,38,39,40,41])],
 [],
 [],
 [(0,[4,14,15,16,17,18,19,20,21,22,23,24,25,26,27,28])],
 [],
 [],
 [],
 [],
 [],
 [(0,[5,9,10,11,12,13,14,15,16,17,18])],
 [],
 [],
 [],
 [],
 [],
 [],
 [],
 [],
 [(0,[5,9,10,11,12,13,14,15,16,17,18])],
 [(0,[5,9,10,11,12,13,14,15,16,17,18])],
 [(0,[5,9,10,11,12,13,14,15,16,17,18])],
 [(0,[5,9,10,11,12,13,14,15,16,17,18])],
 [(0,[5,9,10,11,12,13,14,15,16,17,18])],
 [],
 [],
 [],
 [],
 [],
 [],
 [],
 [],
 [],
 [],
 [],
 [],
 [],
 [],
 [],
 []]
def qCb:List (List Nat):=[[],[],[],[],[],[],[],[],[],[],[],[],[],[],[],[],[],[],[],[],[],[],[],[],[64,70],[],[],[],[],[],[],[],[],[],[],[],[42,50],[],[],[],[],[],[49,52,59,60],[40,47,69,72,73,79],[],[],[],[],[],[],[],[],[],[],[],[],[],[],[],[],[],[],[],[],[],[],[],[],[],[],[],[],[],[],[],[],[],[],[39,43,44],[],[],[],[30,33],[],[],[],[],[],[],[],[],[],[],[],[],[],[],[],[],[],[],[],[],[],[],[],[],[],[],[],[],[],[],[],[],[],[],[],[],[],[],[],[],[],[],[],[],[],[],[],[],[],[],[]]
def qyZ:List Nat:=[10,64,100]
def qCh:List Nat:=[78]
def qCf:List Nat:=[]
def qv4:List Nat:=[]
def qA0:List (Nat×List (Nat×List Nat)):=[]
def qBk:List Nat:=[]
def qBM(f:Nat):Option (List Int->Option (List Int)):=none
def qB6:List Nat:=[10]
def qCi:List (Nat×List (Nat×List Nat)):=[(42,[(14,[0,1,2,6,7,8,9,10,11,12,3,4,5,13,14])])]
def qCB:List Nat:=[82]
def spF(f b:Nat):Nat:=if f=27/\b=5 then 1 else if f=82/\b=11 then 2 else if f=82/\b=12 then 3 else 0
def ioT:List Nat:=[64]
def qBC:List (List (Nat×List (Nat×Nat))):=[[],
 [],
 [],
 [(7,[(0,4),(1,4),(3,4)])],
 [(6,[(0,2),(0,7),(2,7),(3,7)]),(7,[(0,2)]),(8,[(1,3)]),(9,[(1,3)]),(26,[(0,1),(0,3)]),(31,[(1,6),(4,6),(1,12),(4,12),(6,12),(7,12),(16,21),(19,21),(16,27),(19,27),(21,27),(22,27)])],
 [(15,[(1,3),(1,6)]),(18,[(9,11),(9,16),(11,16),(14,16)]),(24,[(0,4),(1,4),(3,4)]),(31,[(0,7),(1,7),(3,7)]),(34,[(0,3),(1,3),(0,10),(1,10),(3,10),(4,10),(5,10)]),(37,[(1,2)])],
 [(7,[(53,54),(53,55)])],
 [],
 [(1,[(1,6),(4,6)])],
 [(1,[(1,4),(2,4)])],
 [(8,[(1,4),(2,4),(4,5)])],
 [],
 [],
 [(1,[(1,5),(2,5)])],
 [(11,[(1,7),(4,7),(1,9),(4,9)])],
 [(9,[(3,6),(3,8)])],
 [(6,[(1,6),(4,6),(1,9),(4,9)])],
 [(7,[(6,8),(7,8),(13,18)])],
 [],
 [(11,[(8,13),(11,13),(8,16),(11,16)])],
 [(9,[(1,3),(1,6)]),(12,[(3,11),(6,11),(9,11)])],
 [],
 [],
 [],
 [(10,[(1,4),(2,4)])],
 [(8,[(1,6),(1,9),(6,9),(1,14),(6,14),(9,14)]),(9,[(5,12),(6,12)])],
 [(1,[(0,3),(1,3),(0,12),(1,12),(3,12),(4,12),(7,12),(8,12),(10,12),(0,14),(1,14),(3,14),(4,14),(7,14),(8,14),(10,14),(12,14)])],
 [(1,[(0,2),(1,2)])],
 [],
 [(3,[(1,3),(1,6),(3,6),(4,6)])],
 [],
 [],
 [(6,[(3,7)])],
 [(5,[(3,5),(11,13)]),(7,[(10,12),(19,21)])],
 [(6,[(10,14)])],
 [],
 [(6,[(2,6),(2,9),(6,9)])],
 [(5,[(1,5),(1,8),(5,8),(1,11),(5,11),(8,11),(1,12),(5,12),(8,12),(1,15),(5,15),(8,15),(11,15),(12,15),(1,19),(5,19),(8,19),(11,19),(12,19),(15,19),(1,22),(5,22),(8,22),(11,22),(12,22),(15,22),(19,22),(1,25),(5,25),(8,25),(11,25),(12,25),(15,25),(19,25),(22,25),(1,26),(5,26),(8,26),(15,26),(19,26),(22,26)]),(6,[(3,7),(4,7)])],
 [],
 [],
 [],
 [],
 [(12,[(4,13),(5,13),(4,18),(5,18),(13,18)]),(14,[(1,4),(4,12)])],
 [(20,[(2,6),(4,6),(2,7),(4,7)])],
 [],
 [(6,[(3,7)])],
 [(8,[(1,3),(1,6),(3,6),(1,8),(3,8),(6,8),(1,12),(3,12),(6,12),(8,12),(1,14),(3,14),(6,14),(8,14),(12,14),(1,17),(3,17),(6,17),(8,17),(12,17),(14,17),(1,19),(3,19),(6,19),(8,19),(12,19),(14,19),(17,19)])],
 [],
 [(1,[(0,2),(1,2),(0,4),(1,4),(2,4),(3,4),(0,6),(1,6),(2,6),(3,6),(4,6)])],
 [],
 [],
 [(9,[(0,6),(2,6)])],
 [],
 [],
 [(5,[(1,3),(1,6),(3,6),(4,6),(1,8),(3,8),(4,8),(6,8)])],
 [],
 [],
 [],
 [],
 [],
 [(1,[(1,5),(1,7)])],
 [],
 [],
 [(2,[(0,7),(0,10),(0,13),(7,13),(10,13),(0,14),(0,15),(0,17)])],
 [(1,[(6,7),(6,10)]),(3,[(0,1),(0,5)]),(4,[(0,1),(0,2),(1,2),(0,3),(1,3),(0,4),(1,4),(2,4),(3,4),(1,7),(4,7)]),(8,[(3,7),(6,7),(3,8),(6,8),(7,8)]),(9,[(0,1),(0,2),(0,3),(1,3),(2,3),(0,6),(1,6),(2,6),(3,6),(0,7),(1,7),(2,7),(3,7),(6,7),(0,8),(1,8),(2,8),(3,8),(6,8),(7,8),(0,9),(6,9)])],
 [(5,[(1,3),(1,7),(3,7),(1,9),(3,9),(7,9)])],
 [],
 [(6,[(0,4),(1,4),(0,6),(1,6),(4,6),(0,8),(1,8),(0,11),(1,11)])],
 [],
 [],
 [],
 [],
 [],
 [],
 [],
 [],
 [],
 [],
 [],
 [(1,[(0,5),(3,5),(8,13),(11,13)])],
 [],
 [(1,[(0,4),(3,4),(0,8),(3,8)])],
 [],
 [],
 [],
 [],
 [],
 [],
 [],
 [(5,[(1,3),(1,6),(3,6),(1,8),(3,8),(6,8),(8,11)]),(6,[(1,3),(1,5),(3,5),(1,9),(3,9),(5,9),(1,11),(3,11),(5,11),(9,11),(1,13),(3,13),(5,13),(9,13),(11,13),(11,17),(13,17)])],
 [],
 [(5,[(1,5),(4,5),(1,10),(4,10)])],
 [(2,[(0,5),(0,6),(0,8),(0,10)])],
 [(5,[(3,6)])],
 [(10,[(0,7),(6,7)])],
 [],
 [],
 [],
 [],
 [],
 [],
 [],
 [(1,[(0,3),(0,6)])],
 [],
 [],
 [(1,[(1,4)])],
 [],
 [],
 [],
 [],
 [],
 [],
 [],
 [],
 [],
 [],
 [],
 [],
 [],
 [],
 [],
 [],
 [],
 [],
 [],
 [],
 [],
 [],
 [],
 [],
 [],
 [],
 [],
 []]
def qBs:List (Nat×List (Nat×Nat))->Nat->List (Nat×Nat)
 |[],_=>[]
 |(k,c)::l,b=>if k=b then c else qBs l b
def look:List (Nat×List Nat)->Nat->List Nat
 |[],_=>[]
 |(k,c)::l,b=>if k=b then c else look l b
def qAt:List (Nat×List (Nat×List Nat))->Nat->List (Nat×List Nat)
 |[],_=>[]
 |(k,c)::l,b=>if k=b then c else qAt l b
def hints:Ab.Hints:={
 take:=λf t=>(qCu.getD f []).contains t
 clear:=λf b=>look (qBh.getD f []) b
 precise:=λf=>qyZ.contains f
 pairs:=λf b=>qBs (qBC.getD f []) b
 link:=λf t=>(qCb.getD f []).contains t
 qhw:=λf=>qCh.contains f
 mapT:=λt=>qCf.contains t
 born:=λf=>qv4.contains f
 turn:=qBM
 io:=λf=>ioT.contains f
 own:=λf=>qCB.contains f
 sp:=spF
 denr:=λf=>qB6.contains f
 perm:=λf b=>look (qAt qCi f) b
 qc0:=λf=>qBk.contains f
 pre:=λf b=>look (qAt qA0 f) b}
end Go.Proofs.Ytofjnhppalciiaa.Hn
end
section
namespace Go.Ab
open Go
section
variable {P:Program}
def qsV:Value->Value->Bool
 |.int k n,.int k' n'=>decide (k=k')&&decide (n=n')
 |.bool b,.bool b'=>b==b'
 |.slice none 0 0,.slice none 0 0=>true
 |.string s,.string s'=>decide (s.data.toList=s'.data.toList)
 |_,_=>false
mutual
def V.same:V->V->Bool
 |.val a,.val b=>qsV a b
 |.sl f c l,.sl f' c' l'=>decide (f=f')&&c==c'&&sameL l l'
 |.agg l,.agg l'=>sameL l l'
 |.tuple l,.tuple l'=>sameL l l'
 |_,_=>false
def sameL:List V->List V->Bool
 |[],[]=>true
 |x::l,y::l'=>x.same y&&sameL l l'
 |_,_=>false
end
theorem qvh{a b:Value}(h:qsV a b=true):a=b:=by
 unfold qsV at h;split at h
 ·simp_all
 ·simp_all
 ·rfl
 ·rename_i s s';have h1:=of_decide_eq_true h;obtain ⟨⟨l⟩⟩:=s;obtain ⟨⟨l'⟩⟩:=s';simp only at h1;rw [h1]
 ·cases h
mutual
theorem same_eq:∀(x y:V),x.same y=true->x=y
 |.val a,y,h=>by cases y<;>simp only [V.same]at h<;>first|(rw [qvh h])|cases h
 |.sl f c l,y,h=>by
  cases y<;>simp only [V.same]at h<;>try (cases h;done)
  simp only [qe,decide_eq_true_eq,beq_iff_eq]at h;rw [h.1.1,h.1.2,sameL_eq _ _ h.2]
 |.agg l,y,h=>by
  cases y<;>simp only [V.same]at h<;>try (cases h;done)
  rw [sameL_eq _ _ h]
 |.tuple l,y,h=>by
  cases y<;>simp only [V.same]at h<;>try (cases h;done)
  rw [sameL_eq _ _ h]
 |.undef,y,h|.ptr ..,y,h|.cptr ..,y,h|.fn ..,y,h|.yld _,y,h|.mref _,y,h|.bsl ..,y,h|.mp _,y,h|.iface ..,y,h|.lp ..,y,h|.room ..,y,h=>by cases y<;>simp [V.same]at h
theorem sameL_eq:∀(l m:List V),sameL l m=true->l=m
 |[],[],_=>rfl
 |[],y::m,h=>by simp [sameL]at h
 |x::l,[],h=>by simp [sameL]at h
 |x::l,y::m,h=>by
  simp only [sameL,qe]at h;rw [same_eq x y h.1,sameL_eq l m h.2]
end
structure Ran where
 g:FuncId
 args:List V
 r:V
def qAr(t:List Ran)(g:FuncId):Option (List V->Option V) :=
 if t.any (λe=>decide (e.g=g))then some (λargs=>(t.find? λe=>decide (e.g=g)&&sameL e.args args).map (·.r))else none
theorem qyB{t:List Ran}(h:∀e∈t,qaS P e.g e.args [] e.r []):∀g f args r,qAr t g=some f->f args=some r->qaS P g args [] r []:=by
 intro g f args r hf hr;unfold qAr at hf;split at hf
 ·cases hf;obtain ⟨e,he,rfl⟩:=qc.1 hr;have h1:=List.find?_some he;simp only [qe,decide_eq_true_eq]at h1;rw [<- h1.1,<- sameL_eq _ _ h1.2];exact h e (List.mem_of_find?_eq_some he)
 ·cases hf
theorem qmH{H:Hints}(hm:P.follows .mixedOrders=true)(qbO:qh1 P H){t:List Ran}(ht:∀e∈t,qaS P e.g e.args [] e.r [])(n:Nat)(e:Ran)
  (h:(match (qkV P H (qAr t) n).call e.g e.args []with|some (r,[])=>r.same e.r|_=>false)=true):qaS P e.g e.args [] e.r []:=by
 split at h
 ·rename_i r hr;rw [<- same_eq _ _ h];exact (qsG hm qbO (qyB ht) n).call _ _ _ _ _ hr
 ·cases h
end
end Go.Ab
end
