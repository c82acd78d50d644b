/-
  ONE LAW OF A CHAPTER: its program side is run by an interpreter that is proved sound; what it computes is shown to be what the law says. No conditions. Part 5 of 8.
-/
import Derived.Test.YtkmcmngpifalcaaGreatDoorMSd
import Derived.Deep.Slices
import Derived.Carry
import Derived.ChangeBears2
import Derived.ChangeSame
import Derived.JoinedCond
import Derived.OpenShut
import Derived.ProofKit
import Derived.Test.YtkmcmngpifalcaaGreatDoorProg
import Derived.Shelf.Slices.Reverse
import Derived.Shelf.Sort.Plain
import Derived.Shelf.Slices.In.SortNone
import Derived.KernelRfl
import Derived.Shelf.Strconv.Itoa3
import Derived.Shelf.Strconv.AtoiAll
import Derived.Shelf.Strings.OnBuilder
import Derived.Shelf.Strings.Prefix
import Derived.Shelf.Strings.Search3
import Derived.Shelf.Strings.Cut
import Derived.Shelf.Spec.TrailingZeros
import Derived.WalkKit
import Derived.BigCall
import Derived.BigGuard
set_option linter.unusedSimpArgs false
set_option linter.unusedVariables false
set_option linter.unnecessarySimpa false
section
namespace Go.Tx
open Go Go.Ab
section
variable {P:Program} {H:Hints} {J:TH} {T:qsM} {O:TOrc} {lib:FuncId->Option (List V->Option V)} {f:FuncId} {ctx:List Tmp}
theorem qx0(p:Bool)(u:Value):qhk (ofConst p u).cells=false:=by
 have h0:∀u,qhk [qcJ p u]=false:=λu=>by
  unfold qcJ;split
  ·unfold qeR;split<;>rfl
  ·rfl
 have h1:∀u,qhk (qcJ p u).cells=false\/(∃cs,u=.agg cs):=λu=>by
  unfold qcJ;split
  ·left;unfold qeR;split<;>rfl
  ·left;rfl
 by_cases hu:∃cs,u=.agg cs
 ·obtain ⟨cs,rfl⟩:=hu;show qhk (cs.toList.map (qcJ p))=false;cases cs.toList with
  |nil=>rfl
  |cons x l=>grind [qh,qf7]
 ·have e:ofConst p u=qcJ p u:=by
   simp_all [ofConst,absurd]
  grind
theorem qos{c:List V}(h:qae c=false):qae (c.map V.qef)=false:=by
 match c with
 |[]=>rfl
 |x::l =>
  simp only [qh];unfold V.qef;split
  ·rfl
  ·cases x<;>first|rfl|grind [qae]
theorem qtx{c:List V}(h:qhk c=false):qhk (c.map V.qef)=false:=by
 match c with
 |[]=>rfl
 |x::l =>
  simp only [qh];unfold V.qef;split
  ·rfl
  ·cases x<;>first|rfl|grind [qhk]
theorem qwl{ys:List V}:∀{p:Path} {v u:V},qsL ys p v=some u->∃c l,u=.sl .own c l:=by
 intro p v u h;unfold qsL at h;split at h
 ·cases h
 ·grind [qc]
 ·cases h
theorem qB4{c:List V}{i:Nat}{u:V}(h:qhk c=false)(hu:qhk [u]=false):qhk (c.set i u)=false:=by
 cases c with
 |nil=>rfl
 |cons x l=>cases i with
  |zero=>grind [qf7]
  |succ n=>grind [qf7]
theorem qA9(hT:TOk P H lib T)(hO:OOk P H lib O){o:Oper}{xs:List TV}{ys:List V}{st:TSt}{s:St}{R:Type}{k:TV->TSt->Fp->Option R}{r:R}(hx:RVL xs ys)(hs:Rst st s)
  (h:qmS P H J T O ctx f o xs st R k=some r) :
  ∃v st' fp u s',k v st' fp=some r/\Ev (λC=>qbh P H C f o ys s=some (u,s',fp)) P H lib/\RV v u/\Rst st' s'/\Fr2 st st' s s'/\st'.E=st.E/\s'.E=s.E:=by
 rcases qfN o.op with ⟨t,hop⟩|⟨t,a,hop⟩|⟨c,fo,hop,hc⟩|hd
 ·unfold qmS at h;simp only [hop]at h;split at h
  ·rename_i d z hd hz;split at h
   ·rename_i hn;have hn':qU st.B d=none:=by simp_all
    obtain ⟨z',hz',_,hcz⟩:=qiQ hz;have hmz:qhk z'.cells=false:=by
     grind [qdv,qx0]
    obtain ⟨hR,hF⟩:=qpf hs hn' (RVL.rc hcz) (λ_=>hmz);refine ⟨_,_,_,.ptr ⟨s.L.length,d⟩ 0,_,h,.of λC=>?_,by simp [RV,hs.len],hR,hF,rfl,rfl⟩;unfold qbh;simp only [hop,hd,hz'];rw [if_pos (by grind [qe3]),hs.len]
   ·cases h
  ·cases h
 ·unfold qmS at h;simp only [hop]at h;split at h
  ·rename_i d x hd;split at h
   ·rename_i hn;have hn':qU st.B d=none:=by simp_all
    obtain ⟨v,rfl,hv⟩:=qds hx;obtain ⟨hcells,hok⟩:=RV.cells hn.2.2 hv;obtain ⟨hR,hF⟩:=qpf hs hn' (RVL.rc hcells) (λ_=>qwQ hok);refine ⟨_,_,_,.ptr ⟨s.L.length,d⟩ 0,_,h,.of λC=>?_,by simp [RV,hs.len],hR,hF,rfl,rfl⟩;unfold qbh;simp only [hop,hd];rw [if_pos ⟨by grind [qe3],by rw [hcells.length];omega,hok⟩,hs.len]
   ·cases h
  ·cases h
 ·rw [qv8 hop hc]at h;cases xs with
  |nil=>cases h
  |cons fv args =>
   simp only [RVL]at hx;obtain ⟨fv',args',rfl,hfv,ha⟩:=hx;simp only at h;cases hbn:qrL H fv args with
   |true =>
    rw [if_pos hbn]at h;obtain ⟨hb',v,st',fp,u,s',hk,hev,hr,hR,hF,e1,e2⟩:=qCS hO hfv ha hs h;refine ⟨v,st',fp,u,s',hk,hev.imp λC hC=>?_,hr,hR,hF,e1,e2⟩
    simp_all [qa3,if_true]
   |false =>
    rw [if_neg (by grind)]at h;simp only [qrL,Bool.or_eq_false_iff]at hbn;have hb':qjf H fv' args'=false:=by
     have h':=h;unfold qp9 at h';split at h'
     ·rename_i g first cap;split at h'
      ·rename_i hkn;have hbn1:qkv H fv'=false:=by rw [qkw (fv:=.any []) hfv];exact hbn.1
       have hbn2:qtz H fv'=false:=by rw [qrK (fv:=.any []) hfv];exact hbn.2.1
       have hf':=hfv;simp only [RV]at hf';obtain ⟨first',cap',rfl,hf1,hc1⟩:=hf';unfold qjf;rw [hbn1,hbn2,qqD hkn ((hf1.append ha).append hc1),hbn.2.2];rfl
      grind
     ·have hf':=hfv;simp only [RV]at hf';subst hf';rfl
     grind
    obtain ⟨v,st',u,s',hk,hev,hr,hR,hF,e1,e2,hp⟩:=qs2 hT hO hfv ha hs h;refine ⟨v,st',_,u,s',hk,hev.imp λC hC=>?_,hr,hR,hF,e1,e2⟩
    simp_all [qa3,qf,if_false,qi]
 ·rw [qv9 hd]at h;obtain ⟨v,st',fp,u,s',hk,hm,hr,hR,hF,e1,e2⟩:=qzA hx hs h;exact ⟨v,st',fp,u,s',hk,.of λC=>by simp_all [qW],hr,hR,hF,e1,e2⟩
theorem qxT{E:Env}{E':List V}(h:RVL E.toL E')(t:Nat):RV (E.get t) (E'.getD t .undef):=by rw [qnB];exact h.getD t
theorem qCD{o:Oper}{E:Env}{E':List V}(h:RVL E.toL E')(x:Operand):RV (rdT H f o E x) (rd H f o E' x):=by
 cases x with
 |tmp t =>
  simp only [rdT,rd];split
  ·exact qxT h t
  ·exact (qxT h t).q6
 |const v=>exact qxi _ _
 |global g=>exact qco []
 |func g=>simp [rdT,rd,RV,RVL]
theorem qDy{o:Oper}{E:Env}{E':List V}(h:RVL E.toL E'):∀l:List Operand,RVL (l.map (rdT H f o E)) (l.map (rd H f o E'))
 |[]=>q5
 |x::l=>qv.2 ⟨qCD h x,qDy h l⟩
theorem qkj:∀(ts:List Tmp) {E:Env} {E':List V},RVL E.toL E'->RVL (qbD E ts).toL (qz E' ts)
 |[],E,E',h=>h
 |t::ts,E,E',h=>by
  have h1:RVL (E.set t (E.get t).q6).toL (E'.modify t V.q6):=by
   rw [qq9];refine qe7 (by simp [h.length]) λi x v hx hv=>?_;rw [List.getElem?_modify]at hx hv;obtain ⟨y,hy,rfl⟩:=qc.1 hx;obtain ⟨u,hu,rfl⟩:=qc.1 hv;obtain ⟨u2,hu2,hr⟩:=h.get hy;rw [hu]at hu2;cases hu2;by_cases e:t=i
   ·simp only [e,if_true];exact hr.q6
   ·simp only [if_neg e];exact hr
  exact qkj ts h1
theorem qs7{ts:List Tmp}{t:Nat}(h:t∉ts):∀E:List V,(qz E ts)[t]?=E[t]?:=by
 induction ts with
 |nil=>intro E;rfl
 |cons u ts ih =>
  simp_all [qk,not_or,List.getElem?_modify,Ne.symm,qz,V.q6]
theorem qu7(ts:List Tmp)(E:List V):(qz E ts).length=E.length:=qa7 ts E
theorem qh3{st:TSt}{s:St}(hs:Rst st s)(d:Option Tmp){v:TV}{u:V}(hv:RV v u):Rst (st.put d v) (s.put d u)/\Fr2 st (st.put d v) s (s.put d u):=by
 cases d with
 |none=>exact ⟨hs,Fr2.refl _ _⟩
 |some t =>
  refine ⟨⟨by show RVL (st.E.set t v).toL _;rw [qdQ];exact hs.E.set t hv,hs.M⟩,⟨λx hx=>by simp [TSt.put,hx],λr hr=>hr,λx hx=>.inl ?_,λx hx rs hE=>⟨rs,?_⟩,λr hr=>.inl rfl,λr hr h=>h,rfl,by simp [St.put]⟩⟩
  case refine_2 =>
   simp_all [Mask.mem_ins,not_or,qdQ,List.getElem?_set_ne,Ne.symm,TSt.put]
  simp_all [Mask.mem_ins,not_or,List.getElem?_set_ne,Ne.symm,TSt.put,St.put]
theorem qoa{E:Env}{E':List V}(h:RVL E.toL E'){ts:List Tmp}{t:Nat}(ht:t∉ts.filter (λt=>(E.get t).owns)):(qz E' ts)[t]?=E'[t]?:=by
 rw [qf4];split
 ·rename_i hm;have hno:(E.get t).owns=false:=by
   grind
  cases hv:E'[t]? with
  |none=>rfl
  |some v =>
   have hr:=qxT h t;rw [List.getD_eq_getElem?_getD (l:=E'),hv]at hr;simp only [qi,qb];refine dull_of_owns v ?_;grind [RV.owns]
 ·rfl
theorem qBK{x:TV}{rs:List Root}(h:x.q6=.any rs):x=.any rs:=by
 cases x with
 |room a s=>rcases a with _|a<;>simp [TV.q6]at h
 |_=>simp_all [TV.q6]
theorem qgz:∀(T:List Tmp) (E:Env) (t:Nat) (rs:List Root),(qbD E T).toL[t]?=some (.any rs)->∃rs',E.toL[t]?=some (.any rs')
 |[],E,t,rs,h=>⟨rs,h⟩
 |s::T,E,t,rs,h=>by
  have h':(qbD (E.set s (E.get s).q6) T).toL[t]?=some (.any rs):=h;obtain ⟨rs',h1⟩:=qgz T _ t rs h';rw [qq9,List.getElem?_modify]at h1;cases hE:E.toL[t]? with
  |none=>rw [hE]at h1;cases h1
  |some x =>
   rw [hE]at h1;simp only [Option.map_eq_map,qi,qb]at h1;split at h1
   ·exact ⟨rs',by rw [qBK h1]⟩
   ·exact ⟨rs',by rw [h1]⟩
theorem qmj(hT:TOk P H lib T)(hO:OOk P H lib O){o:Oper}{st:TSt}{s:St}{R:Type}{k:TSt->Fp->Option R}{r:R}(hs:Rst st s)(h:qj0 P H J T O ctx f o st R k=some r) :
  ∃st' fp s',k st' fp=some r/\Ev (λC=>qeH P H C f o s=some (s',fp)) P H lib/\Rst st' s'/\Fr2 st st' s s'/\∀t:Nat,t∉tmpsOf o->o.dst≠some t->s'.E[t]?=s.E[t]?:=by
 unfold qj0 at h;split at h
 ·cases h
 ·rename_i hn;have hs1:Rst (if qab H f o=true then {st with E:=qbD st.E (tmpsOf o),Wt:=Mask.ofList ((tmpsOf o).filter (λt=>(st.E.get t).owns))++st.Wt}else st) (if qab H f o=true then {s with E:=qz s.E (tmpsOf o)}else s) /\
    Fr2 st (if qab H f o=true then {st with E:=qbD st.E (tmpsOf o),Wt:=Mask.ofList ((tmpsOf o).filter (λt=>(st.E.get t).owns))++st.Wt}else st) s (if qab H f o=true then {s with E:=qz s.E (tmpsOf o)}else s):=by
   split
   ·refine ⟨⟨qkj _ hs.E,hs.M⟩,⟨λt ht=>by simp [ht],λr hr=>hr,λt ht=>.inl ?_,λt ht rs hE=>?_,λr hr=>.inl rfl,λr hr h=>h,rfl,qu7 _ _⟩⟩
    ·simp only [Mask.mem_append,Mask.mem_ofList,not_or]at ht;exact qoa hs.E ht.1
    ·exact qgz _ _ _ _ hE
   simp_all [Fr2.refl]
  obtain ⟨v,st',fp,u,s',hk,hev,hr,hR,hF,e1,e2⟩:=qA9 hT hO (qDy hs.E _) hs1.1 h;obtain ⟨hR2,hF2⟩:=qh3 hR o.dst hr;refine ⟨_,fp,_,hk,hev.imp λC hC=>?_,hR2,(hs1.2.trans hF).trans hF2,λt h1 h2=>?_⟩
  ·simp_all [if_neg,qeH]
  ·have h3:(s'.put o.dst u).E[t]?=s'.E[t]?:=by
    unfold St.put;grind
   grind [qs7]
theorem qvj{ops:Array Oper}{o:Oper}{st:TSt}{s:St}{R:Type}{yes no:TSt->Option R}{r:R}(hs:Rst st s)(h:qvi ops o st R yes no=some r) :
  ∃st1 b,qcA ops s.E o=some b/\Rst st1 s/\Fr2 st st1 s s/\(if b then yes st1 else no st1)=some r:=by
 unfold qvi at h;unfold qcA;split at h
 ·rename_i hg;rw [hg];grind [Fr2.refl]
 ·rename_i j want hg;rw [hg];simp only
  split at h
  ·rename_i t ht;rw [ht];simp only
   split at h
   ·rename_i o' b hb;obtain ⟨v,hv,hr⟩:=hs.E.get (some_get hb (by simp));simp only [RV,RTy]at hr;subst hr;rw [hv];have hset:∀c,b=c->Rst ({st with E:=st.E.set t (.t .bool 0 c)}:TSt) s:=λc hc=>⟨by
     rw [qdQ];refine qh9 hs.E t λu hu=>?_
     simp_all [RV,RTy],hs.M⟩
    have hfr:∀c,Fr2 st ({st with E:=st.E.set t (.t .bool 0 c)}:TSt) s s:=λc=>⟨λx hx=>hx,λx hx=>hx,λx hx=>.inl rfl,λx hx rs hE=>⟨rs,by
     grind [qdQ]⟩,λx hx=>.inl rfl,λx hx h=>h,rfl,rfl⟩
    grind
   ·rename_i vs hb;obtain ⟨v,hv,hr⟩:=hs.E.get (some_get hb (by simp));simp only [RV]at hr;subst hr;rw [hv];split at h
    ·rename_i h0;exact ⟨st,false,by grind,hs,Fr2.refl _ _,h⟩
    ·cases h
   ·cases h
  ·cases h
def qnk(p:List (Int×Nat×Nat)):Path:=p.map λe=>(e.1.toNat,e.2.1,e.2.2)
theorem qzV{E:Env}{E':List V}(h:RVL E.toL E'){i:Operand}{n:Int}(hi:qtp E i=some n)(h0:0<=n):idxOf E' i=some n.toNat:=by
 cases i with
 |tmp t =>
  simp only [qtp]at hi;obtain ⟨k,hk⟩:=qpD hi (qxT h t)
  simp_all [qgf,idxOf]
 |const v =>
  simp only [qtp]at hi;grind [qgf,idxOf]
 |_=>simp [qtp]at hi
theorem qiv{ops:Array Oper}{E:Env}{E':List V}(h:RVL E.toL E'):∀(n k:Nat) (d:Tmp) (rt:Rt) (p:List (Int×Nat×Nat)) (ptr:Bool),qgK P H f ops E n k d=some (rt,p,ptr)->(∀e∈p,0<=e.1)->qbp P H f ops E' n k d=some (rt,qnk p,ptr):=by
 intro n;induction n with
 |zero=>simp_all [qgK]
 |succ n ih =>
  intro k d rt p ptr hx h0;simp only [qgK]at hx;simp only [qbp];split at hx
  ·rename_i hl;rw [if_pos hl];simp only [qb,Prod.mk.injEq]at hx;obtain ⟨rfl,rfl,rfl⟩:=hx;rfl
  ·rename_i hl;rw [if_neg hl];cases hc:qpN ops k d with
   |none=>rw [hc]at hx;cases hx
   |some c =>
    rw [hc]at hx;try simp only at hx ⊢
    cases hop:(ops[c]?).map Oper.op with
    |none=>rw [hop]at hx;cases hx
    |some op =>
     rw [hop]at hx;try simp only at hx ⊢
     split at hx
     ·grind
     ·rename_i t a i heq;cases heq;try simp only
      split at hx
      ·rename_i r q j elem hq hj hu;simp only [qb,Prod.mk.injEq]at hx;obtain ⟨rfl,rfl,rfl⟩:=hx;rw [ih _ _ _ _ _ hq (λe he=>h0 e (by simp [he])),qzV h hj (h0 (j,0,P.cellsOf elem) (by simp)),hu];rfl
      ·cases hx
     ·rename_i t a fd heq;cases heq;try simp only
      split at hx
      ·rename_i r j o s q o' hq ho';simp only [qb,Prod.mk.injEq]at hx;obtain ⟨rfl,rfl,rfl⟩:=hx;rw [ih _ _ _ _ _ hq (λe he=>by
        rcases qk.1 he with rfl|he
        ·simp_all
        grind),ho']
       rfl
      ·cases hx
     ·rename_i t a heq;cases heq;try simp only
      split at hx
      ·cases hx
      ·rename_i hag;rw [if_neg hag];split at hx
       ·grind
       ·rename_i hla;rw [if_neg hla];split at hx
        ·rename_i r off hE;simp only [qb,Prod.mk.injEq]at hx;obtain ⟨rfl,rfl,rfl⟩:=hx;have:=qxT h a;rw [hE]at this;simp only [RV]at this;rw [this];rfl
        ·cases hx
     ·cases hx
theorem qyz{τ:Ty}(he:τ.qbY=true){o:Nat}{e:τ.den}{b:V}(hr:RTy τ o e b){cs:List TV}{cs':List V}(hc:RVL cs cs')(hlen:cs.length=τ.qba)(h0:τ.qba≠0):RV (qpi (ofTy τ o e) cs) (qdB b cs'):=by
 have hd:∀(hone:τ.qba=1),RV (cs.headD (.any [])) (cs'.headD .undef):=λ_=>by
  cases hc':cs with
  |nil=>grind
  |cons x l =>
   grind [RVL]
 cases τ with
 |int k=>simp only [RTy]at hr;subst hr;exact hd rfl
 |bool=>simp only [RTy]at hr;subst hr;exact hd rfl
 |str=>simp only [RTy]at hr;subst hr;exact hd rfl
 |flt=>simp only [RTy]at hr;obtain ⟨_,rfl,_⟩:=hr;exact hd rfl
 |cx=>simp only [RTy]at hr;obtain ⟨_,_,rfl,_⟩:=hr;exact hd rfl
 |err=>simp only [RTy]at hr;rcases hr with ⟨_,rfl⟩|⟨_,t9,rfl⟩<;>exact hd rfl
 |mset t=>simp [Ty.qbY]at he
 |sl t=>simp only [RTy]at hr;obtain ⟨f,c,l',rfl,_⟩:=hr;exact hd rfl
 |unit=>exact absurd rfl h0
 |pair a b' =>
  grind [RTy,ofTy,qpi,qdB,RV]
theorem qws{α β:Type}{R:α->β->Prop}{l:List α}{l':List β}(h:All2 R l l'):∀(i:Nat) {a:α} {b:β},R a b->All2 R (l.set i a) (l'.set i b):=by
 induction h with
 |nil=>intro i a b _;exact .nil
 |cons h1 h2 ih =>
  intro i a b hab;cases i with
  |zero=>exact .cons hab h2
  |succ i=>exact .cons h1 (ih i hab)
theorem qBy{ys:List TV}{ys':List V}(hy:RVL ys ys'):∀(p:List (Int×Nat×Nat)) (x:TV) (v:V) {R:Type} {k:TV->Option R} {r:R},qEy ys p x R k=some r->RV x v ->
  (∀e∈p,0<=e.1)/\∃y u,k y=some r/\qsL ys' (qnk p) v=some u/\RV y u:=by
 intro p;induction p with
 |nil=>simp_all [qEy]
 |cons q p ih =>
  obtain ⟨i,o,s⟩:=q;intro x v R k r h hx;by_cases hxs:∃τ lv l,x=.t (.sl τ) lv l
  ·obtain ⟨τ,lv,l,rfl⟩:=hxs;unfold qEy at h;split at h
   ·rename_i hc;obtain ⟨hown,hcl,hs0,hok,hel⟩:=hc;obtain ⟨e,he,h⟩:=qd.1 h;obtain ⟨h0,hget⟩:=qnC he;simp only [RV,RTy]at hx;obtain ⟨fl,c,l',rfl,hfl,hall⟩:=hx;have hf:fl=.own:=hfl.own hown;subst hf;obtain ⟨b,hb,hr⟩:=hall.get hget;obtain ⟨hbl,hbo⟩:=qmc hel hr;have hcells:=(RV.cells (qsd hel (nx lv) e) (rv_ofTy τ (nx lv) e b hr)).1;have hcl2:(ofTy τ (nx lv) e).cells.length=τ.qba:=by rw [<- hcells.length,hbl]
    have hn0:τ.qba≠0:=by omega
    have hfin:∀(cs:List TV) (cs':List V) (e':τ.den),RVL cs cs'->cs.length=τ.qba->qg8 τ (nx lv) (qpi (ofTy τ (nx lv) e) cs)=some e' ->
      RV (.t (.sl τ) lv (l.set i.toNat e')) (.sl .own c (l'.set i.toNat (qdB b cs'))):=λcs cs' e' hcs hlen has=>by
     grind [qc5,qyz,qfi,qws,RV,RTy]
    cases p with
    |nil =>
     simp only at h;split at h
     ·rename_i hle;split at h
      ·rename_i e' has;have hsp:=qlj (off:=o) hcells hy;refine ⟨by simp [h0],_,_,h,?_,hfin _ _ e' hsp ?_ has⟩
       ·simp only [qnk,qh,List.map_nil,qsL];rw [hb];simp only
        rw [if_pos ⟨by omega,hbo⟩,if_pos (by rw [hy.length];exact hle)]
       ·rw [<- hsp.length,qbP (by rw [hy.length,hbl,hcl];exact hle),hbl]
      ·cases h
     ·cases h
    |cons q2 p2 =>
     simp only at h;split at h
     ·rename_i z hz;obtain ⟨z',hz',hrz⟩:=hcells.get hz;obtain ⟨h1,y,u,hk,hupd,hyu⟩:=ih z z' h hrz;split at hk
      ·rename_i e' has;have hset:=hcells.set o hyu;refine ⟨λe he=>?_,_,_,hk,?_,hfin _ _ e' hset (by simp [hcl2]) has⟩
       ·grind
       simp_all [if_pos,qnk,qsL]
      ·cases hk
     ·cases h
   ·cases h
  ·exfalso
   simp_all [qEy]
theorem qEi{x:TV}{v:V}(h:RV x v):RV x.qef v.qef:=by
 unfold TV.qef V.qef;cases hf:x.firm with
 |true =>
  grind [RV.firm]
 |false =>
  simp only [qf,if_false];split
  ·exact qco _
  ·simp only [RV];exact ⟨λr hr=>RV.qq x v h r hr,qaD (qv.2 ⟨h,q5⟩)⟩
theorem qlb:∀{l:List TV} {l':List V},RVL l l'->RVL (l.map TV.qef) (l'.map V.qef)
 |[],l',h=>by simp_all [q5,RVL]
 |x::l,l',h=>by
  simp only [RVL]at h;obtain ⟨v,m,rfl,h1,h2⟩:=h;exact qv.2 ⟨qEi h1,qlb h2⟩
theorem qxj:∀{l:List TV} {l':List V},RVL l l'->l.all TV.firm=true->l'.map V.qef=l'
 |[],l',h,_=>by simp_all [RVL]
 |x::l,l',h,hf=>by
  simp only [RVL]at h;obtain ⟨v,m,rfl,h1,h2⟩:=h;simp only [List.all_cons,qe]at hf;simp only [qh];rw [qxj h2 hf.2];have:v.qef=v:=by unfold V.qef;rw [RV.firm x v hf.1 h1];rfl
  rw [this]
theorem qA7{E:Env}{i:Nat}{x:TV}(h:E.toL[i]?=some x)(hf:x.firm=false)(ha:x.isAny=false):i∈qEn E :=
 qCj (by simp [TV.isAny]) h (by grind)
theorem qlh:∀{b:qG} {k:Nat} {c:List TV},qU b k=some (some c)->c.all TV.firm=false->(⟨0,k⟩:Root)∈qv4 b
 |[],k,c,h,_=>by simp [qU]at h
 |(k',none)::b,k,c,h,hf=>by
  simp only [qU]at h;split at h
  ·cases h
  ·simp only [qv4];exact qlh h hf
 |(k',some d)::b,k,c,h,hf=>by
  simp only [qU]at h;simp only [qv4];split at h
  ·rename_i e;cases h;rw [hf];simp [e]
  ·split
   ·exact qlh h hf
   ·exact List.mem_cons_of_mem _ (qlh h hf)
theorem qgc(s:Nat):∀b:qG,qU (qzR b) s=(qU b s).map (Option.map (List.map TV.qef))
 |[]=>rfl
 |(k,c)::b=>by
  simp only [qzR,qh,qU];split
  ·rfl
  ·exact qgc s b
theorem qvC{x:TV}(h:x.isAny=true):∃rs,x=.any rs:=by cases x<;>first|grind|grind [TV.isAny]
def qme(s:St)(T:List Tmp):St:={s with E:=(qz s.E T).map V.qef,B:=qkt s.B}
theorem qhv{st:TSt}(hL:st.L=[])(r:Root):st.cont r=if r.lvl=0 then (match qU st.B r.slot with|some (some c)=>some c|_=>none)else none:=by
 unfold TSt.cont;grind
theorem qiC{b:qG}(h:qoZ b=true){k:Nat}{c:List TV}(hl:qU b k=some (some c)):isRec c=false:=by
 unfold qoZ at h;rw [List.all_eq_true]at h;have:=h _ (qdh hl);grind
theorem qmf{st:TSt}{s:St}(h:Rst st s)(hL:st.L=[])(hn0:qoZ st.B=true)(T:List Tmp):s.L=[]/\qgR s.B=true/\Rst (st.qbS T) (qme s T)/\Fr2 st (st.qbS T) s (qme s T):=by
 have hL':s.L=[]:=List.eq_nil_of_length_eq_zero (by rw [h.len,hL];rfl);have hB:∀k,RB (qU st.B k) (qw s.B k):=λk=>by
  have:=h.M.rel 0 k
  simp_all [qak,qaq,TSt.all,qdS]
 have hnd:(s.B.map (·.1)).Nodup:=h.M.nd s.B (by simp [qdS]);have hlp:∀k c,qw s.B k=some c->qae c=false:=λk c hc=>by
  have:=hB k;cases ht:qU st.B k with
  |none=>simp_all [RB]
  |some o =>
   rw [ht]at this;cases o with
   |none=>exact this c hc
   |some d=>obtain ⟨d',hd',hr⟩:=this;rw [hc]at hd';cases hd';exact qaD (hr.rvl (qiC hn0 ht))
 have hE:=qkj T h.E;have hlen:(qz s.E T).length=s.E.length:=qa7 T s.E;have hfirmE:∀(t:Nat),t∉qEn (qbD st.E T)->∀x v,(qbD st.E T).toL[t]?=some x->(qz s.E T)[t]?=some v->x.firm=true\/∃rs,x=.any rs:=λt hts x v hx _=>by
  grind [qvC,qA7,absurd]
 have hmap:((qbD st.E T).qvA λ_ v=>v.qef).toL=(qbD st.E T).toL.map TV.qef:=by
  apply List.ext_getElem?
  simp_all [qsG,List.getElem?_map]
 refine ⟨hL',?_,⟨by show RVL ((qbD st.E T).qvA λ_ v=>v.qef).toL _;rw [hmap];exact qlb hE,?_⟩,?_⟩
 ·unfold qgR;rw [List.all_eq_true];rintro ⟨k,c⟩ hk;simp only [hlp k c (qf9 hnd hk),Bool.not_false]
 ·refine ⟨by simp_all [TSt.all,qdS,TSt.qbS,qme],λl k=>?_,λb hb=>?_,λl k c hc hlt=>?_⟩
  rotate_right
  ·unfold qaq at hc;simp only [qdS,qme,hL',List.nil_append]at hc;cases l with
   |zero =>
    simp only [List.getElem?_cons_zero,qck]at hc;obtain ⟨c0,h1,rfl⟩:=qc.1 hc;exact qtx (h.M.mp 0 k c0 (by simp_all [qaq,qdS]) hlt)
   |succ l=>simp at hc
  ·unfold qak qaq;simp only [TSt.all,qdS,TSt.qbS,qme,hL,hL',List.nil_append];cases l with
   |zero =>
    simp only [List.getElem?_cons_zero];rw [qgc,qck];have:=hB k;cases ht:qU st.B k with
    |none=>simp_all [RB]
    |some o =>
     rw [ht]at this;cases o with
     |none =>
      simp only [qi,Option.map_none];intro c hc;grind [qc,qos]
     |some d=>obtain ⟨d',hd',hr⟩:=this;rw [hd'];exact ⟨_,rfl,(qlb (hr.rvl (qiC hn0 ht))).rc⟩
   |succ l=>simp [RB]
  simp_all [List.nil_append,List.mem_singleton,List.map_map,Function.comp_def,qdS,qme,qkt]
 ·refine ⟨λt ht=>by simp [TSt.qbS,ht],λr hr=>by simp [TSt.qbS,hr],λt ht=>?_,λt ht rs hE'=>?_,λr hr=>?_,λr hr hsm=>?_,rfl,by simp [qme,hlen]⟩
  ·simp only [TSt.qbS,Mask.mem_append,Mask.mem_ofList,not_or]at ht;simp only [qme,List.getElem?_map];have hEt:=qoa h.E ht.1;rw [hEt];cases hv:s.E[t]? with
   |none=>left;rfl
   |some v =>
    simp only [qi];have hv2:(qz s.E T)[t]?=some v:=by grind
    have hxt:∃x,(qbD st.E T).toL[t]?=some x:=by
     have hlt:t<(qbD st.E T).toL.length:=by
      have:=(qm.1 hv2).1;rw [<- hE.length];exact this
     simp_all
    obtain ⟨x,hx⟩:=hxt;rcases hfirmE t ht.2.1 x v hx hv2 with hf|⟨rs,rfl⟩
    ·left
     obtain ⟨v',hv',hr⟩:=hE.get hx;grind [RV.firm,V.qef]
    grind [qgz,V.qef]
  ·simp only [TSt.qbS,Mask.mem_append,Mask.mem_ofList,not_or]at ht;simp only [TSt.qbS,hmap,List.getElem?_map]at hE';obtain ⟨x,hx,hxa⟩:=qc.1 hE';obtain ⟨v,hv,_⟩:=hE.get hx;rcases hfirmE t ht.2.1 x v hx hv with hf|⟨rs',rfl⟩
   ·simp_all [if_true,TV.qef,TV.firm]
   ·exact qgz _ _ _ _ hx
  ·simp only [TSt.qbS,qj,not_or]at hr;rw [qeE (st:=qme s T) hL',qeE hL'];by_cases h0:r.lvl=0
   ·rw [if_pos h0,if_pos h0];simp only [qme,qck];have:=hB r.slot;cases ht:qU st.B r.slot with
    |none=>simp_all [RB]
    |some o =>
     rw [ht]at this;cases o with
     |none =>
      right
      refine ⟨by grind,by rw [qhv hL,if_pos h0,ht],by simp,λc hc=>?_⟩;grind [qc,qos]
     |some d =>
      left
      obtain ⟨d',hd',hrr⟩:=this;rw [hd'];cases hf:d.all TV.firm with
      |true=>simp only [qi];rw [qxj (hrr.rvl (qiC hn0 ht)) hf]
      |false =>
       exfalso
       refine hr.1 ?_;have:=qlh ht hf;obtain ⟨l,sl⟩:=r;grind
   grind
  ·rw [qhv hL]at hsm;have hL2:(st.qbS T).L=[]:=hL;rw [qhv hL2];by_cases h0:r.lvl=0
   ·rw [if_pos h0]at hsm ⊢;grind [qgc,TSt.qbS,qU]
   grind
theorem qA8{st:TSt}{s:St}(h:Rst st s)(hL:st.L=[])(hn0:qoZ st.B=true)(hB0:st.B.all (λp=>decide (p.1<16384))=true)(T:List Tmp):s.L=[]/\qtZ s.B=true/\Rst (st.qbS T) (qme s T)/\Fr2 st (st.qbS T) s (qme s T):=by
 obtain ⟨hL',hnl,hR,hF⟩:=qmf h hL hn0 T;refine ⟨hL',?_,hR,hF⟩;have hB:∀k,RB (qU st.B k) (qw s.B k):=λk=>by
  have:=h.M.rel 0 k
  simp_all [qak,qaq,TSt.all,qdS]
 have hnd:(s.B.map (·.1)).Nodup:=h.M.nd s.B (by simp [qdS]);have hmp:∀k c,qw s.B k=some c->qhk c=false:=λk c hc=>by
  by_cases hlt:k<16384
  ·have h9:qaq (qdS s) 0 k=some c:=by simp_all [qaq,qdS]
   exact h.M.mp 0 k c h9 hlt
  ·have:=hB k;cases ht:qU st.B k with
   |none=>simp_all [RB]
   |some o =>
    rw [List.all_eq_true]at hB0;have h9:=hB0 _ (qdh ht);grind
 unfold qtZ;unfold qgR at hnl;rw [List.all_eq_true]at hnl ⊢;rintro ⟨k,c⟩ hk;have h1:=hnl _ hk;simp only [Bool.not_eq_true']at h1;simp only [qe1 h1 (hmp k c (qf9 hnd hk)),Bool.not_false]
theorem qEj{x:TV}{v:V}(h:RV x v):RV x.qef v:=by
 unfold TV.qef;split
 ·exact h
 ·simp only [RV];exact ⟨RV.qq x v h,qaD (qv.2 ⟨h,q5⟩)⟩
theorem qsr:∀{l:List TV} {l':List V},RVL l l'->RVL (l.map TV.qef) l'
 |[],l',h=>h
 |x::l,l',h=>by
  simp only [RVL]at h;obtain ⟨v,m,rfl,h1,h2⟩:=h;exact qv.2 ⟨qEj h1,qsr h2⟩
theorem qv5{st:TSt}{s:St}(h:Rst st s)(hL:st.L=[])(hn0:qoZ st.B=true):Rst (st.qbS []) s/\Fr2 st (st.qbS []) s s:=by
 obtain ⟨hL',_,_,hf⟩:=qmf h hL hn0 [];have hB:∀k,RB (qU st.B k) (qw s.B k):=λk=>by
  have:=h.M.rel 0 k
  simp_all [qak,qaq,TSt.all,qdS]
 have hE:RVL (qbD st.E []).toL s.E:=qkj [] h.E;have hmap:((qbD st.E []).qvA λ_ v=>v.qef).toL=(qbD st.E []).toL.map TV.qef:=by
  apply List.ext_getElem?
  simp_all [qsG,List.getElem?_map]
 refine ⟨⟨by show RVL ((qbD st.E []).qvA λ_ v=>v.qef).toL _;simp_all [qsr],⟨by simp_all [TSt.all,qdS,TSt.qbS],λl k=>?_,h.M.nd,h.M.mp⟩⟩,⟨hf.wt,hf.wb,λ_ _=>.inl rfl,hf.an,λ_ _=>.inl rfl,hf.bn,rfl,rfl⟩⟩;unfold qak qaq;simp only [TSt.all,qdS,TSt.qbS,hL,hL',List.nil_append];cases l with
 |zero =>
  simp only [List.getElem?_cons_zero];rw [qgc];have:=hB k;cases ht:qU st.B k with
  |none=>grind
  |some o =>
   rw [ht]at this;cases o with
   |none=>exact this
   |some d=>obtain ⟨d',hd',hr⟩:=this;rw [hd'];exact ⟨_,rfl,(qsr (hr.rvl (qiC hn0 ht))).rc⟩
 |succ l=>simp [RB]
theorem qxE{xs:List Int}{o:Nat}{l:List V}(h:All2 (RTy (.int .i64) o) xs l):qdA l=some xs:=by
 induction h with
 |nil=>rfl
 |cons h1 _ ih =>
  simp_all [qi,RTy,qdA]
theorem qn1(o:Nat):∀xs:List Int,All2 (RTy (.int .i64) o) xs (qdj xs)
 |[]=>.nil
 |x::xs=>.cons (by simp only [RTy]) (qn1 o xs)
theorem qC7{F:List Int->Option (List Int)}{t:Tmp}{d:Option Tmp}{st:TSt}{s:St}{R:Type}{k:TSt->Option R}{r:R}(hs:Rst st s)(h:qEw F t d st R k=some r) :
  ∃st' s',k st'=some r/\qiO F t d s=some s'/\Rst st' s'/\Fr2 st st' s s':=by
 unfold qEw at h;split at h
 ·rename_i hLn;simp only [qe,List.isEmpty_iff]at hLn;obtain ⟨hL,hn0⟩:=hLn;split at h
  ·rename_i o xs hget;split at h
   ·rename_i ho;obtain ⟨ys,hys,hk⟩:=qd.1 h;obtain ⟨hL',hnl,hR1,hF1⟩:=qmf hs hL hn0 [];have hrt:=qxT hs.E t;rw [hget]at hrt;simp only [RV,RTy]at hrt;obtain ⟨f,c,l',hv,hfl,hall⟩:=hrt;have hf:=hfl.own ho;subst hf;have hin:=qxE (o:=0) hall;have hnew:RV (.t (.sl (.int .i64)) o ys) (.sl .own c (qdj ys)):=by
     grind [qn1,RV,RTy]
    have hand:RV (.any []) V.undef:=qco [];cases hx:xs with
    |nil =>
     obtain ⟨hR0,hF0⟩:=qv5 hs hL hn0;obtain ⟨hR2,hF2⟩:=qh3 hR0 (some t) hnew;obtain ⟨hR3,hF3⟩:=qh3 hR2 d hand;refine ⟨_,_,hk,?_,hR3,(hF0.trans hF2).trans hF3⟩;unfold qiO;rw [if_pos (by grind),hv];simp only [hin,hys];rw [hx];rfl
    |cons x0 xs0 =>
     obtain ⟨hR2,hF2⟩:=qh3 hR1 (some t) hnew;obtain ⟨hR3,hF3⟩:=qh3 hR2 d hand;refine ⟨_,_,hk,?_,hR3,(hF1.trans hF2).trans hF3⟩;unfold qiO;rw [if_pos (by grind),hv];simp only [hin,hys];rw [hx];rfl
   ·cases h
  ·cases h
 ·cases h
def qDf(h:Hole)(s:St):Prop:=∃c l' b,s.E[h.r]?=some (.sl .own c (l'.set h.j.toNat b))/\All2 (RTy h.τ (nx h.lv)) h.l l'/\b.cells=[b]/\b.oks=true/\(∀cs,qdB b cs=cs.headD .undef)/\0<=h.j/\h.j.toNat<l'.length/\qaY h.lv=true
def qgt(h:Option Hole)(s:St):Prop:=∀x,h=some x->qDf x s
theorem qqu{s:St}:qgt none s:=λx h=>by cases h
theorem qwT{o:Oper}{hole:Option Hole}{s s':St}(h:qgt hole s)(hk:∀t:Nat,t∉tmpsOf o->o.dst≠some t->s'.E[t]?=s.E[t]?):qgt (qrZ o hole) s':=by
 intro x hx;unfold qrZ at hx;split at hx
 ·rename_i h0;split at hx
  ·cases hx
  ·rename_i hc;cases hx;simp only [not_or]at hc;obtain ⟨c,l',b,h1,h2⟩:=h x rfl;exact ⟨c,l',b,by grind,h2⟩
 grind
theorem qz5{o:Oper}{hole:Option Hole}{s:St}(h:qgt hole s)(v:V):qgt (qrZ o hole) (s.put o.dst v) :=
 qwT h λt _ h2=>by
  unfold St.put;grind
theorem qBR{hole:Option Hole}{r0:Tmp}{p:List (Int×Nat×Nat)}{x:TV}{v:V}{st:TSt}{s sV:St}{R:Type}{k:TSt->Option R}{r:R}(hh:qgt hole sV)(hx:RV x v)(hs:Rst st s)(h:qBQ hole r0 p x st R k=some r) :
  (∀e∈p,0<=e.1)/\∃st' y,k st'=some r/\qsL v.cells (qnk p) (sV.E.getD r0 .undef)=some y/\y.soft=false/\Rst st' (s.put (some r0) y)/\Fr2 st st' s (s.put (some r0) y):=by
 unfold qBQ at h;split at h
 ·rename_i hl i;split at h
  ·rename_i hr0;subst hr0;split at h
   ·rename_i τ o y;split at h
    ·rename_i e he;cases hd:decide (i=hl.j)with
     |false=>grind
     |true =>
      rw [hd]at h;simp only [cond_true]at h;have hij:i=hl.j:=of_decide_eq_true hd;subst hij;split at h
      ·rename_i hf;obtain ⟨c,l',b,h1,h2,h3,h4,h5,h6,h7,h8⟩:=hh hl rfl;have hvc:v.cells=[v]:=by
        simp only [RV,RTy]at hx;obtain ⟨f,c,m,rfl,_⟩:=hx;rfl
       have hy:=qc5 _ _ _ _ _ he hx;have hnew:RV (.t (.sl hl.τ) hl.lv (hl.l.set hl.j.toNat e)) (.sl .own c (l'.set hl.j.toNat v)):=by
        grind [qfi,qws,RV,RTy]
       obtain ⟨hR2,hF2⟩:=qh3 hs (some hl.r) hnew;refine ⟨by simp [h6],_,_,h,?_,RV.firm _ _ hf hnew,hR2,hF2⟩
       simp_all [List.getD_eq_getElem?_getD,qh,List.map_nil,List.getElem?_set_self,if_pos,List.set_set,undef,qnk,qsL,qJ]
      ·cases h
    ·cases h
   ·cases h
  ·cases h
 ·cases h
theorem qE7{ops:Array Oper}{i:Nat}{o:Oper}{st:TSt}{s:St}{hole:Option Hole}{R:Type}{k:TSt->Option R}{r:R}(hs:Rst st s)(hh:qgt hole s)(h:lsT P H f ops i o st hole R k=some r) :
  ∃st' s',k st'=some r/\qji P H f ops i o s=some s'/\Rst st' s'/\Fr2 st st' s s':=by
 unfold lsT at h;split at h
 ·rename_i t d xo hop;simp only at h;split at h
  ·rename_i hc;simp only [qe,decide_eq_true_eq,List.isEmpty_iff]at hc;obtain ⟨⟨⟨⟨⟨⟨⟨⟨⟨hL,hn0⟩,hB0⟩,hdst⟩,hgd⟩,hnd⟩,hs0⟩,hxl⟩,hxo⟩,hxp⟩:=hc;obtain ⟨hL',hnl,hsoft,hfr⟩:=qA8 hs hL hn0 hB0 (tmpsOf o);have hrx:=qCD (H:=H) (f:=f) (o:=o) hs.E xo;obtain ⟨hcx,hox⟩:=RV.cells hxo hrx;have hpx:(rd H f o s.E xo).qq=[]:=by
    rw [List.eq_nil_iff_forall_not_mem];intro q hq;have:=RV.qq _ _ hrx q hq;grind
   have hcond:(s.L.isEmpty&&qtZ s.B&&o.dst.isNone&&o.guard.isNone&&qfs (tmpsOf o)&&decide (P.cellsOf t≠0)&&decide ((rd H f o s.E xo).cells.length=P.cellsOf t)&&(rd H f o s.E xo).oks&&(rd H f o s.E xo).qq.isEmpty)=true:=by
    simp only [qe,decide_eq_true_eq];exact ⟨⟨⟨⟨⟨⟨⟨⟨by rw [hL'];rfl,hnl⟩,hdst⟩,hgd⟩,hnd⟩,hs0⟩,by rw [hcx.length];exact hxl⟩,hox⟩,by rw [hpx];rfl⟩
   have hrev:∀p:List (Int×Nat×Nat),(qnk p).reverse=qnk p.reverse:=λp=>by simp [qnk]
   split at h
   ·rename_i r0 p hlk;split at h
    ·cases h
    ·rename_i hrT;split at h
     ·obtain ⟨hp0,st',y,hk,hupd,hysoft,hR2,hF2⟩:=qBR hh hrx hsoft h;have hlk':=qiv hs.E _ _ _ _ _ _ hlk hp0;have hsing:(qnk p).reverse=qnk p:=by
       unfold qBQ at h;grind
      refine ⟨_,_,hk,?_,hR2,hfr.trans hF2⟩;unfold qji;rw [hop];simp only
      rw [if_pos hcond,hlk'];simp only
      rw [if_neg hrT,hsing,hupd];simp only
      rw [hysoft];rfl
     obtain ⟨hp0,y,u,hk,hupd,hyu⟩:=qBy hcx _ _ _ h (qxT hs.E r0);split at hk
     ·rename_i hf;have hlk':=qiv hs.E _ _ _ _ _ _ hlk (λe he=>hp0 e (by simpa using he));obtain ⟨hR2,hF2⟩:=qh3 hsoft (some r0) hyu;refine ⟨_,_,hk,?_,hR2,hfr.trans hF2⟩;unfold qji;rw [hop];simp only
      rw [if_pos hcond,hlk'];simp only
      rw [if_neg hrT,hrev,hupd];simp only
      rw [RV.firm y u hf hyu];rfl
     ·cases hk
   ·rename_i q off p hlk;split at h
    ·rename_i cs hcs;split at h
     ·rename_i z hz;obtain ⟨c',hc',hrc⟩:=hs.box hcs;obtain ⟨z',hz',hrz⟩:=hrc.get hz;obtain ⟨hp0,y,u,hk,hupd,hyu⟩:=qBy hcx _ _ _ h hrz;split at hk
      ·rename_i hf;have hlk':=qiv hs.E _ _ _ _ _ _ hlk (λe he=>hp0 e (by simpa using he));have hsb:(st.qbS (tmpsOf o)).box q=some (cs.map TV.qef):=by
        have hL2:(st.qbS (tmpsOf o)).L=[]:=hL;refine qwA ?_ (qqZ (qlb hrc))
        replace hcs:=(qrt hcs).1
        rw [qhv hL]at hcs;rw [qhv hL2];by_cases h0:q.lvl=0
        ·rw [if_pos h0]at hcs ⊢;grind [qgc,TSt.qbS]
        grind
       have hq0:q.lvl=0:=by
        simp_all [qeE]
       obtain ⟨hR2,hF2⟩:=qic hsoft hsb ((qlb hrc).set off hyu) (λhlt=>qB4 (qtx (hs.M.mp q.lvl q.slot c' (by rw [<- qP];exact hc') hlt)) (by obtain ⟨c9,l9,h9⟩:=qwl hupd;rw [h9];rfl));refine ⟨_,_,hk,?_,hR2,hfr.trans hF2⟩;unfold qji;rw [hop];simp only
       rw [if_pos hcond,hlk'];simp only
       rw [hc'];simp only
       rw [hz'];simp only
       rw [hrev,hupd];simp only
       rw [RV.firm y u hf hyu]
       simp_all [qf,if_false,qb,if_pos,St.qp,qme]
      ·cases hk
     ·cases h
    ·cases h
   ·cases h
  ·cases h
 ·cases h
theorem qAb{o:Oper}{E:Env}{E':List V}(h:RVL E.toL E')(hg:qvz H f o E=true):qeG H f o E'=true:=by
 unfold qvz at hg;unfold qeG;simp only [Bool.or_eq_true,qe]at hg ⊢;refine hg.imp id λ⟨h1,h2⟩=>⟨?_,?_⟩
 ·rw [h.length,qj3];exact h1
 ·split
  ·rename_i t a hop;rw [hop]at h2;simp only [Bool.or_eq_true]at h2 ⊢;refine h2.imp id λh3=>?_;have:=qxT h a;cases hx:E.get a with
   |cptr l=>rw [hx]at this;simp only [RV]at this;obtain ⟨f',l',hl',_⟩:=this;rw [hl']<;>rfl
   |_=>rw [hx]at h3;cases h3
  ·rfl
theorem qnw(hT:TOk P H lib T)(hO:OOk P H lib O){ops:Array Oper}{R:Type}{k:TSt->Option R}{r:R}:∀(is:List Nat) (st:TSt) (s:St),Rst st s->qxP P H J T O ctx f ops is st R k=some r ->
  ∃st' s',k st'=some r/\Ev (λC=>qfU P H C f ops is s=some s') P H lib/\Rst st' s'/\Fr2 st st' s s'
 |[],st,s,hs,h=>⟨st,s,h,.of λC=>rfl,hs,Fr2.refl _ _⟩
 |i::is,st,s,hs,h=>by
  simp only [qxP]at h;split at h
  ·cases h
  ·rename_i o ho;obtain ⟨st1,b,hw,hs1,hf1,hb⟩:=qvj hs h;cases b with
   |true =>
    simp only [if_true]at hb;obtain ⟨st2,fp,s2,hk,hev,hR,hF,hkeep⟩:=qmj hT hO hs1 hb;obtain ⟨st3,s3,hk3,hev3,hR3,hF3⟩:=qnw hT hO is st2 s2 hR hk;refine ⟨st3,s3,hk3,(hev.and hev3).imp λC hC=>?_,hR3,(hf1.trans hF).trans hF3⟩
    simp_all [qi,qfU,qlk]
   |false =>
    simp only [qf,if_false]at hb;obtain ⟨hR,hF⟩:=qh3 hs1 o.dst (v:=.val undef) (u:=.val undef) (by simp [RV]);obtain ⟨st3,s3,hk3,hev3,hR3,hF3⟩:=qnw hT hO is _ _ hR hb;refine ⟨st3,s3,hk3,hev3.imp λC hC=>?_,hR3,(hf1.trans hF).trans hF3⟩
    simp_all [qfU]
def Cov(l:List (Nat×Foot))(e:Nat×Foot):Prop:=∃e'∈l,e'.1=e.1/\e'.2.fp=e.2.fp/\e'.2.looks=e.2.looks/\∀t∈e.2.took,t∈e'.2.took
theorem qBr{o:Oper}{E:Env}{E':List V}(h:RVL E.toL E'):∀t∈qfQ H f o E',t∈qmq H f o E:=λt ht=>by
 unfold qfQ at ht;unfold qmq;split at ht
 ·rename_i htk;rw [if_pos htk];simp only [List.mem_filter]at ht ⊢;exact ⟨ht.1,RV.owns _ _ (qxT h t) ht.2⟩
 grind
theorem qoe(hT:TOk P H lib T)(hO:OOk P H lib O){ops:Array Oper}{R:Type}{k:TSt->List (Nat×Foot)->Option R}{r:R}:∀(is:List Nat) (st:TSt) (s:St) (acc:List (Nat×Foot)),Rst st s->qta P H J T O ctx f ops is st acc R k=some r ->
  ∃st' s' fps fpv,k st' fps=some r/\Ev (λC=>qgD P H C f ops is s=some (s',fpv)) P H lib/\Rst st' s'/\Fr2 st st' s s'/\(∀e∈acc,e∈fps)/\(∀e∈fpv,Cov fps e)
 |[],st,s,acc,hs,h=>⟨st,s,acc,[],h,.of λC=>rfl,hs,Fr2.refl _ _,λe he=>he,by simp⟩
 |i::is,st,s,acc,hs,h=>by
  simp only [qta]at h;split at h
  ·cases h
  ·rename_i o ho;obtain ⟨st1,b,hw,hs1,hf1,hb⟩:=qvj hs h;cases b with
   |true =>
    simp only [if_true]at hb;obtain ⟨st2,fp,s2,hk,hev,hR,hF,hkeep⟩:=qmj hT hO hs1 hb;obtain ⟨st3,s3,fps,fpv,hk3,hev3,hR3,hF3,hacc,hcov⟩:=qoe hT hO is st2 s2 _ hR hk;refine ⟨st3,s3,fps,(i,⟨fp,qfQ H f o s.E,qbq H f ops o⟩)::fpv,hk3,(hev.and hev3).imp λC hC=>?_,hR3,(hf1.trans hF).trans hF3,λe he=>hacc e (by simp [he]),λe he=>?_⟩
    ·simp_all [qi,qgD,qho]
    ·rcases qk.1 he with rfl|he
     ·exact ⟨_,hacc _ (List.mem_cons_self ..),rfl,rfl,rfl,λt ht=>qBr hs1.E t ht⟩
     grind
   |false =>
    simp only [qf,if_false]at hb;obtain ⟨hR,hF⟩:=qh3 hs1 o.dst (v:=.val undef) (u:=.val undef) (by simp [RV]);obtain ⟨st3,s3,fps,fpv,hk3,hev3,hR3,hF3,hacc,hcov⟩:=qoe hT hO is _ _ _ hR hb;refine ⟨st3,s3,fps,(i,⟨.none,[],qbq H f ops o⟩)::fpv,hk3,hev3.imp λC hC=>?_,hR3,(hf1.trans hF).trans hF3,λe he=>hacc e (by simp [he]),λe he=>?_⟩
    ·simp_all [qi,qgD,qho]
    ·rcases qk.1 he with rfl|he
     ·exact ⟨_,hacc _ (List.mem_cons_self ..),rfl,rfl,rfl,λt ht=>by cases ht⟩
     grind
theorem qEP{ops:Array Oper}{i:Nat}{o:Oper}{st:TSt}{s:St}{R:Type}{k:TSt->Hole->Option R}{r:R}(hs:Rst st s)(h:apT P H f ops i o st R k=some r) :
  ∃st' s' hole,k st' hole=some r/\qd8 P H f ops i o s=some s'/\Rst st' s'/\Fr2 st st' s s'/\qDf hole s':=by
 unfold apT at h;split at h
 ·rename_i argTypes args _ hop;split at h
  ·rename_i d hd;split at h
   ·rename_i r0 j hlk;split at h
    ·cases h
    ·rename_i hrd;simp only [not_or]at hrd;split at h
     ·rename_i τ lv l hE;split at h
      ·rename_i hown;simp only [qe]at hown;obtain ⟨e,he,hk⟩:=qd.1 h;obtain ⟨h0,hget⟩:=qnC he;have hlk':=qiv hs.E _ _ _ _ _ _ hlk (λe he=>by grind);have hr:=qxT hs.E r0;rw [hE]at hr;simp only [RV,RTy]at hr;obtain ⟨fl,c,l',hv,hfl,hall⟩:=hr;have hf:fl=.own:=hfl.own hown.1;subst hf;obtain ⟨b,hb,hrb⟩:=hall.get hget;have hrb0:RTy (.sl τ) (nx lv) e b:=hrb;obtain ⟨f2,c2,l2,rfl,hf2,hall2⟩:=hrb;have hf2':f2=.own:=hf2.own hown.2;subst hf2';have hlen:s.E.length=st.E.n:=by rw [hs.E.length,qj3]
       have hr0lt:r0<s.E.length:=by
        grind
       have hjl:j.toNat<l'.length:=(qm.1 hb).1;have hdl:(V.sl .own c2 l2).q6=.sl .q6 c2 (reflagL qV l2):=rfl;let y:V:=.sl .own c (l'.set j.toNat (V.q6 (.sl .own c2 l2)))
       have hyp:y.qq=[]:=by simp [y,V.qq]
       refine ⟨_,{s with E:=(s.E.set r0 y).set d (.sl .own c2 l2)},_,hk,?_,⟨?_,hs.M⟩,?_,?_⟩
       ·unfold qd8;rw [hop];simp only
        rw [hd];simp only
        rw [hlk'];simp only [qnk,qh,List.map_nil];rw [if_neg (by grind),hv];grind [qCZ]
       ·show RVL ((st.E.set r0 (.any [])).set d _).toL _;rw [qdQ,qdQ];refine (hs.E.set r0 ?_).set d ?_
        ·simp_all [RV,qae]
        simp_all [RV]
       ·refine ⟨λt ht=>by simp_all,λq hq=>hq,λt ht=>.inl ?_,λt ht rs hE'=>?_,λq hq=>.inl rfl,λq hq h=>h,rfl,by simp⟩
        ·simp_all [Mask.mem_ins,not_or,List.getElem?_set_ne,Ne.symm]
        simp_all [Mask.mem_ins,not_or,qdQ,List.getElem?_set_ne,Ne.symm]
       ·refine ⟨c,l',V.q6 (.sl .own c2 l2),?_,hall,rfl,by simp [hdl,V.oks,V.cells,V.one],λcs=>by rw [hdl];rfl,h0,hjl,hown.1⟩;grind
      ·cases h
     ·cases h
   ·cases h
  ·cases h
 ·cases h
theorem qkk(hT:TOk P H lib T)(hO:OOk P H lib O){ops:Array Oper}{R:Type}{k:TSt->List (Nat×Foot)->Option R}{r:R}:∀(is:List Nat) (st:TSt) (s:St) (hole:Option Hole) (acc:List (Nat×Foot)),Rst st s->qgt hole s->qjb P H J T O ctx f ops is st hole acc R k=some r ->
  ∃st' s' fps fpv,k st' fps=some r/\Ev (λC=>qgC P H C f ops is s=some (s',fpv)) P H lib/\Rst st' s'/\Fr2 st st' s s'/\(∀e∈acc,e∈fps)/\(∀e∈fpv,Cov fps e)
 |[],st,s,hole,acc,hs,hh,h=>⟨st,s,acc,[],h,.of λC=>rfl,hs,Fr2.refl _ _,λe he=>he,by simp⟩
 |i::is,st,s,hole,acc,hs,hh,h=>by
  simp only [qjb]at h;split at h
  ·cases h
  ·rename_i o ho;split at h
   ·rename_i hls;obtain ⟨st2,s2,hk,hst,hR,hF⟩:=qE7 hs hh h;obtain ⟨st3,s3,fps,fpv,hk3,hev3,hR3,hF3,hacc,hcov⟩:=qkk hT hO is st2 s2 none _ hR qqu hk;refine ⟨st3,s3,fps,(i,⟨.all,[],looksAt ops o⟩)::fpv,hk3,hev3.imp λC hC=>?_,hR3,hF.trans hF3,λe he=>hacc e (by simp [he]),λe he=>?_⟩
    ·simp_all [if_true,qi,qgC,qjm]
    ·rcases qk.1 he with rfl|he
     ·exact ⟨_,hacc _ (List.mem_cons_self ..),rfl,rfl,rfl,λt ht=>ht⟩
     grind
   ·rename_i hls;have fin:∀(st:TSt) (s0:St) (hole:Option Hole),Rst st s0->qgt hole s0 ->
      (qvi ops o st R
       (λst=>qj0 P H J T O ctx f o st R λst' fp=>qjb P H J T O ctx f ops is st' (qrZ o hole) ((i,⟨fp,qmq H f o st.E,qbq H f ops o⟩)::acc) R k)
       (λst=>qjb P H J T O ctx f ops is (st.put o.dst (.val undef)) (qrZ o hole) ((i,⟨.none,[],qbq H f ops o⟩)::acc) R k))=some r ->
      ∃st' s' fps fpv,k st' fps=some r/\Ev (λC=>∃s1 ft rest,qho P H C f ops i s0=some (s1,ft)/\qgC P H C f ops is s1=some (s',rest)/\fpv=(i,ft)::rest) P H lib/\Rst st' s'/\Fr2 st st' s0 s'/\(∀e∈acc,e∈fps)/\(∀e∈fpv,Cov fps e):=by
     intro st s0 hole hs hh h;obtain ⟨st1,b,hw,hs1,hf1,hb⟩:=qvj hs h;cases b with
     |true =>
      simp only [if_true]at hb;obtain ⟨st2,fp,s2,hk,hev,hR,hF,hkeep⟩:=qmj hT hO hs1 hb;obtain ⟨st3,s3,fps,fpv,hk3,hev3,hR3,hF3,hacc,hcov⟩:=qkk hT hO is st2 s2 _ _ hR (qwT hh hkeep) hk;refine ⟨st3,s3,fps,(i,⟨fp,qfQ H f o s0.E,qbq H f ops o⟩)::fpv,hk3,(hev.and hev3).imp λC hC=>⟨s2,_,fpv,?_,hC.2,rfl⟩,hR3,(hf1.trans hF).trans hF3,λe he=>hacc e (by simp [he]),λe he=>?_⟩
      ·simp_all [qi,qho]
      ·rcases qk.1 he with rfl|he
       ·exact ⟨_,hacc _ (List.mem_cons_self ..),rfl,rfl,rfl,λt ht=>qBr hs1.E t ht⟩
       ·exact hcov e he
     |false =>
      simp only [qf,if_false]at hb;obtain ⟨hR,hF⟩:=qh3 hs1 o.dst (v:=.val undef) (u:=.val undef) (by simp [RV]);obtain ⟨st3,s3,fps,fpv,hk3,hev3,hR3,hF3,hacc,hcov⟩:=qkk hT hO is _ _ _ _ hR (qz5 hh _) hb;refine ⟨st3,s3,fps,(i,⟨.none,[],qbq H f ops o⟩)::fpv,hk3,hev3.imp λC hC=>⟨_,_,fpv,?_,hC,rfl⟩,hR3,(hf1.trans hF).trans hF3,λe he=>hacc e (by simp [he]),λe he=>?_⟩
      ·simp_all [qho]
      ·rcases qk.1 he with rfl|he
       ·exact ⟨_,hacc _ (List.mem_cons_self ..),rfl,rfl,rfl,λt ht=>by cases ht⟩
       grind
    split at h
    ·rename_i hap;split at h
     ·cases h
     rename_i hilk;obtain ⟨st1,s1,hl,hk,hta,hR,hF,hhl⟩:=qEP hs h;obtain ⟨st3,s3,fps,fpv,hk3,hev3,hR3,hF3,hacc,hcov⟩:=fin st1 s1 (some hl) hR (λx hx=>by grind) hk;refine ⟨st3,s3,fps,fpv,hk3,hev3.imp λC ⟨s2,ft,rest,h1,h2,h3⟩=>?_,hR3,hF.trans hF3,hacc,hcov⟩;simp only [qgC,qjm,ho,hls,hap,hilk,hta,if_true,qf,if_false,qa,h1,h2,h3,qi]
    ·rename_i hap;split at h
     ·rename_i hgt;have hg:=qAb hs.E hgt;obtain ⟨st3,s3,fps,fpv,hk3,hev3,hR3,hF3,hacc,hcov⟩:=fin st s hole hs hh h;refine ⟨st3,s3,fps,fpv,hk3,hev3.imp λC ⟨s2,ft,rest,h1,h2,h3⟩=>?_,hR3,hF3,hacc,hcov⟩;simp only [qgC,qjm,ho,hls,hap,hg,if_true,qf,if_false,h1,h2,h3,qi]
     ·cases h
theorem qyj{l l' m:List Tmp}(h:∀t∈l,t∈l')(hm:meets l m=true):meets l' m=true:=by
 grind [List.any_eq_true,meets]
theorem qtX{U:List (Nat×Nat)}{fps fpv:List (Nat×Foot)}(hc:∀e∈fpv,Cov fps e)(h:qhQ U fps=true):qhQ U fpv=true:=by
 unfold qhQ at h ⊢;rw [List.all_eq_true]at h ⊢;rintro ⟨i,j⟩ hu;have h1:=h (i,j) hu;simp only [List.all_eq_true]at h1 ⊢;rintro ⟨a,p⟩ ha;obtain ⟨⟨a',p'⟩,hp',hpa,hpf,hpl,hpt⟩:=hc (a,p) ha;simp only at hpa hpf hpl hpt;subst hpa;have h2:=h1 (a',p') hp';simp only [Bool.or_eq_true,List.all_eq_true]at h2 ⊢;rcases h2 with h2|h2
 ·grind
 ·right
  rintro ⟨b,q⟩ hb;obtain ⟨⟨b',q'⟩,hq',hqa,hqf,hql,hqt⟩:=hc (b,q) hb;simp only at hqa hqf hql hqt;subst hqa;have h3:=h2 (b',q') hq';simp only [Bool.not_eq_true']at h3 ⊢;rcases h3 with h3|h3
  ·grind
  ·right
   cases hcl:Foot.qgx p q with
   |false=>rfl
   |true =>
    have:Foot.qgx p' q'=true:=by
     unfold Foot.qgx at hcl ⊢;simp only [Bool.or_eq_true]at hcl ⊢;grind [qyj]
    grind
theorem qiy{σ ρ:Type}{g:σ->Option (σ⊕ρ)}{s:σ}{r:ρ}(h:qA g s=some r):∃n,qdi g n s=some r:=by
 unfold qA at h;split at h
 ·grind
 ·cases h
theorem qAf{j:Join}{bid:Nat}{c:Code}(ih:Snd (tx P H J T O ctx f bid c) (qBB P H lib f bid c)){st:TSt}{s0:St}(hst:Rst st s0){R:Type}{k:Ex->TSt->Option R}{r:R} :
  ∀(n:Nat) (x:denL (j.ps.map (·.1))) (s:St),Rst (st.fresh.qbI j (ofL j.ps x)) s->Fr2 st.fresh (st.fresh.qbI j (ofL j.ps x)) s0 s ->
   qdi (λx=>match (st.fresh.qbI j (ofL j.ps x)).clear (H.clear f bid)with
      |some st1=>tx P H J T O ctx f bid c st1 (denL (j.ps.map (·.1))⊕R) λe st2=>match e with
       |.normal=>(st2.outs st j).map .inl
       |e=>(k e (st2.merge st)).map .inr
      |none=>none) n x=some r ->
   ∃e st' s',qBB P H lib f bid (.loop c) s e s'/\Rst st' s'/\Fr2 st st' s0 s'/\k e st'=some r
 |0,x,s,hs,hf,h=>by simp [qdi]at h
 |n+1,x,s,hs,hf,h=>by
  simp only [qdi]at h;cases hcl:(st.fresh.qbI j (ofL j.ps x)).clear (H.clear f bid)with
  |none=>grind
  |some st1 =>
   rw [hcl]at h;simp only at h;obtain ⟨s1,hv1,hs1,hf1⟩:=qiq hs hcl;have done:∀(e:Ex) (st2:TSt) (s2:St),e≠.normal->qBB P H lib f bid c s1 e s2->Rst st2 s2->Fr2 st1 st2 s1 s2->k e (st2.merge st)=some r ->
     ∃e st' s',qBB P H lib f bid (.loop c) s e s'/\Rst st' s'/\Fr2 st st' s0 s'/\k e st'=some r:=by
    intro e st2 s2 hne hev hR hF hk;refine ⟨e,st2.merge st,s2,hev.imp λC hC=>?_,hR.merge,qwX ((hf.trans hf1).trans hF),hk⟩
    simp_all [ex,absurd]
   split at h
   ·rename_i x' hx';obtain ⟨e,st2,s2,hev,hR,hF,hk⟩:=ih st1 _ _ _ s1 hx' hs1;cases e with
    |normal =>
     obtain ⟨y,hy,hy2⟩:=qc.1 hk;cases hy2;have hF0:Fr2 st.fresh st2 s0 s2:=(hf.trans hf1).trans hF;have hy':st2.outs st.fresh j=some x':=hy;obtain ⟨e',st',s',hev',hR',hF',hk'⟩:=qAf ih hst n x' s2 (qiH hst.fresh hR hF0 hy') (qiG (st:=st.fresh) hR hF0 hy') h;refine ⟨e',st',s',?_,hR',hF',hk'⟩;obtain ⟨n1,h1⟩:=hev;obtain ⟨n2,h2⟩:=hev';refine ⟨max n1 (n2+1),λm hm=>?_⟩;have e1:=h1 m (by omega);obtain ⟨m',rfl⟩:∃m',m=m'+1:=⟨m-1,by omega⟩
     have e2:=h2 m' (by omega)
     simp_all [ex,qvH]
    |exit id =>
     simp_all
    |ret =>
     simp_all
   ·rename_i y hx';cases h;obtain ⟨e,st2,s2,hev,hR,hF,hk⟩:=ih st1 _ _ _ s1 hx' hs1;grind [qc,id]
   ·cases h
theorem qCU{j:Join}{st:TSt}{s:St}(hs:Rst st s)(hf:st.qlI j=true){x:denL (j.ps.map (·.1))}(hx:asL j.ps (j.lv.map st.get)=some x) :
  Rst (st.fresh.qbI j (ofL j.ps x)) s/\Fr2 st.fresh (st.fresh.qbI j (ofL j.ps x)) s s:=by
 have ho:st.fresh.outs st.fresh j=some x:=by
  unfold TSt.outs;have h1:st.fresh.qlI j=true:=hf;have h2:st.fresh.wrote j=true:=by
   simp_all [Mask.qFq,Mask.mem_empty,absurd,TSt.wrote,TSt.fresh]
  have h3:st.fresh.qFD st.fresh j=true:=by
   grind [List.all_eq_true,TSt.qFD]
  rw [h1,h2,h3];exact hx
 exact ⟨qiH hs.fresh hs.fresh (Fr2.refl _ _) ho,qiG (st:=st.fresh) hs.fresh (Fr2.refl _ _) ho⟩
theorem qpG(ops:Array Oper):qij H ops true=none:=by
 simp_all [qij]
theorem qzv(s:St):s.clear []=some s:=by
 have h1:qS [] s.B=s.B:=by
  have:∀B:Level,qS [] B=B:=λB=>by
   induction B with
   |nil=>rfl
   |cons p B ih=>simp_all [qS]
  grind
 unfold St.clear;simp only [h1,true_or,if_true];rfl
theorem qEe{D:List Tmp}{st st1:TSt}{s:St}(h:Rst st s)(hc:qEI D st=some st1):∃s1,s.clear D=some s1/\Rst st1 s1/\Fr2 st st1 s s1:=by
 cases D with
 |nil =>
  simp_all [qb,qzv,Fr2.refl,qEI]
 |cons d D=>exact qiq h hc
theorem qgb(L:List qG)(B:qG)(l k:Nat):qak (L++[B]) l k=if l=L.length then qU B k else qak L l k:=by
 unfold qak;grind
theorem qcG(L:List Level)(B:Level)(l k:Nat):qaq (L++[B]) l k=if l=L.length then qw B k else qaq L l k:=by
 unfold qaq;grind
theorem LR.last{M:List qG}{M':List Level}{b:qG}{b':Level}(h:LR (M++[b]) (M'++[b']))(k:Nat):RB (qU b k) (qw b' k):=by
 have hl:M'.length=M.length:=by have:=h.len;grind
 have:=h.rel M.length k
 simp_all [qgb,qcG,if_pos]
theorem LR.qDz{M:List qG}{M':List Level}{b c:qG}{b' c':Level}(h:LR (M++[b]) (M'++[b']))(hr:∀k,RB (qU c k) (qw c' k))(hn:(c'.map (·.1)).Nodup)(hm:∀k x,qw c' k=some x->k<16384->qhk x=false):LR (M++[c]) (M'++[c']):=by
 have hl:M'.length=M.length:=by have:=h.len;grind
 refine ⟨by simp [hl],λl k=>?_,λq hq=>?_,λl k x hx hlt=>?_⟩
 ·have:=h.rel l k;rw [qgb,qcG,hl]at this ⊢;grind
 ·simp only [qj,List.mem_singleton]at hq;rcases hq with hq|rfl
  ·exact h.nd q (by simp [hq])
  omega
 ·have:=h.mp l k x;rw [qcG]at this hx;grind
theorem qAH{M:List qG}{M':List Level}{b:qG}{b':Level}(h:LR (M++[b]) (M'++[b']))(hf:qxR b=true){r:Root}(hr:r∈qnl b'):r∈qk0 b:=by
 obtain ⟨k,c,hk,hrc⟩:=qud hr;have hlk:=qf9 (h.nd b' (by simp)) hk;have hb:=h.last k;cases ht:qU b k with
 |none=>simp_all [RB]
 |some o =>
  obtain ⟨d,rfl⟩:=qwK hf (qdh ht);rw [ht]at hb;obtain ⟨d',hd',hr'⟩:=hb;rw [hd']at hlk;cases hlk;exact qqG (qdh ht) (hr'.qq r hrc)
theorem qCC(hT:TOk P H lib T)(hO:OOk P H lib O){bid:Nat}{g:Operand}{ps:Array Tmp}{asz bo:Code}{st:TSt}{R:Type}{k:Ex->TSt->Option R}{r:R}{s:St}
  (h:tx P H J T O ctx f bid (.rangeFunc g ps asz bo) st R k=some r) (hs:Rst st s) :
  ∃e st' s',qBB P H lib f bid (.rangeFunc g ps asz bo) s e s'/\Rst st' s'/\Fr2 st st' s s'/\k e st'=some r:=by
 simp only [tx]at h;split at h
 ·rename_i hh first cap t ts hgv hps;split at h
  ·rename_i hnb;simp only [qe,Option.isNone_iff_eq_none,decide_eq_true_eq]at hnb;obtain ⟨hn,ht⟩:=hnb;have hlen:=hs.len;have hnV:=qe3 hs hn;have hg:=qCD (H:=H) (f:=f) (o:=default) hs.E g;rw [hgv]at hg;simp only [RV]at hg;obtain ⟨first',cap',hV,hf1,hc1⟩:=hg;have hE:RVL (dullL st.E.toL) (s.E.map V.q6):=by
    have:=hs.E.q6;rw [qaA]at this;exact this
   have hR1:Rst {st with B:=(t,some [.lp .ready none f (dullL st.E.toL) (t::ts) asz bo])::st.B,Wb:=⟨st.L.length,t⟩::st.Wb} {s with B:=(t,[.lp .ready none f (s.E.map V.q6) (t::ts) asz bo])::s.B}:=by
    refine ⟨hs.E,LR.qDz hs.M (λq=>?_) ?_ (λq x hx hlt=>?_)⟩
    ·simp only [qU,qw];by_cases e:t=q
     ·rw [if_pos e,if_pos e];exact ⟨_,rfl,_,rfl,hE⟩
     ·rw [if_neg e,if_neg e];exact hs.M.last q
    ·have:=hs.M.nd s.B (by simp [qdS]);simp only [qh,List.nodup_cons];refine ⟨λhm=>?_,this⟩;obtain ⟨⟨k',c⟩,hp,hp2⟩:=List.mem_map.1 hm;simp only at hp2;subst hp2;rw [qf9 this hp]at hnV;cases hnV
    ·simp only [qw]at hx;by_cases e:t=q
     ·rw [if_pos e]at hx;cases hx;rfl
     ·rw [if_neg e]at hx;refine hs.M.mp s.L.length q x ?_ hlt;unfold qdS;rw [qcG,if_pos rfl];exact hx
   have hfv:RV (.fn hh first cap) (.fn hh first' cap'):=by grind [RV]
   have hyl:RVL [.yld ⟨st.L.length,t⟩] [.yld ⟨s.L.length,t⟩]:=by grind [qv,q5,RV]
   obtain ⟨v,st2,u,s2,hk,hev,_,hR2,hF2,hE2,hE2',_⟩:=qs2 hT hO hfv hyl hR1 h;simp only at hk hE2 hE2';split at hk
   ·rename_i hcond;simp only [qe]at hcond;obtain ⟨hok,hfull⟩:=hcond;have hlen2:=hR2.len;have hlen3:s2.L.length=s.L.length:=hF2.len;have hcl:∀q,RB (qU (qau [t] st2.B) q) (qw (qS [t] s2.B) q):=λq=>by
     rw [qfq,qaz];by_cases e : [t].contains q=true
     ·rw [if_pos e,if_pos e];rfl
     ·rw [if_neg e,if_neg e];exact hR2.M.last q
    have hM3:LR (st2.L++[qau [t] st2.B]) (s2.L++[qS [t] s2.B]):=by
     refine LR.qDz hR2.M hcl ((hR2.M.nd s2.B (by simp [qdS])).sublist ((qlz [t] s2.B).map _)) (λq x hx hlt=>?_);rw [qaz]at hx;split at hx
     ·cases hx
     ·refine hR2.M.mp s2.L.length q x ?_ hlt;unfold qdS;rw [qcG,if_pos rfl];exact hx
    have hokV:qdk s.L.length [t] (qnl (qS [t] s2.B))=true:=by
     grind [List.all_eq_true,qAH,qdk]
    have hvB:∀{x pe g3 env3 ps3 as3 bo3},qU st2.B t=some (some [.lp x pe g3 env3 ps3 as3 bo3])->∃env3',qw s2.B t=some [.lp x pe g3 env3' ps3 as3 bo3]:=λhl=>by
     have:=hR2.M.last t;rw [hl]at this;obtain ⟨c',h1,env',rfl,_⟩:=this;exact ⟨env',h1⟩
    have hrest:Rst {st2 with B:=qau [t] st2.B,Wb:=st.Wb++st2.Wb.filter (λq=>!decide (q=⟨st.L.length,t⟩))} {s with L:=s2.L,B:=qS [t] s2.B}/\Fr2 st {st2 with B:=qau [t] st2.B,Wb:=st.Wb++st2.Wb.filter (λq=>!decide (q=⟨st.L.length,t⟩))} s {s with L:=s2.L,B:=qS [t] s2.B}:=by
     refine ⟨⟨by have:=hR2.E;grind,hM3⟩,⟨λx hx=>hF2.wt x hx,λx hx=>by simp [hx],λx hx=>.inl rfl,λx hx rs hr=>⟨rs,by rw [<- hE2];exact hr⟩,λq hq=>?_,λq hq hsm=>?_,hlen3,rfl⟩⟩
     ·have eB:∀q:Root,q≠⟨st.L.length,t⟩->({s with L:=s2.L,B:=qS [t] s2.B}:St).box q=s2.box q:=λq hq=>by
       rw [qP,qP];unfold qdS;rw [qcG,qcG];by_cases e:q.lvl=s2.L.length
       ·rw [if_pos e,if_pos e,qaz,if_neg];intro hc;simp only [List.contains_cons,List.contains_nil,Bool.or_false,beq_iff_eq]at hc;exact hq (by cases q;grind)
       ·rw [if_neg e,if_neg e]
      have eS:∀q:Root,q≠⟨st.L.length,t⟩->({s with B:=(t,[.lp .ready none f (s.E.map V.q6) (t::ts) asz bo])::s.B}:St).box q=s.box q:=λq hq=>by
       rw [qP,qP];unfold qdS;rw [qcG,qcG];by_cases e:q.lvl=s.L.length
       ·rw [if_pos e,if_pos e];simp only [qw];rw [if_neg];intro hc;exact hq (by cases q;grind)
       ·rw [if_neg e,if_neg e]
      by_cases e:q=⟨st.L.length,t⟩
      ·simp_all [qP,qcG,if_pos,qaz,qdS]
      ·have hq2:q∉st2.Wb:=λhm=>hq (by
        grind)
       rw [eB q e];rcases hF2.b q hq2 with h9|⟨h9,h10,h11,h12⟩
       ·left;rw [h9,eS q e]
       ·right
        refine ⟨h9,?_,by rw [h11,eS q e],h12⟩;rw [qaO]at h10 ⊢;unfold TSt.all at h10 ⊢;rw [qgb]at h10 ⊢;by_cases e2:q.lvl=st.L.length
        ·simp only [e2,if_true,qU]at h10 ⊢;grind
        grind
     ·by_cases e:q=⟨st.L.length,t⟩
      ·simp_all [qaO,qgb,if_pos,TSt.all]
      ·have hq2:q∉st2.Wb:=λhm=>hq (by
        grind)
       have i1:=hF2.bn q hq2 (by
        rw [qaO]at hsm ⊢;unfold TSt.all at hsm ⊢;rw [qgb]at hsm ⊢;by_cases e2:q.lvl=st.L.length
        ·simp only [e2,if_true,qU]at hsm ⊢;grind
        grind)
       rw [qaO]at i1 ⊢;unfold TSt.all at i1 ⊢;rw [qgb]at i1 ⊢;by_cases e2:q.lvl=st2.L.length
       ·simp only [e2,if_true]at i1 ⊢;rw [qfq,if_neg]
        ·exact i1
        ·intro hc;simp only [List.contains_cons,List.contains_nil,Bool.or_false,beq_iff_eq]at hc;exact e (by cases q;grind)
       grind
    have hnV':(qw s.B t).isNone=true:=by rw [hnV];rfl
    split at hk
    ·rename_i hl;obtain ⟨env3',hb⟩:=hvB hl;exact ⟨.normal,_,_,hev.imp λC ⟨hC,_⟩=>by simp only [ex,hV,hps,hnV',if_true,hC,hokV,hb],hrest.1,hrest.2,hk⟩
    ·rename_i hl;obtain ⟨env3',hb⟩:=hvB hl;exact ⟨.ret,_,_,hev.imp λC ⟨hC,_⟩=>by simp only [ex,hV,hps,hnV',if_true,hC,hokV,hb],hrest.1,hrest.2,hk⟩
    ·rename_i id _ _ _ _ _ hl;obtain ⟨env3',hb⟩:=hvB hl;exact ⟨.exit _,_,_,hev.imp λC ⟨hC,_⟩=>by simp only [ex,hV,hps,hnV',if_true,hC,hokV,hb],hrest.1,hrest.2,hk⟩
    ·cases hk
   ·cases hk
  ·cases h
 ·cases h
theorem qp3(hT:TOk P H lib T)(hO:OOk P H lib O):∀(c:Code) (bid:Nat),Snd (tx P H J T O ctx f bid c) (qBB P H lib f bid c)
 |.skip,bid=>λst R k r s h hs=>⟨.normal,st,s,.of λC=>rfl,hs,Fr2.refl _ _,h⟩
 |.ret,bid=>λst R k r s h hs=>⟨.ret,st,s,.of λC=>rfl,hs,Fr2.refl _ _,h⟩
 |.exit id,bid=>λst R k r s h hs=>⟨.exit id,st,s,.of λC=>rfl,hs,Fr2.refl _ _,h⟩
 |.seq a b,bid=>λst R k r s h hs=>by
  simp only [tx]at h;obtain ⟨e,st1,s1,hev,hR,hF,hk⟩:=qp3 hT hO a bid st _ _ r s h hs;cases e with
  |normal =>
   obtain ⟨e2,st2,s2,hev2,hR2,hF2,hk2⟩:=qp3 hT hO b bid st1 _ _ r s1 hk hR;exact ⟨e2,st2,s2,(hev.and hev2).imp λC hC=>by simp_all [ex],hR2,hF.trans hF2,hk2⟩
  |exit id=>exact ⟨.exit id,st1,s1,hev.imp λC hC=>by grind [ex],hR,hF,hk⟩
  |ret=>exact ⟨.ret,st1,s1,hev.imp λC hC=>by grind [ex],hR,hF,hk⟩
 |.cond c a b,bid=>λst R k r s h hs=>by
  simp only [tx]at h;refine qnE (rel:=qBB P H lib f bid (.cond c a b)) ?_ _ st R k r s h hs;intro st R k r s h hs;have hr:=qCD (H:=H) (f:=f) (o:=default) hs.E c;simp only at h;split at h
  ·rename_i o t ht;rw [ht]at hr;simp only [RV,RTy]at hr;cases t with
   |true =>
    obtain ⟨e2,st2,s2,hev2,hR2,hF2,hk2⟩:=qp3 hT hO a bid st _ _ r s h hs;exact ⟨e2,st2,s2,hev2.imp λC hC=>by simp_all [if_true,ex],hR2,hF2,hk2⟩
   |false =>
    obtain ⟨e2,st2,s2,hev2,hR2,hF2,hk2⟩:=qp3 hT hO b bid st _ _ r s h hs;exact ⟨e2,st2,s2,hev2.imp λC hC=>by simp_all [qf,if_false,ex],hR2,hF2,hk2⟩
  ·cases h
 |.block id c,bid=>λst R k r s h hs=>by
  simp only [tx]at h;refine qnE (rel:=qBB P H lib f bid (.block id c)) ?_ _ st R k r s h hs;intro st R k r s h hs;obtain ⟨e,st1,s1,hev,hR,hF,hk⟩:=qp3 hT hO c id st _ _ r s h hs;cases e with
  |exit i =>
   simp only at hk;split at hk
   ·rename_i hi;exact ⟨.normal,st1,s1,hev.imp λC hC=>by simp_all [if_true,ex],hR,hF,hk⟩
   ·rename_i hi;exact ⟨.exit i,st1,s1,hev.imp λC hC=>by simp_all [if_false,ex],hR,hF,hk⟩
  |normal=>exact ⟨.normal,st1,s1,hev.imp λC hC=>by simp only [ex,hC],hR,hF,hk⟩
  |ret=>exact ⟨.ret,st1,s1,hev.imp λC hC=>by simp only [ex,hC],hR,hF,hk⟩
 |.region id ops draw,bid=>λst R k r s h hs=>by
  simp only [tx]at h;refine qnE (rel:=qBB P H lib f bid (.region id ops draw)) ?_ _ st R k r s h hs;intro st R k r s h hs;simp only [qui,qyf]at h;cases hpre:qEI (H.pre f id) st with
  |none=>grind
  |some sta =>
  rw [hpre]at h;simp only at h;obtain ⟨sa,hcl,hs,hf0⟩:=qEe hs hpre;cases hnt:qij H ops draw with
  |some p =>
   obtain ⟨F,t,e,d⟩:=p;rw [hnt]at h;simp only at h;split at h
   ·rename_i hlt;obtain ⟨hR0,hF0⟩:=qh3 hs (some e) (qco []);obtain ⟨st1,s1,hk,hts,hR,hF⟩:=qC7 hR0 h;have hlt':e<sa.E.length:=by rw [hs.E.length,qj3];exact hlt
    exact ⟨.normal,st1,s1,.of λC=>by simp_all [if_pos,qi,ex],hR,(hf0.trans hF0).trans hF,hk⟩
   ·cases h
  |none =>
  rw [hnt]at h;simp only at h;cases hls:qxU H f ops with
  |true =>
   rw [hls]at h;simp only [if_true]at h;split at h
   ·rename_i hok;obtain ⟨st1,s1,fps,fpv,hk,hev,hR,hF,_,hcov⟩:=qkk hT hO _ sta sa none [] hs qqu h;split at hk
    ·rename_i hnc;refine ⟨.normal,st1,s1,hev.imp λC hC=>?_,hR,hf0.trans hF,hk⟩;have hnc':(!draw||qhQ (H.pairs f id) fpv)=true:=by
      simp only [Bool.or_eq_true]at hnc ⊢;grind [qtX]
     simp_all [if_true,ex]
    ·cases hk
   ·cases h
  |false =>
  rw [hls]at h;simp only [qf,if_false]at h;split at h
  ·rename_i hd;split at h
   ·rename_i hok;split at h
    ·rename_i hU;obtain ⟨st1,s1,hk,hev,hR,hF⟩:=qnw hT hO _ sta sa hs h;rw [hU]at hok;exact ⟨.normal,st1,s1,hev.imp λC hC=>by simp_all [qpG,qf,if_false,if_true,qi,ex],hR,hf0.trans hF,hk⟩
    ·rename_i U hU;obtain ⟨st1,s1,fps,fpv,hk,hev,hR,hF,_,hcov⟩:=qoe hT hO _ sta sa [] hs h;split at hk
     ·rename_i hnc;have hnc':=qtX hcov hnc;refine ⟨.normal,st1,s1,hev.imp λC hC=>?_,hR,hf0.trans hF,hk⟩;simp only [ex,hcl,hnt,qpG,hls,qf,if_false,hd,if_true,hok];cases hp:H.pairs f id with
      |nil=>exact absurd hp (by simpa using hU)
      |cons u U' =>
       rw [hp]at hnc';simp only [hC,hnc',if_true]
     ·cases hk
   ·cases h
  ·rename_i hd;obtain ⟨st1,s1,hk,hev,hR,hF⟩:=qnw hT hO _ sta sa hs h;exact ⟨.normal,st1,s1,hev.imp λC hC=>by simp_all [qf,if_false,if_neg,ex],hR,hf0.trans hF,hk⟩
 |.loop c,bid=>λst R k r s h hs=>by
  simp only [tx]at h;split at h
  ·rename_i j hj;split at h
   ·rename_i hf;obtain ⟨x0,hx0,h⟩:=qd.1 h;obtain ⟨n,hn⟩:=qiy h;obtain ⟨h1,h2⟩:=qCU hs hf hx0;exact qAf (qp3 hT hO c bid) hs n x0 s h1 h2 hn
   ·cases h
  ·split at h
   ·rename_i st1 hcl;obtain ⟨s1,hv1,hs1,hf1⟩:=qiq hs hcl;obtain ⟨e,st2,s2,hev,hR,hF,hk⟩:=qp3 hT hO c bid st1 _ _ r s1 h hs1;cases e with
    |normal =>
     obtain ⟨e3,st3,s3,hev3,hR3,hF3,hk3⟩:=hO.code ctx f bid (.loop c) st2 _ _ r s2 hk hR;exact ⟨e3,st3,s3,(hev.and hev3).imp λC hC=>by simp_all [ex],hR3,(hf1.trans hF).trans hF3,hk3⟩
    |exit id=>exact ⟨.exit id,st2,s2,hev.imp λC hC=>by simp_all [ex],hR,hf1.trans hF,hk⟩
    |ret=>exact ⟨.ret,st2,s2,hev.imp λC hC=>by simp_all [ex],hR,hf1.trans hF,hk⟩
   ·cases h
 |.rangeFunc ..,bid=>λst R k r s h hs=>qCC hT hO h hs
 |.scope _,bid=>λst R k r s h hs=>by simp [tx]at h
 |.label _,bid=>λst R k r s h hs=>by simp [tx]at h
 |.goto _,bid=>λst R k r s h hs=>by simp [tx]at h
 |.refuse _,bid=>λst R k r s h hs=>by simp [tx]at h
end
section
variable {P:Program} {H:Hints} {J:TH} {T:qsM} {O:TOrc} {lib:FuncId->Option (List V->Option V)} {f:FuncId} {ctx:List Tmp}
theorem qgu{st:TSt}{s:St}(hs:Rst st s):∀(l:List ResultVar) (rs:List TV),qfC (l.map (qjY P st))=some rs->∃rs',qfR (l.map (qdq P s))=some rs'/\RVL rs rs'
 |[],rs,h=>by simp only [List.map_nil,qfC,qb]at h;subst h;exact ⟨[],rfl,q5⟩
 |v::l,rs,h=>by
  simp only [qh]at h;cases h1:qjY P st v with
  |none=>simp_all [qfC]
  |some x =>
   rw [h1]at h;simp only [qfC]at h;obtain ⟨rs0,h2,rfl⟩:=qc.1 h;obtain ⟨rs',h3,hr⟩:=qgu hs l rs0 h2;have:∃u,qdq P s v=some u/\RV x u:=by
    cases v with
    |tmp t =>
     simp only [qjY,qb]at h1;subst h1;exact ⟨_,rfl,qxT hs.E t⟩
    |cell a t =>
     simp only [qjY]at h1;split at h1
     ·rename_i r off hE;have hg:=qxT hs.E a;rw [hE]at hg;simp only [RV]at hg;split at h1
      ·rename_i cs hcs;split at h1
       ·rename_i hsl;obtain ⟨cs',hcs',hc⟩:=hs.box hcs;obtain ⟨u,hu,hr⟩:=qdN h1 (hc.drop off);refine ⟨u,?_,hr⟩;have hlp:=qe1 (qaD hc) (hs.M.mp r.lvl r.slot cs' (by simp_all [qP]) hsl)
        simp_all [qf,if_false,qdq]
       grind
      grind
     grind
   grind [qv,qh,qi,qfR]
theorem qlw{st:TSt}{s:St}(hs:Rst st s):∀(l:List ResultVar) (ks:List (Bool×Nat×Nat)),qlv (l.map (qgl st))=some ks->l.map (qL s)=ks
 |[],ks,h=>by simp_all [List.map_nil,qb,qlv]
 |v::l,ks,h=>by
  simp only [qh]at h;cases h1:qgl st v with
  |none=>rw [h1]at h;simp [qlv]at h
  |some x =>
   rw [h1]at h;simp only [qlv]at h;obtain ⟨ks0,h2,rfl⟩:=qc.1 h;have:qL s v=x:=by
    cases v with
    |tmp t=>simp only [qgl,qb]at h1;subst h1;rfl
    |cell a t =>
     simp only [qgl]at h1;split at h1
     ·rename_i r off hE;have hg:=qxT hs.E a;rw [hE]at hg;simp only [RV]at hg;cases h1;simp only [qL,hg]
     ·cases h1
   simp only [qh,this,qlw hs l ks0 h2]
theorem qla:∀{rs:List TV} {rs':List V},RVL rs rs'->RV (qaR rs) (packed rs')
 |[],rs',h=>by simp_all [RVL,qaR,packed,RV]
 |[x],rs',h=>by obtain ⟨v,rfl,hv⟩:=qds h;exact hv
 |x::y::rs,rs',h=>by
  have h0:=h;simp only [RVL]at h;obtain ⟨v,m,rfl,_,v2,m2,rfl,_,_⟩:=h
  simp_all [qaR,packed,RV]
theorem qEh(hT:TOk P H lib T)(hO:OOk P H lib O){args:List TV}{M:List qG}{R:Type}{k:TV->List qG->List Root->Option R}{r:R}{vs:List V}{M':List Level}
  (h:runT P H J T O ctx f args M R k=some r) (ha:RVL args vs) (hM:LR M M') :
  ∃x N wb v N',k x N wb=some r/\RV x v/\LR N N'/\N.length=M.length/\(∀l sl,(⟨l,sl⟩:Root)∉wb->qaq N' l sl=qaq M' l sl/\∀c,qak M l sl=some (some c)->∃c',qak N l sl=some (some c'))/\J.lib f=false/\Ev (λC=>qEJ P H C f vs M'=some (v,N')) P H lib:=by
 unfold runT at h;split at h
 ·cases h
 ·rename_i qxW;split at h
  ·rename_i fn hfn;split at h
   ·rename_i c hbody;have hE:RVL (Env.qhf args fn.ntmps).toL (vs++List.replicate (fn.ntmps-vs.length) .undef):=by
     rw [qmp,ha.length];exact ha.append (RVL.replicate (qco []) _)
    have h0:Rst {E:=Env.qhf args fn.ntmps,L:=M,B:=[],Wt:=.empty,Wb:=[]} {E:=vs++List.replicate (fn.ntmps-vs.length) .undef,L:=M',B:=[]}:=⟨hE,hM.init⟩
    have hsnd:Snd (λst R k=>tx P H J T O ctx f 0 c st R λe st=>match e with
     |.normal=>k .normal st
     |.ret=>k .normal st
     |_=>none) (λs e s'=>e=.normal/\Ev (λC=>∃e,(e=.normal\/e=.ret)/\ex P H C f 0 c s=some (e,s')) P H lib):=by
     intro st R k r s h hs;obtain ⟨e,st1,s1,hev,hR,hF,hk⟩:=qp3 hT hO c 0 st _ _ r s h hs;cases e with
     |normal=>exact ⟨.normal,st1,s1,⟨rfl,hev.imp λC hC=>⟨.normal,.inl rfl,hC⟩⟩,hR,hF,hk⟩
     |ret=>exact ⟨.normal,st1,s1,⟨rfl,hev.imp λC hC=>⟨.ret,.inr rfl,hC⟩⟩,hR,hF,hk⟩
     |exit id=>cases hk
    obtain ⟨e,st1,s1,⟨_,hev⟩,hR,hF,hk⟩:=qnE hsnd _ _ _ _ _ _ h h0;split at hk
    ·rename_i rs ks hrs hks;have hlen:=hR.len;have hlen2:=hF.len;have hML:=hM.len;simp only at hlen2;have frame:∀l sl,(⟨l,sl⟩:Root)∉st1.Wb->qaq s1.L l sl=qaq M' l sl/\∀c,qak M l sl=some (some c)->∃c',qak st1.L l sl=some (some c'):=λl sl hl=>by
      refine ⟨?_,λc hc=>?_⟩
      ·by_cases e:l<s1.L.length
       ·rcases hF.b ⟨l,sl⟩ hl with this|⟨h9,_⟩
        ·simp_all [qP,qg,qaq,qdS]
        ·simp only at h9;omega
       grind [List.getElem?_eq_none,qaq]
      ·have hlt:l<M.length:=by
        grind [qm,qak]
       have hbx:(({E:=Env.qhf args fn.ntmps,L:=M,B:=[],Wt:=.empty,Wb:=[]}:TSt).cont ⟨l,sl⟩).isSome=true:=by
        grind [qaO,qg,qak,TSt.all]
       obtain ⟨c',hc'⟩:=Option.isSome_iff_exists.1 (hF.bn ⟨l,sl⟩ hl hbx);have h10:=qec hc'
       simp_all [qg,qak,TSt.all]
     split at hk
     ·rename_i hc;simp only [qe]at hc;obtain ⟨⟨hkn,hpt⟩,hko⟩:=hc;obtain ⟨rs',hrs',hrr⟩:=qgu hR _ _ hrs;have hkeys:=qlw hR _ _ hks;have hpeq:=RVL.ptrs_eq _ _ hkn hrr;refine ⟨_,_,_,packed (if M'.isEmpty&&!ownsL rs' then reflagL qit rs' else rs'),s1.L,hk,?_,hR.M.front,by omega,frame,by simpa using qxW,hev.imp ?_⟩
      ·split
       ·exact qla (RVL.qpV qtf rfl _ _ hrr)
       ·exact qla hrr
      ·rintro C ⟨e,he,hC⟩
       simp_all [if_pos,qe,qEJ]
     ·split at hk
      ·rename_i hc;simp only [qe,Bool.not_eq_true']at hc;obtain ⟨⟨⟨hkn,hem⟩,hko⟩,hpt⟩:=hc;split at hk
       ·rename_i xs hxs;split at hk
        ·rename_i hc2;simp only [qe]at hc2;obtain ⟨hkx,hpx⟩:=hc2;obtain ⟨rs',hrs',hrr⟩:=qgu hR _ _ hrs;have hkeys:=qlw hR _ _ hks;have hpeq:=RVL.ptrs_eq _ _ hkn hrr;obtain ⟨us,hus,hru⟩:=peekTL_ok (bt:=st1.box) (bx:=s1.box) (λr c hc=>by
          obtain ⟨c',h1,h2⟩:=hR.box hc;exact ⟨c',h1,h2,λhlt=>hR.M.mp r.lvl r.slot c' (by rw [<- qP];exact h1) hlt⟩) _ _ _ hxs hrr
         have hpu:=RVL.ptrs_eq _ _ hkx hru;have hem':M'.isEmpty=true:=by
          grind
         refine ⟨_,_,_,packed us,s1.L,hk,qla hru,hR.M.front,by omega,frame,by simpa using qxW,hev.imp ?_⟩;rintro C ⟨e,he,hC⟩;unfold qEJ;grind
        ·cases hk
       ·cases hk
      ·cases hk
    ·cases hk
   ·cases h
  ·cases h
theorem qo8:∀{rs:List TV},onlyMapsTL rs=true->(qaR rs).onlyMaps=true
 |[],_=>rfl
 |[x],h=>by simp_all [qaR,onlyMapsTL]
 |x::y::l,h=>by simp_all [qaR,TV.onlyMaps]
theorem qzo(hT:TOk P H lib T)(hO:OOk P H lib O){args:List TV}{R:Type}{k:TV->TV->Option R}{r:R}{vs:List V}
  (h:qzn P H J T O ctx f args R k=some r) (ha:RVL args vs) :
  ∃x τ o l v sl,k x (.t (.mset τ) o l)=some r/\qfX τ=true/\RV x v/\x.onlyMaps=true/\Ev (λC=>qzm P H C f vs=some (v,sl,kvs τ l)) P H lib:=by
 unfold qzn at h;split at h
 ·cases h
 ·split at h
  ·rename_i fn hfn;split at h
   ·rename_i c hbody;have hE:RVL (Env.qhf args fn.ntmps).toL (vs++List.replicate (fn.ntmps-vs.length) .undef):=by
     rw [qmp,ha.length];exact ha.append (RVL.replicate (qco []) _)
    have hM0:LR [] []:=⟨rfl,λl s=>by simp [qak,qaq,RB],by simp,λl s c h=>by simp [qaq]at h⟩
    have h0:Rst {E:=Env.qhf args fn.ntmps,L:=[],B:=[],Wt:=.empty,Wb:=[]} {E:=vs++List.replicate (fn.ntmps-vs.length) .undef,L:=[],B:=[]}:=⟨hE,hM0.init⟩
    obtain ⟨e,st1,s1,hev,hR,hF,hk⟩:=qp3 hT hO c 0 _ _ _ r _ h h0;have key:(match qfC (fn.results.toList.map (qjY P st1))with
     |some rs=>match peekTL st1.box rs with
      |some xs=>match ptrsTL xs with
       |[q]=>if q.lvl=0 then (match st1.box q with
        |some [.t (.mset τ) o l]=>if knownL xs&&onlyMapsTL xs then k (qaR xs) (.t (.mset τ) o l)else none
        |_=>none)else none
       |_=>none
      |none=>none
     |none=>none)=some r/\(e=.normal\/e=.ret):=by
     cases e with
     |normal=>exact ⟨hk,.inl rfl⟩
     |ret=>exact ⟨hk,.inr rfl⟩
     |exit id=>cases hk
    obtain ⟨hk2,he⟩:=key;split at hk2
    ·rename_i rs hrs;split at hk2
     ·rename_i xs hxs;split at hk2
      ·rename_i q hq;split at hk2
       ·rename_i hl0;split at hk2
        ·rename_i τ o l hbx;split at hk2
         ·rename_i hc;simp only [qe]at hc;obtain ⟨hkn,hom⟩:=hc;obtain ⟨rs',hrs',hrr⟩:=qgu hR _ _ hrs;obtain ⟨us,hus,hru⟩:=peekTL_ok (bt:=st1.box) (bx:=s1.box) (λr c hc=>by
           obtain ⟨c',h1,h2⟩:=hR.box hc;exact ⟨c',h1,h2,λhlt=>hR.M.mp r.lvl r.slot c' (by rw [<- qP];exact h1) hlt⟩) _ _ _ hxs hrr
          have hpeq:=RVL.ptrs_eq _ _ hkn hru;obtain ⟨c',hc',hcr⟩:=hR.box hbx;obtain ⟨v,rfl,hv⟩:=qds hcr;simp only [RV,RTy]at hv;obtain ⟨hkt,rfl⟩:=hv;have hom':=(rvl_adopt q _ _ hom hru).2;refine ⟨_,τ,o,l,packed us,q.slot,hk2,hkt,qla hru,qo8 hom,hev.imp λC hC=>?_⟩;unfold qzm;simp only [hfn,hbody,hC];rw [if_pos he,hrs'];simp only [hus,hpeq,hq];rw [if_pos hl0,hc'];simp only [hom',if_true];rfl
         ·cases hk2
        ·cases hk2
       ·cases hk2
      ·cases hk2
     ·cases hk2
    ·cases hk2
   ·cases h
  ·cases h
theorem qzy{x:TV}(h:x≠.val (.slice none 0 0)):x.qep=x:=by
 simp_all [TV.qep,absurd]
theorem qCK{x:TV}{v:V}(h:RV x v):RV x.qep v.qep:=by
 by_cases hv:v=.val (.slice none 0 0)
 ·subst hv;cases x with
  |any rs=>simp_all [RV,TV.qep,V.qep,V.qq,ptrsL,qae]
  |t τ o y=>cases τ<;>simp [RV,RTy]at h
  |val u =>
   grind [V.val.injEq,RV,TV.qep,V.qep,FlR,qaY]
  |_=>simp [RV]at h
 ·rw [qwB hv,qzy]
  ·exact h
  grind [RV]
theorem qut:∀{l:List TV} {m:List V},RVL l m->RVL (l.map TV.qep) (m.map V.qep)
 |[],m,h=>by simp_all [q5,RVL]
 |x::l,m,h=>by
  simp only [RVL]at h;obtain ⟨v,m',rfl,h1,h2⟩:=h;exact qv.2 ⟨qCK h1,qut h2⟩
theorem qFn{g:FuncId}{l:List TV}{m:List V}(h:RVL l m):RVL (dnT H g l) (dnA H g m):=by
 grind [qut,dnT,dnA]
theorem qxu(hT:TOk P H lib T)(hJ:∀g,J.lib g=false->lib g=none):∀n,OOk P H lib (qpE P H J T n)
 |0=>⟨λctx g args M R k r vs M' h=>by simp [qpE]at h,λctx f bid c st R k r s h=>by simp [qpE]at h,λctx g args R k r vs h=>by simp [qpE]at h⟩
 |n+1=>by
  have ih:=qxu hT hJ n;refine ⟨λctx g args M R k r vs M' h ha hM=>?_,λctx f bid c st R k r s h hs=>?_,λctx g args R k r vs h ha=>?_⟩
  rotate_right
  ·simp only [qpE]at h;obtain ⟨x,τ,o,l,v,sl,hk,hkt,hr,hom,hev⟩:=qzo hT ih h ha;refine ⟨x,τ,o,l,v,sl,hk,hkt,hr,hom,?_⟩;obtain ⟨n1,h1⟩:=hev;refine ⟨n1+1,λm hm=>?_⟩;obtain ⟨m',rfl⟩:∃m',m=m'+1:=⟨m-1,by omega⟩
   exact h1 m' (by omega)
  ·simp only [qpE]at h;obtain ⟨x,N,wb,v,N',hk,hr,hN,hlen,hfr,hl,hev⟩:=qEh hT ih h (qFn ha) hM;refine ⟨x,N,wb,v,N',hk,hr,hN,hlen,hfr,?_⟩;obtain ⟨n1,h1⟩:=hev;refine ⟨n1+1,λm hm=>?_⟩;obtain ⟨m',rfl⟩:∃m',m=m'+1:=⟨m-1,by omega⟩
   have:=h1 m' (by omega);simp only [qvH,hJ g hl];exact this
  ·simp only [qpE]at h;obtain ⟨e,st',s',hev,hR,hF,hk⟩:=qp3 hT ih c bid st _ _ r s h hs;refine ⟨e,st',s',?_,hR,hF,hk⟩;obtain ⟨n1,h1⟩:=hev;refine ⟨n1+1,λm hm=>?_⟩;obtain ⟨m',rfl⟩:∃m',m=m'+1:=⟨m-1,by omega⟩
   exact h1 m' (by omega)
def qav(P:Program)(H:Hints)(lib:FuncId->Option (List V->Option V))(e:Entry):Prop :=
 ∀x y,e.F x=some y->∀vs,RVL (qcI e.ps x) vs->∃v,qwp P H lib e.g vs [] v []/\RV (qgT e.rs y) v
theorem qxF{τ:Ty}{cs:List TV}{x:τ.den}{l':List V}(h:quY τ cs=some x)(hr:RVL cs l'):RVL (ofTy τ 1000 x).cells l':=by
 unfold quY at h;split at h
 ·rename_i h1;split at h
  ·rename_i c;obtain ⟨u,rfl,hu⟩:=qds hr;have h2:=rv_ofTy _ _ _ _ (qc5 _ _ _ _ _ h hu);have h3:(ofTy τ 1000 x).cells=[ofTy τ 1000 x]:=by cases τ<;>first|rfl|simp [Ty.one]at h1
   simp_all [qv,q5]
  ·cases h
 ·rename_i h1;have h2:=rv_ofTy _ _ _ _ (qc5 _ _ _ _ (.agg l') h (by simp_all [RV]));cases τ with
  |unit=>simp_all [ofTy,TV.cells,RV]
  |pair a b=>simp_all [ofTy,TV.cells,RV]
  |mset t=>simp [qg8]at h
  |_=>simp [Ty.one]at h1
theorem quZ{c:Cp}{w:TV}{x:c.den}{v:V}(h:qEE c w=some x)(hr:RV w v):RV (qFb c x) v:=by
 cases c with
 |v τ=>exact rv_ofTy _ _ _ _ (qc5 _ _ _ _ _ h hr)
 |p τ =>
  cases w<;>simp only [qEE]at h<;>try grind
  grind [qxF,qEE,RV,qFb]
theorem qwy:∀(cs:List Cp) (l:List TV) (x:denC cs) (l':List V),qsZ cs l=some x->RVL l l'->RVL (qCo cs x) l'
 |[],l,x,l',h,hr=>by
  grind [qCo,qsZ]
 |[c],l,x,l',h,hr=>by
  match l,h,hr with
  |[v],h,hr =>
   obtain ⟨u,rfl,h1⟩:=qds hr;exact qv.2 ⟨quZ h h1,q5⟩
  |[],h,hr=>simp [qsZ]at h
  |_::_::_,h,hr=>simp [qsZ]at h
 |c::q::ps,l,x,l',h,hr=>by
  match l,h,hr with
  |[],h,hr=>simp [qsZ]at h
  |v::l,h,hr =>
   simp only [qsZ]at h;obtain ⟨y,hy,h⟩:=qd.1 h;obtain ⟨z,hz,h⟩:=qd.1 h;simp only [qb]at h;subst h;simp only [RVL]at hr;obtain ⟨u,m,rfl,h1,h2⟩:=hr;exact qv.2 ⟨quZ hy h1,qwy (q::ps) l _ _ hz h2⟩
theorem qzi{p:Pm}{w:TV}{x:p.den}{v:V}(h:qEQ p w=some x)(hr:RV w v):RV (qyn p x) v:=by
 cases p with
 |ty τ=>exact rv_ofTy _ _ _ _ (qc5 _ _ _ _ _ h hr)
 |ptr τ=>exact quZ (c:=.p τ) h hr
 |fn g cs =>
  cases w<;>simp only [qEQ]at h<;>try grind
  grind [q5,qwy,qEQ,RV,RVL,qyn]
theorem qrs:∀(ps:List Pm) (l:List TV) (x:denP ps) (l':List V),qsY ps l=some x->RVL l l'->RVL (qcI ps x) l'
 |[],l,x,l',h,hr=>by
  grind [qcI,qsY]
 |[p],l,x,l',h,hr=>by
  match l,h,hr with
  |[v],h,hr =>
   obtain ⟨u,rfl,h1⟩:=qds hr;exact qv.2 ⟨qzi h h1,q5⟩
  |[],h,hr=>simp [qsY]at h
  |_::_::_,h,hr=>simp [qsY]at h
 |p::q::ps,l,x,l',h,hr=>by
  match l,h,hr with
  |[],h,hr=>simp [qsY]at h
  |v::l,h,hr =>
   simp only [qsY]at h;obtain ⟨y,hy,h⟩:=qd.1 h;obtain ⟨z,hz,h⟩:=qd.1 h;simp only [qb]at h;subst h;simp only [RVL]at hr;obtain ⟨u,m,rfl,h1,h2⟩:=hr;exact qv.2 ⟨qzi hy h1,qrs (q::ps) l _ _ hz h2⟩
theorem qDE:∀{l:List Entry},(∀e∈l,qav P H lib e)->TOk P H lib (qp1 l)
 |[],_=>λg args R k r vs h=>by simp [qp1]at h
 |e::l,he=>λg args R k r vs h ha=>by
  have ih:=qDE (l:=l) λe' h'=>he e' (by simp [h']);simp only [qp1]at h;split at h
  ·rename_i hg;subst hg;split at h
   ·rename_i x hx;obtain ⟨y,hy,hk⟩:=qd.1 h;obtain ⟨v,hev,hr⟩:=he e (by simp) x y hy vs (qrs _ _ _ _ hx ha);grind
   ·exact ih _ _ _ _ _ _ h ha
  ·exact ih _ _ _ _ _ _ h ha
theorem qx:TOk P H lib (qp1 []):=qDE (by simp)
theorem qn{e:Entry}{l:List Entry}(h:qav P H lib e)(h':TOk P H lib (qp1 l)):TOk P H lib (qp1 (e::l)):=λg args R k r vs hh ha=>by
 simp only [qp1]at hh;split at hh
 ·rename_i hg;subst hg;split at hh
  ·rename_i x hx;obtain ⟨y,hy,hk⟩:=qd.1 hh;obtain ⟨v,hev,hr⟩:=h x y hy vs (qrs _ _ _ _ hx ha);grind
  ·exact h' _ _ _ _ _ _ hh ha
 ·exact h' _ _ _ _ _ _ hh ha
theorem qBD{rs:List (Ty×Nat)}{x:TV}{y:denL (rs.map (·.1))}{v:V}(h:qzj rs x=some y)(hr:RV x v):RV (qgT rs y) v:=by
 match rs,y,h with
 |[p],y,h =>
  simp only [qzj]at h;have:=qww [p] [x] y [v] h (qv.2 ⟨hr,q5⟩);simp only [qgT];obtain ⟨τ,o⟩:=p;simp only [ofL]at this ⊢;exact (qv.1 this).1
 |[],y,h =>
  cases x<;>simp only [qzj]at h<;>try grind
  grind [qww,RV,qgT,ofL,qaR]
 |p::q::rs,y,h =>
  cases x<;>simp only [qzj]at h<;>try grind
  rename_i l _;simp only [RV]at hr;obtain ⟨l',rfl,hl⟩:=hr;have:=qww (p::q::rs) l y l' h hl;have hpk:∀m:List TV,2<=m.length->qaR m=.tuple m:=λm hm=>by
   match m,hm with
   |_::_::_,_=>rfl
  simp only [qgT];rw [hpk _ (by rw [qin _ _ _ h];have:=qin _ _ _ h;obtain ⟨τ,o⟩:=p;cases rs<;>simp [ofL]at this<;>omega)]
  simp_all [RV]
theorem qde(hT:TOk P H lib T)(hJ:∀g,J.lib g=false->lib g=none)(n:Nat)(g:FuncId)(ps:List Pm)(rs:List (Ty×Nat))(F:denP ps->Option (denL (rs.map (·.1))))
  (h:∀x,fnT P H J T n g (qcI ps x) rs=F x):qav P H lib ⟨g,ps,rs,F⟩:=by
 intro x y hy vs hvs;simp only at hy hvs;rw [<- h x]at hy;unfold fnT at hy;obtain ⟨w,N,wb,v,N',hk,hr,hN,hlen,_,hev⟩:=(qxu hT hJ n).call _ _ _ _ _ _ _ _ [] hy hvs ⟨rfl,λl s=>by simp [qak,qaq,RB],by simp,λl s c h=>by simp [qaq]at h⟩;have hN0:N=[]:=List.eq_nil_of_length_eq_zero (by omega);subst hN0;have hN0':N'=[]:=List.eq_nil_of_length_eq_zero (by rw [hN.len];rfl);grind [qBD]
theorem qqg(hm:P.follows .mixedOrders=true)(qcw:qke P H)
  (qxW:∀g h args r,lib g=some h->h args=some r->qan P g args [] r []) {e:Entry} (he:qav P H lib e) {x:denP e.ps} {y:denL (e.rs.map (·.1))} (h:e.F x=some y) {vs:List V} (hv:RVL (qcI e.ps x) vs) :
  ∃v,qan P e.g vs [] v []/\RV (qgT e.rs y) v:=by
 obtain ⟨v,⟨n,hev⟩,hr⟩:=he x y h vs hv;exact ⟨v,(qvI hm qcw qxW n).call _ _ _ _ _ (hev n (Nat.le_refl _)),hr⟩
end
end Go.Tx
end
section
namespace Go.Tx
open Go Go.Ab Go.RowKit Go.ChangeShapes Go.WideShapes Go.Deep
section
def Rng(N:Nat):(τ:Ty)->τ.den->Prop
 |.int k,n=>k.min<=n/\n<=k.max
 |.bool,_=>True
 |.str,s=>s.length<=N
 |.flt,_=>True
 |.cx,_=>True
 |.err,_=>True
 |.mset _,_=>True
 |.sl t,l=>l.length<=N/\∀e∈l,Rng N t e
 |.unit,_=>True
 |.pair a b,x=>Rng N a x.1/\Rng N b x.2
def qEL(N:Nat):(τs:List Ty)->denP (τs.map .ty)->Prop
 |[],_=>True
 |[τ],x=>Rng N τ x
 |τ::q::l,x=>Rng N τ x.1/\qEL N (q::l) x.2
def cx0(w:World):Cx:={β:=λ_=>none,ω:=λb=>match w.heap[b]? with
 |some (.cells c _ _)=>some (c.size,true)
 |_=>none}
structure Sm {H:Type} (N:Nat) (S:DataW H->Prop):Prop where
 slice:∀es sp,S (.slice es sp)->es.length<=maxLen->es.length<=N/\∀e∈es,S e
 agg:∀ps,S (.agg ps)->∀p∈ps,S p
 str:∀b,S (.lit (.string b))->b.length<=maxLen->b.length<=N
def qwq(N:Nat)(w:World)(τ:Ty)(v:Value):Prop:=∃y u,Rng N τ y/\RTy τ 1000 y u/\Rep w (cx0 w) u v []
section
variable (P:Program)
def okT:Nat->TypeId->Bool
 |0,_=>false
 |d+1,t=>decide (t<P.types.size)&&match P.underlying t with
  |some (.slice e)=>decide (P.cellsOf e≠0)&&((qbC P d e).map List.length==some (P.cellsOf e))&&okT d e
  |some (.struct fields)=>fields.toList.all λfd=>okT d fd.type
  |some (.array _ e)=>okT d e
  |some (.float _)|some (.complex _)=>false
  |_=>true
end
variable {H:Type} {enc:TypeId × Value->H} {P:Program} {w:World} {base:Nat} {held:Bool}
theorem glue{α β:Type}{R:α->β->Prop}:∀(css:List (List α)) (szs:List Nat) (vals:List β),css.length=szs.length->vals.length=szs.sum ->
  (∀(j:Nat) c s,css[j]?=some c->szs[j]?=some s->All2 R c ((vals.drop (szs.take j).sum).take s))->All2 R css.flatten vals
 |[],szs,vals,h1,h2,_=>by
  have:szs=[]:=List.eq_nil_of_length_eq_zero (by simpa using h1.symm);subst this;have:vals=[]:=List.eq_nil_of_length_eq_zero (by simpa using h2);subst this;exact .nil
 |c::css,[],vals,h1,_,_=>by simp at h1
 |c::css,s::szs,vals,h1,h2,h=>by
  have h0:=h 0 c s rfl rfl;simp only [List.take_zero,List.sum_nil,List.drop_zero]at h0;have hr:=glue css szs (vals.drop s) (by simpa using h1) (by simp only [List.length_drop,h2,List.sum_cons];omega) λj c' s' hc hs=>by
   have:=h (j+1) c' s' (by simpa using hc) (by simpa using hs);simpa [List.take_succ_cons,List.sum_cons,List.drop_drop]using this
  have:=h0.append hr;simpa [List.flatten_cons]using this
theorem qvJ{N:Nat}:∀(cs:List Ty) (vals:List Value),All2 (qwq N w) cs vals->∃(y:(cs.foldr Ty.pair .unit).den) (us:List V),Rng N _ y/\RTy (cs.foldr Ty.pair .unit) 1000 y (.agg us)/\RepL w (cx0 w) us vals []
 |[],vals,h=>by cases h;exact ⟨(),[],trivial,by simp [RTy],by simp [RepL]⟩
 |c::cs,vals,h=>by
  cases h with
  |cons h1 h2 =>
   obtain ⟨y,u,hy,hu,hr⟩:=h1;obtain ⟨ys,us,hys,hus,hrs⟩:=qvJ cs _ h2;refine ⟨(y,ys),u::us,⟨hy,hys⟩,?_,?_⟩
   ·simp only [List.foldr_cons,RTy];exact ⟨u,us,rfl,hu,hus⟩
   ·simp only [RepL];exact ⟨_,_,[],[],rfl,rfl,hr,hrs⟩
theorem qu2{d:Nat}{e:TypeId}{σ:Ty}(hc:qbC P d e=some [σ])(hs:∀fs,P.underlying e≠some (.struct fs))(ha:∀n q,P.underlying e≠some (.array n q)):σ.one=true:=by
 cases d with
 |zero=>simp [qbC]at hc
 |succ d =>
  simp only [qbC]at hc;split at hc
  ·cases hc;rfl
  ·cases hc;rfl
  ·cases hc;rfl
  ·cases hc;rfl
  ·cases hc;rfl
  ·split at hc
   ·cases hc;rfl
   ·cases hc;rfl
   ·cases hc;rfl
   ·cases hc
  ·rename_i fs hfs;exact absurd hfs (hs _)
  ·rename_i n e' hfs;exact absurd hfs (ha _ _)
  ·cases hc
def qEH(P:Program)(e:TypeId)(cs:List Ty):Option Ty:=match P.underlying e with
 |some (.struct _)=>some (cs.foldr Ty.pair .unit)
 |some (.array ..)=>some (cs.foldr Ty.pair .unit)
 |_=>match cs with
  |[τ]=>some τ
  |_=>none
theorem qDT{N:Nat}{d:Nat}{e:TypeId}{cs:List Ty}{τ:Ty}(hc:qbC P d e=some cs)(hτ:qEH P e cs=some τ){vals:List Value}(h:All2 (qwq N w) cs vals) :
  ∃(y:τ.den) (u:V) (v:Value),Rng N τ y/\RTy τ 1000 y u/\Rep w (cx0 w) u v []/\v.cells.toList=vals:=by
 have agg:τ=cs.foldr Ty.pair .unit->∃(y:τ.den) (u:V) (v:Value),Rng N τ y/\RTy τ 1000 y u/\Rep w (cx0 w) u v []/\v.cells.toList=vals:=by
  rintro rfl;obtain ⟨y,us,hy,hu,hr⟩:=qvJ cs vals h;exact ⟨y,.agg us,.agg vals.toArray,hy,hu,by simp only [Rep];exact ⟨vals,rfl,hr⟩,by simp [Value.cells]⟩
 unfold qEH at hτ;split at hτ
 ·cases hτ;exact agg rfl
 ·cases hτ;exact agg rfl
 ·rename_i hns hna;have hns':=hns;have hna':=hna;split at hτ
  ·cases hτ;have hone:=qu2 hc (λfs hh=>hns' fs hh) (λn q hh=>hna' n q hh)
   match vals,h with
   |v::_,.cons h1 .nil =>
    obtain ⟨y,u,hy,hu,hr⟩:=h1;refine ⟨y,u,v,hy,hu,hr,?_⟩;rw [qb5 (qjX (qAZ hone hu) hr)]
  ·cases hτ
theorem frozen0{b:Nat}{e:Nat}{fz:Bool}(h:(cx0 w).ω b=some (e,fz)):fz=true/\b<w.heap.size/\∃c t fr,w.heap[b]?=some (.cells c t fr)/\e=c.size:=by
 simp only [cx0]at h;split at h
 ·rename_i c t fr hc;cases h;exact ⟨rfl,(Array.getElem?_eq_some_iff.1 hc).1,c,t,fr,hc,rfl⟩
 ·cases h
theorem qly{a:Addr}{v:Value}(h:w.cell? a=some v):a.spot=none/\∃c t fr,w.heap[a.block]?=some (.cells c t fr)/\c[a.off]?=some v:=by
 unfold World.cell? at h;split at h
 ·rename_i c t fr hc;split at h
  ·cases h
  ·rename_i hs;exact ⟨by simpa using hs,c,t,fr,hc,h⟩
 ·cases h
theorem qA6{N:Nat}{τ:Ty}{b off len cap s:Nat}(hs:0<s)(hlc:len<=cap)(hcap:cap≠0)(hτ:τ.qbY=true)(hn:τ.qba=s)
  (hel:∀i,i<cap->∃vals:List Value,vals.length=s/\(∀j,j<s->w.cell? ⟨b,off+i*s+j,none⟩=vals[j]?)/\(i<len->∃(y:τ.den) (u:V) (v:Value),Rng N τ y/\RTy τ 1000 y u/\Rep w (cx0 w) u v []/\v.cells.toList=vals)) :
  ∃(l:List τ.den) (us:List V),l.length=len/\(∀y∈l,Rng N τ y)/\All2 (RTy τ 1000) l us/\Rep w (cx0 w) (.sl .shared false us) (.slice (some ⟨b,off,none⟩) len cap) []:=by
 have key:∀n,n<=len->∃(l:List τ.den) (us:List V) (vals:List Value),l.length=n/\(∀y∈l,Rng N τ y)/\All2 (RTy τ 1000) l us/\RepE w (cx0 w) s us vals []/\vals.length=n*s/\(∀j v,vals[j]?=some v->w.cell? ⟨b,off+j,none⟩=some v):=by
  intro n;induction n with
  |zero=>exact λ_=>⟨[],[],[],rfl,by simp,.nil,by simp [RepE],by simp,by simp⟩
  |succ n ih =>
   intro hle;obtain ⟨l,us,vals,h1,h2,h3,h4,h5,h6⟩:=ih (by omega);obtain ⟨vs,hvl,hvc,hy⟩:=hel n (by omega);obtain ⟨y,u,v,hry,hu,hr,hcv⟩:=hy (by omega);refine ⟨l++[y],us++[u],vals++vs,by simp [h1],?_,h3.append (.cons hu .nil),?_,by simp [h5,hvl,Nat.succ_mul],?_⟩
   ·intro z hz;simp only [qj,List.mem_singleton]at hz;rcases hz with hz|rfl
    ·exact h2 z hz
    ·exact hry
   ·have h7:RepE w (cx0 w) s [u] vs []:=by
     simp only [RepE];exact ⟨v,[],[],[],by simp [hcv],by rw [<- hvl,<- hcv];simp,rfl,hr,rfl,rfl⟩
    simpa using qgV h4 h7
   ·intro j v hj;by_cases hlt:j<vals.length
    ·rw [qg hlt]at hj;exact h6 j v hj
    ·rw [List.getElem?_append_right (by omega)]at hj;have hjs:=(qm.1 hj).1;have:=hvc (j-vals.length) (by omega);rw [hj]at this;rw [<- this];congr 2
     omega
 obtain ⟨l,us,vals,h1,h2,h3,h4,h5,h6⟩:=key len (Nat.le_refl _);refine ⟨l,us,h1,h2,h3,?_⟩;have hlen:=h3.length;have hcells:=qdC hτ h3
 obtain ⟨vs,hvl,hvc,_⟩:=hel 0 (by omega);have hc0:=hvc 0 (by omega);have hv0:∃v0,vs[0]?=some v0:=⟨vs[0]'(by omega),List.getElem?_eq_getElem (by omega)⟩
 obtain ⟨v0,hv0⟩:=hv0;rw [hv0]at hc0;obtain ⟨_,c,t,fr,hblk,hoff⟩:=qly hc0;simp only [Nat.zero_mul,Nat.add_zero]at hblk hoff;have hoff':=(Array.getElem?_eq_some_iff.1 hoff).1;simp only [Rep];refine ⟨qza h3,.inr ⟨b,off,cap,s,vals,[],?_,?_,by simp,?_,hs,?_,h6,⟨c.size,true,?_,?_,rfl⟩,h4,by simp,by simp⟩⟩
 ·rw [hlen,h1]
 ·rw [hlen,h1];exact hlc
 ·rw [hlen,h1];exact h5
 ·intro x hx;rw [(hcells x hx).1];exact hn
 ·simp only [cx0,hblk]
 ·by_cases h0:vals.length=0
  ·rw [h0];omega
  ·have:∃v1,vals[vals.length-1]?=some v1:=⟨vals[vals.length-1]'(by omega),List.getElem?_eq_getElem (by omega)⟩
   obtain ⟨v1,hv1⟩:=this;obtain ⟨_,c',t',fr',hblk',hoff1⟩:=qly (h6 _ _ hv1);simp only at hblk' hoff1;rw [hblk]at hblk';cases hblk'
   have:=(Array.getElem?_eq_some_iff.1 hoff1).1;omega
theorem qxM{d:Nat}{e:TypeId}{cs:List Ty}{τ:Ty}(hc:qbC P d e=some cs)(hτ:qEH P e cs=some τ)(hones:∀c∈cs,c.one=true):τ.qbY=true/\τ.qba=cs.length:=by
 have agg:∀cs:List Ty,(∀c∈cs,c.one=true)->(cs.foldr Ty.pair .unit).qpq=true/\(cs.foldr Ty.pair .unit).qbY=true/\(cs.foldr Ty.pair .unit).qba=cs.length:=by
  intro cs;induction cs with
  |nil=>intro _;exact ⟨rfl,rfl,rfl⟩
  |cons c cs ih =>
   intro h;obtain ⟨h1,_,h3⟩:=ih λc' hc'=>h c' (by simp [hc']);simp only [List.foldr_cons,Ty.qpq,Ty.qbY,Ty.qba,h c (by simp),h1,h3,Bool.and_self,List.length_cons];exact ⟨trivial,trivial,trivial⟩
 unfold qEH at hτ;split at hτ
 ·cases hτ;exact ⟨(agg cs hones).2.1,(agg cs hones).2.2⟩
 ·cases hτ;exact ⟨(agg cs hones).2.1,(agg cs hones).2.2⟩
 ·split at hτ
  ·cases hτ;have h1:=hones τ (by simp);cases τ<;>first|exact ⟨rfl,rfl⟩|simp [Ty.one]at h1
  ·cases hτ
theorem qnF{α β:Type}{g:α->Option β}:∀{l:List α} {r:List β},l.mapM g=some r->r.length=l.length/\∀(i:Nat) (a:α),l[i]?=some a->∃b,r[i]?=some b/\g a=some b
 |[],r,h=>by simp at h;subst h;exact ⟨rfl,by simp⟩
 |a::l,r,h=>by
  simp only [List.mapM_cons,Option.bind_eq_bind,qd]at h;obtain ⟨b,hb,r',hr',h⟩:=h;cases h;obtain ⟨h1,h2⟩:=qnF hr';refine ⟨by simp [h1],λi x hi=>?_⟩;cases i with
  |zero=>simp at hi;subst hi;exact ⟨b,rfl,hb⟩
  |succ n=>obtain ⟨c,hc,hg⟩:=h2 n x (by simpa using hi);exact ⟨c,by simpa using hc,hg⟩
theorem qfE:∀(d:Nat) (t:TypeId) (cs:List Ty),qbC P d t=some cs->∀c∈cs,c.one=true
 |0,t,cs,h=>by simp [qbC]at h
 |d+1,t,cs,h=>by
  simp only [qbC]at h;split at h
  ·cases h;simp [Ty.one]
  ·cases h;simp [Ty.one]
  ·cases h;simp [Ty.one]
  ·cases h;simp [Ty.one]
  ·cases h;simp [Ty.one]
  ·split at h
   ·cases h;simp [Ty.one]
   ·cases h;simp [Ty.one]
   ·cases h;simp [Ty.one]
   ·cases h
  ·rename_i fields _;obtain ⟨css,hcss,rfl⟩:=qc.1 h;obtain ⟨h1,h2⟩:=qnF hcss;intro c hc;obtain ⟨q,hq,hcq⟩:=List.mem_flatten.1 hc;obtain ⟨i,hi⟩:=List.mem_iff_getElem?.1 hq;have hlt:i<fields.toList.length:=by have:=(qm.1 hi).1;omega
   obtain ⟨b,hb,hg⟩:=h2 i _ (List.getElem?_eq_getElem hlt);rw [hi]at hb;cases hb;exact qfE d _ _ hg c hcq
  ·obtain ⟨q,hq,rfl⟩:=qc.1 h;intro c hc;obtain ⟨q',hq',hcq⟩:=List.mem_flatten.1 hc;obtain ⟨_,rfl⟩:=List.mem_replicate.1 hq';exact qfE d _ _ hq c hcq
  ·cases h
end
section
variable {H:Type} {enc:TypeId × Value->H} {P:Program} {w:World} {base:Nat} {held:Bool}
theorem qv3{d:Nat}{e:TypeId}{cs1 cs:List Ty}(hc:qbC P d e=some cs1)(h:(match qbC P d e,P.underlying e with
   |some cs,some (.struct _)=>some [Ty.sl (cs.foldr .pair .unit)]
   |some cs,some (.array ..)=>some [.sl (cs.foldr .pair .unit)]
   |some [τ],_=>some [.sl τ]
   |_,_=>none)=some cs):∃τ,cs=[.sl τ]/\qEH P e cs1=some τ:=by
 rw [hc]at h;unfold qEH;cases hu:P.underlying e with
 |none=>rw [hu]at h;simp only at h ⊢;split at h<;>simp_all
 |some dd =>
  rw [hu]at h;cases dd<;>simp only at h ⊢<;>first|(simp only [qb]at h;exact ⟨_,h.symm,rfl⟩)|(split at h<;>simp_all)
theorem qAS{X:Cx}:Rep w X (.sl .shared false []) (.slice none 0 0) []:=by simp [Rep,ptrsL]
theorem qAU{X:Cx}(a:Addr):Rep w X (.sl .shared false []) (.slice (some a) 0 0) []:=by simp [Rep,ptrsL]
theorem qiE(hl:laidOutB P=true){N:Nat}{S:DataW H->Prop}(hS:Sm N S):∀(d:Nat) (t:TypeId) (cs:List Ty),qbC P d t=some cs->okT P d t=true->∀(fuel:Nat) (vals:List Value) (x:DataW H×List MemPlace),S x.1 ->
  DataW.trod enc P w base (λ_=>true) held fuel t vals=some x->All2 (qwq N w) cs vals
 |0,t,cs,hc,_,fuel,vals,x,hx,h=>by simp [qbC]at hc
 |d+1,t,cs,hc,hok,fuel,vals,x,hx,h=>by
  simp only [qbC]at hc;simp only [okT,qe,decide_eq_true_eq]at hok;split at hc
  ·rename_i k hu;cases hc;obtain ⟨n,rfl,rfl,hwf⟩:=DataW.trod_int hu h;refine .cons ⟨n,.val (.int k n),?_,by simp [RTy],by simp [Rep]⟩ .nil;simp only [Rng];simp only [Lit.wf,qe,decide_eq_true_eq]at hwf;exact hwf
  ·rename_i hu;cases hc;obtain ⟨b,rfl,rfl⟩:=DataW.trod_bool hu h;exact .cons ⟨b,.val (.bool b),trivial,by simp [RTy],by simp [Rep]⟩ .nil
  ·rename_i hu;cases hc;obtain ⟨s,rfl,rfl,hs⟩:=DataW.trod_string hu h;have hsl:s.data.toList.length<=maxLen:=by
    have e:s.data.toList.length=s.size:=Array.length_toList;rw [e];exact hs
   exact .cons ⟨s.data.toList,.val (.string s),hS.str _ hx hsl,by simp [RTy],by simp [Rep]⟩ .nil
  ·rename_i hu;rw [hu]at hok;simp at hok
  ·rename_i hu;rw [hu]at hok;simp at hok
  ·rename_i e hu;obtain ⟨ht,hoe⟩:=hok;rw [hu]at hoe;simp only [qe,decide_eq_true_eq,beq_iff_eq]at hoe;cases hce:qbC P d e with
   |none=>rw [hce]at hc;simp at hc
   |some cs1 =>
    obtain ⟨τ,rfl,hτ⟩:=qv3 hce (by rw [hce];rw [hce]at hc;exact hc);obtain ⟨hel,hnc⟩:=qxM hce hτ (qfE d e cs1 hce);rcases open_slice hu h with ⟨rfl,rfl⟩|⟨a,len,cap,m,n,D,Pl,rfl,hb,hlc,hcm,hm,rfl,hx'⟩
    ·exact .cons ⟨[],.sl .shared false [],⟨Nat.zero_le _,by simp⟩,by simp only [RTy];exact ⟨_,_,[],rfl,qhb rfl (by simp) (λ_=>rfl),.nil⟩,qAS⟩ .nil
    ·simp only [if_true]at hm;subst hm;obtain ⟨hN,hSe⟩:=hS.slice _ _ hx (by simp;omega);by_cases hcap:m=0
     ·subst hcap;have hlen:len=0:=by omega
      subst hlen;exact .cons ⟨[],.sl .shared false [],⟨Nat.zero_le _,by simp⟩,by simp only [RTy];exact ⟨_,_,[],rfl,qhb rfl (by simp) (λ_=>rfl),.nil⟩,qAU a⟩ .nil
     ·have hspot:a.spot=none:=by
       obtain ⟨cs',hcs',_⟩:=hx' 0 (by omega);obtain ⟨_,hl1,hc1⟩:=World.cells?_some hcs';have h0:=hc1 0 (by omega);simp only [Nat.zero_mul]at h0;have:∃v0,cs'[0]?=some v0:=⟨cs'[0]'(by omega),List.getElem?_eq_getElem (by omega)⟩
       obtain ⟨v0,hv0⟩:=this;rw [hv0]at h0;have:=(qly h0).1;simpa [Addr.add]using this
      obtain ⟨b,off,spot⟩:=a;simp only at hspot;subst hspot;have hsz:∀i,i<m->∃vals:List Value,vals.length=P.cellsOf e/\(∀j,j<P.cellsOf e->w.cell? ⟨b,off+i*P.cellsOf e+j,none⟩=vals[j]?) /\
        (i<len->∃(y:τ.den) (u:V) (v:Value),Rng N τ y/\RTy τ 1000 y u/\Rep w (cx0 w) u v []/\v.cells.toList=vals):=λi hi=>by
       obtain ⟨cs',hcs',htr⟩:=hx' i hi;obtain ⟨_,hl1,hc1⟩:=World.cells?_some hcs';refine ⟨cs',hl1,λj hj=>?_,λhil=>?_⟩
       ·rw [<- hc1 j hj,Addr.add_lit,Addr.add_lit]
       ·have hSi:S (D i):=hSe _ (List.mem_map.2 ⟨i,List.mem_range.2 hil,rfl⟩);exact qDT hce hτ (qiE hl hS d e cs1 hce hoe.2 n cs' _ hSi htr)
      have hn:τ.qba=P.cellsOf e:=by
       have:=hoe.1.2;rw [hce]at this;simp only [qi,qb]at this;rw [hnc,this]
      obtain ⟨l,us,h1,h2,h3,h4⟩:=qA6 (Nat.pos_of_ne_zero hoe.1.1) hlc hcap hel hn hsz;exact .cons ⟨l,.sl .shared false us,⟨by rw [h1];simpa using hN,h2⟩,by simp only [RTy];exact ⟨_,_,us,rfl,qhb rfl (by simp) (λ_=>rfl),h3⟩,h4⟩ .nil
  ·rename_i fields hu;obtain ⟨ht,hoe⟩:=hok;rw [hu]at hoe;simp only [List.all_eq_true]at hoe;obtain ⟨css,hcss,rfl⟩:=qc.1 hc;obtain ⟨hl1,hget⟩:=qnF hcss;obtain ⟨xs,n,_,rfl,hvl,hxl,hxs⟩:=DataW.trod_struct hu h;obtain ⟨_,hsum,hoff⟩:=kid_struct hl ht hu;refine glue css (fields.toList.map λf=>P.cellsOf f.type) vals (by simp [hl1]) (by rw [hvl,hsum]) λj c s hcj hsj=>?_;rw [List.getElem?_map]at hsj;obtain ⟨fd,hfd,rfl⟩:=qc.1 hsj;obtain ⟨c',hc',hg⟩:=hget j fd hfd;rw [hcj]at hc';cases hc';have hx1:=hxs j fd (by simpa using hfd);rw [hoff j fd hfd,List.map_take]at hx1;have hj:j<xs.length:=by rw [hxl];have:=(qm.1 hfd).1;simpa using this
   rw [List.getElem?_eq_getElem hj]at hx1;exact qiE hl hS d fd.type c hg (hoe fd (List.mem_of_getElem? hfd)) n _ _ (hS.agg _ hx _ (List.mem_map.2 ⟨xs[j],List.getElem_mem hj,rfl⟩)) hx1
  ·rename_i n' e hu;obtain ⟨ht,hoe⟩:=hok;rw [hu]at hoe;simp only at hoe;obtain ⟨cs1,hce,rfl⟩:=qc.1 hc;obtain ⟨_,hsum⟩:=kid_array hl ht hu;cases fuel with
   |zero=>simp [DataW.trod]at h
   |succ fuel =>
    unfold DataW.trod at h;rw [hu]at h;simp only at h;split at h
    ·rename_i hvl;obtain ⟨xs,hxs,rfl⟩:=qc.1 h;obtain ⟨hxl,hget⟩:=qnF hxs;refine glue _ (List.replicate n' (P.cellsOf e)) vals (by simp) (by rw [hvl,hsum];simp) λj c s hcj hsj=>?_;have hjn:j<n':=by have:=(qm.1 hcj).1;simpa using this
     rw [List.getElem?_replicate,if_pos hjn]at hcj hsj;cases hcj;cases hsj
     obtain ⟨b,hb,hg⟩:=hget j j (by simp [hjn]);have htk:((List.replicate n' (P.cellsOf e)).take j).sum=j*P.cellsOf e:=by
      rw [List.take_replicate];simp [Nat.min_eq_left (Nat.le_of_lt hjn)]
     rw [htk];exact qiE hl hS d e cs1 hce hoe fuel _ _ (hS.agg _ hx _ (List.mem_map.2 ⟨b,List.mem_of_getElem? hb,rfl⟩)) hg
    ·cases h
  ·cases hc
theorem qCv(hl:laidOutB P=true){N:Nat}{S:DataW H->Prop}(hS:Sm N S){t:TypeId}{τ:Ty}(hτ:qDF P t=some τ)(hok:okT P 10 t=true){v:Value}{d:DataW H}{ps:List MemPlace}{b0:Nat}(hval:Value.okWide P w .any b0 t v)
  (h:DataW.Trod enc P w base (λ_=>true) held t v d ps) (hd:S d):qwq N w τ v:=by
 obtain ⟨fuel,hf⟩:=h;unfold qDF at hτ;split at hτ
 ·rename_i cs hc;have hall:=qiE hl hS 10 t cs hc hok fuel _ _ hd hf;split at hτ
  ·rename_i ha;cases hτ;obtain ⟨y,us,hy,hu,hr⟩:=qvJ cs _ hall;have hv:∃c,v=.agg c:=by
    unfold qN at ha;unfold Value.okWide at hval;split at ha
    ·rename_i fs hfs;rw [hfs]at hval;obtain ⟨c,hc,_⟩:=hval;exact ⟨c,hc⟩
    ·rename_i n e hfs;rw [hfs]at hval;obtain ⟨c,hc,_⟩:=hval;exact ⟨c,hc⟩
    ·cases ha
   obtain ⟨c,rfl⟩:=hv;refine ⟨y,.agg us,hy,hu,?_⟩;simp only [Rep];exact ⟨c.toList,by simp,by simpa [Value.cells]using hr⟩
  ·rename_i ha
   match cs,hτ,hall with
   |τ'::cs',hτ,hall =>
    simp only [List.head?_cons,qb]at hτ;subst hτ;have hone:=qfE 10 t _ hc τ' (by simp);have hv:v.cells.toList=[v]:=by
     cases v with
     |agg c =>
      exfalso
      unfold qN at ha;unfold Value.okWide at hval;split at hval
      ·rename_i fs hfs;rw [hfs]at ha;simp at ha
      ·rename_i n e hfs;rw [hfs]at ha;simp at ha
      ·unfold Cell.okWide Cell.ok at hval;split at hval;all_goals first|(rename_i h1 h2;cases h2;done)|skip
       all_goals (split at hval<;>first|(exact hval.elim)|(rename_i h1 h2;cases h2))
     |_=>rfl
    rw [hv]at hall;cases hall with
    |cons h1 h2=>exact h1
 ·cases hτ
theorem qt7(hl:laidOutB P=true){N:Nat}{S:DataW H->Prop}(hS:Sm N S){b0:Nat}:∀(ts:List TypeId) (τs:List Ty) (vs:List Value) (ds:List (DataW H)) (ps:List MemPlace),ts.mapM (qDF P)=some τs->ts.all (okT P 10)=true ->
  (∀(j:Nat) t v,ts[j]?=some t->vs[j]?=some v->Value.okWide P w .any b0 t v)->DataW.TrodAll enc P w base (λ_=>true) held ts vs ds ps->(∀d∈ds,S d) ->
  ∃x us,qEL N τs x/\RVL (qcI (τs.map .ty) x) us/\RepL w (cx0 w) us vs []
 |[],τs,vs,ds,ps,hm,_,_,h,_=>by
  simp at hm;subst hm;obtain ⟨rfl,_,_⟩:=trodAll_nil h;exact ⟨(),[],trivial,q5,by simp [RepL]⟩
 |t::ts,τs,vs,ds,ps,hm,hok,hval,h,hd=>by
  simp only [List.mapM_cons,Option.bind_eq_bind,qd]at hm;obtain ⟨τ,hτ,τs',hm',he⟩:=hm;cases he;simp only [List.all_cons,qe]at hok;obtain ⟨v,vs',d,ds',p,q,rfl,rfl,rfl,h1,h2⟩:=trodAll_cons h;obtain ⟨y,u,hy,hu,hr⟩:=qCv hl hS hτ hok.1 (hval 0 t v rfl rfl) h1 (hd d (by simp));obtain ⟨x,us,hx,hus,hrs⟩:=qt7 hl hS ts τs' vs' ds' q hm' hok.2 (λj t' v' a b=>hval (j+1) t' v' (by simpa using a) (by simpa using b)) h2 λd' hd'=>hd d' (by simp [hd']);have hR:RepL w (cx0 w) (u::us) (v::vs') []:=by simp only [RepL];exact ⟨v,vs',[],[],rfl,rfl,hr,hrs⟩
  cases τs' with
  |nil=>exact ⟨y,u::us,hy,(qv.2 ⟨rv_ofTy _ _ _ _ hu,hus⟩:RVL (ofTy τ 1000 y::[]) (u::us)),hR⟩
  |cons τ2 τs2=>exact ⟨(y,x),u::us,⟨hy,hx⟩,(qv.2 ⟨rv_ofTy _ _ _ _ hu,hus⟩:RVL (ofTy τ 1000 y::qcI ((τ2::τs2).map .ty) x) (u::us)),hR⟩
theorem qlm(hl:laidOutB P=true){W W':World}(hb:Below W.heap.size W W'):∀{ts:List TypeId} {vs:List Value} {ds:List (DataW H)} {ps:List MemPlace},ts.all (λt=>P.readableRec t&&decide (t<P.types.size))=true ->
  DataW.TrodAll enc P W 0 (λ_=>true) true ts vs ds ps->(∀x∈ps,x.block<W.heap.size)->∀sp:Nat->Bool,(∀p∈ps,sp p.block=true)->DataW.TrodAll enc P W' 0 sp true ts vs ds ps
 |[],[],[],ps,_,h,_,sp,_=>h
 |t::ts,v::vs,d::ds,ps,hr,⟨p,q,h1,h2,e⟩,hlt,sp,hsp=>by
  simp only [List.all_cons,qe,decide_eq_true_eq]at hr;subst e;refine ⟨p,q,?_,qlm hl hb hr.2 h2 (λx hx=>hlt x (List.mem_append_right _ hx)) sp (λx hx=>hsp x (List.mem_append_right _ hx)),rfl⟩;exact WideElems.Trod_stays hl hr.1.1 hr.1.2 h1 (λx hx=>hb.same (hlt x (List.mem_append_left _ hx))) (λx hx=>hsp x (List.mem_append_left _ hx))
theorem qFM{w:World}:LRel [] w (cx0 w) (λ_=>[]) where
 box:=λr c h=>by simp [qa6]at h
 boxD:=λ_ _=>rfl
 inj:=λr r' b h=>by simp [qa6]at h
 lin:=λ_=>Lin.nil
 dis:=λ_ _ _ b hb=>by cases hb
 ptrB:=λr c h=>by simp [qa6]at h
 up:=λr c h=>by simp [qa6]at h
 dom:=λb e fz h=>(frozen0 h).2.1
theorem qz9{H0:Hints}{lib:FuncId->Option (List V->Option V)}(hm:P.follows .mixedOrders=true)(qcw:qke P H0)
  (qxW:∀g h args r,lib g=some h->h args=some r->qan P g args [] r []) (hl:laidOutB P=true) {N:Nat} {S:DataW H->Prop} (hS:Sm N S) {k:FuncId} {fn:Func} (hfn:P.funcs[k]?=some fn) (hbody:fn.body.isSome=true)
  {ts:List TypeId} {τs:List Ty} (hts:ts.mapM (qDF P)=some τs) (hok:ts.all (okT P 10)=true) {F:denP (τs.map .ty)->Option Bool}
  (he:qav P H0 lib ⟨k,τs.map .ty,[(.bool,0)],F⟩) (hF:∀x,qEL N τs x->F x=some true)
  {W:World} {args:Array Value} {ds:List (DataW H)} {ps:List MemPlace} {b0:Nat} (hval:∀(j:Nat) t v,ts[j]?=some t->args.toList[j]?=some v->Value.okWide P W .any b0 t v)
  (h:DataW.TrodAll enc P W 0 (λ_=>true) true ts args.toList ds ps) (hd:∀d∈ds,S d) (hgl:qhi W (cx0 W)) :
  Calls P k args W λe W'=>e=.returned (.bool true)/\Below W.heap.size W W':=by
 obtain ⟨x,us,hx,hus,hrs⟩:=qt7 hl hS ts τs args.toList ds ps hts hok hval h hd;obtain ⟨v,hcall,hr⟩:=qqg hm qcw qxW he (x:=x) (y:=true) (hF x hx) hus;simp only [qgT,ofL,qaR,ofTy,RV,RTy]at hr;subst hr;have hp:ptrsL us=[]:=by
  apply List.eq_nil_iff_forall_not_mem.2;intro q hq;have hk:∀(τs:List Ty) (x:denP (τs.map .ty)),ptrsTL (qcI (τs.map .ty) x)=[]:=by
   have h1:∀(τ:Ty) (y:τ.den),(ofTy τ 1000 y).qq=[]/\ptrsTL (ofTyC τ 1000 y)=[]:=by
    intro τ;induction τ with
    |pair a b iha ihb=>intro y;simp [ofTy,ofTyC,TV.qq,ptrsTL,(iha y.1).1,(ihb y.2).2]
    |_=>intro y;simp [ofTy,ofTyC,TV.qq,ptrsTL]
   intro τs;induction τs with
   |nil=>intro x;rfl
   |cons τ τs ih =>
    intro x;cases τs with
    |nil=>show ptrsTL [ofTy τ 1000 x]=[];simp [ptrsTL,(h1 τ x).1]
    |cons τ2 τs2=>show ptrsTL (ofTy τ 1000 x.1::qcI ((τ2::τs2).map .ty) x.2)=[];simp only [ptrsTL,(h1 τ x.1).1,List.nil_append];exact ih x.2
  have:=RVL.qq _ _ hus q hq;rw [hk]at this;cases this
 rcases hcall W (cx0 W) args.toList (λ_=>[]) hrs hgl qFM (λq hq=>by rw [hp]at hq;cases hq) (λ_ b e fz h=>(frozen0 h).1)with ⟨_,hc⟩|⟨_,v,w',hv,_⟩
 ·refine (by simpa using hc:Calls P k args W _).mono ?_;rintro e W' ⟨v,rfl,X',O',Or,hrep,_,_,_,_,_,_,haft⟩;simp only [Rep]at hrep;obtain ⟨rfl,_⟩:=hrep;refine ⟨rfl,⟨haft.os,haft.tape,haft.out,haft.size,λb hb=>?_⟩⟩;exact (haft.kept b hb (by rintro (⟨r,h1,_⟩|⟨r,h1⟩)<;>simp [qa6]at h1)).1
 ·exfalso
  have hbs:fn.body.isNone=false:=by cases hb:fn.body<;>simp_all
  simp only [callFunc,Sem.run_bind,run_program,Result.andThen_ok,hfn,qcw.1 k fn hfn hbody,hbs,qf,if_false,Sem.run_pure]at hv;cases hv
end
end Go.Tx
end
section
namespace Go.Proofs.YtkmcmngpifalcaaGreatDoor.Hn
open Go
def qF3:List (List Nat):=[[],[],[],[52,57,60,62,67,70,83,84,94,95,99,100,112,113,117,128,129,131,133,136],[12,15,23,26,28,32,34,42,53,56,61,65,70,74,79,83,87],[],[],[16,39,49,53],[18,51],[22,23,28],[11,31],[45,46,51,57,61,70,76,82,85,90,93,101],[17,26,33,35,39,45,52],[13,18,26],[34,41,47,51,61,62],[85],[52],[],[],[5,10],[],[5,10],[12,21,23,30,38],[],[13,22,24,32,43,51],[14,15,19,21,22],[],[12,26,34,39,41,45,50],[],[16,30,31,38,47],[],[],[],[],[],[],[],[],[],[],[14,20,21,26,27,31,32,43,46,49,52],[15,20,22,24,27,29,30,32,34],[32,38,40,49,50,52,61,62],[],[8,14],[18],[66,73,74,80,83,88,89,98,108,116,127],[19,21,28,30],[],[65,69],[38],[14,24,25],[],[10],[46,57,74,89,98,99,108,109,128,129],[26,43,51,72,89,97],[9,16],[47,48,50,55],[],[17],[],[],[],[15,31],[32,44,55,65,76,85],[6],[13],[10,16],[46,49,50,54,55],[22,23],[],[],[22,23],[],[],[],[21,81,83],[],[],[],[],[],[],[17],[],[],[14,20,24,25,29,30,35,37,38],[],[18,22,23],[],[22,23],[],[18],[22,23],[],[],[],[22,23],[31,36],[],[],[30,58,60,67,76,77,82,83,87],[],[37],[14,21],[],[11,19,33,40,57],[],[42,66,91,93,94,98,102,109,114,115,122,124,125,133],[],[],[],[],[],[8,29],[],[43],[22,23],[16],[17,21,24],[],[],[],[17],[],[],[],[],[],[],[],[],[],[],[],[19],[],[],[8,14],[15,27,40,44],[14],[],[],[],[],[],[],[],[],[27],[],[33,45,47,50,53,56],[],[],[7],[83],[80,167],[],[],[17],[17],[17],[],[],[],[],[],[],[],[],[],[],[],[],[],[17],[18,22,23],[20],[24,39,43,60,64,76,78,82,87,99,103,108,113],[],[],[],[],[],[13,17],[75],[],[32],[],[11,19,27,35],[],[],[],[],[],[],[],[],[],[],[],[24,25,26,27]]
def qET:List (List (Nat×List Nat)):=[[],[],[],[],[],[(0,[22,23,24,25,26,27,28,29,30,31,32,33,34,35]),(2,[36,37,38,39,40,41,42,43,44,45,46,47,48,49,50,51,52,53,54,55,56,57,58,59,60,61,62,63,64,65,66,67,68,69,70]),(4,[71,72,73,74,75,76,77,78,79,80,81,82,83,84])],[(0,[4,8,9,10,11,12,13,14,15,16,17,18,19,20,21,22,23,24,25,26,27,28,29,30,31,32,33,34,35,36,37,38,39,40,41,42,43,44,45,46,47,48,49]),(2,[30,31,32,33,34,35,36,37,38,39,40,41,42,43,44,45,46,47,48,49])],[(0,[6,8,13,14,15,16,17,18,19,20,21,22,23,24,25,26,27,28,29,30,31]),(2,[6,8,36,37,38,39,40,41,42,43,44])],[(0,[10,11,12,13,14,15,16,17,18,19,20,21,22,23,24,25,26,27,28,29,30,31,32,33,34,35,36,37,38,39,40,41,42]),(2,[43,44,45,46,47,48,49,50,51,52,53,54,55,56,57,58,59,60])],[(0,[5,6,10,11,12,13,14,15,16,17,18,19,20,21,22,23,24,25,26,27])],[(0,[5,6,7,8,9,10,11,12,13,14,15,16,17,18,19,20,21,22,23,24,25,26,27,28,29,30])],[(0,[8,9,10,13,42,43,44,45,46,47,48,49,50,51,52,53,54,55,56,57,58,59,60]),(2,[4,9,12,13,14,67,68,69,70,71,72,73,74,75,76,77,78,79,80,81,82,83,84,85,86,87,88,89])],[],[],[(0,[7,8,9,16,17,18,19,20,21,22,23,24,25,26,27,28,29,30,31,32,33,34,35,36,37,38,39,40,41,42,43,44,45,46,47,48,49,50,51,52,53,54,55,56])],[(0,[7,8,9,10,11,12,13,14,15,16,17,18,19,20,21,22,23,24]),(2,[27,28,29,30,31,32,33,34,35,36,37,38,39,40,41,42,43,44,45,46,47,48,49,50,51,52,53,54,55,56,57,58,59,60,61,62,63]),(4,[66,67,68,69,70,71,72,73,74,75,76,77,78,79,80,81,82,83,84])],[(0,[5,6,7,8,9,10,11,12,13,14,15,16,17,18,19,20,21,22,23,24,25,26,27,28,29,30,31,32,33,34,35,36,37,38,39,40,41,42,43,44,45,46,47,48,49,50,51]),(2,[31,32,33,34,35,36,37,38,39,40,41,42,43,44,45,46,47,48,49,50,51])],[(0,[31,32,33,34,35,36,37,38,39,40,41,42,43,44,45,46,47,48,49,50,51,52,53,54,55,56,57,58,59,60,61,62,63,64,65,66,67,68,69,70,71,72,73,74,75,76,77,78,79,80,81,82]),(2,[83,84,85,86,87,88,89,90,91,92,93,94,95,96,97,98,99,100,101])],[(0,[11,12,13,14,15,16,17,18,19,20,21,22,23,24,25,26,27,28,29,30,31,32,33,34,35,36,37,38,39,40,41,42,43,44,45,46,47,48,49,50,51,52,53,54])],[],[(0,[4,5,6,7,8,9,10,11,12,13,14,15,16,17,18,19,20,21,22,23])],[],[(0,[11,27,28,29,30,31,32,33,34,35])],[],[(0,[35,36,37,38,39,40,41,42,43,44,45,46,47,48])],[],[],[(0,[8,9,10,11,30,31,32,33,34,35,36,37,38,39,40,41,42,43,44,45,46,47,48,49,50,51])],[],[(0,[10,11,12,42,43,44,45,46,47,48,49,50,51,52,53,54,55])],[(0,[11,12,13,14,15,16,17,18,19,20,21,22,23,24,25])],[],[],[],[],[],[],[],[],[],[],[],[],[],[],[],[(0,[8,9,10,11,12,13,16,37,38,39,40,41,42,43,44,45,46,47,48,49,50,51,52,53,54,55,56,57,58,59,60,61,62,63,64,65,66,67,68,69,70,71,72,73,74,75,76,77,78,79,80,81,82,83,84,85,86,87,88,89,90,91,92,93,94,95,96,97]),(2,[5,8,9,10,12,16,17,102,103,104,105,106,107,108,109,110,111,112,113,114,115,116,117,118,119,120,121,122,123,124,125,126,127,128,129,130,131])],[(0,[8,9,10,11,12,13,14,15,16,17,18,19,20,21,22,23,24,25,26,27])],[(0,[6,7,8,9,10,11,12,13,14,15,16,17])],[(0,[41,42,43,44,45,46,47,48,49,50,51,52,53,54,55,56,57,58,59,60,61,62,63,64])],[(0,[6,7,8,9,10,11,12,13,14,15,16,17,18,19,20,21]),(2,[22,23,24,25,26,27,28,29,30,31,32,33,34,35,36,37])],[(0,[5,10,11,12,13,14,15,16,17,18,19,20,21,22,23])],[(0,[11,12,13,14,15,16,17,18,19,20,21,22,23,24,25])],[],[(0,[32,33,34,35,36,37,38,39,40,41,42,43,44,45,46,47,48,49,50,51,52,53,54,55,56,57]),(2,[6,7,8,9,58,59,60,61,62,63,64,65,66,67,68,69,70,71,72,73,74,75,76,77,78,79,80,81,82,83,84,85,86,87,88,89,90,91,92,93,94,95,96,97,98,99,100,101,102,103,104,105,106,107,108,109]),(4,[75,76,77,78,79,80,81,82,83,84,85,86,87,88,89]),(6,[11,110,111,112,113,114,115,116,117,118,119,120,121,122,123,124,125,126,127,128,129])],[(0,[5,6,13,14,15,16,17,18,19,20,21,22,23,24,25,26,27,28,29,30,31,32,33,34,35,36,37,38,39,40,41,42,43,44,45,46,47,48,49,50,51,52,53,54,55,56,57,58,59,60,61,62,63,64,65,66,67,68,69,70,71,72,73,74,75,76,77,78,79,80,81,82,83,84,85,86,87,88,89,90,91,92,93,94,95,96,97]),(2,[27,28,29,30,31,32,33,34,35,36,37,38,39,40,41,42,43]),(4,[52,53,54,55,56,57,58,59,60,61,62,63,64,65,66,67,68,69,70,71,72,73,74,75,76,77,78,79,80,81,82,83,84,85,86,87,88,89])],[],[(0,[10,11,18,19,20,21,22,23,24,25,26,27,28,29,30,31,32,33,34,35,36,37,38,39,40,41,42,43,44,45,46,47,48,49,50,51,52,53,54])],[],[(0,[5,9,10,11,12,13,14,15,16,17,18])],[],[],[(0,[7,8,9,10,11,12,13,14,15,16,17,18,19,20,21,22,23,24,25,26,27])],[],[(0,[9,10,11,12,13,20,21,22,23,24,25,26,27,28,29,30,31,32,33,34,35,36,37,38,39,40,41,42,43,44,45,46,47,48,49,50,51,52,53,54,55,56,57,58,59,60,61,62,63,64,65,66,67,68,69,70,71,72,73,74,75,76,77,78,79,80,81,82,83,84,85,86,87,88,89,90]),(2,[33,34,35,36,37,38,39,40,41,42,43,44,45,46,47,48,49,50,51,52]),(4,[9,12,13,59,60,61,62,63,64,65,66,67,68,69,70,71,72,73,74,75,76,77,78,79,80,81,82,83,84,85,86,87,88,89,90])],[],[(0,[4,8,9,10,11,12,13,14])],[],[(0,[11,12,20,21,22,23,24,25,26,27,28,29,30,31,32,33]),(2,[13,14,41,42,43,44,45,46,47,48,49,50,51,52,53])],[(0,[6,7,8,12,13,14,15,16,17,18,19,20,21,22,23,24])],[],[],[(0,[6,7,8,12,13,14,15,16,17,18,19,20,21,22,23,24])],[],[],[],[(0,[11,12,61,62,63,64,65,66,67,68,69,70,71,72,73,74,75,76,77,78,79,80])],[],[],[],[],[],[],[(0,[5,9,10,11,12,13,14,15,16,17,18])],[],[],[],[],[(0,[6,7,8,12,13,14,15,16,17,18,19,20,21,22,23,24])],[],[(0,[6,7,8,12,13,14,15,16,17,18,19,20,21,22,23,24])],[],[],[(0,[6,7,8,12,13,14,15,16,17,18,19,20,21,22,23,24])],[],[],[],[(0,[6,7,8,12,13,14,15,16,17,18,19,20,21,22,23,24])],[(0,[9,26,27,28,29,30,31,32,33,34,35])],[],[],[(0,[7,8,9,10,11,12,13,14,15,16,17,18,19,20,21,22,23,24,25,26,27,28,29,30,31,32,33,34,35,36,37,38,39,40,41,42,43,44,45,46,47,48,49,50,51,52,53,54,55,56,57,58,59,60,61,62,63,64,65,66,67,68,69,70,71,72,73,74,75,76,77,78,79,80,81,82,83,84,85,86,87]),(2,[40,41,42,43,44,45,46,47,48,49,50,51,52,53,54,55,56,57])],[],[(0,[4,5,14,15,16,17,18,19,20,21,22,23,24,25,26,27,28,29,30,31,32,33,34,35,36,37,38,39,40,41,42,43,44,45,46,47,48,49,50,51,52,53,54])],[(0,[22,23,24,25,26,27,28,29,30,31,32,33,34,35,36])],[],[(0,[8,10,29,30,31,32,33,34,35,36,37,38,39,40,41,42,43,44,45,46,47,48]),(2,[8,10,53,54,55,56,57,58,59,60,61,62,63])],[],[(0,[10,11,12,13,14,15,16,17,18,19,20,21,22,23,24,25,26,27,28,29,30,31,32,33,34,35,36,37,38,39,40,41,42,43,44,45,46,47,48,49,50,51,52,53,54,55,56,57,58,59,60,61,62,63,64,65,66,67,68,69,70,71,72,73,74,75,76,77,78,79,80,81,82,83,84,85,86,87,88,89,90,91,92,93,94,95,96,97,98,99,100,101,102,103,104,105,106,107,108,109,110,111,112,113,114,115,116,117,118,119,120,121,122,123,124,125,126,127,128,129,130,131,132,133])],[],[],[],[],[],[],[],[],[(0,[6,7,8,12,13,14,15,16,17,18,19,20,21,22,23,24])],[],[(0,[3,4,5,9,10,11,12,13,14,15,16,17,18,19,20,21,22,23,24,25,26,27,28,29,30,31,32,33,34,35,36])],[],[],[],[(0,[5,9,10,11,12,13,14,15,16,17,18])],[],[],[],[],[],[],[],[],[],[],[],[],[],[],[],[(0,[5,6,12,13,14,15,16,17,18,19,20,21,22,23,24,25,26,27,28]),(2,[7,8,29,30,31,32,33,34,35,36,37,38,39,40,41,42,43,44,45,46,47,48])],[],[],[],[(0,[6,7,8,9,10,11,12,13,14,15,16,17,18,19,20,21,22,23,24,25,26,27,28,29,30,31,32,33])],[(0,[6,7,8,9,10,11,12,13,14,15,16,17])],[],[(0,[5,6,11,12,13,14,15,16,17,18,19,20,21,22,23,24,25,26,27,28,29,30,31,32,33,34,35,36,37,38])],[],[(0,[7,10,11,12,13,14,15,16,17,18,19,20,21,22,23,24,25,26,27,28,29,30,31,32,33,34,35,36,37,38,39,40,41,42,43,44,45,46,47,48]),(2,[16,17,18,19,20,21,22,23,24,25,26,27,28,29,30,31,32,33,34,35,36,37,38,39,40,41,42,43,44,45,46,47,48])],[(0,[18,19,20,21,22,23,24,25,26]),(2,[29,30,31,32,33,34,35,36,37,38,39,40,41,42,43,44,45,46,47,48,49,50,51,52,53,54,55])],[(0,[10,26,27,28,29,30,31,32,33,34,35,36,37,38,39,40,41,42,43,44,45,46,47,48,49,50,51,52,53,54,55,56,57,58,59,60,61,62,63,64])],[],[(0,[11,12,13,14,15,16,17,18,19,20,21,22,23,24,25,26,27,28,29,30,31])],[(0,[9,10,13,14,15,16,17,18,19,20,21,22,23,24,25,26,27,28,29,30,31,32,33,34,35,36,37,38,39,40,41,42,43,44,45,46,47,48,49,50,51,52,53,54,55,56,57,58,59,60,61,62,63,64,65,66,67,68,69,70,71,72,73,74,75,76,77,78,79,80,81,82,83,84,85,86,87,88,89,90,91,92,93,94,95,96,97,98,99,100,101,102,103,104,105,106,107,108,109,110,111,112,113,114,115,116,117,118,119,120,121,122,123,124,125,126,127,128,129,130,131,132]),(2,[17,18,19,20,21,22,23,24,25,26,27,28,29,30,31,32,33,34]),(4,[64,65,66,67,68,69,70,71,72,73,74,75,76,77,78,79,80,81,82,83,84,85,86,87,88,89,90,91,92,93,94]),(6,[101,102,103,104,105,106,107,108,109,110,111,112,113,114,115,116,117,118,119,120,121,122,123,124,125,126,127,128,129,130,131,132])],[],[(0,[29,30,31,32,33,34,35,36,37,38,39,40,41,42,43,44,45,46,47,48,49,50,51,52,53,54,55,56,57,58,59,60,61,62,63,64,65,66,67,68,69,70,71,72,73,74,75,76,77,78,79,80,81,82]),(2,[29,30,31,32,33,34,35,36,37,38,39,40,41,42,43,44,45]),(4,[46,47,48,49,50,51,52,53,54,55,56,57,58,59,60,61])],[(0,[30,31,32,33,34,35,36,37,38,39,40,41,42,43,44,45]),(2,[46,47,48,49,50,51,52,53,54,55,56,57,58,59,60,61,62]),(4,[99,100,101,102,103,104,105,106,107,108,109,110,111,112,113,114,115,116,117,118,119,120,121,122,123,124,125,126,127,128,129,130,131,132,133,134,135,136,137,138,139,140,141,142,143,144,145,146,147,148,149,150,151,152]),(6,[99,100,101,102,103,104,105,106,107,108,109,110,111,112,113,114]),(8,[115,116,117,118,119,120,121,122,123,124,125,126,127,128,129,130,131])],[],[],[(0,[5,9,10,11,12,13,14,15,16,17,18])],[(0,[5,9,10,11,12,13,14,15,16,17,18])],[(0,[5,9,10,11,12,13,14,15,16,17,18])],[],[],[],[],[],[],[],[],[],[],[],[],[],[(0,[5,9,10,11,12,13,14,15,16,17,18])],[(0,[6,7,8,12,13,14,15,16,17,18,19,20,21,22,23,24])],[],[],[],[],[],[],[],[(0,[5,9,10,11,12,13,14,15,16])],[(0,[9,11,12,13,14,15,16,17,18,19,20,21,22,23,24,25,26,27,28,29,30,31,32,33,34,35,36,37,38,39,40,41,42,43,44,45,46,47,48,49,50,51,52,53,54,55,56,57,58,59,60,61,62,63,64,65,66,67,68,69,70,71,72,73,74,75])]]
def qFJ:List (List Nat):=[[],[],[],[],[19,21,22],[],[],[],[],[],[],[],[],[],[],[],[],[],[],[],[],[],[],[],[],[],[],[],[],[],[],[],[],[],[],[],[],[],[],[],[],[],[],[],[],[],[],[],[],[],[],[],[],[],[],[],[],[],[],[],[],[],[14,16,26,27],[],[],[],[],[],[],[],[],[],[],[],[],[],[],[],[],[],[],[],[],[],[],[],[],[],[],[],[],[],[],[],[],[],[],[],[],[],[],[],[],[],[],[],[],[],[],[],[],[],[],[],[],[],[],[],[],[],[],[],[],[],[],[],[],[],[],[],[],[],[],[],[],[],[],[],[],[],[],[],[],[],[],[],[],[],[33,35,47,48],[33,35,49,50],[47,49,63,64],[],[14,16,26,27],[42,44,56,57,79,81,93,94,117,119,131,132],[],[11,13,23,24,65,67,77,78],[12,14,24,25,66,68,78,79,81,83,93,94,135,137,147,148,153,155,165,166],[],[],[],[],[],[],[],[],[],[],[],[],[],[],[],[],[],[],[],[],[],[],[],[],[],[],[],[],[53,57,73,74]]
def qCB:List Nat:=[]
def qFS:List Nat:=[71]
def qFO:List Nat:=[173,188,196]
def qzp:List Nat:=[87]
def qEI:List (Nat×List (Nat×List Nat)):=[(24,[(14,[12,35,36,37,38,39,40,41,42,43,44,45,46,47])]),(57,[(14,[9,10,11,18,19,20,21,22,23,24,25,26,27,28,29,30,31,32,33,34,35,36,37,38,41,42,43,44,45,46,47,48,49,50,51,52,53])])]
def qEV:List Nat:=[]
def qFw(f:Nat):Option (List Int->Option (List Int)):=if f=58 then some Ab.qEo else if f=62 then some Ab.qFk else none
def qF8(f:Nat):Option Nat:=if f=43 then some 139 else none
def qFh:List (List (Nat×List (Nat×Nat))):=[[],[],[],[],[],[],[],[(5,[(2,5),(2,6),(2,10),(5,10),(6,10),(2,11)])],[(5,[(1,3),(1,7),(1,9),(3,9),(7,9),(1,13),(3,13),(7,13),(1,14),(3,14),(7,14),(1,16),(3,16),(7,16),(9,16),(13,16),(14,16),(1,20),(3,20),(7,20),(9,20),(13,20),(14,20),(1,21),(3,21),(7,21)]),(9,[(1,3),(1,6),(1,7)])],[(5,[(1,3),(1,4),(1,7),(3,7),(4,7)])],[(5,[(5,10),(5,15),(10,15),(5,16),(10,16)])],[],[(12,[(0,3)])],[],[],[(14,[(2,10),(6,10),(2,14),(6,14),(2,15),(6,15),(2,19),(6,19),(10,19),(14,19),(15,19),(2,23),(6,23),(10,23),(14,23),(15,23),(2,24),(6,24)])],[(7,[(5,12),(5,13)])],[(6,[(1,7),(5,7),(1,11),(5,11),(15,21),(19,21),(15,25),(19,25),(31,37),(35,37),(31,41),(35,41)]),(11,[(1,6),(4,6),(1,9),(4,9)])],[(6,[(4,9),(16,21),(29,34)])],[],[(4,[(4,10)])],[],[],[],[],[],[],[],[],[],[(6,[(3,7)])],[],[],[],[],[(1,[(1,4),(2,4)])],[],[],[],[],[],[],[],[],[],[],[(22,[(1,4),(1,5),(4,5),(1,6),(4,6),(5,6)])],[],[],[],[],[],[(6,[(3,7)])],[],[(10,[(1,5),(1,8)]),(21,[(1,7),(5,7)]),(32,[(1,6),(4,6)])],[(13,[(4,9)]),(22,[(4,11),(4,14)])],[(2,[(0,5),(0,7),(0,8),(0,10)])],[(6,[(0,1),(0,2),(1,2),(0,5)]),(7,[(0,1),(0,2),(1,2),(0,5)])],[],[],[],[],[(3,[(7,11)])],[],[(17,[(0,5),(0,11),(5,11),(7,11)])],[],[],[],[(6,[(2,5),(5,6)])],[],[(1,[(2,5),(2,8),(5,8),(2,11),(5,11),(8,11),(2,17),(5,17),(8,17),(11,17),(13,17),(14,17),(2,20),(5,20),(8,20),(11,20),(13,20),(14,20),(17,20),(25,28)])],[],[],[],[],[],[(8,[(0,1),(0,3),(1,3),(2,3),(0,4),(1,4),(2,4),(3,4)])],[],[],[],[],[],[],[],[],[],[(8,[(0,4)]),(9,[(0,1)])],[],[],[],[],[(1,[(0,2),(0,5),(2,5),(3,5),(0,6),(2,6),(3,6),(5,6),(0,9),(2,9),(3,9),(5,9),(6,9),(7,9),(0,10),(2,10),(3,10),(5,10),(6,10),(7,10),(9,10)])],[(2,[(1,5),(3,5)])],[],[],[],[],[],[(2,[(0,2),(0,5),(2,5),(3,5)])],[],[],[],[],[],[(10,[(1,3),(1,6)])],[],[(8,[(1,3),(1,4),(1,8),(3,8),(4,8),(1,10),(3,10),(4,10),(8,10),(8,11)]),(13,[(1,2),(1,3)])],[],[(17,[(7,11)])],[],[],[],[],[],[(2,[(1,4),(1,7),(4,7)])],[],[(5,[(0,2),(0,4),(2,4),(0,5),(0,8),(0,11),(8,11),(0,14),(8,14),(11,14),(0,15)])],[],[(1,[(1,2),(1,7),(2,7),(4,7),(5,7),(1,15),(2,15),(4,15),(5,15),(7,15),(8,15),(11,15),(12,15),(14,15),(1,18),(2,18),(4,18),(5,18),(7,18),(8,18),(11,18),(12,18),(14,18),(15,18)])],[],[],[],[],[],[],[],[],[],[],[],[],[],[],[],[],[(1,[(1,3),(2,3),(1,5),(2,5),(1,7),(2,7),(3,7),(5,7)])],[],[],[],[],[],[],[],[(6,[(6,11)])],[],[(1,[(1,4),(2,4)])],[(3,[(6,7),(14,18),(17,18)])],[],[(4,[(7,12)]),(6,[(9,13)])],[(10,[(11,15)])],[(10,[(11,15)])],[],[(3,[(7,11)])],[(5,[(7,12)]),(11,[(9,13)]),(16,[(3,8)]),(17,[(9,13)]),(22,[(3,8)]),(23,[(9,13)])],[],[(1,[(7,11)]),(3,[(7,11)]),(5,[(7,11)]),(8,[(7,11)])],[(1,[(7,11)]),(3,[(7,11)]),(5,[(7,11)]),(8,[(7,11)]),(10,[(7,11)]),(13,[(7,11)]),(15,[(7,11)]),(18,[(7,11)]),(21,[(7,11)])],[],[],[],[(4,[(0,4)])],[],[],[],[],[],[],[],[],[],[],[],[],[],[],[],[],[(1,[(1,6),(3,6),(4,6)])],[],[],[],[],[],[],[],[(3,[(10,17)]),(5,[(5,11)]),(6,[(13,19)])],[],[(1,[(2,5)]),(2,[(2,5)]),(3,[(2,5)])],[],[],[],[],[],[],[],[],[],[],[],[],[],[(1,[(3,7)])]]
def qE6:List (Nat×List (Nat×Nat))->Nat->List (Nat×Nat)
 |[],_=>[]
 |(k,c)::l,b=>if k=b then c else qE6 l b
def look:List (Nat×List Nat)->Nat->List Nat
 |[],_=>[]
 |(k,c)::l,b=>if k=b then c else look l b
def qE4:List (Nat×List (Nat×List Nat))->Nat->List (Nat×List Nat)
 |[],_=>[]
 |(k,c)::l,b=>if k=b then c else qE4 l b
def hints:Ab.Hints:={
 take:=λf t=>(qF3.getD f []).contains t
 clear:=λf b=>look (qET.getD f []) b
 precise:=λf=>qCB.contains f
 pairs:=λf b=>qE6 (qFh.getD f []) b
 link:=λf t=>(qFJ.getD f []).contains t
 qjn:=λf=>qFS.contains f
 mapT:=λt=>qFO.contains t
 born:=λf=>qzp.contains f
 turn:=qFw
 seq:=qF8
 qep:=λf=>qEV.contains f
 pre:=λf b=>look (qE4 qEI f) b}
end Go.Proofs.YtkmcmngpifalcaaGreatDoor.Hn
end
section
namespace Go.Ab
open Go
section
variable {P:Program}
def qvZ:Value->Value->Bool
 |.int k n,.int k' n'=>decide (k=k')&&decide (n=n')
 |.bool b,.bool b'=>b==b'
 |.slice none 0 0,.slice none 0 0=>true
 |.string s,.string s'=>decide (s.data.toList=s'.data.toList)
 |_,_=>false
mutual
def V.same:V->V->Bool
 |.val a,.val b=>qvZ a b
 |.sl f c l,.sl f' c' l'=>decide (f=f')&&c==c'&&sameL l l'
 |.agg l,.agg l'=>sameL l l'
 |.tuple l,.tuple l'=>sameL l l'
 |_,_=>false
def sameL:List V->List V->Bool
 |[],[]=>true
 |x::l,y::l'=>x.same y&&sameL l l'
 |_,_=>false
end
theorem qyE{a b:Value}(h:qvZ a b=true):a=b:=by
 unfold qvZ at h;split at h
 ·simp_all
 ·simp_all
 ·rfl
 ·rename_i s s';have h1:=of_decide_eq_true h;obtain ⟨⟨l⟩⟩:=s;obtain ⟨⟨l'⟩⟩:=s';simp only at h1;rw [h1]
 ·cases h
mutual
theorem same_eq:∀(x y:V),x.same y=true->x=y
 |.val a,y,h=>by cases y<;>simp only [V.same]at h<;>first|(rw [qyE h])|cases h
 |.sl f c l,y,h=>by
  cases y<;>simp only [V.same]at h<;>try (cases h;done)
  simp only [qe,decide_eq_true_eq,beq_iff_eq]at h;rw [h.1.1,h.1.2,sameL_eq _ _ h.2]
 |.agg l,y,h=>by
  cases y<;>simp only [V.same]at h<;>try (cases h;done)
  rw [sameL_eq _ _ h]
 |.tuple l,y,h=>by
  cases y<;>simp only [V.same]at h<;>try (cases h;done)
  rw [sameL_eq _ _ h]
 |.undef,y,h|.ptr ..,y,h|.cptr ..,y,h|.fn ..,y,h|.yld _,y,h|.mref _,y,h|.bsl ..,y,h|.mp _,y,h|.iface ..,y,h|.lp ..,y,h|.room ..,y,h=>by cases y<;>simp [V.same]at h
theorem sameL_eq:∀(l m:List V),sameL l m=true->l=m
 |[],[],_=>rfl
 |[],y::m,h=>by simp [sameL]at h
 |x::l,[],h=>by simp [sameL]at h
 |x::l,y::m,h=>by
  simp only [sameL,qe]at h;rw [same_eq x y h.1,sameL_eq l m h.2]
end
structure Ran where
 g:FuncId
 args:List V
 r:V
def qD8(t:List Ran)(g:FuncId):Option (List V->Option V) :=
 if t.any (λe=>decide (e.g=g))then some (λargs=>(t.find? λe=>decide (e.g=g)&&sameL e.args args).map (·.r))else none
theorem qCb{t:List Ran}(h:∀e∈t,qan P e.g e.args [] e.r []):∀g f args r,qD8 t g=some f->f args=some r->qan P g args [] r []:=by
 intro g f args r hf hr;unfold qD8 at hf;split at hf
 ·cases hf;obtain ⟨e,he,rfl⟩:=qc.1 hr;have h1:=List.find?_some he;simp only [qe,decide_eq_true_eq]at h1;rw [<- h1.1,<- sameL_eq _ _ h1.2];exact h e (List.mem_of_find?_eq_some he)
 ·cases hf
theorem qqO{H:Hints}(hm:P.follows .mixedOrders=true)(qcw:qke P H){t:List Ran}(ht:∀e∈t,qan P e.g e.args [] e.r [])(n:Nat)(e:Ran)
  (h:(match (qvH P H (qD8 t) n).call e.g e.args []with|some (r,[])=>r.same e.r|_=>false)=true):qan P e.g e.args [] e.r []:=by
 split at h
 ·rename_i r hr;rw [<- same_eq _ _ h];exact (qvI hm qcw (qCb ht) n).call _ _ _ _ _ hr
 ·cases h
end
end Go.Ab
end
section
namespace Go.Proofs.YtkmcmngpifalcaaGreatDoor.Tn
open Go Go.Ab Go.Sort
def qB7:Go.Shelf.Ren:=⟨λ| 112=>62|n=>n,λ| 28=>50|3=>3|4=>4|0=>0|n=>n,λn=>n⟩
theorem qF5:Lays.n112 Tryz.prog qB7 where
 mixed:=by kernel_rfl
 f112:=Tryz.func62.trans (congrArg some (by kernel_rfl))
 t0:=Tryz.underlying0
 a0:=Tryz.isAgg0
 z0:=Tryz.sizeOf0
 v0:=Tryz.zeroValue0
 t3:=Tryz.underlying3
 a3:=Tryz.isAgg3
 z3:=Tryz.sizeOf3
 v3:=Tryz.zeroValue3
 t4:=Tryz.underlying4
 a4:=Tryz.isAgg4
 z4:=Tryz.sizeOf4
 v4:=Tryz.zeroValue4
 t28:=Tryz.underlying50
 a28:=Tryz.isAgg50
 z28:=Tryz.sizeOf50
 v28:=Tryz.zeroValue50
def qB8:Go.Shelf.Ren:=⟨λ| 189=>58|125=>109|257=>108|128=>157|129=>158|294=>148|295=>149|296=>150|297=>151|298=>152|299=>153|216=>154|300=>155|301=>156|328=>185|329=>186|330=>187|331=>188|332=>189|215=>190|343=>201|n=>n,λ| 28=>50|3=>3|46=>178|0=>0|51=>227|53=>229|4=>4|183=>221|182=>220|131=>97|5=>5|9=>9|218=>251|222=>255|228=>273|229=>105|n=>n,λn=>n⟩
theorem qF6:Lays.n189 Tryz.prog qB8 where
 mixed:=by kernel_rfl
 f125:=Tryz.func109.trans (congrArg some (by kernel_rfl))
 f128:=Tryz.func157.trans (congrArg some (by kernel_rfl))
 f129:=Tryz.func158.trans (congrArg some (by kernel_rfl))
 f189:=Tryz.func58.trans (congrArg some (by kernel_rfl))
 f215:=Tryz.func190.trans (congrArg some (by kernel_rfl))
 f216:=Tryz.func154.trans (congrArg some (by kernel_rfl))
 f257:=Tryz.func108.trans (congrArg some (by kernel_rfl))
 f294:=Tryz.func148.trans (congrArg some (by kernel_rfl))
 f295:=Tryz.func149.trans (congrArg some (by kernel_rfl))
 f296:=Tryz.func150.trans (congrArg some (by kernel_rfl))
 f297:=Tryz.func151.trans (congrArg some (by kernel_rfl))
 f298:=Tryz.func152.trans (congrArg some (by kernel_rfl))
 f299:=Tryz.func153.trans (congrArg some (by kernel_rfl))
 f300:=Tryz.func155.trans (congrArg some (by kernel_rfl))
 f301:=Tryz.func156.trans (congrArg some (by kernel_rfl))
 f328:=Tryz.func185.trans (congrArg some (by kernel_rfl))
 f329:=Tryz.func186.trans (congrArg some (by kernel_rfl))
 f330:=Tryz.func187.trans (congrArg some (by kernel_rfl))
 f331:=Tryz.func188.trans (congrArg some (by kernel_rfl))
 f332:=Tryz.func189.trans (congrArg some (by kernel_rfl))
 f343:=Tryz.func201.trans (congrArg some (by kernel_rfl))
 t0:=Tryz.underlying0
 a0:=Tryz.isAgg0
 z0:=Tryz.sizeOf0
 v0:=Tryz.zeroValue0
 t3:=Tryz.underlying3
 a3:=Tryz.isAgg3
 z3:=Tryz.sizeOf3
 v3:=Tryz.zeroValue3
 t4:=Tryz.underlying4
 a4:=Tryz.isAgg4
 z4:=Tryz.sizeOf4
 v4:=Tryz.zeroValue4
 t5:=Tryz.underlying5
 a5:=Tryz.isAgg5
 z5:=Tryz.sizeOf5
 v5:=Tryz.zeroValue5
 t9:=Tryz.underlying9
 a9:=Tryz.isAgg9
 z9:=Tryz.sizeOf9
 v9:=Tryz.zeroValue9
 t28:=Tryz.underlying50
 a28:=Tryz.isAgg50
 z28:=Tryz.sizeOf50
 v28:=Tryz.zeroValue50
 t46:=Tryz.underlying178
 a46:=Tryz.isAgg178
 z46:=Tryz.sizeOf178
 v46:=Tryz.zeroValue178
 t51:=Tryz.underlying227
 a51:=Tryz.isAgg227
 z51:=Tryz.sizeOf227
 v51:=Tryz.zeroValue227
 t53:=Tryz.underlying229
 a53:=Tryz.isAgg229
 z53:=Tryz.sizeOf229
 v53:=Tryz.zeroValue229
 t131:=Tryz.underlying97
 a131:=Tryz.isAgg97
 z131:=Tryz.sizeOf97
 v131:=Tryz.zeroValue97
 t182:=Tryz.underlying220
 a182:=Tryz.isAgg220
 z182:=Tryz.sizeOf220
 v182:=Tryz.zeroValue220
 t183:=Tryz.underlying221
 a183:=Tryz.isAgg221
 z183:=Tryz.sizeOf221
 v183:=Tryz.zeroValue221
 t218:=Tryz.underlying251
 a218:=Tryz.isAgg251
 z218:=Tryz.sizeOf251
 v218:=Tryz.zeroValue251
 t222:=Tryz.underlying255
 a222:=Tryz.isAgg255
 z222:=Tryz.sizeOf255
 v222:=Tryz.zeroValue255
 t228:=Tryz.underlying273
 a228:=Tryz.isAgg273
 z228:=Tryz.sizeOf273
 v228:=Tryz.zeroValue273
 t229:=Tryz.underlying105
 a229:=Tryz.isAgg105
 z229:=Tryz.sizeOf105
 v229:=Tryz.zeroValue105
theorem enters {g : FuncId} {fn : Func} (hfn : Tryz.prog.funcs[g]? = some fn) (hb : fn.body.isSome = true) (hn : (fn.name == "runtime.NumGoroutine") = false) (args : Array Value) (w : World) : (callFunc g args).run Tryz.prog w = .ok (.enter g args) w := by
 have hbs:fn.body.isNone=false:=by cases h:fn.body<;>simp_all
 simp only [callFunc,Sem.run_bind,run_program,Result.andThen_ok,hfn,hn,hbs,qf,if_false,Sem.run_pure]
theorem holds_of{w:World}{b off:Nat}{arr:Array Value}{ty:TypeId}{zs:List Int}(hw:w.heap[b]?=some (.cells arr ty (0,0)))(hs:Seg w b off (zs.map (Value.int .i64))):Holds (Value.int .i64) w b off zs.toArray:=by
 intro j hj;have hj':j<zs.length:=by simpa using hj
 refine ⟨?_,?_⟩
 ·have:=hs j (.int .i64 zs[j]) (by simp [hj']);rw [this];simp [getElem!_pos,hj']
 ·simp [World.frozen?,hw]
theorem qk1{w:World}{b off n:Nat}{arr:Array Value}{ty:TypeId}{zs:List Int}(os:Array Obj)(hw:w.heap[b]?=some (.cells arr ty (0,0)))(hle:off+zs.length<=arr.size) :
  qDi w b off (zs.map (Value.int .i64)) (grow (putRow (Value.int .i64) (Sort.ahead w n) b off zs.toArray) os):=by
 refine ⟨putRow (Value.int .i64) w b off zs.toArray,n,os,rfl,by simp [putRow,mapBlock],λk hk=>?_,λarr' ty' hw'=>?_,rfl,rfl,rfl⟩
 ·simp only [putRow,mapBlock,Array.getElem?_modify];rw [if_neg (Ne.symm hk)]
 ·rw [hw]at hw';cases hw';simp only [putRow,mapBlock,Array.getElem?_modify,if_true,hw,qi,onCells];congr 2
  apply Array.ext_getElem?;intro i;have e1:(Ab.rowAt arr off (zs.map (Value.int .i64)))[i]?=(Ab.rowAt arr off (zs.map (Value.int .i64))).toList[i]?:=by simp
  rw [e1];unfold Ab.rowAt;rw [qiN (by simpa using hle)];unfold putCells;simp only [Array.getElem?_mapIdx,List.length_map,List.size_toArray];by_cases hi:off<=i/\i<off+zs.length
  ·rw [if_pos hi];have hlt:i<arr.size:=by omega
   have h2:i-off<zs.length:=by omega
   rw [Array.getElem?_eq_getElem hlt];simp only [qi,hi,and_self,if_true,List.getElem?_map,List.getElem?_eq_getElem h2];simp [getElem!_pos,h2]
  ·rw [if_neg hi];cases h3:arr[i]? with
   |none =>
    have:arr.toList[i]?=none:=by simpa using h3
    rw [this];rfl
   |some x =>
    have:arr.toList[i]?=some x:=by simpa using h3
    rw [this];simp [hi]
theorem qFl:qwr Tryz.prog 62 qFk:=by
 intro zs zs' hz;unfold qFk at hz;split at hz
 ·rename_i hle;simp only [qb]at hz;subst hz;refine ⟨by simp,λhne w b off cap arr ty hw hfit hs hcap=>?_,λh0 w a cap=>?_⟩
  ·refine .inl ⟨enters Tryz.func62 (by kernel_rfl) (by kernel_rfl) _ _,?_⟩;refine (Any.slices_Reverse_int qF5 b off cap zs w (holds_of hw hs) (by omega)).mono ?_;rintro e w' ⟨rfl,n,rfl⟩;have h:=qk1 (n:=n) #[] hw (zs:=zs.reverse) (by simpa using hfit);exact ⟨_,rfl,by simpa using h⟩
  ·refine .inl ⟨enters Tryz.func62 (by kernel_rfl) (by kernel_rfl) _ _,?_⟩;refine (Any.slices_Reverse_int_empty qF5 a cap w).mono ?_;rintro e w' ⟨rfl,rfl⟩;exact ⟨_,rfl,0,#[],by simp⟩
 ·cases hz
theorem qon(x:Int):∀l:List Int,(qDZ x l).Perm (x::l)
 |[]=>.refl _
 |y::l=>by
  unfold qDZ;split
  ·exact .refl _
  ·exact ((qon x l).cons y).trans (.swap x y l)
theorem qlO:∀l:List Int,(qqx l).Perm l
 |[]=>.refl _
 |x::l=>(qon x _).trans ((qlO l).cons x)
theorem qoo(x:Int):∀l:List Int,l.Pairwise (·<=·)->(qDZ x l).Pairwise (·<=·)
 |[],_=>by simp [qDZ]
 |y::l,h=>by
  unfold qDZ;rw [List.pairwise_cons]at h;split
  ·rename_i hxy;refine List.pairwise_cons.2 ⟨λz hz=>?_,List.pairwise_cons.2 h⟩;rcases qk.1 hz with rfl|hz
   ·exact hxy
   ·exact Int.le_trans hxy (h.1 z hz)
  ·rename_i hxy;refine List.pairwise_cons.2 ⟨λz hz=>?_,qoo x l h.2⟩;rcases qk.1 ((qon x l).mem_iff.1 hz)with rfl|hz
   ·omega
   ·exact h.1 z hz
theorem qmE:∀l:List Int,(qqx l).Pairwise (·<=·)
 |[]=>.nil
 |x::l=>qoo x _ (qmE l)
theorem qpy:∀{l m:List Int},l.Pairwise (·<=·)->m.Pairwise (·<=·)->l.Perm m->l=m
 |[],m,_,_,h=>(List.nil_perm.1 h).symm
 |x::l,[],_,_,h=>absurd (List.perm_nil.1 h) (by simp)
 |x::l,y::m,hl,hm,h=>by
  rw [List.pairwise_cons]at hl hm;have h1:x<=y:=by
   rcases qk.1 (h.mem_iff.2 (List.mem_cons_self:y∈y::m))with e|e
   ·omega
   ·exact hl.1 y e
  have h2:y<=x:=by
   rcases qk.1 (h.mem_iff.1 (List.mem_cons_self:x∈x::l))with e|e
   ·omega
   ·exact hm.1 x e
  have e:x=y:=by omega
  subst e;rw [qpy hl.2 hm.2 (List.Perm.cons_inv h)]
theorem qB5(zs:List Int):zs.mergeSort (λx y=>decide (x<=y))=qqx zs:=by
 refine qpy ?_ (qmE zs) ((List.mergeSort_perm zs _).trans (qlO zs).symm);have:=List.pairwise_mergeSort (le:=λx y:Int=>decide (x<=y)) (λa b c h1 h2=>by simp only [decide_eq_true_eq]at *;omega) (λa b=>by simp only [Bool.or_eq_true,decide_eq_true_eq];omega) zs;exact this.imp λh=>by simpa using h
theorem qEp:qwr Tryz.prog 58 qEo:=by
 intro zs zs' hz;unfold qEo at hz;split at hz
 ·rename_i hle;simp only [qb]at hz;subst hz;have hlen:(qqx zs).length=zs.length:=(qlO zs).length_eq;refine ⟨hlen,λhne w b off cap arr ty hw hfit hs hcap=>?_,λh0 w a cap=>?_⟩
  ·refine .inl ⟨enters Tryz.func58 (by kernel_rfl) (by kernel_rfl) _ _,?_⟩;refine (Any.slices_Sort_int qF6 b off cap zs w (holds_of hw hs) (Array.getElem?_eq_some_iff.1 hw).1 (by omega)).mono ?_;rintro e w' ⟨rfl,n,os,rfl⟩;rw [qB5];exact ⟨_,rfl,qk1 os hw (by rw [hlen];exact hfit)⟩
  ·refine .inl ⟨enters Tryz.func58 (by kernel_rfl) (by kernel_rfl) _ _,?_⟩;refine (Any.slices_Sort_int_none qF6 a cap w).mono ?_;rintro e w' ⟨rfl,rfl⟩;exact ⟨_,rfl,0,#[],by simp⟩
 ·cases hz
end Go.Proofs.YtkmcmngpifalcaaGreatDoor.Tn
namespace Go.Proofs.YtkmcmngpifalcaaGreatDoor
open Go Go.Ab
theorem turns:qrm Tryz.prog Hn.hints:=by
 intro g F h;simp only [Hn.hints,Hn.qFw]at h;split at h
 ·rename_i e;subst e;cases h;exact Tn.qEp
 split at h
 ·rename_i e;subst e;cases h;exact Tn.qFl
 cases h
end Go.Proofs.YtkmcmngpifalcaaGreatDoor
end
section
namespace Go.Ab
open Go Go.RowKit Go.Shelf Go.Proofs
section
variable {P:Program}
theorem qCf{w w':World}{X:Cx}{O:Root->List Nat}(h:LRel [] w X O)(hs:w.heap.size<=w'.heap.size):LRel [] w' X O :=
 {
  box:=λr c hc=>by simp [qa6]at hc,boxD:=h.boxD,inj:=λr r' b h1=>by simp [qa6]at h1,lin:=h.lin,dis:=h.dis,ptrB:=λr c hc=>by simp [qa6]at hc,up:=λr c hc=>by simp [qa6]at hc,
  dom:=λb e fz hω=>Nat.lt_of_lt_of_le (h.dom b e fz hω) hs}
theorem qdE{g:FuncId}{args:List V}{r:V}(hp:r.qq=[])(h:∀(w:World) (X:Cx) (vals:List Value),RepL w X args vals []->qhi w X->Dom w X ->
  (callFunc g vals.toArray).run P w=.ok (.enter g vals.toArray) w/\Calls P g vals.toArray w λe w'=>∃v,e=.returned v/\(∀X',Rep w' X' r v [])/\Below w.heap.size w w'):qan P g args [] r []:=by
 intro w X vals O h1 h2 h3 _ _;obtain ⟨h4,h5⟩:=h w X vals h1 h2 h3.dom;refine .inl ⟨h4,h5.mono ?_⟩;rintro e w' ⟨v,rfl,hr,hb⟩;refine ⟨v,rfl,X,O,[],hr X,qCf h3 hb.size,Lin.nil,λ_ _ hb=>absurd hb (by simp),λq hq=>absurd hq (by rw [hp];simp),rfl,λ_=>rfl,⟨hb.size,λb hb' _=>⟨hb.block b hb',rfl⟩,λb e fz hω=>⟨e,fz,hω,Nat.le_refl _,λh=>h,λi v _ hc=>?_⟩,λ_ _=>rfl,?_,hb.os,hb.output,hb.tape⟩⟩
 ·rw [cell_of_heap (hb.block b (h3.dom b e fz hω))];exact hc
 ·rintro b (hb|⟨q,hb⟩)
  ·exact absurd hb (by simp)
  ·exact .inr (.inr ⟨q,hb⟩)
theorem enters {g : FuncId} {fn : Func} (hfn : P.funcs[g]? = some fn) (hb : fn.body.isSome = true) (hn : (fn.name == "runtime.NumGoroutine") = false) (args : Array Value) (w : World) : (callFunc g args).run P w = .ok (.enter g args) w := by
 have hbs:fn.body.isNone=false:=by cases h:fn.body<;>simp_all
 simp only [callFunc,Sem.run_bind,run_program,Result.andThen_ok,hfn,hn,hbs,qf,if_false,Sem.run_pure]
def Enters(P:Program)(g:FuncId):Prop:=∀(args:Array Value) (w:World),(callFunc g args).run P w=.ok (.enter g args) w
theorem below_grow(w:World)(k:Nat)(os:Array Obj):Below w.heap.size w (Sort.grow (w.drewN k) os):=by
 have hh:∀k (w:World),(w.drewN k).heap=w.heap/\(w.drewN k).os=w.os/\(w.drewN k).output=w.output/\(w.drewN k).tape=w.tape:=λk w=>⟨rfl,rfl,rfl,rfl⟩
 obtain ⟨h1,h2,h3,h4⟩:=hh k w;refine ⟨h2,h4,h3,?_,λi hi=>?_⟩
 ·show w.heap.size<=((w.drewN k).heap++os).size;rw [h1];simp
 ·show ((w.drewN k).heap++os)[i]?=_;rw [h1,Array.getElem?_append_left hi]
theorem qFt{w:World}{X:Cx}(h:qhi w X){b:Nat}{arr:Array Value}(hm:(b,λa=>a=arr)∈qy0){n:String}(hg:P.globalNamed n=some b):w.var? P n=some arr:=by
 obtain ⟨_,arr',t,fr,h2,h3⟩:=h _ hm;simp only at h2 h3;subst h3;simp only [World.var?,hg,qa,h2]
theorem qzt{w:World}{X:Cx}(h:qhi w X){b:Nat}{p:Array Value->Prop}(hm:(b,p)∈qy0):∃arr t fr,w.heap[b]?=some (.cells arr t fr)/\p arr:=(h _ hm).2
theorem qEf{w:World}{X:Cx}{u:Value}{v:Value}{O:List Nat}(h:Rep w X (.val u) v O):v=u:=by simp only [Rep]at h;exact h.1
theorem qun{w:World}{X:Cx}{u:Value}{vs:List Value}{O:List Nat}(h:RepL w X [.val u] vs O):vs=[u]:=by
 simp only [RepL,Rep]at h;obtain ⟨_,_,_,_,rfl,_,⟨rfl,_⟩,rfl,_⟩:=h;rfl
theorem qk5{w:World}{X:Cx}{u u2:Value}{vs:List Value}{O:List Nat}(h:RepL w X [.val u,.val u2] vs O):vs=[u,u2]:=by
 simp only [RepL,Rep]at h;obtain ⟨_,_,_,_,rfl,_,⟨rfl,_⟩,_,_,_,_,rfl,_,⟨rfl,_⟩,rfl,_⟩:=h;rfl
theorem qeA{w:World}{X:Cx}(u:Value):Rep w X (.val u) u []:=by simp [Rep]
theorem qnP{w:World}{X:Cx}{x y:V}{u v:Value}(h1:Rep w X x u [])(h2:Rep w X y v []):Rep w X (.tuple [x,y]) (.tuple #[u,v]) []:=by
 simp only [Rep,RepL];exact ⟨[u,v],rfl,u,[v],[],[],rfl,rfl,h1,v,[],[],[],rfl,rfl,h2,rfl,rfl⟩
theorem qCG{w:World}{X:Cx}{x y z:V}{u v q:Value}(h1:Rep w X x u [])(h2:Rep w X y v [])(h3:Rep w X z q []):Rep w X (.tuple [x,y,z]) (.tuple #[u,v,q]) []:=by
 simp only [Rep,RepL];exact ⟨[u,v,q],rfl,u,[v,q],[],[],rfl,rfl,h1,v,[q],[],[],rfl,rfl,h2,q,[],[],[],rfl,rfl,h3,rfl,rfl⟩
theorem qAT{w:World}{X:Cx}(t:TypeId)(u:Value):Rep w X (.iface t .undef) (.iface t u) []:=by
 simp only [Rep];exact ⟨u,rfl,trivial⟩
theorem qD3 {ρ : Ren} (L : LaysM.n171 P ρ) (hen : Enters P (ρ.f 171)) (htab : ∀ (w : World) (X : Cx), qhi w X -> Lib.TabIs P w "internal/strconv.uint64pow10" .u64 Lib.pow10Tab) (n : Int) (h0 : -9223372036854775808 <= n) (h1 : n <= 9223372036854775807) :
  qan P (ρ.f 171) [.val (.int .i64 n)] [] (.val (.string ⟨(Lib.itoa n).toArray⟩)) []:=by
 refine qdE rfl λw X vals hr hg _=>?_;obtain rfl:=qun hr;refine ⟨hen _ _,(Any.strconv_Itoa L n h0 h1 w (htab w X hg)).mono ?_⟩;rintro e w' ⟨rfl,k,os,rfl⟩;exact ⟨_,rfl,λX'=>by simp [Rep],below_grow w k os⟩
def qzk(t:TypeId)(s:List UInt8):V:=match Lib.atoiAll s with
 |.ok v=>.tuple [.val (.int .i64 v),.val .nilIface]
 |.range=>.tuple [.val (.int .i64 (Lib.atoiSat s)),.iface t .undef]
 |_=>.tuple [.val (.int .i64 0),.iface t .undef]
theorem qDN{ρ:Ren}(L:LaysC.n172 P ρ)(hen:Enters P (ρ.f 172))(h15:∀(w:World) (X:Cx),qhi w X->∃ev,w.cell? ⟨ρ.g 15,0,none⟩=some ev/\(ev=.nilIface\/∃te pe,ev=.iface te pe))
  (h16:∀(w:World) (X:Cx),qhi w X->∃ev,w.cell? ⟨ρ.g 16,0,none⟩=some ev/\(ev=.nilIface\/∃te pe,ev=.iface te pe)) (s:ByteArray) (hs:s.size<=281474976710656) :
  qan P (ρ.f 172) [.val (.string s)] [] (qzk (ρ.t 168) s.data.toList) []:=by
 unfold qzk;refine qdE (by split<;>simp [V.qq,ptrsL]) λw X vals hr hg _=>?_;obtain rfl:=qun hr;refine ⟨hen _ _,?_⟩;cases hc:Lib.atoiAll s.data.toList with
 |ok v =>
  refine (Any.strconv_Atoi_ok L s (by omega) v hc w).mono ?_;rintro e w' ⟨rfl,hw⟩;refine ⟨_,rfl,λX'=>qnP (qeA _) (qeA _),?_⟩;rcases hw with rfl|⟨t,rfl⟩
  ·exact Below.refl _ _
  ·exact Lib.bytesWorld_below _ _ _
 |range =>
  obtain ⟨ev,h1,h2⟩:=h16 w X hg;refine (Any.strconv_Atoi_range L s hs hc ev w h1 h2).mono ?_;rintro e w' ⟨N,rfl,_,_,hb⟩;exact ⟨_,rfl,λX'=>qnP (qeA _) (qAT _ _),hb⟩
 |_ =>
  obtain ⟨ev,h1,h2⟩:=h15 w X hg;refine (Any.strconv_Atoi_syntax L s hs hc ev w h1 h2).mono ?_;rintro e w' ⟨N,rfl,_,_,hb⟩;exact ⟨_,rfl,λX'=>qnP (qeA _) (qAT _ _),hb⟩
theorem qB3{ρ:Ren}(L:Lays.n143 P ρ)(hen:Enters P (ρ.f 143))(hm:∀(w:World) (X:Cx),qhi w X->∃m,w.cell? ⟨ρ.g 1,0,none⟩=some (.int .i64 m))(s p:ByteArray)(hs:s.size<4294967281) :
  qan P (ρ.f 143) [.val (.string s),.val (.string p)] [] (.val (.int .i64 (Lib.index s.data.toList p.data.toList))) []:=by
 refine qdE rfl λw X vals hr hg _=>?_;obtain rfl:=qk5 hr;obtain ⟨m,hm⟩:=hm w X hg;refine ⟨hen _ _,(Any.strings_Index L s p m w hs hm).mono ?_⟩;rintro e w' ⟨rfl,rfl⟩;exact ⟨_,rfl,λX'=>by simp [Rep],Below.refl _ _⟩
theorem qEU{ρ:Ren}(L:Lays.n145 P ρ)(hen:Enters P (ρ.f 145))(hm:∀(w:World) (X:Cx),qhi w X->∃m,w.cell? ⟨ρ.g 1,0,none⟩=some (.int .i64 m))(s p:ByteArray)(hs:s.size<4294967281) :
  qan P (ρ.f 145) [.val (.string s),.val (.string p)] [] (.tuple [.val (.string ⟨(Lib.cut s.data.toList p.data.toList).1.toArray⟩),.val (.string ⟨(Lib.cut s.data.toList p.data.toList).2.1.toArray⟩),.val (.bool (Lib.cut s.data.toList p.data.toList).2.2)]) []:=by
 refine qdE (by simp [V.qq,ptrsL]) λw X vals hr hg _=>?_;obtain rfl:=qk5 hr;obtain ⟨m,hm⟩:=hm w X hg;refine ⟨hen _ _,(Any.strings_Cut L s p m w hs hm).mono ?_⟩;rintro e w' ⟨rfl,n,rfl⟩;exact ⟨_,rfl,λX'=>qCG (qeA _) (qeA _) (qeA _),⟨rfl,rfl,rfl,Nat.le_refl _,λ_ _=>rfl⟩⟩
def qgp:List V->Option (List (List UInt8))
 |[]=>some []
 |.val (.string s)::l=>(qgp l).map (s.data.toList::·)
 |_=>none
theorem qq6{w:World}{X:Cx}:∀{l:List V} {s:Nat} {vals:List Value} {O:List Nat} {xs:List (List UInt8)},qgp l=some xs->RepE w X s l vals O->vals=xs.map λx=>.string ⟨x.toArray⟩
 |[],s,vals,O,xs,hb,hr=>by
  simp only [qgp,qb]at hb;simp only [RepE]at hr;subst hb;exact hr.1
 |x::l,s,vals,O,xs,hb,hr=>by
  unfold qgp at hb;split at hb
  ·rename_i h;cases h
  ·rename_i str l' h;cases h;obtain ⟨xs',hb',rfl⟩:=qc.1 hb;simp only [RepE,Rep]at hr;obtain ⟨u,vs,O1,O2,rfl,hs,rfl,⟨rfl,rfl⟩,hr⟩:=hr;rw [qq6 hb' hr];simp [Value.cells]
  ·cases hb
theorem qxn:∀{l:List V} {xs:List (List UInt8)},qgp l=some xs->l.length=xs.length
 |[],xs,hb=>by
  simp only [qgp,qb]at hb;subst hb;rfl
 |x::l,xs,hb=>by
  unfold qgp at hb;split at hb
  ·rename_i h;cases h
  ·rename_i str l' h;cases h;obtain ⟨xs',hb',rfl⟩:=qc.1 hb;simp [qxn hb']
  ·cases hb
theorem qD5{ρ:Ren}(L:Lays.n156 P ρ)(E:Builder.Extra P ρ)(hen:Enters P (ρ.f 156))(fl:Fl)(c:Bool)(l:List V)(xs:List (List UInt8))(sep:ByteArray)(hl:qgp l=some xs)(hN:xs.length<=140737488355328)
  (hlen:(Lib.join xs sep.data.toList).length<=140737488355328):qan P (ρ.f 156) [.sl fl c l,.val (.string sep)] [] (.val (.string ⟨(Lib.join xs sep.data.toList).toArray⟩)) []:=by
 refine qdE rfl λw X vals hr hg hd=>?_;simp only [RepL]at hr;obtain ⟨u,_,O1,_,rfl,_,h1,u2,_,_,_,rfl,_,h2,rfl,_⟩:=hr;obtain rfl:=qEf h2;refine ⟨hen _ _,?_⟩;simp only [Rep]at h1;rcases h1.2 with ⟨rfl,_,hv⟩|⟨b,off,cap,s,vs,O',rfl,hcap,_,hvl,hs0,hall,hseg,hfl,hE,_⟩
 ·simp only [qgp,qb]at hl;subst hl;rcases hv with rfl|⟨_,a,rfl⟩
  ·refine (Any.strings_Join_none L E none 0 sep w).mono ?_;rintro e w' ⟨rfl,rfl⟩;exact ⟨_,rfl,λX'=>by rw [Lib.join_nil];exact qeA _,Below.refl _ _⟩
  ·refine (Any.strings_Join_none L E (some a) 0 sep w).mono ?_;rintro e w' ⟨rfl,rfl⟩;exact ⟨_,rfl,λX'=>by rw [Lib.join_nil];exact qeA _,Below.refl _ _⟩
 ·have hlen2:=qxn hl;have hvs:=qq6 hl hE;have hb:b<w.heap.size:=by
   obtain ⟨e,fz,hω,_⟩:=hfl;exact hd b e fz hω
  have hj:=Any.strings_Join L E b off cap (xs.map λx=>⟨x.toArray⟩) sep w (λj x hx=>by
    rw [List.getElem?_map]at hx;obtain ⟨y,hy,rfl⟩:=qc.1 hx;exact hseg j _ (by rw [hvs,List.getElem?_map,hy];rfl)) hb (by simpa using hN) (by rw [List.length_map,<- hlen2];exact hcap) (by simpa [List.map_map,Function.comp_def]using hlen)
  rw [List.length_map,<- hlen2]at hj;refine hj.mono ?_;rintro e w' ⟨rfl,hb⟩;exact ⟨_,rfl,λX'=>by simp [Rep,List.map_map,Function.comp_def],hb⟩
end
end Go.Ab
end
section
namespace Go.Proofs.YtkmcmngpifalcaaGreatDoor
open Go Go.Ab Go.RowKit
theorem qsw(s sep:ByteArray)(w:World):Calls Tryz.prog 95 #[.string s,.string sep,.int .i64 0] w λe w' =>
  e=.returned (.func (.func 139) #[] #[.pointer (some ⟨w.heap.size+1,0,none⟩),.pointer (some ⟨w.heap.size,0,none⟩),.pointer (some ⟨w.heap.size+2,0,none⟩)])/\∃t t2 t3,w'=((w.alloc (.cells #[.string s] t)).alloc (.cells #[.string sep] t2)).alloc (.cells #[.int .i64 0] t3):=by
 go_enter Tryz.func95,Tryz.ntmps95
 go_wp2
 go_ret
 exact ⟨by simp,_,_,_,rfl⟩
theorem qrk(s sep:ByteArray)(w:World):Calls Tryz.prog 43 #[.string s,.string sep] w λe w' =>
  e=.returned (.func (.func 139) #[] #[.pointer (some ⟨w.heap.size+1,0,none⟩),.pointer (some ⟨w.heap.size,0,none⟩),.pointer (some ⟨w.heap.size+2,0,none⟩)])/\∃t t2 t3,w'=((w.alloc (.cells #[.string s] t)).alloc (.cells #[.string sep] t2)).alloc (.cells #[.int .i64 0] t3):=by
 go_enter Tryz.func43,Tryz.ntmps43
 go_wp2_with fail
 refine (qsw s sep w).mono λe w1 ⟨he,hw⟩=>?_;subst he
 go_wp2
 go_ret
 exact ⟨rfl,hw⟩
theorem qGd:qDh Tryz.prog Hn.hints:=λg c h=>by
 simp only [Hn.hints,Hn.qF8]at h;split at h
 ·rename_i e;subst e;cases h;intro s sep w;exact .inl ⟨enters Tryz.func43 (by kernel_rfl) (by kernel_rfl) _ _,(qrk s sep w).mono λe w' ⟨h1,h2⟩=>⟨_,h1,rfl,h2⟩⟩
 ·cases h
end Go.Proofs.YtkmcmngpifalcaaGreatDoor
end
section
namespace Go.Proofs.YtkmcmngpifalcaaGreatDoor.St0
open Go Go.Ab Go.Tx
section
set_option maxRecDepth 100000
noncomputable section
@[reducible] def I:Ty:=.int .i64
abbrev yt1 : Ty := .pair I (.pair I (.pair I .unit))
abbrev yy2 : Type := Int×Int×Int×Unit
abbrev yy3 : Type := Int×Int×Int×Int×Int×Unit
abbrev yy4 : Type := List (Int×Int×Int×Int×Unit)
abbrev yt5 : Ty := .pair I (.pair I yt1)
@[reducible] def w64 (n:Int):Int:=IntKind.wrap .i64 n
def qr3:List (List Tmp×FuncId×Kind×Join)->List Tmp->FuncId->Kind->Option Join
 |[],_,_,_=>none
 |(c,f,k,j)::l,c',f',k'=>if f=f' then (if k=k' then (if c=c' then some j else qr3 l c' f' k')else qr3 l c' f' k')else qr3 l c' f' k'
def qcd(js:List (List Tmp×FuncId×Kind×Join))(inl:List (List Tmp×FuncId×Tmp)):TH where
 lib:=λ_=>false
 join:=qr3 js
 inl:=λc f d=>inl.any λ(c',f',d')=>decide (f=f')&&decide (d=d')&&decide (c=c')
def Lb:FuncId->Option (List V->Option V):=λ_=>none
theorem hJ{js:List (List Tmp×FuncId×Kind×Join)}{inl:List (List Tmp×FuncId×Tmp)}:∀g,(qcd js inl).lib g=false->Lb g=none:=λg h=>rfl
def qE(a0:Int)(a1:Int)(a2:Int):Option Bool :=
 (bif decide (a1<=a0)then
   some (decide (a0<=a2))
  else
   some false).bind λ(p1:Bool) =>
 some p1
def qI:Entry:=⟨99,[.ty I,.ty I,.ty I],[(.bool,0)],λx=>qE x.1 x.2.1 x.2.2⟩
def qfl:TH:=qcd [([],99,.region 1,{lv:=[⟨none,6,0⟩],ps:=[(.bool,0)],D:=⟨32704⟩})] []
theorem qfn(x:denP qI.ps):fnT Tryz.prog Hn.hints qfl (qp1 []) 40 99 (qcI qI.ps x) qI.rs=qI.F x:=by kernel_rfl
theorem qaJ:qav Tryz.prog Hn.hints Lb qI:=qde qx hJ 40 _ _ _ _ qfn
def qao(a0:Int)(a1:Int):Option Bool :=
 (qE a0 (w64 (0-a1)) a1).bind λx1 =>
 some x1
def qat:Entry:=⟨113,[.ty I,.ty I],[(.bool,0)],λx=>qao x.1 x.2⟩
def qm3:TH:=qcd [] []
theorem qnb(x:denP qat.ps):fnT Tryz.prog Hn.hints qm3 (qp1 [qI]) 40 113 (qcI qat.ps x) qat.rs=qat.F x:=by kernel_rfl
theorem qey:qav Tryz.prog Hn.hints Lb qat:=qde (qn qaJ qx) hJ 40 _ _ _ _ qnb
def qu(a0:Bool)(a1:Int):Option Int :=
 bif a0 then
  some 0
 else
  some a1
def qH:Entry:=⟨65,[.ty .bool,.ty I],[(I,0)],λx=>qu x.1 x.2⟩
def qfk:TH:=qcd [] []
theorem qfm(x:denP qH.ps):fnT Tryz.prog Hn.hints qfk (qp1 []) 40 65 (qcI qH.ps x) qH.rs=qH.F x:=by kernel_rfl
theorem qaI:qav Tryz.prog Hn.hints Lb qH:=qde qx hJ 40 _ _ _ _ qfm
def qy(a0:(List Int)):Option Int :=
 (qA (λ(s2:Int) =>
   bif decide (s2<(a0.length:Int))then
    (idx a0 s2).bind λx3 =>
    bif !(decide (x3=0))then
     some (.inr (.inr x3))
    else
     some (.inl (w64 (s2+1)))
   else
    some (.inr (.inl ()))) 0).bind (Sum.elim (λ(p4:Unit) =>
 some 0) some)
def qT:Entry:=⟨66,[.ty (.sl I)],[(I,0)],λx=>qy x⟩
def qfV:TH:=qcd [([],66,.block 0,{lv:=[],ps:=[],abn:=true,D:=⟨32656⟩}),
 ([],66,.loop 0,{lv:=[⟨none,7,0⟩],ps:=[(I,0)],D:=⟨32656⟩})] []
theorem qfW(x:denP qT.ps):fnT Tryz.prog Hn.hints qfV (qp1 []) 40 66 (qcI qT.ps x) qT.rs=qT.F x:=by kernel_rfl
theorem qbe:qav Tryz.prog Hn.hints Lb qT:=qde qx hJ 40 _ _ _ _ qfW
def qb2(a0:yy3):Option Int :=
 ((qao a0.1 (60:Int)).bind λx1 =>
  bif x1 then
   (qao a0.2.1 (60:Int)).bind λx2 =>
   bif x2 then
    (qE a0.2.2.1 (1:Int) (8:Int)).bind λx3 =>
    bif x3 then
     (qE a0.2.2.2.1 (1:Int) (3:Int)).bind λx4 =>
     bif x4 then
      (qE a0.2.2.2.2.1 (1:Int) (6:Int)).bind λx5 =>
      some x5
     else
      some false
    else
     some false
   else
    some false
  else
   some false).bind λ(p6:Bool) =>
 (qu p6 (2:Int)).bind λx7 =>
 (qu (decide (a0.1<=a0.2.1)) (9:Int)).bind λx8 =>
 (qy ([x7,x8])).bind λx9 =>
 some x9
def qas:Entry:=⟨114,[.ty yt5],[(I,0)],λx=>qb2 x⟩
def qiT:TH:=qcd [([],114,.region 1,{lv:=[⟨none,3,0⟩],ps:=[(.bool,0)],D:=⟨536870904⟩,rs:=[⟨0,1⟩],Dn:=⟨502233544⟩})] []
theorem qiY(x:denP qas.ps):fnT Tryz.prog Hn.hints qiT (qp1 [qT,qat,qH,qI]) 40 114 (qcI qas.ps x) qas.rs=qas.F x:=by kernel_rfl
theorem qi4:qav Tryz.prog Hn.hints Lb qas:=qde (qn qbe (qn qey (qn qaI (qn qaJ qx)))) hJ 40 _ _ _ _ qiY
def qcp(a0:yy3)(a1:yy2):Option Int :=
 ((qE a1.1 a0.1 a0.2.1).bind λx1 =>
  bif x1 then
   (qao a1.2.1 a0.2.2.1).bind λx2 =>
   bif x2 then
    (qao a1.2.2.1 a0.2.2.2.1).bind λx3 =>
    some x3
   else
    some false
  else
   some false).bind λ(p4:Bool) =>
 (qb2 a0).bind λx5 =>
 (qu p4 (2:Int)).bind λx6 =>
 (qy ([x5,x6])).bind λx7 =>
 some x7
def qax:Entry:=⟨63,[.ty yt5,.ty yt1],[(I,0)],λx=>qcp x.1 x.2⟩
def qjD:TH:=qcd [([],63,.region 1,{lv:=[⟨none,5,0⟩],ps:=[(.bool,0)],D:=⟨536870880⟩,rs:=[⟨0,2⟩,⟨0,3⟩],Dn:=⟨494593184⟩})] []
theorem qjI(x:denP qax.ps):fnT Tryz.prog Hn.hints qjD (qp1 [qas,qT,qat,qH,qI]) 40 63 (qcI qax.ps x) qax.rs=qax.F x:=by kernel_rfl
theorem qjQ:qav Tryz.prog Hn.hints Lb qax:=qde (qn qi4 (qn qbe (qn qey (qn qaI (qn qaJ qx))))) hJ 40 _ _ _ _ qjI
def qeU(a0:yy2):Option Bool :=
 (bif decide (a0.2.1=0)then
   some (decide (a0.2.2.1=0))
  else
   some false).bind λ(p1:Bool) =>
 some p1
def qbl:Entry:=⟨115,[.ty yt1],[(.bool,0)],λx=>qeU x⟩
def qoA:TH:=qcd [([],115,.region 1,{lv:=[⟨none,2,0⟩],ps:=[(.bool,0)],D:=⟨2044⟩,rs:=[⟨0,1⟩],Dn:=⟨1908⟩})] []
theorem qoI(x:denP qbl.ps):fnT Tryz.prog Hn.hints qoA (qp1 []) 40 115 (qcI qbl.ps x) qbl.rs=qbl.F x:=by kernel_rfl
theorem qo5:qav Tryz.prog Hn.hints Lb qbl:=qde qx hJ 40 _ _ _ _ qoI
def qeV(a0:yy3)(a1:yy2)(a2:Int):Option (yy2×Bool) :=
 ((qao a2 a0.2.2.2.1).bind λx1 =>
  bif !x1 then
   some true
  else
   (qao (w64 (a2-a1.2.2.1)) a0.2.2.2.2.1).bind λx2 =>
   some (!x2)).bind λ(p3:Bool) =>
 bif p3 then
  some (a1,false)
 else
  ((qao (w64 (a1.2.1+a2)) a0.2.2.1).bind λx4 =>
   bif x4 then
    (qE (w64 (a1.1+(w64 (a1.2.1+a2)))) a0.1 a0.2.1).bind λx5 =>
    some (x5,w64 (a1.1+(w64 (a1.2.1+a2))),w64 (a1.2.1+a2),a2)
   else
    some (false,w64 (a1.1+(w64 (a1.2.1+a2))),w64 (a1.2.1+a2),a2)).bind λ(p6:(Bool×Int×Int×Int)) =>
  some ((p6.2.1,p6.2.2.1,p6.2.2.2,()),p6.1)
def qbm:Entry:=⟨116,[.ty yt5,.ty yt1,.ty I],[(yt1,0),(.bool,0)],λx=>qeV x.1 x.2.1 x.2.2⟩
def qoD:TH:=qcd [([],116,.region 1,{lv:=[⟨none,22,0⟩],ps:=[(.bool,0)],D:=⟨8388352⟩,rs:=[⟨0,3⟩,⟨0,4⟩],Dn:=⟨8092928⟩}),
 ([],116,.region 5,{lv:=[⟨none,7,0⟩,⟨some 0,6,0⟩,⟨some 0,6,1⟩,⟨some 0,6,2⟩],ps:=[(.bool,0),(I,0),(I,0),(I,0)],D:=⟨18014261070528640⟩,wr:=[⟨0,6⟩],rs:=[⟨0,3⟩,⟨0,4⟩],Dn:=⟨16095338402152576⟩})] []
theorem qoL(x:denP qbm.ps):fnT Tryz.prog Hn.hints qoD (qp1 [qat,qI]) 40 116 (qcI qbm.ps x) qbm.rs=qbm.F x:=by kernel_rfl
theorem qo6:qav Tryz.prog Hn.hints Lb qbm:=qde (qn qey (qn qaJ qx)) hJ 40 _ _ _ _ qoL
def qg0(a0:yy3)(a1:yy2):Option ((List Int)×Bool) :=
 (qA (λ(s2:(yy4×Int×(List yy2))) =>
   bif decide (s2.2.1<(s2.1.length:Int))then
    (idx s2.1 s2.2.1).bind λx3 =>
    (qeU (x3.1,x3.2.1,x3.2.2.1,())).bind λx4 =>
    bif x4 then
     (qA (λ(s7:((List Int)×Int)) =>
       (idx s2.1 s7.2).bind λx8 =>
       bif decide (x8.2.2.2.1>=0)then
        (idx s2.1 s7.2).bind λx9 =>
        (app s7.1 ([x9.2.2.1])).bind λx10 =>
        (idx s2.1 s7.2).bind λx11 =>
        some (.inl (x10,x11.2.2.2.1))
       else
        some (.inr s7.1)) ([],s2.2.1)).bind λ(p12:(List Int)) =>
     (qFk p12).bind λx13 =>
     some (.inr (.inr (x13,true)))
    else
     (qA (λ(s15:(yy4×Int×(List yy2))) =>
       bif decide (s15.2.1<=a0.2.2.2.1)then
        (idx s15.1 s2.2.1).bind λx16 =>
        (qeV a0 (x16.1,x16.2.1,x16.2.2.1,()) s15.2.1).bind λx17 =>
        (bif x17.2 then
          some (!(qgN yt1 s15.2.2 x17.1))
         else
          some false).bind λ(p18:Bool) =>
        (bif p18 then
          (app s15.1 ([(x17.1.1,x17.1.2.1,x17.1.2.2.1,s2.2.1,())])).bind λx19 =>
          some (x19,qlt yt1 s15.2.2 x17.1)
         else
          some (s15.1,s15.2.2)).bind λ(p20:(yy4×(List yy2))) =>
        some (.inl (p20.1,w64 (s15.2.1+1),p20.2))
       else
        some (.inr (s15.1,s15.2.2))) (s2.1,w64 (0-a0.2.2.2.1),s2.2.2)).bind λ(p21:(yy4×(List yy2))) =>
     some (.inl (p21.1,w64 (s2.2.1+1),p21.2))
   else
    some (.inr (.inl ()))) ([(a1.1,a1.2.1,a1.2.2.1,(-1),())],0,qlt yt1 [] a1)).bind (Sum.elim (λ(p22:Unit) =>
 some ([],false)) some)
def qch:Entry:=⟨64,[.ty yt5,.ty yt1],[((.sl I),1),(.bool,0)],λx=>qg0 x.1 x.2⟩
def qrS:TH:=qcd [([],64,.block 0,{lv:=[],ps:=[],abn:=true,D:=⟨2475880078570760549797216064⟩,wr:=[⟨0,12⟩,⟨0,16401⟩]}),
 ([],64,.loop 0,{lv:=[⟨none,6,0⟩,⟨none,8,0⟩,⟨some 0,16401,0⟩],ps:=[((.sl (.pair I yt1)),1),(I,0),((.mset yt1),0)],D:=⟨2475880078570760549797216064⟩,wr:=[⟨0,12⟩,⟨0,16401⟩],rs:=[⟨0,2⟩],Dn:=⟨2475880077345781451152441152⟩}),
 ([],64,.block 2,{lv:=[⟨none,9,0⟩],ps:=[((.sl I),1)],D:=⟨9007190664807936⟩}),
 ([],64,.loop 2,{lv:=[⟨none,9,0⟩,⟨none,10,0⟩],ps:=[((.sl I),1),(I,0)],D:=⟨9007190664807936⟩}),
 ([],64,.block 4,{lv:=[⟨none,6,0⟩,⟨some 0,16401,0⟩],ps:=[((.sl (.pair I yt1)),1),((.mset yt1),0)],D:=⟨2475880077994299797494839872⟩,wr:=[⟨0,12⟩,⟨0,16401⟩],rs:=[⟨0,2⟩],Dn:=⟨2475880076841378292887992896⟩}),
 ([],64,.loop 4,{lv:=[⟨none,6,0⟩,⟨none,11,0⟩,⟨some 0,16401,0⟩],ps:=[((.sl (.pair I yt1)),1),(I,0),((.mset yt1),0)],D:=⟨2475880077994299797494839872⟩,wr:=[⟨0,12⟩,⟨0,16401⟩],rs:=[⟨0,2⟩,⟨0,12⟩,⟨0,16401⟩],Dn:=⟨2465906438829557602196662848⟩}),
 ([],64,.region 18,{lv:=[⟨none,82,0⟩],ps:=[(.bool,0)],D:=⟨9595848693191119074230272⟩,rs:=[⟨0,16401⟩],Dn:=⟨9293617238287461780553728⟩}),
 ([],64,.cond 82,{lv:=[⟨none,6,0⟩,⟨some 0,16401,0⟩],ps:=[((.sl (.pair I yt1)),1),((.mset yt1),0)],D:=⟨2466208672013843516400599104⟩,wr:=[⟨0,16401⟩],rs:=[⟨0,16401⟩],Dn:=⟨2456537265456926483002949696⟩})] []
theorem qrY(x:denP qch.ps):fnT Tryz.prog Hn.hints qrS (qp1 [qbl,qbm]) 40 64 (qcI qch.ps x) qch.rs=qch.F x:=by kernel_rfl
theorem qsa:qav Tryz.prog Hn.hints Lb qch:=qde (qn qo5 (qn qo6 qx)) hJ 40 _ _ _ _ qrY
def qdt(a0:yy3)(a1:yy2):Option ((List Int)×Int) :=
 (qcp a0 a1).bind λx1 =>
 bif !(decide (x1=0))then
  some ([],x1)
 else
  (qg0 a0 a1).bind λx2 =>
  (qu x2.2 (12:Int)).bind λx3 =>
  some (x2.1,x3)
def qaw:Entry:=⟨25,[.ty yt5,.ty yt1],[((.sl I),1),(I,0)],λx=>qdt x.1 x.2⟩
def qlS:TH:=qcd [] []
theorem qlV(x:denP qaw.ps):fnT Tryz.prog Hn.hints qlS (qp1 [qax,qch,qH]) 40 25 (qcI qaw.ps x) qaw.rs=qaw.F x:=by kernel_rfl
theorem ql4:qav Tryz.prog Hn.hints Lb qaw:=qde (qn qjQ (qn qsa (qn qaI qx))) hJ 40 _ _ _ _ qlV
end
end
end Go.Proofs.YtkmcmngpifalcaaGreatDoor.St0
end
section
namespace Go.Proofs.YtkmcmngpifalcaaGreatDoor.St0
open Go Go.Ab Go.Tx
def Le{α:Type}(a b:Option α):Prop:=∀r,a=some r->b=some r
theorem Le.refl{α:Type}(a:Option α):Le a a:=λ_ h=>h
theorem Le.bind{α β:Type}{a a':Option α}{f f':α->Option β}(h:Le a a')(hf:∀x,Le (f x) (f' x)):Le (a.bind f) (a'.bind f'):=λr hr=>by
 obtain ⟨x,hx,hr⟩:=qd.1 hr;rw [h x hx];exact hf x r hr
theorem Le.cond{α:Type}{c:Bool}{a a' b b':Option α}(h:Le a a')(h':Le b b'):Le (bif c then a else b) (bif c then a' else b'):=by cases c<;>assumption
theorem Le.elim{α β γ:Type}{f f':α->Option γ}{g:β->Option γ}(hf:∀x,Le (f x) (f' x))(x:α⊕β):Le (Sum.elim f g x) (Sum.elim f' g x):=by
 cases x with
 |inl x=>exact hf x
 |inr y=>exact Le.refl _
theorem Le.map{α β:Type}{a a':Option α}{f:α->β}(h:Le a a'):Le (a.map f) (a'.map f):=λr hr=>by
 obtain ⟨x,hx,rfl⟩:=qc.1 hr;rw [h x hx];rfl
theorem qwV{σ ρ:Type}{f g:σ->Option (σ⊕ρ)}(h:∀s,Le (f s) (g s)):∀n s,Le (qdi f n s) (qdi g n s)
 |0,s=>Le.refl _
 |n+1,s=>λr hr=>by
  simp only [qdi]at hr ⊢;cases hf:f s with
  |none=>rw [hf]at hr;cases hr
  |some x =>
   rw [hf]at hr;rw [h s x hf];cases x with
   |inl s'=>exact qwV h n s' r hr
   |inr q=>exact hr
theorem ql0{σ ρ:Type}{f:σ->Option (σ⊕ρ)}:∀{n m:Nat} {s:σ} {r:ρ},n<=m->qdi f n s=some r->qdi f m s=some r
 |0,_,_,_,_,h=>by simp [qdi]at h
 |n+1,0,_,_,hle,_=>by omega
 |n+1,m+1,s,r,hle,h=>by
  simp only [qdi]at h ⊢;cases hf:f s with
  |none=>rw [hf]at h;cases h
  |some x =>
   rw [hf]at h;cases x with
   |inl s'=>exact ql0 (by omega) h
   |inr q=>exact h
theorem qkQ{σ ρ:Type}{f:σ->Option (σ⊕ρ)}{n:Nat}{s:σ}{r:ρ}(h:qdi f n s=some r):qA f s=some r:=by
 unfold qA;rw [dif_pos ⟨n,r,h⟩];have h2:=Classical.choose_spec (Classical.choose_spec (⟨n,r,h⟩:∃n r,qdi f n s=some r));have h3:=ql0 (Nat.le_max_left n (Classical.choose (⟨n,r,h⟩:∃n r,qdi f n s=some r))) h;have h4:=ql0 (Nat.le_max_right n (Classical.choose (⟨n,r,h⟩:∃n r,qdi f n s=some r))) h2;rw [h3]at h4;exact h4.symm
theorem Le.loop{σ ρ:Type}{f g:σ->Option (σ⊕ρ)}{n:Nat}{s:σ}(h:∀s,Le (f s) (g s)):Le (qdi f n s) (qA g s):=λr hr=>qkQ (qwV h n s r hr)
def qi1{σ ρ:Type}(f:σ->Option (σ⊕ρ))(s:σ):Option ρ:=qdi f 400 s
theorem Le.qi1{σ ρ:Type}{f g:σ->Option (σ⊕ρ)}{s:σ}(h:∀s,Le (f s) (g s)):Le (St0.qi1 f s) (qA g s):=Le.loop h
def qaK(a0:Int)(a1:Int)(a2:Int):Option Bool :=
 (bif decide (a1<=a0)then
   some (decide (a0<=a2))
  else
   some false).bind λ(p1:Bool) =>
 some p1
theorem qcS(a0:Int)(a1:Int)(a2:Int):Le (qaK a0 a1 a2) (qE a0 a1 a2):=by
 unfold qaK qE;repeat' first|exact Le.refl _|refine Le.qi1 λ_=>?_|refine Le.elim (λ_=>?_) _|refine Le.bind ?_ λ_=>?_|refine Le.cond ?_ ?_|refine Le.map ?_
def qah(a0:Int)(a1:Int):Option Bool :=
 (qaK a0 (w64 (0-a1)) a1).bind λx1 =>
 some x1
theorem qdP(a0:Int)(a1:Int):Le (qah a0 a1) (qao a0 a1):=by
 unfold qah qao;repeat' first|exact Le.refl _|exact qcS _ _ _|refine Le.qi1 λ_=>?_|refine Le.elim (λ_=>?_) _|refine Le.bind ?_ λ_=>?_|refine Le.cond ?_ ?_|refine Le.map ?_
def qbv(a0:Bool)(a1:Int):Option Int :=
 bif a0 then
  some 0
 else
  some a1
theorem qeB(a0:Bool)(a1:Int):Le (qbv a0 a1) (qu a0 a1):=by
 unfold qbv qu;repeat' first|exact Le.refl _|refine Le.qi1 λ_=>?_|refine Le.elim (λ_=>?_) _|refine Le.bind ?_ λ_=>?_|refine Le.cond ?_ ?_|refine Le.map ?_
def qd4(a0:(List Int)):Option Int :=
 (qi1 (λ(s2:Int) =>
   bif decide (s2<(a0.length:Int))then
    (idx a0 s2).bind λx3 =>
    bif !(decide (x3=0))then
     some (.inr (.inr x3))
    else
     some (.inl (w64 (s2+1)))
   else
    some (.inr (.inl ()))) 0).bind (Sum.elim (λ(p4:Unit) =>
 some 0) some)
theorem qib(a0:(List Int)):Le (qd4 a0) (qy a0):=by
 unfold qd4 qy;repeat' first|exact Le.refl _|refine Le.qi1 λ_=>?_|refine Le.elim (λ_=>?_) _|refine Le.bind ?_ λ_=>?_|refine Le.cond ?_ ?_|refine Le.map ?_
def qcy(a0:(Int×Int×Int×Int×Int×Unit)):Option Int :=
 ((qah a0.1 (60:Int)).bind λx1 =>
  bif x1 then
   (qah a0.2.1 (60:Int)).bind λx2 =>
   bif x2 then
    (qaK a0.2.2.1 (1:Int) (8:Int)).bind λx3 =>
    bif x3 then
     (qaK a0.2.2.2.1 (1:Int) (3:Int)).bind λx4 =>
     bif x4 then
      (qaK a0.2.2.2.2.1 (1:Int) (6:Int)).bind λx5 =>
      some x5
     else
      some false
    else
     some false
   else
    some false
  else
   some false).bind λ(p6:Bool) =>
 (qbv p6 (2:Int)).bind λx7 =>
 (qbv (decide (a0.1<=a0.2.1)) (9:Int)).bind λx8 =>
 (qd4 ([x7,x8])).bind λx9 =>
 some x9
theorem qia(a0:(Int×Int×Int×Int×Int×Unit)):Le (qcy a0) (qb2 a0):=by
 unfold qcy qb2;repeat' first|exact Le.refl _|exact qcS _ _ _|exact qdP _ _|exact qeB _ _|exact qib _|refine Le.qi1 λ_=>?_|refine Le.elim (λ_=>?_) _|refine Le.bind ?_ λ_=>?_|refine Le.cond ?_ ?_|refine Le.map ?_
def qc1(a0:(Int×Int×Int×Int×Int×Unit))(a1:(Int×Int×Int×Unit)):Option Int :=
 ((qaK a1.1 a0.1 a0.2.1).bind λx1 =>
  bif x1 then
   (qah a1.2.1 a0.2.2.1).bind λx2 =>
   bif x2 then
    (qah a1.2.2.1 a0.2.2.2.1).bind λx3 =>
    some x3
   else
    some false
  else
   some false).bind λ(p4:Bool) =>
 (qcy a0).bind λx5 =>
 (qbv p4 (2:Int)).bind λx6 =>
 (qd4 ([x5,x6])).bind λx7 =>
 some x7
theorem qi7(a0:(Int×Int×Int×Int×Int×Unit))(a1:(Int×Int×Int×Unit)):Le (qc1 a0 a1) (qcp a0 a1):=by
 unfold qc1 qcp;repeat' first|exact Le.refl _|exact qcS _ _ _|exact qdP _ _|exact qeB _ _|exact qib _|exact qia _|refine Le.qi1 λ_=>?_|refine Le.elim (λ_=>?_) _|refine Le.bind ?_ λ_=>?_|refine Le.cond ?_ ?_|refine Le.map ?_
def qfu(a0:(Int×Int×Int×Unit)):Option Bool :=
 (bif decide (a0.2.1=0)then
   some (decide (a0.2.2.1=0))
  else
   some false).bind λ(p1:Bool) =>
 some p1
theorem qnm(a0:(Int×Int×Int×Unit)):Le (qfu a0) (qeU a0):=by
 unfold qfu qeU;repeat' first|exact Le.refl _|refine Le.qi1 λ_=>?_|refine Le.elim (λ_=>?_) _|refine Le.bind ?_ λ_=>?_|refine Le.cond ?_ ?_|refine Le.map ?_
def qfv(a0:(Int×Int×Int×Int×Int×Unit))(a1:(Int×Int×Int×Unit))(a2:Int):Option ((Int×Int×Int×Unit)×Bool) :=
 ((qah a2 a0.2.2.2.1).bind λx1 =>
  bif !x1 then
   some true
  else
   (qah (w64 (a2-a1.2.2.1)) a0.2.2.2.2.1).bind λx2 =>
   some (!x2)).bind λ(p3:Bool) =>
 bif p3 then
  some (a1,false)
 else
  ((qah (w64 (a1.2.1+a2)) a0.2.2.1).bind λx4 =>
   bif x4 then
    (qaK (w64 (a1.1+(w64 (a1.2.1+a2)))) a0.1 a0.2.1).bind λx5 =>
    some (x5,w64 (a1.1+(w64 (a1.2.1+a2))),w64 (a1.2.1+a2),a2)
   else
    some (false,w64 (a1.1+(w64 (a1.2.1+a2))),w64 (a1.2.1+a2),a2)).bind λ(p6:(Bool×Int×Int×Int)) =>
  some ((p6.2.1,p6.2.2.1,p6.2.2.2,()),p6.1)
theorem qnn(a0:(Int×Int×Int×Int×Int×Unit))(a1:(Int×Int×Int×Unit))(a2:Int):Le (qfv a0 a1 a2) (qeV a0 a1 a2):=by
 unfold qfv qeV;repeat' first|exact Le.refl _|exact qcS _ _ _|exact qdP _ _|refine Le.qi1 λ_=>?_|refine Le.elim (λ_=>?_) _|refine Le.bind ?_ λ_=>?_|refine Le.cond ?_ ?_|refine Le.map ?_
def qg1(a0:(Int×Int×Int×Int×Int×Unit))(a1:(Int×Int×Int×Unit)):Option ((List Int)×Bool) :=
 (qi1 (λ(s2:((List (Int×Int×Int×Int×Unit))×Int×(List (Int×Int×Int×Unit)))) =>
   bif decide (s2.2.1<(s2.1.length:Int))then
    (idx s2.1 s2.2.1).bind λx3 =>
    (qfu (x3.1,x3.2.1,x3.2.2.1,())).bind λx4 =>
    bif x4 then
     (qi1 (λ(s7:((List Int)×Int)) =>
       (idx s2.1 s7.2).bind λx8 =>
       bif decide (x8.2.2.2.1>=0)then
        (idx s2.1 s7.2).bind λx9 =>
        (app s7.1 ([x9.2.2.1])).bind λx10 =>
        (idx s2.1 s7.2).bind λx11 =>
        some (.inl (x10,x11.2.2.2.1))
       else
        some (.inr s7.1)) ([],s2.2.1)).bind λ(p12:(List Int)) =>
     (qFk p12).bind λx13 =>
     some (.inr (.inr (x13,true)))
    else
     (qi1 (λ(s15:((List (Int×Int×Int×Int×Unit))×Int×(List (Int×Int×Int×Unit)))) =>
       bif decide (s15.2.1<=a0.2.2.2.1)then
        (idx s15.1 s2.2.1).bind λx16 =>
        (qfv a0 (x16.1,x16.2.1,x16.2.2.1,()) s15.2.1).bind λx17 =>
        (bif x17.2 then
          some (!(qgN (.pair I (.pair I (.pair I .unit))) s15.2.2 x17.1))
         else
          some false).bind λ(p18:Bool) =>
        (bif p18 then
          (app s15.1 ([(x17.1.1,x17.1.2.1,x17.1.2.2.1,s2.2.1,())])).bind λx19 =>
          some (x19,qlt (.pair I (.pair I (.pair I .unit))) s15.2.2 x17.1)
         else
          some (s15.1,s15.2.2)).bind λ(p20:((List (Int×Int×Int×Int×Unit))×(List (Int×Int×Int×Unit)))) =>
        some (.inl (p20.1,w64 (s15.2.1+1),p20.2))
       else
        some (.inr (s15.1,s15.2.2))) (s2.1,w64 (0-a0.2.2.2.1),s2.2.2)).bind λ(p21:((List (Int×Int×Int×Int×Unit))×(List (Int×Int×Int×Unit)))) =>
     some (.inl (p21.1,w64 (s2.2.1+1),p21.2))
   else
    some (.inr (.inl ()))) ([(a1.1,a1.2.1,a1.2.2.1,(-1),())],0,qlt (.pair I (.pair I (.pair I .unit))) [] a1)).bind (Sum.elim (λ(p22:Unit) =>
 some ([],false)) some)
theorem qp0(a0:(Int×Int×Int×Int×Int×Unit))(a1:(Int×Int×Int×Unit)):Le (qg1 a0 a1) (qg0 a0 a1):=by
 unfold qg1 qg0;repeat' first|exact Le.refl _|exact qnm _|exact qnn _ _ _|refine Le.qi1 λ_=>?_|refine Le.elim (λ_=>?_) _|refine Le.bind ?_ λ_=>?_|refine Le.cond ?_ ?_|refine Le.map ?_
def qgo(a0:(Int×Int×Int×Int×Int×Unit))(a1:(Int×Int×Int×Unit)):Option ((List Int)×Int) :=
 (qc1 a0 a1).bind λx1 =>
 bif !(decide (x1=0))then
  some ([],x1)
 else
  (qg1 a0 a1).bind λx2 =>
  (qbv x2.2 (12:Int)).bind λx3 =>
  some (x2.1,x3)
theorem qlc(a0:(Int×Int×Int×Int×Int×Unit))(a1:(Int×Int×Int×Unit)):Le (qgo a0 a1) (qdt a0 a1):=by
 unfold qgo qdt;repeat' first|exact Le.refl _|exact qeB _ _|exact qi7 _ _|exact qp0 _ _|refine Le.qi1 λ_=>?_|refine Le.elim (λ_=>?_) _|refine Le.bind ?_ λ_=>?_|refine Le.cond ?_ ?_|refine Le.map ?_
end Go.Proofs.YtkmcmngpifalcaaGreatDoor.St0
namespace Go.Proofs.YtkmcmngpifalcaaGreatDoor.St0
open Go Go.Ab Go.Tx
theorem qEq:qdt (-10,10,4,2,1,()) (0,3,0,())=some ([-1,-1,-1,0],0):=qlc _ _ _ (by kernel_rfl)
end Go.Proofs.YtkmcmngpifalcaaGreatDoor.St0
end
