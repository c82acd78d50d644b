/-
  ONE LAW OF A CHAPTER: its program side is run by an interpreter that is proved sound; what it computes is shown to be what the law says. No conditions. Part 2 of 8.
-/
import Derived.Test.YtkmcmngpifalcaaGreatDoorMSa
import Derived.RangeFuncLeaves
import Derived.RangeFuncNested
import Derived.RangeFuncRecord
import Derived.OrdersIn
set_option linter.unusedSimpArgs false
set_option linter.unusedVariables false
set_option linter.unnecessarySimpa false
section
namespace Go.Ab
open Go
section
variable {P:Program} {H:Hints} {f:FuncId} {w:World} {X:Cx}
def qa6(M:List Level)(r:Root):Option (List V):=match M[r.lvl]? with|some b=>qw b r.slot|none=>none
theorem qbi(st:St)(r:Root):st.box r=qa6 (st.L++[st.B]) r:=by
 unfold St.box qa6;by_cases h:r.lvl=st.L.length
 ·simp [h]
 ·simp only [h,if_false];by_cases hlt:r.lvl<st.L.length
  ·rw [qg hlt];rfl
  ·rw [List.getElem?_eq_none (by omega),List.getElem?_eq_none (by simp;omega)]
structure LRel (M:List Level) (w:World) (X:Cx) (O:Root->List Nat):Prop where
 box:∀r c,qa6 M r=some c->∃b,X.β r=some b/\b<w.heap.size/\X.ω b=none/\qp5 w X b c (O r)
 boxD:∀r,qa6 M r=none->O r=[]
 inj:∀r r' b,(qa6 M r).isSome=true->(qa6 M r').isSome=true->X.β r=some b->X.β r'=some b->r=r'
 lin:∀r,Lin (O r)
 dis:∀r r',r≠r'->∀b∈O r,b∉O r'
 ptrB:∀r c,qa6 M r=some c->∀r'∈ptrsL c,(qa6 M r').isSome=true
 up:∀r c,qa6 M r=some c->∀r'∈ptrsL c,r'.lvl<=r.lvl
 dom:Dom w X
theorem Rel.qFL{st:St}{tmps:Array Value}{O:Pl->List Nat}(h:Rel st tmps w X O):LRel (st.L++[st.B]) w X (λr=>O (.box r)) where
 box:=λr c hr=>h.box r c (by rw [qbi];exact hr)
 boxD:=λr hr=>h.boxD r (by rw [qbi];exact hr)
 inj:=λr r' b h1 h2=>h.inj r r' b (by rw [qbi];exact h1) (by rw [qbi];exact h2)
 lin:=λr=>h.lin _
 dis:=λr r' hne=>h.dis _ _ (λe=>hne (by cases e;rfl))
 ptrB:=λr c hr r' hr'=>by rw [<- qbi];exact h.ptrB r c (by rw [qbi];exact hr) r' hr'
 up:=λr c hr=>h.up r c (by rw [qbi];exact hr)
 dom:=h.dom
theorem LRel.own{M:List Level}{O:Root->List Nat}(h:LRel M w X O):∀r,∀b∈O r,∃e,X.ω b=some (e,false):=λr b hb=>by
 cases hr:qa6 M r with
 |none=>rw [h.boxD r hr]at hb;simp at hb
 |some c=>obtain ⟨k,_,_,_,hbx⟩:=h.box r c hr;exact hbx.own b hb
def Mod(M:List Level)(X:Cx)(O:Root->List Nat):Md where
 may:=λb=>(∃r,(qa6 M r).isSome=true/\X.β r=some b)\/∃r,b∈O r
 kind:=λr=>(qa6 M r).map qae
structure Aft (w:World) (X:Cx) (Md:Md) (n:Nat) (w':World) (X':Cx) (own:Nat->Prop):Prop where
 size:w.heap.size<=w'.heap.size
 kept:∀b,b<w.heap.size->¬ Md b->w'.heap[b]?=w.heap[b]?/\X'.ω b=X.ω b
 grew:∀b e fz,X.ω b=some (e,fz)->∃e' fz',X'.ω b=some (e',fz')/\e<=e'/\(fz=true->fz'=true)/\∀i v,i<e->w.cell? ⟨b,i,none⟩=some v->w'.cell? ⟨b,i,none⟩=some v
 β:∀r,r.lvl<n->X'.β r=X.β r
 own:∀b,own b->w.heap.size<=b\/Md b
 os:w'.os=w.os
 out:w'.output=w.output
 tape:w'.tape=w.tape
def qFG(M:List Level)(r:V)(M':List Level)(w:World)(X:Cx)(O:Root->List Nat)(v:Value)(w':World):Prop :=
 ∃X' O' Or,Rep w' X' r v Or/\LRel M' w' X' O'/\Lin Or/\(∀q,∀b∈Or,b∉O' q)/\(∀q∈r.qq,(qa6 M' q).isSome=true)/\M'.length=M.length/\(∀q,(qa6 M' q).map qae=(qa6 M q).map qae) /\
  Aft w X (Mod M X O) M.length w' X' (λb=>b∈Or\/∃q,b∈O' q)
def qsP(ext:Prop)(P:Program)(g:FuncId)(args:Array Value)(w:World)(R:Value->World->Prop):Prop :=
 ((callFunc g args).run P w=.ok (.enter g args) w/\Calls P g args w λe w'=>∃v,e=.returned v/\R v w') \/
 (ext/\∃v w',(callFunc g args).run P w=.ok (.value v) w'/\R v w')
theorem qsP.mono{ext ext':Prop}{P:Program}{g:FuncId}{args:Array Value}{w:World}{R R':Value->World->Prop}(h:qsP ext P g args w R)(he:ext->ext')(hr:∀v w',R v w'->R' v w'):qsP ext' P g args w R':=by
 rcases h with ⟨h1,h2⟩|⟨h0,v,w',h1,h2⟩
 ·exact .inl ⟨h1,h2.mono λe w' ⟨v,he,hR⟩=>⟨v,he,hr _ _ hR⟩⟩
 ·exact .inr ⟨he h0,v,w',h1,hr _ _ h2⟩
def qan(P:Program)(g:FuncId)(args:List V)(M:List Level)(r:V)(M':List Level):Prop :=
 ∀(w:World) (X:Cx) (vals:List Value) (O:Root->List Nat),RepL w X args vals []->qhi w X->LRel M w X O->(∀q∈ptrsL args,(qa6 M q).isSome=true)->(M=[]->∀b e fz,X.ω b=some (e,fz)->fz=true) ->
  qsP (M=[]) P g vals.toArray w λv w'=>qFG M r M' w X O v w'
def qy4(P:Program)(g:FuncId)(args:List V)(r:V)(s:Nat)(es:List (Value×Value)):Prop :=
 r.onlyMaps=true/\(∀k∈r.qq,k=⟨0,s⟩) /\
 ∀(w:World) (X:Cx) (vals:List Value),RepL w X args vals []->qhi w X->Dom w X->ptrsL args=[]->(∀b e fz,X.ω b=some (e,fz)->fz=true) ->
  qsP True P g vals.toArray w λv w'=>∃X' b ents ck,Rep w' X' r v []/\Dom w' X'/\X'.β ⟨0,s⟩=some b/\w.heap.size<=b/\b<w'.heap.size/\X'.ω b=none/\w'.heap[b]?=some (.map ents ck)/\ents.toList.map kv=es /\
   Aft w X (Mod [] X (λ_=>[])) 0 w' X' (λ_=>False)
def qDK(P:Program)(g clos:FuncId):Prop:=∀(s sep:ByteArray) (w:World),qsP True P g #[.string s,.string sep] w λv w' =>
 v=.func (.func clos) #[] #[.pointer (some ⟨w.heap.size+1,0,none⟩),.pointer (some ⟨w.heap.size,0,none⟩),.pointer (some ⟨w.heap.size+2,0,none⟩)] /\
  ∃t t2 t3,w'=((w.alloc (.cells #[.string s] t)).alloc (.cells #[.string sep] t2)).alloc (.cells #[.int .i64 0] t3)
def qDh(P:Program)(H:Hints):Prop:=∀g clos,H.seq g=some clos->qDK P g clos
def Cx.freeze(X:Cx)(F:List Nat):Cx:={X with ω:=λb=>if b∈F then (X.ω b).map (λp=>(p.1,true))else X.ω b}
def Cx.callee(X:Cx)(loose:Bool)(own:Nat->Bool):Cx :=
 {X with ω:=λb=>if own b then X.ω b else (X.ω b).bind λp=>if p.2||loose then some (p.1,true)else none}
theorem frozen_ω{F:List Nat}{b e:Nat}{fz:Bool}(h:X.ω b=some (e,fz)):(X.freeze F).ω b=some (e,decide (b∈F)||fz):=by
 simp only [Cx.freeze];rw [h];split<;>simp [*]
theorem callee_ω{loose:Bool}{own:Nat->Bool}{b e:Nat}{fz:Bool}(h:X.ω b=some (e,fz)):(X.callee loose own).ω b=if own b then some (e,fz)else if fz||loose then some (e,true)else none:=by
 simp only [Cx.callee,h];split<;>simp
theorem qhi.freeze(h:qhi w X)(F:List Nat):qhi w (X.freeze F):=h.of λx _ e hω=>⟨⟨e,by rw [frozen_ω hω];simp⟩,rfl⟩
theorem qhi.callee(h:qhi w X)(loose:Bool)(own:Nat->Bool):qhi w (X.callee loose own):=h.of λx _ e hω=>⟨⟨e,by rw [callee_ω hω];split<;>simp⟩,rfl⟩
theorem qhi.qjn(h:qhi w X):qhi w (X.qjn w):=h.of λx _ e hω=>⟨⟨e,peek_ω hω⟩,rfl⟩
theorem qqV{args:List V}{vals:List Value}{Oa:List Nat}{own:Nat->Bool}(h:RepL w X args vals Oa)(hown:∀b∈Oa,own b=false)(hol:looseL args=true->∀b,own b=false) :
  RepL w ((X.freeze Oa).callee (looseL args) own) (reflagL qK args) vals []:=by
 refine RepL.flags (X:=X) (S:=λb=>b∈Oa) (D:=looseL args) ?_ args vals Oa (λ_ h=>h) (λh=>h) h;refine {β:=rfl,own:=λf=>by simp [qK],dul:=λf hf=>by simp [qK]at hf,ω:=?_,sh:=?_}
 ·intro hD b e fz hω;rw [callee_ω (frozen_ω hω),hol hD b,hD];simp
 ·intro fl b e fz hω hS hsh hd _;rw [callee_ω (frozen_ω hω)];cases fl with
  |own =>
   have hb:=hS rfl;rw [hown b hb];simp [hb]
  |shared =>
   have:=hsh rfl;subst this;split<;>simp
  |q6 =>
   have hD:=hd rfl;rw [hol hD b,hD];simp
def Cx.back(X X':Cx)(sz:Nat)(own:Nat->Bool):Cx:={β:=X.β,ω:=λb=>if b<sz/\own b=false then X.ω b else X'.ω b}
theorem qth(X X':Cx)(S:Nat->Prop)(hβ:X'.β=X.β)(hω:∀b e fz,X.ω b=some (e,fz)->∃fz',X'.ω b=some (e,fz')/\(S b->fz'=fz)):Flags' qis X X' S where
 β:=hβ
 own:=λf=>by cases f<;>simp [qis]
 ω:=hω
 sh:=λf b e fz _ _ _ hg=>by cases f<;>simp [qis]at hg
theorem qfJ:∀{M L:List Level} {B:Level},qeh M=some (L,B)->M=L++[B]
 |[b],L,B,h=>by simp only [qeh,qb,Prod.mk.injEq]at h;obtain ⟨rfl,rfl⟩:=h;rfl
 |b::c::l,L,B,h=>by
  simp only [qeh]at h;obtain ⟨⟨L1,B1⟩,h1,h2⟩:=qc.1 h;simp only [Prod.mk.injEq]at h2;obtain ⟨rfl,rfl⟩:=h2;rw [qfJ h1];rfl
theorem Aft.ext{Md:Md}{n:Nat}{w':World}{X':Cx}{own:Nat->Prop}(h:Aft w X Md n w' X' own)(hd:Dom w X){R:List Root}(hR:∀r∈R,r.lvl<n):Ext R w X w' X' (λb=>Md b) where
 β:=λr hr=>h.β r (hR r hr)
 ω:=λb e fz hω=>by
  obtain ⟨e',fz',h1,h2,h3,_⟩:=h.grew b e fz hω;refine ⟨e',fz',h1,h2,h3,λhn=>?_⟩;rw [(h.kept b (hd b e fz hω) hn).2,hω]at h1;cases h1;exact ⟨rfl,rfl⟩
 cell:=λb e fz i v hω hi hc=>by
  obtain ⟨_,_,_,_,_,h4⟩:=h.grew b e fz hω;exact h4 i v hi hc
 obj:=λb e fz c t hU hω hc=>⟨c,by rw [(h.kept b (hd b e fz hω) hU).1];exact hc,rfl⟩
def qDO(O:Pl->List Nat)(O':Root->List Nat):Pl->List Nat
 |.tmp t=>O (.tmp t)
 |.box q=>O' q
theorem qs3{w0:World}{X0:Cx}{Md:Md}{n:Nat}{st:St}{tmps:Array Value}{O:Pl->List Nat}(h:Rel st tmps w X O)(hF:Fr w0 X0 Md n st w X O){M':List Level}{w':World}{L:List Level}{B:Level}{X':Cx}{O':Root->List Nat}{ow:Nat->Prop}
  (hlr:LRel M' w' X' O') (hlen:M'.length=(st.L++[st.B]).length) (hkind:∀q,(qa6 M' q).map qae=(qa6 (st.L++[st.B]) q).map qae) (how:∀q,∀b∈O' q,ow b)
  (haft:Aft w X (Mod (st.L++[st.B]) X (λq=>O (.box q))) (st.L++[st.B]).length w' X' ow) (hM:M'=L++[B]) :
  Rel {st with L:=L,B:=B} tmps w' X' (qDO O O')/\Fr w0 X0 Md n {st with L:=L,B:=B} w' X' (qDO O O'):=by
 subst hM;have hlive:∀q,(qa6 (L++[B]) q).isSome=(qa6 (st.L++[st.B]) q).isSome:=λq=>by
  have:=hkind q;cases h1:qa6 (L++[B]) q<;>cases h2:qa6 (st.L++[st.B]) q<;>simp_all
 have hLl:L.length=st.L.length:=by simpa using hlen
 have hbox:∀q,({st with L:=L,B:=B}:St).box q=qa6 (L++[B]) q:=λq=>qbi _ q;have hliv:∀q,(({st with L:=L,B:=B}:St).box q).isSome=(st.box q).isSome:=λq=>by rw [hbox,hlive,<- qbi]
 have hMd:∀b,Mod (st.L++[st.B]) X (λq=>O (.box q)) b->(∃r,(st.box r).isSome=true/\X.β r=some b)\/∃r,b∈O (.box r):=λb hb=>by
  rcases hb with ⟨r,h1,h2⟩|h1
  ·exact .inl ⟨r,by rw [qbi];exact h1,h2⟩
  ·exact .inr h1
 have hωb:∀b,(∃r,(st.box r).isSome=true/\X.β r=some b)->X.ω b=none:=by
  rintro b ⟨r,h1,h2⟩;obtain ⟨c,hc⟩:=Option.isSome_iff_exists.1 h1;obtain ⟨b',hb',_,hω,_⟩:=h.box r c hc;rw [h2]at hb';cases hb';exact hω
 have hnot:∀t,∀b∈O (.tmp t),¬ Mod (st.L++[st.B]) X (λq=>O (.box q)) b:=λt b hb hm=>by
  rcases hMd b hm with h1|⟨r,h1⟩
  ·obtain ⟨e,he⟩:=h.ownω _ b hb;rw [hωb b h1]at he;cases he
  ·exact h.dis (.tmp t) (.box r) (by simp) b hb h1
 have hO':∀q,∀b∈O' q,w.heap.size<=b\/(∃r,(st.box r).isSome=true/\X.β r=some b)\/∃r,b∈O (.box r):=λq b hb=>by
  rcases haft.own b (how q b hb)with h1|h1
  ·exact .inl h1
  ·exact .inr (hMd b h1)
 have hlv:∀q,(st.box q).isSome=true->q.lvl<(st.L++[st.B]).length:=λq hq=>by simpa using qs1 hq
 constructor
 ·refine {size:=h.size,env:=?_,envD:=h.envD,box:=?_,boxD:=?_,inj:=?_,lin:=?_,dis:=?_,ptrE:=?_,ptrB:=?_,up:=λr c hr=>by rw [hbox]at hr;exact hlr.up r c hr,dom:=hlr.dom}
  ·intro t x hx;obtain ⟨v,hv,hr⟩:=h.env t x hx;exact ⟨v,hv,Rep.ext (haft.ext h.dom (R:=x.qq) λr hr=>hlv r (h.ptrE r (qC.2 ⟨x,List.mem_of_getElem? hx,hr⟩))) _ _ _ (λ_ h=>h) (hnot t) hr⟩
  ·intro r c hr;rw [hbox]at hr;exact hlr.box r c hr
  ·intro r hr;rw [hbox]at hr;exact hlr.boxD r hr
  ·intro r r' b h1 h2;rw [hbox]at h1 h2;exact hlr.inj r r' b h1 h2
  ·intro p;cases p with
   |tmp t=>exact h.lin _
   |box r=>exact hlr.lin r
  ·have hc:∀t r,∀b∈O (.tmp t),b∉O' r:=λt r b hb hb'=>by
    rcases hO' r b hb' with h1|h1|⟨r',h1⟩
    ·have:=h.qEc _ b hb;omega
    ·obtain ⟨e,he⟩:=h.ownω _ b hb;rw [hωb b h1]at he;cases he
    ·exact h.dis (.tmp t) (.box r') (by simp) b hb h1
   intro p q hpq b hb hbq;cases p with
   |tmp t=>cases q with
    |tmp s=>exact h.dis _ _ hpq b hb hbq
    |box r=>exact hc t r b hb hbq
   |box r=>cases q with
    |tmp s=>exact hc s r b hbq hb
    |box r'=>exact hlr.dis r r' (λe=>hpq (by rw [e])) b hb hbq
  ·intro r hr;rw [hliv];exact h.ptrE r hr
  ·intro r c hr r' hr';rw [hbox]at hr ⊢;exact hlr.ptrB r c hr r' hr'
 ·have hMd0:∀b,b<w0.heap.size->Mod (st.L++[st.B]) X (λq=>O (.box q)) b->Md b:=λb hb hm=>by
   rcases hMd b hm with ⟨r,h1,h2⟩|⟨r,h1⟩
   ·rcases hF.boxM r b h1 h2 with h3|h3
    ·omega
    ·exact h3
   ·rcases hF.own _ b h1 with h3|h3
    ·omega
    ·exact h3
  exact {
   size:=Nat.le_trans hF.size haft.size
   kept:=λb hb hM=>by
    obtain ⟨h1,h2⟩:=hF.kept b hb hM;obtain ⟨h3,h4⟩:=haft.kept b (Nat.lt_of_lt_of_le hb hF.size) (λhm=>hM (hMd0 b hb hm));exact ⟨by rw [h3,h1],by rw [h4,h2]⟩
   grew:=λb e fz hω=>by
    obtain ⟨e1,fz1,h1,h2,h3,h4⟩:=hF.grew b e fz hω;obtain ⟨e2,fz2,h5,h6,h7,h8⟩:=haft.grew b e1 fz1 h1;exact ⟨e2,fz2,h5,by omega,λhz=>h7 (h3 hz),λi v hi hc=>h8 i v (by omega) (h4 i v hi hc)⟩
   β:=λr hr=>by rw [haft.β r (by have:=hF.lev;simp;omega),hF.β r hr]
   own:=λp b hb=>by
    cases p with
    |tmp t=>exact hF.own _ b hb
    |box r =>
     rcases hO' r b hb with h1|⟨r',h1,h2⟩|⟨r',h1⟩
     ·exact .inl (Nat.le_trans hF.size h1)
     ·exact hF.boxM r' b h1 h2
     ·exact hF.own _ b h1
   boxM:=λr b hr hb=>by
    rw [hliv]at hr;rw [haft.β r (hlv r hr)]at hb;exact hF.boxM r b hr hb
   lev:=by show L.length=n;rw [hLl];exact hF.lev
   live:=λr hr=>by rw [hbox,hkind,<- qbi];exact hF.live r hr
   os:=by rw [haft.os,hF.os]
   out:=by rw [haft.out,hF.out]
   tape:=by rw [haft.tape,hF.tape]
   gl:=hF.gl
   gm:=hF.gm}
theorem qpl{args:List V}{vals:List Value}{Oa:List Nat}(h:RepL w X args vals Oa):RepL w (X.freeze Oa) (reflagL qha args) vals []:=by
 refine RepL.flags (X:=X) (S:=λb=>b∈Oa) (D:=true) ?_ args vals Oa (λ_ h=>h) (λ_=>rfl) h;refine {β:=rfl,own:=λf=>by cases f<;>simp [qha],dul:=λ_ _=>rfl,ω:=λ_ b e fz hω=>⟨_,frozen_ω hω⟩,sh:=?_};intro fl b e fz hω hS hsh _ hg;rw [frozen_ω hω];cases fl with
 |own=>simp [hS rfl]
 |shared=>simp [hsh rfl]
 |q6=>simp [qha]at hg
theorem qlE{Oa:List Nat}(hd:Dom w X)(hOa:∀b∈Oa,∃e,X.ω b=some (e,false)):Eff w X w (X.freeze Oa) Oa where
 size:=Nat.le_refl _
 kept:=λ_ _ _=>rfl
 ωk:=λb _ hn=>by simp [Cx.freeze,hn]
 own:=λb hb e fz hω=>⟨e,true,by rw [frozen_ω hω];simp [hb],Nat.le_refl _,λ_=>rfl,λ_ _ _ h=>h,λc t hc=>⟨c,hc,rfl⟩⟩
 β:=rfl
 dom:=λb e fz hω=>by
  simp only [Cx.freeze]at hω;split at hω
  ·rename_i hb;obtain ⟨e',he'⟩:=hOa b hb;exact hd b e' _ he'
  ·exact hd b e fz hω
 os:=rfl
 out:=rfl
 tape:=rfl
theorem qzr{C:Orc}(hC:∀g args M r M',C.call g args M=some (r,M')->qan P g args M r M'){w0:World}{X0:Cx}{Md:Md}{n:Nat}{st st1:St}{tmps:Array Value}{O:Pl->List Nat}{g:FuncId}{args:List V}{vals:List Value}{Oa:List Nat}{T:List Tmp}{z:V}{s:St}{d:Option Tmp}
  (h:Rel st tmps w X O) (hF:Fr w0 X0 Md n st w X O) (hst1:st1={st with E:=qz st.E T}) (ha:RepL w X args vals Oa) (hin:∀b∈Oa,∃t∈T,b∈O (.tmp t)) (hla:Lin Oa) (hpa:∀q∈ptrsL args,(st.box q).isSome=true)
  (hx:qf1 C g args st1=some (z,s)) :
  qsP (ptrsL args=[]\/(peekL st.box args).isSome=true) P g vals.toArray w λv w'=>∃X' O',Rel (s.put d z) (qxb tmps d v) w' X' O'/\Fr w0 X0 Md n (s.put d z) w' X' O'/\∀r,r.lvl<=st.L.length->X'.β r=X.β r:=by
 subst hst1;unfold qf1 at hx;have hOaω:=repL_own args vals Oa ha;have hOalt:=repL_dom h.dom args vals Oa ha;split at hx
 ·-- nothing but values
  rename_i hnp;split at hx
  ·rename_i r hr;obtain ⟨rfl,rfl⟩:=Prod.mk.inj (Option.some.inj hx);have hok:=hC _ _ _ _ _ hr w ((X.freeze Oa).callee (looseL args) λ_=>false) vals (λ_=>[])
    (by rw [show args.map V.share=reflagL qK args from (qB _ _).symm];exact qqV ha (λ_ _=>rfl) (λ_ _=>rfl)) ((hF.now.freeze Oa).callee _ _)
    {
     box:=λr c hc=>by simp [qa6]at hc,boxD:=λ_ _=>rfl,inj:=λr r' b h1=>by simp [qa6]at h1,lin:=λ_=>Lin.nil,dis:=λ_ _ _ _ h=>by simp at h,ptrB:=λr c hc=>by simp [qa6]at hc,up:=λr c hc=>by simp [qa6]at hc
     dom:=λb e fz hω=>by
      simp only [Cx.callee,Cx.freeze,qf,if_false]at hω;by_cases hb:b∈Oa
      ·exact hOalt b hb
      ·rw [if_neg hb]at hω;obtain ⟨p,hp,_⟩:=qd.1 hω;exact h.dom b p.1 p.2 hp}
    (λq hq=>by rw [show args.map V.share=reflagL qK args from (qB _ _).symm,ptrsL_reflag]at hq;rw [show ptrsL args=[] by simpa using hnp]at hq;simp at hq)
    (λ_ b e fz hω=>by
     simp only [Cx.callee,qf,if_false]at hω;obtain ⟨p,_,hc⟩:=qd.1 hω;split at hc
     ·cases hc;rfl
     ·cases hc)
   refine hok.mono (λ_=>.inl (by simpa using hnp)) ?_;rintro v w' ⟨X',O',Or,hrep,hlr,hlin,hfree,hpr,_,_,haft⟩;have hOr:∀b∈Or,w.heap.size<=b:=λb hb=>by
    rcases haft.own b (.inl hb)with h1|⟨q,h1,_⟩|⟨q,h1⟩
    ·exact h1
    ·simp [qa6]at h1
    ·simp at h1
   have hnoM:∀b,¬ Mod [] ((X.freeze Oa).callee (looseL args) λ_=>false) (λ_=>[]) b:=λb hb=>by
    rcases hb with ⟨q,h1,_⟩|⟨q,h1⟩
    ·simp [qa6]at h1
    ·simp at h1
   have hrp:r.qq=[]:=by
    cases hrr:r.qq with
    |nil=>rfl
    |cons q l=>have:=hpr q (by rw [hrr];simp);simp [qa6]at this
   let X2:Cx:=(X.freeze Oa).back X' w.heap.size λ_=>false
   have hX2:∀b,X2.ω b=if b<w.heap.size then (X.freeze Oa).ω b else X'.ω b:=λb=>by simp [X2,Cx.back]
   have heff:Eff w X w' X2 Oa:={
    size:=haft.size
    kept:=λb hb _=>(haft.kept b hb (hnoM b)).1
    ωk:=λb hb hn=>by rw [hX2,if_pos hb];simp [Cx.freeze,hn]
    own:=λb hb e fz hω=>by
     have hlt:=hOalt b hb;refine ⟨e,true,by rw [hX2,if_pos hlt,frozen_ω hω];simp [hb],Nat.le_refl _,λ_=>rfl,λi v _ hc=>by rw [cell_of_heap (haft.kept b hlt (hnoM b)).1];exact hc,λc t hc=>⟨c,by rw [(haft.kept b hlt (hnoM b)).1];exact hc,rfl⟩⟩
    β:=rfl
    dom:=λb e fz hω=>by
     rw [hX2]at hω;split at hω
     ·have:=haft.size;omega
     ·exact hlr.dom b e fz hω
    os:=haft.os
    out:=haft.out
    tape:=haft.tape}
   have hold:∀b e fz,X'.ω b=some (e,fz)->b<w.heap.size->fz=true/\∃fz1,(X.freeze Oa).ω b=some (e,fz1)/\(looseL args=false->fz1=true):=λb e fz hω hlt=>by
    rw [(haft.kept b hlt (hnoM b)).2]at hω;simp only [Cx.callee,qf,if_false]at hω;obtain ⟨p,hp,hc⟩:=qd.1 hω;split at hc
    ·rename_i h1;cases hc;refine ⟨rfl,p.2,hp,λhl=>by simpa [hl]using h1⟩
    ·cases hc
   have hrep1:Rep w' {X' with β:=X.β} r v Or:=Rep.ext (X:=X') (X':={X' with β:=X.β}) (w':=w') (R:=[]) (U:=λ_=>False)
    {β:=by simp,ω:=λb e fz h=>⟨e,fz,h,Nat.le_refl _,id,λ_=>⟨rfl,rfl⟩⟩,cell:=λ_ _ _ _ _ _ _ h=>h,obj:=λb e fz c t _ _ h=>⟨c,h,rfl⟩} _ _ _ (by rw [hrp];simp) (by simp) hrep
   have hz:Rep w' X2 (if looseL args=true then r.qa9 else r) v Or:=by
    by_cases hl:looseL args=true
    ·rw [if_pos hl];refine Rep.flags' (qth {X' with β:=X.β} X2 (λb=>b∈Or) rfl λb e fz hω=>?_) _ _ _ (λ_ h=>h) hrep1;rw [hX2];split
     ·rename_i hlt;obtain ⟨_,fz1,h1,_⟩:=hold b e fz hω hlt;exact ⟨fz1,h1,λhb=>by have:=hOr b hb;omega⟩
     ·exact ⟨fz,hω,λ_=>rfl⟩
    ·rw [if_neg hl];have hl':looseL args=false:=by simpa using hl
     refine Rep.ext (R:=[]) (U:=λ_=>False) {β:=by simp,ω:=λb e fz hω=>?_,cell:=λ_ _ _ _ _ _ _ h=>h,obj:=λb e fz c t _ _ h=>⟨c,h,rfl⟩} _ _ _ (by rw [hrp];simp) (by simp) hrep1;refine ⟨e,fz,?_,Nat.le_refl _,id,λ_=>⟨rfl,rfl⟩⟩;rw [hX2];split
     ·rename_i hlt;obtain ⟨rfl,fz1,h1,h2⟩:=hold b e fz hω hlt;rw [h1,h2 hl']
     ·exact hω
   refine ⟨X2,_,h.put (T:=T) d hin heff hz hlin (h.free hin λb hb=>.inr (hOr b hb)) (λq hq=>?_),Fr.put h hF (T:=T) d hin heff (λb hb=>.inr (hOr b hb)),λ_ _=>rfl⟩;have:(if looseL args=true then r.qa9 else r).qq=[]:=by split<;>simp [V.qa9,ptrs_reflag,hrp]
   rw [this]at hq;simp at hq
  ·cases hx
 rename_i hnp0;split at hx
 ·-- a call that only looks
  split at hx
  ·rename_i xs hpk;split at hx
   ·rename_i hnp;split at hx
    ·rename_i r hr;split at hx
     ·rename_i hmine;obtain ⟨rfl,rfl⟩:=Prod.mk.inj (Option.some.inj hx);have hpk':peekL st.box args=some xs:=hpk;have hok:=hC _ _ _ _ _ hr w (X.qjn w) vals (λ_=>[])
       (qCx (Ob:=λr=>O (.box r)) (λr c hrc=>h.box r c hrc) args xs vals Oa hpk' ha) hF.now.qjn
       {
        box:=λr c hc=>by simp [qa6]at hc,boxD:=λ_ _=>rfl,inj:=λr r' b h1=>by simp [qa6]at h1,lin:=λ_=>Lin.nil,dis:=λ_ _ _ _ h=>by simp at h,ptrB:=λr c hc=>by simp [qa6]at hc,up:=λr c hc=>by simp [qa6]at hc
        dom:=qCz h.dom}
       (λq hq=>by rw [show ptrsL xs=[] by simpa using hnp]at hq;simp at hq)
       (λ_ b e fz hω=>qvM hω)
      refine hok.mono (λ_=>.inr (by rw [hpk'];rfl)) ?_;rintro v w' ⟨X',O',Or,hrep,hlr,hlin,hfree,hpr,_,_,haft⟩;have hOr:∀b∈Or,w.heap.size<=b:=λb hb=>by
       rcases haft.own b (.inl hb)with h1|⟨q,h1,_⟩|⟨q,h1⟩
       ·exact h1
       ·simp [qa6]at h1
       ·simp at h1
      have hnoM:∀b,¬ Mod [] (X.qjn w) (λ_=>[]) b:=λb hb=>by
       rcases hb with ⟨q,h1,_⟩|⟨q,h1⟩
       ·simp [qa6]at h1
       ·simp at h1
      have hrp:r.qq=[]:=by
       cases hrr:r.qq with
       |nil=>rfl
       |cons q l=>have:=hpr q (by rw [hrr];simp);simp [qa6]at this
      let X2:Cx:=(X.freeze Oa).back X' w.heap.size λ_=>false
      have hX2:∀b,X2.ω b=if b<w.heap.size then (X.freeze Oa).ω b else X'.ω b:=λb=>by simp [X2,Cx.back]
      have heff:Eff w X w' X2 Oa:={
       size:=haft.size
       kept:=λb hb _=>(haft.kept b hb (hnoM b)).1
       ωk:=λb hb hn=>by rw [hX2,if_pos hb];simp [Cx.freeze,hn]
       own:=λb hb e fz hω=>by
        have hlt:=hOalt b hb;refine ⟨e,true,by rw [hX2,if_pos hlt,frozen_ω hω];simp [hb],Nat.le_refl _,λ_=>rfl,λi v _ hc=>by rw [cell_of_heap (haft.kept b hlt (hnoM b)).1];exact hc,λc t hc=>⟨c,by rw [(haft.kept b hlt (hnoM b)).1];exact hc,rfl⟩⟩
       β:=rfl
       dom:=λb e fz hω=>by
        rw [hX2]at hω;split at hω
        ·have:=haft.size;omega
        ·exact hlr.dom b e fz hω
       os:=haft.os
       out:=haft.out
       tape:=haft.tape}
      have hz:Rep w' X2 r v Or:=Rep.qcB r v Or hmine (λb hb=>by
       have:=hOr b hb;rw [hX2,if_neg (by omega)]) hrep
      exact ⟨X2,_,h.put (T:=T) d hin heff hz hlin (h.free hin λb hb=>.inr (hOr b hb)) (λq hq=>by rw [hrp]at hq;simp at hq),Fr.put h hF (T:=T) d hin heff (λb hb=>.inr (hOr b hb)),λ_ _=>rfl⟩
     ·cases hx
    ·cases hx
   ·cases hx
  ·cases hx
 ·-- with boxes
  split at hx
  ·rename_i r M' hr;split at hx
   ·rename_i L B hsp;split at hx
    ·rename_i hll;obtain ⟨rfl,rfl⟩:=Prod.mk.inj (Option.some.inj hx);have heff:=qlE h.dom hOaω;have h1:=h.put (T:=T) (d:=none) (z:=.undef) (v:=undef) (O':=[]) hin heff (by simp [Rep]) Lin.nil (by simp) (by simp [V.qq]);have hF1:=Fr.put (z:=.undef) h hF (T:=T) (O':=[]) none hin heff (by simp);change Rel {st with E:=qz st.E T} tmps w _ _ at h1
     change Fr w0 X0 Md n {st with E:=qz st.E T} w _ _ at hF1
     have hok:=hC _ _ _ _ _ hr w (X.freeze Oa) vals _ (by rw [show args.map V.hand=reflagL qha args from (qB _ _).symm];exact qpl ha) (hF.now.freeze Oa) h1.qFL
      (λq hq=>by
       rw [show args.map V.hand=reflagL qha args from (qB _ _).symm,ptrsL_reflag]at hq;rw [<- qbi];exact hpa q hq) (λe=>by simp at e)
     refine hok.mono (λe=>by simp at e) ?_;rintro v w' ⟨X',O',Or,hrep,hlr,hlin,hfree,hpr,hlen,hlive,haft⟩;obtain ⟨h2,hF2⟩:=qs3 h1 hF1 hlr hlen hlive (λq b hb=>.inr ⟨q,hb⟩) haft (qfJ hsp);have hOr:∀b∈Or,∀q,b∉qDO (qiF O T none st.E.length []) O' q:=λb hb q hbq=>by
      cases q with
      |box r'=>exact hfree r' b hb hbq
      |tmp t =>
       rcases haft.own b (.inl hb)with h3|⟨q,h3,h4⟩|⟨q,h3⟩
       ·have:=h1.qEc (.tmp t) b hbq;omega
       ·obtain ⟨c,hc⟩:=Option.isSome_iff_exists.1 h3;obtain ⟨b',hb',_,hω,_⟩:=h1.qFL.box q c hc;rw [h4]at hb';cases hb';obtain ⟨e,he⟩:=h1.ownω (.tmp t) b hbq;rw [hω]at he;cases he
       ·exact h1.dis (.tmp t) (.box q) (by simp) b hbq h3
     refine ⟨X',_,h2.qjU d hrep hlin hOr (λq hq=>?_),hF2.qjU d (λb hb=>?_),λq hq=>haft.β q (by simp;omega)⟩
     ·rw [qbi];show (qa6 (L++[B]) q).isSome=true;rw [<- qfJ hsp];exact hpr q hq
     ·rcases haft.own b (.inl hb)with h3|⟨q,h3,h4⟩|⟨q,h3⟩
      ·exact .inl (Nat.le_trans hF1.size h3)
      ·have h3':(({st with E:=qz st.E T}:St).box q).isSome=true:=by rw [qbi];exact h3
       exact hF1.boxM q b h3' h4
      ·exact hF1.own _ b h3
    ·cases hx
   ·cases hx
  ·cases hx
end
section
variable {P:Program} {H:Hints} {f:FuncId} {w:World} {X:Cx}
def Ex.qve:Ex->Exit
 |.normal=>.normal
 |.exit id=>.exit id
 |.ret=>.ret
def qd7(w0 w:World)(X:Cx)(D:List Deferred):Prop :=
 ∃ks:List Nat,D=ks.map (λk=>{target:=.collected k,args:=#[]})/\ks.Nodup/\∀k∈ks,w0.heap.size<=k/\w.heap[k]?=some (.deferred (some []))/\X.ω k=none
def qls(w0:World)(X0:Cx)(Md:Md)(n:Nat)(st:St)(a:Act)(w:World):Prop :=
 ∃X O,Rel st a.tmps w X O/\Fr w0 X0 Md n st w X O/\qd7 w0 w X a.defers
def FOk(F:Fence)(X0:Cx)(Md:Md)(n:Nat):Prop :=
 (F=Fence.wide\/∃r l,F=Fence.wide.inRound l/\r.lvl<n/\X0.β r=some l/\Md.kind r=some true)/\(n=0->∀b e fz,X0.ω b=some (e,fz)->fz=true)
def qhq(F:Fence)(P:Program)(c:Code)(Q:Exit->Act->World->Prop)(a:Act)(w:World):Prop :=
 ∀I:Act->World->Prop,(∀a w,c.wpIn F 0 P (Exit.then I Q) a w->I a w)->I a w
def codeOk(F:Fence)(P:Program)(c:Code)(Q:Exit->Act->World->Prop)(a:Act)(w:World):Prop :=
 match c with
 |.loop c=>qhq F P c Q a w
 |c=>c.wpIn F 0 P Q a w
theorem quG{I I':Act->World->Prop}{Q Q':Exit->Act->World->Prop}(h:∀a w,I a w->I' a w)(hq:∀e a w,Q e a w->Q' e a w):∀e a w,Exit.then I Q e a w->Exit.then I' Q' e a w:=by
 intro e a w he;cases e<;>first|exact h _ _ he|exact hq _ _ _ he
theorem qhq.close{F:Fence}{c:Code}{Q:Exit->Act->World->Prop}{a:Act}{w:World}(h:c.wpIn F 0 P (Exit.then (qhq F P c Q) Q) a w):qhq F P c Q a w :=
 λI hI=>hI a w (wpIn_mono h (quG (λa w h=>h I hI) (λ_ _ _ h=>h)))
theorem qhq.mono{F:Fence}{c:Code}{Q Q':Exit->Act->World->Prop}{a:Act}{w:World}(h:qhq F P c Q a w)(hq:∀e a w,Q e a w->Q' e a w):qhq F P c Q' a w :=
 λI hI=>h I λa w ha=>hI a w (wpIn_mono ha (quG (λ_ _ h=>h) hq))
theorem qhq.wp{F:Fence}{c:Code}{Q:Exit->Act->World->Prop}{a:Act}{w:World}(h:qhq F P c Q a w):(Code.loop c).wpIn F 0 P Q a w:=by
 intro b k cs hro hb hr;have key:=h (λa w=>∃e a' w',Q e a' w'/\ArrivesIn (Machine.fenced P F) P (lone (b.atR a (.code c::.inLoop c::k)) cs w) b k cs e a' w') (by
  intro a w ha;obtain ⟨e,a₁,w₁,hq,harr⟩:=ha b (.inLoop c::k) cs hro hb hr;cases e with
  |normal =>
   obtain ⟨e₂,a₂,w₂,hq₂,harr₂⟩:=hq;exact ⟨e₂,a₂,w₂,hq₂,.of_steps (StepsIn.trans harr (.one (fenced_calm hb hr rfl) stepR_inLoop)) harr₂⟩
  |exit id=>exact ⟨_,a₁,w₁,hq,.pass (x:=.inLoop c) rfl (λ_ _=>.inl (by simp)) harr⟩
  |goto l=>exact ⟨_,a₁,w₁,hq,.pass (x:=.inLoop c) rfl (λ_ _=>.inl (by simp)) harr⟩
  |ret=>exact ⟨_,a₁,w₁,hq,.pass (x:=.inLoop c) rfl (λ_ _=>.inl (by simp)) harr⟩
  |panic ch=>exact ⟨_,a₁,w₁,hq,.pass (x:=.inLoop c) rfl (λ_ _=>.inl (by simp)) harr⟩
  |outgrown=>exact ⟨_,a₁,w₁,hq,.pass (x:=.inLoop c) rfl (λ_ _=>.inl (by simp)) harr⟩)
 obtain ⟨e,a',w',hq,harr⟩:=key;exact ⟨e,a',w',hq,.of_steps (.one (fenced_calm hb hr rfl) stepR_loop) harr⟩
theorem codeOk.wp{F:Fence}{c:Code}{Q:Exit->Act->World->Prop}{a:Act}{w:World}(h:codeOk F P c Q a w):c.wpIn F 0 P Q a w:=by
 cases c with
 |loop c=>exact qhq.wp h
 |_=>exact h
def qy5(P:Program)(c:Code)(st:St)(e:Ex)(st':St):Prop :=
 ∀(F:Fence) (w0:World) (X0:Cx) (Md:Md) (n:Nat) (a:Act) (w:World),FOk F X0 Md n->qls w0 X0 Md n st a w ->
  codeOk F P c (λe' a' w'=>e'=e.qve/\qls w0 X0 Md n st' a' w') a w
structure OrcOk (P:Program) (C:Orc):Prop where
 call:∀g args M r M',C.call g args M=some (r,M')->qan P g args M r M'
 code:∀f bid c st e st',C.code f bid c st=some (e,st')->qy5 P c st e st'
 born:∀g args r s es,C.born g args=some (r,s,es)->qy4 P g args r s es
 seq:∀g c,C.seq g=some c->qDK P g c
def qqp(O:Root->List Nat):Pl->List Nat
 |.tmp _=>[]
 |.box r=>O r
theorem qea(E:List V)(M:List Level)(r:Root):({E:=E,L:=M,B:=[]}:St).box r=qa6 M r:=by
 unfold St.box qa6;by_cases h:r.lvl=M.length
 ·simp [h,qw]
 ·simp only [h,if_false];cases M[r.lvl]?<;>rfl
theorem quj{M:List Level}{O:Root->List Nat}(hgl:qhi w X)(h:LRel M w X O){E:List V}{tmps:Array Value}(hE:RepL w X E tmps.toList [])(hp:∀r∈ptrsL E,(qa6 M r).isSome=true) :
  Rel {E:=E,L:=M,B:=[]} tmps w X (qqp O)/\Fr w X (Mod M X O) M.length {E:=E,L:=M,B:=[]} w X (qqp O):=by
 have hR:Rel {E:=E,L:=M,B:=[]} tmps w X (qqp O):={
   size:=by rw [qF _ _ _ hE];simp
   env:=λt x hx=>by
    obtain ⟨v,Oi,hv,hr,hc⟩:=qnO t hE hx;have:Oi=[]:=by
     cases Oi with
     |nil=>rfl
     |cons b l=>have:=hc b;simp at this
    subst this;exact ⟨v,by simpa using hv,hr⟩
   envD:=λ_ _=>rfl
   box:=λr c hr=>by rw [qea]at hr;exact h.box r c hr
   boxD:=λr hr=>by rw [qea]at hr;exact h.boxD r hr
   inj:=λr r' b h1 h2=>by rw [qea]at h1 h2;exact h.inj r r' b h1 h2
   lin:=λp=>by cases p with|tmp t=>exact Lin.nil|box r=>exact h.lin r
   dis:=λp q hpq b hb hbq=>by
    cases p with
    |tmp t=>simp [qqp]at hb
    |box r=>cases q with
     |tmp t=>simp [qqp]at hbq
     |box r'=>exact h.dis r r' (λe=>hpq (by rw [e])) b hb hbq
   ptrE:=λr hr=>by rw [qea];exact hp r hr
   ptrB:=λr c hr r' hr'=>by rw [qea]at hr ⊢;exact h.ptrB r c hr r' hr'
   up:=λr c hr=>by rw [qea]at hr;exact h.up r c hr
   dom:=h.dom}
 refine ⟨hR,?_⟩
 ·exact {
   size:=Nat.le_refl _
   kept:=λ_ _ _=>⟨rfl,rfl⟩
   grew:=λb e fz hω=>⟨e,fz,hω,Nat.le_refl _,id,λ_ _ _ h=>h⟩
   β:=λ_ _=>rfl
   own:=λp b hb=>by
    cases p with
    |tmp t=>simp [qqp]at hb
    |box r=>exact .inr (.inr ⟨r,hb⟩)
   boxM:=λr b hr hb=>by rw [qea]at hr;exact .inr (.inl ⟨r,hr,hb⟩)
   lev:=rfl
   live:=λr _=>by rw [qea];rfl
   os:=rfl
   out:=rfl
   tape:=rfl
   gl:=hgl
   gm:=λx hx hm=>by
    obtain ⟨⟨e,he⟩,_⟩:=hgl x hx;rcases hm with ⟨r,h1,h2⟩|⟨r,h1⟩
    ·obtain ⟨c,hc⟩:=Option.isSome_iff_exists.1 h1;obtain ⟨b',hb',_,hω,_⟩:=h.box r c hc;rw [h2]at hb';cases hb';rw [he]at hω;cases hω
    ·obtain ⟨e',he'⟩:=hR.ownω (.box r) x.1 h1;rw [he]at he';cases he'}
theorem qu1{M:List Level}{r:Root}(h:(qa6 M r).isSome=true):r.lvl<M.length:=by
 unfold qa6 at h;rcases Nat.lt_or_ge r.lvl M.length with h1|h1
 ·exact h1
 ·rw [List.getElem?_eq_none h1]at h;simp at h
theorem qdD{st:St}{r:Root}:qa6 st.L r=if r.lvl<st.L.length then st.box r else none:=by
 unfold St.box qa6;by_cases h:r.lvl<st.L.length
 ·rw [if_pos h,if_neg (by omega)];rfl
 ·rw [if_neg h,List.getElem?_eq_none (by omega)]
def qjg(n:Nat)(O:Pl->List Nat):Root->List Nat:=λr=>if r.lvl<n then O (.box r)else []
theorem qpj{w0:World}{X0:Cx}{M:List Level}{O0:Root->List Nat}{st:St}{tmps:Array Value}{O:Pl->List Nat}(h:Rel st tmps w X O)(hF:Fr w0 X0 (Mod M X0 O0) M.length st w X O) :
  LRel st.L w X (qjg M.length O)/\st.L.length=M.length/\(∀q,(qa6 st.L q).map qae=(qa6 M q).map qae):=by
 have hl:=hF.lev;have hb:∀r c,qa6 st.L r=some c->r.lvl<M.length/\st.box r=some c:=λr c hr=>by
  have h1:=qu1 (M:=st.L) (r:=r) (by simp [hr]);rw [qdD,if_pos h1]at hr;exact ⟨by omega,hr⟩
 refine ⟨{box:=?_,boxD:=?_,inj:=?_,lin:=?_,dis:=?_,ptrB:=?_,up:=?_,dom:=h.dom},hl,?_⟩
 ·intro r c hr;obtain ⟨h1,h2⟩:=hb r c hr;simpa [qjg,h1]using h.box r c h2
 ·intro r hr;rw [qdD]at hr;unfold qjg;split
  ·rename_i h1;rw [if_pos (by omega)]at hr;exact h.boxD r hr
  ·rfl
 ·intro r r' b h1 h2;obtain ⟨c,hc⟩:=Option.isSome_iff_exists.1 h1;obtain ⟨c',hc'⟩:=Option.isSome_iff_exists.1 h2;exact h.inj r r' b (by simp [(hb r c hc).2]) (by simp [(hb r' c' hc').2])
 ·intro r;unfold qjg;split
  ·exact h.lin _
  ·exact Lin.nil
 ·intro r r' hne b hb1 hb2;unfold qjg at hb1 hb2;split at hb1
  ·split at hb2
   ·exact h.dis (.box r) (.box r') (by simpa using hne) b hb1 hb2
   ·simp at hb2
  ·simp at hb1
 ·intro r c hr r' hr';obtain ⟨h1,h2⟩:=hb r c hr;have h3:=h.up r c h2 r' hr';rw [qdD,if_pos (by omega)];exact h.ptrB r c h2 r' hr'
 ·intro r c hr;exact h.up r c (hb r c hr).2
 ·intro q;by_cases hq:q.lvl<M.length
  ·rw [qdD,if_pos (by omega)];exact hF.live q hq
  ·have h1:qa6 st.L q=none:=by rw [qdD,if_neg (by omega)]
   have h2:qa6 M q=none:=by
    cases hh:qa6 M q with
    |none=>rfl
    |some c=>have:=qu1 (M:=M) (r:=q) (by simp [hh]);omega
   rw [h1,h2]
theorem qDp{w0:World}{X0:Cx}{M:List Level}{O0:Root->List Nat}{st:St}{O:Pl->List Nat}(hF:Fr w0 X0 (Mod M X0 O0) M.length st w X O){ow:Nat->Prop}(how:∀b,ow b->∃p,b∈O p) :
  Aft w0 X0 (Mod M X0 O0) M.length w X ow where
 size:=hF.size
 kept:=hF.kept
 grew:=hF.grew
 β:=hF.β
 own:=λb hb=>by obtain ⟨p,hp⟩:=how b hb;exact hF.own p b hp
 os:=hF.os
 out:=hF.out
 tape:=hF.tape
theorem qqF{n:Nat}{O:Pl->List Nat}{r:Root}{b:Nat}(h:b∈qjg n O r):b∈O (.box r):=by
 unfold qjg at h;split at h
 ·exact h
 ·simp at h
theorem qd7.of{w0 w':World}{X':Cx}{D:List Deferred}(h:qd7 w0 w X D)(hk:∀k,w.heap[k]?=some (.deferred (some []))->X.ω k=none->w0.heap.size<=k->w'.heap[k]?=w.heap[k]?/\X'.ω k=X.ω k):qd7 w0 w' X' D:=by
 obtain ⟨ks,h1,h2,h3⟩:=h;refine ⟨ks,h1,h2,λk hks=>?_⟩;obtain ⟨h4,h5,h6⟩:=h3 k hks;obtain ⟨h7,h8⟩:=hk k h5 h6 h4;exact ⟨h4,by rw [h7,h5],by rw [h8,h6]⟩
theorem qwZ{b k:Nat}{c:List V}{O:List Nat}(h:qp5 w X b c O)(hk:w.heap[k]?=some (.deferred (some []))):k≠b:=λe=>by
 subst e;rcases h with ⟨cs,t,h1,_⟩|⟨s,pe,g,env,ps,asg,body,lo,_,h1,_⟩|⟨es,ents,ck,_,h1,_⟩<;>rw [h1]at hk<;>cases hk
theorem qAN{w0:World}{X0:Cx}{Md':Md}{n:Nat}{st:St}{tmps:Array Value}{df:List Deferred}{O:Pl->List Nat}(hR:Rel st tmps w X O)(hF:Fr w0 X0 Md' n st w X O)(hM:qd7 w0 w X df) :
  ∃Md2:Md,Fr w X Md2 n st w X O/\Md2.kind=Md'.kind /\
   ∀st' w' X' O',Fr w X Md2 n st' w' X' O'->Fr w0 X0 Md' n st' w' X' O'/\qd7 w0 w' X' df:=by
 obtain ⟨ks,hD,hnd,hks⟩:=hM;let Md2:Md:={may:=λb=>(b<w0.heap.size->Md' b)/\b∉ks,kind:=Md'.kind}
 have hbk:∀r b,(st.box r).isSome=true->X.β r=some b->b∉ks:=λr b hr hb hbk=>by
  obtain ⟨c,hc⟩:=Option.isSome_iff_exists.1 hr;obtain ⟨b',hb',_,_,hbx⟩:=hR.box r c hc;rw [hb]at hb';cases hb';exact qwZ hbx (hks b hbk).2.1 rfl
 refine ⟨Md2,?_,rfl,?_⟩
 ·exact {
   size:=Nat.le_refl _
   kept:=λ_ _ _=>⟨rfl,rfl⟩
   grew:=λb e fz hω=>⟨e,fz,hω,Nat.le_refl _,id,λ_ _ _ h=>h⟩
   β:=λ_ _=>rfl
   own:=λp b hb=>by
    refine .inr ⟨λhlt=>?_,λhbk=>?_⟩
    ·rcases hF.own p b hb with h1|h1
     ·omega
     ·exact h1
    ·obtain ⟨e,he⟩:=hR.ownω p b hb;rw [(hks b hbk).2.2]at he;cases he
   boxM:=λr b hr hb=>by
    refine .inr ⟨λhlt=>?_,hbk r b hr hb⟩;rcases hF.boxM r b hr hb with h1|h1
    ·omega
    ·exact h1
   lev:=hF.lev
   live:=hF.live
   os:=rfl
   out:=rfl
   tape:=rfl
   gl:=hF.now
   gm:=λx hx hm=>hF.gm x hx (hm.1 (hF.gl.lt hx))}
 ·intro st' w' X' O' hF';refine ⟨?_,ks,hD,hnd,λk hk=>?_⟩
  ·exact {
    size:=Nat.le_trans hF.size hF'.size
    kept:=λb hb hM=>by
     obtain ⟨h1,h2⟩:=hF.kept b hb hM;obtain ⟨h3,h4⟩:=hF'.kept b (Nat.lt_of_lt_of_le hb hF.size) (λhm=>hM (hm.1 hb));exact ⟨by rw [h3,h1],by rw [h4,h2]⟩
    grew:=λb e fz hω=>by
     obtain ⟨e1,fz1,h1,h2,h3,h4⟩:=hF.grew b e fz hω;obtain ⟨e2,fz2,h5,h6,h7,h8⟩:=hF'.grew b e1 fz1 h1;exact ⟨e2,fz2,h5,by omega,λhz=>h7 (h3 hz),λi v hi hc=>h8 i v (by omega) (h4 i v hi hc)⟩
    β:=λr hr=>by rw [hF'.β r hr,hF.β r hr]
    own:=λp b hb=>by
     have:=hF.size;rcases hF'.own p b hb with h1|h1
     ·exact .inl (by omega)
     ·rcases Nat.lt_or_ge b w0.heap.size with h2|h2
      ·exact .inr (h1.1 h2)
      ·exact .inl h2
    boxM:=λr b hr hb=>by
     have:=hF.size;rcases hF'.boxM r b hr hb with h1|h1
     ·exact .inl (by omega)
     ·rcases Nat.lt_or_ge b w0.heap.size with h2|h2
      ·exact .inr (h1.1 h2)
      ·exact .inl h2
    lev:=hF'.lev
    live:=hF'.live
    os:=by rw [hF'.os,hF.os]
    out:=by rw [hF'.out,hF.out]
    tape:=by rw [hF'.tape,hF.tape]
    gl:=hF.gl
    gm:=hF.gm}
  ·obtain ⟨h1,h2,h3⟩:=hks k hk;obtain ⟨h4,h5⟩:=hF'.kept k (Array.getElem?_eq_some_iff.1 h2).1 (λhm=>hm.2 hk);exact ⟨h1,by rw [h4,h2],by rw [h5,h3]⟩
theorem qAM{w0:World}{X0:Cx}{Md':Md}{n:Nat}{st:St}{tmps:Array Value}{df:List Deferred}{O:Pl->List Nat}(hR:Rel st tmps w X O)(hF:Fr w0 X0 Md' n st w X O)(hM:qd7 w0 w X df) :
  ∃Md2:Md,Fr w X Md2 n st w X O/\Md2.kind=Md'.kind /\
   ∀st' (tmps':Array Value) w',Sim w X Md2 n st' tmps' w'->qls w0 X0 Md' n st' {tmps:=tmps',defers:=df} w':=by
 obtain ⟨Md2,h1,h2,h3⟩:=qAN hR hF hM;exact ⟨Md2,h1,h2,λst' tmps' w' ⟨X',O',hR',hF'⟩=>⟨X',O',hR',(h3 st' w' X' O' hF').1,(h3 st' w' X' O' hF').2⟩⟩
theorem qFj{w0:World}{X0:Cx}{Md':Md}{n:Nat}{st:St}{a:Act}(h:qls w0 X0 Md' n st a w) :
  ∃(X:Cx) (Md2:Md),Sim w X Md2 n st a.tmps w/\(∀r,r.lvl<n->X.β r=X0.β r)/\Md2.kind=Md'.kind /\
   ∀st' (tmps':Array Value) w',Sim w X Md2 n st' tmps' w'->qls w0 X0 Md' n st' {tmps:=tmps',defers:=a.defers} w':=by
 obtain ⟨X,O,hR,hF,hM⟩:=h;obtain ⟨Md2,h1,h2,h3⟩:=qAM hR hF hM;exact ⟨X,Md2,⟨X,O,hR,h1⟩,hF.β,h2,h3⟩
end
section
variable {P:Program} {H:Hints} {f:FuncId} {w:World} {X:Cx}
theorem handed{w0:World}{X0:Cx}{Md:Md}{n:Nat}{st:St}{tmps:Array Value}{O:Pl->List Nat}(h:Rel st tmps w X O)(hF:Fr w0 X0 Md n st w X O){args:List V}{vals:List Value}{Oa:List Nat}{T:List Tmp}
  (ha:RepL w X args vals Oa) (hin:∀b∈Oa,∃t∈T,b∈O (.tmp t)) :
  Rel {st with E:=qz st.E T} tmps w (X.freeze Oa) (qiF O T none st.E.length [])/\Fr w0 X0 Md n {st with E:=qz st.E T} w (X.freeze Oa) (qiF O T none st.E.length []) /\
   RepL w (X.freeze Oa) (args.map V.hand) vals []:=by
 have hOaω:=repL_own args vals Oa ha;have heff:=qlE h.dom hOaω;have h1:=h.put (T:=T) (d:=none) (z:=.undef) (v:=undef) (O':=[]) hin heff (by simp [Rep]) Lin.nil (by simp) (by simp [V.qq]);have hF1:=Fr.put (z:=.undef) h hF (T:=T) (O':=[]) none hin heff (by simp);exact ⟨h1,hF1,by rw [show args.map V.hand=reflagL qha args from (qB _ _).symm];exact qpl ha⟩
theorem qwW{w0:World}{X0:Cx}{Md:Md}{n:Nat}{st:St}{tmps:Array Value}{O:Pl->List Nat}(h:Rel st tmps w X O)(hF:Fr w0 X0 Md n st w X O){r:Root}{b:Nat}{s:LoopState}{pe:Option Code}{g:FuncId}{env:List V}{ps:List Tmp}{asz bo:Code}
  (hst:st.box r=some [.lp s pe g env ps asz bo]) (hb:X.β r=some b) :
  ∃lo:Loop,w.heap[b]?=some (.loop lo)/\lo.state=s/\lo.pending=pe/\lo.params.toList=ps/\lo.assign=asz/\lo.body=bo/\RepL w X env lo.tmps.toList [] /\
   (∀k,w.heap[k]?=some (.deferred (some []))->k≠b) /\
   ∀s' pe',Rel (st.qp r [.lp s' pe' g env ps asz bo]) tmps (w.putObj b (.loop {lo with state:=s',pending:=pe'})) X (quz O r []) /\
    Fr w0 X0 Md n (st.qp r [.lp s' pe' g env ps asz bo]) (w.putObj b (.loop {lo with state:=s',pending:=pe'})) X (quz O r []):=by
 obtain ⟨b',hb',hlt,hω,hbx⟩:=h.box r _ hst;obtain rfl:b=b':=by rw [hb]at hb';exact Option.some.inj hb'
 rcases hbx with ⟨cs,t,_,h2⟩|⟨s1,pe1,g1,env1,ps1,asg,body,lo,hc,hw,h1,h2,_,h3,h4,h5,h6,h7⟩|⟨es,ents,ck,hc,_⟩
 ·have:=qrJ h2;simp [qfy]at this
 ·simp only [List.cons.injEq,V.lp.injEq,and_true]at hc;obtain ⟨rfl,rfl,rfl,rfl,rfl,rfl,rfl⟩:=hc;refine ⟨lo,hw,h1,h2,h3,h4,h5,h6,λk hk e=>?_,λs' pe'=>?_⟩
  ·subst e;rw [hw]at hk;cases hk
  ·have hk:∀k,k≠b->(w.putObj b (.loop {lo with state:=s',pending:=pe'})).heap[k]?=w.heap[k]?:=λk hk=>World.putObj_heap_other hk;have hsz:(w.putObj b (.loop {lo with state:=s',pending:=pe'})).heap.size=w.heap.size:=by simp [World.putObj]
   refine ⟨h.qp hst hb hk hsz ?_ Lin.nil (by simp) (λr' hr'=>?_),Fr.qp h hF hst hb rfl hk hsz (by simp) rfl rfl rfl⟩
   ·exact .inr (.inl ⟨s',pe',g,env,ps,asz,bo,{lo with state:=s',pending:=pe'},rfl,World.putObj_heap_same hlt,rfl,rfl,rfl,h3,h4,h5,qxf hω hk h6,rfl⟩)
   ·have hr2:r'∈ptrsL [V.lp s pe g env ps asz bo]:=by simpa [ptrsL,V.qq]using hr'
    exact ⟨h.ptrB r _ hst r' hr2,h.up r _ hst r' hr2⟩
 ·cases hc
theorem qxg:∀(i:Nat) {l:List V} {vals:List Value} {x:V} {v:Value},RepL w X l vals []->Rep w X x v []->RepL w X (l.set i x) (vals.set i v) []
 |i,[],vals,x,v,h,hx=>by simp only [RepL]at h;simp [h.1,RepL]
 |0,y::l,vals,x,v,h,hx=>by
  simp only [RepL]at h;obtain ⟨u,vs,O1,O2,rfl,hO,h1,h2⟩:=h;simp only [List.nil_eq,List.append_eq_nil_iff]at hO;obtain ⟨rfl,rfl⟩:=hO;simp only [List.set_cons_zero,RepL];exact ⟨v,vs,[],[],rfl,rfl,hx,h2⟩
 |i+1,y::l,vals,x,v,h,hx=>by
  simp only [RepL]at h;obtain ⟨u,vs,O1,O2,rfl,hO,h1,h2⟩:=h;simp only [List.nil_eq,List.append_eq_nil_iff]at hO;obtain ⟨rfl,rfl⟩:=hO;simp only [List.set_cons_succ,RepL];exact ⟨u,_,[],[],rfl,rfl,h1,qxg i h2 hx⟩
theorem qpp:∀(ps:List Tmp) (args:List V) (vals:List Value) (env:List V) (tmps:Array Value),RepL w X env tmps.toList []->RepL w X args vals [] ->
  RepL w X (qeI env ps args) ((ps.zip vals).foldl (λtmps (t,a)=>tmps.setIfInBounds t a) tmps).toList []
 |[],args,vals,env,tmps,h,_=>by simpa [qeI]using h
 |t::ps,[],vals,env,tmps,h,ha=>by simp only [RepL]at ha;simpa [qeI,ha.1]using h
 |t::ps,x::args,vals,env,tmps,h,ha=>by
  simp only [RepL]at ha;obtain ⟨u,vs,O1,O2,rfl,hO,h1,h2⟩:=ha;simp only [List.nil_eq,List.append_eq_nil_iff]at hO;obtain ⟨rfl,rfl⟩:=hO;simp only [qeI,List.zip_cons_cons,List.foldl_cons];exact qpp ps args vs (env.set t x) (tmps.setIfInBounds t u) (by rw [Array.toList_setIfInBounds];exact qxg t h h1) h2
theorem qpe:∀(ps:List Tmp) (args env:List V) (r:Root),r∈ptrsL (qeI env ps args)->r∈ptrsL env\/r∈ptrsL args
 |[],args,env,r,h=>.inl (by simpa [qeI]using h)
 |t::ps,[],env,r,h=>.inl (by simpa [qeI]using h)
 |t::ps,x::args,env,r,h=>by
  rcases qpe ps args (env.set t x) r h with h1|h1
  ·rcases mem_set h1 with h2|h2
   ·exact .inl h2
   ·exact .inr (by simp [ptrsL,h2])
  ·exact .inr (by simp [ptrsL,h1])
theorem qCJ{C:Orc}(hC:OrcOk P C){w0:World}{X0:Cx}{Md:Md}{n:Nat}{st:St}{tmps:Array Value}{O:Pl->List Nat}(h:Rel st tmps w X O)(hF:Fr w0 X0 Md n st w X O){r:Root}{args:List V}{vals:List Value}{z:V}{s:St}{b:Nat}
  (ha:RepL w X (args.map V.hand) vals []) (hpa:∀q∈ptrsL args,(st.box q).isSome=true) (hx:qlp C r args st=some (z,s)) (hb:X.β r=some b) :
  ∃lo:Loop,w.heap[b]?=some (.loop lo)/\vals.length=lo.params.size/\∀F:Fence,(F=Fence.wide\/∃l,F=Fence.wide.inRound l) ->
   RoundIn F 0 P b lo.fn ((lo.params.zip vals.toArray).foldl (λtmps (t,a)=>tmps.setIfInBounds t a) lo.tmps) lo.assign lo.body w fun
    |.returned v,w'=>∃X' O',Rel s tmps w' X' O'/\Fr w0 X0 Md n s w' X' O'/\Rep w' X' z v []/\z.qq=[]
    |_,_=>False:=by
 unfold qlp at hx;split at hx
 ·rename_i pe g env ps assign body hst;split at hx
  ·cases hx
  ·rename_i hlen;split at hx
   ·rename_i s2 hA;split at hx
    ·rename_i pe2 g2 env2 ps2 as2 bo2 hs2;split at hx
     ·rename_i e s3 hB;split at hx
      ·rename_i st3 pe3 g3 env3 ps3 as3 bo3 hs3;split at hx
       ·rename_i L B hsp;split at hx
        ·rename_i hll;obtain ⟨rfl,rfl⟩:=Prod.mk.inj (Option.some.inj hx);obtain ⟨lo,hw,hst1,hpe1,hps,has,hbo,henv,hnm,_⟩:=qwW h hF hst hb;have hvl:vals.length=args.length:=by have:=qF _ _ _ ha;simpa using this.symm
         refine ⟨lo,hw,by rw [hvl,<- Array.length_toList,hps];exact Classical.not_not.1 hlen,λF hFF=>?_⟩;have hFn:F.fn lo.fn:=by rcases hFF with rfl|⟨l,rfl⟩<;>trivial
         have hFr:F.inRound b=Fence.wide.inRound b:=by rcases hFF with rfl|⟨l,rfl⟩<;>rfl
         have hzip:(lo.params.zip vals.toArray).foldl (λtmps (t,a)=>tmps.setIfInBounds t a) lo.tmps=(ps.zip vals).foldl (λtmps (t,a)=>tmps.setIfInBounds t a) lo.tmps:=by
          rw [<- Array.foldl_toList,Array.toList_zip,hps]
         rw [hzip];refine roundIn_of_wpIn hFn ?_;rw [hFr,has,hbo];have hlive:∀q,(st.box q).isSome=(qa6 (st.L++[st.B]) q).isSome:=λq=>by rw [qbi]
         obtain ⟨hR1,hF1⟩:=quj hF.now h.qFL (E:=qeI env ps (args.map V.hand)) (tmps:=(ps.zip vals).foldl (λtmps (t,a)=>tmps.setIfInBounds t a) lo.tmps) (qpp ps _ vals env lo.tmps henv ha) (λq hq=>by
          rw [<- hlive];rcases qpe _ _ _ _ hq with h1|h1
          ·exact h.ptrB r _ hst q (by simpa [ptrsL,V.qq]using h1)
          ·rw [show args.map V.hand=reflagL qha args from (qB _ _).symm,ptrsL_reflag]at h1;exact hpa q h1)
         have hbl:qa6 (st.L++[st.B]) r=some [.lp .ready pe g env ps assign body]:=by rw [<- qbi];exact hst
         have hrl:r.lvl<(st.L++[st.B]).length:=qu1 (by rw [hbl];rfl);have hFO:FOk (Fence.wide.inRound b) X (Mod (st.L++[st.B]) X λq=>O (.box q)) (st.L++[st.B]).length :=
          ⟨.inr ⟨r,b,rfl,hrl,hb,by show (qa6 (st.L++[st.B]) r).map qae=some true;rw [hbl];rfl⟩,λh0=>by simp at h0⟩
         refine wpIn_mono (hC.code _ _ _ _ _ _ hA _ w X _ _ {tmps:=_,defers:=[]} w hFO ⟨X,_,hR1,hF1,[],rfl,.nil,by simp⟩).wp ?_;rintro e1 a1 w1 ⟨rfl,X1,O1,hR2,hF2,hM2⟩;have hb2:X1.β r=some b:=by rw [hF2.β r hrl,hb]
         obtain ⟨lo2,hw2,hs2s,hs2p,hs2ps,hs2a,hs2b,hs2e,hnm2,hset2⟩:=qwW hR2 hF2 hs2 hb2;refine ⟨_,run_beginRound hw2 hs2s,?_⟩;obtain ⟨hR3,hF3⟩:=hset2 .busy pe2;rw [show (w1.putObj b (.loop {lo2 with state:=.busy}))=w1.putObj b (.loop {lo2 with state:=.busy,pending:=pe2})from by rw [<- hs2p]];refine wpIn_mono (hC.code _ _ _ _ _ _ hB _ w X _ _ a1 _ hFO ⟨X1,_,hR3,hF3,hM2.of λk hk _ _=>⟨World.putObj_heap_other (hnm2 k hk),rfl⟩⟩).wp ?_;rintro e2 a2 w3 ⟨rfl,X3,O3,hR4,hF4,hM4⟩;have hb3:X3.β r=some b:=by rw [hF4.β r hrl,hb]
         obtain ⟨lo3,hw3,_,_,_,_,_,_,_,hset3⟩:=qwW hR4 hF4 hs3 hb3;obtain ⟨hR5,hF5⟩:=hset3 (if e.code.isNone then .ready else .done) e.code;obtain ⟨hlr,hlen',hkind⟩:=qpj hR5 hF5;have hsp':=qfJ hsp;have haft:=qDp hF5 (ow:=λb=>∃q,b∈qjg (st.L++[st.B]).length (quz O3 r []) q) (λb ⟨q,hq⟩=>⟨.box q,qqF hq⟩);obtain ⟨hR6,hF6⟩:=qs3 h hF hlr hlen' hkind (λq b hb=>⟨q,hb⟩) haft hsp';have hfin:∃v w',(Instr.endRound b e.code).run P w3=.ok v w'/\∃X' O',Rel {st with L:=L,B:=B} tmps w' X' O'/\Fr w0 X0 Md n {st with L:=L,B:=B} w' X' O'/\Rep w' X' (.val (.bool e.code.isNone)) v []/\(V.val (.bool e.code.isNone)).qq=[] :=
          ⟨_,_,run_endRound _ hw3,X3,_,hR6,hF6,by simp [Rep],rfl⟩
         cases e<;>exact hfin
        ·cases hx
       ·cases hx
      ·cases hx
     ·cases hx
    ·cases hx
   ·cases hx
 ·cases hx
end
section
variable {P:Program} {H:Hints} {f:FuncId} {w:World} {X:Cx}
theorem qkn{d:TypeDesc}{k:Value}:∀{l l':List MapEntry} (i:Nat),l.map kv=l'.map kv->Instr.findNow d k l i=Instr.findNow d k l' i
 |[],[],_,_=>rfl
 |[],_::_,_,h=>by simp at h
 |_::_,[],_,h=>by simp at h
 |e::l,e'::l',i,h=>by
  simp only [qh,List.cons.injEq,kv,Prod.mk.injEq]at h;simp only [Instr.findNow,h.1.1,h.1.2,qkn (i+1) h.2]
theorem qg9{t:TypeId}{k:Value}:∀{l l':List MapEntry} (i:Nat),l.map kv=l'.map kv->Instr.findAsking t k l i=Instr.findAsking t k l' i
 |[],[],_,_=>rfl
 |[],_::_,_,h=>by simp at h
 |_::_,[],_,h=>by simp at h
 |e::l,e'::l',i,h=>by
  simp only [qh,List.cons.injEq,kv,Prod.mk.injEq]at h;simp only [Instr.findAsking,h.1.1,h.1.2,qg9 (i+1) h.2]
theorem qkm{t:TypeId}{k:Value}{l l':List MapEntry}(h:l.map kv=l'.map kv):Instr.findKey t k l=Instr.findKey t k l':=by
 grind [qg9,qkn,Instr.findKey]
theorem qtM(es:List (Value×Value)):(qfH es).map kv=es:=by
 simp [qfH,kv,Function.comp_def]
theorem qp5.map{b:Nat}{es:List (Value×Value)}{O:List Nat}(h:qp5 w X b [.mp es] O):∃ents ck,w.heap[b]?=some (.map ents ck)/\ents.toList.map kv=es/\O=[]:=by
 rcases h with ⟨cs,t,_,h⟩|⟨s,pe,g,env,ps,asg,body,lo,hc,_⟩|⟨es',ents,ck,hc,h1,h2,h3⟩
 ·simp_all [RepL,Rep]
 ·simp at hc
 grind
theorem Rel.qt9{st:St}{tmps:Array Value}{O:Pl->List Nat}(h:Rel st tmps w X O){d b:Nat}{es:List (Value×Value)}{ents:Array MapEntry}{ck:Nat}(hnb:qw st.B d=none)(hb:b<w.heap.size)(hωb:X.ω b=none)
  (hw:w.heap[b]?=some (.map ents ck)) (hes:ents.toList.map kv=es) (hno:∀r,(st.box r).isSome=true->X.β r≠some b) :
  Rel {st with B:=qb3 d [.mp es] st.B} tmps w (X.setβ ⟨st.L.length,d⟩ b) O:=by
 have hr0:st.box ⟨st.L.length,d⟩=none:=by simp [St.box,hnb]
 have hnotin:∀l:List Root,(∀r∈l,(st.box r).isSome=true)->(⟨st.L.length,d⟩:Root)∉l:=λl hl hm=>by grind
 have hext:∀{x:V} {u:Value} {A:List Nat},(∀r∈x.qq,(st.box r).isSome=true)->Rep w X x u A->Rep w (X.setβ ⟨st.L.length,d⟩ b) x u A:=λhx hr =>
  Rep.ext (ext_setβ (w':=w) (hnotin _ hx) h.dom (λ_ _=>rfl)) _ _ _ (λ_ h=>h) (by simp) hr
 have hextL:∀{l:List V} {us:List Value} {A:List Nat},(∀r∈ptrsL l,(st.box r).isSome=true)->RepL w X l us A->RepL w (X.setβ ⟨st.L.length,d⟩ b) l us A:=λhx hr =>
  RepL.ext (ext_setβ (w':=w) (hnotin _ hx) h.dom (λ_ _=>rfl)) _ _ _ (λ_ h=>h) (by simp) hr
 have hbox:∀r,({st with B:=qb3 d [.mp es] st.B}:St).box r=if r=⟨st.L.length,d⟩then some [.mp es]else st.box r:=λr=>qgw st d _ hnb r;have hlive:∀r,(st.box r).isSome=true->(({st with B:=qb3 d [.mp es] st.B}:St).box r).isSome=true:=λr hr=>by
  grind
 have hO0:O (.box ⟨st.L.length,d⟩)=[]:=h.boxD _ hr0;refine {size:=h.size,env:=?_,envD:=h.envD,box:=?_,boxD:=?_,inj:=?_,lin:=h.lin,dis:=h.dis,ptrE:=λr hr=>hlive r (h.ptrE r hr),ptrB:=?_,up:=?_,dom:=h.dom}
 ·intro s x hx;obtain ⟨v,hv,hr⟩:=h.env s x hx;exact ⟨v,hv,hext (λr hr=>h.ptrE r (qC.2 ⟨x,List.mem_of_getElem? hx,hr⟩)) hr⟩
 ·intro r c1 hr;rw [hbox]at hr;by_cases e:r=⟨st.L.length,d⟩
  ·subst e;rw [if_pos rfl]at hr;cases hr;exact ⟨b,by simp [Cx.setβ],hb,hωb,.inr (.inr ⟨es,ents,ck,rfl,hw,hes,hO0⟩)⟩
  ·rw [if_neg e]at hr;obtain ⟨k,hkb,hlt,hω,hbx⟩:=h.box r c1 hr;exact ⟨k,by simp [Cx.setβ,e,hkb],hlt,hω,hbx.qpV rfl (λl vals A hl _ hr'=>hextL (λr' hr'=>h.ptrB r c1 hr r' (hl r' hr')) hr')⟩
 ·intro r hr;rw [hbox]at hr;split at hr
  ·cases hr
  ·exact h.boxD r hr
 ·intro r r' k h1 h2 h3 h4;rw [hbox]at h1 h2;simp only [Cx.setβ]at h3 h4;split at h3
  ·grind
  ·rename_i e1;rw [if_neg e1]at h1;split at h4
   ·grind
   ·rename_i e2;rw [if_neg e2]at h2;exact h.inj r r' k h1 h2 h3 h4
 ·intro r c1 hr r' hr';rw [hbox]at hr;split at hr
  ·cases hr;simp [ptrsL,V.qq]at hr'
  ·exact hlive r' (h.ptrB r c1 hr r' hr')
 ·intro r c1 hr r' hr';rw [hbox]at hr;split at hr
  ·cases hr;simp [ptrsL,V.qq]at hr'
  ·exact h.up r c1 hr r' hr'
theorem Fr.qt9{w0:World}{X0:Cx}{M:Md}{n:Nat}{st:St}{tmps:Array Value}{O:Pl->List Nat}(h:Rel st tmps w X O)(hF:Fr w0 X0 M n st w X O){d b:Nat}{es:List (Value×Value)}(hnb:qw st.B d=none)(hb0:w0.heap.size<=b) :
  Fr w0 X0 M n {st with B:=qb3 d [.mp es] st.B} w (X.setβ ⟨st.L.length,d⟩ b) O where
 size:=hF.size
 kept:=hF.kept
 grew:=hF.grew
 β:=λr hr=>by
  have hl:=hF.lev;simp only [Cx.setβ];rw [if_neg (λe=>by grind)];exact hF.β r hr
 own:=hF.own
 boxM:=λr b' hr hb=>by
  rw [show ({st with B:=qb3 d [.mp es] st.B}:St).box r=if r=⟨st.L.length,d⟩then some [.mp es]else st.box r from qgw st d _ hnb r]at hr;simp only [Cx.setβ]at hb;split at hb
  ·grind
  ·rename_i e;rw [if_neg e]at hr;exact hF.boxM r b' hr hb
 lev:=hF.lev
 live:=λr hr=>by
  have hl:=hF.lev;rw [show ({st with B:=qb3 d [.mp es] st.B}:St).box r=if r=⟨st.L.length,d⟩then some [.mp es]else st.box r from qgw st d _ hnb r,if_neg (λe=>by grind)];exact hF.live r hr
 os:=hF.os
 out:=hF.out
 tape:=hF.tape
 gl:=hF.gl
 gm:=hF.gm
def qFF(P:Program)(w0:World)(X0:Cx)(M:Md)(n:Nat)(a:Act)(o:Oper)(w:World)(s:St):Prop :=
 ∃v w' r,(execOp a.eval o).run P w=.ok r w'/\(r=.value v\/(r=.skip/\v=undef))/\(qdu o.op=true->r=.value v/\w'=w)/\Sim w0 X0 M n s (a.put o.dst v).tmps w'
theorem qnK{st:St}{tmps:Array Value}{O:Pl->List Nat}(h:Rel st tmps w X O){r:Root}{v:Value}{Oin:List Nat}{es:List (Value×Value)}(hr:Rep w X (.mref r) v Oin)(hb:st.box r=some [.mp es]) :
  ∃b ents ck,v=.map (some b)/\X.β r=some b/\w.heap[b]?=some (.map ents ck)/\ents.toList.map kv=es:=by
 simp only [Rep]at hr;obtain ⟨_,b,hβ,rfl⟩:=hr;obtain ⟨b',hb',_,_,hbx⟩:=h.box r _ hb;obtain rfl:b=b':=by grind
 obtain ⟨ents,ck,h1,h2,_⟩:=hbx.map;grind
theorem qAQ{x y:V}{l:List Value}{O:List Nat}(h:RepL w X [x,y] l O):∃u v O1 O2,l=[u,v]/\O=O1++O2/\Rep w X x u O1/\Rep w X y v O2:=by
 grind [RepL]
theorem qpn{x y z:V}{l:List Value}{O:List Nat}(h:RepL w X [x,y,z] l O):∃u v s O1 O2 O3,l=[u,v,s]/\O=O1++(O2++O3)/\Rep w X x u O1/\Rep w X y v O2/\Rep w X z s O3:=by
 grind [RepL]
theorem qtV{b:Nat}{ents:Array MapEntry}{ck:Nat}(hb:w.heap[b]?=some (.map ents ck)):(getObj b).run P w=.ok (.map ents ck) w:=by
 simp [getObj,Sem.run,hb]
theorem qDt{b:Nat}{ents:Array MapEntry}{ck:Nat}(o:Obj)(hb:w.heap[b]?=some (.map ents ck)):(setObj b o).run P w=.ok () {w with heap:=w.heap.setIfInBounds b o}:=by
 simp [setObj,Sem.run,hb]
theorem qhP{b:Nat}{o o':Obj}(hb:w.heap[b]?=some o):(w.heap.setIfInBounds b o')[b]?=some o'/\∀k,k≠b->(w.heap.setIfInBounds b o')[k]?=w.heap[k]?:=by
 grind
theorem qyX{t:TypeId}{es:List (Value×Value)}{k z:V}{ok:Bool}{v:Value}{O1:List Nat}{b:Nat}{ents:Array MapEntry}{ck:Nat}(hz:qmu P H f t es k ok=some z)(hk:Rep w X k v O1)
  (hw:w.heap[b]?=some (.map ents ck)) (hes:ents.toList.map kv=es):∃u,(Instr.lookup t (.map (some b)) v ok).run P w=.ok u w/\Rep w X z u []/\z.qq=[]:=by
 unfold qmu at hz;split at hz
 ·rename_i kt vt a hu hka;obtain ⟨rfl,_⟩:=rep_toVal _ _ _ _ hka hk;have hemp:es.isEmpty=ents.isEmpty:=by
   rw [<- hes];cases hl:ents.toList with
   |nil=>simp_all
   |cons x l=>grind
  have hfk:∀r,valOf P (Instr.findKey kt v (qfH es))=some r->(Instr.findKey kt v ents.toList).run P w=.ok r w:=λr hr=>by
   grind [qkm,qtM,qcK,qfH]
  split at hz
  ·rename_i u1 i v1 hc hf;simp only [qb]at hz;subst hz;have h1:=qcK (w:=w) hc;rw [hemp]at h1;refine ⟨if ok then .tuple #[v1,.bool true]else v1,?_,?_,?_⟩
   ·simp only [Instr.lookup,Sem.run_bind,run_underlying hu,Result.andThen_ok,qtV hw,Sem.run_pure,h1,hfk _ hf]
   ·cases ok with
    |true=>simp only [if_true,Rep];exact ⟨[v1,.bool true],rfl,by simp only [RepL];exact ⟨v1,_,[],[],rfl,rfl,qgk v1,_,[],[],[],rfl,rfl,by simp [Rep],rfl,rfl⟩⟩
    |false=>exact qgk v1
   grind [qqL,V.qq,ptrsL]
  ·rename_i u1 u2 hc hf hzo;rename_i zo;simp only [qb]at hz;subst hz;have h1:=qcK (w:=w) hc;rw [hemp]at h1;obtain ⟨i,u,hi,hu0,rfl⟩:=qdv hzo;have hzv:(zeroValue vt).run P w=.ok u w:=by simp_all [Sem.run_bind,run_program,Result.andThen_ok,Sem.run_pure,zeroValue,typeInfo]
   refine ⟨if ok then .tuple #[u,.bool false]else u,?_,?_,?_⟩
   ·simp only [Instr.lookup,Sem.run_bind,run_underlying hu,Result.andThen_ok,qtV hw,Sem.run_pure,h1,hfk _ hf,hzv]
   ·cases ok with
    |true=>simp only [if_true,Rep];exact ⟨[u,.bool false],rfl,by simp only [RepL];exact ⟨u,_,[],[],rfl,rfl,qgY _ u,_,[],[],[],rfl,rfl,by simp [Rep],rfl,rfl⟩⟩
    |false=>exact qgY _ u
   grind [qel,V.qq,ptrsL]
  grind
 grind
theorem qrf{t:TypeId}{es es':List (Value×Value)}{k x:V}{v u:Value}{O1 O2:List Nat}{b:Nat}{ents:Array MapEntry}{ck:Nat}(hz:qj8 P t es k x=some es')(hk:Rep w X k v O1)(hx:Rep w X x u O2)
  (hw:w.heap[b]?=some (.map ents ck)) (hes:ents.toList.map kv=es):∃ents' ck',(Instr.mapUpdate t (.map (some b)) v u).run P w=.ok () {w with heap:=w.heap.setIfInBounds b (.map ents' ck')}/\ents'.toList.map kv=es':=by
 unfold qj8 at hz;split at hz
 ·rename_i kt vt a y hu hka hxy;obtain ⟨rfl,_⟩:=rep_toVal _ _ _ _ hka hk;obtain ⟨rfl,_⟩:=rep_toVal _ _ _ _ hxy hx;have hfk:∀r,valOf P (Instr.findKey kt v (qfH es))=some r->(Instr.findKey kt v ents.toList).run P w=.ok r w:=λr hr=>by
   grind [qkm,qtM,qcK,qfH]
  split at hz
  ·rename_i u1 i v1 hc hf;split at hz
   ·rename_i e he;split at hz
    ·rename_i hsb;simp only [qb]at hz;subst hz;have hei:(ents.toList.map kv)[i]?=some e:=by grind
     rw [List.getElem?_map]at hei;obtain ⟨me,hme,rfl⟩:=qc.1 hei;have hme':ents[i]?=some me:=by simp_all
     have hst:(Instr.keyThatStays (((ents[i]?).map (·.key)).getD v) v).run P w=.ok v w:=by
      simp_all [qi,Option.getD_some,if_pos,Instr.keyThatStays]
     refine ⟨ents.modify i λe=>{e with key:=v,val:=u},ck,?_,?_⟩
     ·simp only [Instr.mapUpdate,Sem.run_bind,run_underlying hu,Result.andThen_ok,qtV hw,qcK hc,hfk _ hf,hst,qDt _ hw]
     ·rw [Array.toList_modify,<- hes];apply List.ext_getElem?;grind
    grind
   grind
  ·rename_i u1 hc hf;simp only [qb]at hz;subst hz;refine ⟨ents.push {key:=v,val:=u,born:=ck},ck+1,?_,?_⟩
   ·simp only [Instr.mapUpdate,Sem.run_bind,run_underlying hu,Result.andThen_ok,qtV hw,qcK hc,hfk _ hf,qDt _ hw]
   grind
  grind
 grind
theorem qqC{w0:World}{X0:Cx}{M:Md}{n:Nat}{st s:St}{a:Act}{O:Pl->List Nat}{o:Oper}{xs:List V}{z:V}{fp:Fp}{Oin:List Nat}(h:Rel st a.tmps w X O)(hF:Fr w0 X0 M n st w X O)
  (hrep:RepL w X xs (o.op.operands.toList.map a.eval) Oin) (hx:mapStep P H f o xs st=some (z,s,fp)):qFF P w0 X0 M n a o w (s.put o.dst z):=by
 unfold mapStep at hx;split at hx
 ·-- make
  rename_i t ro hop;split at hx
  ·rename_i d kt vt hd hu;split at hx
   ·rename_i hc;obtain ⟨hnb,hci⟩:=hc;simp only [qb,Prod.mk.injEq]at hx;obtain ⟨rfl,rfl,rfl⟩:=hx;have hnb':qw st.B (qX d)=none:=by simp_all
    have hrun:(execOp a.eval o).run P w=.ok (.value (.map (some w.heap.size))) (w.alloc (.map #[] 0)):=by
     have h1:(Instr.makeMap t (ro.map a.eval)).run P w=.ok (.map (some w.heap.size)) (w.alloc (.map #[] 0)):=by
      cases ro with
      |none=>rfl
      |some x =>
       have hops:o.op.operands.toList=[x]:=by rw [hop];rfl
       rw [hops]at hrep;simp only [qh,List.map_nil]at hrep;have hx1:∃k m,a.eval x=.int k m:=by
        unfold qlM at hci;grind [List.cons.injEq,RepL,Rep]
       obtain ⟨k,m,hxe⟩:=hx1;simp only [qi,Instr.makeMap,Sem.run_bind,run_underlying hu,Result.andThen_ok,hxe,asInt,Sem.run_pure];rfl
     simp_all [Sem.run_bind,Result.andThen_ok,Sem.run_pure,execOp]
    refine ⟨_,_,_,hrun,.inl rfl,λht=>by simp_all [qdu],?_⟩;have heff:Eff w X (w.alloc (.map #[] 0)) X [] :=
     ⟨by simp,λb hb _=>heap_alloc_old w _ hb,λ_ _ _=>rfl,by simp,rfl,λb e fz hb=>by have:=h.dom b e fz hb;simp;omega,rfl,rfl,rfl⟩
    have h1:=h.put (T:=[]) (Oin:=[]) (O':=[]) (z:=.undef) (v:=undef) none (by simp) heff (by simp [Rep]) Lin.nil (by simp) (by simp [V.qq]);have hF1:=Fr.put (z:=.undef) h hF (T:=[]) (Oin:=[]) (O':=[]) none (by simp) heff (by simp);change Rel st a.tmps _ X _ at h1
    change Fr w0 X0 M n st _ X _ at hF1
    have hωn:X.ω w.heap.size=none:=by
     cases hω:X.ω w.heap.size with
     |none=>rfl
     |some p=>have:=h.dom w.heap.size p.1 p.2 hω;omega
    have h2:=h1.qt9 (d:=qX d) (b:=w.heap.size) (es:=[]) hnb' (by simp) hωn (heap_alloc_new w _) rfl (λr hr e=>by
     obtain ⟨c,hc⟩:=Option.isSome_iff_exists.1 hr;obtain ⟨b',hb',hlt,_⟩:=h.box r c hc;grind)
    have hF2:=Fr.qt9 (es:=[]) (d:=qX d) (b:=w.heap.size) h1 hF1 hnb' hF.size;rw [hd,qcx];exact ⟨_,_,h2.qjU (some d) (z:=.mref ⟨st.L.length,qX d⟩) (v:=.map (some w.heap.size)) (O':=[]) (by simp_all [trivial,Rep,Cx.setβ]) Lin.nil (by simp) (λr hr=>by
     simp_all [List.mem_singleton,qgw,V.qq,qX]),hF2.qjU (some d) (by simp)⟩
   grind
  grind
 ·-- look up
  rename_i t mo ko ok hop;split at hx
  ·rename_i r k;split at hx
   ·rename_i es hes;obtain ⟨v,hv,he⟩:=qc.1 hx;obtain ⟨rfl,rfl,rfl⟩:=Prod.mk.inj he |>.imp id Prod.mk.inj
    have hops:o.op.operands.toList=[mo,ko]:=by rw [hop];rfl
    rw [hops]at hrep;obtain ⟨u1,u2,O1,O2,hu,rfl,h1,h2⟩:=qAQ hrep;simp only [qh,List.map_nil,List.cons.injEq,and_true]at hu;obtain ⟨rfl,rfl⟩:=hu;obtain ⟨b,ents,ck,hvm,_,hw,hes'⟩:=qnK h h1 hes;obtain ⟨u,hrun,hru,hpu⟩:=qyX hv h2 hw hes';refine ⟨u,w,.value u,?_,.inl rfl,λ_=>⟨rfl,rfl⟩,X,qiF O [] o.dst st.E.length [],?_⟩
    ·simp_all [Sem.run_bind,Result.andThen_ok,Sem.run_pure,execOp]
    ·rw [qcx];exact ⟨h.qjU o.dst hru Lin.nil (by simp) (by simp_all),hF.qjU o.dst (by simp)⟩
   grind
  grind
 ·-- update
  rename_i t mo ko xo hop;split at hx
  ·rename_i r k x;split at hx
   ·rename_i es hes;obtain ⟨es',hv,he⟩:=qc.1 hx;obtain ⟨rfl,rfl,rfl⟩:=Prod.mk.inj he |>.imp id Prod.mk.inj
    have hops:o.op.operands.toList=[mo,ko,xo]:=by rw [hop];rfl
    rw [hops]at hrep;obtain ⟨u1,u2,u3,O1,O2,O3,hu,rfl,h1,h2,h3⟩:=qpn hrep;simp only [qh,List.map_nil,List.cons.injEq,and_true]at hu;obtain ⟨rfl,rfl,rfl⟩:=hu;obtain ⟨b,ents,ck,hvm,hβ,hw,hes'⟩:=qnK h h1 hes;obtain ⟨ents',ck',hrun,hes2⟩:=qrf hv h2 h3 hw hes';have hset:=h.qp (c':=[.mp es']) (Ob:=[]) (w':={w with heap:=w.heap.setIfInBounds b (.map ents' ck')}) hes hβ (λk hk=>(qhP hw).2 k hk) (by simp) (.inr (.inr ⟨es',ents',ck',rfl,(qhP hw).1,hes2,rfl⟩)) Lin.nil (by simp) (by simp [ptrsL,V.qq]);have hsetF:=Fr.qp (c':=[.mp es']) (Ob:=[]) (w':={w with heap:=w.heap.setIfInBounds b (.map ents' ck')}) h hF hes hβ rfl (λk hk=>(qhP hw).2 k hk) (by simp) (by simp) rfl rfl rfl;refine ⟨undef,{w with heap:=w.heap.setIfInBounds b (.map ents' ck')},.skip,?_,.inr ⟨rfl,rfl⟩,λht=>by simp_all [qdu],X,qiF (quz O r []) [] o.dst (st.qp r [.mp es']).E.length [],?_⟩
    ·simp_all [Sem.run_bind,Result.andThen_ok,Sem.run_pure,execOp]
    ·rw [qcx];exact ⟨hset.qjU o.dst (z:=.undef) (v:=undef) (O':=[]) (by simp [Rep]) Lin.nil (by simp) (by simp [V.qq]),hsetF.qjU o.dst (by simp)⟩
   grind
  grind
 ·-- insert
  rename_i t mo ko xo hop;split at hx
  ·rename_i r k x;split at hx
   ·rename_i es hes;obtain ⟨es',hv,he⟩:=qc.1 hx;obtain ⟨rfl,rfl,rfl⟩:=Prod.mk.inj he |>.imp id Prod.mk.inj
    have hops:o.op.operands.toList=[mo,ko,xo]:=by rw [hop];rfl
    rw [hops]at hrep;obtain ⟨u1,u2,u3,O1,O2,O3,hu,rfl,h1,h2,h3⟩:=qpn hrep;simp only [qh,List.map_nil,List.cons.injEq,and_true]at hu;obtain ⟨rfl,rfl,rfl⟩:=hu;obtain ⟨b,ents,ck,hvm,hβ,hw,hes'⟩:=qnK h h1 hes;obtain ⟨ents',ck',hrun,hes2⟩:=qrf hv h2 h3 hw hes';have hset:=h.qp (c':=[.mp es']) (Ob:=[]) (w':={w with heap:=w.heap.setIfInBounds b (.map ents' ck')}) hes hβ (λk hk=>(qhP hw).2 k hk) (by simp) (.inr (.inr ⟨es',ents',ck',rfl,(qhP hw).1,hes2,rfl⟩)) Lin.nil (by simp) (by simp [ptrsL,V.qq]);have hsetF:=Fr.qp (c':=[.mp es']) (Ob:=[]) (w':={w with heap:=w.heap.setIfInBounds b (.map ents' ck')}) h hF hes hβ rfl (λk hk=>(qhP hw).2 k hk) (by simp) (by simp) rfl rfl rfl;refine ⟨undef,{w with heap:=w.heap.setIfInBounds b (.map ents' ck')},.skip,?_,.inr ⟨rfl,rfl⟩,λht=>by simp_all [qdu],X,qiF (quz O r []) [] o.dst (st.qp r [.mp es']).E.length [],?_⟩
    ·simp_all [Sem.run_bind,Result.andThen_ok,Sem.run_pure,execOp]
    ·rw [qcx];exact ⟨hset.qjU o.dst (z:=.undef) (v:=undef) (O':=[]) (by simp [Rep]) Lin.nil (by simp) (by simp [V.qq]),hsetF.qjU o.dst (by simp)⟩
   grind
  grind
 ·-- len
  rename_i args argTypes hop;split at hx
  ·rename_i r;split at hx
   ·rename_i es hes;split at hx
    ·rename_i kt vt hat;split at hx
     ·obtain ⟨t,ht0,hu⟩:=qd.1 hat;simp only [qb,Prod.mk.injEq]at hx;obtain ⟨rfl,rfl,rfl⟩:=hx;have hops:o.op.operands.toList=args.toList:=by simp_all [Op.operands,Call.operands]
      rw [hops]at hrep;simp only [RepL]at hrep;obtain ⟨u1,vs,O1,O2,hu1,_,h1,rfl,_⟩:=hrep;obtain ⟨b,ents,ck,hvm,_,hw,hes'⟩:=qnK h h1 hes;have hargs:args.map a.eval=#[.map (some b)]:=by
       apply Array.ext';simp_all
      have hrun:(Builtin.len_ argTypes o.type #[.map (some b)]).run P w=.ok (.int .i64 es.length) w:=by
       have hsz:ents.size=es.length:=by rw [<- hes'];simp
       simp [Builtin.len_,ht0,run_underlying hu,qtV hw,goInt,hsz]
      refine ⟨.int .i64 es.length,w,.value (.int .i64 es.length),?_,.inl rfl,λ_=>⟨rfl,rfl⟩,X,qiF O [] o.dst st.E.length [],?_⟩
      ·simp only [execOp,hop,resolve,Sem.run_bind,Sem.run_pure,Result.andThen_ok,invoke,hargs,builtin,hrun]
      ·rw [qcx];exact ⟨h.qjU o.dst (O':=[]) (by simp [Rep]) Lin.nil (by simp) (by simp [V.qq]),hF.qjU o.dst (by simp)⟩
     grind
    grind
   grind
  grind
 grind
mutual
theorem rep_adopt{X':Cx}{r q:Root}{b:Nat}(h1:X.β r=some b)(h2:X'.β q=some b)(hω:X'.ω=X.ω):∀(x:V) (v:Value) (O:List Nat),x.onlyMaps=true->(∀k∈x.qq,k=r)->Rep w X x v O->Rep w X' (x.adopt q) v O
 |.undef,_,_,_,_,hr=>by simp_all [V.adopt,Rep]
 |.val _,_,_,_,_,hr=>by simp_all [V.adopt,Rep]
 |.mref k,v,O,_,hp,hr=>by
  simp_all [V.adopt,Rep,V.qq]
 |.iface t x,v,O,ho,hp,hr=>by
  grind [undef,V.adopt,Rep,V.onlyMaps]
 |.ptr ..,_,_,ho,_,_|.yld _,_,_,ho,_,_|.bsl ..,_,_,ho,_,_|.lp ..,_,_,ho,_,_=>by simp [V.onlyMaps]at ho
 |.mp _,_,_,_,_,hr=>by simp_all [Rep]
 |.cptr f cs,v,O,ho,hp,hr=>by
  simp only [V.onlyMaps]at ho;simp only [V.adopt,Rep]at hr ⊢;obtain ⟨h0,b',off,vals,hv,hs,⟨e,fz,hω',hle,hsh⟩,hl,hno⟩:=hr;exact ⟨h0,b',off,vals,hv,hs,⟨e,fz,by grind,hle,hsh⟩,repL_adopt h1 h2 hω cs vals [] ho (λk hk=>hp k (by simp_all [V.qq])) hl,hno⟩
 |.sl f c l,v,O,_,_,hr=>by
  have e:Ext [] w X w X' (λ_=>False):={β:=by simp,ω:=λb e fz h=>⟨e,fz,by grind,Nat.le_refl _,id,λ_=>⟨rfl,rfl⟩⟩,cell:=λ_ _ _ _ _ _ _ h=>h,obj:=λb e fz c t _ _ h=>⟨c,h,rfl⟩}
  simp only [V.adopt];exact Rep.ext e _ _ _ (by simp [V.qq]) (by simp) hr
 |.room s n,v,O,_,_,hr=>by
  have e:Ext [] w X w X' (λ_=>False):={β:=by simp,ω:=λb e fz h=>⟨e,fz,by grind,Nat.le_refl _,id,λ_=>⟨rfl,rfl⟩⟩,cell:=λ_ _ _ _ _ _ _ h=>h,obj:=λb e fz c t _ _ h=>⟨c,h,rfl⟩}
  simp only [V.adopt];exact Rep.ext e _ _ _ (by simp [V.qq]) (by simp) hr
 |.fn f a c,v,O,ho,hp,hr=>by
  simp only [V.onlyMaps,qe]at ho;simp only [V.adopt,Rep]at hr ⊢;obtain ⟨va,vc,O1,O2,hv,rfl,h3,h4⟩:=hr;exact ⟨va,vc,O1,O2,hv,rfl,repL_adopt h1 h2 hω a va O1 ho.1 (λk hk=>hp k (by simp [V.qq,hk])) h3,repL_adopt h1 h2 hω c vc O2 ho.2 (λk hk=>hp k (by simp [V.qq,hk])) h4⟩
 |.agg l,v,O,ho,hp,hr=>by
  simp only [V.onlyMaps]at ho;simp only [V.adopt,Rep]at hr ⊢;obtain ⟨vals,hv,h3⟩:=hr;exact ⟨vals,hv,repL_adopt h1 h2 hω l vals O ho (λk hk=>hp k (by simpa [V.qq]using hk)) h3⟩
 |.tuple l,v,O,ho,hp,hr=>by
  simp only [V.onlyMaps]at ho;simp only [V.adopt,Rep]at hr ⊢;obtain ⟨vals,hv,h3⟩:=hr;exact ⟨vals,hv,repL_adopt h1 h2 hω l vals O ho (λk hk=>hp k (by simpa [V.qq]using hk)) h3⟩
theorem repL_adopt{X':Cx}{r q:Root}{b:Nat}(h1:X.β r=some b)(h2:X'.β q=some b)(hω:X'.ω=X.ω):∀(l:List V) (vals:List Value) (O:List Nat),onlyMapsL l=true->(∀k∈ptrsL l,k=r)->RepL w X l vals O->RepL w X' (adoptL q l) vals O
 |[],_,_,_,_,hr=>by simp_all [adoptL,RepL]
 |x::l,vals,O,ho,hp,hr=>by
  simp only [onlyMapsL,qe]at ho;simp only [adoptL,RepL]at hr ⊢;obtain ⟨u,vs,O1,O2,hv,rfl,h3,h4⟩:=hr;exact ⟨u,vs,O1,O2,hv,rfl,rep_adopt h1 h2 hω x u O1 ho.1 (λk hk=>hp k (by simp [ptrsL,hk])) h3,repL_adopt h1 h2 hω l vs O2 ho.2 (λk hk=>hp k (by simp [ptrsL,hk])) h4⟩
end
mutual
theorem adopt_ptrs(q:Root):∀(x:V),x.onlyMaps=true->∀k∈(x.adopt q).qq,k=q
 |.undef,_|.val _,_|.sl ..,_|.room ..,_|.mp _,_=>by simp [V.adopt,V.qq]
 |.mref _,_=>by simp [V.adopt,V.qq]
 |.iface t x,ho=>by
  grind [undef,V.adopt,V.qq,V.onlyMaps]
 |.ptr ..,ho|.yld _,ho|.bsl ..,ho|.lp ..,ho=>by simp [V.onlyMaps]at ho
 |.fn f a c,ho=>by
  simp only [V.onlyMaps,qe]at ho;simp only [V.adopt,V.qq,qj];rintro k (hk|hk)
  ·exact adoptL_ptrs q a ho.1 k hk
  ·exact adoptL_ptrs q c ho.2 k hk
 |.agg l,ho=>by
  simp only [V.onlyMaps]at ho;simp only [V.adopt,V.qq];exact adoptL_ptrs q l ho
 |.cptr _ l,ho=>by
  simp only [V.onlyMaps]at ho;simp only [V.adopt,V.qq];exact adoptL_ptrs q l ho
 |.tuple l,ho=>by
  simp only [V.onlyMaps]at ho;simp only [V.adopt,V.qq];exact adoptL_ptrs q l ho
theorem adoptL_ptrs(q:Root):∀(l:List V),onlyMapsL l=true->∀k∈ptrsL (adoptL q l),k=q
 |[],_=>by simp [adoptL,ptrsL]
 |x::l,ho=>by
  simp only [onlyMapsL,qe]at ho;simp only [adoptL,ptrsL,qj];rintro k (hk|hk)
  ·exact adopt_ptrs q x ho.1 k hk
  ·exact adoptL_ptrs q l ho.2 k hk
end
mutual
theorem rep_noowns:∀(x:V) (v:Value) (O:List Nat),x.owns=false->Rep w X x v O->O=[]
 |.undef,_,_,_,h=>by simp_all [Rep]
 |.val _,_,_,_,h=>by simp_all [Rep]
 |.ptr ..,_,_,_,h=>by simp_all [Rep]
 |.yld _,_,_,_,h=>by simp_all [Rep]
 |.mref _,_,_,_,h=>by simp_all [Rep]
 |.bsl ..,_,_,_,h=>by simp_all [Rep]
 |.cptr ..,_,_,_,h=>by simp_all [Rep]
 |.room ..,_,_,ho,_=>by simp [V.owns]at ho
 |.sl f c l,v,O,ho,h=>by
  grind [Bool.or_eq_false_iff,decide_eq_false_iff_not,V.owns,Rep]
 |.fn f a c,v,O,ho,h=>by
  simp only [V.owns,Bool.or_eq_false_iff]at ho;simp only [Rep]at h;obtain ⟨va,vc,O1,O2,_,rfl,h1,h2⟩:=h;rw [repL_noowns a va O1 ho.1 h1,repL_noowns c vc O2 ho.2 h2];rfl
 |.iface t x,v,O,ho,h=>by simp only [V.owns]at ho;simp only [Rep]at h;obtain ⟨u,_,h1⟩:=h;exact rep_noowns x u O ho h1
 |.agg l,v,O,ho,h=>by simp only [V.owns]at ho;simp only [Rep]at h;obtain ⟨vals,_,h1⟩:=h;exact repL_noowns l vals O ho h1
 |.tuple l,v,O,ho,h=>by simp only [V.owns]at ho;simp only [Rep]at h;obtain ⟨vals,_,h1⟩:=h;exact repL_noowns l vals O ho h1
 |.lp ..,_,_,_,h=>by simp_all [Rep]
 |.mp _,_,_,_,h=>by simp_all [Rep]
theorem repL_noowns:∀(l:List V) (vals:List Value) (O:List Nat),ownsL l=false->RepL w X l vals O->O=[]
 |[],_,_,_,h=>by simp_all [RepL]
 |x::l,vals,O,ho,h=>by
  simp only [ownsL,Bool.or_eq_false_iff]at ho;simp only [RepL]at h;obtain ⟨u,vs,O1,O2,_,rfl,h1,h2⟩:=h;rw [rep_noowns x u O1 ho.1 h1,repL_noowns l vs O2 ho.2 h2];rfl
end
theorem qC9{C:Orc}(hC:∀g args r s es,C.born g args=some (r,s,es)->qy4 P g args r s es){w0:World}{X0:Cx}{Md:Md}{n:Nat}{st:St}{tmps:Array Value}{O:Pl->List Nat}{g:FuncId}{first args cap:List V}{vals:List Value}{Oa:List Nat}{T:List Tmp}{z:V}{s:St}{d:Option Tmp}{fp:Fp}
  (h:Rel st tmps w X O) (hF:Fr w0 X0 Md n st w X O) (ha:RepL w X (first++args++cap) vals Oa) (hin:∀b∈Oa,∃t∈T,b∈O (.tmp t))
  (hx:qnp C d (.fn g first cap) args {st with E:=qz st.E T}=some (z,s,fp)) :
  qsP True P g vals.toArray w λv w'=>∃X' O',Rel (s.put d z) (qxb tmps d v) w' X' O'/\Fr w0 X0 Md n (s.put d z) w' X' O':=by
 unfold qnp at hx;cases d with
 |none=>cases hx
 |some d =>
 simp only at hx;split at hx
 rotate_left
 ·cases hx
 rename_i hc;simp only [qe,Bool.not_eq_true',List.isEmpty_iff,Option.isNone_iff_eq_none]at hc;obtain ⟨⟨hnp,hl⟩,hnb⟩:=hc;split at hx
 rotate_left
 ·cases hx
 rename_i r s0 es hr;obtain ⟨rfl,rfl,_⟩:=Prod.mk.inj (Option.some.inj hx) |>.imp id Prod.mk.inj
 obtain ⟨hom,hpr,hok⟩:=hC _ _ _ _ _ hr;have hOalt:=repL_dom h.dom _ vals Oa ha;have hok:=hok w ((X.freeze Oa).callee (looseL (first++args++cap)) λ_=>false) vals
  (by rw [show (first++args++cap).map V.share=reflagL qK (first++args++cap)from (qB _ _).symm];grind [qqV]) ((hF.now.freeze Oa).callee _ _)
  (λb e fz hω=>by
   simp only [Cx.callee,Cx.freeze,qf,if_false]at hω;by_cases hb:b∈Oa
   ·exact hOalt b hb
   ·rw [if_neg hb]at hω;obtain ⟨p,hp,_⟩:=qd.1 hω;exact h.dom b p.1 p.2 hp)
  (by rw [show (first++args++cap).map V.share=reflagL qK (first++args++cap)from (qB _ _).symm,ptrsL_reflag];exact hnp)
  (λb e fz hω=>by
   simp only [Cx.callee,qf,if_false]at hω;grind [qd])
 refine hok.mono id ?_;rintro v w' ⟨X',b,ents,ck,hrep,hdom,hβ,hb1,hb2,hωb,hw,hes,haft⟩;have hnoM:∀b,¬ Mod [] ((X.freeze Oa).callee (looseL (first++args++cap)) λ_=>false) (λ_=>[]) b:=λb hb=>by
  rcases hb with ⟨q,h1,_⟩|⟨q,h1⟩
  ·simp [qa6]at h1
  ·simp at h1
 let X2:Cx:=(X.freeze Oa).back X' w.heap.size λ_=>false
 have hX2:∀b,X2.ω b=if b<w.heap.size then (X.freeze Oa).ω b else X'.ω b:=λb=>by simp [X2,Cx.back]
 have heff:Eff w X w' X2 Oa:={
  size:=haft.size
  kept:=λb hb _=>(haft.kept b hb (hnoM b)).1
  ωk:=λb hb hn=>by rw [hX2,if_pos hb];simp [Cx.freeze,hn]
  own:=λb hb e fz hω=>by
   have hlt:=hOalt b hb;refine ⟨e,true,by rw [hX2,if_pos hlt,frozen_ω hω];simp [hb],Nat.le_refl _,λ_=>rfl,λi v _ hc=>by rw [cell_of_heap (haft.kept b hlt (hnoM b)).1];exact hc,λc t hc=>⟨c,by rw [(haft.kept b hlt (hnoM b)).1];exact hc,rfl⟩⟩
  β:=rfl
  dom:=λb e fz hω=>by
   rw [hX2]at hω;split at hω
   ·omega
   ·exact hdom b e fz hω
  os:=haft.os
  out:=haft.out
  tape:=haft.tape}
 have hold:∀b e fz,X'.ω b=some (e,fz)->b<w.heap.size->fz=true/\(X.freeze Oa).ω b=some (e,true):=λb e fz hω hlt=>by
  rw [(haft.kept b hlt (hnoM b)).2]at hω;simp only [Cx.callee,qf,if_false]at hω;grind [qd]
 let X3:Cx:={β:=X'.β,ω:=X2.ω}
 have hrep3:Rep w' X3 r v []:=by
  refine Rep.ext (X:=X') (X':=X3) (w':=w') (R:=r.qq) (U:=λ_=>False) {β:=λ_ _=>rfl,ω:=λb e fz hω=>?_,cell:=λ_ _ _ _ _ _ _ h=>h,obj:=λb e fz c t _ _ h=>⟨c,h,rfl⟩} _ _ _ (λ_ h=>h) (by simp) hrep;grind
 have h1:=h.put (T:=T) (O':=[]) (z:=.undef) (v:=undef) none hin heff (by simp [Rep]) Lin.nil (by simp) (by simp [V.qq]);have hF1:=Fr.put (z:=.undef) h hF (T:=T) (O':=[]) none hin heff (by simp);change Rel {st with E:=qz st.E T} tmps w' X2 _ at h1
 change Fr w0 X0 Md n {st with E:=qz st.E T} w' X2 _ at hF1
 have hωb2:X2.ω b=none:=by rw [hX2,if_neg (by omega)];exact hωb
 have h2:=h1.qt9 (d:=qX d) (b:=b) (es:=es) hnb hb2 hωb2 hw hes (λr hr e=>by
  obtain ⟨c,hc⟩:=Option.isSome_iff_exists.1 (show (st.box r).isSome=true from hr);obtain ⟨b',hb',hlt,_⟩:=h.box r c hc;rw [show X2.β r=X.β r from rfl]at e;rw [e]at hb';cases hb';omega)
 have hF2:=Fr.qt9 (es:=es) (d:=qX d) (b:=b) h1 hF1 hnb (Nat.le_trans hF.size hb1);have hz:Rep w' (X2.setβ ⟨st.L.length,qX d⟩ b) (r.adopt ⟨st.L.length,qX d⟩) v [] :=
  rep_adopt (X:=X3) (X':=X2.setβ ⟨st.L.length,qX d⟩ b) (r:=⟨0,s0⟩) (q:=⟨st.L.length,qX d⟩) (b:=b) hβ (by simp [Cx.setβ]) rfl r v [] hom hpr hrep3
 exact ⟨_,_,h2.qjU (some d) hz Lin.nil (by simp) (λq hq=>by
  rw [adopt_ptrs _ r hom q hq];rw [qgw {st with E:=qz st.E T} (qX d) _ hnb];simp),hF2.qjU (some d) (by simp)⟩
theorem qEC{C:Orc}(hC:∀g c,C.seq g=some c->qDK P g c){w0:World}{X0:Cx}{Md:Md}{n:Nat}{st:St}{tmps:Array Value}{O:Pl->List Nat}{g:FuncId}{first args cap:List V}{vals:List Value}{Oa:List Nat}{T:List Tmp}{z:V}{s:St}{d:Option Tmp}{fp:Fp}
  (h:Rel st tmps w X O) (hF:Fr w0 X0 Md n st w X O) (ha:RepL w X (first++args++cap) vals Oa)
  (hx:qy3 C d (.fn g first cap) args {st with E:=qz st.E T}=some (z,s,fp)) :
  qsP True P g vals.toArray w λv w'=>∃X' O',Rel (s.put d z) (qxb tmps d v) w' X' O'/\Fr w0 X0 Md n (s.put d z) w' X' O':=by
 unfold qy3 at hx;cases d with
 |none=>cases hx
 |some d =>
 simp only at hx;split at hx
 rotate_left
 ·cases hx
 rename_i str sep hl;split at hx
 rotate_left
 ·cases hx
 rename_i clos hs;split at hx
 rotate_left
 ·cases hx
 rename_i hnb;rw [Option.isNone_iff_eq_none]at hnb;obtain ⟨rfl,rfl,_⟩:=Prod.mk.inj (Option.some.inj hx) |>.imp id Prod.mk.inj
 rw [hl]at ha;simp only [RepL,Rep]at ha;obtain ⟨_,_,_,_,rfl,_,⟨rfl,_⟩,_,_,_,_,rfl,_,⟨rfl,_⟩,rfl,_⟩:=ha;refine (hC g clos hs str sep w).mono id ?_;rintro v w' ⟨rfl,t,t2,t3,rfl⟩;have h1:=h.taken T;have hF1:=Fr.taken h hF T;have h2:=h1.qoX (d:=d) (c:=[.val (.string str)]) (arr:=#[.string str]) (t:=t) (Oc:=[]) hnb (by grind [RepL,Rep]) Lin.nil (by simp) (by simp [ptrsL,V.qq]);have hF2:=Fr.qoX (d:=d) (c:=[.val (.string str)]) (arr:=#[.string str]) (t:=t) (Oc:=[]) h1 hF1 hnb (by simp);let w1:=w.alloc (.cells #[.string str] t)
 let w3:=(w1.alloc (.cells #[.string sep] t2)).alloc (.cells #[.int .i64 0] t3)
 have hs1:w1.heap.size=w.heap.size+1:=by simp [w1]
 have hs3:w3.heap.size=w.heap.size+3:=by simp [w3,hs1]
 let X1:Cx:=X.setβ ⟨st.L.length,d⟩ w.heap.size
 let X3:Cx:={β:=X1.β,ω:=λb=>if b=w.heap.size+1\/b=w.heap.size+2 then some (1,true)else X1.ω b}
 have hold:∀b,b<w1.heap.size->w3.heap[b]?=w1.heap[b]?:=λb hb=>by
  grind [heap_alloc_old]
 have heff:Eff w1 X1 w3 X3 []:={
  size:=by omega
  kept:=λb hb _=>hold b hb
  ωk:=λb hb _=>by grind
  own:=by simp
  β:=rfl
  dom:=λb e fz hω=>by
   change (if b=w.heap.size+1\/b=w.heap.size+2 then some (1,true)else X1.ω b)=some (e,fz)at hω
   split at hω
   ·omega
   ·have:=h2.dom b e fz hω;grind
  os:=rfl
  out:=rfl
  tape:=rfl}
 have c1:w3.heap[w.heap.size+1]?=some (.cells #[.string sep] t2 (0,0)):=by
  grind [heap_alloc_old,heap_alloc_new]
 have c2:w3.heap[w.heap.size+2]?=some (.cells #[.int .i64 0] t3 (0,0)):=by
  grind [heap_alloc_new]
 have seg:∀(b:Nat) (u:Value) (ty:TypeId),w3.heap[b]?=some (.cells #[u] ty (0,0))->Seg w3 b 0 [u]:=λb u ty hb i v hi=>by
  simp_all [World.cell?]
 have hz:Rep w3 X3 (.fn clos [] [.cptr .shared [.val (.string sep)],.ptr ⟨st.L.length,d⟩ 0,.cptr .shared [.val (.int .i64 0)]])
   (.func (.func clos) #[] #[.pointer (some ⟨w.heap.size+1,0,none⟩),.pointer (some ⟨w.heap.size,0,none⟩),.pointer (some ⟨w.heap.size+2,0,none⟩)]) []:=by
  have r1:Rep w3 X3 (.cptr .shared [.val (.string sep)]) (.pointer (some ⟨w.heap.size+1,0,none⟩)) []:=by
   simp only [Rep,RepL];grind
  have r2:Rep w3 X3 (.ptr ⟨st.L.length,d⟩ 0) (.pointer (some ⟨w.heap.size,0,none⟩)) []:=by
   simp only [Rep];exact ⟨trivial,_,by show X1.β _=_;simp [X1,Cx.setβ],rfl⟩
  have r3:Rep w3 X3 (.cptr .shared [.val (.int .i64 0)]) (.pointer (some ⟨w.heap.size+2,0,none⟩)) []:=by
   simp only [Rep,RepL];grind
  have:RepL w3 X3 [.cptr .shared [.val (.string sep)],.ptr ⟨st.L.length,d⟩ 0,.cptr .shared [.val (.int .i64 0)]] [.pointer (some ⟨w.heap.size+1,0,none⟩),.pointer (some ⟨w.heap.size,0,none⟩),.pointer (some ⟨w.heap.size+2,0,none⟩)] []:=by
   simp only [RepL];grind
  simp only [Rep];exact ⟨[],_,[],[],rfl,rfl,by simp only [RepL];grind,this⟩
 have h3:=h2.put (T:=[]) (Oin:=[]) (O':=[]) (some d) (by simp) heff hz Lin.nil (by simp) (λq hq=>by
  simp only [V.qq,ptrsL,List.nil_append,List.append_nil,List.cons_append,List.mem_singleton]at hq;subst hq;have hb:=qgw {st with E:=qz st.E T} d [.val (.string str)] hnb ⟨st.L.length,d⟩;rw [if_pos rfl]at hb;exact Option.isSome_iff_exists.2 ⟨_,hb⟩)
 have hF3:=Fr.put (z:=.fn clos [] [.cptr .shared [.val (.string sep)],.ptr ⟨st.L.length,d⟩ 0,.cptr .shared [.val (.int .i64 0)]]) h2 hF2 (T:=[]) (Oin:=[]) (O':=[]) (some d) (by simp) heff (by simp);grind [List.set_set,Array.setIfInBounds_setIfInBounds,qqf,St.put,qxb]
theorem qtS{g:FuncId}{first cap args:List V}{q:Root}(h:qhO (.fn g first cap) args=some q):∀r∈ptrsL (first++args++cap),r=q:=by
 unfold qhO at h;grind
theorem qwN(n:Nat)(q:Root)(c:List V):(qlL n q c).length=n:=by simp [qlL]
theorem qB1{n:Nat}{q:Root}{c:List V}(hq:q.lvl<n)(r:Root):qa6 (qlL n q c) r=if r=q then some c else none:=by
 obtain ⟨l,s⟩:=r;obtain ⟨ql,qs⟩:=q;simp only at hq;unfold qa6 qlL;simp only [List.getElem?_map];by_cases hl:l<n
 ·rw [List.getElem?_range hl];simp only [qi];by_cases h1:l=ql
  ·subst h1;simp only [if_true,qw];grind
  ·rw [if_neg h1,if_neg (λe=>h1 (by grind))];rfl
 grind
theorem qBA{C:Orc}(hC:∀g args M r M',C.call g args M=some (r,M')->qan P g args M r M'){w0:World}{X0:Cx}{Md:Md}{n:Nat}{st:St}{tmps:Array Value}{O:Pl->List Nat}{g:FuncId}{args:List V}{vals:List Value}{Oa:List Nat}{T:List Tmp}{z:V}{s:St}{d:Option Tmp}{q:Root}
  (h:Rel st tmps w X O) (hF:Fr w0 X0 Md n st w X O) (ha:RepL w X args vals Oa) (hin:∀b∈Oa,∃t∈T,b∈O (.tmp t)) (hp:∀r∈ptrsL args,r=q)
  (hx:qgr C g args q {st with E:=qz st.E T}=some (z,s)) :
  qsP True P g vals.toArray w λv w'=>∃X' O',Rel (s.put d z) (qxb tmps d v) w' X' O'/\Fr w0 X0 Md n (s.put d z) w' X' O':=by
 unfold qgr at hx;split at hx
 rotate_left
 ·cases hx
 rename_i es hes0;have hes:st.box q=some [.mp es]:=hes0;split at hx
 rotate_left
 ·cases hx
 rename_i r M' hr;split at hx
 rotate_left
 ·cases hx
 rename_i hc;simp only [qe,List.isEmpty_iff,Bool.not_eq_true']at hc;obtain ⟨hrp,hro⟩:=hc;split at hx
 rotate_left
 ·cases hx
 rename_i es' hbM;obtain ⟨rfl,rfl⟩:=Prod.mk.inj (Option.some.inj hx);obtain ⟨b,hβ,hlt,hωb,hbx⟩:=h.box q _ hes;obtain ⟨ents,ck,hwb,hents,_⟩:=hbx.map;have hOaω:=repL_own args vals Oa ha;have hOalt:=repL_dom h.dom args vals Oa ha;have hql:q.lvl<st.L.length+1:=by simp_all [qs1]
 have hbh:=qB1 (c:=[.mp es]) hql;have hL:LRel (qlL (st.L.length+1) q [.mp es]) w (X.freeze Oa) (λ_=>[]):={
  box:=λr c hc=>by
   rw [hbh]at hc;split at hc
   ·rename_i e;cases hc;subst e;exact ⟨b,hβ,hlt,by simp [Cx.freeze,hωb],.inr (.inr ⟨es,ents,ck,rfl,hwb,hents,rfl⟩)⟩
   ·cases hc
  boxD:=λ_ _=>rfl
  inj:=λr r' b h1 h2 _ _=>by
   grind
  lin:=λ_=>Lin.nil
  dis:=λ_ _ _ _ h=>by simp at h
  ptrB:=λr c hc r' hr'=>by
   grind [ptrsL,V.qq]
  up:=λr c hc r' hr'=>by
   grind [ptrsL,V.qq]
  dom:=(qlE h.dom hOaω).dom}
 have hne:qlL (st.L.length+1) q [.mp es]≠[]:=λe=>by grind [qwN]
 have hok:=hC _ _ _ _ _ hr w (X.freeze Oa) vals (λ_=>[]) (by rw [show args.map V.hand=reflagL qha args from (qB _ _).symm];exact qpl ha) (hF.now.freeze Oa) hL
  (λr hr=>by
   rw [show args.map V.hand=reflagL qha args from (qB _ _).symm,ptrsL_reflag]at hr;grind) (λe=>absurd e hne)
 refine hok.mono (λ_=>trivial) ?_;rintro v w' ⟨X',O',Or,hrep,hLR,_,_,_,hlen,_,haft⟩;have hOr:Or=[]:=rep_noowns r v Or hro hrep;subst hOr;have hnoM:∀k,k≠b->¬ Mod (qlL (st.L.length+1) q [.mp es]) (X.freeze Oa) (λ_=>[]) k:=by
  rintro k hk (⟨r',h1,h2⟩|⟨r',h1⟩)
  ·rw [hbh]at h1;split at h1
   ·rename_i e;subst e;rw [show (X.freeze Oa).β r'=X.β r' from rfl,hβ]at h2;grind
   ·cases h1
  ·simp at h1
 obtain ⟨b',hβ',hlt',hωb',hbx'⟩:=hLR.box q _ hbM;have hbb:b'=b:=by
  have h1:=haft.β q (by rw [qwN];exact hql);rw [hβ',show (X.freeze Oa).β q=X.β q from rfl,hβ]at h1;grind
 subst hbb;obtain ⟨ents',ck',hwb',hents',_⟩:=hbx'.map;have hw1b:(w'.heap.setIfInBounds b' (.map ents ck))[b']?=some (.map ents ck):=(qhP hwb').1;have hw1k:∀k,k≠b'->(w'.heap.setIfInBounds b' (.map ents ck))[k]?=w'.heap[k]?:=(qhP hwb').2;have hωold:∀k,k<w.heap.size->X'.ω k=(X.freeze Oa).ω k:=λk hk=>by
  by_cases hkb:k=b'
  ·subst hkb;rw [hωb'];simp [Cx.freeze,hωb]
  ·exact (haft.kept k hk (hnoM k hkb)).2
 have heff:Eff w X {w' with heap:=w'.heap.setIfInBounds b' (.map ents ck)} {β:=X.β,ω:=X'.ω} Oa:={
  size:=by have:=haft.size;simpa using this
  kept:=λk hk _=>by
   by_cases hkb:k=b'
   ·grind
   ·rw [hw1k k hkb];exact (haft.kept k hk (hnoM k hkb)).1
  ωk:=λk hk hn=>by grind [Cx.freeze]
  own:=λk hk e fz hω=>by
   have hkl:=hOalt k hk;have hkb:k≠b':=λe'=>by grind
   refine ⟨e,true,by show X'.ω k=_;rw [hωold k hkl,frozen_ω hω];simp [hk],Nat.le_refl _,λ_=>rfl,λi v _ hc=>?_,λc t hc=>⟨c,?_,rfl⟩⟩
   ·rw [cell_of_heap (w:=w) (w':={w' with heap:=w'.heap.setIfInBounds b' (.map ents ck)}) (by rw [hw1k k hkb];exact (haft.kept k hkl (hnoM k hkb)).1)];exact hc
   ·rw [hw1k k hkb,(haft.kept k hkl (hnoM k hkb)).1];exact hc
  β:=rfl
  dom:=λk e fz hω=>by have:=hLR.dom k e fz hω;simpa using this
  os:=haft.os
  out:=haft.out
  tape:=haft.tape}
 have h1:=h.put (T:=T) (O':=[]) (z:=.undef) (v:=undef) none hin heff (by simp [Rep]) Lin.nil (by simp) (by simp [V.qq]);have hF1:=Fr.put (z:=.undef) h hF (T:=T) (O':=[]) none hin heff (by simp);change Rel {st with E:=qz st.E T} tmps _ _ _ at h1
 change Fr w0 X0 Md n {st with E:=qz st.E T} _ _ _ at hF1
 have hes1:({st with E:=qz st.E T}:St).box q=some [.mp es]:=hes;have hset:=h1.qp (c':=[.mp es']) (Ob:=[]) (w':=w') hes1 hβ (λk hk=>(hw1k k hk).symm) (by simp) (.inr (.inr ⟨es',ents',ck',rfl,hwb',hents',rfl⟩)) Lin.nil (by simp) (by simp [ptrsL,V.qq]);have hsetF:=Fr.qp (c':=[.mp es']) (Ob:=[]) (w':=w') h1 hF1 hes1 hβ rfl (λk hk=>(hw1k k hk).symm) (by simp) (by simp) rfl rfl rfl;have hz:Rep w' {β:=X.β,ω:=X'.ω} r v [] :=
  Rep.ext (X:=X') (X':={β:=X.β,ω:=X'.ω}) (w':=w') (R:=[]) (U:=λ_=>False) {β:=by simp,ω:=λk e fz hω=>⟨e,fz,hω,Nat.le_refl _,id,λ_=>⟨rfl,rfl⟩⟩,cell:=λ_ _ _ _ _ _ _ h=>h,obj:=λb e fz c t _ _ h=>⟨c,h,rfl⟩} _ _ _ (by rw [hrp];simp) (by simp) hrep
 exact ⟨_,_,hset.qjU d hz Lin.nil (by simp) (by rw [hrp];simp),hsetF.qjU d (by simp)⟩
end
section
variable {P:Program} {H:Hints} {f:FuncId} {w:World} {X:Cx}
theorem qeX{α β γ:Type}{a a':α}{b b':β}{c c':γ}(h:some (a,b,c)=some (a',b',c')):a=a'/\b=b'/\c=c':=by
 cases h;exact ⟨rfl,rfl,rfl⟩
theorem qpz{C:Orc}{o:Oper}{xs:List V}{st s:St}{z:V}{fp:Fp}(hx:qbh P H C f o xs st=some (z,s,fp)) :
  (∃t d z0,o.op=.alloc t/\o.dst=some d/\zeroOf P H f t=some z0/\qw st.B d=none/\z=.ptr ⟨st.L.length,d⟩ 0/\s={st with B:=qb3 d z0.cells st.B}/\fp=.fresh ⟨st.L.length,d⟩) \/
  (∃t a d x,o.op=.box t a/\o.dst=some d/\xs=[x]/\qw st.B d=none/\x.cells.length=P.cellsOf t/\x.oks=true/\z=.ptr ⟨st.L.length,d⟩ 0/\s={st with B:=qb3 d x.cells st.B}/\fp=.fresh ⟨st.L.length,d⟩) \/
  (∃c fo fv args,o.op=.call c/\c.callee=.value fo/\xs=fv::args/\qjf H fv args=false/\qhh C fv args st=some (z,s)/\fp=(if qd0 fv args then .none else if qcH C fv then .looks else .all)) \/
  (rootOf o.op xs=none/\qaL P H f (qab H f o) o.op o.type xs none=some (z,none)/\s=st/\fp=.none) \/
  (∃r,rootOf o.op xs=some r/\qaL P H f (qab H f o) o.op o.type xs (st.box r)=some (z,none)/\s=st/\fp=.root r (q7 P o.op xs).1 (q7 P o.op xs).2 false) \/
  (∃r c,rootOf o.op xs=some r/\qaL P H f (qab H f o) o.op o.type xs (st.box r)=some (z,some c)/\(qnq o.op xs).all (λp=>decide (p.lvl<=r.lvl))=true/\s=st.qp r c/\fp=.root r (q7 P o.op xs).1 (q7 P o.op xs).2 true) \/
  (∃c fo fv args,o.op=.call c/\c.callee=.value fo/\xs=fv::args/\qjf H fv args=true/\qi8 H C o.dst fv args st=some (z,s,fp)) \/
  (qcY o.op xs=true/\mapStep P H f o xs st=some (z,s,fp)):=by
 unfold qbh at hx;split at hx
 ·rename_i t hop;split at hx
  ·rename_i d z0 hd hz;split at hx
   ·rename_i hl;obtain ⟨rfl,rfl,rfl⟩:=qeX hx;exact .inl ⟨t,d,z0,hop,hd,hz,by simpa using hl,rfl,rfl,rfl⟩
   ·cases hx
  ·cases hx
 ·rename_i t a hop;split at hx
  ·rename_i d x hd;split at hx
   ·rename_i hl;obtain ⟨rfl,rfl,rfl⟩:=qeX hx;exact .inr (.inl ⟨t,a,d,x,hop,hd,rfl,by simpa using hl.1,hl.2.1,hl.2.2,rfl,rfl,rfl⟩)
   ·cases hx
  ·cases hx
 ·rename_i fo a1 a2 hop;split at hx
  ·rename_i fv args;split at hx
   ·rename_i hbn;exact .inr (.inr (.inr (.inr (.inr (.inr (.inl ⟨_,fo,fv,args,hop,rfl,rfl,hbn,hx⟩))))))
   ·rename_i hbn;obtain ⟨⟨v,s'⟩,h1,h2⟩:=qc.1 hx;obtain ⟨rfl,rfl,rfl⟩:=qeX (congrArg some h2);exact .inr (.inr (.inl ⟨_,fo,fv,args,hop,rfl,rfl,by simpa using hbn,h1,rfl⟩))
  ·cases hx
 ·split at hx
  ·rename_i hmo;exact .inr (.inr (.inr (.inr (.inr (.inr (.inr ⟨hmo,hx⟩))))))
  split at hx
  ·rename_i hr;split at hx
   ·rename_i v hv;obtain ⟨rfl,rfl,rfl⟩:=qeX hx;exact .inr (.inr (.inr (.inl ⟨hr,hv,rfl,rfl⟩)))
   ·cases hx
  ·rename_i r hr;split at hx
   ·rename_i v hv;obtain ⟨rfl,rfl,rfl⟩:=qeX hx;exact .inr (.inr (.inr (.inr (.inl ⟨r,hr,hv,rfl,rfl⟩))))
   ·rename_i v c hv;split at hx
    ·rename_i hall;obtain ⟨rfl,rfl,rfl⟩:=qeX hx;simp only [qe]at hall;exact .inr (.inr (.inr (.inr (.inr (.inl ⟨r,c,hr,hv,hall.1,rfl,rfl⟩)))))
    ·cases hx
   ·cases hx
theorem qbM{op:Op}{xs:List V}{r:Root}(h:rootOf op xs=some r):∃off rest,xs=.ptr r off::rest/\((∃t a,op=.load t a)\/∃t a x,op=.store t a x):=by
 unfold rootOf at h;split at h
 ·cases h;exact ⟨_,_,rfl,.inl ⟨_,_,rfl⟩⟩
 ·cases h;exact ⟨_,_,rfl,.inr ⟨_,_,_,rfl⟩⟩
 ·cases h
theorem qg5{F:Fence}(hFF:F=Fence.wide\/∃l,F=Fence.wide.inRound l){o:Oper}{a:Act}{K:Act->World->Prop}{Q:Exit->Act->World->Prop}{g:FuncId}{args:Array Value}{w:World}
  {ext:Prop} (h:qsP ext P g args w λv w'=>K (a.put o.dst v) w'):o.uponIn F 0 P a K Q ((callFunc g args).run P w):=by
 rcases h with ⟨h1,h2⟩|⟨_,v,w',h1,h2⟩
 ·rw [h1,Oper.uponIn_enter];refine ⟨λhd=>by rcases hFF with rfl|⟨l,rfl⟩<;>simp [Fence.wide,Fence.inRound]at hd,?_⟩;have h3:CallsIn Fence.wide (0-1) P g args w fun
   |.returned v,w''=>K (a.put o.dst v) w''
   |.panicked chain,w''=>Q (.panic chain) a w''
   |.outgrown,_=>LetsOut Q:=callsIn_wide.2 (h2.mono λe w' ⟨v,he,hk⟩=>by subst he;exact hk)
  rcases hFF with rfl|⟨l,rfl⟩
  ·exact h3
  ·exact h3
 ·rw [h1,Oper.uponIn_value];exact h2
theorem qu8(E:List V):qz E []=E:=rfl
theorem qwb{C:Orc}(hC:OrcOk P C){F:Fence}(hFF:F=Fence.wide\/∃l,F=Fence.wide.inRound l){w0:World}{X0:Cx}{Md:Md}{n:Nat}{st st':St}{a:Act}{o:Oper}(hS:Sim w0 X0 Md n st a.tmps w)
  (hx:qlk P H C f o st=some st') {K:Act->World->Prop} {Q:Exit->Act->World->Prop} (hK:∀v w',Sim w0 X0 Md n st' (a.put o.dst v).tmps w'->K (a.put o.dst v) w'):o.wpIn F 0 P a w K Q:=by
 obtain ⟨X,O,h,hF⟩:=hS;unfold qlk qeH at hx;obtain ⟨⟨st2,fp⟩,hx1,hx2⟩:=qc.1 hx;clear hx;simp only at hx2;subst hx2;split at hx1
 ·cases hx1
 ·rename_i hn0;have hn:qab H f o=true->qfs (tmpsOf o)=true:=λht=>by simpa [ht]using hn0
  obtain ⟨⟨z,s,fp'⟩,hm,he⟩:=qc.1 hx1;obtain ⟨rfl,rfl⟩:=Prod.mk.inj he;clear hx1 he;have hab:∀g,o.about P w a.eval=some g->F.fn g:=λg _=>by rcases hFF with rfl|⟨l,rfl⟩<;>trivial
  refine ⟨hab,?_⟩;obtain ⟨Oin,hrep,hs,hlin⟩:=qce (H:=H) (f:=f) h o _ hn;have hin:∀b∈Oin,∃t∈tmpsOf o,b∈O (.tmp t):=λb hb=>(hs b hb).2;have hnil:qab H f o=false->Oin=[]:=λht=>by
   cases Oin with
   |nil=>rfl
   |cons b l=>have:=(hs b (by simp)).1;rw [ht]at this;cases this
  have hst1:(if qab H f o=true then {st with E:=qz st.E (tmpsOf o)}else st)={st with E:=qz st.E (if qab H f o=true then tmpsOf o else [])}:=by split<;>rfl
  rw [hst1]at hm;generalize hT:(if qab H f o=true then tmpsOf o else [])=T at hm;have hin':∀b∈Oin,∃t∈T,b∈O (.tmp t):=λb hb=>by
   have h1:=(hs b hb).1;rw [if_pos h1]at hT;subst hT;exact hin b hb
  rcases qpz hm with ⟨t,d,z0,hop,hd,hz,hlb,rfl,rfl,rfl⟩|⟨t,ao,d,x,hop,hd,hxs,hlb,hxl,hok,rfl,rfl,rfl⟩|⟨c,fo,fv,args,hop,hcal,hxs,_,hv,_⟩|⟨hr,hsem,rfl,_⟩|⟨r,hr,hsem,rfl,_⟩|⟨r,c,hr,hsem,hall,rfl,_⟩|⟨c,fo,fv,args,hop,hcal,hxs,_,hv⟩|⟨hmo,hmp⟩
  ·-- alloc
   rw [Oper.semAt_eq _ _ _ (by intro c hc;rw [hop]at hc;cases hc)];obtain ⟨i,u,hi,hu,rfl⟩:=qdv hz;have hrun:(execOp a.eval o).run P w=.ok (.value (.pointer (some ⟨w.heap.size,0,none⟩))) (w.alloc (.cells u.cells t)):=by
    simp only [execOp,hop,Instr.alloc,Sem.run_bind,zeroValue,typeInfo,run_program,Result.andThen_ok,hi,hu,Sem.run_pure,newVar,newRow,run_newObj_alloc]
   rw [hrun,Oper.uponIn_value];refine hK _ _ ⟨X.setβ ⟨st.L.length,d⟩ w.heap.size,quT (qiF O T none st.E.length []) ⟨st.L.length,d⟩ d [],?_⟩;rw [qcx,hd];have h1:=h.taken T;have hF1:=Fr.taken h hF T;exact ⟨h1.qoX hlb (qd2 _ _) Lin.nil (by simp) (λr hr=>by
     obtain ⟨y,hy,hr⟩:=qC.1 hr;have:=qel (H.precise f) u;exact absurd hr (by
      intro hr;have h2:r∈ptrsL (ofConst (H.precise f) u).cells:=qC.2 ⟨y,hy,hr⟩;have h3:=qfr h2;rw [this]at h3;simp at h3)),Fr.qoX h1 hF1 hlb (by simp)⟩
  ·-- box
   rw [Oper.semAt_eq _ _ _ (by intro c hc;rw [hop]at hc;cases hc)];have hops:o.op.operands.toList=[ao]:=by rw [hop];rfl
   rw [hops]at hrep hxs;simp only [qh,List.map_nil,List.cons.injEq,and_true]at hxs;subst hxs;simp only [qh,List.map_nil,RepL]at hrep;obtain ⟨u,vs,O1,O2,hu,rfl,hr1,rfl,rfl⟩:=hrep;simp only [List.cons.injEq,and_true]at hu;subst hu;have hrun:(execOp a.eval o).run P w=.ok (.value (.pointer (some ⟨w.heap.size,0,none⟩))) (w.alloc (.cells (a.eval ao).cells t)):=by
    simp only [execOp,hop,Instr.box,Sem.run_bind,Result.andThen_ok,Sem.run_pure,newVar,newRow,run_newObj_alloc]
   rw [hrun,Oper.uponIn_value];refine hK _ _ ⟨X.setβ ⟨st.L.length,d⟩ w.heap.size,quT (qiF O T none st.E.length []) ⟨st.L.length,d⟩ d O1,?_⟩;rw [qcx,hd];have h1:=h.taken T;have hF1:=Fr.taken h hF T;have hfree:=h.free (T:=T) (Oin:=O1++[]) (O':=O1) hin' (λb hb=>.inl (by simpa using hb));refine ⟨h1.qoX hlb (qdo hok hr1).1 (by simpa using hlin) (λk hk q hq hkq=>?_) (λr hr=>?_),Fr.qoX h1 hF1 hlb (λk hk=>?_)⟩
   ·cases q with
    |tmp s =>
     simp only [qiF]at hkq;rw [if_neg (by simp)]at hkq;split at hkq
     ·simp at hkq
     ·rename_i hns;exact hfree k hk (.tmp s) (λt ht e=>hns (by cases e;exact ht)) hkq
    |box r=>exact hfree k hk (.box r) (λt _ e=>by cases e) hkq
   ·have h2:=qfr hr;exact h.ptrE r (qph h2)
   ·obtain ⟨t',_,hkt⟩:=hin' k (by simpa using hk);exact hF.own _ k hkt
  ·-- a call
   rw [Oper.semAt_eq _ _ _ (by intro c hc;rw [hop]at hc;cases hc)];have hops:o.op.operands.toList=fo::c.args.toList:=by rw [hop];simp [Op.operands,Call.operands,hcal]
   rw [hops]at hrep hxs;simp only [qh,List.cons.injEq]at hxs;obtain ⟨hfv,hargs⟩:=hxs;simp only [qh,RepL]at hrep;obtain ⟨u,vs,O1,O2,hu,rfl,hr1,hr2⟩:=hrep;rw [hfv]at hr1;rw [hargs]at hr2;simp only [List.cons.injEq]at hu;obtain ⟨rfl,rfl⟩:=hu;have hpE:∀q,q∈fv.qq\/q∈ptrsL args->(st.box q).isSome=true:=λq hq=>by
    refine h.ptrE q ?_;rcases hq with hq|hq
    ·rw [<- hfv]at hq;exact qph hq
    ·rw [<- hargs]at hq;exact qxc hq
   have hexec:execOp a.eval o=(do let d <- resolve a.eval c o.type;invoke d.target d.args):=by simp only [execOp,hop]
   have hres:resolve a.eval c o.type=Deferred.ofValue (a.eval fo) (c.args.map a.eval):=by simp only [resolve,hcal]
   rw [hexec,hres];cases fv with
   |fn g first cap =>
    simp only [Rep]at hr1;obtain ⟨va,vc,A1,A2,hv1,rfl,ha1,ha2⟩:=hr1;rw [hv1];have hrun:(Deferred.ofValue (.func (.func g) va.toArray vc.toArray) (c.args.map a.eval) >>= λd=>invoke d.target d.args).run P w=(callFunc g (va++c.args.toList.map a.eval++vc).toArray).run P w:=by
     simp only [Deferred.ofValue,Sem.run_bind,Sem.run_pure,Result.andThen_ok,invoke];congr 2
     apply Array.ext';simp
    have hall:RepL w X (first++args++cap) (va++c.args.toList.map a.eval++vc) (A1++O2++A2):=qaB (qaB ha1 hr2) ha2;have hcount:∀b,(A1++O2++A2).count b=(A1++A2++O2).count b:=λb=>by simp only [List.count_append]<;>omega
    have hv':qf1 C g (first++args++cap) {st with E:=qz st.E T}=some (z,s):=hv;have hcall:=qzr (d:=o.dst) hC.call h hF (T:=T) rfl hall (λb hb=>hin' b (by
      have:=hcount b;have h1:=List.count_pos_iff.2 hb;exact List.count_pos_iff.1 (by omega))) (λb=>by rw [hcount];exact hlin b) (λq hq=>by
      rw [qal,qal]at hq;simp only [qj]at hq;refine hpE q ?_;rcases hq with (hq|hq)|hq
      ·exact .inl (by simp [V.qq,hq])
      ·exact .inr hq
      ·exact .inl (by simp [V.qq,hq])) hv'
    rw [hrun];exact qg5 hFF (hcall.mono id λv w' ⟨X',O',h1,h2,_⟩=>hK v w' (by rw [qcx];exact ⟨X',O',h1,h2⟩))
   |yld r =>
    simp only [Rep]at hr1;obtain ⟨rfl,b,hb,hv1⟩:=hr1;rw [hv1];obtain ⟨h1,hF1,hhand⟩:=handed (T:=T) h hF (args:=args) (Oa:=O2) (by simpa using hr2) (λb hb=>hin' b (by simpa using hb));have hv':qlp C r args {st with E:=qz st.E T}=some (z,s):=hv;obtain ⟨lo,hlo,hlen,hround⟩:=qCJ hC h1 hF1 hhand (λq hq=>hpE q (.inr hq)) hv' (b:=b) hb;have hsz:(c.args.map a.eval).size=lo.params.size:=by rw [<- hlen];simp
    have hrun:(Deferred.ofValue (.func (.yield b) #[] #[]) (c.args.map a.eval) >>= λd=>invoke d.target d.args).run P w=.ok (.round b lo.fn ((lo.params.zip (c.args.map a.eval)).foldl (λtmps (t,a)=>tmps.setIfInBounds t a) lo.tmps) lo.assign lo.body) w:=by
     simp only [Deferred.ofValue,Sem.run_bind,Sem.run_pure,Result.andThen_ok,invoke,Array.empty_append];exact run_yield hlo hsz
    rw [hrun,Oper.uponIn_round];refine ⟨λhd=>by rcases hFF with rfl|⟨l,rfl⟩<;>simp [Fence.wide,Fence.inRound]at hd,?_⟩;have harr:(c.args.toList.map a.eval).toArray=c.args.map a.eval:=by apply Array.ext';simp
    have h3:=hround F hFF;rw [harr]at h3;refine RoundIn.mono h3 ?_;intro e w' he;cases e with
    |returned v =>
     obtain ⟨X',O',hR',hF',hz',hzp⟩:=he;refine hK v w' ⟨X',qiF O' [] o.dst s.E.length [],?_⟩;rw [qcx];exact ⟨hR'.qjU o.dst hz' Lin.nil (by simp) (by simp [hzp]),hF'.qjU o.dst (by simp)⟩
    |panicked ch=>exact he.elim
    |outgrown=>exact he.elim
   |_=>simp [qhh]at hv
  ·-- a value
   have hnd:∀c,o.op≠.defer c:=by intro c hc;rw [hc]at hsem;simp [qaL]at hsem
   rw [Oper.semAt_eq _ _ _ hnd];obtain ⟨v,w',hrun,hSim⟩:=qyN h hF hn hsem;rw [hrun,Oper.uponIn_value];refine hK v w' ?_;rw [hst1,hT]at hSim;exact hSim
  ·-- a load that leaves the box asz it is
   obtain ⟨off,rest,hxs,hop⟩:=qbM hr;rcases hop with ⟨t,ao,hop⟩|⟨t,ao,xo,hop⟩
   ·rw [Oper.semAt_eq _ _ _ (by intro c hc;rw [hop]at hc;cases hc)];have hops:o.op.operands.toList=[ao]:=by rw [hop];rfl
    rw [hops]at hrep hxs;simp only [qh,List.map_nil,List.cons.injEq]at hxs;obtain ⟨hx1,rfl⟩:=hxs;simp only [qh,List.map_nil,RepL]at hrep;obtain ⟨u,vs,O1,O2,hu,rfl,hr1,rfl,rfl⟩:=hrep;simp only [List.cons.injEq,and_true]at hu;subst hu;rw [hx1]at hr1;have hbx:∃cs,({st with E:=qz st.E T}:St).box r=some cs:=by
     cases hh:({st with E:=qz st.E T}:St).box r with
     |some cs=>exact ⟨cs,rfl⟩
     |none=>rw [hops,qh,List.map_nil,hx1,hop,hh]at hsem;simp [qaL]at hsem
    obtain ⟨cs,hcs⟩:=hbx;rw [hops,qh,List.map_nil,hx1,hop,hcs]at hsem;simp only [qaL]at hsem;obtain ⟨v,hrun,hSim⟩:=qig (dst:=o.dst) (h.taken T) (Fr.taken h hF T) hr1 hcs hsem;have hrun':(execOp a.eval o).run P w=.ok (.value v) w:=by simp only [execOp,hop,Sem.run_bind,hrun,Result.andThen_ok,Sem.run_pure]
    rw [hrun',Oper.uponIn_value];exact hK v w hSim
   ·have hops:o.op.operands.toList=[ao,xo]:=by rw [hop];rfl
    rw [hops]at hxs hsem;simp only [qh,List.map_nil,List.cons.injEq]at hxs;obtain ⟨hx1,rfl⟩:=hxs;rw [qh,qh,List.map_nil,hx1,hop]at hsem;simp only [qaL]at hsem;split at hsem
    ·split at hsem<;>simp at hsem
    ·cases hsem
  ·obtain ⟨off,rest,hxs,hop⟩:=qbM hr;rcases hop with ⟨t,ao,hop⟩|⟨t,ao,xo,hop⟩
   ·-- a load that qab
    rw [Oper.semAt_eq _ _ _ (by intro c hc;rw [hop]at hc;cases hc)];have hops:o.op.operands.toList=[ao]:=by rw [hop];rfl
    rw [hops]at hrep hxs;simp only [qh,List.map_nil,List.cons.injEq]at hxs;obtain ⟨hx1,rfl⟩:=hxs;simp only [qh,List.map_nil,RepL]at hrep;obtain ⟨u,vs,O1,O2,hu,rfl,hr1,rfl,rfl⟩:=hrep;simp only [List.cons.injEq,and_true]at hu;subst hu;rw [hx1]at hr1;have hbx:∃cs,({st with E:=qz st.E T}:St).box r=some cs:=by
     cases hh:({st with E:=qz st.E T}:St).box r with
     |some cs=>exact ⟨cs,rfl⟩
     |none=>rw [hops,qh,List.map_nil,hx1,hop,hh]at hsem;simp [qaL]at hsem
    obtain ⟨cs,hcs⟩:=hbx;rw [hops,qh,List.map_nil,hx1,hop,hcs]at hsem;simp only [qaL]at hsem;obtain ⟨v,hrun,hSim⟩:=qig (dst:=o.dst) (h.taken T) (Fr.taken h hF T) hr1 hcs hsem;have hrun':(execOp a.eval o).run P w=.ok (.value v) w:=by simp only [execOp,hop,Sem.run_bind,hrun,Result.andThen_ok,Sem.run_pure]
    rw [hrun',Oper.uponIn_value];exact hK v w hSim
   ·-- a store
    rw [Oper.semAt_eq _ _ _ (by intro c hc;rw [hop]at hc;cases hc)];have htk:qab H f o=true:=by simp [qab,hop,qwc]
    have hops:o.op.operands.toList=[ao,xo]:=by rw [hop];rfl
    rw [hops]at hrep hxs;simp only [qh,List.map_nil,List.cons.injEq]at hxs;obtain ⟨hx1,rfl⟩:=hxs;simp only [qh,List.map_nil,RepL]at hrep;obtain ⟨u,vs,O1,O2,hu,rfl,hr1,u2,vs2,O3,O4,hu2,rfl,hr2,rfl,rfl⟩:=hrep;simp only [List.cons.injEq]at hu;obtain ⟨rfl,rfl⟩:=hu;simp only [List.cons.injEq,and_true]at hu2;subst hu2;rw [hx1]at hr1;have hO1:O1=[]:=by simp only [Rep]at hr1;exact hr1.1
    subst hO1;rw [hops,qh,qh,List.map_nil,hx1,hop]at hsem;simp only [qaL]at hsem;split at hsem
    ·rename_i cs hcs;split at hsem
     ·rename_i hcond;simp only [qb,Prod.mk.injEq]at hsem;obtain ⟨rfl,rfl⟩:=hsem;obtain ⟨w',hrun,hSim⟩:=qyM (dst:=o.dst) (T:=T) h hF hr1 hr2 (λb hb=>hin' b (by simpa using hb)) (by simpa using hlin) hcs hcond (λr' hr'=>h.ptrE r' (qph hr')) (λr' hr'=>by
       rcases qgU r' hr' with h2|h2
       ·exact h.up r cs hcs r' h2
       ·rw [hops,qh,qh,List.map_nil,hx1,hop]at hall;have:=List.all_eq_true.1 hall r' (qfr h2);simpa using this)
      have hrun':(execOp a.eval o).run P w=.ok .skip w':=by simp only [execOp,hop,Sem.run_bind,hrun,Result.andThen_ok,Sem.run_pure]
      rw [hrun',Oper.uponIn_skip];exact hK _ w' hSim
     ·cases hsem
    ·cases hsem
  ·-- a call that gives a new map
   rw [Oper.semAt_eq _ _ _ (by intro c hc;rw [hop]at hc;cases hc)];have hops:o.op.operands.toList=fo::c.args.toList:=by rw [hop];simp [Op.operands,Call.operands,hcal]
   rw [hops]at hrep hxs;simp only [qh,List.cons.injEq]at hxs;obtain ⟨hfv,hargs⟩:=hxs;simp only [qh,RepL]at hrep;obtain ⟨u,vs,O1,O2,hu,rfl,hr1,hr2⟩:=hrep;rw [hfv]at hr1;rw [hargs]at hr2;simp only [List.cons.injEq]at hu;obtain ⟨rfl,rfl⟩:=hu;have hexec:execOp a.eval o=(do let d <- resolve a.eval c o.type;invoke d.target d.args):=by simp only [execOp,hop]
   have hres:resolve a.eval c o.type=Deferred.ofValue (a.eval fo) (c.args.map a.eval):=by simp only [resolve,hcal]
   rw [hexec,hres];cases fv with
   |fn g first cap =>
    simp only [Rep]at hr1;obtain ⟨va,vc,A1,A2,hv1,rfl,ha1,ha2⟩:=hr1;rw [hv1];have hrun:(Deferred.ofValue (.func (.func g) va.toArray vc.toArray) (c.args.map a.eval) >>= λd=>invoke d.target d.args).run P w=(callFunc g (va++c.args.toList.map a.eval++vc).toArray).run P w:=by
     simp only [Deferred.ofValue,Sem.run_bind,Sem.run_pure,Result.andThen_ok,invoke];congr 2
     apply Array.ext';simp
    have hall:RepL w X (first++args++cap) (va++c.args.toList.map a.eval++vc) (A1++O2++A2):=qaB (qaB ha1 hr2) ha2;have hcount:∀b,(A1++O2++A2).count b=(A1++A2++O2).count b:=λb=>by simp only [List.count_append]<;>omega
    have hinall:∀b∈A1++O2++A2,∃t∈T,b∈O (.tmp t):=λb hb=>hin' b (by
      have:=hcount b;have h1:=List.count_pos_iff.2 hb;exact List.count_pos_iff.1 (by omega))
    have hcall:qsP True P g (va++c.args.toList.map a.eval++vc).toArray w λv w'=>∃X' O',Rel (s.put o.dst z) (qxb a.tmps o.dst v) w' X' O'/\Fr w0 X0 Md n (s.put o.dst z) w' X' O':=by
     unfold qi8 at hv;split at hv
     ·exact qC9 hC.born h hF (T:=T) hall hinall hv
     ·split at hv
      ·exact qEC hC.seq h hF (T:=T) hall hv
      cases hq:qhO (.fn g first cap) args with
      |none=>rw [hq]at hv;cases hv
      |some q =>
       rw [hq]at hv;obtain ⟨⟨v1,s1⟩,h1,h2⟩:=qc.1 hv;obtain ⟨rfl,rfl,_⟩:=qeX (congrArg some h2);exact qBA hC.call h hF (T:=T) hall hinall (qtS hq) h1
    rw [hrun];exact qg5 hFF (hcall.mono id λv w' ⟨X',O',h1,h2⟩=>hK v w' (by rw [qcx];exact ⟨X',O',h1,h2⟩))
   |_=>simp [qi8,qkv,qtz]at hv
  ·-- a map
   have hnd:∀c,o.op≠.defer c:=by intro c hc;rw [hc]at hmo;simp [qcY]at hmo
   rw [Oper.semAt_eq _ _ _ hnd];obtain ⟨T',hT'⟩:∃T',T'=T:=⟨_,rfl⟩
   have h1:=h.taken T;have hF1:=Fr.taken h hF T;obtain ⟨v,w',r,hrun,hr,_,hSim⟩:=qqC (st:={st with E:=qz st.E T}) h1 hF1 hrep hmp;rcases hr with rfl|⟨rfl,rfl⟩
   ·rw [hrun,Oper.uponIn_value];exact hK v w' hSim
   ·rw [hrun,Oper.uponIn_skip];exact hK undef w' hSim
end
section
variable {P:Program} {H:Hints} {f:FuncId} {C:Orc}
theorem qc7(st:St)(E:List V)(r:Root):({st with E:=E}:St).box r=st.box r:=rfl
theorem qxG(st:St)(E:List V):({st with E:=E}:St).box=st.box:=rfl
theorem qid(st:St)(E:List V)(r:Root)(c:List V):({st with E:=E}:St).qp r c={st.qp r c with E:=E}:=by
 grind [St.qp]
theorem qEA(g:FuncId)(args:List V)(st:St)(E:List V):qf1 C g args {st with E:=E}=(qf1 C g args st).map λ(v,s)=>(v,{s with E:=E}):=by
 unfold qf1;simp only
 by_cases hp:(ptrsL args).isEmpty=true
 ·rw [if_pos hp,if_pos hp];split<;>rfl
 ·rw [if_neg hp,if_neg hp];by_cases hpk:C.qjn g=true
  ·rw [if_pos hpk,if_pos hpk,qxG];grind
  rw [if_neg hpk,if_neg hpk];grind
theorem qDd(r:Root)(args:List V)(st:St)(E:List V):qlp C r args {st with E:=E}=(qlp C r args st).map λ(v,s)=>(v,{s with E:=E}):=by
 unfold qlp;rw [qc7];split
 ·split
  ·rfl
  ·simp only
   split
   ·split
    ·split
     ·grind
     ·rfl
    ·rfl
   ·rfl
 ·rfl
theorem qDa(fv:V)(args:List V)(st:St)(E:List V):qhh C fv args {st with E:=E}=(qhh C fv args st).map λ(v,s)=>(v,{s with E:=E}):=by
 unfold qhh;split
 ·exact qEA ..
 ·exact qDd ..
 ·rfl
def qdw(P:Program)(H:Hints)(f:FuncId)(o:Oper)(xs:List V)(st:St):Option (V×St×Fp) :=
 if qcY o.op xs then mapStep P H f o xs st else match rootOf o.op xs with
  |none=>match qaL P H f (qab H f o) o.op o.type xs none with
   |some (v,none)=>some (v,st,.none)
   |_=>none
  |some r=>match qaL P H f (qab H f o) o.op o.type xs (st.box r)with
   |some (v,none)=>some (v,st,.root r (q7 P o.op xs).1 (q7 P o.op xs).2 false)
   |some (v,some c)=>if (qnq o.op xs).all (λp=>decide (p.lvl<=r.lvl))&&decide ((q7 P o.op xs).1+(q7 P o.op xs).2<=c.length)then some (v,st.qp r c,.root r (q7 P o.op xs).1 (q7 P o.op xs).2 true)else none
   |none=>none
def qje:Op->Bool
 |.alloc _|.box .. | .call {callee:=.value _,..}=>false
 |_=>true
theorem qW{o:Oper}(h:qje o.op=true)(xs:List V)(st:St):qbh P H C f o xs st=qdw P H f o xs st:=by
 unfold qbh;split
 ·simp_all [qje]
 ·simp_all [qje]
 ·simp_all [qje]
 ·rfl
theorem qfN(o:Op):(∃t,o=.alloc t)\/(∃t a,o=.box t a)\/(∃c fo,o=.call c/\c.callee=.value fo)\/qje o=true:=by
 cases o<;>first|exact .inr (.inr (.inr rfl))|grind|grind|skip
 rename_i c;cases hc:c.callee with
 |value fo=>grind
 |_=>refine .inr (.inr (.inr ?_));cases c;simp only at hc;subst hc;rfl
theorem qa3{o:Oper}{c:Call}{fo:Operand}(hop:o.op=.call c)(hc:c.callee=.value fo)(xs:List V)(st:St) :
  qbh P H C f o xs st=match xs with
   |fv::args=>if qjf H fv args then qi8 H C o.dst fv args st else (qhh C fv args st).map λ(v,s)=>(v,s,if qd0 fv args then .none else if qcH C fv then .looks else .all)
   |[]=>none:=by
 unfold qbh;obtain ⟨cal,a1,a2⟩:=c;grind
theorem qEz(d:Option Tmp)(fv:V)(args:List V)(st:St)(E:List V):qnp C d fv args {st with E:=E}=(qnp C d fv args st).map λ(z,m,fp)=>(z,{m with E:=E},fp):=by
 unfold qnp;split
 ·grind
 ·rfl
theorem qFz(d:Option Tmp)(fv:V)(args:List V)(st:St)(E:List V):qy3 C d fv args {st with E:=E}=(qy3 C d fv args st).map λ(z,m,fp)=>(z,{m with E:=E},fp):=by
 unfold qy3;split
 ·split
  ·grind
  ·rfl
 ·rfl
theorem qAg(o:Oper)(xs:List V)(st:St)(E:List V):mapStep P H f o xs {st with E:=E}=(mapStep P H f o xs st).map λ(z,m,fp)=>(z,{m with E:=E},fp):=by
 unfold mapStep;simp only [qc7,qid];split
 ·grind
 ·split
  ·split
   ·cases qmu P H f _ _ _ _<;>rfl
   ·rfl
  ·rfl
 ·split
  ·split
   ·cases qj8 P _ _ _ _<;>rfl
   ·rfl
  ·rfl
 ·split
  ·split
   ·cases qj8 P _ _ _ _<;>rfl
   ·rfl
  ·rfl
 ·split
  ·split
   ·grind
   ·rfl
  ·rfl
 ·rfl
theorem qge{o:Oper}{xs:List V}{st m:St}{z:V}{fp:Fp}(h:mapStep P H f o xs st=some (z,m,fp)):(fp=.looks/\m=st)\/(∃q es es',fp=.mapw q/\st.box q=some [.mp es]/\m=st.qp q [.mp es']/\∀st2:St,st2.box q=some [.mp es]->mapStep P H f o xs st2=some (z,st2.qp q [.mp es'],fp)) \/
  (∃d,fp=.fresh ⟨st.L.length,d⟩/\qw st.B d=none/\m={st with B:=qb3 d [.mp []] st.B}/\∀st2:St,st2.L.length=st.L.length->qw st2.B d=none->mapStep P H f o xs st2=some (z,{st2 with B:=qb3 d [.mp []] st2.B},fp)):=by
 unfold mapStep at h;split at h
 ·rename_i hop;split at h
  ·rename_i d kt vt hd hu;split at h
   ·rename_i hc;obtain ⟨rfl,rfl,rfl⟩:=qeX h
    simp_all [if_pos,qX,mapStep]
   ·cases h
  ·cases h
 ·split at h
  ·split at h
   ·obtain ⟨v,_,he⟩:=qc.1 h;grind
   ·cases h
  ·cases h
 ·rename_i hop;split at h
  ·split at h
   ·rename_i es hes;obtain ⟨v,hv,he⟩:=qc.1 h;obtain ⟨rfl,rfl,rfl⟩:=qeX (congrArg some he);grind [qi,mapStep]
   ·cases h
  ·cases h
 ·rename_i hop;split at h
  ·split at h
   ·rename_i es hes;obtain ⟨v,hv,he⟩:=qc.1 h;obtain ⟨rfl,rfl,rfl⟩:=qeX (congrArg some he);grind [qi,mapStep]
   ·cases h
  ·cases h
 ·grind
 ·cases h
theorem qC8{d:Option Tmp}{fv:V}{args:List V}{st m:St}{z:V}{fp:Fp}(h:qnp C d fv args st=some (z,m,fp)) :
  ∃d' c,fp=.fresh ⟨st.L.length,d'⟩/\qw st.B d'=none/\m={st with B:=qb3 d' c st.B}/\∀st2:St,st2.L.length=st.L.length->qw st2.B d'=none->qnp C d fv args st2=some (z,{st2 with B:=qb3 d' c st2.B},fp):=by
 unfold qnp at h;split at h
 ·rename_i g first cap d;split at h
  ·rename_i hc;split at h
   ·rename_i r s es hr;obtain ⟨rfl,rfl,rfl⟩:=qeX h;simp only [qe,Option.isNone_iff_eq_none]at hc;refine ⟨qX d,_,rfl,hc.2,rfl,λst2 h1 h2=>?_⟩
    simp_all [if_pos,qe,Option.isNone_iff_eq_none,qnp]
   ·cases h
  ·cases h
 ·cases h
theorem qEB{d:Option Tmp}{fv:V}{args:List V}{st m:St}{z:V}{fp:Fp}(h:qy3 C d fv args st=some (z,m,fp)) :
  ∃d' c,fp=.fresh ⟨st.L.length,d'⟩/\qw st.B d'=none/\m={st with B:=qb3 d' c st.B}/\∀st2:St,st2.L.length=st.L.length->qw st2.B d'=none->qy3 C d fv args st2=some (z,{st2 with B:=qb3 d' c st2.B},fp):=by
 unfold qy3 at h;split at h
 ·rename_i g first cap d;split at h
  ·rename_i s sep hl;split at h
   ·rename_i clos hs;split at h
    ·rename_i hc;obtain ⟨rfl,rfl,rfl⟩:=qeX h;rw [Option.isNone_iff_eq_none]at hc;refine ⟨d,_,rfl,hc,rfl,λst2 h1 h2=>?_⟩
     simp_all [if_pos,qy3]
    ·cases h
   ·cases h
  ·cases h
 ·cases h
theorem qwn{g:FuncId}{args:List V}{q:Root}{st m:St}{z:V}(h:qgr C g args q st=some (z,m)) :
  ∃es es',st.box q=some [.mp es]/\m=st.qp q [.mp es']/\∀st2:St,st2.L.length=st.L.length->st2.box q=some [.mp es]->qgr C g args q st2=some (z,st2.qp q [.mp es']):=by
 unfold qgr at h;split at h
 ·rename_i es hes;split at h
  ·rename_i r M hr;split at h
   ·rename_i hc;split at h
    ·rename_i es' hb;obtain ⟨rfl,rfl⟩:=Prod.mk.inj (Option.some.inj h);refine ⟨es,es',hes,rfl,λst2 h1 h2=>?_⟩
     simp_all [if_pos,qgr]
    ·cases h
   ·cases h
  ·cases h
 ·cases h
theorem qlq{d:Option Tmp}{fv:V}{args:List V}{st m:St}{z:V}{fp:Fp}(h:qi8 H C d fv args st=some (z,m,fp)) :
  (∃d' c,fp=.fresh ⟨st.L.length,d'⟩/\qw st.B d'=none/\m={st with B:=qb3 d' c st.B}/\∀st2:St,st2.L.length=st.L.length->qw st2.B d'=none->qi8 H C d fv args st2=some (z,{st2 with B:=qb3 d' c st2.B},fp)) \/
  (∃q es es',fp=.mapw q/\st.box q=some [.mp es]/\m=st.qp q [.mp es']/\∀st2:St,st2.L.length=st.L.length->st2.box q=some [.mp es]->qi8 H C d fv args st2=some (z,st2.qp q [.mp es'],fp)):=by
 unfold qi8 at h ⊢;by_cases hb:qkv H fv=true
 ·rw [if_pos hb]at h;simp only [hb,if_true];exact .inl (qC8 h)
 ·rw [if_neg hb]at h;simp only [hb,qf,if_false];by_cases hb2:qtz H fv=true
  ·rw [if_pos hb2]at h;simp only [hb2,if_true];exact .inl (qEB h)
  rw [if_neg hb2]at h;simp only [hb2,qf,if_false];right
  split at h
  ·rename_i g first cap q hq;obtain ⟨⟨v,s⟩,h1,h2⟩:=qc.1 h;obtain ⟨rfl,rfl,rfl⟩:=qeX (congrArg some h2);grind [qwn]
  ·cases h
theorem qDc(g:FuncId)(args:List V)(q:Root)(st:St)(E:List V):qgr C g args q {st with E:=E}=(qgr C g args q st).map λ(v,s)=>(v,{s with E:=E}):=by
 unfold qgr;simp only [qc7,qid];split
 ·grind
 ·rfl
theorem qED(d:Option Tmp)(fv:V)(args:List V)(st:St)(E:List V):qi8 H C d fv args {st with E:=E}=(qi8 H C d fv args st).map λ(z,m,fp)=>(z,{m with E:=E},fp):=by
 unfold qi8;split
 ·exact qEz ..
 split
 ·exact qFz ..
 ·split
  ·rw [qDc];cases qgr C _ _ _ st<;>rfl
  ·rfl
theorem qwa(o:Oper)(xs:List V)(st:St)(E:List V):qbh P H C f o xs {st with E:=E}=(qbh P H C f o xs st).map λ(z,m,fp)=>(z,{m with E:=E},fp):=by
 rcases qfN o.op with ⟨t,hop⟩|⟨t,a,hop⟩|⟨c,fo,hop,hc⟩|hd
 ·unfold qbh;simp only [hop];grind
 ·unfold qbh;simp only [hop];grind
 ·rw [qa3 hop hc,qa3 hop hc];split
  ·split
   ·exact qED ..
   ·rw [qDa];cases qhh C _ _ st<;>rfl
  ·rfl
 ·rw [qW hd,qW hd];unfold qdw;split
  ·exact qAg ..
  simp only [qc7,qid];split
  ·split<;>rfl
  grind
theorem qe8{o:Oper}{xs:List V}{st m:St}{z:V}(h:qbh P H C f o xs st=some (z,m,.none)):m=st/\∀st2,qbh P H C f o xs st2=some (z,st2,.none):=by
 rcases qfN o.op with ⟨t,hop⟩|⟨t,a,hop⟩|⟨c,fo,hop,hc⟩|hd
 ·unfold qbh at h;grind
 ·unfold qbh at h;grind
 ·rw [qa3 hop hc]at h;cases xs with
  |nil=>cases h
  |cons fv args =>
   simp only at h;split at h
   ·grind [qlq]
   rename_i hbn;obtain ⟨⟨v,s⟩,h1,h2⟩:=qc.1 h;obtain ⟨rfl,rfl,hp⟩:=qeX (congrArg some h2);have hp':qd0 fv args=true:=by
    grind
   cases fv with
   |fn g first cap =>
    have hp2:(ptrsL (first++args++cap)).isEmpty=true:=hp';have h1':qf1 C g (first++args++cap) st=some (v,s):=h1;unfold qf1 at h1';rw [if_pos hp2]at h1';split at h1'
    ·rename_i r hr;obtain ⟨rfl,rfl⟩:=Prod.mk.inj (Option.some.inj h1')
     simp_all [qa3,if_pos,qi,if_true,qf,if_false,qhh,looseL,qf1]
    grind
   |_=>grind [qd0]
 ·rw [qW hd]at h;unfold qdw at h;split at h
  ·grind [qge]
  rename_i hmo;split at h
  ·rename_i hr;split at h
   ·rename_i v hv;obtain ⟨rfl,rfl,_⟩:=qeX h
    simp_all [qW,if_neg,qdw]
   ·cases h
  grind
theorem qj1{o:Oper}{xs:List V}{st m:St}{z:V}(h:qbh P H C f o xs st=some (z,m,.looks)):m=st:=by
 rcases qfN o.op with ⟨t,hop⟩|⟨t,a,hop⟩|⟨c,fo,hop,hc⟩|hd
 ·unfold qbh at h;grind
 ·unfold qbh at h;grind
 ·rw [qa3 hop hc]at h;cases xs with
  |nil=>cases h
  |cons fv args =>
   simp only at h;split at h
   ·grind [qlq]
   rename_i hbn;obtain ⟨⟨v,s⟩,h1,h2⟩:=qc.1 h;obtain ⟨rfl,rfl,hp⟩:=qeX (congrArg some h2);have hp':¬ qd0 fv args=true:=λhpc=>by grind
   rw [if_neg hp']at hp;have hlk:qcH C fv=true:=by
    grind
   cases fv with
   |fn g first cap =>
    have hp2:¬ (ptrsL (first++args++cap)).isEmpty=true:=hp';have h1':qf1 C g (first++args++cap) st=some (v,s):=h1;have hlk':C.qjn g=true:=hlk;unfold qf1 at h1';grind
   |_=>grind [qcH]
 grind [qW,qge,qdw]
theorem qfw{cs new:List V}{off:Nat}(h:off+new.length<=cs.length)(i:Nat):(qJ cs off new)[i]?=if off<=i/\i<off+new.length then new[i-off]? else cs[i]?:=by
 unfold qJ;have h1:(cs.take off).length=off:=by grind
 grind
theorem qbP{cs new:List V}{off:Nat}(h:off+new.length<=cs.length):(qJ cs off new).length=cs.length:=by
 unfold qJ;simp<;>omega
theorem qmP{cs new:List V}{off a n:Nat}(h:off+new.length<=cs.length)(hd:off+new.length<=a\/a+n<=off):((qJ cs off new).drop a).take n=(cs.drop a).take n:=by
 apply List.ext_getElem?;intro i;rw [List.getElem?_take,List.getElem?_take];split
 ·rw [List.getElem?_drop,List.getElem?_drop,qfw h,if_neg (by omega)]
 ·rfl
theorem qv6{cs x y:List V}{a b:Nat}(hx:a+x.length<=cs.length)(hy:b+y.length<=cs.length)(hd:a+x.length<=b\/b+y.length<=a):qJ (qJ cs a x) b y=qJ (qJ cs b y) a x:=by
 apply List.ext_getElem?;intro i;rw [qfw (by simp_all [qbP]),qfw hx,qfw (by simp_all [qbP]),qfw hy];grind
theorem qot{cs new:List V}{off:Nat}(h:off+new.length<=cs.length)(hc:qfy cs=false)(hn:off=0->qfy new=false):qfy (qJ cs off new)=false:=by
 have key:∀l l':List V,l[0]?=l'[0]?->qfy l'=false->qfy l=false:=λl l' e hl=>by
  cases l with
  |nil=>rfl
  |cons x l=>cases l' with
   |nil=>simp at e
   |cons y l' =>
    simp only [List.getElem?_cons_zero,qb]at e;subst e;cases x<;>first|rfl|grind [qfy]
 by_cases h0:off=0/\0<new.length
 ·exact key _ new (by simp_all [qfw,if_pos]) (hn h0.1)
 ·exact key _ cs (by rw [qfw h,if_neg (by omega)]) hc
theorem qpv(s:Nat)(c c':List V):∀B:Level,qeW (qeW B s c) s c'=qeW B s c'
 |[]=>rfl
 |(k,d)::B=>by
  simp only [qeW];by_cases h1:k=s
  ·simp [qeW,h1]
  ·simp [qeW,h1,qpv s c c' B]
theorem qst(st:St)(r:Root)(c c':List V):(st.qp r c).qp r c'=st.qp r c':=by
 obtain ⟨l,s⟩:=r;unfold St.qp;by_cases h1:l=st.L.length
 ·simp_all [if_true,qpv]
 ·simp only [h1,if_false,List.length_modify];congr 1
  apply List.ext_getElem?;grind [qpv]
theorem qsc{t:TypeId}{cs cs2:List V}{off:Nat}(hl:cs2.length=cs.length)(h:(cs2.drop off).take (if qN P t then P.cellsOf t else 1)=(cs.drop off).take (if qN P t then P.cellsOf t else 1)) :
  q4 P t (cs2.drop off)=q4 P t (cs.drop off):=by
 unfold q4;cases P.underlying t with
 |none=>rfl
 |some d =>
  simp only
  by_cases ha:qN P t=true
  ·grind
  ·have ha':qN P t=false:=by grind
   simp only [ha',qf,if_false]at h ⊢;have:∀l:List V,l.head?=(l.take 1).head?:=λl=>by cases l<;>rfl
   grind
theorem qvn{g:Fl->Fl}{l:List V}(h:qfy l=false):qfy (reflagL g l)=false:=by
 cases l with
 |nil=>rfl
 |cons x l=>cases x with
  |lp=>simp [qfy]at h
  |mp=>simp [qfy]at h
  |room s n =>
   simp only [reflagL,V.reflag];by_cases h1:g .own=.own
   ·rw [if_pos h1];rfl
   ·rw [if_neg h1];by_cases h2:n=0
    ·rw [if_pos h2];rfl
    ·rw [if_neg h2];rfl
  |_=>rfl
theorem qAz{x:V}(h:x.oks=true):qfy x.cells=false:=by
 unfold V.oks at h;cases hc:x.cells with
 |nil=>rfl
 |cons y l =>
  rw [hc]at h;simp only [List.all_cons,qe]at h;cases y<;>first|rfl|grind [V.one]
theorem qq5{cs new:List V}{off:Nat}(h:new.length<=(cs.drop off).length):(qJ cs off new).length=cs.length:=by
 grind [List.length_drop,qJ]
def qrj(P:Program)(H:Hints)(f:FuncId)(o:Oper)(xs:List V)(st m:St)(z:V)(r:Root)(off len:Nat)(wr:Bool):Prop :=
 ∃new cs,st.box r=some cs/\qfy cs=false/\(wr=true->new.length=len/\off+len<=cs.length/\(off=0->qfy new=false))/\m=(if wr then st.qp r (qJ cs off new)else st) /\
   ∀(st2:St) cs2,st2.box r=some cs2->qfy cs2=false->cs2.length=cs.length->(cs2.drop off).take len=(cs.drop off).take len->qdw P H f o xs st2=some (z,if wr then st2.qp r (qJ cs2 off new)else st2,.root r off len wr)
theorem qzX{l:List V}{n:Nat}(h:qfy l=false):qfy (l.take n)=false:=by
 cases l with
 |nil=>grind
 |cons x l=>cases n with
  |zero=>rfl
  |succ n=>cases x<;>first|rfl|grind [qfy]
theorem qAc{o:Oper}{t:TypeId}{ao:Operand}(hop:o.op=.load t ao){xs:List V}{st m:St}{z:V}{r:Root}{off len:Nat}{wr:Bool}(h:qdw P H f o xs st=some (z,m,.root r off len wr)):qrj P H f o xs st m z r off len wr:=by
 have hun:∀st xs,qdw P H f o xs st=match rootOf (.load t ao) xs with
   |none=>(match qaL P H f (qab H f o) (.load t ao) o.type xs none with
    |some (v,none)=>some (v,st,.none)
    |_=>none)
   |some r=>match qaL P H f (qab H f o) (.load t ao) o.type xs (st.box r)with
    |some (v,none)=>some (v,st,.root r (q7 P (.load t ao) xs).1 (q7 P (.load t ao) xs).2 false)
    |some (v,some c)=>if (qnq (.load t ao) xs).all (λp=>decide (p.lvl<=r.lvl))&&decide ((q7 P (.load t ao) xs).1+(q7 P (.load t ao) xs).2<=c.length)then some (v,st.qp r c,.root r (q7 P (.load t ao) xs).1 (q7 P (.load t ao) xs).2 true)else none
    |none=>none:=λst xs=>by unfold qdw;rw [hop,if_neg (by simp [qcY])]
 rw [hun]at h;have hx:∃r' off',xs=[.ptr r' off']:=by
  split at h
  ·grind
  ·rename_i r' hr;obtain ⟨off',rest,rfl,_⟩:=qbM hr;cases rest with
   |nil=>grind
   |cons y l=>simp [qaL]at h
 obtain ⟨r',off',rfl⟩:=hx;simp only [rootOf]at h;cases hbx:st.box r' with
 |none=>rw [hbx]at h;simp [qaL]at h
 |some cs =>
  rw [hbx]at h;simp only [qaL,q7,qnq,List.all_nil,Bool.true_and]at h;have hrange:∀cs2:List V,cs2.length=cs.length->(cs2.drop off').take (if qN P t then P.cellsOf t else 1)=(cs.drop off').take (if qN P t then P.cellsOf t else 1)->q4 P t (cs2.drop off')=q4 P t (cs.drop off'):=λcs2 hl heq=>qsc hl heq;have hun2:∀(st2:St) cs2,st2.box r'=some cs2->qfy cs2=false->qdw P H f o [.ptr r' off'] st2=match (if qab H f o then (q4 P t (cs2.drop off')).map λx=>(x,some (qJ cs2 off' (reflagL qV ((cs2.drop off').take (if qN P t then P.cellsOf t else 1)))))
    else ((q4 P t (cs2.drop off')).map V.q6).map λx=>(x,none))with
   |some (v,none)=>some (v,st2,.root r' off' (if qN P t then P.cellsOf t else 1) false)
   |some (v,some c)=>if decide (off'+(if qN P t then P.cellsOf t else 1)<=c.length)=true then some (v,st2.qp r' c,.root r' off' (if qN P t then P.cellsOf t else 1) true)else none
   |none=>none:=λst2 cs2 hb2 hlp2=>by
    rw [hun];simp only [rootOf,hb2,qaL,q7,qnq,List.all_nil,Bool.true_and,hlp2,qf,if_false];rfl
  obtain ⟨n,hn⟩:∃n,(if qN P t=true then P.cellsOf t else 1)=n:=⟨_,rfl⟩
  simp only [hn]at h hrange hun2;cases hlp:qfy cs with
  |true=>rw [hlp]at h;simp at h
  |false =>
   rw [hlp]at h;simp only [qf,if_false]at h;cases htk:qab H f o with
   |true =>
    simp only [htk,if_true]at h hun2;cases hof:q4 P t (cs.drop off')with
    |none=>rw [hof]at h;simp at h
    |some y =>
     rw [hof]at h;simp only [qi]at h;split at h
     ·rename_i hle;simp only [decide_eq_true_eq]at hle;rw [qq5 (by rw [qO];simp;omega)]at hle;simp only [qb,Prod.mk.injEq,Fp.root.injEq]at h;obtain ⟨h1,h2,h3,h4,h5,h6⟩:=h;subst h1;subst h2;subst h3;subst h4;subst h5;subst h6;refine ⟨reflagL qV ((cs.drop off').take n),cs,hbx,hlp,λ_=>⟨by rw [qO,List.length_take,List.length_drop];omega,hle,λh0=>?_⟩,rfl,?_⟩
      ·grind [qvn,qzX]
      ·intro st2 cs2 hb2 hlp2 hl2 heq;rw [hun2 st2 cs2 hb2 hlp2,hrange cs2 hl2 heq,hof,heq];simp only [qi];rw [if_pos]
       ·rfl
       ·simp only [decide_eq_true_eq];rw [qq5 (by rw [qO,<- heq];simp;omega)];omega
     ·cases h
   |false =>
    simp only [htk,qf,if_false]at h hun2;cases hof:q4 P t (cs.drop off')with
    |none=>rw [hof]at h;simp at h
    |some y =>
     rw [hof]at h;simp only [qi,qb,Prod.mk.injEq,Fp.root.injEq]at h;obtain ⟨h1,h2,h3,h4,h5,h6⟩:=h;subst h1;subst h2;subst h3;subst h4;subst h5;subst h6;refine ⟨[],cs,hbx,hlp,(λh=>by simp at h),rfl,?_⟩;grind
theorem qyO{o:Oper}{t:TypeId}{ao xo:Operand}(hop:o.op=.store t ao xo){xs:List V}{st m:St}{z:V}{r:Root}{off len:Nat}{wr:Bool}(h:qdw P H f o xs st=some (z,m,.root r off len wr)):qrj P H f o xs st m z r off len wr:=by
 have hun:∀st xs,qdw P H f o xs st=match rootOf (.store t ao xo) xs with
   |none=>(match qaL P H f (qab H f o) (.store t ao xo) o.type xs none with
    |some (v,none)=>some (v,st,.none)
    |_=>none)
   |some r=>match qaL P H f (qab H f o) (.store t ao xo) o.type xs (st.box r)with
    |some (v,none)=>some (v,st,.root r (q7 P (.store t ao xo) xs).1 (q7 P (.store t ao xo) xs).2 false)
    |some (v,some c)=>if (qnq (.store t ao xo) xs).all (λp=>decide (p.lvl<=r.lvl))&&decide ((q7 P (.store t ao xo) xs).1+(q7 P (.store t ao xo) xs).2<=c.length)then some (v,st.qp r c,.root r (q7 P (.store t ao xo) xs).1 (q7 P (.store t ao xo) xs).2 true)else none
    |none=>none:=λst xs=>by unfold qdw;rw [hop,if_neg (by simp [qcY])]
 rw [hun]at h;have hx:∃r' off' x,xs=[.ptr r' off',x]:=by
  split at h
  ·grind
  ·rename_i r' hr;obtain ⟨off',rest,rfl,_⟩:=qbM hr
   match rest with
   |[x]=>grind
   |[]=>simp [qaL]at h
   |_::_::_=>simp [qaL]at h
 obtain ⟨r',off',x,rfl⟩:=hx;simp only [rootOf]at h;cases hbx:st.box r' with
 |none=>rw [hbx]at h;simp [qaL]at h
 |some cs =>
  rw [hbx]at h;simp only [qaL,q7,qnq]at h;by_cases hc:qfy cs=false/\P.cellsOf t≠0/\x.cells.length=P.cellsOf t/\off'+x.cells.length<=cs.length/\x.oks=true
  ·rw [if_pos hc]at h;have h:(if ((x.qq.all λp=>decide (p.lvl<=r'.lvl))&&decide (off'+x.cells.length<=(qJ cs off' x.cells).length))=true then some (V.undef,st.qp r' (qJ cs off' x.cells),Fp.root r' off' x.cells.length true)else none)=some (z,m,Fp.root r off len wr):=h;by_cases hall:((x.qq.all λp=>decide (p.lvl<=r'.lvl))&&decide (off'+x.cells.length<=(qJ cs off' x.cells).length))=true
   ·rw [if_pos hall]at h;simp only [qb,Prod.mk.injEq,Fp.root.injEq]at h;obtain ⟨h1,h2,h3,h4,h5,h6⟩:=h;subst h1;subst h2;subst h3;subst h4;subst h5;subst h6;refine ⟨x.cells,cs,hbx,hc.1,λ_=>⟨rfl,hc.2.2.2.1,λ_=>qAz hc.2.2.2.2⟩,rfl,?_⟩;intro st2 cs2 hb2 hlp2 hl2 heq;rw [hun];simp only [rootOf,hb2,qaL,q7,qnq];rw [if_pos ⟨hlp2,hc.2.1,hc.2.2.1,by omega,hc.2.2.2.2⟩];show (if ((x.qq.all λp=>decide (p.lvl<=r'.lvl))&&decide (off'+x.cells.length<=(qJ cs2 off' x.cells).length))=true then some (V.undef,st2.qp r' (qJ cs2 off' x.cells),Fp.root r' off' x.cells.length true)else none)=_;have hall2:((x.qq.all λp=>decide (p.lvl<=r'.lvl))&&decide (off'+x.cells.length<=(qJ cs2 off' x.cells).length))=true:=by
     simp only [qe,decide_eq_true_eq]at hall ⊢;grind [qbP]
    grind
   ·grind
  grind
theorem qc4{o:Oper}{xs:List V}{st m:St}{z:V}{r:Root}{off len:Nat}{wr:Bool}(h:qbh P H C f o xs st=some (z,m,.root r off len wr)) :
  qje o.op=true/\qrj P H f o xs st m z r off len wr:=by
 rcases qfN o.op with ⟨t,hop⟩|⟨t,a,hop⟩|⟨c,fo,hop,hc⟩|hd
 ·unfold qbh at h;grind
 ·unfold qbh at h;grind
 ·rw [qa3 hop hc]at h;cases xs with
  |nil=>cases h
  |cons fv args =>
   simp only at h;split at h
   ·grind [qlq]
   rename_i hbn;obtain ⟨⟨v,s⟩,h1,h2⟩:=qc.1 h;grind
 ·rw [qW hd]at h;refine ⟨hd,?_⟩;have hmo:¬ qcY o.op xs=true:=λhm=>by
   unfold qdw at h;rw [if_pos hm]at h;grind [qge]
  cases hr:rootOf o.op xs with
  |none =>
   unfold qdw at h;grind
  |some r' =>
   grind [qbM,qAc,qyO]
theorem qpu(s s':Nat)(hne:s≠s')(c c':List V):∀B:Level,qeW (qeW B s c) s' c'=qeW (qeW B s' c') s c
 |[]=>rfl
 |(k,d)::B=>by
  simp only [qeW];by_cases h1:k=s
  ·subst h1;simp [qeW,hne]
  ·by_cases h2:k=s'
   ·subst h2;simp [qeW,h1]
   ·simp [qeW,h1,h2,qpu s s' hne c c' B]
theorem qg3(st:St)(r r':Root)(hne:r≠r')(c c':List V):(st.qp r c).qp r' c'=(st.qp r' c').qp r c:=by
 obtain ⟨l,s⟩:=r;obtain ⟨l',s'⟩:=r';unfold St.qp;by_cases h1:l=st.L.length
 ·by_cases h2:l'=st.L.length
  ·subst h1;simp only [h2,if_true];grind [qpu]
  grind
 ·by_cases h2:l'=st.L.length
  ·grind
  ·simp only [h1,h2,if_false,List.length_modify];congr 1
   apply List.ext_getElem?;grind [qpu]
theorem qg4{o:Oper}{xs:List V}{st m:St}{z:V}{r:Root}(h:qbh P H C f o xs st=some (z,m,.fresh r)) :
  ∃d c,r=⟨st.L.length,d⟩/\qw st.B d=none/\m={st with B:=qb3 d c st.B}/\∀st2:St,st2.L.length=st.L.length->qw st2.B d=none->qbh P H C f o xs st2=some (z,{st2 with B:=qb3 d c st2.B},.fresh r):=by
 rcases qfN o.op with ⟨t,hop⟩|⟨t,a,hop⟩|⟨c,fo,hop,hc⟩|hd
 ·unfold qbh at h;simp only [hop]at h;split at h
  ·rename_i d z0 hd hz;split at h
   ·rename_i hl;obtain ⟨rfl,rfl,hf⟩:=qeX h;cases hf;refine ⟨d,z0.cells,rfl,by simp_all,rfl,λst2 h1 h2=>?_⟩
    simp_all [Option.isNone_none,if_true,qbh]
   ·cases h
  ·cases h
 ·unfold qbh at h;simp only [hop]at h;split at h
  ·rename_i d x hd;split at h
   ·rename_i hl;obtain ⟨rfl,rfl,hf⟩:=qeX h;cases hf;refine ⟨d,x.cells,rfl,by simp_all,rfl,λst2 h1 h2=>?_⟩
    simp_all [if_pos,qbh]
   ·cases h
  ·cases h
 ·rw [qa3 hop hc]at h;cases xs with
  |nil=>cases h
  |cons fv args =>
   simp only at h;split at h
   ·rename_i hbn;rcases qlq h with ⟨d',c',hf,h1,h2,h3⟩|⟨_,_,_,hf,_⟩
    rotate_left
    ·cases hf
    cases hf;refine ⟨d',c',rfl,h1,h2,λst2 h4 h5=>?_⟩
    simp_all [qa3,if_true]
   rename_i hbn;obtain ⟨⟨v,s⟩,h1,h2⟩:=qc.1 h;grind
 ·rw [qW hd]at h;unfold qdw at h;split at h
  ·rename_i hmo;rcases qge h with ⟨h1,_⟩|⟨_,_,_,h1,_⟩|⟨d,h1,h2,h3,h4⟩
   ·cases h1
   ·cases h1
   ·cases h1;refine ⟨d,_,rfl,h2,h3,λst2 h5 h6=>?_⟩
    simp_all [qW,if_pos,qdw]
  grind
theorem qw9(st:St)(d:Nat)(c:List V)(r:Root)(hne:r≠⟨st.L.length,d⟩):({st with B:=qb3 d c st.B}:St).box r=st.box r:=by
 obtain ⟨l,s⟩:=r;unfold St.box;by_cases h:l=st.L.length
 ·subst h;have:d≠s:=λe=>hne (by rw [e])
  simp_all [if_true,qbH]
 grind
theorem qpg(st:St)(d:Nat)(c:List V)(r:Root)(c':List V)(hne:r≠⟨st.L.length,d⟩):({st with B:=qb3 d c st.B}:St).qp r c'={st.qp r c' with B:=qb3 d c (st.qp r c').B}:=by
 obtain ⟨l,s⟩:=r;unfold St.qp;by_cases h:l=st.L.length
 ·subst h;have:d≠s:=λe=>hne (by rw [e])
  simp_all [if_true,quy]
 grind
theorem qhM(s d:Nat)(c:List V):∀B:Level,(qw (qeW B s c) d=none↔qw B d=none)
 |[]=>Iff.rfl
 |(k,e)::B=>by
  simp only [qeW];by_cases h1:k=s
  ·rw [if_pos h1];by_cases h2:k=d
   ·simp_all [if_pos,qw]
   simp_all [if_neg,qw]
  ·rw [if_neg h1];by_cases h2:k=d
   ·simp only [qw,if_pos h2]
   simp_all [if_neg,qhM,qw]
theorem qbz(st:St)(r:Root)(c:List V)(d:Nat):(qw (st.qp r c).B d=none↔qw st.B d=none)/\(st.qp r c).L.length=st.L.length:=by
 unfold St.qp;split
 ·simp_all [qhM]
 grind
theorem qmk{o:Oper}{xs:List V}{st m:St}{z:V}{q:Root}(h:qbh P H C f o xs st=some (z,m,.mapw q)) :
  ∃es es',st.box q=some [.mp es]/\m=st.qp q [.mp es']/\∀st2:St,st2.L.length=st.L.length->st2.box q=some [.mp es]->qbh P H C f o xs st2=some (z,st2.qp q [.mp es'],.mapw q):=by
 rcases qfN o.op with ⟨t,hop⟩|⟨t,a,hop⟩|⟨c,fo,hop,hc⟩|hd
 ·unfold qbh at h;grind
 ·unfold qbh at h;grind
 ·rw [qa3 hop hc]at h;cases xs with
  |nil=>cases h
  |cons fv args =>
   simp only at h;split at h
   ·rename_i hbn;rcases qlq h with ⟨_,_,hf,_⟩|⟨q',es,es',hf,h1,h2,h3⟩
    ·cases hf
    cases hf;refine ⟨es,es',h1,h2,λst2 h4 h5=>?_⟩
    simp_all [qa3,if_true]
   obtain ⟨⟨v,s⟩,h1,h2⟩:=qc.1 h;grind
 ·rw [qW hd]at h;unfold qdw at h;split at h
  ·rename_i hmo;rcases qge h with ⟨h1,_⟩|⟨q',es,es',h1,h2,h3,h4⟩|⟨d,h1,_⟩
   ·cases h1
   ·cases h1;refine ⟨es,es',h2,h3,λst2 _ h6=>?_⟩
    simp_all [qW,if_pos,qdw]
   grind
  grind
theorem qyL{o o':Oper}{xs xs':List V}{st m m':St}{z z':V}{fp fp':Fp}(h:qbh P H C f o xs st=some (z,m,fp))(h':qbh P H C f o' xs' m=some (z',m',fp'))(hc:fp.conflict fp'=false) :
  ∃m1,qbh P H C f o' xs' st=some (z',m1,fp')/\qbh P H C f o xs m1=some (z,m',fp):=by
 cases fp with
 |none =>
  grind [qe8]
 |root r off len wr =>
  cases fp' with
  |none =>
   grind [qe8]
  |root r' off' len' wr' =>
   obtain ⟨hd,new,cs,hb,hlp,hw,hm,hK⟩:=qc4 h;obtain ⟨hd',new',cs',hb',hlp',hw',hm',hK'⟩:=qc4 h';simp only [Fp.conflict,Bool.and_eq_false_iff,decide_eq_false_iff_not,Bool.or_eq_false_iff,Bool.not_eq_false',Bool.or_eq_true,decide_eq_true_eq]at hc;by_cases hr:r=r'
   ·subst hr;by_cases hww:wr=false/\wr'=false
    ·grind
    ·have hdis:off+len<=off'\/off'+len'<=off:=by
      grind
     have hmb:m.box r=some (if wr then qJ cs off new else cs):=by
      grind [qR]
     have hcs':cs'=if wr then qJ cs off new else cs:=by grind
     have hl:cs.length=cs'.length:=by
      rw [hcs'];cases wr with
      |false=>rfl
      |true=>simp_all [if_true,qbP]
     have hk:(cs.drop off').take len'=(cs'.drop off').take len':=by
      rw [hcs'];cases wr with
      |false=>rfl
      |true=>simp_all [if_true,qmP]
     have s1:=hK' st cs hb hlp hl hk;have hm1b:(if wr' then st.qp r (qJ cs off' new')else st).box r=some (if wr' then qJ cs off' new' else cs):=by
      cases wr'<;>simp [qR,hb]
     have hlp1:qfy (if wr' then qJ cs off' new' else cs)=false:=by
      cases wr' with
      |false=>exact hlp
      |true=>simp_all [if_true,qot]
     have hl1:(if wr' then qJ cs off' new' else cs).length=cs.length:=by
      cases wr' with
      |false=>rfl
      |true=>simp_all [if_true,qbP]
     have hk1:((if wr' then qJ cs off' new' else cs).drop off).take len=(cs.drop off).take len:=by
      cases wr' with
      |false=>rfl
      |true=>obtain ⟨h1,h2,h3⟩:=hw' rfl;simp only [if_true];exact qmP (by omega) (by omega)
     have s2:=hK _ _ hm1b hlp1 hl1 hk1;refine ⟨_,by rw [qW hd'];exact s1,?_⟩;rw [qW hd,s2];congr 2
     rw [Prod.mk.injEq];refine ⟨?_,rfl⟩;rw [hm',hm,hcs'];cases wr<;>cases wr'<;>simp only [qf,if_false,if_true,qst]
     grind [qv6]
   ·have e1:∀(st:St) d,(st.qp r d).box r'=st.box r':=λst d=>by rw [qR,if_neg (Ne.symm hr)]
    have e2:∀(st:St) d,(st.qp r' d).box r=st.box r:=λst d=>by rw [qR,if_neg hr]
    grind [qW,qg3,qJ]
  |fresh q =>
   simp only [Fp.conflict,decide_eq_false_iff_not]at hc;obtain ⟨hd,new,cs,hb,hlp,hw,hm,hK⟩:=qc4 h;obtain ⟨d,c,hq,hn,hm',hS⟩:=qg4 h';have hLm:m.L.length=st.L.length:=by
    grind [qbz]
   rw [hLm]at hq;have hne:r≠⟨st.L.length,d⟩:=λe=>hc (by rw [hq,e]);have hn0:qw st.B d=none:=by
    grind [qbz]
   refine ⟨_,hS st hLm.symm hn0,?_⟩;rw [qW hd,hK _ cs (by simp_all [qw9]) hlp rfl rfl,hm',hm];cases wr with
   |false=>rfl
   |true=>simp_all [if_true,qpg]
  |looks =>
   have hw:wr=false:=by simp_all [Fp.conflict]
   subst hw;obtain ⟨hd,new,cs,hb,hlp,hw,hm,hK⟩:=qc4 h;simp only [qf,if_false]at hm;grind [qj1]
  |all=>simp [Fp.conflict]at hc
  |mapw q =>
   obtain ⟨hd,new,cs,hb,hlp,hw,hm,hK⟩:=qc4 h;obtain ⟨es,es',hq,hm',hS⟩:=qmk h';have hne:r≠q:=λe=>by
    subst e;rw [hm]at hq;cases wr with
    |false=>simp_all [qf,if_false,qfy]
    |true =>
     obtain ⟨h1,h2,h3⟩:=hw rfl;simp only [if_true,qR,hb,qi,qb]at hq;grind [qot,qfy]
   have hLm:m.L.length=st.L.length:=by
    rw [hm];cases wr with
    |false=>rfl
    |true=>exact (qbz st r _ 0).2
   have hq0:st.box q=some [.mp es]:=by
    rw [<- hq,hm];cases wr with
    |false=>rfl
    |true=>simp only [if_true];rw [qR,if_neg (Ne.symm hne)]
   refine ⟨_,hS st hLm.symm hq0,?_⟩;rw [qW hd,hK (st.qp q [.mp es']) cs (by simp_all [qR,if_neg]) hlp rfl rfl,hm',hm];grind [qg3]
 |mapw q =>
  obtain ⟨es,es',hq,hm,hS⟩:=qmk h;cases fp' with
  |none =>
   grind [qe8]
  |root r off len wr =>
   obtain ⟨hd,new,cs,hb,hlp,hw,hm',hK⟩:=qc4 h';have hne:r≠q:=λe=>by
    subst e;rw [hm,qR,if_pos rfl,hq]at hb;grind [qi,qb,qfy]
   have hb0:st.box r=some cs:=by simp_all [qR,if_neg]
   have hLs:(if wr then st.qp r (qJ cs off new)else st).L.length=st.L.length:=by
    cases wr with
    |false=>rfl
    |true=>exact (qbz st r _ 0).2
   refine ⟨_,by rw [qW hd];exact hK st cs hb0 hlp rfl rfl,?_⟩;rw [hS _ hLs (by cases wr with
    |false=>exact hq
    |true=>simp only [if_true];rw [qR,if_neg (Ne.symm hne)];exact hq),hm',hm]
   grind [qg3]
  |mapw q' =>
   simp only [Fp.conflict,decide_eq_false_iff_not]at hc;obtain ⟨es2,es2',hq',hm',hS'⟩:=qmk h';have hLm:m.L.length=st.L.length:=by rw [hm];exact (qbz st q _ 0).2
   have hq0:st.box q'=some [.mp es2]:=by simp_all [qR,if_neg,Ne.symm]
   refine ⟨_,hS' st hLm.symm hq0,?_⟩;rw [hS _ ((qbz st q' _ 0).2) (by rw [qR,if_neg hc];exact hq),hm',hm,qg3 _ _ _ (Ne.symm hc)]
  |_=>simp [Fp.conflict]at hc
 |looks =>
  obtain rfl:=qj1 h;cases fp' with
  |none =>
   grind [qe8]
  |looks =>
   grind [qj1]
  |root r off len wr =>
   have hw:wr=false:=by simp_all [Fp.conflict]
   subst hw;obtain ⟨hd,new,cs,hb,hlp,hw,hm,hK⟩:=qc4 h';grind
  |_=>simp [Fp.conflict]at hc
 |fresh q =>
  cases fp' with
  |none =>
   grind [qe8]
  |root r off len wr =>
   simp only [Fp.conflict,decide_eq_false_iff_not]at hc;obtain ⟨hd,new,cs,hb,hlp,hw,hm,hK⟩:=qc4 h';obtain ⟨d,c,hq,hn,hm',hS⟩:=qg4 h;have hne:r≠⟨st.L.length,d⟩:=λe=>hc (by rw [hq,e]);have hb0:st.box r=some cs:=by simp_all [qw9]
   refine ⟨_,by rw [qW hd];exact hK st cs hb0 hlp rfl rfl,?_⟩;have hS':=hS (if wr then st.qp r (qJ cs off new)else st) (by
    grind [qbz]) (by
    grind [qbz])
   rw [hS',hm,hm'];cases wr with
   |false=>rfl
   |true=>simp_all [if_true,qpg]
  |fresh q' =>
   simp only [Fp.conflict,decide_eq_false_iff_not]at hc;obtain ⟨d,c,hq,hn,hm,hS⟩:=qg4 h;obtain ⟨d',c',hq',hn',hm',hS'⟩:=qg4 h';have hL:m.L.length=st.L.length:=by rw [hm]
   have hdd:d≠d':=λe=>hc (by grind);rw [hm]at hn';simp only [qbH hdd]at hn';refine ⟨{st with B:=qb3 d' c' st.B},hS' st hL.symm hn',?_⟩;rw [hS {st with B:=qb3 d' c' st.B} rfl (by simp_all [qbH,Ne.symm]),hm',hm];grind [qtr]
  |_=>simp [Fp.conflict]at hc
 |all =>
  grind [qe8,Fp.conflict]
end
section
variable {P:Program} {H:Hints} {f:FuncId} {C:Orc}
mutual
theorem dull_of_owns:∀x:V,x.owns=false->x.reflag qV=x
 |.room ..,h=>by simp [V.owns]at h
 |.undef,_|.val _,_|.ptr ..,_|.yld _,_|.mref _,_|.bsl ..,_|.mp _,_|.lp ..,_=>by simp [V.reflag]
 |.cptr f l,h=>by
  simp_all [Bool.or_eq_false_iff,decide_eq_false_iff_not,dullL_of_owns,V.owns,V.reflag,qV]
 |.sl f c l,h=>by
  simp_all [Bool.or_eq_false_iff,decide_eq_false_iff_not,dullL_of_owns,V.owns,V.reflag,qV]
 |.fn g a b,h=>by
  simp_all [Bool.or_eq_false_iff,dullL_of_owns,V.owns,V.reflag]
 |.iface t x,h=>by simp_all [dull_of_owns,V.owns,V.reflag]
 |.agg l,h=>by simp_all [dullL_of_owns,V.owns,V.reflag]
 |.tuple l,h=>by simp_all [dullL_of_owns,V.owns,V.reflag]
theorem dullL_of_owns:∀l:List V,ownsL l=false->reflagL qV l=l
 |[],_=>rfl
 |x::l,h=>by
  simp_all [Bool.or_eq_false_iff,dull_of_owns,dullL_of_owns,ownsL,reflagL]
end
mutual
theorem dull_dull:∀x:V,(x.reflag qV).reflag qV=x.reflag qV
 |.room s n=>by
  grind [V.reflag,qV,reflagL]
 |.undef|.val _|.ptr .. | .yld _|.mref _|.bsl .. | .mp _|.lp ..=>by simp [V.reflag]
 |.cptr f l=>by
  simp only [V.reflag,dullL_dull l];congr 1
  cases f<;>rfl
 |.sl f c l=>by
  simp only [V.reflag,dullL_dull l];have:qV (qV f)=qV f:=by cases f<;>rfl
  rw [this]
 |.fn g a b=>by simp_all [dullL_dull,V.reflag]
 |.iface t x=>by simp only [V.reflag,dull_dull x]
 |.agg l=>by simp only [V.reflag,dullL_dull l]
 |.tuple l=>by simp only [V.reflag,dullL_dull l]
theorem dullL_dull:∀l:List V,reflagL qV (reflagL qV l)=reflagL qV l
 |[]=>rfl
 |x::l=>by simp_all [dull_dull,dullL_dull,reflagL]
end
theorem qf4:∀(T:List Tmp) (E:List V) (t:Nat),(qz E T)[t]?=if t∈T then E[t]?.map V.q6 else E[t]?
 |[],E,t=>by simp [qz]
 |s::T,E,t=>by
  have h:(qz E (s::T))=qz (E.modify s V.q6) T:=rfl;rw [h,qf4 T,List.getElem?_modify];by_cases hst:s=t
  ·subst hst;simp only [if_true,qk,true_or,Option.map_eq_map];by_cases hm:s∈T
   ·rw [if_pos hm];cases E[s]? with
    |none=>rfl
    |some x=>simp only [qi,qb];exact dull_dull x
   grind
  grind
def qyw(d:Option Tmp)(z:V)(E:List V):List V:=match d with
 |some d=>E.set d z
 |none=>E
def qgO(P:Program)(H:Hints)(C:Orc)(f:FuncId)(o:Oper)(b:Bool)(xs:List V)(st:St):Option (V×St×Fp):=if b then qbh P H C f o xs st else some (.val undef,st,.none)
def qcz(H:Hints)(f:FuncId)(o:Oper)(b:Bool):List Tmp:=if b&&qab H f o then tmpsOf o else []
structure One (P:Program) (H:Hints) (C:Orc) (f:FuncId) (ops:Array Oper) (o:Oper) (st s:St) (ft:Foot) (b:Bool) (z:V) (m:St):Prop where
 wanted:qcA ops st.E o=some b
 nodup:b=true->qab H f o=true->qfs (tmpsOf o)=true
 mem:qgO P H C f o b (o.op.operands.toList.map (rd H f o st.E)) st=some (z,m,ft.fp)
 res:s={m with E:=qyw o.dst z (qz st.E (qcz H f o b))}
 took:ft.took=if b then qfQ H f o st.E else []
 looks:ft.looks=qbq H f ops o
theorem put_eq(s:St)(d:Option Tmp)(z:V):s.put d z={s with E:=qyw d z s.E}:=by cases d<;>rfl
theorem qdl{ops:Array Oper}{i:Nat}{st s:St}{ft:Foot}:qho P H C f ops i st=some (s,ft)↔∃o,ops[i]?=some o/\∃b z m,One P H C f ops o st s ft b z m:=by
 unfold qho;constructor
 ·intro h;cases ho:ops[i]? with
  |none=>grind
  |some o =>
   rw [ho]at h;simp only at h;refine ⟨o,rfl,?_⟩;cases hw:qcA ops st.E o with
   |none=>grind
   |some b =>
    rw [hw]at h;cases b with
    |false =>
     simp only [qb,Prod.mk.injEq]at h;obtain ⟨rfl,rfl⟩:=h;exact ⟨false,.val undef,st,hw,(λhb=>nomatch hb),rfl,by rw [put_eq];rfl,rfl,rfl⟩
    |true =>
     simp only at h;obtain ⟨⟨s1,fp⟩,h1,h2⟩:=qc.1 h;simp only [Prod.mk.injEq]at h2;obtain ⟨rfl,rfl⟩:=h2;unfold qeH at h1;split at h1
     ·cases h1
     ·rename_i hn;obtain ⟨⟨z,m,fp'⟩,h3,h4⟩:=qc.1 h1;simp only [Prod.mk.injEq]at h4;obtain ⟨rfl,rfl⟩:=h4;have hE:(if qab H f o=true then {st with E:=qz st.E (tmpsOf o)}else st)={st with E:=qz st.E (qcz H f o true)}:=by
       unfold qcz;by_cases ht:qab H f o=true<;>simp [ht,qz]
      rw [hE,qwa]at h3;obtain ⟨⟨z1,m1,fp1⟩,h5,h6⟩:=qc.1 h3;simp only [Prod.mk.injEq]at h6;obtain ⟨rfl,rfl,rfl⟩:=h6;exact ⟨true,z1,m1,hw,λ_ ht=>by grind,h5,by rw [put_eq],rfl,rfl⟩
 ·rintro ⟨o,ho,b,z,m,h⟩;rw [ho];simp only [h.wanted];cases b with
  |false =>
   obtain ⟨rfl,rfl,hfp⟩:=qeX (h.mem);have h1:=h.res;have h2:=h.took;have h3:=h.looks;simp only [qb,Prod.mk.injEq];refine ⟨by rw [h1,put_eq];rfl,?_⟩;cases ft;simp_all
  |true =>
   have h0:=h.mem;simp only [qgO,if_true]at h0;have hE:(if qab H f o=true then {st with E:=qz st.E (tmpsOf o)}else st)={st with E:=qz st.E (qcz H f o true)}:=by
    unfold qcz;by_cases ht:qab H f o=true<;>simp [ht,qz]
   have h3:qeH P H C f o st=some (s,ft.fp):=by
    unfold qeH;rw [if_neg (by intro hc;simp only [qe,Bool.not_eq_true']at hc;rw [h.nodup rfl hc.1]at hc;cases hc.2),hE,qwa,h0];simp only [qi,qb,Prod.mk.injEq,and_true];rw [put_eq,h.res]
   simp only [h3,qi,qb,Prod.mk.injEq,true_and];have h1:=h.took;have h2:=h.looks;cases ft;simp_all
theorem qtU{o o':Oper}{b b':Bool}{xs xs':List V}{st m m':St}{z z':V}{fp fp':Fp}(h:qgO P H C f o b xs st=some (z,m,fp))(h':qgO P H C f o' b' xs' m=some (z',m',fp'))(hc:fp.conflict fp'=false) :
  ∃m1,qgO P H C f o' b' xs' st=some (z',m1,fp')/\qgO P H C f o b xs m1=some (z,m',fp):=by
 cases b with
 |false =>
  obtain ⟨rfl,rfl,rfl⟩:=qeX h;exact ⟨m',h',rfl⟩
 |true =>
  cases b' with
  |false =>
   obtain ⟨rfl,rfl,rfl⟩:=qeX h';exact ⟨st,rfl,h⟩
  |true=>exact qyL h h' hc
theorem qtT(o:Oper)(b:Bool)(xs:List V)(st:St)(E:List V):qgO P H C f o b xs {st with E:=E}=(qgO P H C f o b xs st).map λ(z,m,fp)=>(z,{m with E:=E},fp):=by
 cases b
 ·rfl
 ·exact qwa ..
theorem getD_congr{E E':List V}{t:Nat}(h:E'[t]?=E[t]?):E'.getD t .undef=E.getD t .undef:=by
 grind
def qhp(E E':List V)(t:Tmp):Prop:=(E'[t]?).map V.q6=(E[t]?).map V.q6
theorem qhp.of{E E':List V}{t:Tmp}(h:E'[t]?=E[t]?):qhp E E' t:=by grind [qhp]
theorem qhp.getD{E E':List V}{t:Tmp}(h:qhp E E' t):(E'.getD t .undef).q6=(E.getD t .undef).q6:=by
 grind [qhp]
theorem qre{ops:Array Oper}{o:Oper}{E E':List V}(h:∀t∈qbq H f ops o,E'[t]?=E[t]?)(hd:∀t∈looksAt ops o,qhp E E' t) :
  qcA ops E' o=qcA ops E o/\o.op.operands.toList.map (rd H f o E')=o.op.operands.toList.map (rd H f o E)/\qfQ H f o E'=qfQ H f o E:=by
 have ht:qab H f o=true->∀t∈tmpsOf o,E'[t]?=E[t]?:=λhk t ht=>h t (List.mem_append_left _ (by grind));refine ⟨?_,?_,?_⟩
 ·unfold qcA;cases hg:o.guard with
  |none=>rfl
  |some gw =>
   obtain ⟨g,want⟩:=gw;simp only
   cases hb:(ops[g]?).bind (·.dst)with
   |none=>rfl
   |some t =>
    simp only
    rw [h t (List.mem_append_right _ (by grind))]
 ·refine List.map_congr_left λx hx=>?_;cases x with
  |tmp t =>
   have hm:t∈tmpsOf o:=List.mem_filterMap.2 ⟨.tmp t,hx,rfl⟩;by_cases hk:qab H f o=true
   ·simp_all [getD_congr,undef,rd]
   ·simp only [rd,hk,qf,if_false];exact (hd t (List.mem_append_left _ hm)).getD
  |_=>rfl
 simp_all [List.filter_congr,getD_congr,qfQ]
theorem qki{ops:Array Oper}{x y:Oper}(h:qcg ops x y=true) :
  (∀d,x.dst=some d->d∉looksAt ops y)/\(∀d,x.dst=some d->y.dst≠some d)/\(∀d,y.dst=some d->d∉looksAt ops x):=by
 grind [qcg]
theorem qlX{ops:Array Oper}{o:Oper}{t:Tmp}(h:t∈qbq H f ops o):t∈looksAt ops o:=by
 grind [qj,List.mem_append_left,List.mem_append_right,qbq,looksAt]
theorem qcb{l l':List Tmp}(h:meets l l'=false):∀t∈l,t∉l':=by
 intro t ht ht';have:=List.any_eq_false.1 h t ht;grind
theorem qsj(d:Option Tmp)(z:V)(E:List V)(t:Nat):(qyw d z E)[t]?=if d=some t/\t<E.length then some z else E[t]?:=by
 cases d with
 |none=>simp [qyw]
 |some d =>
  grind [qb,qyw]
theorem qlY{ops:Array Oper}{o y:Oper}{st:St}{b:Bool}{z:V}{took:List Tmp}(hd:∀d,o.dst=some d->d∉looksAt ops y)(htk:took=if b then qfQ H f o st.E else [])(hm:∀t∈took,t∉qbq H f ops y) :
  (∀t∈qbq H f ops y,(qyw o.dst z (qz st.E (qcz H f o b)))[t]?=st.E[t]?)/\∀t∈looksAt ops y,qhp st.E (qyw o.dst z (qz st.E (qcz H f o b))) t:=by
 refine ⟨λt ht=>?_,λt ht=>?_⟩
 ·rw [qsj,if_neg (λh=>hd t h.1 (qlX ht)),qf4];split
  ·rename_i hmem;unfold qcz at hmem;split at hmem
   ·rename_i hb;simp only [qe]at hb;have hnt:t∉took:=λh=>hm t h ht;rw [htk,if_pos hb.1]at hnt;unfold qfQ at hnt;rw [if_pos hb.2]at hnt;simp only [List.mem_filter,hmem,true_and,Bool.not_eq_true]at hnt;cases hE:st.E[t]? with
    |none=>rfl
    |some x =>
     rw [List.getD_eq_getElem?_getD,hE]at hnt;simp only [qi,qb];exact dull_of_owns x hnt
   grind
  ·rfl
 ·unfold qhp;rw [qsj,if_neg (λh=>hd t h.1 ht),qf4];split
  ·cases st.E[t]? with
   |none=>rfl
   |some x=>simp only [qi,qb];exact dull_dull x
  ·rfl
theorem qir(E:List V)(T:List Tmp):(qz E T).length=E.length:=qa7 T E
theorem qnN(d:Option Tmp)(z:V)(E:List V):(qyw d z E).length=E.length:=by cases d<;>simp [qyw]
theorem qpC{ops:Array Oper}{o:Oper}{b:Bool}{t:Nat}(h:t∈qcz H f o b):t∈looksAt ops o:=by
 unfold qcz at h;split at h
 ·exact List.mem_append_left _ h
 grind
theorem qnT{ops:Array Oper}{i j:Nat}{x y:Oper}{st s1 s2:St}{fx fy:Foot}(hx:ops[j]?=some x)(hy:ops[i]?=some y)(hap:qcg ops x y=true)(h1:qho P H C f ops j st=some (s1,fx))(h2:qho P H C f ops i s1=some (s2,fy))
  (hcl:fx.qgx fy=false):∃s1',qho P H C f ops i st=some (s1',fy)/\qho P H C f ops j s1'=some (s2,fx):=by
 obtain ⟨x',hx',b,z,m,A⟩:=qdl.1 h1;obtain ⟨y',hy',b',z',m',B⟩:=qdl.1 h2;rw [hx]at hx';rw [hy]at hy';cases hx';cases hy'
 obtain ⟨d1,d2,d3⟩:=qki hap;simp only [Foot.qgx,Bool.or_eq_false_iff]at hcl;obtain ⟨⟨hc,hm1⟩,hm2⟩:=hcl;have hm1':=qcb hm1;have hm2':=qcb hm2;rw [B.looks]at hm1';rw [A.looks]at hm2';have hk1:=qlY (z:=z) d1 A.took hm1';have hE1:s1.E=qyw x.dst z (qz st.E (qcz H f x b)):=by rw [A.res]
 rw [<- hE1]at hk1;obtain ⟨v1,v2,v3⟩:=qre (H:=H) (f:=f) hk1.1 hk1.2;have hmem:=B.mem;rw [v2]at hmem;have hs1:s1={m with E:=s1.E}:=by rw [hE1];exact A.res
 rw [hs1,qtT]at hmem;obtain ⟨⟨z2,m2,fp2⟩,h3,h4⟩:=qc.1 hmem;simp only [Prod.mk.injEq]at h4;obtain ⟨rfl,hm'E,rfl⟩:=h4;obtain ⟨m1,h5,h6⟩:=qtU A.mem h3 hc;have hBt:fy.took=if b' then qfQ H f y st.E else []:=by rw [B.took,v3]
 have hk2:=qlY (z:=z2) d3 hBt hm2';obtain ⟨u1,u2,u3⟩:=qre (H:=H) (f:=f) hk2.1 hk2.2;let s1':St:={m1 with E:=qyw y.dst z2 (qz st.E (qcz H f y b'))}
 have e1:qho P H C f ops i st=some (s1',fy):=qdl.2 ⟨y,hy,b',z2,m1,by rw [<- v1];exact B.wanted,B.nodup,h5,rfl,hBt,B.looks⟩;refine ⟨s1',e1,qdl.2 ⟨x,hx,b,z,{m2 with E:=s1'.E},by rw [u1];exact A.wanted,A.nodup,?_,?_,by rw [A.took,u3],A.looks⟩⟩
 ·grind [qtT,qgO]
 ·rw [B.res,<- hm'E];simp only [St.mk.injEq,and_true];apply List.ext_getElem?;intro t;have hs1E:s1'.E=qyw y.dst z2 (qz st.E (qcz H f y b')):=rfl;rw [hs1E,hE1];simp only [qsj,qf4,qir,qnN];by_cases c1:x.dst=some t
  ·grind [qpC,qcz]
  ·by_cases c2:y.dst=some t
   ·grind [qpC,qcz]
   grind
theorem qci{ops:Array Oper}{i:Nat}{l:List Nat}{st s:St}{fps:List (Nat×Foot)}:qgD P H C f ops (i::l) st=some (s,fps)↔∃s1 ft fps',qho P H C f ops i st=some (s1,ft)/\qgD P H C f ops l s1=some (s,fps')/\fps=(i,ft)::fps':=by
 grind [qc,Prod.exists,qb,Prod.mk.injEq,qgD,qho]
theorem qqH{ops:Array Oper}{i:Nat}{y:Oper}(hy:ops[i]?=some y){B:List Nat}:∀(A:List Nat) (st s:St) (fps:List (Nat×Foot)),qgD P H C f ops (A++i::B) st=some (s,fps) ->
  (∀j∈A,∃x,ops[j]?=some x/\qcg ops x y=true/\∀fx fy,(j,fx)∈fps->(i,fy)∈fps->fx.qgx fy=false) ->
  ∃fps',qgD P H C f ops (i::(A++B)) st=some (s,fps')/\∀p,p∈fps'↔p∈fps
 |[],st,s,fps,h,_=>⟨fps,h,λ_=>Iff.rfl⟩
 |j::A,st,s,fps,h,hA=>by
  rw [List.cons_append,qci]at h;obtain ⟨s1,fj,fps1,h1,h2,rfl⟩:=h;obtain ⟨fps2,h3,h4⟩:=qqH hy A s1 s fps1 h2 (λk hk=>by
   obtain ⟨x,hx,hd,hc⟩:=hA k (by simp [hk]);exact ⟨x,hx,hd,λfx fy h1 h2=>hc fx fy (by simp [h1]) (by simp [h2])⟩)
  rw [qci]at h3;obtain ⟨s2,fi,fps3,h5,h6,rfl⟩:=h3;obtain ⟨x,hx,hd,hc⟩:=hA j (by simp);obtain ⟨s1',h7,h8⟩:=qnT hx hy hd h1 h5 (hc fj fi (by simp) (by
   have:=(h4 (i,fi)).1 (by simp);simp [this]))
  refine ⟨(i,fi)::(j,fj)::fps3,?_,λp=>?_⟩
  ·rw [qci];exact ⟨s1',fi,(j,fj)::fps3,h7,by rw [List.cons_append,qci];exact ⟨s2,fj,fps3,h8,h6,rfl⟩,rfl⟩
  ·have:=h4 p;simp only [qk]at this ⊢;rw [<- this];constructor
   ·rintro (h|h|h)<;>simp [h]
   ·rintro (h|h|h)<;>simp [h]
theorem qtj{ops:Array Oper}{i:Nat}{y:Oper}{st s:St}{ft:Foot}(hy:ops[i]?=some y)(h:qho P H C f ops i st=some (s,ft)) :
  (qeC H y.op=true->ft.fp=.none)/\(∀t∈ft.took,qab H f y=true/\t∈tmpsOf y)/\ft.looks=qbq H f ops y:=by
 obtain ⟨o,ho,b,z,m,A⟩:=qdl.1 h;rw [hy]at ho;cases ho;refine ⟨λhs=>?_,λt ht=>?_,A.looks⟩
 ·have hm:=A.mem;cases b with
  |false=>exact (qeX hm).2.2.symm
  |true =>
   have hm:qbh P H C f y _ st=some (z,m,ft.fp):=hm;rcases qfN y.op with ⟨t,hop⟩|⟨t,a,hop⟩|⟨c,fo,hop,hc⟩|hd
   ·simp_all [qeC]
   ·simp_all [qeC]
   ·rw [hop]at hs;obtain ⟨cal,a1,a2⟩:=c;simp_all [qeC]
   ·rw [qW hd]at hm;unfold qdw at hm;split at hm
    ·rename_i hmo;exfalso
     unfold mapStep at hm;split at hm
     ·simp_all [qeC]
     ·simp_all [qeC]
     ·simp_all [qeC]
     ·simp_all [qeC]
     ·rename_i hop;rw [hop]at hs;simp only [qeC,Bool.not_eq_true']at hs;grind
     grind
    grind [qeX,qbM,qeC]
 ·rw [A.took]at ht
  simp_all [List.mem_filter,qfQ]
theorem qqb{ops:Array Oper}{i j:Nat}{x y:Oper}{s1 s1' s2 s2':St}{fx fy:Foot}(hx:ops[j]?=some x)(hy:ops[i]?=some y)(h:qho P H C f ops j s1=some (s1',fx))(h':qho P H C f ops i s2=some (s2',fy))
  (ht:qgq H f ops x y=true):fx.qgx fy=false:=by
 obtain ⟨a1,a2,a3⟩:=qtj hx h;obtain ⟨b1,b2,b3⟩:=qtj hy h';simp only [qgq,qe,Bool.or_eq_true,Bool.not_eq_true']at ht;obtain ⟨⟨h1,h2⟩,h3⟩:=ht;simp only [Foot.qgx,Bool.or_eq_false_iff];refine ⟨⟨?_,?_⟩,?_⟩
 ·rcases h1 with h1|h1
  ·rw [a1 h1];rfl
  ·rw [b1 h1];cases fx.fp<;>rfl
 ·rw [b3];refine List.any_eq_false.2 λt ht=>?_;obtain ⟨c1,c2⟩:=a2 t ht;rcases h2 with h2|h2|h2
  ·grind
  ·simpa using λh=>qcb h2 t c2 (qlX h)
  ·simpa using qcb h2 t c2
 ·rw [a3];refine List.any_eq_false.2 λt ht=>?_;obtain ⟨c1,c2⟩:=b2 t ht;rcases h3 with h3|h3|h3
  ·grind
  ·simpa using λh=>qcb h3 t c2 (qlX h)
  ·simpa using qcb h3 t c2
theorem qof{ops:Array Oper}:∀(l:List Nat) (st s:St) (fps:List (Nat×Foot)),qgD P H C f ops l st=some (s,fps)->∀k ft,(k,ft)∈fps->k∈l/\∃s1 s2,qho P H C f ops k s1=some (s2,ft)
 |[],st,s,fps,h,k,ft,hk=>by simp_all [qb,Prod.mk.injEq,qgD]
 |i::l,st,s,fps,h,k,ft,hk=>by
  obtain ⟨s1,fi,fps',h1,h2,rfl⟩:=qci.1 h;rcases qk.1 hk with hk|hk
  ·cases hk;exact ⟨by simp,_,_,h1⟩
  ·obtain ⟨h3,h4⟩:=qof l s1 s fps' h2 k ft hk;exact ⟨by simp [h3],h4⟩
end
section
variable {P:Program} {H:Hints} {f:FuncId} {C:Orc} {w:World}
theorem quN{st:St}{tmps:Array Value}{X:Cx}{O:Pl->List Nat}(h:Rel st tmps w X O){ops:Array Oper}{o:Oper}{b:Bool}(hw:qcA ops st.E o=some b):Region.wanted o (yielded ops tmps)=b:=by
 unfold qcA at hw;unfold Region.wanted;cases hg:o.guard with
 |none=>rw [hg]at hw;simpa using hw
 |some gw =>
  obtain ⟨g,want⟩:=gw;rw [hg]at hw;simp only at hw ⊢;cases hb:(ops[g]?).bind (·.dst)with
  |none=>rw [hb]at hw;cases hw
  |some t =>
   rw [hb]at hw;simp only at hw;split at hw
   ·rename_i c hE;obtain ⟨v,hv,hr⟩:=h.env t _ hE;simp only [Rep]at hr;obtain ⟨rfl,_⟩:=hr;have:yielded ops tmps g=some c:=by unfold yielded;rw [hb];simp only [qa,hv]
    rw [this];simp only [qb]at hw;rw [<- hw];cases c<;>cases want<;>rfl
   ·rename_i vs hE;obtain ⟨v,hv,hr⟩:=h.env t _ hE;simp only [Rep]at hr;obtain ⟨rfl,_⟩:=hr;have:yielded ops tmps g=none:=by unfold yielded;rw [hb];simp only [qa,hv]
    rw [this];split at hw
    ·simp only [qb]at hw;rw [<- hw];cases want<;>rfl
    ·cases hw
   ·cases hw
theorem qlH{F:Fence}(hFF:F=Fence.wide\/∃l,F=Fence.wide.inRound l)(g:FuncId):F.fn g:=by rcases hFF with rfl|⟨l,rfl⟩<;>trivial
theorem qDw(hC:OrcOk P C){F:Fence}(hFF:F=Fence.wide\/∃l,F=Fence.wide.inRound l){w0:World}{X0:Cx}{Md:Md}{n:Nat}{ops:Array Oper}{i:Nat}{st st':St}{ft:Foot}{a:Act}(hS:Sim w0 X0 Md n st a.tmps w)
  (hx:qho P H C f ops i st=some (st',ft)) {K:Act->World->Prop} {Q:Exit->Act->World->Prop} (hK:∀a' w',a'.defers=a.defers->Sim w0 X0 Md n st' a'.tmps w'->K a' w'):wpOpIn F 0 P ops Q i K a w:=by
 have hS':=hS;obtain ⟨X,O,h,hF⟩:=hS';unfold qho at hx;unfold wpOpIn;cases ho:ops[i]? with
 |none=>rw [ho]at hx;cases hx
 |some o =>
  rw [ho]at hx;simp only at hx ⊢;cases hw:qcA ops st.E o with
  |none=>rw [hw]at hx;cases hx
  |some b =>
   rw [hw]at hx;rw [quN h hw];have hdef:∀v,(a.put o.dst v).defers=a.defers:=λv=>by cases o.dst<;>rfl
   cases b with
   |false =>
    simp only [qb,Prod.mk.injEq]at hx;obtain ⟨rfl,_⟩:=hx;simp only [qf,if_false];refine ⟨λg _=>qlH hFF g,hK _ _ (hdef _) ⟨X,qiF O [] o.dst st.E.length [],?_⟩⟩;rw [qcx];exact ⟨h.qjU o.dst (by simp [Rep]) Lin.nil (by simp) (by simp [V.qq]),hF.qjU o.dst (by simp)⟩
   |true =>
    simp only [if_true];obtain ⟨⟨s1,fp⟩,h1,h2⟩:=qc.1 hx;simp only [Prod.mk.injEq]at h2;obtain ⟨rfl,_⟩:=h2;exact qwb hC hFF hS (by unfold qlk;rw [h1];rfl) (λv w' hS'=>hK _ _ (hdef v) hS')
theorem qDB(hC:OrcOk P C){F:Fence}(hFF:F=Fence.wide\/∃l,F=Fence.wide.inRound l){w0:World}{X0:Cx}{Md:Md}{n:Nat}{ops:Array Oper}{Q:Exit->Act->World->Prop}:∀(l:List Nat) (st st':St) (fps:List (Nat×Foot)) (a:Act) (w:World),Sim w0 X0 Md n st a.tmps w ->
  qgD P H C f ops l st=some (st',fps)->(∀a' w',a'.defers=a.defers->Sim w0 X0 Md n st' a'.tmps w'->Q .normal a' w')->wpOpsIn F 0 P ops Q l a w
 |[],st,st',fps,a,w,hS,hx,hK=>by
  simp only [qgD,qb,Prod.mk.injEq]at hx;obtain ⟨rfl,_⟩:=hx;exact hK a w rfl hS
 |i::l,st,st',fps,a,w,hS,hx,hK=>by
  obtain ⟨s1,ft,fps',h1,h2,_⟩:=qci.1 hx;rw [wpOpsIn_cons];exact qDw hC hFF hS h1 λa' w' hd hS'=>qDB hC hFF l s1 st' fps' a' w' hS' h2 λa2 w2 hd2=>hK a2 w2 (by rw [hd2,hd])
theorem qcP{ops:Array Oper}:∀(l:List Nat) (st s:St),qfU P H C f ops l st=some s->∃fps,qgD P H C f ops l st=some (s,fps)
 |[],st,s,h=>by simp only [qfU,qb]at h;subst h;exact ⟨[],rfl⟩
 |i::l,st,s,h=>by
  simp only [qfU]at h;cases ho:ops[i]? with
  |none=>rw [ho]at h;cases h
  |some o =>
   rw [ho]at h;simp only at h;cases hw:qcA ops st.E o with
   |none=>rw [hw]at h;cases h
   |some b =>
    rw [hw]at h;cases b with
    |false =>
     simp only at h;obtain ⟨fps,h1⟩:=qcP l _ s h;exact ⟨_,qci.2 ⟨st.put o.dst (.val undef),⟨.none,[],qbq H f ops o⟩,fps,by unfold qho;rw [ho];simp only [hw],h1,rfl⟩⟩
    |true =>
     simp only at h;cases hs:qlk P H C f o st with
     |none=>rw [hs]at h;cases h
     |some st' =>
      rw [hs]at h;simp only at h;obtain ⟨fps,h1⟩:=qcP l _ s h;unfold qlk at hs;obtain ⟨⟨s1,fp⟩,h2,rfl⟩:=qc.1 hs;exact ⟨_,qci.2 ⟨s1,_,fps,by unfold qho;rw [ho];simp only [hw,h2];rfl,h1,rfl⟩⟩
theorem qe4{j:Nat}:∀{l:List Nat},j∈qfF l->j∈l
 |[],h=>h
 |x::l,h=>by
  simp only [qfF]at h;split at h
  ·exact List.mem_cons_of_mem _ (qe4 h)
  ·rcases qk.1 h with rfl|h
   ·exact List.mem_cons_self
   ·exact List.mem_cons_of_mem _ (qe4 h)
theorem qsU(l:List Oper)(o:Oper):qka (l++[o])=qka l++[qfF ((qbk o).flatMap λj=>j::(qka l).getD j [])]:=by
 unfold qka;rw [List.foldl_append];rfl
theorem qkP{α:Type}{p:List α->Prop}(h0:p [])(h1:∀l a,p l->p (l++[a])):∀l,p l:=by
 intro l;have:∀n (l:List α),l.length=n->p l:=by
  intro n;induction n with
  |zero=>intro l hl;rw [List.eq_nil_of_length_eq_zero hl];exact h0
  |succ n ih =>
   intro l hl;have hne:l≠[]:=λe=>by subst e;simp at hl
   rw [<- List.dropLast_concat_getLast hne];exact h1 _ _ (ih _ (by simp [hl]))
 exact this _ l rfl
theorem qgv:∀l:List Oper,(qka l).length=l.length:=qkP rfl (λl a ih=>by rw [qsU];simp [ih])
theorem qnr:∀(l:List Oper) (i:Nat) (o:Oper),l[i]?=some o->(∀j∈qbk o,j<i)->(qka l).getD i []=qfF ((qbk o).flatMap λj=>j::(qka l).getD j []):=by
 refine qkP ?_ ?_
 ·intro i o h;simp at h
 ·intro l x ih i o h hb;rw [qsU];have hlt:i<(l++[x]).length:=(qm.1 h).1;simp only [List.length_append,List.length_singleton]at hlt;have hpre:∀j,j<i->(qka l++[qfF ((qbk x).flatMap λj=>j::(qka l).getD j [])]).getD j []=(qka l).getD j []:=λj hj=>by
   rw [List.getD_eq_getElem?_getD,List.getD_eq_getElem?_getD,qg (by rw [qgv];omega)]
  have hfm:((qbk o).flatMap λj=>j::(qka l++[qfF ((qbk x).flatMap λj=>j::(qka l).getD j [])]).getD j [])=(qbk o).flatMap λj=>j::(qka l).getD j []:=by
   generalize qfF ((qbk x).flatMap λj=>j::(qka l).getD j [])=z at hpre ⊢;rw [List.flatMap_def,List.flatMap_def];congr 1
   refine List.map_congr_left λj hj=>?_;rw [hpre j (hb j hj)]
  rw [hfm];by_cases hi:i<l.length
  ·rw [qg hi]at h;rw [<- ih i o h hb,List.getD_eq_getElem?_getD,List.getD_eq_getElem?_getD,qg (by rw [qgv];exact hi)]
  ·have hi':i=l.length:=by omega
   subst hi';simp only [List.getElem?_append_right (Nat.le_refl _),Nat.sub_self,List.getElem?_cons_zero,qb]at h;subst h;rw [List.getD_eq_getElem?_getD,List.getElem?_append_right (by rw [qgv];exact Nat.le_refl _),qgv];simp
def Down(ops:Array Oper)(listed:Array Bool):Prop:=∀k o,ops[k]?=some o->listed.getD k true=true->∀j∈qbk o,listed.getD j true=true
theorem qio{o:Oper}{j:Nat}:j∈qbk o↔∃e∈o.after,Region.binds .any e=true/\e.on=j:=by
 unfold qbk;simp only [List.mem_map,List.mem_filter,Array.mem_toList_iff];constructor
 ·rintro ⟨e,⟨h1,h2⟩,h3⟩;exact ⟨e,h1,h2,h3⟩
 ·rintro ⟨e,h1,h2,h3⟩;exact ⟨e,⟨h1,h2⟩,h3⟩
theorem qim{ops:Array Oper}{listed:Array Bool}(hsz:listed.size=ops.size)(hb:∀k o,ops[k]?=some o->∀j∈qbk o,j<k)(hd:Down ops listed):∀(k i:Nat) (o:Oper),i<=k->ops[i]?=some o->(∀j∈qbk o,listed.getD j true=true) ->
  ∀j∈(qka ops.toList).getD i [],listed.getD j true=true:=by
 intro k;induction k with
 |zero =>
  intro i o hi ho hall j hj;rw [qnr ops.toList i o (by simpa using ho) (hb i o ho)]at hj;obtain ⟨e,he,_⟩:=List.mem_flatMap.1 (qe4 hj);have:=hb i o ho e he;omega
 |succ k ih =>
  intro i o hi ho hall j hj;rw [qnr ops.toList i o (by simpa using ho) (hb i o ho)]at hj;obtain ⟨e,he,hj⟩:=List.mem_flatMap.1 (qe4 hj);rcases qk.1 hj with rfl|hj
  ·exact hall _ he
  ·have hei:=hb i o ho e he;have hilt:i<ops.size:=(Array.getElem?_eq_some_iff.1 ho).1;obtain ⟨oe,hoe⟩:∃oe,ops[e]?=some oe:=⟨ops[e]'(by omega),Array.getElem?_eq_getElem (by omega)⟩
   exact ih e oe (by omega) hoe (hd e oe hoe (hall e he)) j hj
theorem qoY{U:List (Nat×Nat)}{fps:List (Nat×Foot)}(h:qhQ U fps=true):∀i j fi fj,(i,j)∈U->(i,fi)∈fps->(j,fj)∈fps->fi.qgx fj=false:=by
 intro i j fi fj hu hi hj;unfold qhQ at h;have h1:=List.all_eq_true.1 h (i,j) hu;have h2:=List.all_eq_true.1 h1 (i,fi) hi;simp only [bne_self_eq_false,Bool.false_or]at h2;have h3:=List.all_eq_true.1 h2 (j,fj) hj;simpa using h3
theorem qyA(hC:OrcOk P C){F:Fence}(hFF:F=Fence.wide\/∃l,F=Fence.wide.inRound l){w0:World}{X0:Cx}{Md:Md}{n:Nat}{ops:Array Oper}{U:List (Nat×Nat)}(hreg:qeT H f U ops=true){Q:Exit->Act->World->Prop} :
  ∀(fuel:Nat) (listed:Array Bool) (st st':St) (fps:List (Nat×Foot)) (a:Act) (w:World),listed.size=ops.size->Down ops listed->((List.range ops.size).filter λk=>!listed.getD k true).length<=fuel ->
   qgD P H C f ops ((List.range ops.size).filter λk=>!listed.getD k true) st=some (st',fps)->(∀i j fi fj,(i,j)∈U->(i,fi)∈fps->(j,fj)∈fps->fi.qgx fj=false) ->
   Sim w0 X0 Md n st a.tmps w->(∀a' w',a'.defers=a.defers->Sim w0 X0 Md n st' a'.tmps w'->Q .normal a' w')->wpAnyIn F 0 P .any ops Q fuel listed a w:=by
 have hrow:∀i y,ops[i]?=some y->(∀j∈qbk y,j<i)/\∀j,j<i->j∈(qka ops.toList).getD i []\/∃x,ops[j]?=some x/\qcg ops x y=true/\(qgq H f ops x y=true\/(j,i)∈U):=by
  intro i y hy;have hilt:i<ops.size:=(Array.getElem?_eq_some_iff.1 hy).1;unfold qeT at hreg;have h1:=List.all_eq_true.1 hreg i (List.mem_range.2 hilt);rw [hy]at h1;simp only [qe]at h1;refine ⟨λj hj=>by simpa using List.all_eq_true.1 h1.1 j hj,λj hj=>?_⟩;have h2:=List.all_eq_true.1 h1.2 j (List.mem_range.2 hj);simp only [Bool.or_eq_true]at h2;rcases h2 with h2|h2
  ·exact .inl (by simpa using h2)
  ·right
   cases hx:ops[j]? with
   |none=>rw [hx]at h2;cases h2
   |some x =>
    rw [hx]at h2;simp only [qe,Bool.or_eq_true]at h2;exact ⟨x,rfl,h2.1,h2.2.imp id (by simp)⟩
 have hempty:∀(listed:Array Bool),listed.size=ops.size->Down ops listed->Region.ready .any ops listed=[]->((List.range ops.size).filter λk=>!listed.getD k true)=[]:=by
  intro listed hsz hd hr;cases hR:(List.range ops.size).filter λk=>!listed.getD k true with
  |nil=>rfl
  |cons k R =>
   exfalso
   have hsorted:((List.range ops.size).filter λk=>!listed.getD k true).Pairwise (· < ·):=List.Pairwise.filter _ List.pairwise_lt_range;have hk:k∈(List.range ops.size).filter λk=>!listed.getD k true:=by rw [hR];simp
   rw [hR]at hsorted;obtain ⟨hklt,hkun⟩:=List.mem_filter.1 hk;have hklt:=List.mem_range.1 hklt;obtain ⟨o,ho⟩:∃o,ops[k]?=some o:=⟨ops[k],Array.getElem?_eq_getElem hklt⟩
   have:k∈Region.ready .any ops listed:=by
    rw [mem_ready];refine ⟨by simpa using hkun,o,ho,λe he hb=>?_⟩;have hek:=(hrow k o ho).1 e.on (qio.2 ⟨e,he,hb,rfl⟩);cases hc:listed.getD e.on true with
    |true =>
     have:e.on<listed.size:=by omega
     simp [Array.getD,this]at hc ⊢;exact hc
    |false =>
     have hmem:e.on∈(List.range ops.size).filter λk=>!listed.getD k true:=List.mem_filter.2 ⟨List.mem_range.2 (by omega),by simp [hc]⟩;rw [hR]at hmem;rcases qk.1 hmem with h1|h1
     ·omega
     ·have:=(List.pairwise_cons.1 hsorted).1 _ h1;omega
   rw [hr]at this;simp at this
 intro fuel;induction fuel with
 |zero =>
  intro listed st st' fps a w hsz hd hlen hx hconf hS hQ;have hnil:((List.range ops.size).filter λk=>!listed.getD k true)=[]:=List.eq_nil_of_length_eq_zero (by omega);rw [hnil]at hx;simp only [qgD,qb,Prod.mk.injEq]at hx;obtain ⟨rfl,_⟩:=hx;refine ⟨?_,hQ a w rfl hS⟩;cases hr:Region.ready .any ops listed with
  |nil=>rfl
  |cons i R =>
   have hi:i∈Region.ready .any ops listed:=by rw [hr];simp
   obtain ⟨h1,o,ho,_⟩:=mem_ready.1 hi;have:i∈(List.range ops.size).filter λk=>!listed.getD k true:=List.mem_filter.2 ⟨List.mem_range.2 (Array.getElem?_eq_some_iff.1 ho).1,by simp [h1]⟩;rw [hnil]at this;simp at this
 |succ fuel ih =>
  intro listed st st' fps a w hsz hd hlen hx hconf hS hQ;refine ⟨λhr=>?_,λi hi=>?_⟩
  ·have hnil:=hempty listed hsz hd hr;rw [hnil]at hx;simp only [qgD,qb,Prod.mk.injEq]at hx;obtain ⟨rfl,_⟩:=hx;exact hQ a w rfl hS
  ·obtain ⟨hun,y,hy,hall⟩:=mem_ready.1 hi;have hilt:i<ops.size:=(Array.getElem?_eq_some_iff.1 hy).1;have hiR:i∈(List.range ops.size).filter λk=>!listed.getD k true:=List.mem_filter.2 ⟨List.mem_range.2 hilt,by simp [hun]⟩;have hsorted:((List.range ops.size).filter λk=>!listed.getD k true).Pairwise (· < ·):=List.Pairwise.filter _ List.pairwise_lt_range;obtain ⟨A,B,hAB⟩:=List.append_of_mem hiR;rw [hAB]at hx hsorted;obtain ⟨_,hs2,hs3⟩:=List.pairwise_append.1 hsorted;have hAi:∀j∈A,j<i:=λj hj=>hs3 j hj i (by simp);have hiB:∀j∈B,i<j:=λj hj=>(List.pairwise_cons.1 hs2).1 j hj;have hlistedE:∀j∈qbk y,listed.getD j true=true:=λj hj=>by
    obtain ⟨e,he,hb,rfl⟩:=qio.1 hj;have h1:=hall e he hb;have hlt:=(hrow i y hy).1 e.on hj;have:e.on<listed.size:=by omega
    simp [Array.getD,this]at h1 ⊢;exact h1
   have hanc:=qim hsz (λk o ho=>(hrow k o ho).1) hd i i y (Nat.le_refl _) hy hlistedE;obtain ⟨fps',h1,h2⟩:=qqH hy A st st' fps hx (λj hj=>by
    have hjR:j∈(List.range ops.size).filter λk=>!listed.getD k true:=by rw [hAB];simp [hj]
    have hjun:listed.getD j true=false:=by simpa using (List.mem_filter.1 hjR).2
    rcases (hrow i y hy).2 j (hAi j hj)with h3|⟨x,hx1,hx2,hx3⟩
    ·have:=hanc j h3;rw [hjun]at this;cases this
    ·refine ⟨x,hx1,hx2,λfx fy h4 h5=>?_⟩;rcases hx3 with hx3|hx3
     ·obtain ⟨_,_,_,e1⟩:=qof _ _ _ _ hx j fx h4;obtain ⟨_,_,_,e2⟩:=qof _ _ _ _ hx i fy h5;exact qqb hx1 hy e1 e2 hx3
     ·exact hconf j i fx fy hx3 h4 h5)
   obtain ⟨s1,fi,fps2,h3,h4,rfl⟩:=qci.1 h1;refine qDw hC hFF hS h3 λa' w' hdf hS'=>?_;have hR':((List.range ops.size).filter λk=>!(listed.setIfInBounds i true).getD k true)=A++B:=by
    have e1:((List.range ops.size).filter λk=>!(listed.setIfInBounds i true).getD k true)=((List.range ops.size).filter λk=>!listed.getD k true).filter (λk=>decide (k≠i)):=by
     rw [List.filter_filter];refine List.filter_congr λk hk=>?_;have hklt:=List.mem_range.1 hk;by_cases hki:k=i
     ·subst hki;have:k<listed.size:=by omega
      simp [Array.getD,this]
     ·rw [getD_set_ne true (Ne.symm hki)];simp [hki]
    rw [e1,hAB,List.filter_append,List.filter_cons];simp only [ne_eq,not_true_eq_false,decide_false,qf,if_false];rw [List.filter_eq_self.2 (λj hj=>by have:=hAi j hj;simp;omega),List.filter_eq_self.2 (λj hj=>by have:=hiB j hj;simp;omega)]
   have hd':Down ops (listed.setIfInBounds i true):=by
    intro k o ho hk j hj;by_cases hji:j=i
    ·subst hji;have:j<listed.size:=by omega
     simp [Array.getD,this]
    ·rw [getD_set_ne true (Ne.symm hji)];by_cases hki:k=i
     ·subst hki;rw [hy]at ho;cases ho;exact hlistedE j hj
     ·rw [getD_set_ne true (Ne.symm hki)]at hk;exact hd k o ho hk j hj
   refine ih (listed.setIfInBounds i true) s1 st' fps2 a' w' (by simp [hsz]) hd' ?_ (by rw [hR'];exact h4) (λi' j' fi' fj' hu h5 h6=>hconf i' j' fi' fj' hu ((h2 _).1 (by simp [h5])) ((h2 _).1 (by simp [h6]))) hS' (λa2 w2 hd2=>hQ a2 w2 (by rw [hd2,hdf]));rw [hR'];rw [hAB]at hlen;simp only [List.length_append,List.length_cons]at hlen ⊢;omega
theorem qCP{w0:World}{X0:Cx}{Md:Md}{n:Nat}{st:St}{tmps:Array Value}(hS:Sim w0 X0 Md n st tmps w):Sim w0 X0 Md n st tmps {w with drawn:=w.drawn+1}:=by
 obtain ⟨X,O,h,hF⟩:=hS;have heff:Eff w X {w with drawn:=w.drawn+1} X [] :=
  ⟨Nat.le_refl _,λ_ _ _=>rfl,λ_ _ _=>rfl,by simp,rfl,h.dom,rfl,rfl,rfl⟩
 have h1:=h.put (T:=[]) (Oin:=[]) (O':=[]) (z:=.undef) (v:=undef) none (by simp) heff (by simp [Rep]) Lin.nil (by simp) (by simp [V.qq]);have hF1:=Fr.put (z:=.undef) h hF (T:=[]) (Oin:=[]) (O':=[]) none (by simp) heff (by simp);exact ⟨X,_,h1,hF1⟩
theorem qhs(n:Nat):((List.range n).filter λk=>!(Array.replicate n false).getD k true)=List.range n:=by
 refine List.filter_eq_self.2 λk hk=>?_;have:=List.mem_range.1 hk;simp [Array.getD,this]
theorem qAP(hC:OrcOk P C)(hm:P.follows .mixedOrders=true){F:Fence}(hFF:F=Fence.wide\/∃l,F=Fence.wide.inRound l){w0:World}{X0:Cx}{Md:Md}{n:Nat}{bid id:Nat}{ops:Array Oper}{draw:Bool}{st st':St}{e:Ex}{a:Act}(hS:Sim w0 X0 Md n st a.tmps w)
  {st0:St} (hcl:st0.clear (H.pre f id)=some st) (hnt:qij H ops draw=none) (hls:qxU H f ops=false) (hx:ex P H C f bid (.region id ops draw) st0=some (e,st')):(Code.region id ops draw).wpIn F 0 P (λe' a' w'=>e'=e.qve/\a'.defers=a.defers/\Sim w0 X0 Md n st' a'.tmps w') a w:=by
 simp only [ex,hcl,hnt,hls,qf,if_false]at hx;cases draw with
 |false =>
  simp only [qf,if_false]at hx;obtain ⟨s,h1,h2⟩:=qc.1 hx;simp only [Prod.mk.injEq]at h2;obtain ⟨rfl,rfl⟩:=h2;obtain ⟨fps,h3⟩:=qcP _ _ _ h1;exact wpIn_region (qDB hC hFF _ st s fps a w hS h3 λa' w' hd hS'=>⟨rfl,hd,hS'⟩)
 |true =>
  simp only [if_true]at hx;split at hx
  ·rename_i hreg;have key:∀fps,qgD P H C f ops (List.range ops.size) st=some (st',fps)->(∀i j fi fj,(i,j)∈H.pairs f id->(i,fi)∈fps->(j,fj)∈fps->fi.qgx fj=false)->e=.normal ->
     (Code.region id ops true).wpIn F 0 P (λe' a' w'=>e'=e.qve/\a'.defers=a.defers/\Sim w0 X0 Md n st' a'.tmps w') a w:=λfps h3 hc he=>by
    subst he;refine wpIn_region_any hm (qyA hC hFF hreg ops.size _ st st' fps a _ (by simp) (λk o ho hk=>?_) (by rw [qhs];simp) (by rw [qhs];exact h3) hc (qCP hS) λa' w' hd hS'=>⟨rfl,hd,hS'⟩);have:=(Array.getElem?_eq_some_iff.1 ho).1;simp [Array.getD,this]at hk
   split at hx
   ·rename_i hU;obtain ⟨s,h1,h2⟩:=qc.1 hx;simp only [Prod.mk.injEq]at h2;obtain ⟨rfl,rfl⟩:=h2;obtain ⟨fps,h3⟩:=qcP _ _ _ h1;exact key fps h3 (by rw [hU];simp) rfl
   ·split at hx
    ·rename_i s fps h3;split at hx
     ·rename_i hc;simp only [qb,Prod.mk.injEq]at hx;obtain ⟨rfl,rfl⟩:=hx;exact key fps h3 (qoY hc) rfl
     ·cases hx
    ·cases hx
  ·cases hx
end
section
variable {P:Program} {H:Hints} {f:FuncId} {C:Orc} {w:World} {X:Cx}
def quW(O:Pl->List Nat)(r0:Root)(Oc:List Nat):Pl->List Nat:=λp=>if p=.box r0 then Oc else O p
theorem Rel.qy9{st:St}{tmps:Array Value}{O:Pl->List Nat}(h:Rel st tmps w X O){d:Nat}{c:List V}{o:Obj}(hnb:qw st.B d=none)
  (hc:qp5 (w.alloc o) (X.setβ ⟨st.L.length,d⟩ w.heap.size) w.heap.size c []) (hp:∀r∈ptrsL c,(st.box r).isSome=true) :
  Rel {st with B:=(d,c)::st.B} tmps (w.alloc o) (X.setβ ⟨st.L.length,d⟩ w.heap.size) (quW O ⟨st.L.length,d⟩ []):=by
 have hr0:st.box ⟨st.L.length,d⟩=none:=by simp [St.box,hnb]
 have hold:∀k,k<w.heap.size->(w.alloc o).heap[k]?=w.heap[k]?:=λk hk=>heap_alloc_old w _ hk;have hnotin:∀l:List Root,(∀r∈l,(st.box r).isSome=true)->(⟨st.L.length,d⟩:Root)∉l:=λl hl hm=>by have:=hl _ hm;rw [hr0]at this;simp at this
 have hext:∀{x:V} {u:Value} {A:List Nat},(∀r∈x.qq,(st.box r).isSome=true)->Rep w X x u A->Rep (w.alloc o) (X.setβ ⟨st.L.length,d⟩ w.heap.size) x u A:=λhx hr =>
  Rep.ext (ext_setβ (hnotin _ hx) h.dom hold) _ _ _ (λ_ h=>h) (by simp) hr
 have hextL:∀{l:List V} {us:List Value} {A:List Nat},(∀r∈ptrsL l,(st.box r).isSome=true)->RepL w X l us A->RepL (w.alloc o) (X.setβ ⟨st.L.length,d⟩ w.heap.size) l us A:=λhx hr =>
  RepL.ext (ext_setβ (hnotin _ hx) h.dom hold) _ _ _ (λ_ h=>h) (by simp) hr
 have hbox:∀r,({st with B:=(d,c)::st.B}:St).box r=if r=⟨st.L.length,d⟩then some c else st.box r:=λr=>qnu st d c r;have hlive:∀r,(st.box r).isSome=true->(({st with B:=(d,c)::st.B}:St).box r).isSome=true:=λr hr=>by
  rw [hbox];split
  ·rfl
  ·exact hr
 refine {size:=h.size,env:=?_,envD:=?_,box:=?_,boxD:=?_,inj:=?_,lin:=?_,dis:=?_,ptrE:=λr hr=>hlive r (h.ptrE r hr),ptrB:=?_,up:=?_,dom:=?_}
 ·intro s x hx;obtain ⟨v,hv,hr⟩:=h.env s x hx;refine ⟨v,hv,?_⟩;have e:quW O ⟨st.L.length,d⟩ [] (.tmp s)=O (.tmp s):=by simp [quW]
  rw [e];exact hext (λr hr=>h.ptrE r (qC.2 ⟨x,List.mem_of_getElem? hx,hr⟩)) hr
 ·intro s hs;simpa [quW]using h.envD s hs
 ·intro r c1 hr;rw [hbox]at hr;by_cases e:r=⟨st.L.length,d⟩
  ·subst e;rw [if_pos rfl]at hr;cases hr;refine ⟨w.heap.size,by simp [Cx.setβ],by simp,?_,?_⟩
   ·cases hω:(X.setβ ⟨st.L.length,d⟩ w.heap.size).ω w.heap.size with
    |none=>rfl
    |some p=>have:=h.dom w.heap.size p.1 p.2 hω;omega
   ·rw [show quW O ⟨st.L.length,d⟩ [] (.box ⟨st.L.length,d⟩)=[]from by simp [quW]];exact hc
  ·rw [if_neg e]at hr;obtain ⟨k,hkb,hlt,hω,hbx⟩:=h.box r c1 hr;refine ⟨k,by simp [Cx.setβ,e,hkb],by simp;omega,hω,?_⟩;rw [show quW O ⟨st.L.length,d⟩ [] (.box r)=O (.box r)from by simp [quW,e]];exact hbx.qpV (hold k hlt) (λl vals A hl _ hr'=>hextL (λr' hr'=>h.ptrB r c1 hr r' (hl r' hr')) hr')
 ·intro r hr;rw [hbox]at hr;split at hr
  ·cases hr
  ·rename_i e;simp [quW,e,h.boxD r hr]
 ·intro r r' k h1 h2 h3 h4;rw [hbox]at h1 h2;simp only [Cx.setβ]at h3 h4;have hltk:∀r'',(st.box r'').isSome=true->X.β r''=some k->k<w.heap.size:=λr'' hs hb=>by
   obtain ⟨c'',hc''⟩:=Option.isSome_iff_exists.1 hs;obtain ⟨k',hk',hlt',_⟩:=h.box r'' c'' hc'';rw [hb]at hk';cases hk';exact hlt'
  split at h3
  ·rename_i e1;split at h4
   ·rename_i e2;rw [e1,e2]
   ·rename_i e2;rw [if_neg e2]at h2;cases h3;have:=hltk r' h2 h4;omega
  ·rename_i e1;rw [if_neg e1]at h1;split at h4
   ·cases h4;have:=hltk r h1 h3;omega
   ·rename_i e2;rw [if_neg e2]at h2;exact h.inj r r' k h1 h2 h3 h4
 ·intro p;unfold quW;split
  ·exact Lin.nil
  ·exact h.lin p
 ·intro p q hpq k hkp hkq;unfold quW at hkp hkq;split at hkp
  ·simp at hkp
  ·split at hkq
   ·simp at hkq
   ·exact h.dis p q hpq k hkp hkq
 ·intro r c1 hr r' hr';rw [hbox]at hr;split at hr
  ·cases hr;exact hlive r' (hp r' hr')
  ·exact hlive r' (h.ptrB r c1 hr r' hr')
 ·intro r c1 hr r' hr';rw [hbox]at hr;split at hr
  ·rename_i e;cases hr;subst e;have:=qs1 (hp r' hr');simp only<;>omega
  ·exact h.up r c1 hr r' hr'
 ·intro k e fz hk;have:=h.dom k e fz hk;simp<;>omega
theorem Fr.qy9{w0:World}{X0:Cx}{M:Md}{n:Nat}{st:St}{tmps:Array Value}{O:Pl->List Nat}(h:Rel st tmps w X O)(hF:Fr w0 X0 M n st w X O){d:Nat}{c:List V}{o:Obj}(hnb:qw st.B d=none) :
  Fr w0 X0 M n {st with B:=(d,c)::st.B} (w.alloc o) (X.setβ ⟨st.L.length,d⟩ w.heap.size) (quW O ⟨st.L.length,d⟩ []) where
 size:=by have:=hF.size;simp<;>omega
 kept:=λb hb hM=>by
  obtain ⟨h1,h2⟩:=hF.kept b hb hM;exact ⟨by rw [heap_alloc_old w _ (Nat.lt_of_lt_of_le hb hF.size),h1],h2⟩
 grew:=λb e fz hω=>by
  obtain ⟨e1,fz1,h1,h2,h3,h4⟩:=hF.grew b e fz hω;exact ⟨e1,fz1,h1,h2,h3,λi v hi hc=>by rw [cell_of_heap (heap_alloc_old w _ (h.dom b e1 fz1 h1))];exact h4 i v hi hc⟩
 β:=λr hr=>by
  have hl:=hF.lev;simp only [Cx.setβ];rw [if_neg (λe=>by rw [e]at hr;simp at hr;omega)];exact hF.β r hr
 own:=λp b hb=>by
  unfold quW at hb;split at hb
  ·simp at hb
  ·exact hF.own p b hb
 boxM:=λr b hr hb=>by
  rw [show ({st with B:=(d,c)::st.B}:St).box r=if r=⟨st.L.length,d⟩then some c else st.box r from qnu st d c r]at hr;simp only [Cx.setβ]at hb;split at hb
  ·cases hb;exact .inl hF.size
  ·rename_i e;rw [if_neg e]at hr;exact hF.boxM r b hr hb
 lev:=hF.lev
 live:=λr hr=>by
  have hl:=hF.lev;rw [show ({st with B:=(d,c)::st.B}:St).box r=if r=⟨st.L.length,d⟩then some c else st.box r from qnu st d c r,if_neg (λe=>by rw [e]at hr;simp at hr;omega)];exact hF.live r hr
 os:=hF.os
 out:=hF.out
 tape:=hF.tape
 gl:=hF.gl
 gm:=hF.gm
theorem qaz(D:List Tmp)(s:Nat):∀B:Level,qw (qS D B) s=if D.contains s then none else qw B s
 |[]=>by simp [qS,qw]
 |(k,c)::B=>by
  simp only [qS,qw];by_cases hk:D.contains k=true
  ·rw [if_pos hk,qaz D s B];by_cases hs:D.contains s=true
   ·rw [if_pos hs,if_pos hs]
   ·rw [if_neg hs,if_neg hs,if_neg (λe=>hs (by rw [<- e];exact hk))]
  ·rw [if_neg hk];simp only [qw,qaz D s B];by_cases hks:k=s
   ·subst hks;rw [if_pos rfl,if_neg hk,if_pos rfl]
   ·rw [if_neg hks,if_neg hks]
theorem qAm{B:Level}{r:Root}{s:Nat}{c:List V}(hl:qw B s=some c)(hr:r∈ptrsL c):r∈qnl B:=by
 induction B with
 |nil=>simp [qw]at hl
 |cons p B ih =>
  obtain ⟨k,d⟩:=p;simp only [qw]at hl;simp only [qnl,qj];split at hl
  ·cases hl;exact .inl hr
  ·exact .inr (ih hl)
def qs6(O:Pl->List Nat)(lvl:Nat)(D:List Tmp):Pl->List Nat
 |.tmp t=>O (.tmp t)
 |.box r=>if r.lvl=lvl/\D.contains r.slot=true then []else O (.box r)
theorem qBH(st:St)(D:List Tmp)(r:Root):({st with B:=qS D st.B}:St).box r=if r.lvl=st.L.length/\D.contains r.slot=true then none else st.box r:=by
 unfold St.box;by_cases h:r.lvl=st.L.length
 ·simp only [h,if_true,true_and,qaz]
 ·simp only [h,if_false,false_and]
theorem qqe{w0:World}{X0:Cx}{M:Md}{n:Nat}{st:St}{tmps:Array Value}{O:Pl->List Nat}(h:Rel st tmps w X O)(hF:Fr w0 X0 M n st w X O){D:List Tmp}
  (hE:qdk st.L.length D (ptrsL st.E)=true) (hB:qdk st.L.length D (qnl (qS D st.B))=true) :
  Rel {st with B:=qS D st.B} tmps w X (qs6 O st.L.length D)/\Fr w0 X0 M n {st with B:=qS D st.B} w X (qs6 O st.L.length D):=by
 have hbox:=qBH st D;have hsome:∀r c,({st with B:=qS D st.B}:St).box r=some c->¬ (r.lvl=st.L.length/\D.contains r.slot=true)/\st.box r=some c:=λr c hr=>by
  rw [hbox]at hr;split at hr
  ·cases hr
  ·rename_i hn;exact ⟨hn,hr⟩
 have hsub:∀p k,k∈qs6 O st.L.length D p->k∈O p:=λp k hk=>by
  cases p with
  |tmp t=>exact hk
  |box r =>
   simp only [qs6]at hk;split at hk
   ·simp at hk
   ·exact hk
 have hok:∀r,qdk st.L.length D [r]=true->(st.box r).isSome=true->(({st with B:=qS D st.B}:St).box r).isSome=true:=λr hr hs=>by
  rw [hbox,if_neg]
  ·exact hs
  ·rintro ⟨h1,h2⟩;simp only [qdk,List.all_cons,List.all_nil,Bool.and_true,h1,bne_self_eq_false,h2,Bool.false_or,Bool.not_true]at hr;cases hr
 have hall:∀rs r,qdk st.L.length D rs=true->r∈rs->qdk st.L.length D [r]=true:=λrs r hrs hr=>by
  have:=List.all_eq_true.1 hrs r hr;simp only [qdk,List.all_cons,List.all_nil,Bool.and_true];exact this
 constructor
 ·refine {size:=h.size,env:=h.env,envD:=h.envD,box:=?_,boxD:=?_,inj:=?_,lin:=?_,dis:=?_,ptrE:=?_,ptrB:=?_,up:=?_,dom:=h.dom}
  ·intro r c hr;obtain ⟨h1,h2⟩:=hsome r c hr;simpa only [qs6,if_neg h1]using h.box r c h2
  ·intro r hr;rw [hbox]at hr;simp only [qs6];split
   ·rfl
   ·rename_i hn;rw [if_neg hn]at hr;exact h.boxD r hr
  ·intro r r' b h1 h2;obtain ⟨c,hc⟩:=Option.isSome_iff_exists.1 h1;obtain ⟨c',hc'⟩:=Option.isSome_iff_exists.1 h2;exact h.inj r r' b (by simp [(hsome r c hc).2]) (by simp [(hsome r' c' hc').2])
  ·intro p;cases p with
   |tmp t=>exact h.lin _
   |box r =>
    simp only [qs6];split
    ·exact Lin.nil
    ·exact h.lin _
  ·exact λp q hpq k hkp hkq=>h.dis p q hpq k (hsub p k hkp) (hsub q k hkq)
  ·exact λr hr=>hok r (hall _ r hE hr) (h.ptrE r hr)
  ·intro r c hr r' hr';obtain ⟨h1,h2⟩:=hsome r c hr;have h3:=h.ptrB r c h2 r' hr';by_cases hl:r.lvl=st.L.length
   ·refine hok r' (hall _ r' hB ?_) h3;rw [hbox,if_neg h1]at hr;have hlk:qw (qS D st.B) r.slot=some c:=by
     rw [qaz,if_neg (λe=>h1 ⟨hl,e⟩)];unfold St.box at hr;rw [if_pos hl]at hr;exact hr
    exact qAm hlk hr'
   ·have h4:=h.up r c h2 r' hr';have h5:=qs1 (st:=st) (r:=r) (by simp [h2]);rw [hbox,if_neg (λe=>by omega)];exact h3
  ·intro r c hr;exact h.up r c (hsome r c hr).2
 ·exact {
   size:=hF.size
   kept:=hF.kept
   grew:=hF.grew
   β:=hF.β
   own:=λp b hb=>hF.own p b (hsub p b hb)
   boxM:=λr b hr hb=>by
    obtain ⟨c,hc⟩:=Option.isSome_iff_exists.1 hr;exact hF.boxM r b (by simp [(hsome r c hc).2]) hb
   lev:=hF.lev
   live:=λr hr=>by
    have:=hF.lev;rw [hbox,if_neg (λe=>by omega)];exact hF.live r hr
   os:=hF.os
   out:=hF.out
   tape:=hF.tape
   gl:=hF.gl
   gm:=hF.gm}
def qov:Option V->Bool
 |some .undef=>true
 |_=>false
theorem qvq{x:Option V}:qov x=true↔x=some .undef:=by
 constructor
 ·intro h;unfold qov at h;split at h
  ·rfl
  ·cases h
 ·rintro rfl;rfl
def qhB(O:Pl->List Nat)(E':List V):Pl->List Nat
 |.tmp t=>if qov E'[t]?=true then []else O (.tmp t)
 |.box r=>O (.box r)
theorem forget{w0:World}{X0:Cx}{M:Md}{n:Nat}{st:St}{tmps:Array Value}{O:Pl->List Nat}(h:Rel st tmps w X O)(hF:Fr w0 X0 M n st w X O){E':List V}(hlen:E'.length=st.E.length)(hE:∀t:Nat,E'[t]?=st.E[t]?\/E'[t]?=some .undef) :
  Rel {st with E:=E'} tmps w X (qhB O E')/\Fr w0 X0 M n {st with E:=E'} w X (qhB O E'):=by
 have hsub:∀p k,k∈qhB O E' p->k∈O p:=λp k hk=>by
  cases p with
  |tmp t =>
   simp only [qhB]at hk;split at hk
   ·simp at hk
   ·exact hk
  |box r=>exact hk
 constructor
 ·refine {size:=by rw [hlen];exact h.size,env:=?_,envD:=?_,box:=h.box,boxD:=h.boxD,inj:=h.inj,lin:=?_,dis:=λp q hpq k hkp hkq=>h.dis p q hpq k (hsub p k hkp) (hsub q k hkq),ptrE:=?_,ptrB:=h.ptrB,up:=h.up,dom:=h.dom}
  ·intro t x hx;have hx':E'[t]?=some x:=hx;have hlt:t<tmps.size:=by rw [h.size,<- hlen];exact (qm.1 hx').1
   by_cases hu:x=.undef
   ·subst hu;refine ⟨tmps[t],Array.getElem?_eq_getElem hlt,?_⟩;simp only [qhB,hx',qov,if_true,Rep]
   ·have h1:st.E[t]?=some x:=by
     rcases hE t with h1|h1
     ·rw [<- h1];exact hx'
     ·rw [hx']at h1;exact absurd (Option.some.inj h1) hu
    have h2:¬ qov E'[t]?=true:=λe=>by rw [qvq,hx']at e;exact hu (Option.some.inj e)
    simpa only [qhB,if_neg h2]using h.env t x h1
  ·intro t ht;simp only [qhB];split
   ·rfl
   ·exact h.envD t (by rw [<- hlen];exact ht)
  ·intro p;cases p with
   |tmp t =>
    simp only [qhB];split
    ·exact Lin.nil
    ·exact h.lin _
   |box r=>exact h.lin _
  ·intro r hr;obtain ⟨x,hx,hr⟩:=qC.1 hr;obtain ⟨t,ht,hx⟩:=List.mem_iff_getElem.1 hx;have hx':E'[t]?=some x:=by rw [List.getElem?_eq_getElem ht,hx]
   rcases hE t with h1|h1
   ·exact h.ptrE r (qC.2 ⟨x,List.mem_of_getElem? (by rw [<- h1];exact hx'),hr⟩)
   ·rw [hx']at h1;cases h1;simp [V.qq]at hr
 ·exact {gl:=hF.gl,gm:=hF.gm,size:=hF.size,kept:=hF.kept,grew:=hF.grew,β:=hF.β,own:=λp b hb=>hF.own p b (hsub p b hb),boxM:=hF.boxM,lev:=hF.lev,live:=hF.live,os:=hF.os,out:=hF.out,tape:=hF.tape}
theorem qn6:∀(D:List Tmp) (E:List V),(qeb D E).length=E.length/\∀t:Nat,(qeb D E)[t]?=E[t]?\/(qeb D E)[t]?=some .undef
 |[],E=>⟨rfl,λ_=>.inl rfl⟩
 |d::D,E=>by
  obtain ⟨h1,h2⟩:=qn6 D (E.set d .undef);have e:qeb (d::D) E=qeb D (E.set d .undef):=rfl;rw [e];refine ⟨by rw [h1];simp,λt=>?_⟩;rcases h2 t with h3|h3
  ·rw [h3,List.getElem?_set];by_cases hdt:d=t
   ·subst hdt;by_cases hlt:d<E.length
    ·simp [hlt]
    ·simp [hlt]
   ·simp [hdt]
  ·exact .inr h3
theorem qgy(D:List Tmp):∀B:Level,(qS D B).length<=B.length/\((qS D B).length=B.length->qS D B=B)
 |[]=>⟨Nat.le_refl _,λ_=>rfl⟩
 |(k,c)::B=>by
  obtain ⟨h1,h2⟩:=qgy D B;simp only [qS];split
  ·exact ⟨by simp;omega,λh=>by simp at h;omega⟩
  ·exact ⟨by simpa using h1,λh=>by rw [h2 (by simpa using h)]⟩
theorem qiq{w0:World}{X0:Cx}{M:Md}{n:Nat}{st st':St}{D:List Tmp}{a:Act}(hS:qls w0 X0 M n st a w)(hx:st.clear D=some st'):qls w0 X0 M n st' a w:=by
 obtain ⟨X,O,h,hF,hM⟩:=hS;unfold St.clear at hx;simp only at hx;obtain ⟨hl,hE⟩:=qn6 D st.E;obtain ⟨h1,hF1⟩:=forget h hF hl hE;split at hx
 ·rename_i hc;cases hx;by_cases hs:(qS D st.B).length=st.B.length
  ·rw [(qgy D st.B).2 hs];exact ⟨X,_,h1,hF1,hM⟩
  ·rcases hc with hc|hc
   ·exact absurd hc hs
   ·simp only [qe]at hc;obtain ⟨h2,hF2⟩:=qqe h1 hF1 (D:=D) hc.1 hc.2;exact ⟨X,_,h2,hF2,hM⟩
 ·cases hx
theorem qCF{st:St}{tmps:Array Value}{O:Pl->List Nat}(h:Rel st tmps w X O):RepL w X (st.E.map V.q6) tmps.toList []:=by
 have key:∀(E:List V) (vs:List Value),E.length=vs.length->(∀(t:Nat) x,E[t]?=some x->∃v A,vs[t]?=some v/\Rep w X x v A)->RepL w X (E.map V.q6) vs []:=by
  intro E;induction E with
  |nil=>intro vs hl _;simp only [List.map_nil,RepL];exact ⟨List.eq_nil_of_length_eq_zero (by simpa using hl.symm),trivial⟩
  |cons x E ih =>
   intro vs hl hv;cases vs with
   |nil=>simp at hl
   |cons v vs =>
    simp only [qh,RepL];obtain ⟨v',A,h1,h2⟩:=hv 0 x rfl;simp only [List.getElem?_cons_zero,qb]at h1;subst h1;exact ⟨v,vs,[],[],rfl,rfl,qgW h2,ih vs (by simpa using hl) λt y hy=>by simpa using hv (t+1) y (by simpa using hy)⟩
 refine key st.E tmps.toList (by simpa using h.size.symm) λt x hx=>?_;obtain ⟨v,hv,hr⟩:=h.env t x hx;exact ⟨v,_,by simpa using hv,hr⟩
theorem qqK{E:List V}{r:Root}(h:r∈ptrsL (E.map V.q6)):r∈ptrsL E:=by
 rw [show E.map V.q6=reflagL qV E from (qB _ _).symm,ptrsL_reflag]at h;exact h
theorem qqP{st:St}{a:Act}{O:Pl->List Nat}(h:Rel st a.tmps w X O)(x:Operand):Rep w X (rd H f default st.E x) (a.eval x) []:=by
 have htk:qab H f (default:Oper)=false:=by rfl
 obtain ⟨Oin,hrep,hs,_⟩:=qce (H:=H) (f:=f) h default [x] (λht=>by rw [htk]at ht;cases ht);have:Oin=[]:=by
  cases Oin with
  |nil=>rfl
  |cons b l=>have:=(hs b (by simp)).1;rw [htk]at this;cases this
 subst this;simp only [qh,List.map_nil,RepL]at hrep;obtain ⟨u,vs,O1,O2,hu,hO,h1,_⟩:=hrep;simp only [List.nil_eq,List.append_eq_nil_iff]at hO;simp only [List.cons.injEq]at hu;rw [hu.1];rw [hO.1]at h1;exact h1
end
section
variable {P:Program} {H:Hints} {f:FuncId} {C:Orc} {w:World} {X:Cx}
theorem FOk.qBP{F:Fence}{X0:Cx}{Md:Md}{n:Nat}(h:FOk F X0 Md n):F=Fence.wide\/∃l,F=Fence.wide.inRound l:=by
 rcases h.1 with h|⟨r,l,h,_⟩
 ·exact .inl h
 ·exact .inr ⟨l,h⟩
theorem qwm{g:FuncId}{args:List V}{st s:St}{z:V}(h:qf1 C g args st=some (z,s)):s.E=st.E:=by
 unfold qf1 at h;split at h
 ·split at h
  ·cases h;rfl
  ·cases h
 split at h
 ·split at h
  ·split at h
   ·split at h
    ·split at h
     ·cases h;rfl
     ·cases h
    ·cases h
   ·cases h
  ·cases h
 ·split at h
  ·split at h
   ·split at h
    ·cases h;rfl
    ·cases h
   ·cases h
  ·cases h
theorem qub{bx:Root->Option (List V)}{x:V}(hx:peekV bx x=none):∀l:List V,x∈l->peekL bx l=none
 |[],h=>by simp at h
 |y::l,h=>by
  simp only [peekL];rcases qk.1 h with rfl|h
  ·rw [hx]
  ·rw [qub hx l h];split<;>simp_all
theorem qAG{bx:Root->Option (List V)}{r:Root}(first cap:List V):peekL bx (first++[.yld r]++cap)=none :=
 qub (x:=.yld r) (by simp [peekV]) _ (by simp)
theorem qBM{F:Fence}{w0:World}{X0:Cx}{Md:Md}{n:Nat}{st:St}{a:Act}(hF:FOk F X0 Md n)(hS:qls w0 X0 Md n st a w)(fn:FuncId){ps:Array Tmp}{t:Tmp}{ts:List Tmp}(hps:ps.toList=t::ts){asz bo:Code}(hnb:qw st.B t=none) :
  ∃l mark w1 X1 O1,(Instr.enterLoop fn a.tmps ps asz bo F.round).run P w=.ok (l,mark) w1/\Rel {st with B:=(t,[.lp .ready none f (st.E.map V.q6) (t::ts) asz bo])::st.B} a.tmps w1 X1 O1 /\
   Fr w0 X0 Md n {st with B:=(t,[.lp .ready none f (st.E.map V.q6) (t::ts) asz bo])::st.B} w1 X1 O1/\qd7 w0 w1 X1 (mark++a.defers)/\X1.β ⟨st.L.length,t⟩=some l:=by
 obtain ⟨X,O,h,hFr,hM⟩:=hS
 have lay:∀(w':World) (O':Pl->List Nat) (df:Nat),Rel st a.tmps w' X O'->Fr w0 X0 Md n st w' X O' ->
   Rel {st with B:=(t,[.lp .ready none f (st.E.map V.q6) (t::ts) asz bo])::st.B} a.tmps (w'.alloc (.loop {state:=.ready,pending:=none,fn,tmps:=a.tmps,params:=ps,assign:=asz,body:=bo,defers:=df})) (X.setβ ⟨st.L.length,t⟩ w'.heap.size) (quW O' ⟨st.L.length,t⟩ []) /\
   Fr w0 X0 Md n {st with B:=(t,[.lp .ready none f (st.E.map V.q6) (t::ts) asz bo])::st.B} (w'.alloc (.loop {state:=.ready,pending:=none,fn,tmps:=a.tmps,params:=ps,assign:=asz,body:=bo,defers:=df})) (X.setβ ⟨st.L.length,t⟩ w'.heap.size) (quW O' ⟨st.L.length,t⟩ []):=by
  intro w' O' df h' hFr';have hptr:∀r∈ptrsL [V.lp .ready none f (st.E.map V.q6) (t::ts) asz bo],(st.box r).isSome=true:=λr hr=>by
   have:r∈ptrsL (st.E.map V.q6):=by simpa [ptrsL,V.qq]using hr
   exact h'.ptrE r (qqK this)
  refine ⟨h'.qy9 hnb (.inr (.inl ⟨.ready,none,f,st.E.map V.q6,t::ts,asz,bo,_,rfl,heap_alloc_new w' _,rfl,rfl,rfl,hps,rfl,rfl,?_,rfl⟩)) hptr,Fr.qy9 h' hFr' hnb⟩;refine RepL.ext (ext_setβ (R:=ptrsL (st.E.map V.q6)) (λhm=>?_) h'.dom (λk hk=>heap_alloc_old w' _ hk)) _ _ _ (λ_ h=>h) (by simp) (qCF h');have:=h'.ptrE _ (qqK hm);simp [St.box,hnb]at this
 have mk:∀(w':World) (D:List Deferred) (o:Obj),qd7 w0 w' X D->qd7 w0 (w'.alloc o) (X.setβ ⟨st.L.length,t⟩ w'.heap.size) D:=λw' D o hM' =>
  hM'.of λk hk _ _=>⟨heap_alloc_old w' _ (Array.getElem?_eq_some_iff.1 hk).1,rfl⟩
 rcases hF.1 with rfl|⟨r,l,rfl,hrl,hβ,hkd⟩
 ·-- outermost
  have heff:Eff w X (w.alloc (.deferred (some []))) X [] :=
   ⟨by simp,λb hb _=>heap_alloc_old w _ hb,λ_ _ _=>rfl,by simp,rfl,λb e fz hb=>by have:=h.dom b e fz hb;simp;omega,rfl,rfl,rfl⟩
  have h1:=h.put (T:=[]) (Oin:=[]) (O':=[]) (z:=.undef) (v:=undef) none (by simp) heff (by simp [Rep]) Lin.nil (by simp) (by simp [V.qq]);have hF1:=Fr.put (z:=.undef) h hFr (T:=[]) (Oin:=[]) (O':=[]) none (by simp) heff (by simp);change Rel st a.tmps _ X _ at h1
  change Fr w0 X0 Md n st _ X _ at hF1
  obtain ⟨h2,hF2⟩:=lay _ _ w.heap.size h1 hF1;refine ⟨_,_,_,_,_,run_enterLoop_outer fn a.tmps ps asz bo,h2,hF2,mk _ _ _ ?_,by simp [Cx.setβ]⟩;obtain ⟨ks,hD,hnd,hks⟩:=hM;refine ⟨w.heap.size::ks,by rw [hD];rfl,?_,λk hk=>?_⟩
  ·refine List.nodup_cons.2 ⟨λhm=>?_,hnd⟩;have:=(Array.getElem?_eq_some_iff.1 (hks _ hm).2.1).1;omega
  ·rcases qk.1 hk with rfl|hk
   ·refine ⟨hFr.size,heap_alloc_new w _,?_⟩;cases hω:X.ω w.heap.size with
    |none=>rfl
    |some p=>have:=h.dom w.heap.size p.1 p.2 hω;omega
   ·obtain ⟨h3,h4,h5⟩:=hks k hk;exact ⟨h3,by rw [heap_alloc_old w _ (Array.getElem?_eq_some_iff.1 h4).1];exact h4,h5⟩
 ·-- within a round
  have hb:X.β r=some l:=by rw [hFr.β r hrl,hβ]
  have hk:=hFr.live r hrl;rw [hkd]at hk;obtain ⟨c,hc,hlp⟩:=qc.1 hk;obtain ⟨b,hb',_,_,hbx⟩:=h.box r c hc;rw [hb]at hb';cases hb';have hlo:∃lo,w.heap[l]?=some (.loop lo):=by
   rcases hbx with ⟨cs,t,_,h2⟩|⟨s,pe,g,env,ps,asg,body,lo,_,h1,_⟩|⟨es,ents,ck,rfl,_⟩
   ·rw [qlN h2]at hlp;cases hlp
   ·exact ⟨lo,h1⟩
   ·cases hlp
  obtain ⟨lo,hlo⟩:=hlo;obtain ⟨h2,hF2⟩:=lay w O lo.defers h hFr;exact ⟨_,_,_,_,_,run_enterLoop_inner hlo fn a.tmps ps asz bo,h2,hF2,mk _ _ _ hM,by simp [Cx.setβ]⟩
theorem qug(hC:OrcOk P C){bid:Nat}{g:Operand}{ps:Array Tmp}{asz bo:Code}{st st':St}{e:Ex}(hx:ex P H C f bid (.rangeFunc g ps asz bo) st=some (e,st')):qy5 P (.rangeFunc g ps asz bo) st e st':=by
 intro F w0 X0 Md n a w hFO hS;show (Code.rangeFunc g ps asz bo).wpIn F 0 P _ a w;simp only [ex]at hx;split at hx
 ·rename_i h first cap t ts hfv hps;split at hx
  ·rename_i hnb;have hnb:qw st.B t=none:=by simpa using hnb
   split at hx
   ·rename_i z s hcall;split at hx
    ·rename_i hok;refine wpIn_rangeFunc λfn hfn=>?_;obtain ⟨l,mark,w1,X1,O1,hent,hR1,hF1,hM1,hβ1⟩:=qBM (P:=P) (f:=f) hFO hS fn hps (asz:=asz) (bo:=bo) hnb;obtain ⟨X,O,hR,hFr,_⟩:=hS
     have hg:=qqP (H:=H) (f:=f) hR1 g;have hE1:({st with B:=(t,[.lp .ready none f (st.E.map V.q6) (t::ts) asz bo])::st.B}:St).E=st.E:=rfl;rw [hE1,hfv]at hg;simp only [Rep]at hg;obtain ⟨va,vc,A1,A2,hgv,hA,ha1,ha2⟩:=hg;simp only [List.nil_eq,List.append_eq_nil_iff]at hA;obtain ⟨rfl,rfl⟩:=hA
     obtain ⟨Md2,hF3,_,lift⟩:=qAM (df:=mark++a.defers) hR1 hF1 hM1;have hlen:st.L.length=n:=hFr.lev;have hr0:st.box ⟨st.L.length,t⟩=none:=by simp [St.box,hnb]
     have hyl:({st with B:=(t,[.lp .ready none f (st.E.map V.q6) (t::ts) asz bo])::st.B}:St).box ⟨st.L.length,t⟩=some [.lp .ready none f (st.E.map V.q6) (t::ts) asz bo]:=by
      rw [qnu,if_pos rfl]
     have hargs:RepL w1 X1 (first++[.yld ⟨st.L.length,t⟩]++cap) (va++[.func (.yield l) #[] #[]]++vc) []:=by
      have h2:RepL w1 X1 [.yld ⟨st.L.length,t⟩] [.func (.yield l) #[] #[]] []:=by
       simp only [RepL,Rep];exact ⟨_,_,[],[],rfl,rfl,⟨rfl,l,hβ1,rfl⟩,rfl,rfl⟩
      exact qaB (qaB ha1 h2) ha2
     have hcall':qf1 C h (first++[.yld ⟨st.L.length,t⟩]++cap) {st with B:=(t,[.lp .ready none f (st.E.map V.q6) (t::ts) asz bo])::st.B}=some (z,s):=hcall;have hdoes:=qzr (d:=none) hC.call hR1 hF3 (T:=[]) rfl hargs (by simp) Lin.nil (λq hq=>by
      rw [qal,qal]at hq;simp only [qj]at hq;have hin:∀q,q∈(rd H f default st.E g).qq->(({st with B:=(t,[.lp .ready none f (st.E.map V.q6) (t::ts) asz bo])::st.B}:St).box q).isSome=true:=λq hq=>hR1.ptrE q (qph (E:=st.E) hq);rcases hq with (hq|hq)|hq
      ·exact hin q (by rw [hfv];simp [V.qq,hq])
      ·simp only [ptrsL,V.qq,List.append_nil,List.mem_singleton]at hq;subst hq;rw [hyl];rfl
      ·exact hin q (by rw [hfv];simp [V.qq,hq])) hcall'
     rcases hdoes with ⟨hent2,hcalls⟩|⟨hno,_⟩
     ·have hres:(resolve a.eval (rangeCall g l) 0).run P w1=.ok {target:=.fn (.func h) vc.toArray,args:=va.toArray++#[.func (.yield l) #[] #[]]} w1:=by
       simp only [resolve,hgv,Deferred.ofValue,Sem.run_pure];congr 3
       simp [Act.eval]
      have harr:(va++[Value.func (.yield l) #[] #[]]++vc).toArray=va.toArray++#[Value.func (.yield l) #[] #[]]++vc.toArray:=by apply Array.ext';simp
      rw [harr]at hent2 hcalls;refine ⟨l,mark,w1,_,w1,h,_,w1,hent,hres,λ_ _=>qlH hFO.qBP _,hent2,λhd=>by rcases hFO.qBP with rfl|⟨l,rfl⟩<;>simp [Fence.wide,Fence.inRound]at hd,?_⟩;have hpost:CallsIn Fence.wide (0-1) P h (va.toArray++#[.func (.yield l) #[] #[]]++vc.toArray) w1 (rangePost F 0 P l (λe' a' w'=>e'=e.qve/\qls w0 X0 Md n st' a' w') {a with defers:=mark++a.defers}):=by
       refine callsIn_wide.2 (hcalls.mono ?_);rintro e1 w3 ⟨v,rfl,X4,O4,hR4,hF4,hβ4⟩;change Rel s a.tmps w3 X4 O4 at hR4
       change Fr w1 X1 Md2 n s w3 X4 O4 at hF4
       have hsE:s.E=st.E:=(qwm hcall' :)
       have hsL:s.L.length=st.L.length:=by rw [hF4.lev,hlen]
       have hb4:X4.β ⟨st.L.length,t⟩=some l:=by rw [hβ4 _ (Nat.le_refl _),hβ1]
       have key:∀s0 pe g0 env0 ps0 as0 bo0,qw s.B t=some [.lp s0 pe g0 env0 ps0 as0 bo0]->s0≠.busy ->
         ∃w4,(Instr.endLoop l).run P w3=.ok pe w4/\qls w0 X0 Md n {st with L:=s.L,B:=qS [t] s.B} {a with defers:=mark++a.defers} w4:=by
        intro s0 pe g0 env0 ps0 as0 bo0 hl0 hnbusy;have hbx:s.box ⟨st.L.length,t⟩=some [.lp s0 pe g0 env0 ps0 as0 bo0]:=by
         unfold St.box;rw [if_pos hsL.symm];exact hl0
        obtain ⟨lo,hw,hst0,hpe0,_,_,_,_,_,hset⟩:=qwW hR4 hF4 hbx hb4;obtain ⟨hR5,hF5⟩:=hset .exhausted pe;have hrun:=run_endLoop (P:=P) hw (by rw [hst0];exact hnbusy);have hs':s.qp ⟨st.L.length,t⟩ [.lp .exhausted pe g0 env0 ps0 as0 bo0]={s with B:=qeW s.B t [.lp .exhausted pe g0 env0 ps0 as0 bo0]}:=by
         unfold St.qp;rw [if_pos hsL.symm]
        rw [hs']at hR5 hF5;have hcl:∀(B:Level) c,qS [t] (qeW B t c)=qS [t] B:=by
         intro B c;induction B with
         |nil=>rfl
         |cons p B ih =>
          obtain ⟨k,d⟩:=p;simp only [qeW];by_cases hk:k=t
          ·subst hk;simp [qS]
          ·simp only [hk,if_false,qS,ih]
        obtain ⟨hR6,hF6⟩:=qqe hR5 hF5 (D:=[t]) (by
          show qdk s.L.length [t] (ptrsL s.E)=true;rw [hsE,hsL];refine List.all_eq_true.2 λr hr=>?_;have h1:=hR.ptrE r hr;by_cases h2:r.lvl=st.L.length
          ·have h3:r.slot≠t:=λe=>by
            have:r=⟨st.L.length,t⟩:=by cases r;simp_all
            rw [this,hr0]at h1;cases h1
           simp [h3]
          ·simp [h2]) (by
          show qdk s.L.length [t] (qnl (qS [t] (qeW s.B t _)))=true;rw [hcl,hsL];exact hok)
        refine ⟨_,by rw [hrun,hpe0],?_⟩;refine lift _ a.tmps _ ⟨X4,qs6 (quz O4 ⟨st.L.length,t⟩ []) s.L.length [t],?_⟩;have hfin:({st with L:=s.L,B:=qS [t] s.B}:St)={s with B:=qS [t] (qeW s.B t [.lp .exhausted pe g0 env0 ps0 as0 bo0])}:=by rw [hcl,<- hsE]
        rw [hfin];exact ⟨hR6,hF6⟩
       show ∃jump w4,(Instr.endLoop l).run P w3=.ok jump w4/\_;split at hx
       ·rename_i g0 env0 ps0 as0 bo0 hl0;simp only [qb,Prod.mk.injEq]at hx;obtain ⟨rfl,rfl⟩:=hx;obtain ⟨w4,h1,h2⟩:=key _ _ _ _ _ _ _ hl0 (by simp);exact ⟨none,w4,h1,rfl,h2⟩
       ·rename_i g0 env0 ps0 as0 bo0 hl0;simp only [qb,Prod.mk.injEq]at hx;obtain ⟨rfl,rfl⟩:=hx;obtain ⟨w4,h1,h2⟩:=key _ _ _ _ _ _ _ hl0 (by simp);exact ⟨some .ret,w4,h1,wpIn_ret ⟨rfl,h2⟩⟩
       ·rename_i id g0 env0 ps0 as0 bo0 hl0;simp only [qb,Prod.mk.injEq]at hx;obtain ⟨rfl,rfl⟩:=hx;obtain ⟨w4,h1,h2⟩:=key _ _ _ _ _ _ _ hl0 (by simp);exact ⟨some (.exit id),w4,h1,wpIn_exit ⟨rfl,h2⟩⟩
       ·cases hx
      rcases hFO.qBP with rfl|⟨l',rfl⟩
      ·exact hpost
      ·exact hpost
     ·rcases hno with hno|hno
      ·rw [qal,qal]at hno;simp [ptrsL,V.qq]at hno
      ·have:=qAG (bx:=({st with B:=(t,[.lp .ready none f (st.E.map V.q6) (t::ts) asz bo])::st.B}:St).box) (r:=⟨st.L.length,t⟩) first cap;rw [this]at hno;cases hno
    ·cases hx
   ·cases hx
  ·cases hx
 ·cases hx
end
section
variable {P:Program} {w w':World} {X:Cx}
structure Wrote (w:World) (X:Cx) (w':World) (b:Nat):Prop where
 ω:∃e,X.ω b=some (e,false)
 kept:∀k,k≠b->w'.heap[k]?=w.heap[k]?
mutual
theorem Rep.other{b:Nat}(h:Wrote w X w' b):∀(x:V) (v:Value) (O:List Nat),x.soft=false->b∉O->Rep w X x v O->Rep w' X x v O
 |.undef,_,_,_,_,hr=>by simpa only [Rep]using hr
 |.val _,_,_,_,_,hr=>by simpa only [Rep]using hr
 |.ptr ..,_,_,_,_,hr=>by simpa only [Rep]using hr
 |.yld _,_,_,_,_,hr=>by simpa only [Rep]using hr
 |.mref _,_,_,_,_,hr=>by simpa only [Rep]using hr
 |.bsl ..,_,_,_,_,hr=>by simpa only [Rep]using hr
 |.room s n,v,O,hs,hb,hr=>by
  simp only [Rep]at hr ⊢;obtain ⟨b1,cap,hv,hn,hs0,rfl,hω,c,t,hc,hsz⟩:=hr;exact ⟨b1,cap,hv,hn,hs0,rfl,hω,c,t,by rw [h.kept b1 (λe=>hb (by simp [e]))];exact hc,hsz⟩
 |.cptr f cs,v,O,hs,hb,hr=>by
  simp only [V.soft,Bool.or_eq_false_iff,decide_eq_false_iff_not]at hs;obtain ⟨hs1,hs2⟩:=hs;simp only [Rep]at hr ⊢;obtain ⟨h0,b1,off,vals,hv,hsg,⟨e,fz,hω,hle,hsh⟩,hl,hno⟩:=hr;have hf:f=.shared:=by cases f<;>simp_all
  have hne:b1≠b:=λe'=>by
   obtain ⟨e0,hω0⟩:=h.ω;rw [e',hω0]at hω;cases hω;exact absurd (hsh hf) (by simp)
  refine ⟨h0,b1,off,vals,hv,λi u hi=>?_,⟨e,fz,hω,hle,hsh⟩,RepL.other h cs vals [] hs2 (by simp) hl,hno⟩;rw [cell_of_heap (h.kept b1 hne)];exact hsg i u hi
 |.sl f c l,v,O,hs,hb,hr=>by
  simp only [V.soft,Bool.or_eq_false_iff]at hs;obtain ⟨hs1,hs2⟩:=hs;simp only [Rep]at hr ⊢;obtain ⟨hnp,hr⟩:=hr;refine ⟨hnp,?_⟩;rcases hr with hr|⟨b1,off,cap,s,vals,O',hv,hcap,hc,hlen,hs0,hxs,hsg,hf,he,ho,ho'⟩
  ·exact .inl hr
  ·have hne:l≠[]\/f=.own->b1≠b:=by
    intro hor e;subst e;obtain ⟨e0,hω0⟩:=h.ω;obtain ⟨e1,fz,hω1,_,hm⟩:=hf;rw [hω0]at hω1;cases hω1;cases f with
    |own=>exact hb (by rw [ho rfl];simp)
    |shared=>cases hm
    |q6 =>
     rcases hor with hl|hl
     ·cases l with
      |nil=>exact hl rfl
      |cons a l=>simp at hs1
     ·cases hl
   refine .inr ⟨b1,off,cap,s,vals,O',hv,hcap,hc,hlen,hs0,hxs,?_,?_,RepE.other h s l vals O' hs2 ?_ he,ho,ho'⟩
   ·intro i u hi;cases l with
    |nil =>
     have:vals=[]:=List.eq_nil_of_length_eq_zero (by simpa using hlen);subst this;simp at hi
    |cons a l =>
     have:=hne (.inl (by simp));rw [cell_of_heap (h.kept b1 this)];exact hsg i u hi
   ·obtain ⟨e1,fz,hω1,hle,hm⟩:=hf;refine ⟨e1,fz,hω1,hle,?_⟩;cases f with
    |own =>
     obtain ⟨h1,h2,⟨c',t,h3,h4⟩,h5⟩:=hm;exact ⟨h1,h2,⟨c',t,by rw [h.kept b1 (hne (.inr rfl))];exact h3,h4⟩,h5⟩
    |q6=>trivial
    |shared=>exact hm
   ·intro hb';by_cases hown:f=.own
    ·exact hb (by rw [ho hown];simp [hb'])
    ·rw [(ho' hown).2]at hb';simp at hb'
 |.fn f a c,v,O,hs,hb,hr=>by
  simp only [V.soft,Bool.or_eq_false_iff]at hs;simp only [Rep]at hr ⊢;obtain ⟨va,vc,O1,O2,hv,rfl,h1,h2⟩:=hr;simp only [qj,not_or]at hb;exact ⟨va,vc,O1,O2,hv,rfl,RepL.other h a va O1 hs.1 hb.1 h1,RepL.other h c vc O2 hs.2 hb.2 h2⟩
 |.iface t x,v,O,hs,hb,hr=>by
  simp only [V.soft]at hs;simp only [Rep]at hr ⊢;obtain ⟨u,hv,h1⟩:=hr;exact ⟨u,hv,Rep.other h x u O hs hb h1⟩
 |.agg l,v,O,hs,hb,hr=>by
  simp only [V.soft]at hs;simp only [Rep]at hr ⊢;obtain ⟨vals,hv,h1⟩:=hr;exact ⟨vals,hv,RepL.other h l vals O hs hb h1⟩
 |.tuple l,v,O,hs,hb,hr=>by
  simp only [V.soft]at hs;simp only [Rep]at hr ⊢;obtain ⟨vals,hv,h1⟩:=hr;exact ⟨vals,hv,RepL.other h l vals O hs hb h1⟩
 |.lp ..,_,_,_,_,hr=>by simp only [Rep]at hr
 |.mp _,_,_,_,_,hr=>by simp only [Rep]at hr
theorem RepL.other{b:Nat}(h:Wrote w X w' b):∀(l:List V) (vals:List Value) (O:List Nat),softL l=false->b∉O->RepL w X l vals O->RepL w' X l vals O
 |[],_,_,_,_,hr=>by simpa only [RepL]using hr
 |x::l,vals,O,hs,hb,hr=>by
  simp only [softL,Bool.or_eq_false_iff]at hs;simp only [RepL]at hr ⊢;obtain ⟨u,vs,O1,O2,hv,rfl,h1,h2⟩:=hr;simp only [qj,not_or]at hb;exact ⟨u,vs,O1,O2,hv,rfl,Rep.other h x u O1 hs.1 hb.1 h1,RepL.other h l vs O2 hs.2 hb.2 h2⟩
theorem RepE.other{b:Nat}(h:Wrote w X w' b)(s:Nat):∀(l:List V) (vals:List Value) (O:List Nat),softL l=false->b∉O->RepE w X s l vals O->RepE w' X s l vals O
 |[],_,_,_,_,hr=>by simpa only [RepE]using hr
 |x::l,vals,O,hs,hb,hr=>by
  simp only [softL,Bool.or_eq_false_iff]at hs;simp only [RepE]at hr ⊢;obtain ⟨u,vs,O1,O2,hv,hsz,rfl,h1,h2⟩:=hr;simp only [qj,not_or]at hb;exact ⟨u,vs,O1,O2,hv,hsz,rfl,Rep.other h x u O1 hs.1 hb.1 h1,RepE.other h s l vs O2 hs.2 hb.2 h2⟩
end
theorem qli{l:List V}(h:softL l=false):∀x∈l,x.soft=false:=by
 induction l with
 |nil=>simp
 |cons a l ih =>
  simp only [softL,Bool.or_eq_false_iff]at h;intro x hx;rcases qk.1 hx with rfl|hx
  ·exact h.1
  ·exact ih h.2 x hx
theorem qCQ{l:List V}(h:∀x∈l,x.soft=false):softL l=false:=by
 induction l with
 |nil=>rfl
 |cons a l ih =>
  simp only [softL,Bool.or_eq_false_iff];exact ⟨h a (by simp),ih λx hx=>h x (by simp [hx])⟩
theorem RepE.hole{s:Nat}:∀{l:List V} {vals:List Value} {O:List Nat} (j:Nat) {e:V},RepE w X s l vals O->l[j]?=some e ->
  ∃u O1 Oe O2,O=O1++Oe++O2/\Rep w X e u Oe/\u.cells.size=s/\(∀i,i<s->vals[j*s+i]?=u.cells.toList[i]?)/\j*s+s<=vals.length /\
   ∀(w':World) (b:Nat) (e':V) (u':Value) (Oe':List Nat),Wrote w X w' b->b∉O1->b∉O2->softL (l.set j e')=false->Rep w' X e' u' Oe'->u'.cells.size=s ->
    ∃vals',RepE w' X s (l.set j e') vals' (O1++Oe'++O2)/\vals'.length=vals.length/\∀i,vals'[i]?=if j*s<=i/\i<j*s+s then u'.cells.toList[i-j*s]? else vals[i]?
 |[],vals,O,j,e,h,hj=>by simp at hj
 |y::l,vals,O,0,e,h,hj=>by
  simp only [RepE]at h;obtain ⟨u,vs,A,B,rfl,hsz,rfl,h1,h2⟩:=h;simp at hj;subst hj;have hl:u.cells.toList.length=s:=by simpa using hsz
  refine ⟨u,[],A,B,by simp,h1,hsz,λi hi=>?_,by simp [hsz],λw' b e' u' Oe' hw hb1 hb2 hs hr hsz'=>?_⟩
  ·rw [Nat.zero_mul,Nat.zero_add,qg (by omega)]
  ·simp only [List.set_cons_zero,softL,Bool.or_eq_false_iff]at hs;have hl':u'.cells.toList.length=s:=by simpa using hsz'
   refine ⟨u'.cells.toList++vs,?_,by simp [hsz,hsz'],λi=>?_⟩
   ·simp only [List.set_cons_zero,RepE,List.nil_append];exact ⟨u',vs,Oe',B,rfl,hsz',rfl,hr,RepE.other hw s l vs B hs.2 hb2 h2⟩
   ·simp only [Nat.zero_mul,Nat.zero_add,Nat.zero_le,true_and,Nat.sub_zero];split
    ·rw [qg (by omega)]
    ·rw [List.getElem?_append_right (by omega),List.getElem?_append_right (by omega),hl,hl']
 |y::l,vals,O,j+1,e,h,hj=>by
  simp only [RepE]at h;obtain ⟨u0,vs,A,B,rfl,hsz0,rfl,h1,h2⟩:=h;obtain ⟨u,O1,Oe,O2,rfl,hr,hsz,hc,hle,hk⟩:=RepE.hole (j:=j) h2 (by simpa using hj);have hl:u0.cells.toList.length=s:=by simpa using hsz0
  refine ⟨u,A++O1,Oe,O2,by simp,hr,hsz,λi hi=>?_,by rw [List.length_append,hl,Nat.succ_mul];omega,λw' b e' u' Oe' hw hb1 hb2 hs hr' hsz'=>?_⟩
  ·rw [show (j+1)*s+i=s+(j*s+i) by rw [Nat.succ_mul];omega,List.getElem?_append_right (by omega),hl,Nat.add_sub_cancel_left];exact hc i hi
  ·simp only [List.set_cons_succ,softL,Bool.or_eq_false_iff]at hs;simp only [qj,not_or]at hb1;obtain ⟨vals',h3,h4,h5⟩:=hk w' b e' u' Oe' hw hb1.2 hb2 hs.2 hr' hsz';refine ⟨u0.cells.toList++vals',?_,by simp [h4],λi=>?_⟩
   ·simp only [List.set_cons_succ,RepE];exact ⟨u0,vals',A,O1++Oe'++O2,rfl,hsz0,by simp,Rep.other hw y u0 A hs.1 hb1.1 h1,h3⟩
   ·rw [Nat.succ_mul];by_cases hi:i<s
    ·rw [if_neg (by omega),qg (by omega),qg (by omega)]
    ·rw [List.getElem?_append_right (by omega),List.getElem?_append_right (by omega),h5 (i-u0.cells.toList.length),hl];by_cases h6:j*s<=i-s/\i-s<j*s+s
     ·rw [if_pos h6,if_pos (by omega)];congr 1;omega
     ·rw [if_neg h6,if_neg (by omega)]
theorem RepL.hole:∀{l:List V} {vals:List Value} {O:List Nat} (j:Nat) {z:V},RepL w X l vals O->l[j]?=some z ->
  ∃u O1 Oz O2,O=O1++Oz++O2/\Rep w X z u Oz/\vals[j]?=some u /\
   ∀(w':World) (b:Nat) (z':V) (Oz':List Nat),Wrote w X w' b->b∉O1->b∉O2->softL (l.set j z')=false->Rep w' X z' u Oz'->RepL w' X (l.set j z') vals (O1++Oz'++O2)
 |[],vals,O,j,z,h,hj=>by simp at hj
 |y::l,vals,O,0,z,h,hj=>by
  simp only [RepL]at h;obtain ⟨u,vs,A,B,rfl,rfl,h1,h2⟩:=h;simp at hj;subst hj;refine ⟨u,[],A,B,by simp,h1,by simp,λw' b z' Oz' hw hb1 hb2 hs hr=>?_⟩;simp only [List.set_cons_zero,softL,Bool.or_eq_false_iff]at hs;simp only [List.set_cons_zero,RepL,List.nil_append];exact ⟨u,vs,Oz',B,rfl,rfl,hr,RepL.other hw l vs B hs.2 hb2 h2⟩
 |y::l,vals,O,j+1,z,h,hj=>by
  simp only [RepL]at h;obtain ⟨u0,vs,A,B,rfl,rfl,h1,h2⟩:=h;obtain ⟨u,O1,Oz,O2,rfl,hr,hv,hk⟩:=RepL.hole (j:=j) h2 (by simpa using hj);refine ⟨u,A++O1,Oz,O2,by simp,hr,by simpa using hv,λw' b z' Oz' hw hb1 hb2 hs hr'=>?_⟩;simp only [List.set_cons_succ,softL,Bool.or_eq_false_iff]at hs;simp only [qj,not_or]at hb1;simp only [List.set_cons_succ,RepL];exact ⟨u0,vs,A,O1++Oz'++O2,rfl,by simp,Rep.other hw y u0 A hs.1 hb1.1 h1,hk w' b z' Oz' hw hb1.2 hb2 hs.2 hr'⟩
theorem qt5{c:V}(h:c.one=true):c.cells=[c]:=by cases c<;>first|rfl|(simp [V.one]at h)
theorem ql8{e:V}{cs:List V}(h:∃l,e=.agg l):qdB e cs=.agg cs:=by obtain ⟨l,rfl⟩:=h;rfl
theorem qqQ{e:V}{cs:List V}(h:∀l,e≠.agg l):qdB e cs=cs.headD .undef:=by cases e<;>first|rfl|exact absurd rfl (h _)
theorem ql9{e:V}{cs:List V}{vals:List Value}{O:List Nat}(hlen:cs.length=e.cells.length)(hone:cs.all V.one=true)(h:RepL w X cs vals O) :
  ∃u,Rep w X (qdB e cs) u O/\u.cells.toList=vals/\(qdB e cs).cells=cs/\(qdB e cs).soft=softL cs/\(qdB e cs).qq=ptrsL cs/\(qdB e cs).oks=true:=by
 by_cases hx:∃l,e=.agg l
 ·rw [ql8 hx];refine ⟨.agg vals.toArray,?_,by simp [Value.cells],rfl,by simp [V.soft],by simp [V.qq],by simpa [V.oks,V.cells]using hone⟩;simp only [Rep];exact ⟨vals,rfl,h⟩
 ·have hx':∀l,e≠.agg l:=λl e'=>hx ⟨l,e'⟩;rw [qa0 hx']at hlen;rw [qqQ hx']
  match cs,hlen with
  |[c],_ =>
   simp only [List.all_cons,List.all_nil,Bool.and_true]at hone;simp only [RepL]at h;obtain ⟨u,vs,O1,O2,rfl,rfl,h1,rfl,rfl⟩:=h;refine ⟨u,by simpa using h1,by rw [qb5 (qjX hone h1)],qt5 hone,by simp [softL],by simp [ptrsL],?_⟩;show c.oks=true;unfold V.oks;rw [qt5 hone];simp [hone]
def SlF(w:World):Value->Path->Value->Prop
 |v,[],u=>u=v
 |v,(j,o,s)::p,u=>∃b off len cap z,v=.slice (some ⟨b,off,none⟩) len cap/\j<len/\w.cell? ⟨b,off+j*s+o,none⟩=some z/\SlF w z p u
theorem SlF.snoc{j o s:Nat}{z:Value}{b off len cap:Nat}:∀{p:Path} {v:Value},SlF w v p (.slice (some ⟨b,off,none⟩) len cap)->j<len->w.cell? ⟨b,off+j*s+o,none⟩=some z->SlF w v (p++[(j,o,s)]) z
 |[],v,h,hj,hc=>by
  simp only [SlF]at h;subst h;exact ⟨b,off,len,cap,z,rfl,hj,hc,rfl⟩
 |(j1,o1,s1)::p,v,h,hj,hc=>by
  simp only [SlF]at h;obtain ⟨b1,off1,len1,cap1,z1,h1,h2,h3,h4⟩:=h;exact ⟨b1,off1,len1,cap1,z1,h1,h2,h3,SlF.snoc h4 hj hc⟩
theorem qiN{α:Type}{cs new:List α}{off:Nat}(h:off+new.length<=cs.length)(i:Nat):(cs.take off++new++cs.drop (off+new.length))[i]?=if off<=i/\i<off+new.length then new[i-off]? else cs[i]?:=by
 have h1:(cs.take off).length=off:=by simp<;>omega
 by_cases hi:i<off
 ·rw [if_neg (by omega),List.append_assoc,qg (by omega),List.getElem?_take,if_pos hi]
 ·by_cases hj:i<off+new.length
  ·rw [if_pos ⟨by omega,hj⟩,qg (by simp;omega),List.getElem?_append_right (by omega),h1]
  ·rw [if_neg (by omega),List.getElem?_append_right (by simp;omega),List.getElem?_drop];congr 1
   simp<;>omega
theorem qsh{c:Bool}{l:List V}{v:Value}{O:List Nat}{j s:Nat}{e:V}(h:Rep w X (.sl .own c l) v O)(he:l[j]?=some e)(hs:e.cells.length=s) :
  ∃b off cap vals O',v=.slice (some ⟨b,off,none⟩) l.length cap/\O=b::O'/\l.length<=cap/\(c=true->cap=l.length)/\vals.length=l.length*s/\0<s/\(∀x∈l,x.cells.length=s)/\Seg w b off vals /\
   X.ω b=some (off+vals.length,false)/\qBC w b off cap s/\(vals.length=0->cap=0)/\RepE w X s l vals O'/\ptrsL l=[]:=by
 simp only [Rep]at h;obtain ⟨hnp,h⟩:=h;rcases h with ⟨rfl,_⟩|⟨b,off,cap,s',vals,O',hv,hcap,hc,hlen,hs0,hxs,hsg,⟨e1,fz,hω,hle,h1,h2,h3,h4⟩,hE,ho,_⟩
 ·simp at he
 ·have:s'=s:=by rw [<- hs];exact (hxs e (List.mem_of_getElem? he)).symm
  subst this;subst h1;exact ⟨b,off,cap,vals,O',hv,ho trivial,hcap,hc,hlen,hs0,hxs,hsg,by rw [hω,h2],h3,h4,hE,hnp⟩
theorem qo7{c:Bool}{l:List V}{j s b off cap:Nat}{e':V}{vals vals':List Value}{O'':List Nat}(hcap:l.length<=cap)(hc:c=true->cap=l.length)(hlen:vals.length=l.length*s)(hs0:0<s)(hxs:∀x∈l,x.cells.length=s)
  (hω:X.ω b=some (off+vals.length,false)) (h0:vals.length=0->cap=0) (hnp:ptrsL l=[]) (he:e'.cells.length=s) (hep:e'.qq=[]) (hlen':vals'.length=vals.length) (hsg:Seg w' b off vals') (hsp:qBC w' b off cap s) (hE:RepE w' X s (l.set j e') vals' O'') :
  Rep w' X (.sl .own c (l.set j e')) (.slice (some ⟨b,off,none⟩) l.length cap) (b::O''):=by
 simp only [Rep,List.length_set];refine ⟨?_,.inr ⟨b,off,cap,s,vals',O'',rfl,hcap,hc,by rw [hlen',hlen],hs0,?_,hsg,⟨off+vals.length,false,hω,by omega,rfl,by omega,hsp,λh=>h0 (by omega)⟩,hE,λ_=>rfl,λh=>absurd rfl h⟩⟩
 ·rw [List.eq_nil_iff_forall_not_mem];intro r hr;obtain ⟨x,hx,hr1⟩:=qC.1 hr;rcases List.mem_or_eq_of_mem_set hx with hx|rfl
  ·have:r∈ptrsL l:=qC.2 ⟨x,hx,hr1⟩;rw [hnp]at this;simp at this
  ·rw [hep]at hr1;simp at hr1
 ·intro x hx;rcases List.mem_or_eq_of_mem_set hx with hx|rfl
  ·exact hxs x hx
  ·exact he
theorem qdO{l:List V}(h:ptrsL l=[]){e:V}(he:e∈l):e.qq=[]:=by
 rw [List.eq_nil_iff_forall_not_mem];intro r hr;have:r∈ptrsL l:=qC.2 ⟨e,he,hr⟩;rw [h]at this;simp at this
theorem qmN{l:List V}(h:∀x∈l,x.qq=[]):ptrsL l=[]:=by
 rw [List.eq_nil_iff_forall_not_mem];intro r hr;obtain ⟨x,hx,hr⟩:=qC.1 hr;rw [h x hx]at hr;simp at hr
theorem qf3{e:V}(h:e.qq=[]):ptrsL e.cells=[]:=by
 cases e<;>simp_all [V.cells,V.qq,ptrsL]
theorem qBz{ys:List V}{yv:List Value}{Oy:List Nat}(hyr:RepL w X ys yv Oy)(hyone:ys.all V.one=true)(hyp:ptrsL ys=[]){j o s:Nat}:∀(p:Path) (x y:V) (v:Value) (O:List Nat) {b off len cap:Nat},
  qsL ys (p++[(j,o,s)]) x=some y->y.soft=false->Rep w X x v O->Lin (O++Oy)->SlF w v p (.slice (some ⟨b,off,none⟩) len cap) ->
  b∈O/\j<len/\(∃e,X.ω b=some (e,false))/\(∃arr ty,w.heap[b]?=some (.cells arr ty (0,0))/\off+j*s+o+ys.length<=arr.size)/\y.one=true/\y.qq=[] /\
  ∀w',Wrote w X w' b->(∀i,w'.cell? ⟨b,i,none⟩=if off+j*s+o<=i/\i<off+j*s+o+ys.length then yv[i-(off+j*s+o)]? else w.cell? ⟨b,i,none⟩) ->
   (∀c t,w.heap[b]?=some (.cells c t (0,0))->∃c',w'.heap[b]?=some (.cells c' t (0,0))/\c'.size=c.size)->∃O',Rep w' X y v O'/\∀k,O'.count k<=O.count k+Oy.count k
 |[],x,y,v,O,b,off,len,cap,hu,hsoft,hr,hlin,hsl=>by
  simp only [List.nil_append]at hu;simp only [SlF]at hsl;unfold qsL at hu;split at hu
  ·rename_i heq;cases heq
  ·rename_i j' o' s' p' c l heq;simp only [List.cons.injEq,Prod.mk.injEq]at heq;obtain ⟨⟨rfl,rfl,rfl⟩,rfl⟩:=heq;split at hu
   ·rename_i e he;split at hu
    ·rename_i hck;obtain ⟨hes,hok⟩:=hck;simp only at hu;split at hu
     ·rename_i hle;simp only [qb]at hu;subst hu;obtain ⟨b1,off1,cap1,vals,O1,rfl,rfl,hcap,hc,hlen,hs0,hxs,hsg,hω,hsp,h0,hE,hnp⟩:=qsh hr he hes;cases hsl;obtain ⟨u,A,Oe,B,rfl,hre,husz,hval,hjle,hclose⟩:=RepE.hole j hE he;obtain ⟨hcells,_⟩:=qdo hok hre;have hjl:j<l.length:=(qm.1 he).1;have hul:u.cells.toList.length=s:=by simpa using husz
      have hyl:yv.length=ys.length:=(qF _ _ _ hyr).symm;have hbig:off+j*s+o+ys.length<=off+cap*s:=by
       have:(j+1)*s<=cap*s:=Nat.mul_le_mul_right s (by omega);rw [Nat.succ_mul]at this;omega
      obtain ⟨arr,ty,harr,hsize⟩:=hsp;have hone:(qJ e.cells o ys).all V.one=true:=by
       rw [List.all_eq_true];intro z hz;unfold qJ at hz;simp only [qj]at hz;have hok':∀z∈e.cells,z.one=true:=List.all_eq_true.1 hok;rcases hz with (hz|hz)|hz
       ·exact hok' z (List.mem_of_mem_take hz)
       ·exact List.all_eq_true.1 hyone z hz
       ·exact hok' z (List.mem_of_mem_drop hz)
      have hlen2:(qJ e.cells o ys).length=e.cells.length:=qbP (by omega);have hep:∀z∈qJ e.cells o ys,z.qq=[]:=by
       intro z hz;have hecp:=qf3 (qdO hnp (List.mem_of_getElem? he));unfold qJ at hz;simp only [qj]at hz;rcases hz with (hz|hz)|hz
       ·exact qdO hecp (List.mem_of_mem_take hz)
       ·exact qdO hyp hz
       ·exact qdO hecp (List.mem_of_mem_drop hz)
      refine ⟨by simp,hjl,⟨_,hω⟩,⟨arr,ty,harr,by omega⟩,rfl,by simp [V.qq],λw' hw hcell hobj=>?_⟩;obtain ⟨Ob,hspl,hcnt⟩:=qjW (off:=o) hcells hyr;have hsoft2:softL (l.set j (qdB e (qJ e.cells o ys)))=false:=by
       simp only [V.soft,Bool.or_eq_false_iff]at hsoft;exact hsoft.2
      have hlt:j<(l.set j (qdB e (qJ e.cells o ys))).length:=by simpa using hjl
      have hbO:∀k,(b::(A++Oe++B)++Oy).count k<=1:=hlin;have hb1:=hbO b;simp only [List.cons_append,List.count_cons_self,List.count_append]at hb1;have hbOb:b∉Ob:=λhm=>by
       have:=hcnt b;have:=List.count_pos_iff.2 hm;omega
      obtain ⟨u0,hu0,_,_,hsf,_⟩:=ql9 (e:=e) hlen2 hone hspl;have hcs:softL (qJ e.cells o ys)=false:=by
       rw [<- hsf];exact qli hsoft2 _ (List.mem_of_getElem? (by rw [List.getElem?_set_self hjl]))
      have hspl':=RepL.other hw _ _ _ hcs hbOb hspl;obtain ⟨u',hu',hu'c,hrc,_,hrp,_⟩:=ql9 (e:=e) hlen2 hone hspl';obtain ⟨vals',hE',hl',hget⟩:=hclose w' b _ u' Ob hw (λhm=>by have:=List.count_pos_iff.2 hm;omega) (λhm=>by have:=List.count_pos_iff.2 hm;omega) hsoft2 hu' (by
       have:u'.cells.toList.length=s:=by rw [hu'c];simp<;>omega
       simpa using this)
      refine ⟨b::(A++Ob++B),qo7 hcap hc hlen hs0 hxs hω h0 hnp (by rw [hrc,hlen2,hes]) (by rw [hrp];exact qmN hep) hl' ?_ ?_ hE',λk=>?_⟩
      ·intro i z hz;rw [hget i]at hz;rw [hcell (off+i)];by_cases hi:j*s<=i/\i<j*s+s
       ·rw [if_pos hi,hu'c,qiN (by omega)]at hz;by_cases hi2:o<=i-j*s/\i-j*s<o+yv.length
        ·rw [if_pos hi2]at hz;rw [if_pos (by omega)];rw [<- hz];congr 1;omega
        ·rw [if_neg hi2]at hz;rw [if_neg (by omega)];refine hsg i z ?_;have:=hval (i-j*s) (by omega);rw [show j*s+(i-j*s)=i by omega]at this;rw [this];exact hz
       ·rw [if_neg hi]at hz;rw [if_neg (by omega)];exact hsg i z hz
      ·obtain ⟨c',hc1,hc2⟩:=hobj arr ty harr;exact ⟨c',ty,hc1,by omega⟩
      ·have:=hcnt k;simp only [List.count_cons,List.count_append]at this ⊢;omega
     ·cases hu
    ·cases hu
   ·cases hu
  ·cases hu
 |(j1,o1,s1)::p,x,y,v,O,b,off,len,cap,hu,hsoft,hr,hlin,hsl=>by
  obtain ⟨q,qs,hq⟩:∃q qs,p++[(j,o,s)]=q::qs:=by
   cases p with
   |nil=>exact ⟨_,_,rfl⟩
   |cons a p=>exact ⟨_,_,rfl⟩
  simp only [List.cons_append]at hu;unfold qsL at hu;split at hu
  ·rename_i heq;cases heq
  ·rename_i j' o' s' p' c l heq;simp only [List.cons.injEq,Prod.mk.injEq]at heq;obtain ⟨⟨rfl,rfl,rfl⟩,rfl⟩:=heq;split at hu
   ·rename_i e he;split at hu
    ·rename_i hck;obtain ⟨hes,hok⟩:=hck;split at hu
     ·rename_i hnil;rw [hq]at hnil;cases hnil
     ·split at hu
      ·rename_i z hz;obtain ⟨z',hz',rfl⟩:=qc.1 hu;obtain ⟨b1,off1,cap1,vals,O1,rfl,rfl,hcap,hc,hlen,hs0,hxs,hsg,hω,hsp,h0,hE,hnp⟩:=qsh hr he hes;obtain ⟨u,A,Oe,B,rfl,hre,husz,hval,hjle,hclose⟩:=RepE.hole j1 hE he;obtain ⟨hcells,_⟩:=qdo hok hre;have hjl:j1<l.length:=(qm.1 he).1;have hul:u.cells.toList.length=s1:=by simpa using husz
       obtain ⟨uz,A2,Oz,B2,rfl,hrz,huz,hclose2⟩:=RepL.hole o1 hcells hz;have ho1:o1<s1:=by rw [<- hul];exact (qm.1 huz).1
       simp only [SlF]at hsl;obtain ⟨b2,off2,len2,cap2,zz,heq,hj2,hc2,hsl2⟩:=hsl;cases heq;have hcell1:w.cell? ⟨b1,off1+j1*s1+o1,none⟩=some uz:=by
        rw [Nat.add_assoc];exact hsg _ _ (by rw [hval o1 ho1];exact huz)
       rw [hcell1]at hc2;cases hc2;have hsoft2:softL (l.set j1 (qdB e (e.cells.set o1 z')))=false:=by
        simp only [V.soft,Bool.or_eq_false_iff]at hsoft;exact hsoft.2
       have hbO:∀k,(b1::(A++(A2++Oz++B2)++B)++Oy).count k<=1:=hlin;have hoz:o1<e.cells.length:=(qm.1 hz).1
       have hstep:∀(hz's:z'.soft=false),_:=λhz's=>qBz hyr hyone hyp p z z' uz Oz (b:=b) (off:=off) (len:=len) (cap:=cap) hz' hz's hrz (λk=>by
        have:=hbO k;simp only [List.cons_append,List.count_cons,List.count_append]at this ⊢;omega) hsl2
       have hz's:z'.soft=false:=by
        have h1:(qdB e (e.cells.set o1 z')).soft=false:=qli hsoft2 _ (List.mem_of_getElem? (by rw [List.getElem?_set_self hjl]));have hm:z'∈e.cells.set o1 z':=List.mem_of_getElem? (i:=o1) (by rw [List.getElem?_set_self hoz]);by_cases hx:∃l0,e=.agg l0
        ·rw [ql8 hx]at h1;simp only [V.soft]at h1;exact qli h1 _ hm
        ·have hx':∀l0,e≠.agg l0:=λl0 e'=>hx ⟨l0,e'⟩;rw [qqQ hx']at h1;rw [qa0 hx']at h1 hoz;have:o1=0:=by simpa using hoz
         subst this;simpa using h1
       obtain ⟨hbz,hjlen,hωb,harr,hone',hptr',hk⟩:=hstep hz's;have hbc:=hbO b;have hbpos:=List.count_pos_iff.2 hbz;simp only [List.cons_append,List.count_cons,List.count_append]at hbc;have hbne:b≠b1:=λe'=>by subst e';simp at hbc;omega
       refine ⟨by simp [hbz],hjlen,hωb,harr,rfl,by simp [V.qq],λw' hw hcell hobj=>?_⟩;obtain ⟨Oz',hrz',hcnt⟩:=hk w' hw hcell hobj;have hone:(e.cells.set o1 z').all V.one=true:=by
        rw [List.all_eq_true];intro y hy;rcases List.mem_or_eq_of_mem_set hy with hy|rfl
        ·exact List.all_eq_true.1 hok y hy
        ·exact hone'
       have hcs:softL (e.cells.set o1 z')=false:=by
        have h1:(qdB e (e.cells.set o1 z')).soft=false:=qli hsoft2 _ (List.mem_of_getElem? (by rw [List.getElem?_set_self hjl]));by_cases hx:∃l0,e=.agg l0
        ·rw [ql8 hx]at h1;simpa only [V.soft]using h1
        ·have hx':∀l0,e≠.agg l0:=λl0 e'=>hx ⟨l0,e'⟩;rw [qa0 hx']at hoz ⊢;have:o1=0:=by simpa using hoz
         subst this;simp [softL,hz's]
       have hcl:=hclose2 w' b z' Oz' hw (λhm=>by have:=List.count_pos_iff.2 hm;omega) (λhm=>by have:=List.count_pos_iff.2 hm;omega) hcs hrz';obtain ⟨u',hu',hu'c,hrc,_,hrp,_⟩:=ql9 (e:=e) (by simp) hone hcl;obtain ⟨vals',hE',hl',hget⟩:=hclose w' b _ u' _ hw (λhm=>by have:=List.count_pos_iff.2 hm;omega) (λhm=>by have:=List.count_pos_iff.2 hm;omega) hsoft2 hu' (by
        have:u'.cells.toList.length=s1:=by rw [hu'c];exact hul
        simpa using this)
       have hvals:∀i:Nat,vals'[i]?=vals[i]?:=λi=>by
        rw [hget i];split
        ·rename_i hi;rw [hu'c];have:=hval (i-j1*s1) (by omega);rw [show j1*s1+(i-j1*s1)=i by omega]at this;exact this.symm
        ·rfl
       have hepc:=qf3 (qdO hnp (List.mem_of_getElem? he));refine ⟨b1::(A++(A2++Oz'++B2)++B),qo7 hcap hc hlen hs0 hxs hω h0 hnp (by rw [hrc];simpa using hes) (by
        rw [hrp];refine qmN λy hy=>?_;rcases List.mem_or_eq_of_mem_set hy with hy|rfl
        ·exact qdO hepc hy
        ·exact hptr') hl' ?_ ?_ hE',λk=>?_⟩
       ·intro i y hy;rw [hvals i]at hy;rw [cell_of_heap (hw.kept b1 (Ne.symm hbne))];exact hsg i y hy
       ·obtain ⟨arr1,ty1,ha1,ha2⟩:=hsp;exact ⟨arr1,ty1,by rw [hw.kept b1 (Ne.symm hbne)];exact ha1,ha2⟩
       ·have:=hcnt k;simp only [List.count_cons,List.count_append]at this ⊢;omega
      ·cases hu
    ·cases hu
   ·cases hu
  ·cases hu
end
section
variable {P:Program} {H:Hints} {f:FuncId} {w w':World} {X:Cx}
theorem qyB{st':St}{tmps:Array Value}{Ob:Pl->List Nat}(hsize:tmps.size=st'.E.length)
  (henv:∀t x,st'.E[t]?=some x->∃v,tmps[t]?=some v/\∃A,Rep w' X x v A/\∀k,A.count k<=(Ob (.tmp t)).count k)
  (hbox:∀r c,st'.box r=some c->∃b,X.β r=some b/\b<w'.heap.size/\X.ω b=none/\∃A,qp5 w' X b c A/\∀k,A.count k<=(Ob (.box r)).count k)
  (inj:∀r r' b,(st'.box r).isSome=true->(st'.box r').isSome=true->X.β r=some b->X.β r'=some b->r=r') (hlin:∀p,Lin (Ob p)) (hdis:∀p q,p≠q->∀b∈Ob p,b∉Ob q)
  (ptrE:∀r∈ptrsL st'.E,(st'.box r).isSome=true) (ptrB:∀r c,st'.box r=some c->∀r'∈ptrsL c,(st'.box r').isSome=true) (up:∀r c,st'.box r=some c->∀r'∈ptrsL c,r'.lvl<=r.lvl) (dom:Dom w' X) :
  ∃O',Rel st' tmps w' X O'/\∀p k,(O' p).count k<=(Ob p).count k:=by
 have key:∀p:Pl,∃A:List Nat,(∀k,A.count k<=(Ob p).count k)/\(match p with
   |.tmp t=>(∀x,st'.E[t]?=some x->∃v,tmps[t]?=some v/\Rep w' X x v A)/\(st'.E[t]?=none->A=[])
   |.box r=>(∀c,st'.box r=some c->∃b,X.β r=some b/\b<w'.heap.size/\X.ω b=none/\qp5 w' X b c A)/\(st'.box r=none->A=[])):=by
  intro p;cases p with
  |tmp t =>
   cases hx:st'.E[t]? with
   |none=>exact ⟨[],by simp,And.intro (λx hx'=>by rw [hx]at hx';cases hx') (λ_=>rfl)⟩
   |some x =>
    obtain ⟨v,hv,A,hr,hc⟩:=henv t x hx;exact ⟨A,hc,And.intro (λy hy=>by rw [hx]at hy;cases hy;exact ⟨v,hv,hr⟩) (λh=>by rw [hx]at h;cases h)⟩
  |box r =>
   cases hx:st'.box r with
   |none=>exact ⟨[],by simp,And.intro (λx hx'=>by rw [hx]at hx';cases hx') (λ_=>rfl)⟩
   |some c =>
    obtain ⟨b,h1,h2,h3,A,h4,hc⟩:=hbox r c hx;exact ⟨A,hc,And.intro (λy hy=>by rw [hx]at hy;cases hy;exact ⟨b,h1,h2,h3,h4⟩) (λh=>by rw [hx]at h;cases h)⟩
 obtain ⟨O',hO'⟩:=Classical.axiomOfChoice key;have hR:Rel st' tmps w' X O':={
  size:=hsize
  env:=λt x hx=>(hO' (.tmp t)).2.1 x hx
  envD:=λt ht=>(hO' (.tmp t)).2.2 (List.getElem?_eq_none ht)
  box:=λr c hr=>(hO' (.box r)).2.1 c hr
  boxD:=λr hr=>(hO' (.box r)).2.2 hr
  inj:=inj
  lin:=λp k=>Nat.le_trans ((hO' p).1 k) (hlin p k)
  dis:=λp q hpq b hb hq=>hdis p q hpq b (List.count_pos_iff.1 (Nat.lt_of_lt_of_le (List.count_pos_iff.2 hb) ((hO' p).1 b))) (List.count_pos_iff.1 (Nat.lt_of_lt_of_le (List.count_pos_iff.2 hq) ((hO' q).1 b)))
  ptrE:=ptrE
  ptrB:=ptrB
  up:=up
  dom:=dom}
 exact ⟨O',hR,λp k=>(hO' p).1 k⟩
theorem qsn{b:Nat}(h:Wrote w X w' b){x:V}{v:Value}{O:List Nat}(hb:b∉O)(hr:Rep w X x v O):∃A,Rep w' X x.qef v A/\∀k,A.count k<=O.count k:=by
 unfold V.qef;cases hs:x.soft with
 |true=>exact ⟨[],by simp [Rep],by simp⟩
 |false=>exact ⟨O,by simpa using Rep.other h x v O hs hb hr,λ_=>Nat.le_refl _⟩
theorem qpm{b:Nat}(h:Wrote w X w' b):∀{l:List V} {vals:List Value} {O:List Nat},b∉O->RepL w X l vals O->∃A,RepL w' X (l.map V.qef) vals A/\∀k,A.count k<=O.count k
 |[],vals,O,hb,hr=>⟨[],by simp only [RepL]at hr;simp [RepL,hr.1],by simp⟩
 |x::l,vals,O,hb,hr=>by
  simp only [RepL]at hr;obtain ⟨u,vs,O1,O2,rfl,rfl,h1,h2⟩:=hr;simp only [qj,not_or]at hb;obtain ⟨A,h3,h4⟩:=qsn h hb.1 h1;obtain ⟨B,h5,h6⟩:=qpm h hb.2 h2;refine ⟨A++B,by simp only [qh,RepL];exact ⟨u,vs,A,B,rfl,rfl,h3,h5⟩,λk=>?_⟩;have:=h4 k;have:=h6 k;simp only [List.count_append]<;>omega
theorem qk4:∀{l:List V} {vals:List Value} {O:List Nat} (j:Nat) {z:V},RepL w X l vals O->l[j]?=some z ->
  ∃u O1 Oz O2,O=O1++Oz++O2/\Rep w X z u Oz/\vals[j]?=some u /\
   ∀(w':World) (b:Nat) (z':V) (Oz':List Nat),Wrote w X w' b->b∉O1->b∉O2->Rep w' X z' u Oz'->∃A,RepL w' X ((l.map V.qef).set j z') vals A/\∀k,A.count k<=O1.count k+Oz'.count k+O2.count k
 |[],vals,O,j,z,h,hj=>by simp at hj
 |y::l,vals,O,0,z,h,hj=>by
  simp only [RepL]at h;obtain ⟨u,vs,A,B,rfl,rfl,h1,h2⟩:=h;simp at hj;subst hj;refine ⟨u,[],A,B,by simp,h1,by simp,λw' b z' Oz' hw hb1 hb2 hr=>?_⟩;obtain ⟨C,h3,h4⟩:=qpm hw hb2 h2;refine ⟨Oz'++C,by simp only [qh,List.set_cons_zero,RepL];exact ⟨u,vs,Oz',C,rfl,rfl,hr,h3⟩,λk=>?_⟩;have:=h4 k;simp only [List.count_append,List.count_nil]<;>omega
 |y::l,vals,O,j+1,z,h,hj=>by
  simp only [RepL]at h;obtain ⟨u0,vs,A,B,rfl,rfl,h1,h2⟩:=h;obtain ⟨u,O1,Oz,O2,rfl,hr,hv,hk⟩:=qk4 (j:=j) h2 (by simpa using hj);refine ⟨u,A++O1,Oz,O2,by simp,hr,by simpa using hv,λw' b z' Oz' hw hb1 hb2 hr'=>?_⟩;simp only [qj,not_or]at hb1;obtain ⟨C,h3,h4⟩:=hk w' b z' Oz' hw hb1.2 hb2 hr';obtain ⟨D,h5,h6⟩:=qsn hw hb1.1 h1;refine ⟨D++C,by simp only [qh,List.set_cons_succ,RepL];exact ⟨u0,vs,D,C,rfl,rfl,h5,h3⟩,λk=>?_⟩;have:=h4 k;have:=h6 k;simp only [List.count_append]<;>omega
theorem qto{x:V}{r:Root}(h:r∈x.qef.qq):r∈x.qq:=by
 unfold V.qef at h;split at h
 ·simp [V.qq]at h
 ·exact h
theorem qlK{l:List V}{r:Root}(h:r∈ptrsL (l.map V.qef)):r∈ptrsL l:=by
 obtain ⟨x,hx,hr⟩:=qC.1 h;obtain ⟨y,hy,rfl⟩:=List.mem_map.1 hx;exact qC.2 ⟨y,hy,qto hr⟩
theorem qck(s:Nat):∀B:Level,qw (qkt B) s=(qw B s).map (List.map V.qef)
 |[]=>rfl
 |(k,c)::B=>by
  simp only [qkt,qh,qw];split
  ·rfl
  ·exact qck s B
theorem qqA{s:Nat}{c:List V}:∀{B:Level},qtZ B=true->qw B s=some c->qfy c=false
 |[],_,h=>by simp [qw]at h
 |(k,c')::B,hn,h=>by
  simp only [qtZ,List.all_cons,qe,Bool.not_eq_true']at hn;simp only [qw]at h;split at h
  ·cases h;exact hn.1
  ·exact qqA hn.2 h
def qjs(w:World)(X:Cx)(tmps:Array Value):Rt->Value->Prop
 |.tmp r,v=>tmps.getD r undef=v
 |.box q off,v=>∃b,X.β q=some b/\w.cell? ⟨b,off,none⟩=some v
def qFB(w:World)(v0:Value):Path->Nat->Nat->Prop
 |[],_,_=>False
 |(j,o,s)::p,b,k=>∃off len cap,SlF w v0 p.reverse (.slice (some ⟨b,off,none⟩) len cap)/\j<len/\k=off+j*s+o
def rowAt(arr:Array Value)(k:Nat)(yv:List Value):Array Value:=(arr.toList.take k++yv++arr.toList.drop (k+yv.length)).toArray
theorem quR{b k:Nat}{arr:Array Value}{ty:TypeId}{yv:List Value}(hω:∃e,X.ω b=some (e,false))(ha:w.heap[b]?=some (.cells arr ty (0,0)))(hle:k+yv.length<=arr.size) :
  Wrote w X (w.setRow b (rowAt arr k yv)) b/\(∀i,(w.setRow b (rowAt arr k yv)).cell? ⟨b,i,none⟩=if k<=i/\i<k+yv.length then yv[i-k]? else w.cell? ⟨b,i,none⟩) /\
   (∀c t,w.heap[b]?=some (.cells c t (0,0))->∃c',(w.setRow b (rowAt arr k yv)).heap[b]?=some (.cells c' t (0,0))/\c'.size=c.size):=by
 have hset:=setRow_heap w b arr (rowAt arr k yv) ty (0,0) ha;refine ⟨⟨hω,λk' hk'=>setRow_other w b k' _ hk'⟩,λi=>?_,λc t hc=>?_⟩
 ·simp only [World.cell?,hset,ha];have h1:(rowAt arr k yv)[i]?=(rowAt arr k yv).toList[i]?:=by simp
  have h2:arr[i]?=arr.toList[i]?:=by simp
  simp only [h1,h2];unfold rowAt;exact qiN (by simpa using hle) i
 ·rw [ha]at hc;cases hc;refine ⟨_,hset,?_⟩;unfold rowAt;simp<;>omega
theorem qh5{a:Nat×Nat×Nat}{p:Path}:(a::p).reverse=p.reverse++[a]:=by simp
theorem qCg{w0:World}{X0:Cx}{Md:Md}{n:Nat}{st st':St}{D:List Deferred}{tmps:Array Value}{O:Pl->List Nat}(h:Rel st tmps w X O)(hF:Fr w0 X0 Md n st w X O)(hz:n=0->∀b e fz,X0.ω b=some (e,fz)->fz=true)(hM:qd7 w0 w X D)(hL:st.L=[]){b:Nat}
  (hw:Wrote w X w' b) (hbO:∃p,b∈O p) (hsz:w'.heap.size=w.heap.size) (hos:w'.os=w.os) (hout:w'.output=w.output) (htape:w'.tape=w.tape)
  {Ob:Pl->List Nat} (hOb:∀p k,k∈Ob p->∃q,k∈O q) {O':Pl->List Nat} (hO':∀p k,(O' p).count k<=(Ob p).count k) (hL':st'.L=[]) (hlive:∀r,(st'.box r).map qae=(st.box r).map qae) :
  Fr w0 X0 Md n st' w' X O'/\qd7 w0 w' X D:=by
 obtain ⟨p0,hp0⟩:=hbO;obtain ⟨e0,hω⟩:=hw.ω;have hn:n=0:=by rw [<- hF.lev,hL];rfl
 refine ⟨{gl:=hF.gl,gm:=hF.gm,size:=by rw [hsz];exact hF.size,kept:=?_,grew:=?_,β:=hF.β,own:=?_,boxM:=?_,lev:=by rw [hL',hn];rfl,live:=?_,os:=by rw [hos,hF.os],out:=by rw [hout,hF.out],tape:=by rw [htape,hF.tape]},?_⟩
 ·intro k hk hMk;obtain ⟨h1,h2⟩:=hF.kept k hk hMk;refine ⟨?_,h2⟩;by_cases hkb:k=b
  ·subst hkb;rcases hF.own p0 k hp0 with h3|h3
   ·omega
   ·exact absurd h3 hMk
  ·rw [hw.kept k hkb,h1]
 ·intro k e fz hω0;obtain ⟨e1,fz1,h1,h2,h3,h4⟩:=hF.grew k e fz hω0;refine ⟨e1,fz1,h1,h2,h3,λi v hi hc=>?_⟩;by_cases hkb:k=b
  ·subst hkb;have:=h3 (hz hn _ _ _ hω0);rw [hω]at h1;cases h1;cases this
  ·rw [cell_of_heap (hw.kept k hkb)];exact h4 i v hi hc
 ·intro p k hk;obtain ⟨q,hq⟩:=hOb p k (List.count_pos_iff.1 (Nat.lt_of_lt_of_le (List.count_pos_iff.2 hk) (hO' p k)));exact hF.own q k hq
 ·intro r k hr hb;refine hF.boxM r k ?_ hb;have:=congrArg Option.isSome (hlive r);simpa [hr]using this.symm
 ·intro r hr;rw [hlive];exact hF.live r hr
 ·exact hM.of λk hk hωk _=>⟨hw.kept k (λe=>by subst e;rw [hω]at hωk;cases hωk),rfl⟩
theorem qeE{st:St}(hL:st.L=[])(r:Root):st.box r=if r.lvl=0 then qw st.B r.slot else none:=by
 unfold St.box;simp [hL]
theorem qga(s s':Nat)(c:List V):∀B:Level,qw (qeW B s c) s'=if s'=s then (qw B s).map (λ_=>c)else qw B s'
 |[]=>by simp [qeW,qw]
 |(k,d)::B=>by
  simp only [qeW];by_cases h1:k=s
  ·subst h1;simp only [if_true,qw];by_cases h2:s'=k
   ·simp [h2]
   ·simp [h2,Ne.symm h2]
  ·simp only [h1,if_false,qw];rw [qga s s' c B];by_cases h2:s'=s
   ·subst h2;simp [h1]
   ·by_cases h3:k=s'
    ·simp [h3,h2]
    ·simp [h3,h2]
theorem qtw{c:List V}(h:qae c=false):qae (c.map V.qef)=false:=by
 match c with
 |[]=>rfl
 |x::l =>
  simp only [qh];unfold V.qef;split
  ·rfl
  ·cases x<;>first|rfl|(simp [qae]at h)
theorem qmG{s:Nat}{c:List V}:∀{B:Level},qgR B=true->qw B s=some c->qae c=false
 |[],_,h=>by simp [qw]at h
 |(k,c')::B,hn,h=>by
  simp only [qgR,List.all_cons,qe,Bool.not_eq_true']at hn;simp only [qw]at h;split at h
  ·cases h;exact hn.1
  ·exact qmG hn.2 h
theorem qtY{B:Level}(h:qtZ B=true):qgR B=true:=by
 unfold qtZ at h;unfold qgR;rw [List.all_eq_true]at h ⊢;intro p hp;have:=h p hp;simp only [Bool.not_eq_true']at this ⊢;exact qhD this
theorem qr4{w0:World}{X0:Cx}{Md:Md}{n:Nat}{st st':St}{D:List Deferred}{tmps:Array Value}{O:Pl->List Nat}(h:Rel st tmps w X O)(hF:Fr w0 X0 Md n st w X O)(hz:n=0->∀b e fz,X0.ω b=some (e,fz)->fz=true)(hM:qd7 w0 w X D)(hL:st.L=[])(hnl:qgR st.B=true)
  {b:Nat} (hw:Wrote w X w' b) (hsz:w'.heap.size=w.heap.size) (hos:w'.os=w.os) (hout:w'.output=w.output) (htape:w'.tape=w.tape)
  {T:List Tmp} {Ox:List Nat} (hin:∀k∈Ox,∃t∈T,k∈O (.tmp t)) (hlx:Lin Ox) {pl:Pl} (hpl:∀t∈T,pl≠.tmp t) (hb:b∈O pl) (hlen:st'.E.length=st.E.length) (hL':st'.L=[])
  (henv:∀t x',st'.E[t]?=some x'->(pl≠.tmp t/\∃x0,(qz st.E T)[t]?=some x0/\x'=x0.qef)\/(pl=.tmp t/\x'.qq=[]/\∃v,tmps[t]?=some v/\∃A,Rep w' X x' v A/\∀k,A.count k<=(O pl).count k+Ox.count k))
  (hbs:∀q,(st'.box q).isSome=(st.box q).isSome)
  (hbox:∀q c',st'.box q=some c'->∃c,st.box q=some c/\((pl≠.box q/\c'=c.map V.qef)\/(pl=.box q/\(qfy c=false/\qfy c'=false)/\(∀r∈ptrsL c',r∈ptrsL c)/\∀arr:List Value,RepL w X c arr (O (.box q))->(∀bq,X.β q=some bq->∀i,w.cell? ⟨bq,i,none⟩=arr[i]?)->∃A,RepL w' X c' arr A/\∀k,A.count k<=(O pl).count k+Ox.count k))) :
  ∃O',Rel st' tmps w' X O'/\Fr w0 X0 Md n st' w' X O'/\qd7 w0 w' X D:=by
 have h1:=h.taken T;generalize hO1:qiF O T none st.E.length []=O1 at h1;have hO1':∀p k,k∈O1 p->k∈O p/\∀t∈T,p≠.tmp t:=λp k hk=>by
  rw [<- hO1]at hk;cases p with
  |tmp t =>
   simp only [qiF]at hk;rw [if_neg (by simp)]at hk;split at hk
   ·simp at hk
   ·rename_i hn;exact ⟨hk,λt' ht' e=>hn (by cases e;exact ht')⟩
  |box r=>exact ⟨hk,λt' _ e=>by cases e⟩
 have hO1c:∀p k,(O1 p).count k<=(O p).count k:=λp k=>by
  rw [<- hO1];cases p with
  |tmp t =>
   simp only [qiF];rw [if_neg (by simp)];split
   ·simp
   ·exact Nat.le_refl _
  |box r=>exact Nat.le_refl _
 have hbn:∀p,p≠pl->b∉O1 p:=λp hp hk=>h.dis p pl hp b (hO1' p b hk).1 hb;have hxpl:∀k∈Ox,k∉O pl:=λk hk hkp=>by
  obtain ⟨t,ht,hkt⟩:=hin k hk;exact h.dis pl (.tmp t) (hpl t ht) k hkp hkt
 have hx1:∀k∈Ox,∀p,k∉O1 p:=λk hk p hkp=>by
  obtain ⟨t,ht,hkt⟩:=hin k hk;obtain ⟨h2,h3⟩:=hO1' p k hkp;exact h.dis p (.tmp t) (h3 t ht) k h2 hkt
 have hlpB:∀q c,st.box q=some c->qae c=false:=λq c hq=>by
  rw [qeE hL]at hq;split at hq
  ·exact qmG hnl hq
  ·cases hq
 have hrel:=qyB (w':=w') (X:=X) (tmps:=tmps) (st':=st') (Ob:=λp=>if p=pl then O pl++Ox else O1 p) (by rw [hlen];exact h.size) ?_ ?_ ?_ ?_ ?_ ?_ ?_ ?_ ?_
 ·obtain ⟨O',hR,hc⟩:=hrel;obtain ⟨hF',hM'⟩:=qCg (st':=st') (O':=O') h hF hz hM hL hw ⟨pl,hb⟩ hsz hos hout htape (Ob:=λp=>if p=pl then O pl++Ox else O1 p) (λp k hk=>by
   by_cases hp:p=pl
   ·simp only [hp,if_true,qj]at hk;rcases hk with hk|hk
    ·exact ⟨pl,hk⟩
    ·obtain ⟨t,_,hkt⟩:=hin k hk;exact ⟨_,hkt⟩
   ·simp only [hp,if_false]at hk;exact ⟨p,(hO1' p k hk).1⟩) hc hL' (λq=>by
   cases hq:st.box q with
   |none =>
    have:=hbs q;rw [hq]at this;cases hq':st'.box q with
    |none=>rfl
    |some c=>rw [hq']at this;simp at this
   |some c =>
    have:=hbs q;rw [hq]at this;obtain ⟨c',hc'⟩:=Option.isSome_iff_exists.1 (by simpa using this:(st'.box q).isSome=true);obtain ⟨c2,h2,h3⟩:=hbox q c' hc';rw [hq]at h2;cases h2;rw [hc',qi,qi,hlpB q c hq];rcases h3 with ⟨_,rfl⟩|⟨_,h3,_⟩
    ·rw [qtw (hlpB q c hq)]
    ·rw [qhD h3.2])
  exact ⟨O',hR,hF',hM'⟩
 ·intro t x' hx';rcases henv t x' hx' with ⟨hne,x0,h2,rfl⟩|⟨rfl,_,v,hv,A,hr,hA⟩
  ·obtain ⟨v,hv,hr⟩:=h1.env t x0 h2;obtain ⟨A,h3,h4⟩:=qsn hw (hbn _ (Ne.symm hne)) hr;exact ⟨v,hv,A,h3,by simpa [Ne.symm hne]using h4⟩
  ·exact ⟨v,hv,A,hr,λk=>by have:=hA k;simp only [if_true,List.count_append];exact this⟩
 ·intro q c' hq;obtain ⟨c,hc,hcase⟩:=hbox q c' hq;obtain ⟨bq,hβ,hlt,hω,hbx⟩:=h.box q c hc;obtain ⟨e0,hω0⟩:=hw.ω;have hne:bq≠b:=λe=>by subst e;rw [hω0]at hω;cases hω
  refine ⟨bq,hβ,by omega,hω,?_⟩;rcases hcase with ⟨hp,rfl⟩|⟨rfl,hlps,_,hk⟩
  ·rcases hbx with ⟨arr,ty,harr,hl⟩|⟨s,pe,g,env,ps,asg,body,lo,rfl,_⟩|⟨es,ents,clock,rfl,hm1,hm2,hm3⟩
   rotate_left
   ·have:=hlpB q _ hc;simp [qae]at this
   ·exact ⟨[],.inr (.inr ⟨es,ents,clock,rfl,by rw [hw.kept bq hne];exact hm1,hm2,rfl⟩),by simp⟩
   obtain ⟨A,h3,h4⟩:=qpm hw (λhm=>h.dis (.box q) pl (Ne.symm hp) b hm hb) hl;refine ⟨A,.inl ⟨arr,ty,by rw [hw.kept bq hne];exact harr,h3⟩,λk=>?_⟩;rw [if_neg (Ne.symm hp),<- hO1];exact h4 k
  ·obtain ⟨arr,ty,harr,hl⟩:=hbx.cells hlps.1;obtain ⟨A,h3,h4⟩:=hk arr.toList hl (λbq' hβ' i=>by rw [hβ]at hβ';cases hβ';simp [World.cell?,harr]);refine ⟨A,.inl ⟨arr,ty,by rw [hw.kept bq hne];exact harr,h3⟩,λk=>?_⟩;have:=h4 k;simp only [if_true,List.count_append];exact this
 ·intro r r' k h2 h3 h4 h5;rw [hbs]at h2 h3;exact h.inj r r' k h2 h3 h4 h5
 ·intro p k;by_cases hp:p=pl
  ·simp only [hp,if_true,List.count_append];have h2:=h.lin pl k;have h3:=hlx k;by_cases hk:k∈Ox
   ·have:=List.count_eq_zero.2 (hxpl k hk);omega
   ·have:=List.count_eq_zero.2 hk;omega
  ·simp only [hp,if_false];exact Nat.le_trans (hO1c p k) (h.lin p k)
 ·intro p q hpq k hkp hkq;by_cases hp:p=pl
  ·have hq:q≠pl:=λe=>hpq (by rw [hp,e]);simp only [hp,if_true,qj]at hkp;simp only [hq,if_false]at hkq;rcases hkp with hkp|hkp
   ·exact h.dis pl q (Ne.symm hq) k hkp (hO1' q k hkq).1
   ·exact hx1 k hkp q hkq
  ·simp only [hp,if_false]at hkp;by_cases hq:q=pl
   ·simp only [hq,if_true,qj]at hkq;rcases hkq with hkq|hkq
    ·exact h.dis p pl hp k (hO1' p k hkp).1 hkq
    ·exact hx1 k hkq p hkp
   ·simp only [hq,if_false]at hkq;exact h.dis p q hpq k (hO1' p k hkp).1 (hO1' q k hkq).1
 ·intro r hr;rw [hbs];obtain ⟨x',hx',hr'⟩:=qC.1 hr;obtain ⟨t,ht⟩:=List.mem_iff_getElem?.1 hx';rcases henv t x' ht with ⟨_,x0,h2,rfl⟩|⟨_,h2,_⟩
  ·exact h1.ptrE r (qC.2 ⟨x0,List.mem_of_getElem? h2,qto hr'⟩)
  ·rw [h2]at hr';simp at hr'
 ·intro q c' hq r' hr';rw [hbs];obtain ⟨c,hc,⟨_,rfl⟩|⟨_,_,hp,_⟩⟩:=hbox q c' hq
  ·exact h.ptrB q c hc r' (qlK hr')
  ·exact h.ptrB q c hc r' (hp r' hr')
 ·intro q c' hq r' hr';obtain ⟨c,hc,⟨_,rfl⟩|⟨_,_,hp,_⟩⟩:=hbox q c' hq
  ·exact h.up q c hc r' (qlK hr')
  ·exact h.up q c hc r' (hp r' hr')
 ·intro k e fz hk;rw [hsz];exact h.dom k e fz hk
end
section
variable {P:Program} {H:Hints} {f:FuncId} {w w':World} {X:Cx}
theorem qFy{ys:List V}{p:Path}{E:List V}{r:Nat}{y:V}(h:qsL ys p (E.getD r .undef)=some y):E[r]?=some (E.getD r .undef):=by
 rw [List.getD_eq_getElem?_getD]at h ⊢;cases hr:E[r]? with
 |some x=>rfl
 |none =>
  rw [hr]at h;simp only [Option.getD_none]at h;cases p with
  |nil=>simp [qsL]at h
  |cons a p=>obtain ⟨j,o,s⟩:=a;simp [qsL]at h
theorem run_store{a:Act}{t:TypeId}{d:Tmp}{xo:Operand}{b k:Nat}{arr:Array Value}{ty:TypeId}(hs0:P.cellsOf t≠0)(hd:a.tmps.getD d undef=.pointer (some ⟨b,k,none⟩))(ha:w.heap[b]?=some (.cells arr ty (0,0)))
  (hl:(a.eval xo).cells.toList.length=P.cellsOf t) (hle:k+(a.eval xo).cells.toList.length<=arr.size) (hones:∀c∈(a.eval xo).cells.toList,c.oneCell'=true) :
  (Instr.storeAt t (a.eval (.tmp d)) (a.eval xo)).run P w=.ok () (w.setRow b (rowAt arr k (a.eval xo).cells.toList)):=by
 have hv:a.eval (.tmp d)=.pointer (some ⟨b,k,none⟩):=hd;have hst:=run_storeCells_at (P:=P) b k ty (a.eval xo).cells.toList 0 arr w ha (by omega) hones;simp only [Nat.add_zero]at hst;rw [hv];have:¬ ((a.eval xo).cells.size≠P.cellsOf t):=by rw [<- hl];simp
 simp only [Instr.storeAt,Instr.sureAddr,Sem.run_bind,Sem.run_pure,Result.andThen_ok,storeVar,qar hs0,if_neg this];exact hst
theorem qjh{st:St}{q:Root}{c c':List V}{E:List V}(hL:st.L=[])(hq:st.box q=some c)(q':Root) :
  ({st with E:=E,B:=qeW (qkt st.B) q.slot c'}:St).box q'=if q'=q then some c' else (st.box q').map (List.map V.qef):=by
 have hq0:q.lvl=0/\qw st.B q.slot=some c:=by
  rw [qeE hL]at hq;split at hq
  ·rename_i h0;exact ⟨h0,hq⟩
  ·cases hq
 rw [qeE (st:=({st with E:=E,B:=qeW (qkt st.B) q.slot c'}:St)) hL,qeE hL];simp only [qga,qck];by_cases h0:q'.lvl=0
 ·rw [if_pos h0,if_pos h0];by_cases hs:q'.slot=q.slot
  ·have:q'=q:=by
    obtain ⟨l,s⟩:=q';obtain ⟨l',s'⟩:=q;simp only at h0 hs hq0;rw [h0,hs,hq0.1]
   rw [if_pos hs,if_pos this,hq0.2];rfl
  ·rw [if_neg hs,if_neg (λe=>hs (by rw [e]))]
 ·rw [if_neg h0,if_neg h0,if_neg (λe=>h0 (by rw [e];exact hq0.1))];rfl
theorem qFN{w0:World}{X0:Cx}{Md:Md}{n:Nat}{ops:Array Oper}{s:Nat}{o:Oper}{st st':St}{a:Act}{O:Pl->List Nat}(h:Rel st a.tmps w X O)(hF:Fr w0 X0 Md n st w X O)(hz:n=0->∀b e fz,X0.ω b=some (e,fz)->fz=true)(hM:qd7 w0 w X a.defers)
  {t:TypeId} {d:Tmp} {xo:Operand} (hop:o.op=.store t (.tmp d) xo)
  (hpath:∀rt p,qbp P H f ops st.E ops.size s d=some (rt,p,true)->∃v0 b k,qjs w X a.tmps rt v0/\a.tmps.getD d undef=.pointer (some ⟨b,k,none⟩)/\qFB w v0 p b k)
  (hx:qji P H f ops s o st=some st') :
  o.dst=none/\o.guard=none/\∃w' b,(Instr.storeAt t (a.eval (.tmp d)) (a.eval xo)).run P w=.ok () w'/\Wrote w X w' b/\w'.heap.size=w.heap.size/\∃O',Rel st' a.tmps w' X O'/\Fr w0 X0 Md n st' w' X O'/\qd7 w0 w' X a.defers:=by
 unfold qji at hx;rw [hop]at hx;simp only at hx;split at hx
 ·rename_i hcond;simp only [qe,decide_eq_true_eq,List.isEmpty_iff,Option.isNone_iff_eq_none]at hcond;obtain ⟨⟨⟨⟨⟨⟨⟨⟨hL,hnl⟩,hdst⟩,hgd⟩,hnd⟩,hs0⟩,hxl⟩,hxo⟩,hxp⟩:=hcond;have htk:qab H f o=true:=by simp [qab,hop,qwc]
  have hops:o.op.operands.toList=[.tmp d,xo]:=by rw [hop];rfl
  obtain ⟨Oin,hrep,hs,hlin⟩:=qce (H:=H) (f:=f) h o o.op.operands.toList (λ_=>hnd);rw [hops]at hrep;simp only [qh,List.map_nil,RepL]at hrep;obtain ⟨u1,vs1,O1,O2,hu1,rfl,hr1,u,vs2,Ox,O4,hu2,rfl,hrx,rfl,rfl⟩:=hrep;simp only [List.cons.injEq]at hu1;obtain ⟨rfl,rfl⟩:=hu1;simp only [List.cons.injEq,and_true]at hu2;subst hu2;simp only [List.append_nil]at hs hlin;have hin:∀k∈Ox,∃t∈tmpsOf o,k∈O (.tmp t):=λk hk=>(hs k (by simp [hk])).2;have hlx:Lin Ox:=hlin.right;obtain ⟨hcells,hones⟩:=qdo hxo hrx;have hul:(a.eval xo).cells.toList.length=(rd H f o st.E xo).cells.length:=(qF _ _ _ hcells).symm;have hyp:ptrsL (rd H f o st.E xo).cells=[]:=qf3 hxp;refine ⟨hdst,hgd,?_⟩;have hplx:∀pl:Pl,(∀t∈tmpsOf o,pl≠.tmp t)->Lin (O pl++Ox):=λpl hpl k=>by
   rw [List.count_append];have h2:=h.lin pl k;have h3:=hlx k;by_cases hk:k∈Ox
   ·have:(O pl).count k=0:=List.count_eq_zero.2 λhkp=>by
     obtain ⟨t',ht',hkt⟩:=hin k hk;exact h.dis pl (.tmp t') (hpl t' ht') k hkp hkt
    omega
   ·have:=List.count_eq_zero.2 hk;omega
  split at hx
  ·-- the owner is a temporary
   rename_i r p hlk;obtain ⟨v0,b,k,hroot,hptr,hpr⟩:=hpath _ _ hlk;split at hx
   ·cases hx
   ·rename_i hrT;have hrT':r∉tmpsOf o:=by simpa using hrT
    split at hx
    ·rename_i y hy;split at hx
     ·cases hx
     ·rename_i hsoft;have hsoft:y.soft=false:=by simpa using hsoft
      simp only [qb]at hx;subst hx;have hE:=qFy hy;obtain ⟨v1,hv1,hr0⟩:=h.env r _ hE;have:v1=v0:=by
       simp only [qjs]at hroot;rw [<- hroot,Array.getD_eq_getD_getElem?,hv1];rfl
      subst this;cases p with
      |nil=>exact hpr.elim
      |cons q p =>
       obtain ⟨j,o',s'⟩:=q;obtain ⟨off,len,cap,hsl,hj,rfl⟩:=hpr;rw [qh5]at hy;have hpl:∀t∈tmpsOf o,Pl.tmp r≠.tmp t:=λt' ht' e=>hrT' (by cases e;exact ht');obtain ⟨hbO,_,hω,⟨arr,ty,harr,hsize⟩,hy1,hyp',hk⟩:=qBz hcells hxo hyp _ _ _ _ _ hy hsoft hr0 (hplx _ hpl) hsl;obtain ⟨hW,hcell,hobj⟩:=quR (X:=X) (k:=off+j*s'+o') (yv:=(a.eval xo).cells.toList) hω harr (by rw [hul];exact hsize);obtain ⟨A,hA,hcnt⟩:=hk _ hW (by rw [<- hul];exact hcell) hobj;refine ⟨_,b,run_store hs0 hptr harr (by rw [hul];exact hxl) (by rw [hul];exact hsize) hones,hW,by simp,?_⟩;refine qr4 h hF hz hM hL (qtY hnl) hW (by simp) rfl rfl rfl hin hlx hpl hbO (by simp [qa7]) hL ?_ (λq=>?_) (λq c' hq=>?_)
       ·intro t' x' hx';simp only [List.getElem?_set]at hx';by_cases hrt:r=t'
        ·subst hrt;rw [if_pos rfl]at hx';split at hx'
         ·cases hx'
          exact .inr ⟨rfl,hyp',v1,hv1,A,hA,hcnt⟩
         ·cases hx'
        ·rw [if_neg hrt,List.getElem?_map]at hx';obtain ⟨x0,h2,rfl⟩:=qc.1 hx';exact .inl ⟨λe=>hrt (by cases e;rfl),x0,h2,rfl⟩
       ·rw [qeE (st:=({st with E:=_,B:=qkt st.B}:St)) hL,qeE hL];simp only [qck];split
        ·simp
        ·rfl
       ·rw [qeE (st:=({st with E:=_,B:=qkt st.B}:St)) hL]at hq;rw [qeE hL];simp only [qck]at hq;split at hq
        ·rename_i h0;obtain ⟨c,hc,rfl⟩:=qc.1 hq;exact ⟨c,by rw [if_pos h0];exact hc,.inl ⟨by simp,rfl⟩⟩
        ·cases hq
    ·cases hx
  ·-- the owner is in a box
   rename_i q off0 p hlk;obtain ⟨v0,b,k,⟨bq,hβ,hroot⟩,hptr,hpr⟩:=hpath _ _ hlk;split at hx
   ·rename_i cs hcs;split at hx
    ·rename_i z hz0;split at hx
     ·rename_i y hy;split at hx
      ·cases hx
      ·rename_i hsoft;have hsoft:y.soft=false:=by simpa using hsoft
       simp only [qb]at hx;subst hx;obtain ⟨bq',hβ',hlt,hωq,hbx⟩:=h.box q cs hcs;rw [hβ]at hβ';cases hβ';have hq0:q.lvl=0/\qw st.B q.slot=some cs:=by
        have:=hcs;rw [qeE hL]at this;split at this
        ·rename_i h0;exact ⟨h0,this⟩
        ·cases this
       have hlp:qfy cs=false:=qqA hnl hq0.2;obtain ⟨arrq,tyq,harrq,hlq⟩:=hbx.cells hlp;obtain ⟨uz,A1,Oz,A2,hOq,hrz,huz,hclose⟩:=qk4 off0 hlq hz0;have hv0:uz=v0:=by
        simp only [World.cell?,harrq]at hroot;have h2:arrq[off0]?=some uz:=by simpa using huz
        rw [h2]at hroot;exact Option.some.inj hroot
       subst hv0;cases p with
       |nil=>exact hpr.elim
       |cons e p =>
        obtain ⟨j,o',s'⟩:=e;obtain ⟨off,len,cap,hsl,hj,rfl⟩:=hpr;rw [qh5]at hy;have hpl:∀t∈tmpsOf o,Pl.box q≠.tmp t:=λt' ht' e=>by cases e
        have hlinz:Lin (Oz++Ox):=λk=>by
         have:=hplx (.box q) hpl k;rw [hOq]at this;simp only [List.count_append]at this ⊢;omega
        obtain ⟨hbO,_,hω,⟨arr,ty,harr,hsize⟩,hy1,hyp',hk⟩:=qBz hcells hxo hyp _ _ _ _ _ hy hsoft hrz hlinz hsl;obtain ⟨hW,hcell,hobj⟩:=quR (X:=X) (k:=off+j*s'+o') (yv:=(a.eval xo).cells.toList) hω harr (by rw [hul];exact hsize);obtain ⟨A,hA,hcnt⟩:=hk _ hW (by rw [<- hul];exact hcell) hobj;have hlq0:=h.lin (.box q) b;rw [hOq]at hlq0;simp only [List.count_append]at hlq0;have hbz:=List.count_pos_iff.2 hbO;obtain ⟨C,hC,hCc⟩:=hclose _ b y A hW (λhm=>by have:=List.count_pos_iff.2 hm;omega) (λhm=>by have:=List.count_pos_iff.2 hm;omega) hA;refine ⟨_,b,run_store hs0 hptr harr (by rw [hul];exact hxl) (by rw [hul];exact hsize) hones,hW,by simp,?_⟩;refine qr4 (pl:=.box q) h hF hz hM hL (qtY hnl) hW (by simp) rfl rfl rfl hin hlx hpl (by rw [hOq];simp [hbO]) (by simp [qa7]) hL ?_ (λq'=>?_) (λq' c' hq=>?_)
        ·intro t' x' hx';simp only [List.getElem?_map]at hx';obtain ⟨x0,h2,rfl⟩:=qc.1 hx';exact .inl ⟨by simp,x0,h2,rfl⟩
        ·rw [qjh hL hcs];split
         ·rename_i e;rw [e,hcs];rfl
         ·simp
        ·rw [qjh hL hcs]at hq;split at hq
         ·rename_i e;subst e;cases hq;refine ⟨cs,hcs,.inr ⟨rfl,?_,λr hr=>?_,λvals hvals hcellq=>?_⟩⟩
          ·exact ⟨hlp,qrJ hC⟩
          ·obtain ⟨x,hx,hr2⟩:=qC.1 hr;rcases List.mem_or_eq_of_mem_set hx with hx|rfl
           ·exact qlK (qC.2 ⟨x,hx,hr2⟩)
           ·rw [hyp']at hr2;simp at hr2
          ·have:vals=arrq.toList:=by
            apply List.ext_getElem?;intro i;have:=hcellq bq hβ i;simp only [World.cell?,harrq]at this;rw [<- this];simp
           subst this;refine ⟨C,hC,λk=>?_⟩;have:=hCc k;have:=hcnt k;rw [hOq];simp only [List.count_append]<;>omega
         ·rename_i hne;obtain ⟨c,hc,rfl⟩:=qc.1 hq;exact ⟨c,hc,.inl ⟨λe=>hne (by cases e;rfl),rfl⟩⟩
     ·cases hx
    ·cases hx
   ·cases hx
  ·cases hx
 ·cases hx
end
end Go.Ab
end
