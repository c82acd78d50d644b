/-
  ONE LAW OF A CHAPTER: its program side is run by an interpreter that is proved sound; what it computes is shown to be what the law says. No conditions. Part 2 of 8.
-/
import Derived.Test.YteiciemjanhdcaaGreatDoorMsea
import Derived.RangeFuncLeaves
import Derived.RangeFuncNested
import Derived.RangeFuncRecord
import Derived.OrdersIn
set_option linter.unusedSimpArgs false
set_option linter.unusedVariables false
set_option linter.unnecessarySimpa false
section
namespace Go.Ab
open Go
section
variable {P:Program} {H:Hints} {f:FuncId} {w:World} {X:Cx}
def qcl(M:List Level)(r:Root):Option (List V):=match M[r.lvl]? with|some b=>qz b r.slot|none=>none
theorem qcn(st:St)(r:Root):st.box r=qcl (st.L++[st.B]) r:=by
 unfold St.box qcl;by_cases h:r.lvl=st.L.length
 ·simp [h]
 ·simp only [h,if_false];by_cases hlt:r.lvl<st.L.length
  ·rw [qh hlt];rfl
  ·rw [List.getElem?_eq_none (by omega),List.getElem?_eq_none (by simp;omega)]
structure LRel (M:List Level) (w:World) (X:Cx) (O:Root->List Nat):Prop where
 box:∀r c,qcl M r=some c->∃b,X.β r=some b/\b<w.heap.size/\X.ω b=none/\qsH w X b c (O r)
 boxD:∀r,qcl M r=none->O r=[]
 inj:∀r r' b,(qcl M r).isSome=true->(qcl M r').isSome=true->X.β r=some b->X.β r'=some b->r=r'
 lin:∀r,Lin (O r)
 dis:∀r r',r≠r'->∀b∈O r,b∉O r'
 ptrB:∀r c,qcl M r=some c->∀r'∈ptrsL c,(qcl M r').isSome=true
 up:∀r c,qcl M r=some c->∀r'∈ptrsL c,r'.lvl<=r.lvl
 dom:Dom w X
theorem Rel.qJA{st:St}{tmps:Array Value}{O:Pl->List Nat}(h:Rel st tmps w X O):LRel (st.L++[st.B]) w X (λr=>O (.box r)) where
 box:=λr c hr=>h.box r c (by rw [qcn];exact hr)
 boxD:=λr hr=>h.boxD r (by rw [qcn];exact hr)
 inj:=λr r' b h1 h2=>h.inj r r' b (by rw [qcn];exact h1) (by rw [qcn];exact h2)
 lin:=λr=>h.lin _
 dis:=λr r' hne=>h.dis _ _ (λe=>hne (by cases e;rfl))
 ptrB:=λr c hr r' hr'=>by rw [<- qcn];exact h.ptrB r c (by rw [qcn];exact hr) r' hr'
 up:=λr c hr=>h.up r c (by rw [qcn];exact hr)
 dom:=h.dom
theorem LRel.own{M:List Level}{O:Root->List Nat}(h:LRel M w X O):∀r,∀b∈O r,∃e,X.ω b=some (e,false):=λr b hb=>by
 cases hr:qcl M r with
 |none=>rw [h.boxD r hr]at hb;simp at hb
 |some c=>obtain ⟨k,_,_,_,hbx⟩:=h.box r c hr;exact hbx.own b hb
def Mod(M:List Level)(X:Cx)(O:Root->List Nat):Md where
 may:=λb=>(∃r,(qcl M r).isSome=true/\X.β r=some b)\/∃r,b∈O r
 kind:=λr=>(qcl M r).map qaE
structure Aft (w:World) (X:Cx) (Md:Md) (n:Nat) (w':World) (X':Cx) (own:Nat->Prop):Prop where
 size:w.heap.size<=w'.heap.size
 kept:∀b,b<w.heap.size->¬ Md b->w'.heap[b]?=w.heap[b]?/\X'.ω b=X.ω b
 grew:∀b e fz,X.ω b=some (e,fz)->∃e' fz',X'.ω b=some (e',fz')/\e<=e'/\(fz=true->fz'=true)/\∀i v,i<e->w.cell? ⟨b,i,none⟩=some v->w'.cell? ⟨b,i,none⟩=some v
 β:∀r,r.lvl<n->X'.β r=X.β r
 own:∀b,own b->w.heap.size<=b\/Md b
 os:w'.os=w.os
 out:w'.output=w.output
 tape:w'.tape=w.tape
def qJn(M:List Level)(r:V)(M':List Level)(w:World)(X:Cx)(O:Root->List Nat)(v:Value)(w':World):Prop :=
 ∃X' O' Or,Rep w' X' r v Or/\LRel M' w' X' O'/\Lin Or/\(∀q,∀b∈Or,b∉O' q)/\(∀q∈r.qv,(qcl M' q).isSome=true)/\M'.length=M.length/\(∀q,(qcl M' q).map qaE=(qcl M q).map qaE) /\
  Aft w X (Mod M X O) M.length w' X' (λb=>b∈Or\/∃q,b∈O' q)
def qvr(ext:Prop)(P:Program)(g:FuncId)(args:Array Value)(w:World)(R:Value->World->Prop):Prop :=
 ((callFunc g args).run P w=.ok (.enter g args) w/\Calls P g args w λe w'=>∃v,e=.returned v/\R v w') \/
 (ext/\∃v w',(callFunc g args).run P w=.ok (.value v) w'/\R v w')
theorem qvr.mono{ext ext':Prop}{P:Program}{g:FuncId}{args:Array Value}{w:World}{R R':Value->World->Prop}(h:qvr ext P g args w R)(he:ext->ext')(hr:∀v w',R v w'->R' v w'):qvr ext' P g args w R':=by
 rcases h with ⟨h1,h2⟩|⟨h0,v,w',h1,h2⟩
 ·exact .inl ⟨h1,h2.mono λe w' ⟨v,he,hR⟩=>⟨v,he,hr _ _ hR⟩⟩
 ·exact .inr ⟨he h0,v,w',h1,hr _ _ h2⟩
def qbD(P:Program)(g:FuncId)(args:List V)(M:List Level)(r:V)(M':List Level):Prop :=
 ∀(w:World) (X:Cx) (vals:List Value) (O:Root->List Nat),RepL w X args vals []->qjA w X->LRel M w X O->(∀q∈ptrsL args,(qcl M q).isSome=true)->(M=[]->∀b e fz,X.ω b=some (e,fz)->fz=true) ->
  qvr (M=[]) P g vals.toArray w λv w'=>qJn M r M' w X O v w'
def qBD(P:Program)(g:FuncId)(args:List V)(r:V)(s:Nat)(es:List (Value×Value)):Prop :=
 r.onlyMaps=true/\(∀k∈r.qv,k=⟨0,s⟩) /\
 ∀(w:World) (X:Cx) (vals:List Value),RepL w X args vals []->qjA w X->Dom w X->ptrsL args=[]->(∀b e fz,X.ω b=some (e,fz)->fz=true) ->
  qvr True P g vals.toArray w λv w'=>∃X' b ents ck,Rep w' X' r v []/\Dom w' X'/\X'.β ⟨0,s⟩=some b/\w.heap.size<=b/\b<w'.heap.size/\X'.ω b=none/\w'.heap[b]?=some (.map ents ck)/\ents.toList.map kv=es /\
   Aft w X (Mod [] X (λ_=>[])) 0 w' X' (λ_=>False)
def qGS(P:Program)(g clos:FuncId):Prop:=∀(s sep:ByteArray) (w:World),qvr True P g #[.string s,.string sep] w λv w' =>
 v=.func (.func clos) #[] #[.pointer (some ⟨w.heap.size+1,0,none⟩),.pointer (some ⟨w.heap.size,0,none⟩),.pointer (some ⟨w.heap.size+2,0,none⟩)] /\
  ∃t t2 t3,w'=((w.alloc (.cells #[.string s] t)).alloc (.cells #[.string sep] t2)).alloc (.cells #[.int .i64 0] t3)
def qGk(P:Program)(H:Hints):Prop:=∀g clos,H.seq g=some clos->qGS P g clos
def Cx.freeze(X:Cx)(F:List Nat):Cx:={X with ω:=λb=>if b∈F then (X.ω b).map (λp=>(p.1,true))else X.ω b}
def Cx.callee(X:Cx)(loose:Bool)(own:Nat->Bool):Cx :=
 {X with ω:=λb=>if own b then X.ω b else (X.ω b).bind λp=>if p.2||loose then some (p.1,true)else none}
theorem frozen_ω{F:List Nat}{b e:Nat}{fz:Bool}(h:X.ω b=some (e,fz)):(X.freeze F).ω b=some (e,decide (b∈F)||fz):=by
 simp only [Cx.freeze];rw [h];split<;>simp [*]
theorem callee_ω{loose:Bool}{own:Nat->Bool}{b e:Nat}{fz:Bool}(h:X.ω b=some (e,fz)):(X.callee loose own).ω b=if own b then some (e,fz)else if fz||loose then some (e,true)else none:=by
 simp only [Cx.callee,h];split<;>simp
theorem qjA.freeze(h:qjA w X)(F:List Nat):qjA w (X.freeze F):=h.of λx _ e hω=>⟨⟨e,by rw [frozen_ω hω];simp⟩,rfl⟩
theorem qjA.callee(h:qjA w X)(loose:Bool)(own:Nat->Bool):qjA w (X.callee loose own):=h.of λx _ e hω=>⟨⟨e,by rw [callee_ω hω];split<;>simp⟩,rfl⟩
theorem qjA.qlu(h:qjA w X):qjA w (X.qlu w):=h.of λx _ e hω=>⟨⟨e,peek_ω hω⟩,rfl⟩
theorem qBf{args:List V}{vals:List Value}{Oa:List Nat}{own:Nat->Bool}(h:RepL w X args vals Oa)(hown:∀b∈Oa,own b=false)(hol:looseL args=true->∀b,own b=false) :
  RepL w ((X.freeze Oa).callee (looseL args) own) (reflagL q3 args) vals []:=by
 refine RepL.flags (X:=X) (S:=λb=>b∈Oa) (D:=looseL args) ?_ args vals Oa (λ_ h=>h) (λh=>h) h;refine {β:=rfl,own:=λf=>by simp [q3],dul:=λf hf=>by simp [q3]at hf,ω:=?_,sh:=?_}
 ·intro hD b e fz hω;rw [callee_ω (frozen_ω hω),hol hD b,hD];simp
 ·intro fl b e fz hω hS hsh hd _;rw [callee_ω (frozen_ω hω)];cases fl with
  |own =>
   have hb:=hS rfl;rw [hown b hb];simp [hb]
  |shared =>
   have:=hsh rfl;subst this;split<;>simp
  |qap =>
   have hD:=hd rfl;rw [hol hD b,hD];simp
def Cx.back(X X':Cx)(sz:Nat)(own:Nat->Bool):Cx:={β:=X.β,ω:=λb=>if b<sz/\own b=false then X.ω b else X'.ω b}
theorem qvV(X X':Cx)(S:Nat->Prop)(hβ:X'.β=X.β)(hω:∀b e fz,X.ω b=some (e,fz)->∃fz',X'.ω b=some (e,fz')/\(S b->fz'=fz)):Flags' qkz X X' S where
 β:=hβ
 own:=λf=>by cases f<;>simp [qkz]
 ω:=hω
 sh:=λf b e fz _ _ _ hg=>by cases f<;>simp [qkz]at hg
theorem qhy:∀{M L:List Level} {B:Level},qeX M=some (L,B)->M=L++[B]
 |[b],L,B,h=>by simp only [qeX,qb,Prod.mk.injEq]at h;obtain ⟨rfl,rfl⟩:=h;rfl
 |b::c::l,L,B,h=>by
  simp only [qeX]at h;obtain ⟨⟨L1,B1⟩,h1,h2⟩:=qc.1 h;simp only [Prod.mk.injEq]at h2;obtain ⟨rfl,rfl⟩:=h2;rw [qhy h1];rfl
theorem Aft.ext{Md:Md}{n:Nat}{w':World}{X':Cx}{own:Nat->Prop}(h:Aft w X Md n w' X' own)(hd:Dom w X){R:List Root}(hR:∀r∈R,r.lvl<n):Ext R w X w' X' (λb=>Md b) where
 β:=λr hr=>h.β r (hR r hr)
 ω:=λb e fz hω=>by
  obtain ⟨e',fz',h1,h2,h3,_⟩:=h.grew b e fz hω;refine ⟨e',fz',h1,h2,h3,λhn=>?_⟩;rw [(h.kept b (hd b e fz hω) hn).2,hω]at h1;cases h1;exact ⟨rfl,rfl⟩
 cell:=λb e fz i v hω hi hc=>by
  obtain ⟨_,_,_,_,_,h4⟩:=h.grew b e fz hω;exact h4 i v hi hc
 obj:=λb e fz c t hU hω hc=>⟨c,by rw [(h.kept b (hd b e fz hω) hU).1];exact hc,rfl⟩
def qGX(O:Pl->List Nat)(O':Root->List Nat):Pl->List Nat
 |.tmp t=>O (.tmp t)
 |.box q=>O' q
theorem qvI{w0:World}{X0:Cx}{Md:Md}{n:Nat}{st:St}{tmps:Array Value}{O:Pl->List Nat}(h:Rel st tmps w X O)(hF:Fr w0 X0 Md n st w X O){M':List Level}{w':World}{L:List Level}{B:Level}{X':Cx}{O':Root->List Nat}{ow:Nat->Prop}
  (hlr:LRel M' w' X' O') (hlen:M'.length=(st.L++[st.B]).length) (hkind:∀q,(qcl M' q).map qaE=(qcl (st.L++[st.B]) q).map qaE) (how:∀q,∀b∈O' q,ow b)
  (haft:Aft w X (Mod (st.L++[st.B]) X (λq=>O (.box q))) (st.L++[st.B]).length w' X' ow) (hM:M'=L++[B]) :
  Rel {st with L:=L,B:=B} tmps w' X' (qGX O O')/\Fr w0 X0 Md n {st with L:=L,B:=B} w' X' (qGX O O'):=by
 subst hM;have hlive:∀q,(qcl (L++[B]) q).isSome=(qcl (st.L++[st.B]) q).isSome:=λq=>by
  have:=hkind q;cases h1:qcl (L++[B]) q<;>cases h2:qcl (st.L++[st.B]) q<;>simp_all
 have hLl:L.length=st.L.length:=by simpa using hlen
 have hbox:∀q,({st with L:=L,B:=B}:St).box q=qcl (L++[B]) q:=λq=>qcn _ q;have hliv:∀q,(({st with L:=L,B:=B}:St).box q).isSome=(st.box q).isSome:=λq=>by rw [hbox,hlive,<- qcn]
 have hMd:∀b,Mod (st.L++[st.B]) X (λq=>O (.box q)) b->(∃r,(st.box r).isSome=true/\X.β r=some b)\/∃r,b∈O (.box r):=λb hb=>by
  rcases hb with ⟨r,h1,h2⟩|h1
  ·exact .inl ⟨r,by rw [qcn];exact h1,h2⟩
  ·exact .inr h1
 have hωb:∀b,(∃r,(st.box r).isSome=true/\X.β r=some b)->X.ω b=none:=by
  rintro b ⟨r,h1,h2⟩;obtain ⟨c,hc⟩:=Option.isSome_iff_exists.1 h1;obtain ⟨b',hb',_,hω,_⟩:=h.box r c hc;rw [h2]at hb';cases hb';exact hω
 have hnot:∀t,∀b∈O (.tmp t),¬ Mod (st.L++[st.B]) X (λq=>O (.box q)) b:=λt b hb hm=>by
  rcases hMd b hm with h1|⟨r,h1⟩
  ·obtain ⟨e,he⟩:=h.ownω _ b hb;rw [hωb b h1]at he;cases he
  ·exact h.dis (.tmp t) (.box r) (by simp) b hb h1
 have hO':∀q,∀b∈O' q,w.heap.size<=b\/(∃r,(st.box r).isSome=true/\X.β r=some b)\/∃r,b∈O (.box r):=λq b hb=>by
  rcases haft.own b (how q b hb)with h1|h1
  ·exact .inl h1
  ·exact .inr (hMd b h1)
 have hlv:∀q,(st.box q).isSome=true->q.lvl<(st.L++[st.B]).length:=λq hq=>by simpa using qvG hq
 constructor
 ·refine {size:=h.size,env:=?_,envD:=h.envD,box:=?_,boxD:=?_,inj:=?_,lin:=?_,dis:=?_,ptrE:=?_,ptrB:=?_,up:=λr c hr=>by rw [hbox]at hr;exact hlr.up r c hr,dom:=hlr.dom}
  ·intro t x hx;obtain ⟨v,hv,hr⟩:=h.env t x hx;exact ⟨v,hv,Rep.ext (haft.ext h.dom (R:=x.qv) λr hr=>hlv r (h.ptrE r (qM.2 ⟨x,List.mem_of_getElem? hx,hr⟩))) _ _ _ (λ_ h=>h) (hnot t) hr⟩
  ·intro r c hr;rw [hbox]at hr;exact hlr.box r c hr
  ·intro r hr;rw [hbox]at hr;exact hlr.boxD r hr
  ·intro r r' b h1 h2;rw [hbox]at h1 h2;exact hlr.inj r r' b h1 h2
  ·intro p;cases p with
   |tmp t=>exact h.lin _
   |box r=>exact hlr.lin r
  ·have hc:∀t r,∀b∈O (.tmp t),b∉O' r:=λt r b hb hb'=>by
    rcases hO' r b hb' with h1|h1|⟨r',h1⟩
    ·have:=h.qHx _ b hb;omega
    ·obtain ⟨e,he⟩:=h.ownω _ b hb;rw [hωb b h1]at he;cases he
    ·exact h.dis (.tmp t) (.box r') (by simp) b hb h1
   intro p q hpq b hb hbq;cases p with
   |tmp t=>cases q with
    |tmp s=>exact h.dis _ _ hpq b hb hbq
    |box r=>exact hc t r b hb hbq
   |box r=>cases q with
    |tmp s=>exact hc s r b hbq hb
    |box r'=>exact hlr.dis r r' (λe=>hpq (by rw [e])) b hb hbq
  ·intro r hr;rw [hliv];exact h.ptrE r hr
  ·intro r c hr r' hr';rw [hbox]at hr ⊢;exact hlr.ptrB r c hr r' hr'
 ·have hMd0:∀b,b<w0.heap.size->Mod (st.L++[st.B]) X (λq=>O (.box q)) b->Md b:=λb hb hm=>by
   rcases hMd b hm with ⟨r,h1,h2⟩|⟨r,h1⟩
   ·rcases hF.boxM r b h1 h2 with h3|h3
    ·omega
    ·exact h3
   ·rcases hF.own _ b h1 with h3|h3
    ·omega
    ·exact h3
  exact {
   size:=Nat.le_trans hF.size haft.size
   kept:=λb hb hM=>by
    obtain ⟨h1,h2⟩:=hF.kept b hb hM;obtain ⟨h3,h4⟩:=haft.kept b (Nat.lt_of_lt_of_le hb hF.size) (λhm=>hM (hMd0 b hb hm));exact ⟨by rw [h3,h1],by rw [h4,h2]⟩
   grew:=λb e fz hω=>by
    obtain ⟨e1,fz1,h1,h2,h3,h4⟩:=hF.grew b e fz hω;obtain ⟨e2,fz2,h5,h6,h7,h8⟩:=haft.grew b e1 fz1 h1;exact ⟨e2,fz2,h5,by omega,λhz=>h7 (h3 hz),λi v hi hc=>h8 i v (by omega) (h4 i v hi hc)⟩
   β:=λr hr=>by rw [haft.β r (by have:=hF.lev;simp;omega),hF.β r hr]
   own:=λp b hb=>by
    cases p with
    |tmp t=>exact hF.own _ b hb
    |box r =>
     rcases hO' r b hb with h1|⟨r',h1,h2⟩|⟨r',h1⟩
     ·exact .inl (Nat.le_trans hF.size h1)
     ·exact hF.boxM r' b h1 h2
     ·exact hF.own _ b h1
   boxM:=λr b hr hb=>by
    rw [hliv]at hr;rw [haft.β r (hlv r hr)]at hb;exact hF.boxM r b hr hb
   lev:=by show L.length=n;rw [hLl];exact hF.lev
   live:=λr hr=>by rw [hbox,hkind,<- qcn];exact hF.live r hr
   os:=by rw [haft.os,hF.os]
   out:=by rw [haft.out,hF.out]
   tape:=by rw [haft.tape,hF.tape]
   gl:=hF.gl
   gm:=hF.gm}
theorem qrT{args:List V}{vals:List Value}{Oa:List Nat}(h:RepL w X args vals Oa):RepL w (X.freeze Oa) (reflagL qjf args) vals []:=by
 refine RepL.flags (X:=X) (S:=λb=>b∈Oa) (D:=true) ?_ args vals Oa (λ_ h=>h) (λ_=>rfl) h;refine {β:=rfl,own:=λf=>by cases f<;>simp [qjf],dul:=λ_ _=>rfl,ω:=λ_ b e fz hω=>⟨_,frozen_ω hω⟩,sh:=?_};intro fl b e fz hω hS hsh _ hg;rw [frozen_ω hω];cases fl with
 |own=>simp [hS rfl]
 |shared=>simp [hsh rfl]
 |qap=>simp [qjf]at hg
theorem qnY{Oa:List Nat}(hd:Dom w X)(hOa:∀b∈Oa,∃e,X.ω b=some (e,false)):Eff w X w (X.freeze Oa) Oa where
 size:=Nat.le_refl _
 kept:=λ_ _ _=>rfl
 ωk:=λb _ hn=>by simp [Cx.freeze,hn]
 own:=λb hb e fz hω=>⟨e,true,by rw [frozen_ω hω];simp [hb],Nat.le_refl _,λ_=>rfl,λ_ _ _ h=>h,λc t hc=>⟨c,hc,rfl⟩⟩
 β:=rfl
 dom:=λb e fz hω=>by
  simp only [Cx.freeze]at hω;split at hω
  ·rename_i hb;obtain ⟨e',he'⟩:=hOa b hb;exact hd b e' _ he'
  ·exact hd b e fz hω
 os:=rfl
 out:=rfl
 tape:=rfl
theorem qBY{C:Orc}(hC:∀g args M r M',C.call g args M=some (r,M')->qbD P g args M r M'){w0:World}{X0:Cx}{Md:Md}{n:Nat}{st st1:St}{tmps:Array Value}{O:Pl->List Nat}{g:FuncId}{args:List V}{vals:List Value}{Oa:List Nat}{T:List Tmp}{z:V}{s:St}{d:Option Tmp}
  (h:Rel st tmps w X O) (hF:Fr w0 X0 Md n st w X O) (hst1:st1={st with E:=qG st.E T}) (ha:RepL w X args vals Oa) (hin:∀b∈Oa,∃t∈T,b∈O (.tmp t)) (hla:Lin Oa) (hpa:∀q∈ptrsL args,(st.box q).isSome=true)
  (hx:qho C g args st1=some (z,s)) :
  qvr (ptrsL args=[]\/(peekL st.box args).isSome=true) P g vals.toArray w λv w'=>∃X' O',Rel (s.put d z) (qyn tmps d v) w' X' O'/\Fr w0 X0 Md n (s.put d z) w' X' O'/\∀r,r.lvl<=st.L.length->X'.β r=X.β r:=by
 subst hst1;unfold qho at hx;have hOaω:=repL_own args vals Oa ha;have hOalt:=repL_dom h.dom args vals Oa ha;split at hx
 ·-- nothing but values
  rename_i hnp;split at hx
  ·rename_i r hr;obtain ⟨rfl,rfl⟩:=Prod.mk.inj (Option.some.inj hx);have hok:=hC _ _ _ _ _ hr w ((X.freeze Oa).callee (looseL args) λ_=>false) vals (λ_=>[])
    (by rw [show args.map V.share=reflagL q3 args from (qO _ _).symm];exact qBf ha (λ_ _=>rfl) (λ_ _=>rfl)) ((hF.now.freeze Oa).callee _ _)
    {
     box:=λr c hc=>by simp [qcl]at hc,boxD:=λ_ _=>rfl,inj:=λr r' b h1=>by simp [qcl]at h1,lin:=λ_=>Lin.nil,dis:=λ_ _ _ _ h=>by simp at h,ptrB:=λr c hc=>by simp [qcl]at hc,up:=λr c hc=>by simp [qcl]at hc
     dom:=λb e fz hω=>by
      simp only [Cx.callee,Cx.freeze,qf,if_false]at hω;by_cases hb:b∈Oa
      ·exact hOalt b hb
      ·rw [if_neg hb]at hω;obtain ⟨p,hp,_⟩:=qd.1 hω;exact h.dom b p.1 p.2 hp}
    (λq hq=>by rw [show args.map V.share=reflagL q3 args from (qO _ _).symm,ptrsL_reflag]at hq;rw [show ptrsL args=[] by simpa using hnp]at hq;simp at hq)
    (λ_ b e fz hω=>by
     simp only [Cx.callee,qf,if_false]at hω;obtain ⟨p,_,hc⟩:=qd.1 hω;split at hc
     ·cases hc;rfl
     ·cases hc)
   refine hok.mono (λ_=>.inl (by simpa using hnp)) ?_;rintro v w' ⟨X',O',Or,hrep,hlr,hlin,hfree,hpr,_,_,haft⟩;have hOr:∀b∈Or,w.heap.size<=b:=λb hb=>by
    rcases haft.own b (.inl hb)with h1|⟨q,h1,_⟩|⟨q,h1⟩
    ·exact h1
    ·simp [qcl]at h1
    ·simp at h1
   have hnoM:∀b,¬ Mod [] ((X.freeze Oa).callee (looseL args) λ_=>false) (λ_=>[]) b:=λb hb=>by
    rcases hb with ⟨q,h1,_⟩|⟨q,h1⟩
    ·simp [qcl]at h1
    ·simp at h1
   have hrp:r.qv=[]:=by
    cases hrr:r.qv with
    |nil=>rfl
    |cons q l=>have:=hpr q (by rw [hrr];simp);simp [qcl]at this
   let X2:Cx:=(X.freeze Oa).back X' w.heap.size λ_=>false
   have hX2:∀b,X2.ω b=if b<w.heap.size then (X.freeze Oa).ω b else X'.ω b:=λb=>by simp [X2,Cx.back]
   have heff:Eff w X w' X2 Oa:={
    size:=haft.size
    kept:=λb hb _=>(haft.kept b hb (hnoM b)).1
    ωk:=λb hb hn=>by rw [hX2,if_pos hb];simp [Cx.freeze,hn]
    own:=λb hb e fz hω=>by
     have hlt:=hOalt b hb;refine ⟨e,true,by rw [hX2,if_pos hlt,frozen_ω hω];simp [hb],Nat.le_refl _,λ_=>rfl,λi v _ hc=>by rw [cell_of_heap (haft.kept b hlt (hnoM b)).1];exact hc,λc t hc=>⟨c,by rw [(haft.kept b hlt (hnoM b)).1];exact hc,rfl⟩⟩
    β:=rfl
    dom:=λb e fz hω=>by
     rw [hX2]at hω;split at hω
     ·have:=haft.size;omega
     ·exact hlr.dom b e fz hω
    os:=haft.os
    out:=haft.out
    tape:=haft.tape}
   have hold:∀b e fz,X'.ω b=some (e,fz)->b<w.heap.size->fz=true/\∃fz1,(X.freeze Oa).ω b=some (e,fz1)/\(looseL args=false->fz1=true):=λb e fz hω hlt=>by
    rw [(haft.kept b hlt (hnoM b)).2]at hω;simp only [Cx.callee,qf,if_false]at hω;obtain ⟨p,hp,hc⟩:=qd.1 hω;split at hc
    ·rename_i h1;cases hc;refine ⟨rfl,p.2,hp,λhl=>by simpa [hl]using h1⟩
    ·cases hc
   have hrep1:Rep w' {X' with β:=X.β} r v Or:=Rep.ext (X:=X') (X':={X' with β:=X.β}) (w':=w') (R:=[]) (U:=λ_=>False)
    {β:=by simp,ω:=λb e fz h=>⟨e,fz,h,Nat.le_refl _,id,λ_=>⟨rfl,rfl⟩⟩,cell:=λ_ _ _ _ _ _ _ h=>h,obj:=λb e fz c t _ _ h=>⟨c,h,rfl⟩} _ _ _ (by rw [hrp];simp) (by simp) hrep
   have hz:Rep w' X2 (if looseL args=true then r.qbX else r) v Or:=by
    by_cases hl:looseL args=true
    ·rw [if_pos hl];refine Rep.flags' (qvV {X' with β:=X.β} X2 (λb=>b∈Or) rfl λb e fz hω=>?_) _ _ _ (λ_ h=>h) hrep1;rw [hX2];split
     ·rename_i hlt;obtain ⟨_,fz1,h1,_⟩:=hold b e fz hω hlt;exact ⟨fz1,h1,λhb=>by have:=hOr b hb;omega⟩
     ·exact ⟨fz,hω,λ_=>rfl⟩
    ·rw [if_neg hl];have hl':looseL args=false:=by simpa using hl
     refine Rep.ext (R:=[]) (U:=λ_=>False) {β:=by simp,ω:=λb e fz hω=>?_,cell:=λ_ _ _ _ _ _ _ h=>h,obj:=λb e fz c t _ _ h=>⟨c,h,rfl⟩} _ _ _ (by rw [hrp];simp) (by simp) hrep1;refine ⟨e,fz,?_,Nat.le_refl _,id,λ_=>⟨rfl,rfl⟩⟩;rw [hX2];split
     ·rename_i hlt;obtain ⟨rfl,fz1,h1,h2⟩:=hold b e fz hω hlt;rw [h1,h2 hl']
     ·exact hω
   refine ⟨X2,_,h.put (T:=T) d hin heff hz hlin (h.free hin λb hb=>.inr (hOr b hb)) (λq hq=>?_),Fr.put h hF (T:=T) d hin heff (λb hb=>.inr (hOr b hb)),λ_ _=>rfl⟩;have:(if looseL args=true then r.qbX else r).qv=[]:=by split<;>simp [V.qbX,ptrs_reflag,hrp]
   rw [this]at hq;simp at hq
  ·cases hx
 rename_i hnp0;split at hx
 ·-- a call that only looks
  split at hx
  ·rename_i xs hpk;split at hx
   ·rename_i hnp;split at hx
    ·rename_i r hr;split at hx
     ·rename_i hmine;obtain ⟨rfl,rfl⟩:=Prod.mk.inj (Option.some.inj hx);have hpk':peekL st.box args=some xs:=hpk;have hok:=hC _ _ _ _ _ hr w (X.qlu w) vals (λ_=>[])
       (qFt (Ob:=λr=>O (.box r)) (λr c hrc=>h.box r c hrc) args xs vals Oa hpk' ha) hF.now.qlu
       {
        box:=λr c hc=>by simp [qcl]at hc,boxD:=λ_ _=>rfl,inj:=λr r' b h1=>by simp [qcl]at h1,lin:=λ_=>Lin.nil,dis:=λ_ _ _ _ h=>by simp at h,ptrB:=λr c hc=>by simp [qcl]at hc,up:=λr c hc=>by simp [qcl]at hc
        dom:=qFv h.dom}
       (λq hq=>by rw [show ptrsL xs=[] by simpa using hnp]at hq;simp at hq)
       (λ_ b e fz hω=>qyj hω)
      refine hok.mono (λ_=>.inr (by rw [hpk'];rfl)) ?_;rintro v w' ⟨X',O',Or,hrep,hlr,hlin,hfree,hpr,_,_,haft⟩;have hOr:∀b∈Or,w.heap.size<=b:=λb hb=>by
       rcases haft.own b (.inl hb)with h1|⟨q,h1,_⟩|⟨q,h1⟩
       ·exact h1
       ·simp [qcl]at h1
       ·simp at h1
      have hnoM:∀b,¬ Mod [] (X.qlu w) (λ_=>[]) b:=λb hb=>by
       rcases hb with ⟨q,h1,_⟩|⟨q,h1⟩
       ·simp [qcl]at h1
       ·simp at h1
      have hrp:r.qv=[]:=by
       cases hrr:r.qv with
       |nil=>rfl
       |cons q l=>have:=hpr q (by rw [hrr];simp);simp [qcl]at this
      let X2:Cx:=(X.freeze Oa).back X' w.heap.size λ_=>false
      have hX2:∀b,X2.ω b=if b<w.heap.size then (X.freeze Oa).ω b else X'.ω b:=λb=>by simp [X2,Cx.back]
      have heff:Eff w X w' X2 Oa:={
       size:=haft.size
       kept:=λb hb _=>(haft.kept b hb (hnoM b)).1
       ωk:=λb hb hn=>by rw [hX2,if_pos hb];simp [Cx.freeze,hn]
       own:=λb hb e fz hω=>by
        have hlt:=hOalt b hb;refine ⟨e,true,by rw [hX2,if_pos hlt,frozen_ω hω];simp [hb],Nat.le_refl _,λ_=>rfl,λi v _ hc=>by rw [cell_of_heap (haft.kept b hlt (hnoM b)).1];exact hc,λc t hc=>⟨c,by rw [(haft.kept b hlt (hnoM b)).1];exact hc,rfl⟩⟩
       β:=rfl
       dom:=λb e fz hω=>by
        rw [hX2]at hω;split at hω
        ·have:=haft.size;omega
        ·exact hlr.dom b e fz hω
       os:=haft.os
       out:=haft.out
       tape:=haft.tape}
      have hz:Rep w' X2 r v Or:=Rep.qd0 r v Or hmine (λb hb=>by
       have:=hOr b hb;rw [hX2,if_neg (by omega)]) hrep
      exact ⟨X2,_,h.put (T:=T) d hin heff hz hlin (h.free hin λb hb=>.inr (hOr b hb)) (λq hq=>by rw [hrp]at hq;simp at hq),Fr.put h hF (T:=T) d hin heff (λb hb=>.inr (hOr b hb)),λ_ _=>rfl⟩
     ·cases hx
    ·cases hx
   ·cases hx
  ·cases hx
 ·-- with boxes
  split at hx
  ·rename_i r M' hr;split at hx
   ·rename_i L B hsp;split at hx
    ·rename_i hll;obtain ⟨rfl,rfl⟩:=Prod.mk.inj (Option.some.inj hx);have heff:=qnY h.dom hOaω;have h1:=h.put (T:=T) (d:=none) (z:=.undef) (v:=undef) (O':=[]) hin heff (by simp [Rep]) Lin.nil (by simp) (by simp [V.qv]);have hF1:=Fr.put (z:=.undef) h hF (T:=T) (O':=[]) none hin heff (by simp);change Rel {st with E:=qG st.E T} tmps w _ _ at h1
     change Fr w0 X0 Md n {st with E:=qG st.E T} w _ _ at hF1
     have hok:=hC _ _ _ _ _ hr w (X.freeze Oa) vals _ (by rw [show args.map V.hand=reflagL qjf args from (qO _ _).symm];exact qrT ha) (hF.now.freeze Oa) h1.qJA
      (λq hq=>by
       rw [show args.map V.hand=reflagL qjf args from (qO _ _).symm,ptrsL_reflag]at hq;rw [<- qcn];exact hpa q hq) (λe=>by simp at e)
     refine hok.mono (λe=>by simp at e) ?_;rintro v w' ⟨X',O',Or,hrep,hlr,hlin,hfree,hpr,hlen,hlive,haft⟩;obtain ⟨h2,hF2⟩:=qvI h1 hF1 hlr hlen hlive (λq b hb=>.inr ⟨q,hb⟩) haft (qhy hsp);have hOr:∀b∈Or,∀q,b∉qGX (ql5 O T none st.E.length []) O' q:=λb hb q hbq=>by
      cases q with
      |box r'=>exact hfree r' b hb hbq
      |tmp t =>
       rcases haft.own b (.inl hb)with h3|⟨q,h3,h4⟩|⟨q,h3⟩
       ·have:=h1.qHx (.tmp t) b hbq;omega
       ·obtain ⟨c,hc⟩:=Option.isSome_iff_exists.1 h3;obtain ⟨b',hb',_,hω,_⟩:=h1.qJA.box q c hc;rw [h4]at hb';cases hb';obtain ⟨e,he⟩:=h1.ownω (.tmp t) b hbq;rw [hω]at he;cases he
       ·exact h1.dis (.tmp t) (.box q) (by simp) b hbq h3
     refine ⟨X',_,h2.quP d hrep hlin hOr (λq hq=>?_),hF2.quP d (λb hb=>?_),λq hq=>haft.β q (by simp;omega)⟩
     ·rw [qcn];show (qcl (L++[B]) q).isSome=true;rw [<- qhy hsp];exact hpr q hq
     ·rcases haft.own b (.inl hb)with h3|⟨q,h3,h4⟩|⟨q,h3⟩
      ·exact .inl (Nat.le_trans hF1.size h3)
      ·have h3':(({st with E:=qG st.E T}:St).box q).isSome=true:=by rw [qcn];exact h3
       exact hF1.boxM q b h3' h4
      ·exact hF1.own _ b h3
    ·cases hx
   ·cases hx
  ·cases hx
end
section
variable {P:Program} {H:Hints} {f:FuncId} {w:World} {X:Cx}
def Ex.qxM:Ex->Exit
 |.normal=>.normal
 |.exit id=>.exit id
 |.ret=>.ret
def qfX(w0 w:World)(X:Cx)(D:List Deferred):Prop :=
 ∃ks:List Nat,D=ks.map (λk=>{target:=.collected k,args:=#[]})/\ks.Nodup/\∀k∈ks,w0.heap.size<=k/\w.heap[k]?=some (.deferred (some []))/\X.ω k=none
def qnN(w0:World)(X0:Cx)(Md:Md)(n:Nat)(st:St)(a:Act)(w:World):Prop :=
 ∃X O,Rel st a.tmps w X O/\Fr w0 X0 Md n st w X O/\qfX w0 w X a.defers
def FOk(F:Fence)(X0:Cx)(Md:Md)(n:Nat):Prop :=
 (F=Fence.wide\/∃r l,F=Fence.wide.inRound l/\r.lvl<n/\X0.β r=some l/\Md.kind r=some true)/\(n=0->∀b e fz,X0.ω b=some (e,fz)->fz=true)
def qjB(F:Fence)(P:Program)(c:Code)(Q:Exit->Act->World->Prop)(a:Act)(w:World):Prop :=
 ∀I:Act->World->Prop,(∀a w,c.wpIn F 0 P (Exit.then I Q) a w->I a w)->I a w
def codeOk(F:Fence)(P:Program)(c:Code)(Q:Exit->Act->World->Prop)(a:Act)(w:World):Prop :=
 match c with
 |.loop c=>qjB F P c Q a w
 |c=>c.wpIn F 0 P Q a w
theorem qxc{I I':Act->World->Prop}{Q Q':Exit->Act->World->Prop}(h:∀a w,I a w->I' a w)(hq:∀e a w,Q e a w->Q' e a w):∀e a w,Exit.then I Q e a w->Exit.then I' Q' e a w:=by
 intro e a w he;cases e<;>first|exact h _ _ he|exact hq _ _ _ he
theorem qjB.close{F:Fence}{c:Code}{Q:Exit->Act->World->Prop}{a:Act}{w:World}(h:c.wpIn F 0 P (Exit.then (qjB F P c Q) Q) a w):qjB F P c Q a w :=
 λI hI=>hI a w (wpIn_mono h (qxc (λa w h=>h I hI) (λ_ _ _ h=>h)))
theorem qjB.mono{F:Fence}{c:Code}{Q Q':Exit->Act->World->Prop}{a:Act}{w:World}(h:qjB F P c Q a w)(hq:∀e a w,Q e a w->Q' e a w):qjB F P c Q' a w :=
 λI hI=>h I λa w ha=>hI a w (wpIn_mono ha (qxc (λ_ _ h=>h) hq))
theorem qjB.wp{F:Fence}{c:Code}{Q:Exit->Act->World->Prop}{a:Act}{w:World}(h:qjB F P c Q a w):(Code.loop c).wpIn F 0 P Q a w:=by
 intro b k cs hro hb hr;have key:=h (λa w=>∃e a' w',Q e a' w'/\ArrivesIn (Machine.fenced P F) P (lone (b.atR a (.code c::.inLoop c::k)) cs w) b k cs e a' w') (by
  intro a w ha;obtain ⟨e,a₁,w₁,hq,harr⟩:=ha b (.inLoop c::k) cs hro hb hr;cases e with
  |normal =>
   obtain ⟨e₂,a₂,w₂,hq₂,harr₂⟩:=hq;exact ⟨e₂,a₂,w₂,hq₂,.of_steps (StepsIn.trans harr (.one (fenced_calm hb hr rfl) stepR_inLoop)) harr₂⟩
  |exit id=>exact ⟨_,a₁,w₁,hq,.pass (x:=.inLoop c) rfl (λ_ _=>.inl (by simp)) harr⟩
  |goto l=>exact ⟨_,a₁,w₁,hq,.pass (x:=.inLoop c) rfl (λ_ _=>.inl (by simp)) harr⟩
  |ret=>exact ⟨_,a₁,w₁,hq,.pass (x:=.inLoop c) rfl (λ_ _=>.inl (by simp)) harr⟩
  |panic ch=>exact ⟨_,a₁,w₁,hq,.pass (x:=.inLoop c) rfl (λ_ _=>.inl (by simp)) harr⟩
  |outgrown=>exact ⟨_,a₁,w₁,hq,.pass (x:=.inLoop c) rfl (λ_ _=>.inl (by simp)) harr⟩)
 obtain ⟨e,a',w',hq,harr⟩:=key;exact ⟨e,a',w',hq,.of_steps (.one (fenced_calm hb hr rfl) stepR_loop) harr⟩
theorem codeOk.wp{F:Fence}{c:Code}{Q:Exit->Act->World->Prop}{a:Act}{w:World}(h:codeOk F P c Q a w):c.wpIn F 0 P Q a w:=by
 cases c with
 |loop c=>exact qjB.wp h
 |_=>exact h
def qBE(P:Program)(c:Code)(st:St)(e:Ex)(st':St):Prop :=
 ∀(F:Fence) (w0:World) (X0:Cx) (Md:Md) (n:Nat) (a:Act) (w:World),FOk F X0 Md n->qnN w0 X0 Md n st a w ->
  codeOk F P c (λe' a' w'=>e'=e.qxM/\qnN w0 X0 Md n st' a' w') a w
structure OrcOk (P:Program) (C:Orc):Prop where
 call:∀g args M r M',C.call g args M=some (r,M')->qbD P g args M r M'
 code:∀f bid c st e st',C.code f bid c st=some (e,st')->qBE P c st e st'
 born:∀g args r s es,C.born g args=some (r,s,es)->qBD P g args r s es
 seq:∀g c,C.seq g=some c->qGS P g c
def qsX(O:Root->List Nat):Pl->List Nat
 |.tmp _=>[]
 |.box r=>O r
theorem qfZ(E:List V)(M:List Level)(r:Root):({E:=E,L:=M,B:=[]}:St).box r=qcl M r:=by
 unfold St.box qcl;by_cases h:r.lvl=M.length
 ·simp [h,qz]
 ·simp only [h,if_false];cases M[r.lvl]?<;>rfl
theorem qwT{M:List Level}{O:Root->List Nat}(hgl:qjA w X)(h:LRel M w X O){E:List V}{tmps:Array Value}(hE:RepL w X E tmps.toList [])(hp:∀r∈ptrsL E,(qcl M r).isSome=true) :
  Rel {E:=E,L:=M,B:=[]} tmps w X (qsX O)/\Fr w X (Mod M X O) M.length {E:=E,L:=M,B:=[]} w X (qsX O):=by
 have hR:Rel {E:=E,L:=M,B:=[]} tmps w X (qsX O):={
   size:=by rw [qQ _ _ _ hE];simp
   env:=λt x hx=>by
    obtain ⟨v,Oi,hv,hr,hc⟩:=qqb t hE hx;have:Oi=[]:=by
     cases Oi with
     |nil=>rfl
     |cons b l=>have:=hc b;simp at this
    subst this;exact ⟨v,by simpa using hv,hr⟩
   envD:=λ_ _=>rfl
   box:=λr c hr=>by rw [qfZ]at hr;exact h.box r c hr
   boxD:=λr hr=>by rw [qfZ]at hr;exact h.boxD r hr
   inj:=λr r' b h1 h2=>by rw [qfZ]at h1 h2;exact h.inj r r' b h1 h2
   lin:=λp=>by cases p with|tmp t=>exact Lin.nil|box r=>exact h.lin r
   dis:=λp q hpq b hb hbq=>by
    cases p with
    |tmp t=>simp [qsX]at hb
    |box r=>cases q with
     |tmp t=>simp [qsX]at hbq
     |box r'=>exact h.dis r r' (λe=>hpq (by rw [e])) b hb hbq
   ptrE:=λr hr=>by rw [qfZ];exact hp r hr
   ptrB:=λr c hr r' hr'=>by rw [qfZ]at hr ⊢;exact h.ptrB r c hr r' hr'
   up:=λr c hr=>by rw [qfZ]at hr;exact h.up r c hr
   dom:=h.dom}
 refine ⟨hR,?_⟩
 ·exact {
   size:=Nat.le_refl _
   kept:=λ_ _ _=>⟨rfl,rfl⟩
   grew:=λb e fz hω=>⟨e,fz,hω,Nat.le_refl _,id,λ_ _ _ h=>h⟩
   β:=λ_ _=>rfl
   own:=λp b hb=>by
    cases p with
    |tmp t=>simp [qsX]at hb
    |box r=>exact .inr (.inr ⟨r,hb⟩)
   boxM:=λr b hr hb=>by rw [qfZ]at hr;exact .inr (.inl ⟨r,hr,hb⟩)
   lev:=rfl
   live:=λr _=>by rw [qfZ];rfl
   os:=rfl
   out:=rfl
   tape:=rfl
   gl:=hgl
   gm:=λx hx hm=>by
    obtain ⟨⟨e,he⟩,_⟩:=hgl x hx;rcases hm with ⟨r,h1,h2⟩|⟨r,h1⟩
    ·obtain ⟨c,hc⟩:=Option.isSome_iff_exists.1 h1;obtain ⟨b',hb',_,hω,_⟩:=h.box r c hc;rw [h2]at hb';cases hb';rw [he]at hω;cases hω
    ·obtain ⟨e',he'⟩:=hR.ownω (.box r) x.1 h1;rw [he]at he';cases he'}
theorem qxu{M:List Level}{r:Root}(h:(qcl M r).isSome=true):r.lvl<M.length:=by
 unfold qcl at h;rcases Nat.lt_or_ge r.lvl M.length with h1|h1
 ·exact h1
 ·rw [List.getElem?_eq_none h1]at h;simp at h
theorem qfu{st:St}{r:Root}:qcl st.L r=if r.lvl<st.L.length then st.box r else none:=by
 unfold St.box qcl;by_cases h:r.lvl<st.L.length
 ·rw [if_pos h,if_neg (by omega)];rfl
 ·rw [if_neg h,List.getElem?_eq_none (by omega)]
def qlm(n:Nat)(O:Pl->List Nat):Root->List Nat:=λr=>if r.lvl<n then O (.box r)else []
theorem qrR{w0:World}{X0:Cx}{M:List Level}{O0:Root->List Nat}{st:St}{tmps:Array Value}{O:Pl->List Nat}(h:Rel st tmps w X O)(hF:Fr w0 X0 (Mod M X0 O0) M.length st w X O) :
  LRel st.L w X (qlm M.length O)/\st.L.length=M.length/\(∀q,(qcl st.L q).map qaE=(qcl M q).map qaE):=by
 have hl:=hF.lev;have hb:∀r c,qcl st.L r=some c->r.lvl<M.length/\st.box r=some c:=λr c hr=>by
  have h1:=qxu (M:=st.L) (r:=r) (by simp [hr]);rw [qfu,if_pos h1]at hr;exact ⟨by omega,hr⟩
 refine ⟨{box:=?_,boxD:=?_,inj:=?_,lin:=?_,dis:=?_,ptrB:=?_,up:=?_,dom:=h.dom},hl,?_⟩
 ·intro r c hr;obtain ⟨h1,h2⟩:=hb r c hr;simpa [qlm,h1]using h.box r c h2
 ·intro r hr;rw [qfu]at hr;unfold qlm;split
  ·rename_i h1;rw [if_pos (by omega)]at hr;exact h.boxD r hr
  ·rfl
 ·intro r r' b h1 h2;obtain ⟨c,hc⟩:=Option.isSome_iff_exists.1 h1;obtain ⟨c',hc'⟩:=Option.isSome_iff_exists.1 h2;exact h.inj r r' b (by simp [(hb r c hc).2]) (by simp [(hb r' c' hc').2])
 ·intro r;unfold qlm;split
  ·exact h.lin _
  ·exact Lin.nil
 ·intro r r' hne b hb1 hb2;unfold qlm at hb1 hb2;split at hb1
  ·split at hb2
   ·exact h.dis (.box r) (.box r') (by simpa using hne) b hb1 hb2
   ·simp at hb2
  ·simp at hb1
 ·intro r c hr r' hr';obtain ⟨h1,h2⟩:=hb r c hr;have h3:=h.up r c h2 r' hr';rw [qfu,if_pos (by omega)];exact h.ptrB r c h2 r' hr'
 ·intro r c hr;exact h.up r c (hb r c hr).2
 ·intro q;by_cases hq:q.lvl<M.length
  ·rw [qfu,if_pos (by omega)];exact hF.live q hq
  ·have h1:qcl st.L q=none:=by rw [qfu,if_neg (by omega)]
   have h2:qcl M q=none:=by
    cases hh:qcl M q with
    |none=>rfl
    |some c=>have:=qxu (M:=M) (r:=q) (by simp [hh]);omega
   rw [h1,h2]
theorem qGt{w0:World}{X0:Cx}{M:List Level}{O0:Root->List Nat}{st:St}{O:Pl->List Nat}(hF:Fr w0 X0 (Mod M X0 O0) M.length st w X O){ow:Nat->Prop}(how:∀b,ow b->∃p,b∈O p) :
  Aft w0 X0 (Mod M X0 O0) M.length w X ow where
 size:=hF.size
 kept:=hF.kept
 grew:=hF.grew
 β:=hF.β
 own:=λb hb=>by obtain ⟨p,hp⟩:=how b hb;exact hF.own p b hp
 os:=hF.os
 out:=hF.out
 tape:=hF.tape
theorem qtf{n:Nat}{O:Pl->List Nat}{r:Root}{b:Nat}(h:b∈qlm n O r):b∈O (.box r):=by
 unfold qlm at h;split at h
 ·exact h
 ·simp at h
theorem qfX.of{w0 w':World}{X':Cx}{D:List Deferred}(h:qfX w0 w X D)(hk:∀k,w.heap[k]?=some (.deferred (some []))->X.ω k=none->w0.heap.size<=k->w'.heap[k]?=w.heap[k]?/\X'.ω k=X.ω k):qfX w0 w' X' D:=by
 obtain ⟨ks,h1,h2,h3⟩:=h;refine ⟨ks,h1,h2,λk hks=>?_⟩;obtain ⟨h4,h5,h6⟩:=h3 k hks;obtain ⟨h7,h8⟩:=hk k h5 h6 h4;exact ⟨h4,by rw [h7,h5],by rw [h8,h6]⟩
theorem qzB{b k:Nat}{c:List V}{O:List Nat}(h:qsH w X b c O)(hk:w.heap[k]?=some (.deferred (some []))):k≠b:=λe=>by
 subst e;rcases h with ⟨cs,t,h1,_⟩|⟨s,pe,g,env,ps,asg,body,lo,_,h1,_⟩|⟨es,ents,ck,_,h1,_⟩<;>rw [h1]at hk<;>cases hk
theorem qDr{w0:World}{X0:Cx}{Md':Md}{n:Nat}{st:St}{tmps:Array Value}{df:List Deferred}{O:Pl->List Nat}(hR:Rel st tmps w X O)(hF:Fr w0 X0 Md' n st w X O)(hM:qfX w0 w X df) :
  ∃Md2:Md,Fr w X Md2 n st w X O/\Md2.kind=Md'.kind /\
   ∀st' w' X' O',Fr w X Md2 n st' w' X' O'->Fr w0 X0 Md' n st' w' X' O'/\qfX w0 w' X' df:=by
 obtain ⟨ks,hD,hnd,hks⟩:=hM;let Md2:Md:={may:=λb=>(b<w0.heap.size->Md' b)/\b∉ks,kind:=Md'.kind}
 have hbk:∀r b,(st.box r).isSome=true->X.β r=some b->b∉ks:=λr b hr hb hbk=>by
  obtain ⟨c,hc⟩:=Option.isSome_iff_exists.1 hr;obtain ⟨b',hb',_,_,hbx⟩:=hR.box r c hc;rw [hb]at hb';cases hb';exact qzB hbx (hks b hbk).2.1 rfl
 refine ⟨Md2,?_,rfl,?_⟩
 ·exact {
   size:=Nat.le_refl _
   kept:=λ_ _ _=>⟨rfl,rfl⟩
   grew:=λb e fz hω=>⟨e,fz,hω,Nat.le_refl _,id,λ_ _ _ h=>h⟩
   β:=λ_ _=>rfl
   own:=λp b hb=>by
    refine .inr ⟨λhlt=>?_,λhbk=>?_⟩
    ·rcases hF.own p b hb with h1|h1
     ·omega
     ·exact h1
    ·obtain ⟨e,he⟩:=hR.ownω p b hb;rw [(hks b hbk).2.2]at he;cases he
   boxM:=λr b hr hb=>by
    refine .inr ⟨λhlt=>?_,hbk r b hr hb⟩;rcases hF.boxM r b hr hb with h1|h1
    ·omega
    ·exact h1
   lev:=hF.lev
   live:=hF.live
   os:=rfl
   out:=rfl
   tape:=rfl
   gl:=hF.now
   gm:=λx hx hm=>hF.gm x hx (hm.1 (hF.gl.lt hx))}
 ·intro st' w' X' O' hF';refine ⟨?_,ks,hD,hnd,λk hk=>?_⟩
  ·exact {
    size:=Nat.le_trans hF.size hF'.size
    kept:=λb hb hM=>by
     obtain ⟨h1,h2⟩:=hF.kept b hb hM;obtain ⟨h3,h4⟩:=hF'.kept b (Nat.lt_of_lt_of_le hb hF.size) (λhm=>hM (hm.1 hb));exact ⟨by rw [h3,h1],by rw [h4,h2]⟩
    grew:=λb e fz hω=>by
     obtain ⟨e1,fz1,h1,h2,h3,h4⟩:=hF.grew b e fz hω;obtain ⟨e2,fz2,h5,h6,h7,h8⟩:=hF'.grew b e1 fz1 h1;exact ⟨e2,fz2,h5,by omega,λhz=>h7 (h3 hz),λi v hi hc=>h8 i v (by omega) (h4 i v hi hc)⟩
    β:=λr hr=>by rw [hF'.β r hr,hF.β r hr]
    own:=λp b hb=>by
     have:=hF.size;rcases hF'.own p b hb with h1|h1
     ·exact .inl (by omega)
     ·rcases Nat.lt_or_ge b w0.heap.size with h2|h2
      ·exact .inr (h1.1 h2)
      ·exact .inl h2
    boxM:=λr b hr hb=>by
     have:=hF.size;rcases hF'.boxM r b hr hb with h1|h1
     ·exact .inl (by omega)
     ·rcases Nat.lt_or_ge b w0.heap.size with h2|h2
      ·exact .inr (h1.1 h2)
      ·exact .inl h2
    lev:=hF'.lev
    live:=hF'.live
    os:=by rw [hF'.os,hF.os]
    out:=by rw [hF'.out,hF.out]
    tape:=by rw [hF'.tape,hF.tape]
    gl:=hF.gl
    gm:=hF.gm}
  ·obtain ⟨h1,h2,h3⟩:=hks k hk;obtain ⟨h4,h5⟩:=hF'.kept k (Array.getElem?_eq_some_iff.1 h2).1 (λhm=>hm.2 hk);exact ⟨h1,by rw [h4,h2],by rw [h5,h3]⟩
theorem qDq{w0:World}{X0:Cx}{Md':Md}{n:Nat}{st:St}{tmps:Array Value}{df:List Deferred}{O:Pl->List Nat}(hR:Rel st tmps w X O)(hF:Fr w0 X0 Md' n st w X O)(hM:qfX w0 w X df) :
  ∃Md2:Md,Fr w X Md2 n st w X O/\Md2.kind=Md'.kind /\
   ∀st' (tmps':Array Value) w',Sim w X Md2 n st' tmps' w'->qnN w0 X0 Md' n st' {tmps:=tmps',defers:=df} w':=by
 obtain ⟨Md2,h1,h2,h3⟩:=qDr hR hF hM;exact ⟨Md2,h1,h2,λst' tmps' w' ⟨X',O',hR',hF'⟩=>⟨X',O',hR',(h3 st' w' X' O' hF').1,(h3 st' w' X' O' hF').2⟩⟩
theorem qI1{w0:World}{X0:Cx}{Md':Md}{n:Nat}{st:St}{a:Act}(h:qnN w0 X0 Md' n st a w) :
  ∃(X:Cx) (Md2:Md),Sim w X Md2 n st a.tmps w/\(∀r,r.lvl<n->X.β r=X0.β r)/\Md2.kind=Md'.kind /\
   ∀st' (tmps':Array Value) w',Sim w X Md2 n st' tmps' w'->qnN w0 X0 Md' n st' {tmps:=tmps',defers:=a.defers} w':=by
 obtain ⟨X,O,hR,hF,hM⟩:=h;obtain ⟨Md2,h1,h2,h3⟩:=qDq hR hF hM;exact ⟨X,Md2,⟨X,O,hR,h1⟩,hF.β,h2,h3⟩
end
section
variable {P:Program} {H:Hints} {f:FuncId} {w:World} {X:Cx}
theorem handed{w0:World}{X0:Cx}{Md:Md}{n:Nat}{st:St}{tmps:Array Value}{O:Pl->List Nat}(h:Rel st tmps w X O)(hF:Fr w0 X0 Md n st w X O){args:List V}{vals:List Value}{Oa:List Nat}{T:List Tmp}
  (ha:RepL w X args vals Oa) (hin:∀b∈Oa,∃t∈T,b∈O (.tmp t)) :
  Rel {st with E:=qG st.E T} tmps w (X.freeze Oa) (ql5 O T none st.E.length [])/\Fr w0 X0 Md n {st with E:=qG st.E T} w (X.freeze Oa) (ql5 O T none st.E.length []) /\
   RepL w (X.freeze Oa) (args.map V.hand) vals []:=by
 have hOaω:=repL_own args vals Oa ha;have heff:=qnY h.dom hOaω;have h1:=h.put (T:=T) (d:=none) (z:=.undef) (v:=undef) (O':=[]) hin heff (by simp [Rep]) Lin.nil (by simp) (by simp [V.qv]);have hF1:=Fr.put (z:=.undef) h hF (T:=T) (O':=[]) none hin heff (by simp);exact ⟨h1,hF1,by rw [show args.map V.hand=reflagL qjf args from (qO _ _).symm];exact qrT ha⟩
theorem qzu{w0:World}{X0:Cx}{Md:Md}{n:Nat}{st:St}{tmps:Array Value}{O:Pl->List Nat}(h:Rel st tmps w X O)(hF:Fr w0 X0 Md n st w X O){r:Root}{b:Nat}{s:LoopState}{pe:Option Code}{g:FuncId}{env:List V}{ps:List Tmp}{asz bo:Code}
  (hst:st.box r=some [.lp s pe g env ps asz bo]) (hb:X.β r=some b) :
  ∃lo:Loop,w.heap[b]?=some (.loop lo)/\lo.state=s/\lo.pending=pe/\lo.params.toList=ps/\lo.assign=asz/\lo.body=bo/\RepL w X env lo.tmps.toList [] /\
   (∀k,w.heap[k]?=some (.deferred (some []))->k≠b) /\
   ∀s' pe',Rel (st.qu r [.lp s' pe' g env ps asz bo]) tmps (w.putObj b (.loop {lo with state:=s',pending:=pe'})) X (qxm O r []) /\
    Fr w0 X0 Md n (st.qu r [.lp s' pe' g env ps asz bo]) (w.putObj b (.loop {lo with state:=s',pending:=pe'})) X (qxm O r []):=by
 obtain ⟨b',hb',hlt,hω,hbx⟩:=h.box r _ hst;obtain rfl:b=b':=by rw [hb]at hb';exact Option.some.inj hb'
 rcases hbx with ⟨cs,t,_,h2⟩|⟨s1,pe1,g1,env1,ps1,asg,body,lo,hc,hw,h1,h2,_,h3,h4,h5,h6,h7⟩|⟨es,ents,ck,hc,_⟩
 ·have:=qui h2;simp [qg3]at this
 ·simp only [List.cons.injEq,V.lp.injEq,and_true]at hc;obtain ⟨rfl,rfl,rfl,rfl,rfl,rfl,rfl⟩:=hc;refine ⟨lo,hw,h1,h2,h3,h4,h5,h6,λk hk e=>?_,λs' pe'=>?_⟩
  ·subst e;rw [hw]at hk;cases hk
  ·have hk:∀k,k≠b->(w.putObj b (.loop {lo with state:=s',pending:=pe'})).heap[k]?=w.heap[k]?:=λk hk=>World.putObj_heap_other hk;have hsz:(w.putObj b (.loop {lo with state:=s',pending:=pe'})).heap.size=w.heap.size:=by simp [World.putObj]
   refine ⟨h.qu hst hb hk hsz ?_ Lin.nil (by simp) (λr' hr'=>?_),Fr.qu h hF hst hb rfl hk hsz (by simp) rfl rfl rfl⟩
   ·exact .inr (.inl ⟨s',pe',g,env,ps,asz,bo,{lo with state:=s',pending:=pe'},rfl,World.putObj_heap_same hlt,rfl,rfl,rfl,h3,h4,h5,qzS hω hk h6,rfl⟩)
   ·have hr2:r'∈ptrsL [V.lp s pe g env ps asz bo]:=by simpa [ptrsL,V.qv]using hr'
    exact ⟨h.ptrB r _ hst r' hr2,h.up r _ hst r' hr2⟩
 ·cases hc
theorem qzT:∀(i:Nat) {l:List V} {vals:List Value} {x:V} {v:Value},RepL w X l vals []->Rep w X x v []->RepL w X (l.set i x) (vals.set i v) []
 |i,[],vals,x,v,h,hx=>by simp only [RepL]at h;simp [h.1,RepL]
 |0,y::l,vals,x,v,h,hx=>by
  simp only [RepL]at h;obtain ⟨u,vs,O1,O2,rfl,hO,h1,h2⟩:=h;simp only [List.nil_eq,List.append_eq_nil_iff]at hO;obtain ⟨rfl,rfl⟩:=hO;simp only [List.set_cons_zero,RepL];exact ⟨v,vs,[],[],rfl,rfl,hx,h2⟩
 |i+1,y::l,vals,x,v,h,hx=>by
  simp only [RepL]at h;obtain ⟨u,vs,O1,O2,rfl,hO,h1,h2⟩:=h;simp only [List.nil_eq,List.append_eq_nil_iff]at hO;obtain ⟨rfl,rfl⟩:=hO;simp only [List.set_cons_succ,RepL];exact ⟨u,_,[],[],rfl,rfl,h1,qzT i h2 hx⟩
theorem qrX:∀(ps:List Tmp) (args:List V) (vals:List Value) (env:List V) (tmps:Array Value),RepL w X env tmps.toList []->RepL w X args vals [] ->
  RepL w X (qgx env ps args) ((ps.zip vals).foldl (λtmps (t,a)=>tmps.setIfInBounds t a) tmps).toList []
 |[],args,vals,env,tmps,h,_=>by simpa [qgx]using h
 |t::ps,[],vals,env,tmps,h,ha=>by simp only [RepL]at ha;simpa [qgx,ha.1]using h
 |t::ps,x::args,vals,env,tmps,h,ha=>by
  simp only [RepL]at ha;obtain ⟨u,vs,O1,O2,rfl,hO,h1,h2⟩:=ha;simp only [List.nil_eq,List.append_eq_nil_iff]at hO;obtain ⟨rfl,rfl⟩:=hO;simp only [qgx,List.zip_cons_cons,List.foldl_cons];exact qrX ps args vs (env.set t x) (tmps.setIfInBounds t u) (by rw [Array.toList_setIfInBounds];exact qzT t h h1) h2
theorem qrL:∀(ps:List Tmp) (args env:List V) (r:Root),r∈ptrsL (qgx env ps args)->r∈ptrsL env\/r∈ptrsL args
 |[],args,env,r,h=>.inl (by simpa [qgx]using h)
 |t::ps,[],env,r,h=>.inl (by simpa [qgx]using h)
 |t::ps,x::args,env,r,h=>by
  rcases qrL ps args (env.set t x) r h with h1|h1
  ·rcases mem_set h1 with h2|h2
   ·exact .inl h2
   ·exact .inr (by simp [ptrsL,h2])
  ·exact .inr (by simp [ptrsL,h1])
theorem quY{C:Orc}(hC:OrcOk P C){w0:World}{X0:Cx}{Md:Md}{n:Nat}{st:St}{tmps:Array Value}{O:Pl->List Nat}(h:Rel st tmps w X O)(hF:Fr w0 X0 Md n st w X O){r:Root}{args:List V}{vals:List Value}{z:V}{s:St}{b:Nat}
  (ha:RepL w X (args.map V.hand) vals []) (hpa:∀q∈ptrsL args,(st.box q).isSome=true) (hx:qnJ C r args st=some (z,s)) (hb:X.β r=some b) :
  ∃lo:Loop,w.heap[b]?=some (.loop lo)/\vals.length=lo.params.size/\∀F:Fence,(F=Fence.wide\/∃l,F=Fence.wide.inRound l) ->
   RoundIn F 0 P b lo.fn ((lo.params.zip vals.toArray).foldl (λtmps (t,a)=>tmps.setIfInBounds t a) lo.tmps) lo.assign lo.body w fun
    |.returned v,w'=>∃X' O',Rel s tmps w' X' O'/\Fr w0 X0 Md n s w' X' O'/\Rep w' X' z v []/\z.qv=[]
    |_,_=>False:=by
 unfold qnJ at hx;split at hx
 ·rename_i pe g env ps assign body hst;split at hx
  ·cases hx
  ·rename_i hlen;split at hx
   ·rename_i s2 hA;split at hx
    ·rename_i pe2 g2 env2 ps2 as2 bo2 hs2;split at hx
     ·rename_i e s3 hB;split at hx
      ·rename_i st3 pe3 g3 env3 ps3 as3 bo3 hs3;split at hx
       ·rename_i L B hsp;split at hx
        ·rename_i hll;obtain ⟨rfl,rfl⟩:=Prod.mk.inj (Option.some.inj hx);obtain ⟨lo,hw,hst1,hpe1,hps,has,hbo,henv,hnm,_⟩:=qzu h hF hst hb;have hvl:vals.length=args.length:=by have:=qQ _ _ _ ha;simpa using this.symm
         refine ⟨lo,hw,by rw [hvl,<- Array.length_toList,hps];exact Classical.not_not.1 hlen,λF hFF=>?_⟩;have hFn:F.fn lo.fn:=by rcases hFF with rfl|⟨l,rfl⟩<;>trivial
         have hFr:F.inRound b=Fence.wide.inRound b:=by rcases hFF with rfl|⟨l,rfl⟩<;>rfl
         have hzip:(lo.params.zip vals.toArray).foldl (λtmps (t,a)=>tmps.setIfInBounds t a) lo.tmps=(ps.zip vals).foldl (λtmps (t,a)=>tmps.setIfInBounds t a) lo.tmps:=by
          rw [<- Array.foldl_toList,Array.toList_zip,hps]
         rw [hzip];refine roundIn_of_wpIn hFn ?_;rw [hFr,has,hbo];have hlive:∀q,(st.box q).isSome=(qcl (st.L++[st.B]) q).isSome:=λq=>by rw [qcn]
         obtain ⟨hR1,hF1⟩:=qwT hF.now h.qJA (E:=qgx env ps (args.map V.hand)) (tmps:=(ps.zip vals).foldl (λtmps (t,a)=>tmps.setIfInBounds t a) lo.tmps) (qrX ps _ vals env lo.tmps henv ha) (λq hq=>by
          rw [<- hlive];rcases qrL _ _ _ _ hq with h1|h1
          ·exact h.ptrB r _ hst q (by simpa [ptrsL,V.qv]using h1)
          ·rw [show args.map V.hand=reflagL qjf args from (qO _ _).symm,ptrsL_reflag]at h1;exact hpa q h1)
         have hbl:qcl (st.L++[st.B]) r=some [.lp .ready pe g env ps assign body]:=by rw [<- qcn];exact hst
         have hrl:r.lvl<(st.L++[st.B]).length:=qxu (by rw [hbl];rfl);have hFO:FOk (Fence.wide.inRound b) X (Mod (st.L++[st.B]) X λq=>O (.box q)) (st.L++[st.B]).length :=
          ⟨.inr ⟨r,b,rfl,hrl,hb,by show (qcl (st.L++[st.B]) r).map qaE=some true;rw [hbl];rfl⟩,λh0=>by simp at h0⟩
         refine wpIn_mono (hC.code _ _ _ _ _ _ hA _ w X _ _ {tmps:=_,defers:=[]} w hFO ⟨X,_,hR1,hF1,[],rfl,.nil,by simp⟩).wp ?_;rintro e1 a1 w1 ⟨rfl,X1,O1,hR2,hF2,hM2⟩;have hb2:X1.β r=some b:=by rw [hF2.β r hrl,hb]
         obtain ⟨lo2,hw2,hs2s,hs2p,hs2ps,hs2a,hs2b,hs2e,hnm2,hset2⟩:=qzu hR2 hF2 hs2 hb2;refine ⟨_,run_beginRound hw2 hs2s,?_⟩;obtain ⟨hR3,hF3⟩:=hset2 .busy pe2;rw [show (w1.putObj b (.loop {lo2 with state:=.busy}))=w1.putObj b (.loop {lo2 with state:=.busy,pending:=pe2})from by rw [<- hs2p]];refine wpIn_mono (hC.code _ _ _ _ _ _ hB _ w X _ _ a1 _ hFO ⟨X1,_,hR3,hF3,hM2.of λk hk _ _=>⟨World.putObj_heap_other (hnm2 k hk),rfl⟩⟩).wp ?_;rintro e2 a2 w3 ⟨rfl,X3,O3,hR4,hF4,hM4⟩;have hb3:X3.β r=some b:=by rw [hF4.β r hrl,hb]
         obtain ⟨lo3,hw3,_,_,_,_,_,_,_,hset3⟩:=qzu hR4 hF4 hs3 hb3;obtain ⟨hR5,hF5⟩:=hset3 (if e.code.isNone then .ready else .done) e.code;obtain ⟨hlr,hlen',hkind⟩:=qrR hR5 hF5;have hsp':=qhy hsp;have haft:=qGt hF5 (ow:=λb=>∃q,b∈qlm (st.L++[st.B]).length (qxm O3 r []) q) (λb ⟨q,hq⟩=>⟨.box q,qtf hq⟩);obtain ⟨hR6,hF6⟩:=qvI h hF hlr hlen' hkind (λq b hb=>⟨q,hb⟩) haft hsp';have hfin:∃v w',(Instr.endRound b e.code).run P w3=.ok v w'/\∃X' O',Rel {st with L:=L,B:=B} tmps w' X' O'/\Fr w0 X0 Md n {st with L:=L,B:=B} w' X' O'/\Rep w' X' (.val (.bool e.code.isNone)) v []/\(V.val (.bool e.code.isNone)).qv=[] :=
          ⟨_,_,run_endRound _ hw3,X3,_,hR6,hF6,by simp [Rep],rfl⟩
         cases e<;>exact hfin
        ·cases hx
       ·cases hx
      ·cases hx
     ·cases hx
    ·cases hx
   ·cases hx
 ·cases hx
end
section
variable {P:Program} {H:Hints} {f:FuncId} {w:World} {X:Cx}
theorem qsH.map{b:Nat}{es:List (Value×Value)}{O:List Nat}(h:qsH w X b [.mp es] O):∃ents ck,w.heap[b]?=some (.map ents ck)/\ents.toList.map kv=es/\O=[]:=by
 rcases h with ⟨cs,t,_,h⟩|⟨s,pe,g,env,ps,asg,body,lo,hc,_⟩|⟨es',ents,ck,hc,h1,h2,h3⟩
 ·simp only [RepL,Rep]at h;obtain ⟨_,_,_,_,_,_,h,_⟩:=h;exact h.elim
 ·simp at hc
 ·simp only [List.cons.injEq,V.mp.injEq,and_true]at hc;subst hc;exact ⟨ents,ck,h1,h2,h3⟩
def qJm(P:Program)(w0:World)(X0:Cx)(M:Md)(n:Nat)(a:Act)(o:Oper)(w:World)(s:St):Prop :=
 ∃v w' r,(execOp a.eval o).run P w=.ok r w'/\(r=.value v\/(r=.skip/\v=undef))/\(qgw o.op=true->r=.value v/\w'=w)/\Sim w0 X0 M n s (a.put o.dst v).tmps w'
theorem qC3{b:Nat}{o o':Obj}(hb:w.heap[b]?=some o):(w.heap.setIfInBounds b o')[b]?=some o'/\∀k,k≠b->(w.heap.setIfInBounds b o')[k]?=w.heap[k]?:=by
 have hlt:b<w.heap.size:=(Array.getElem?_eq_some_iff.1 hb).1;exact ⟨by simp [hlt],λk hne=>by simp [Ne.symm hne]⟩
theorem qtb{w0:World}{X0:Cx}{M:Md}{n:Nat}{st s:St}{a:Act}{O:Pl->List Nat}{o:Oper}{xs:List V}{z:V}{fp:Fp}{Oin:List Nat}(h:Rel st a.tmps w X O)(hF:Fr w0 X0 M n st w X O)
  (hrep:RepL w X xs (o.op.operands.toList.map a.eval) Oin) (hx:mapStep P H f o xs st=some (z,s,fp)):qJm P w0 X0 M n a o w (s.put o.dst z):=by have hx:(none:Option (V×St×Fp))=some (z,s,fp):=hx;cases hx
mutual
theorem rep_adopt{X':Cx}{r q:Root}{b:Nat}(h1:X.β r=some b)(h2:X'.β q=some b)(hω:X'.ω=X.ω):∀(x:V) (v:Value) (O:List Nat),x.onlyMaps=true->(∀k∈x.qv,k=r)->Rep w X x v O->Rep w X' (x.adopt q) v O
 |.undef,_,_,_,_,hr=>by simpa only [V.adopt,Rep]using hr
 |.val _,_,_,_,_,hr=>by simpa only [V.adopt,Rep]using hr
 |.mref k,v,O,_,hp,hr=>by
  simp only [V.adopt,Rep]at hr ⊢;obtain ⟨h0,b',hb',hv⟩:=hr;rw [hp k (by simp [V.qv]),h1]at hb';cases hb'
  exact ⟨h0,b,h2,hv⟩
 |.iface t x,v,O,ho,hp,hr=>by
  cases x with
  |undef=>simpa only [V.adopt,Rep]using hr
  |_=>simp [V.onlyMaps]at ho
 |.ptr ..,_,_,ho,_,_|.yld _,_,_,ho,_,_|.bsl ..,_,_,ho,_,_|.lp ..,_,_,ho,_,_=>by simp [V.onlyMaps]at ho
 |.mp _,_,_,_,_,hr=>by simp only [Rep]at hr
 |.cptr f cs,v,O,ho,hp,hr=>by
  simp only [V.onlyMaps]at ho;simp only [V.adopt,Rep]at hr ⊢;obtain ⟨h0,b',off,vals,hv,hs,⟨e,fz,hω',hle,hsh⟩,hl,hno⟩:=hr;exact ⟨h0,b',off,vals,hv,hs,⟨e,fz,by rw [hω];exact hω',hle,hsh⟩,repL_adopt h1 h2 hω cs vals [] ho (λk hk=>hp k (by simpa [V.qv]using hk)) hl,hno⟩
 |.sl f c l,v,O,_,_,hr=>by
  have e:Ext [] w X w X' (λ_=>False):={β:=by simp,ω:=λb e fz h=>⟨e,fz,by rw [hω];exact h,Nat.le_refl _,id,λ_=>⟨rfl,rfl⟩⟩,cell:=λ_ _ _ _ _ _ _ h=>h,obj:=λb e fz c t _ _ h=>⟨c,h,rfl⟩}
  simp only [V.adopt];exact Rep.ext e _ _ _ (by simp [V.qv]) (by simp) hr
 |.room s n,v,O,_,_,hr=>by
  have e:Ext [] w X w X' (λ_=>False):={β:=by simp,ω:=λb e fz h=>⟨e,fz,by rw [hω];exact h,Nat.le_refl _,id,λ_=>⟨rfl,rfl⟩⟩,cell:=λ_ _ _ _ _ _ _ h=>h,obj:=λb e fz c t _ _ h=>⟨c,h,rfl⟩}
  simp only [V.adopt];exact Rep.ext e _ _ _ (by simp [V.qv]) (by simp) hr
 |.fn f a c,v,O,ho,hp,hr=>by
  simp only [V.onlyMaps,qe]at ho;simp only [V.adopt,Rep]at hr ⊢;obtain ⟨va,vc,O1,O2,hv,rfl,h3,h4⟩:=hr;exact ⟨va,vc,O1,O2,hv,rfl,repL_adopt h1 h2 hω a va O1 ho.1 (λk hk=>hp k (by simp [V.qv,hk])) h3,repL_adopt h1 h2 hω c vc O2 ho.2 (λk hk=>hp k (by simp [V.qv,hk])) h4⟩
 |.agg l,v,O,ho,hp,hr=>by
  simp only [V.onlyMaps]at ho;simp only [V.adopt,Rep]at hr ⊢;obtain ⟨vals,hv,h3⟩:=hr;exact ⟨vals,hv,repL_adopt h1 h2 hω l vals O ho (λk hk=>hp k (by simpa [V.qv]using hk)) h3⟩
 |.tuple l,v,O,ho,hp,hr=>by
  simp only [V.onlyMaps]at ho;simp only [V.adopt,Rep]at hr ⊢;obtain ⟨vals,hv,h3⟩:=hr;exact ⟨vals,hv,repL_adopt h1 h2 hω l vals O ho (λk hk=>hp k (by simpa [V.qv]using hk)) h3⟩
theorem repL_adopt{X':Cx}{r q:Root}{b:Nat}(h1:X.β r=some b)(h2:X'.β q=some b)(hω:X'.ω=X.ω):∀(l:List V) (vals:List Value) (O:List Nat),onlyMapsL l=true->(∀k∈ptrsL l,k=r)->RepL w X l vals O->RepL w X' (adoptL q l) vals O
 |[],_,_,_,_,hr=>by simpa only [adoptL,RepL]using hr
 |x::l,vals,O,ho,hp,hr=>by
  simp only [onlyMapsL,qe]at ho;simp only [adoptL,RepL]at hr ⊢;obtain ⟨u,vs,O1,O2,hv,rfl,h3,h4⟩:=hr;exact ⟨u,vs,O1,O2,hv,rfl,rep_adopt h1 h2 hω x u O1 ho.1 (λk hk=>hp k (by simp [ptrsL,hk])) h3,repL_adopt h1 h2 hω l vs O2 ho.2 (λk hk=>hp k (by simp [ptrsL,hk])) h4⟩
end
mutual
theorem adopt_ptrs(q:Root):∀(x:V),x.onlyMaps=true->∀k∈(x.adopt q).qv,k=q
 |.undef,_|.val _,_|.sl ..,_|.room ..,_|.mp _,_=>by simp [V.adopt,V.qv]
 |.mref _,_=>by simp [V.adopt,V.qv]
 |.iface t x,ho=>by
  cases x with
  |undef=>simp [V.adopt,V.qv]
  |_=>simp [V.onlyMaps]at ho
 |.ptr ..,ho|.yld _,ho|.bsl ..,ho|.lp ..,ho=>by simp [V.onlyMaps]at ho
 |.fn f a c,ho=>by
  simp only [V.onlyMaps,qe]at ho;simp only [V.adopt,V.qv,qk];rintro k (hk|hk)
  ·exact adoptL_ptrs q a ho.1 k hk
  ·exact adoptL_ptrs q c ho.2 k hk
 |.agg l,ho=>by
  simp only [V.onlyMaps]at ho;simp only [V.adopt,V.qv];exact adoptL_ptrs q l ho
 |.cptr _ l,ho=>by
  simp only [V.onlyMaps]at ho;simp only [V.adopt,V.qv];exact adoptL_ptrs q l ho
 |.tuple l,ho=>by
  simp only [V.onlyMaps]at ho;simp only [V.adopt,V.qv];exact adoptL_ptrs q l ho
theorem adoptL_ptrs(q:Root):∀(l:List V),onlyMapsL l=true->∀k∈ptrsL (adoptL q l),k=q
 |[],_=>by simp [adoptL,ptrsL]
 |x::l,ho=>by
  simp only [onlyMapsL,qe]at ho;simp only [adoptL,ptrsL,qk];rintro k (hk|hk)
  ·exact adopt_ptrs q x ho.1 k hk
  ·exact adoptL_ptrs q l ho.2 k hk
end
mutual
theorem rep_noowns:∀(x:V) (v:Value) (O:List Nat),x.owns=false->Rep w X x v O->O=[]
 |.undef,_,_,_,h=>by simp only [Rep]at h;exact h
 |.val _,_,_,_,h=>by simp only [Rep]at h;exact h.2
 |.ptr ..,_,_,_,h=>by simp only [Rep]at h;exact h.1
 |.yld _,_,_,_,h=>by simp only [Rep]at h;exact h.1
 |.mref _,_,_,_,h=>by simp only [Rep]at h;exact h.1
 |.bsl ..,_,_,_,h=>by simp only [Rep]at h;exact h.1
 |.cptr ..,_,_,_,h=>by simp only [Rep]at h;exact h.1
 |.room ..,_,_,ho,_=>by simp [V.owns]at ho
 |.sl f c l,v,O,ho,h=>by
  simp only [V.owns,Bool.or_eq_false_iff,decide_eq_false_iff_not]at ho;simp only [Rep]at h;obtain ⟨_,h⟩:=h;rcases h with ⟨_,h0,_⟩|⟨b,off,cap,s,vals,O',_,_,_,_,_,_,_,_,_,_,ho'⟩
  ·exact h0
  ·exact (ho' ho.1).1
 |.fn f a c,v,O,ho,h=>by
  simp only [V.owns,Bool.or_eq_false_iff]at ho;simp only [Rep]at h;obtain ⟨va,vc,O1,O2,_,rfl,h1,h2⟩:=h;rw [repL_noowns a va O1 ho.1 h1,repL_noowns c vc O2 ho.2 h2];rfl
 |.iface t x,v,O,ho,h=>by simp only [V.owns]at ho;simp only [Rep]at h;obtain ⟨u,_,h1⟩:=h;exact rep_noowns x u O ho h1
 |.agg l,v,O,ho,h=>by simp only [V.owns]at ho;simp only [Rep]at h;obtain ⟨vals,_,h1⟩:=h;exact repL_noowns l vals O ho h1
 |.tuple l,v,O,ho,h=>by simp only [V.owns]at ho;simp only [Rep]at h;obtain ⟨vals,_,h1⟩:=h;exact repL_noowns l vals O ho h1
 |.lp ..,_,_,_,h=>by simp only [Rep]at h
 |.mp _,_,_,_,h=>by simp only [Rep]at h
theorem repL_noowns:∀(l:List V) (vals:List Value) (O:List Nat),ownsL l=false->RepL w X l vals O->O=[]
 |[],_,_,_,h=>by simp only [RepL]at h;exact h.2
 |x::l,vals,O,ho,h=>by
  simp only [ownsL,Bool.or_eq_false_iff]at ho;simp only [RepL]at h;obtain ⟨u,vs,O1,O2,_,rfl,h1,h2⟩:=h;rw [rep_noowns x u O1 ho.1 h1,repL_noowns l vs O2 ho.2 h2];rfl
end
theorem qGe{C:Orc}(hC:∀g args r s es,C.born g args=some (r,s,es)->qBD P g args r s es){w0:World}{X0:Cx}{Md:Md}{n:Nat}{st:St}{tmps:Array Value}{O:Pl->List Nat}{g:FuncId}{first args cap:List V}{vals:List Value}{Oa:List Nat}{T:List Tmp}{z:V}{s:St}{d:Option Tmp}{fp:Fp}
  (h:Rel st tmps w X O) (hF:Fr w0 X0 Md n st w X O) (ha:RepL w X (first++args++cap) vals Oa) (hin:∀b∈Oa,∃t∈T,b∈O (.tmp t))
  (hx:qyP C d (.fn g first cap) args {st with E:=qG st.E T}=some (z,s,fp)) :
  qvr True P g vals.toArray w λv w'=>∃X' O',Rel (s.put d z) (qyn tmps d v) w' X' O'/\Fr w0 X0 Md n (s.put d z) w' X' O':=by have hx:(none:Option (V×St×Fp))=some (z,s,fp):=hx;cases hx
theorem qH4{C:Orc}(hC:∀g c,C.seq g=some c->qGS P g c){w0:World}{X0:Cx}{Md:Md}{n:Nat}{st:St}{tmps:Array Value}{O:Pl->List Nat}{g:FuncId}{first args cap:List V}{vals:List Value}{Oa:List Nat}{T:List Tmp}{z:V}{s:St}{d:Option Tmp}{fp:Fp}
  (h:Rel st tmps w X O) (hF:Fr w0 X0 Md n st w X O) (ha:RepL w X (first++args++cap) vals Oa)
  (hx:qBC C d (.fn g first cap) args {st with E:=qG st.E T}=some (z,s,fp)) :
  qvr True P g vals.toArray w λv w'=>∃X' O',Rel (s.put d z) (qyn tmps d v) w' X' O'/\Fr w0 X0 Md n (s.put d z) w' X' O':=by
 unfold qBC at hx;cases d with
 |none=>cases hx
 |some d =>
 simp only at hx;split at hx
 rotate_left
 ·cases hx
 rename_i str sep hl;split at hx
 rotate_left
 ·cases hx
 rename_i clos hs;split at hx
 rotate_left
 ·cases hx
 rename_i hnb;rw [Option.isNone_iff_eq_none]at hnb;obtain ⟨rfl,rfl,_⟩:=Prod.mk.inj (Option.some.inj hx) |>.imp id Prod.mk.inj
 rw [hl]at ha;simp only [RepL,Rep]at ha;obtain ⟨_,_,_,_,rfl,_,⟨rfl,_⟩,_,_,_,_,rfl,_,⟨rfl,_⟩,rfl,_⟩:=ha;refine (hC g clos hs str sep w).mono id ?_;rintro v w' ⟨rfl,t,t2,t3,rfl⟩;have h1:=h.taken T;have hF1:=Fr.taken h hF T;have h2:=h1.qro (d:=d) (c:=[.val (.string str)]) (arr:=#[.string str]) (t:=t) (Oc:=[]) hnb (by simp only [RepL,Rep];exact ⟨_,_,[],[],rfl,rfl,⟨rfl,rfl⟩,rfl,rfl⟩) Lin.nil (by simp) (by simp [ptrsL,V.qv]);have hF2:=Fr.qro (d:=d) (c:=[.val (.string str)]) (arr:=#[.string str]) (t:=t) (Oc:=[]) h1 hF1 hnb (by simp);let w1:=w.alloc (.cells #[.string str] t)
 let w3:=(w1.alloc (.cells #[.string sep] t2)).alloc (.cells #[.int .i64 0] t3)
 have hs1:w1.heap.size=w.heap.size+1:=by simp [w1]
 have hs3:w3.heap.size=w.heap.size+3:=by simp [w3,hs1]
 let X1:Cx:=X.setβ ⟨st.L.length,d⟩ w.heap.size
 let X3:Cx:={β:=X1.β,ω:=λb=>if b=w.heap.size+1\/b=w.heap.size+2 then some (1,true)else X1.ω b}
 have hold:∀b,b<w1.heap.size->w3.heap[b]?=w1.heap[b]?:=λb hb=>by
  show ((w1.alloc (.cells #[.string sep] t2)).alloc (.cells #[.int .i64 0] t3)).heap[b]?=_;rw [heap_alloc_old _ _ (by simp;omega),heap_alloc_old _ _ hb]
 have heff:Eff w1 X1 w3 X3 []:={
  size:=by omega
  kept:=λb hb _=>hold b hb
  ωk:=λb hb _=>by show (if _ then _ else _)=_;rw [if_neg (by omega)]
  own:=by simp
  β:=rfl
  dom:=λb e fz hω=>by
   change (if b=w.heap.size+1\/b=w.heap.size+2 then some (1,true)else X1.ω b)=some (e,fz)at hω
   split at hω
   ·omega
   ·have:=h2.dom b e fz hω;change b<w1.heap.size at this
    omega
  os:=rfl
  out:=rfl
  tape:=rfl}
 have c1:w3.heap[w.heap.size+1]?=some (.cells #[.string sep] t2 (0,0)):=by
  show ((w1.alloc (.cells #[.string sep] t2)).alloc (.cells #[.int .i64 0] t3)).heap[_]?=_;rw [heap_alloc_old _ _ (by simp;omega),<- hs1];exact heap_alloc_new _ _
 have c2:w3.heap[w.heap.size+2]?=some (.cells #[.int .i64 0] t3 (0,0)):=by
  show ((w1.alloc (.cells #[.string sep] t2)).alloc (.cells #[.int .i64 0] t3)).heap[_]?=_;have:w.heap.size+2=(w1.alloc (.cells #[.string sep] t2)).heap.size:=by simp<;>omega
  rw [this];exact heap_alloc_new _ _
 have seg:∀(b:Nat) (u:Value) (ty:TypeId),w3.heap[b]?=some (.cells #[u] ty (0,0))->Seg w3 b 0 [u]:=λb u ty hb i v hi=>by
  cases i with
  |zero=>cases hi;simp [World.cell?,hb]
  |succ i=>simp at hi
 have hz:Rep w3 X3 (.fn clos [] [.cptr .shared [.val (.string sep)],.ptr ⟨st.L.length,d⟩ 0,.cptr .shared [.val (.int .i64 0)]])
   (.func (.func clos) #[] #[.pointer (some ⟨w.heap.size+1,0,none⟩),.pointer (some ⟨w.heap.size,0,none⟩),.pointer (some ⟨w.heap.size+2,0,none⟩)]) []:=by
  have r1:Rep w3 X3 (.cptr .shared [.val (.string sep)]) (.pointer (some ⟨w.heap.size+1,0,none⟩)) []:=by
   simp only [Rep,RepL];exact ⟨trivial,_,0,[.string sep],rfl,seg _ _ _ c1,⟨1,true,if_pos (.inl rfl),by simp,λ_=>rfl⟩,⟨_,_,[],[],rfl,rfl,⟨rfl,rfl⟩,rfl,rfl⟩,by simp⟩
  have r2:Rep w3 X3 (.ptr ⟨st.L.length,d⟩ 0) (.pointer (some ⟨w.heap.size,0,none⟩)) []:=by
   simp only [Rep];exact ⟨trivial,_,by show X1.β _=_;simp [X1,Cx.setβ],rfl⟩
  have r3:Rep w3 X3 (.cptr .shared [.val (.int .i64 0)]) (.pointer (some ⟨w.heap.size+2,0,none⟩)) []:=by
   simp only [Rep,RepL];exact ⟨trivial,_,0,[.int .i64 0],rfl,seg _ _ _ c2,⟨1,true,if_pos (.inr rfl),by simp,λ_=>rfl⟩,⟨_,_,[],[],rfl,rfl,⟨rfl,rfl⟩,rfl,rfl⟩,by simp⟩
  have:RepL w3 X3 [.cptr .shared [.val (.string sep)],.ptr ⟨st.L.length,d⟩ 0,.cptr .shared [.val (.int .i64 0)]] [.pointer (some ⟨w.heap.size+1,0,none⟩),.pointer (some ⟨w.heap.size,0,none⟩),.pointer (some ⟨w.heap.size+2,0,none⟩)] []:=by
   simp only [RepL];exact ⟨_,_,[],[],rfl,rfl,r1,_,_,[],[],rfl,rfl,r2,_,_,[],[],rfl,rfl,r3,rfl,rfl⟩
  simp only [Rep];exact ⟨[],_,[],[],rfl,rfl,by simp only [RepL];exact ⟨trivial,trivial⟩,this⟩
 have h3:=h2.put (T:=[]) (Oin:=[]) (O':=[]) (some d) (by simp) heff hz Lin.nil (by simp) (λq hq=>by
  simp only [V.qv,ptrsL,List.nil_append,List.append_nil,List.cons_append,List.mem_singleton]at hq;subst hq;have hb:=qt3 {st with E:=qG st.E T} d [.val (.string str)] hnb ⟨st.L.length,d⟩;rw [if_pos rfl]at hb;exact Option.isSome_iff_exists.2 ⟨_,hb⟩)
 have hF3:=Fr.put (z:=.fn clos [] [.cptr .shared [.val (.string sep)],.ptr ⟨st.L.length,d⟩ 0,.cptr .shared [.val (.int .i64 0)]]) h2 hF2 (T:=[]) (Oin:=[]) (O':=[]) (some d) (by simp) heff (by simp);simp only [St.put,qyn,List.set_set,Array.setIfInBounds_setIfInBounds,qsO]at h3 hF3;exact ⟨_,_,h3,hF3⟩
theorem qwv{g:FuncId}{first cap args:List V}{q:Root}(h:qj0 (.fn g first cap) args=some q):∀r∈ptrsL (first++args++cap),r=q:=by
 unfold qj0 at h;simp only at h;split at h
 ·rename_i q' rest hp;split at h
  ·rename_i hc;simp only [qb]at h;subst h;simp only [qe,List.all_eq_true,decide_eq_true_eq]at hc;intro r hr;rw [hp]at hr;rcases qm.1 hr with rfl|hr
   ·rfl
   ·exact hc.1 r hr
  ·cases h
 ·cases h
theorem qzk(n:Nat)(q:Root)(c:List V):(qn4 n q c).length=n:=by simp [qn4]
theorem qES{n:Nat}{q:Root}{c:List V}(hq:q.lvl<n)(r:Root):qcl (qn4 n q c) r=if r=q then some c else none:=by
 obtain ⟨l,s⟩:=r;obtain ⟨ql,qs⟩:=q;simp only at hq;unfold qcl qn4;simp only [List.getElem?_map];by_cases hl:l<n
 ·rw [List.getElem?_range hl];simp only [qj];by_cases h1:l=ql
  ·subst h1;simp only [if_true,qz];by_cases h2:qs=s
   ·subst h2;simp
   ·rw [if_neg h2,if_neg (λe=>h2 (by cases e;rfl))]
  ·rw [if_neg h1,if_neg (λe=>h1 (by cases e;rfl))];rfl
 ·rw [List.getElem?_eq_none (by simp;omega)];rw [if_neg (λe=>by cases e;exact hl hq)];rfl
theorem qEj{C:Orc}(hC:∀g args M r M',C.call g args M=some (r,M')->qbD P g args M r M'){w0:World}{X0:Cx}{Md:Md}{n:Nat}{st:St}{tmps:Array Value}{O:Pl->List Nat}{g:FuncId}{args:List V}{vals:List Value}{Oa:List Nat}{T:List Tmp}{z:V}{s:St}{d:Option Tmp}{q:Root}
  (h:Rel st tmps w X O) (hF:Fr w0 X0 Md n st w X O) (ha:RepL w X args vals Oa) (hin:∀b∈Oa,∃t∈T,b∈O (.tmp t)) (hp:∀r∈ptrsL args,r=q)
  (hx:qiz C g args q {st with E:=qG st.E T}=some (z,s)) :
  qvr True P g vals.toArray w λv w'=>∃X' O',Rel (s.put d z) (qyn tmps d v) w' X' O'/\Fr w0 X0 Md n (s.put d z) w' X' O':=by
 unfold qiz at hx;split at hx
 rotate_left
 ·cases hx
 rename_i es hes0;have hes:st.box q=some [.mp es]:=hes0;split at hx
 rotate_left
 ·cases hx
 rename_i r M' hr;split at hx
 rotate_left
 ·cases hx
 rename_i hc;simp only [qe,List.isEmpty_iff,Bool.not_eq_true']at hc;obtain ⟨hrp,hro⟩:=hc;split at hx
 rotate_left
 ·cases hx
 rename_i es' hbM;obtain ⟨rfl,rfl⟩:=Prod.mk.inj (Option.some.inj hx);obtain ⟨b,hβ,hlt,hωb,hbx⟩:=h.box q _ hes;obtain ⟨ents,ck,hwb,hents,_⟩:=hbx.map;have hOaω:=repL_own args vals Oa ha;have hOalt:=repL_dom h.dom args vals Oa ha;have hql:q.lvl<st.L.length+1:=by have:=qvG (st:=st) (r:=q) (by rw [hes];rfl);omega
 have hbh:=qES (c:=[.mp es]) hql;have hL:LRel (qn4 (st.L.length+1) q [.mp es]) w (X.freeze Oa) (λ_=>[]):={
  box:=λr c hc=>by
   rw [hbh]at hc;split at hc
   ·rename_i e;cases hc;subst e;exact ⟨b,hβ,hlt,by simp [Cx.freeze,hωb],.inr (.inr ⟨es,ents,ck,rfl,hwb,hents,rfl⟩)⟩
   ·cases hc
  boxD:=λ_ _=>rfl
  inj:=λr r' b h1 h2 _ _=>by
   rw [hbh]at h1 h2;split at h1
   ·split at h2
    ·rename_i e1 e2;rw [e1,e2]
    ·cases h2
   ·cases h1
  lin:=λ_=>Lin.nil
  dis:=λ_ _ _ _ h=>by simp at h
  ptrB:=λr c hc r' hr'=>by
   rw [hbh]at hc;split at hc
   ·cases hc;simp [ptrsL,V.qv]at hr'
   ·cases hc
  up:=λr c hc r' hr'=>by
   rw [hbh]at hc;split at hc
   ·cases hc;simp [ptrsL,V.qv]at hr'
   ·cases hc
  dom:=(qnY h.dom hOaω).dom}
 have hne:qn4 (st.L.length+1) q [.mp es]≠[]:=λe=>by have:=qzk (st.L.length+1) q [.mp es];rw [e]at this;simp at this
 have hok:=hC _ _ _ _ _ hr w (X.freeze Oa) vals (λ_=>[]) (by rw [show args.map V.hand=reflagL qjf args from (qO _ _).symm];exact qrT ha) (hF.now.freeze Oa) hL
  (λr hr=>by
   rw [show args.map V.hand=reflagL qjf args from (qO _ _).symm,ptrsL_reflag]at hr;rw [hbh,if_pos (hp r hr)];rfl) (λe=>absurd e hne)
 refine hok.mono (λ_=>trivial) ?_;rintro v w' ⟨X',O',Or,hrep,hLR,_,_,_,hlen,_,haft⟩;have hOr:Or=[]:=rep_noowns r v Or hro hrep;subst hOr;have hnoM:∀k,k≠b->¬ Mod (qn4 (st.L.length+1) q [.mp es]) (X.freeze Oa) (λ_=>[]) k:=by
  rintro k hk (⟨r',h1,h2⟩|⟨r',h1⟩)
  ·rw [hbh]at h1;split at h1
   ·rename_i e;subst e;rw [show (X.freeze Oa).β r'=X.β r' from rfl,hβ]at h2;cases h2;exact hk rfl
   ·cases h1
  ·simp at h1
 obtain ⟨b',hβ',hlt',hωb',hbx'⟩:=hLR.box q _ hbM;have hbb:b'=b:=by
  have h1:=haft.β q (by rw [qzk];exact hql);rw [hβ',show (X.freeze Oa).β q=X.β q from rfl,hβ]at h1;exact Option.some.inj h1
 subst hbb;obtain ⟨ents',ck',hwb',hents',_⟩:=hbx'.map;have hw1b:(w'.heap.setIfInBounds b' (.map ents ck))[b']?=some (.map ents ck):=(qC3 hwb').1;have hw1k:∀k,k≠b'->(w'.heap.setIfInBounds b' (.map ents ck))[k]?=w'.heap[k]?:=(qC3 hwb').2;have hωold:∀k,k<w.heap.size->X'.ω k=(X.freeze Oa).ω k:=λk hk=>by
  by_cases hkb:k=b'
  ·subst hkb;rw [hωb'];simp [Cx.freeze,hωb]
  ·exact (haft.kept k hk (hnoM k hkb)).2
 have heff:Eff w X {w' with heap:=w'.heap.setIfInBounds b' (.map ents ck)} {β:=X.β,ω:=X'.ω} Oa:={
  size:=by have:=haft.size;simpa using this
  kept:=λk hk _=>by
   by_cases hkb:k=b'
   ·subst hkb;rw [hw1b,hwb]
   ·rw [hw1k k hkb];exact (haft.kept k hk (hnoM k hkb)).1
  ωk:=λk hk hn=>by show X'.ω k=_;rw [hωold k hk];simp [Cx.freeze,hn]
  own:=λk hk e fz hω=>by
   have hkl:=hOalt k hk;have hkb:k≠b':=λe'=>by subst e';rw [hωb]at hω;cases hω
   refine ⟨e,true,by show X'.ω k=_;rw [hωold k hkl,frozen_ω hω];simp [hk],Nat.le_refl _,λ_=>rfl,λi v _ hc=>?_,λc t hc=>⟨c,?_,rfl⟩⟩
   ·rw [cell_of_heap (w:=w) (w':={w' with heap:=w'.heap.setIfInBounds b' (.map ents ck)}) (by rw [hw1k k hkb];exact (haft.kept k hkl (hnoM k hkb)).1)];exact hc
   ·rw [hw1k k hkb,(haft.kept k hkl (hnoM k hkb)).1];exact hc
  β:=rfl
  dom:=λk e fz hω=>by have:=hLR.dom k e fz hω;simpa using this
  os:=haft.os
  out:=haft.out
  tape:=haft.tape}
 have h1:=h.put (T:=T) (O':=[]) (z:=.undef) (v:=undef) none hin heff (by simp [Rep]) Lin.nil (by simp) (by simp [V.qv]);have hF1:=Fr.put (z:=.undef) h hF (T:=T) (O':=[]) none hin heff (by simp);change Rel {st with E:=qG st.E T} tmps _ _ _ at h1
 change Fr w0 X0 Md n {st with E:=qG st.E T} _ _ _ at hF1
 have hes1:({st with E:=qG st.E T}:St).box q=some [.mp es]:=hes;have hset:=h1.qu (c':=[.mp es']) (Ob:=[]) (w':=w') hes1 hβ (λk hk=>(hw1k k hk).symm) (by simp) (.inr (.inr ⟨es',ents',ck',rfl,hwb',hents',rfl⟩)) Lin.nil (by simp) (by simp [ptrsL,V.qv]);have hsetF:=Fr.qu (c':=[.mp es']) (Ob:=[]) (w':=w') h1 hF1 hes1 hβ rfl (λk hk=>(hw1k k hk).symm) (by simp) (by simp) rfl rfl rfl;have hz:Rep w' {β:=X.β,ω:=X'.ω} r v [] :=
  Rep.ext (X:=X') (X':={β:=X.β,ω:=X'.ω}) (w':=w') (R:=[]) (U:=λ_=>False) {β:=by simp,ω:=λk e fz hω=>⟨e,fz,hω,Nat.le_refl _,id,λ_=>⟨rfl,rfl⟩⟩,cell:=λ_ _ _ _ _ _ _ h=>h,obj:=λb e fz c t _ _ h=>⟨c,h,rfl⟩} _ _ _ (by rw [hrp];simp) (by simp) hrep
 exact ⟨_,_,hset.quP d hz Lin.nil (by simp) (by rw [hrp];simp),hsetF.quP d (by simp)⟩
end
section
variable {P:Program} {H:Hints} {f:FuncId} {w:World} {X:Cx}
theorem qff{α β γ:Type}{a a':α}{b b':β}{c c':γ}(h:some (a,b,c)=some (a',b',c')):a=a'/\b=b'/\c=c':=by
 cases h;exact ⟨rfl,rfl,rfl⟩
theorem qr9{C:Orc}{o:Oper}{xs:List V}{st s:St}{z:V}{fp:Fp}(hx:qcm P H C f o xs st=some (z,s,fp)) :
  (∃t d z0,o.op=.alloc t/\o.dst=some d/\zeroOf P H f t=some z0/\qz st.B d=none/\z=.ptr ⟨st.L.length,d⟩ 0/\s={st with B:=qel d z0.cells st.B}/\fp=.fresh ⟨st.L.length,d⟩) \/
  (∃t a d x,o.op=.box t a/\o.dst=some d/\xs=[x]/\qz st.B d=none/\x.cells.length=P.cellsOf t/\x.oks=true/\z=.ptr ⟨st.L.length,d⟩ 0/\s={st with B:=qel d x.cells st.B}/\fp=.fresh ⟨st.L.length,d⟩) \/
  (∃c fo fv args,o.op=.call c/\c.callee=.value fo/\xs=fv::args/\qll H fv args=false/\qjk C fv args st=some (z,s)/\fp=(if qe6 fv args then .none else if qdp C fv then .looks else .all)) \/
  (rootOf o.op xs=none/\qbv P H f (qax H f o) o.op o.type xs none=some (z,none)/\s=st/\fp=.none) \/
  (∃r,rootOf o.op xs=some r/\qbv P H f (qax H f o) o.op o.type xs (st.box r)=some (z,none)/\s=st/\fp=.root r (qav P o.op xs).1 (qav P o.op xs).2 false) \/
  (∃r c,rootOf o.op xs=some r/\qbv P H f (qax H f o) o.op o.type xs (st.box r)=some (z,some c)/\(qpM o.op xs).all (λp=>decide (p.lvl<=r.lvl))=true/\s=st.qu r c/\fp=.root r (qav P o.op xs).1 (qav P o.op xs).2 true) \/
  (∃c fo fv args,o.op=.call c/\c.callee=.value fo/\xs=fv::args/\qll H fv args=true/\qle H C o.dst fv args st=some (z,s,fp)) \/
  (qew o.op xs=true/\mapStep P H f o xs st=some (z,s,fp)):=by
 unfold qcm at hx;split at hx
 ·rename_i t hop;split at hx
  ·rename_i d z0 hd hz;split at hx
   ·rename_i hl;obtain ⟨rfl,rfl,rfl⟩:=qff hx;exact .inl ⟨t,d,z0,hop,hd,hz,by simpa using hl,rfl,rfl,rfl⟩
   ·cases hx
  ·cases hx
 ·rename_i t a hop;split at hx
  ·rename_i d x hd;split at hx
   ·rename_i hl;obtain ⟨rfl,rfl,rfl⟩:=qff hx;exact .inr (.inl ⟨t,a,d,x,hop,hd,rfl,by simpa using hl.1,hl.2.1,hl.2.2,rfl,rfl,rfl⟩)
   ·cases hx
  ·cases hx
 ·rename_i fo a1 a2 hop;split at hx
  ·rename_i fv args;split at hx
   ·rename_i hbn;exact .inr (.inr (.inr (.inr (.inr (.inr (.inl ⟨_,fo,fv,args,hop,rfl,rfl,hbn,hx⟩))))))
   ·rename_i hbn;obtain ⟨⟨v,s'⟩,h1,h2⟩:=qc.1 hx;obtain ⟨rfl,rfl,rfl⟩:=qff (congrArg some h2);exact .inr (.inr (.inl ⟨_,fo,fv,args,hop,rfl,rfl,by simpa using hbn,h1,rfl⟩))
  ·cases hx
 ·split at hx
  ·rename_i hmo;exact .inr (.inr (.inr (.inr (.inr (.inr (.inr ⟨hmo,hx⟩))))))
  split at hx
  ·rename_i hr;split at hx
   ·rename_i v hv;obtain ⟨rfl,rfl,rfl⟩:=qff hx;exact .inr (.inr (.inr (.inl ⟨hr,hv,rfl,rfl⟩)))
   ·cases hx
  ·rename_i r hr;split at hx
   ·rename_i v hv;obtain ⟨rfl,rfl,rfl⟩:=qff hx;exact .inr (.inr (.inr (.inr (.inl ⟨r,hr,hv,rfl,rfl⟩))))
   ·rename_i v c hv;split at hx
    ·rename_i hall;obtain ⟨rfl,rfl,rfl⟩:=qff hx;simp only [qe]at hall;exact .inr (.inr (.inr (.inr (.inr (.inl ⟨r,c,hr,hv,hall.1,rfl,rfl⟩)))))
    ·cases hx
   ·cases hx
theorem qcU{op:Op}{xs:List V}{r:Root}(h:rootOf op xs=some r):∃off rest,xs=.ptr r off::rest/\((∃t a,op=.load t a)\/∃t a x,op=.store t a x):=by
 unfold rootOf at h;split at h
 ·cases h;exact ⟨_,_,rfl,.inl ⟨_,_,rfl⟩⟩
 ·cases h;exact ⟨_,_,rfl,.inr ⟨_,_,_,rfl⟩⟩
 ·cases h
theorem qjc{F:Fence}(hFF:F=Fence.wide\/∃l,F=Fence.wide.inRound l){o:Oper}{a:Act}{K:Act->World->Prop}{Q:Exit->Act->World->Prop}{g:FuncId}{args:Array Value}{w:World}
  {ext:Prop} (h:qvr ext P g args w λv w'=>K (a.put o.dst v) w'):o.uponIn F 0 P a K Q ((callFunc g args).run P w):=by
 rcases h with ⟨h1,h2⟩|⟨_,v,w',h1,h2⟩
 ·rw [h1,Oper.uponIn_enter];refine ⟨λhd=>by rcases hFF with rfl|⟨l,rfl⟩<;>simp [Fence.wide,Fence.inRound]at hd,?_⟩;have h3:CallsIn Fence.wide (0-1) P g args w fun
   |.returned v,w''=>K (a.put o.dst v) w''
   |.panicked chain,w''=>Q (.panic chain) a w''
   |.outgrown,_=>LetsOut Q:=callsIn_wide.2 (h2.mono λe w' ⟨v,he,hk⟩=>by subst he;exact hk)
  rcases hFF with rfl|⟨l,rfl⟩
  ·exact h3
  ·exact h3
 ·rw [h1,Oper.uponIn_value];exact h2
theorem qxH(E:List V):qG E []=E:=rfl
theorem qyE{C:Orc}(hC:OrcOk P C){F:Fence}(hFF:F=Fence.wide\/∃l,F=Fence.wide.inRound l){w0:World}{X0:Cx}{Md:Md}{n:Nat}{st st':St}{a:Act}{o:Oper}(hS:Sim w0 X0 Md n st a.tmps w)
  (hx:qnF P H C f o st=some st') {K:Act->World->Prop} {Q:Exit->Act->World->Prop} (hK:∀v w',Sim w0 X0 Md n st' (a.put o.dst v).tmps w'->K (a.put o.dst v) w'):o.wpIn F 0 P a w K Q:=by
 obtain ⟨X,O,h,hF⟩:=hS;unfold qnF qgv at hx;obtain ⟨⟨st2,fp⟩,hx1,hx2⟩:=qc.1 hx;clear hx;simp only at hx2;subst hx2;split at hx1
 ·cases hx1
 ·rename_i hn0;have hn:qax H f o=true->qha (tmpsOf o)=true:=λht=>by simpa [ht]using hn0
  obtain ⟨⟨z,s,fp'⟩,hm,he⟩:=qc.1 hx1;obtain ⟨rfl,rfl⟩:=Prod.mk.inj he;clear hx1 he;have hab:∀g,o.about P w a.eval=some g->F.fn g:=λg _=>by rcases hFF with rfl|⟨l,rfl⟩<;>trivial
  refine ⟨hab,?_⟩;obtain ⟨Oin,hrep,hs,hlin⟩:=qdu (H:=H) (f:=f) h o _ hn;have hin:∀b∈Oin,∃t∈tmpsOf o,b∈O (.tmp t):=λb hb=>(hs b hb).2;have hnil:qax H f o=false->Oin=[]:=λht=>by
   cases Oin with
   |nil=>rfl
   |cons b l=>have:=(hs b (by simp)).1;rw [ht]at this;cases this
  have hst1:(if qax H f o=true then {st with E:=qG st.E (tmpsOf o)}else st)={st with E:=qG st.E (if qax H f o=true then tmpsOf o else [])}:=by split<;>rfl
  rw [hst1]at hm;generalize hT:(if qax H f o=true then tmpsOf o else [])=T at hm;have hin':∀b∈Oin,∃t∈T,b∈O (.tmp t):=λb hb=>by
   have h1:=(hs b hb).1;rw [if_pos h1]at hT;subst hT;exact hin b hb
  rcases qr9 hm with ⟨t,d,z0,hop,hd,hz,hlb,rfl,rfl,rfl⟩|⟨t,ao,d,x,hop,hd,hxs,hlb,hxl,hok,rfl,rfl,rfl⟩|⟨c,fo,fv,args,hop,hcal,hxs,_,hv,_⟩|⟨hr,hsem,rfl,_⟩|⟨r,hr,hsem,rfl,_⟩|⟨r,c,hr,hsem,hall,rfl,_⟩|⟨c,fo,fv,args,hop,hcal,hxs,_,hv⟩|⟨hmo,hmp⟩
  ·-- alloc
   rw [Oper.semAt_eq _ _ _ (by intro c hc;rw [hop]at hc;cases hc)];obtain ⟨i,u,hi,hu,rfl⟩:=qgg hz;have hrun:(execOp a.eval o).run P w=.ok (.value (.pointer (some ⟨w.heap.size,0,none⟩))) (w.alloc (.cells u.cells t)):=by
    simp only [execOp,hop,Instr.alloc,Sem.run_bind,zeroValue,typeInfo,run_program,Result.andThen_ok,hi,hu,Sem.run_pure,newVar,newRow,run_newObj_alloc]
   rw [hrun,Oper.uponIn_value];refine hK _ _ ⟨X.setβ ⟨st.L.length,d⟩ w.heap.size,qxl (ql5 O T none st.E.length []) ⟨st.L.length,d⟩ d [],?_⟩;rw [qhe,hd];have h1:=h.taken T;have hF1:=Fr.taken h hF T;exact ⟨h1.qro hlb (qfU _ _) Lin.nil (by simp) (λr hr=>by
     obtain ⟨y,hy,hr⟩:=qM.1 hr;have:=qhF (H.precise f) u;exact absurd hr (by
      intro hr;have h2:r∈ptrsL (ofConst (H.precise f) u).cells:=qM.2 ⟨y,hy,hr⟩;have h3:=qg9 h2;rw [this]at h3;simp at h3)),Fr.qro h1 hF1 hlb (by simp)⟩
  ·-- box
   rw [Oper.semAt_eq _ _ _ (by intro c hc;rw [hop]at hc;cases hc)];have hops:o.op.operands.toList=[ao]:=by rw [hop];rfl
   rw [hops]at hrep hxs;simp only [qi,List.map_nil,List.cons.injEq,and_true]at hxs;subst hxs;simp only [qi,List.map_nil,RepL]at hrep;obtain ⟨u,vs,O1,O2,hu,rfl,hr1,rfl,rfl⟩:=hrep;simp only [List.cons.injEq,and_true]at hu;subst hu;have hrun:(execOp a.eval o).run P w=.ok (.value (.pointer (some ⟨w.heap.size,0,none⟩))) (w.alloc (.cells (a.eval ao).cells t)):=by
    simp only [execOp,hop,Instr.box,Sem.run_bind,Result.andThen_ok,Sem.run_pure,newVar,newRow,run_newObj_alloc]
   rw [hrun,Oper.uponIn_value];refine hK _ _ ⟨X.setβ ⟨st.L.length,d⟩ w.heap.size,qxl (ql5 O T none st.E.length []) ⟨st.L.length,d⟩ d O1,?_⟩;rw [qhe,hd];have h1:=h.taken T;have hF1:=Fr.taken h hF T;have hfree:=h.free (T:=T) (Oin:=O1++[]) (O':=O1) hin' (λb hb=>.inl (by simpa using hb));refine ⟨h1.qro hlb (qfb hok hr1).1 (by simpa using hlin) (λk hk q hq hkq=>?_) (λr hr=>?_),Fr.qro h1 hF1 hlb (λk hk=>?_)⟩
   ·cases q with
    |tmp s =>
     simp only [ql5]at hkq;rw [if_neg (by simp)]at hkq;split at hkq
     ·simp at hkq
     ·rename_i hns;exact hfree k hk (.tmp s) (λt ht e=>hns (by cases e;exact ht)) hkq
    |box r=>exact hfree k hk (.box r) (λt _ e=>by cases e) hkq
   ·have h2:=qg9 hr;exact h.ptrE r (qrP h2)
   ·obtain ⟨t',_,hkt⟩:=hin' k (by simpa using hk);exact hF.own _ k hkt
  ·-- a call
   rw [Oper.semAt_eq _ _ _ (by intro c hc;rw [hop]at hc;cases hc)];have hops:o.op.operands.toList=fo::c.args.toList:=by rw [hop];simp [Op.operands,Call.operands,hcal]
   rw [hops]at hrep hxs;simp only [qi,List.cons.injEq]at hxs;obtain ⟨hfv,hargs⟩:=hxs;simp only [qi,RepL]at hrep;obtain ⟨u,vs,O1,O2,hu,rfl,hr1,hr2⟩:=hrep;rw [hfv]at hr1;rw [hargs]at hr2;simp only [List.cons.injEq]at hu;obtain ⟨rfl,rfl⟩:=hu;have hpE:∀q,q∈fv.qv\/q∈ptrsL args->(st.box q).isSome=true:=λq hq=>by
    refine h.ptrE q ?_;rcases hq with hq|hq
    ·rw [<- hfv]at hq;exact qrP hq
    ·rw [<- hargs]at hq;exact qzO hq
   have hexec:execOp a.eval o=(do let d <- resolve a.eval c o.type;invoke d.target d.args):=by simp only [execOp,hop]
   have hres:resolve a.eval c o.type=Deferred.ofValue (a.eval fo) (c.args.map a.eval):=by simp only [resolve,hcal]
   rw [hexec,hres];cases fv with
   |fn g first cap =>
    simp only [Rep]at hr1;obtain ⟨va,vc,A1,A2,hv1,rfl,ha1,ha2⟩:=hr1;rw [hv1];have hrun:(Deferred.ofValue (.func (.func g) va.toArray vc.toArray) (c.args.map a.eval) >>= λd=>invoke d.target d.args).run P w=(callFunc g (va++c.args.toList.map a.eval++vc).toArray).run P w:=by
     simp only [Deferred.ofValue,Sem.run_bind,Sem.run_pure,Result.andThen_ok,invoke];congr 2
     apply Array.ext';simp
    have hall:RepL w X (first++args++cap) (va++c.args.toList.map a.eval++vc) (A1++O2++A2):=qbk (qbk ha1 hr2) ha2;have hcount:∀b,(A1++O2++A2).count b=(A1++A2++O2).count b:=λb=>by simp only [List.count_append]<;>omega
    have hv':qho C g (first++args++cap) {st with E:=qG st.E T}=some (z,s):=hv;have hcall:=qBY (d:=o.dst) hC.call h hF (T:=T) rfl hall (λb hb=>hin' b (by
      have:=hcount b;have h1:=List.count_pos_iff.2 hb;exact List.count_pos_iff.1 (by omega))) (λb=>by rw [hcount];exact hlin b) (λq hq=>by
      rw [qaP,qaP]at hq;simp only [qk]at hq;refine hpE q ?_;rcases hq with (hq|hq)|hq
      ·exact .inl (by simp [V.qv,hq])
      ·exact .inr hq
      ·exact .inl (by simp [V.qv,hq])) hv'
    rw [hrun];exact qjc hFF (hcall.mono id λv w' ⟨X',O',h1,h2,_⟩=>hK v w' (by rw [qhe];exact ⟨X',O',h1,h2⟩))
   |yld r =>
    simp only [Rep]at hr1;obtain ⟨rfl,b,hb,hv1⟩:=hr1;rw [hv1];obtain ⟨h1,hF1,hhand⟩:=handed (T:=T) h hF (args:=args) (Oa:=O2) (by simpa using hr2) (λb hb=>hin' b (by simpa using hb));have hv':qnJ C r args {st with E:=qG st.E T}=some (z,s):=hv;obtain ⟨lo,hlo,hlen,hround⟩:=quY hC h1 hF1 hhand (λq hq=>hpE q (.inr hq)) hv' (b:=b) hb;have hsz:(c.args.map a.eval).size=lo.params.size:=by rw [<- hlen];simp
    have hrun:(Deferred.ofValue (.func (.yield b) #[] #[]) (c.args.map a.eval) >>= λd=>invoke d.target d.args).run P w=.ok (.round b lo.fn ((lo.params.zip (c.args.map a.eval)).foldl (λtmps (t,a)=>tmps.setIfInBounds t a) lo.tmps) lo.assign lo.body) w:=by
     simp only [Deferred.ofValue,Sem.run_bind,Sem.run_pure,Result.andThen_ok,invoke,Array.empty_append];exact run_yield hlo hsz
    rw [hrun,Oper.uponIn_round];refine ⟨λhd=>by rcases hFF with rfl|⟨l,rfl⟩<;>simp [Fence.wide,Fence.inRound]at hd,?_⟩;have harr:(c.args.toList.map a.eval).toArray=c.args.map a.eval:=by apply Array.ext';simp
    have h3:=hround F hFF;rw [harr]at h3;refine RoundIn.mono h3 ?_;intro e w' he;cases e with
    |returned v =>
     obtain ⟨X',O',hR',hF',hz',hzp⟩:=he;refine hK v w' ⟨X',ql5 O' [] o.dst s.E.length [],?_⟩;rw [qhe];exact ⟨hR'.quP o.dst hz' Lin.nil (by simp) (by simp [hzp]),hF'.quP o.dst (by simp)⟩
    |panicked ch=>exact he.elim
    |outgrown=>exact he.elim
   |_=>simp [qjk]at hv
  ·-- a value
   have hnd:∀c,o.op≠.defer c:=by intro c hc;rw [hc]at hsem;simp [qbv]at hsem
   rw [Oper.semAt_eq _ _ _ hnd];obtain ⟨v,w',hrun,hSim⟩:=qBm h hF hn hsem;rw [hrun,Oper.uponIn_value];refine hK v w' ?_;rw [hst1,hT]at hSim;exact hSim
  ·-- a load that leaves the box asz it is
   obtain ⟨off,rest,hxs,hop⟩:=qcU hr;rcases hop with ⟨t,ao,hop⟩|⟨t,ao,xo,hop⟩
   ·rw [Oper.semAt_eq _ _ _ (by intro c hc;rw [hop]at hc;cases hc)];have hops:o.op.operands.toList=[ao]:=by rw [hop];rfl
    rw [hops]at hrep hxs;simp only [qi,List.map_nil,List.cons.injEq]at hxs;obtain ⟨hx1,rfl⟩:=hxs;simp only [qi,List.map_nil,RepL]at hrep;obtain ⟨u,vs,O1,O2,hu,rfl,hr1,rfl,rfl⟩:=hrep;simp only [List.cons.injEq,and_true]at hu;subst hu;rw [hx1]at hr1;have hbx:∃cs,({st with E:=qG st.E T}:St).box r=some cs:=by
     cases hh:({st with E:=qG st.E T}:St).box r with
     |some cs=>exact ⟨cs,rfl⟩
     |none=>rw [hops,qi,List.map_nil,hx1,hop,hh]at hsem;simp [qbv]at hsem
    obtain ⟨cs,hcs⟩:=hbx;rw [hops,qi,List.map_nil,hx1,hop,hcs]at hsem;simp only [qbv]at hsem;obtain ⟨v,hrun,hSim⟩:=qkk (dst:=o.dst) (h.taken T) (Fr.taken h hF T) hr1 hcs hsem;have hrun':(execOp a.eval o).run P w=.ok (.value v) w:=by simp only [execOp,hop,Sem.run_bind,hrun,Result.andThen_ok,Sem.run_pure]
    rw [hrun',Oper.uponIn_value];exact hK v w hSim
   ·have hops:o.op.operands.toList=[ao,xo]:=by rw [hop];rfl
    rw [hops]at hxs hsem;simp only [qi,List.map_nil,List.cons.injEq]at hxs;obtain ⟨hx1,rfl⟩:=hxs;rw [qi,qi,List.map_nil,hx1,hop]at hsem;simp only [qbv]at hsem;split at hsem
    ·split at hsem<;>simp at hsem
    ·cases hsem
  ·obtain ⟨off,rest,hxs,hop⟩:=qcU hr;rcases hop with ⟨t,ao,hop⟩|⟨t,ao,xo,hop⟩
   ·-- a load that qax
    rw [Oper.semAt_eq _ _ _ (by intro c hc;rw [hop]at hc;cases hc)];have hops:o.op.operands.toList=[ao]:=by rw [hop];rfl
    rw [hops]at hrep hxs;simp only [qi,List.map_nil,List.cons.injEq]at hxs;obtain ⟨hx1,rfl⟩:=hxs;simp only [qi,List.map_nil,RepL]at hrep;obtain ⟨u,vs,O1,O2,hu,rfl,hr1,rfl,rfl⟩:=hrep;simp only [List.cons.injEq,and_true]at hu;subst hu;rw [hx1]at hr1;have hbx:∃cs,({st with E:=qG st.E T}:St).box r=some cs:=by
     cases hh:({st with E:=qG st.E T}:St).box r with
     |some cs=>exact ⟨cs,rfl⟩
     |none=>rw [hops,qi,List.map_nil,hx1,hop,hh]at hsem;simp [qbv]at hsem
    obtain ⟨cs,hcs⟩:=hbx;rw [hops,qi,List.map_nil,hx1,hop,hcs]at hsem;simp only [qbv]at hsem;obtain ⟨v,hrun,hSim⟩:=qkk (dst:=o.dst) (h.taken T) (Fr.taken h hF T) hr1 hcs hsem;have hrun':(execOp a.eval o).run P w=.ok (.value v) w:=by simp only [execOp,hop,Sem.run_bind,hrun,Result.andThen_ok,Sem.run_pure]
    rw [hrun',Oper.uponIn_value];exact hK v w hSim
   ·-- a store
    rw [Oper.semAt_eq _ _ _ (by intro c hc;rw [hop]at hc;cases hc)];have htk:qax H f o=true:=by simp [qax,hop,qyG]
    have hops:o.op.operands.toList=[ao,xo]:=by rw [hop];rfl
    rw [hops]at hrep hxs;simp only [qi,List.map_nil,List.cons.injEq]at hxs;obtain ⟨hx1,rfl⟩:=hxs;simp only [qi,List.map_nil,RepL]at hrep;obtain ⟨u,vs,O1,O2,hu,rfl,hr1,u2,vs2,O3,O4,hu2,rfl,hr2,rfl,rfl⟩:=hrep;simp only [List.cons.injEq]at hu;obtain ⟨rfl,rfl⟩:=hu;simp only [List.cons.injEq,and_true]at hu2;subst hu2;rw [hx1]at hr1;have hO1:O1=[]:=by simp only [Rep]at hr1;exact hr1.1
    subst hO1;rw [hops,qi,qi,List.map_nil,hx1,hop]at hsem;simp only [qbv]at hsem;split at hsem
    ·rename_i cs hcs;split at hsem
     ·rename_i hcond;simp only [qb,Prod.mk.injEq]at hsem;obtain ⟨rfl,rfl⟩:=hsem;obtain ⟨w',hrun,hSim⟩:=qBl (dst:=o.dst) (T:=T) h hF hr1 hr2 (λb hb=>hin' b (by simpa using hb)) (by simpa using hlin) hcs hcond (λr' hr'=>h.ptrE r' (qrP hr')) (λr' hr'=>by
       rcases qi5 r' hr' with h2|h2
       ·exact h.up r cs hcs r' h2
       ·rw [hops,qi,qi,List.map_nil,hx1,hop]at hall;have:=List.all_eq_true.1 hall r' (qg9 h2);simpa using this)
      have hrun':(execOp a.eval o).run P w=.ok .skip w':=by simp only [execOp,hop,Sem.run_bind,hrun,Result.andThen_ok,Sem.run_pure]
      rw [hrun',Oper.uponIn_skip];exact hK _ w' hSim
     ·cases hsem
    ·cases hsem
  ·-- a call that gives a new map
   rw [Oper.semAt_eq _ _ _ (by intro c hc;rw [hop]at hc;cases hc)];have hops:o.op.operands.toList=fo::c.args.toList:=by rw [hop];simp [Op.operands,Call.operands,hcal]
   rw [hops]at hrep hxs;simp only [qi,List.cons.injEq]at hxs;obtain ⟨hfv,hargs⟩:=hxs;simp only [qi,RepL]at hrep;obtain ⟨u,vs,O1,O2,hu,rfl,hr1,hr2⟩:=hrep;rw [hfv]at hr1;rw [hargs]at hr2;simp only [List.cons.injEq]at hu;obtain ⟨rfl,rfl⟩:=hu;have hexec:execOp a.eval o=(do let d <- resolve a.eval c o.type;invoke d.target d.args):=by simp only [execOp,hop]
   have hres:resolve a.eval c o.type=Deferred.ofValue (a.eval fo) (c.args.map a.eval):=by simp only [resolve,hcal]
   rw [hexec,hres];cases fv with
   |fn g first cap =>
    simp only [Rep]at hr1;obtain ⟨va,vc,A1,A2,hv1,rfl,ha1,ha2⟩:=hr1;rw [hv1];have hrun:(Deferred.ofValue (.func (.func g) va.toArray vc.toArray) (c.args.map a.eval) >>= λd=>invoke d.target d.args).run P w=(callFunc g (va++c.args.toList.map a.eval++vc).toArray).run P w:=by
     simp only [Deferred.ofValue,Sem.run_bind,Sem.run_pure,Result.andThen_ok,invoke];congr 2
     apply Array.ext';simp
    have hall:RepL w X (first++args++cap) (va++c.args.toList.map a.eval++vc) (A1++O2++A2):=qbk (qbk ha1 hr2) ha2;have hcount:∀b,(A1++O2++A2).count b=(A1++A2++O2).count b:=λb=>by simp only [List.count_append]<;>omega
    have hinall:∀b∈A1++O2++A2,∃t∈T,b∈O (.tmp t):=λb hb=>hin' b (by
      have:=hcount b;have h1:=List.count_pos_iff.2 hb;exact List.count_pos_iff.1 (by omega))
    have hcall:qvr True P g (va++c.args.toList.map a.eval++vc).toArray w λv w'=>∃X' O',Rel (s.put o.dst z) (qyn a.tmps o.dst v) w' X' O'/\Fr w0 X0 Md n (s.put o.dst z) w' X' O':=by
     unfold qle at hv;split at hv
     ·exact qGe hC.born h hF (T:=T) hall hinall hv
     ·split at hv
      ·exact qH4 hC.seq h hF (T:=T) hall hv
      cases hq:qj0 (.fn g first cap) args with
      |none=>rw [hq]at hv;cases hv
      |some q =>
       rw [hq]at hv;obtain ⟨⟨v1,s1⟩,h1,h2⟩:=qc.1 hv;obtain ⟨rfl,rfl,_⟩:=qff (congrArg some h2);exact qEj hC.call h hF (T:=T) hall hinall (qwv hq) h1
    rw [hrun];exact qjc hFF (hcall.mono id λv w' ⟨X',O',h1,h2⟩=>hK v w' (by rw [qhe];exact ⟨X',O',h1,h2⟩))
   |_=>simp [qle,qmH,qwe]at hv
  ·-- a map
   have hnd:∀c,o.op≠.defer c:=by intro c hc;rw [hc]at hmo;simp [qew]at hmo
   rw [Oper.semAt_eq _ _ _ hnd];obtain ⟨T',hT'⟩:∃T',T'=T:=⟨_,rfl⟩
   have h1:=h.taken T;have hF1:=Fr.taken h hF T;obtain ⟨v,w',r,hrun,hr,_,hSim⟩:=qtb (st:={st with E:=qG st.E T}) h1 hF1 hrep hmp;rcases hr with rfl|⟨rfl,rfl⟩
   ·rw [hrun,Oper.uponIn_value];exact hK v w' hSim
   ·rw [hrun,Oper.uponIn_skip];exact hK undef w' hSim
end
section
variable {P:Program} {H:Hints} {f:FuncId} {C:Orc}
theorem qf0(st:St)(E:List V)(r:Root):({st with E:=E}:St).box r=st.box r:=rfl
theorem qAl(st:St)(E:List V):({st with E:=E}:St).box=st.box:=rfl
theorem qph(st:St)(E:List V)(r:Root)(c:List V):({st with E:=E}:St).qu r c={st.qu r c with E:=E}:=by
 unfold St.qu;split<;>rfl
theorem qH2(g:FuncId)(args:List V)(st:St)(E:List V):qho C g args {st with E:=E}=(qho C g args st).map λ(v,s)=>(v,{s with E:=E}):=by
 unfold qho;simp only
 by_cases hp:(ptrsL args).isEmpty=true
 ·rw [if_pos hp,if_pos hp];split<;>rfl
 ·rw [if_neg hp,if_neg hp];by_cases hpk:C.qlu g=true
  ·rw [if_pos hpk,if_pos hpk,qAl];cases peekL st.box args with
   |none=>rfl
   |some xs =>
    simp only
    split
    ·split
     ·split<;>rfl
     ·rfl
    ·rfl
  rw [if_neg hpk,if_neg hpk];cases C.call g (args.map V.hand) (st.L++[st.B])with
  |none=>rfl
  |some p =>
   obtain ⟨r,M⟩:=p;simp only
   cases qeX M with
   |none=>rfl
   |some q =>
    obtain ⟨L,B⟩:=q;simp only
    split<;>rfl
theorem qGi(r:Root)(args:List V)(st:St)(E:List V):qnJ C r args {st with E:=E}=(qnJ C r args st).map λ(v,s)=>(v,{s with E:=E}):=by
 unfold qnJ;rw [qf0];split
 ·split
  ·rfl
  ·simp only
   split
   ·split
    ·split
     ·split
      ·split
       ·split<;>rfl
       ·rfl
      ·rfl
     ·rfl
    ·rfl
   ·rfl
 ·rfl
theorem qGf(fv:V)(args:List V)(st:St)(E:List V):qjk C fv args {st with E:=E}=(qjk C fv args st).map λ(v,s)=>(v,{s with E:=E}):=by
 unfold qjk;split
 ·exact qH2 ..
 ·exact qGi ..
 ·rfl
def qfh(P:Program)(H:Hints)(f:FuncId)(o:Oper)(xs:List V)(st:St):Option (V×St×Fp) :=
 if qew o.op xs then mapStep P H f o xs st else match rootOf o.op xs with
  |none=>match qbv P H f (qax H f o) o.op o.type xs none with
   |some (v,none)=>some (v,st,.none)
   |_=>none
  |some r=>match qbv P H f (qax H f o) o.op o.type xs (st.box r)with
   |some (v,none)=>some (v,st,.root r (qav P o.op xs).1 (qav P o.op xs).2 false)
   |some (v,some c)=>if (qpM o.op xs).all (λp=>decide (p.lvl<=r.lvl))&&decide ((qav P o.op xs).1+(qav P o.op xs).2<=c.length)then some (v,st.qu r c,.root r (qav P o.op xs).1 (qav P o.op xs).2 true)else none
   |none=>none
def qlk:Op->Bool
 |.alloc _|.box .. | .call {callee:=.value _,..}=>false
 |_=>true
theorem qad{o:Oper}(h:qlk o.op=true)(xs:List V)(st:St):qcm P H C f o xs st=qfh P H f o xs st:=by
 unfold qcm;split
 ·rename_i hop;rw [hop]at h;simp [qlk]at h
 ·rename_i hop;rw [hop]at h;simp [qlk]at h
 ·rename_i hop;rw [hop]at h;simp [qlk]at h
 ·rfl
theorem qhE(o:Op):(∃t,o=.alloc t)\/(∃t a,o=.box t a)\/(∃c fo,o=.call c/\c.callee=.value fo)\/qlk o=true:=by
 cases o<;>first|exact .inr (.inr (.inr rfl))|exact .inl ⟨_,rfl⟩|exact .inr (.inl ⟨_,_,rfl⟩)|skip
 rename_i c;cases hc:c.callee with
 |value fo=>exact .inr (.inr (.inl ⟨c,fo,rfl,hc⟩))
 |_=>refine .inr (.inr (.inr ?_));cases c;simp only at hc;subst hc;rfl
theorem qb5{o:Oper}{c:Call}{fo:Operand}(hop:o.op=.call c)(hc:c.callee=.value fo)(xs:List V)(st:St) :
  qcm P H C f o xs st=match xs with
   |fv::args=>if qll H fv args then qle H C o.dst fv args st else (qjk C fv args st).map λ(v,s)=>(v,s,if qe6 fv args then .none else if qdp C fv then .looks else .all)
   |[]=>none:=by
 unfold qcm;obtain ⟨cal,a1,a2⟩:=c;simp only at hc;subst hc;simp only [hop];cases xs<;>rfl
theorem qH1(d:Option Tmp)(fv:V)(args:List V)(st:St)(E:List V):qyP C d fv args {st with E:=E}=(qyP C d fv args st).map λ(z,m,fp)=>(z,{m with E:=E},fp):=rfl
theorem qJf(d:Option Tmp)(fv:V)(args:List V)(st:St)(E:List V):qBC C d fv args {st with E:=E}=(qBC C d fv args st).map λ(z,m,fp)=>(z,{m with E:=E},fp):=by
 unfold qBC;split
 ·split
  ·split
   ·split<;>rfl
   ·rfl
  ·rfl
 ·rfl
theorem qCR(o:Oper)(xs:List V)(st:St)(E:List V):mapStep P H f o xs {st with E:=E}=(mapStep P H f o xs st).map λ(z,m,fp)=>(z,{m with E:=E},fp):=rfl
theorem qil{o:Oper}{xs:List V}{st m:St}{z:V}{fp:Fp}(h:mapStep P H f o xs st=some (z,m,fp)):(fp=.looks/\m=st)\/(∃q es es',fp=.mapw q/\st.box q=some [.mp es]/\m=st.qu q [.mp es']/\∀st2:St,st2.box q=some [.mp es]->mapStep P H f o xs st2=some (z,st2.qu q [.mp es'],fp)) \/
  (∃d,fp=.fresh ⟨st.L.length,d⟩/\qz st.B d=none/\m={st with B:=qel d [.mp []] st.B}/\∀st2:St,st2.L.length=st.L.length->qz st2.B d=none->mapStep P H f o xs st2=some (z,{st2 with B:=qel d [.mp []] st2.B},fp)):=by have h:(none:Option (V×St×Fp))=some (z,m,fp):=h;cases h
theorem qGd{d:Option Tmp}{fv:V}{args:List V}{st m:St}{z:V}{fp:Fp}(h:qyP C d fv args st=some (z,m,fp)) :
  ∃d' c,fp=.fresh ⟨st.L.length,d'⟩/\qz st.B d'=none/\m={st with B:=qel d' c st.B}/\∀st2:St,st2.L.length=st.L.length->qz st2.B d'=none->qyP C d fv args st2=some (z,{st2 with B:=qel d' c st2.B},fp):=by have h:(none:Option (V×St×Fp))=some (z,m,fp):=h;cases h
theorem qH3{d:Option Tmp}{fv:V}{args:List V}{st m:St}{z:V}{fp:Fp}(h:qBC C d fv args st=some (z,m,fp)) :
  ∃d' c,fp=.fresh ⟨st.L.length,d'⟩/\qz st.B d'=none/\m={st with B:=qel d' c st.B}/\∀st2:St,st2.L.length=st.L.length->qz st2.B d'=none->qBC C d fv args st2=some (z,{st2 with B:=qel d' c st2.B},fp):=by
 unfold qBC at h;split at h
 ·rename_i g first cap d;split at h
  ·rename_i s sep hl;split at h
   ·rename_i clos hs;split at h
    ·rename_i hc;obtain ⟨rfl,rfl,rfl⟩:=qff h;rw [Option.isNone_iff_eq_none]at hc;refine ⟨d,_,rfl,hc,rfl,λst2 h1 h2=>?_⟩;unfold qBC;simp only [hl,hs,h1];rw [if_pos (by rw [h2];rfl)]
    ·cases h
   ·cases h
  ·cases h
 ·cases h
theorem qyR{g:FuncId}{args:List V}{q:Root}{st m:St}{z:V}(h:qiz C g args q st=some (z,m)) :
  ∃es es',st.box q=some [.mp es]/\m=st.qu q [.mp es']/\∀st2:St,st2.L.length=st.L.length->st2.box q=some [.mp es]->qiz C g args q st2=some (z,st2.qu q [.mp es']):=by
 unfold qiz at h;split at h
 ·rename_i es hes;split at h
  ·rename_i r M hr;split at h
   ·rename_i hc;split at h
    ·rename_i es' hb;obtain ⟨rfl,rfl⟩:=Prod.mk.inj (Option.some.inj h);refine ⟨es,es',hes,rfl,λst2 h1 h2=>?_⟩;unfold qiz;simp only [h2,h1,hr];rw [if_pos hc,hb]
    ·cases h
   ·cases h
  ·cases h
 ·cases h
theorem qnK{d:Option Tmp}{fv:V}{args:List V}{st m:St}{z:V}{fp:Fp}(h:qle H C d fv args st=some (z,m,fp)) :
  (∃d' c,fp=.fresh ⟨st.L.length,d'⟩/\qz st.B d'=none/\m={st with B:=qel d' c st.B}/\∀st2:St,st2.L.length=st.L.length->qz st2.B d'=none->qle H C d fv args st2=some (z,{st2 with B:=qel d' c st2.B},fp)) \/
  (∃q es es',fp=.mapw q/\st.box q=some [.mp es]/\m=st.qu q [.mp es']/\∀st2:St,st2.L.length=st.L.length->st2.box q=some [.mp es]->qle H C d fv args st2=some (z,st2.qu q [.mp es'],fp)):=by
 unfold qle at h ⊢;by_cases hb:qmH H fv=true
 ·rw [if_pos hb]at h;simp only [hb,if_true];exact .inl (qGd h)
 ·rw [if_neg hb]at h;simp only [hb,qf,if_false];by_cases hb2:qwe H fv=true
  ·rw [if_pos hb2]at h;simp only [hb2,if_true];exact .inl (qH3 h)
  rw [if_neg hb2]at h;simp only [hb2,qf,if_false];right
  split at h
  ·rename_i g first cap q hq;obtain ⟨⟨v,s⟩,h1,h2⟩:=qc.1 h;obtain ⟨rfl,rfl,rfl⟩:=qff (congrArg some h2);obtain ⟨es,es',h3,h4,h5⟩:=qyR h1;refine ⟨q,es,es',rfl,h3,h4,λst2 h6 h7=>?_⟩;rw [h5 st2 h6 h7];rfl
  ·cases h
theorem qGh(g:FuncId)(args:List V)(q:Root)(st:St)(E:List V):qiz C g args q {st with E:=E}=(qiz C g args q st).map λ(v,s)=>(v,{s with E:=E}):=by
 unfold qiz;simp only [qf0,qph];split
 ·split
  ·split
   ·split<;>rfl
   ·rfl
  ·rfl
 ·rfl
theorem qH5(d:Option Tmp)(fv:V)(args:List V)(st:St)(E:List V):qle H C d fv args {st with E:=E}=(qle H C d fv args st).map λ(z,m,fp)=>(z,{m with E:=E},fp):=by
 unfold qle;split
 ·exact qH1 ..
 split
 ·exact qJf ..
 ·split
  ·rw [qGh];cases qiz C _ _ _ st<;>rfl
  ·rfl
theorem qyD(o:Oper)(xs:List V)(st:St)(E:List V):qcm P H C f o xs {st with E:=E}=(qcm P H C f o xs st).map λ(z,m,fp)=>(z,{m with E:=E},fp):=by
 rcases qhE o.op with ⟨t,hop⟩|⟨t,a,hop⟩|⟨c,fo,hop,hc⟩|hd
 ·unfold qcm;simp only [hop];split
  ·split<;>rfl
  ·rfl
 ·unfold qcm;simp only [hop];split
  ·split<;>rfl
  ·rfl
 ·rw [qb5 hop hc,qb5 hop hc];split
  ·split
   ·exact qH5 ..
   ·rw [qGf];cases qjk C _ _ st<;>rfl
  ·rfl
 ·rw [qad hd,qad hd];unfold qfh;split
  ·exact qCR ..
  simp only [qf0,qph];split
  ·split<;>rfl
  ·split
   ·rfl
   ·split<;>rfl
   ·rfl
theorem qgQ{o:Oper}{xs:List V}{st m:St}{z:V}(h:qcm P H C f o xs st=some (z,m,.none)):m=st/\∀st2,qcm P H C f o xs st2=some (z,st2,.none):=by
 rcases qhE o.op with ⟨t,hop⟩|⟨t,a,hop⟩|⟨c,fo,hop,hc⟩|hd
 ·unfold qcm at h;simp only [hop]at h;split at h
  ·split at h<;>simp at h
  ·cases h
 ·unfold qcm at h;simp only [hop]at h;split at h
  ·split at h<;>simp at h
  ·cases h
 ·rw [qb5 hop hc]at h;cases xs with
  |nil=>cases h
  |cons fv args =>
   simp only at h;split at h
   ·rcases qnK h with ⟨_,_,hp,_⟩|⟨_,_,_,hp,_⟩<;>cases hp
   rename_i hbn;obtain ⟨⟨v,s⟩,h1,h2⟩:=qc.1 h;obtain ⟨rfl,rfl,hp⟩:=qff (congrArg some h2);have hp':qe6 fv args=true:=by
    by_cases hpc:qe6 fv args=true
    ·exact hpc
    ·rw [if_neg hpc]at hp;split at hp<;>cases hp
   cases fv with
   |fn g first cap =>
    have hp2:(ptrsL (first++args++cap)).isEmpty=true:=hp';have h1':qho C g (first++args++cap) st=some (v,s):=h1;unfold qho at h1';rw [if_pos hp2]at h1';split at h1'
    ·rename_i r hr;obtain ⟨rfl,rfl⟩:=Prod.mk.inj (Option.some.inj h1');refine ⟨rfl,λst2=>?_⟩;rw [qb5 hop hc];have h3:qjk C (.fn g first cap) args st2=some (if looseL (first++args++cap)=true then r.qbX else r,st2):=by
      show qho C g (first++args++cap) st2=_;unfold qho;rw [if_pos hp2,hr]
     simp only [h3,qj,hp',if_true,hbn,qf,if_false]
    ·cases h1'
   |_=>simp [qe6]at hp'
 ·rw [qad hd]at h;unfold qfh at h;split at h
  ·rcases qil h with ⟨h1,_⟩|⟨_,_,_,h1,_⟩|⟨_,h1,_⟩<;>cases h1
  rename_i hmo;split at h
  ·rename_i hr;split at h
   ·rename_i v hv;obtain ⟨rfl,rfl,_⟩:=qff h;refine ⟨rfl,λst2=>?_⟩;rw [qad hd];unfold qfh;rw [if_neg hmo,hr,hv]
   ·cases h
  ·split at h
   ·simp at h
   ·split at h<;>simp at h
   ·cases h
theorem qmf{o:Oper}{xs:List V}{st m:St}{z:V}(h:qcm P H C f o xs st=some (z,m,.looks)):m=st:=by
 rcases qhE o.op with ⟨t,hop⟩|⟨t,a,hop⟩|⟨c,fo,hop,hc⟩|hd
 ·unfold qcm at h;simp only [hop]at h;split at h
  ·split at h<;>simp at h
  ·cases h
 ·unfold qcm at h;simp only [hop]at h;split at h
  ·split at h<;>simp at h
  ·cases h
 ·rw [qb5 hop hc]at h;cases xs with
  |nil=>cases h
  |cons fv args =>
   simp only at h;split at h
   ·rcases qnK h with ⟨_,_,hp,_⟩|⟨_,_,_,hp,_⟩<;>cases hp
   rename_i hbn;obtain ⟨⟨v,s⟩,h1,h2⟩:=qc.1 h;obtain ⟨rfl,rfl,hp⟩:=qff (congrArg some h2);have hp':¬ qe6 fv args=true:=λhpc=>by rw [if_pos hpc]at hp;cases hp
   rw [if_neg hp']at hp;have hlk:qdp C fv=true:=by
    by_cases hl:qdp C fv=true
    ·exact hl
    ·rw [if_neg hl]at hp;cases hp
   cases fv with
   |fn g first cap =>
    have hp2:¬ (ptrsL (first++args++cap)).isEmpty=true:=hp';have h1':qho C g (first++args++cap) st=some (v,s):=h1;have hlk':C.qlu g=true:=hlk;unfold qho at h1';rw [if_neg hp2,if_pos hlk']at h1';split at h1'
    ·split at h1'
     ·split at h1'
      ·split at h1'
       ·obtain ⟨_,rfl⟩:=Prod.mk.inj (Option.some.inj h1');rfl
       ·cases h1'
      ·cases h1'
     ·cases h1'
    ·cases h1'
   |_=>simp [qdp]at hlk
 ·rw [qad hd]at h;unfold qfh at h;split at h
  ·rcases qil h with ⟨_,h1⟩|⟨_,_,_,h1,_⟩|⟨_,h1,_⟩
   ·exact h1
   ·cases h1
   ·cases h1
  split at h
  ·split at h<;>simp at h
  ·split at h
   ·simp at h
   ·split at h<;>simp at h
   ·cases h
theorem qhg{cs new:List V}{off:Nat}(h:off+new.length<=cs.length)(i:Nat):(qV cs off new)[i]?=if off<=i/\i<off+new.length then new[i-off]? else cs[i]?:=by
 unfold qV;have h1:(cs.take off).length=off:=by simp<;>omega
 by_cases hi:i<off
 ·rw [if_neg (by omega),List.append_assoc,qh (by omega),List.getElem?_take,if_pos hi]
 ·by_cases hj:i<off+new.length
  ·rw [if_pos ⟨by omega,hj⟩,qh (by simp;omega),List.getElem?_append_right (by omega),h1]
  ·rw [if_neg (by omega),List.getElem?_append_right (by simp;omega),List.getElem?_drop];congr 1
   simp<;>omega
theorem qcW{cs new:List V}{off:Nat}(h:off+new.length<=cs.length):(qV cs off new).length=cs.length:=by
 unfold qV;simp<;>omega
theorem qpj{cs new:List V}{off a n:Nat}(h:off+new.length<=cs.length)(hd:off+new.length<=a\/a+n<=off):((qV cs off new).drop a).take n=(cs.drop a).take n:=by
 apply List.ext_getElem?;intro i;rw [List.getElem?_take,List.getElem?_take];split
 ·rw [List.getElem?_drop,List.getElem?_drop,qhg h,if_neg (by omega)]
 ·rfl
theorem qyA{cs x y:List V}{a b:Nat}(hx:a+x.length<=cs.length)(hy:b+y.length<=cs.length)(hd:a+x.length<=b\/b+y.length<=a):qV (qV cs a x) b y=qV (qV cs b y) a x:=by
 apply List.ext_getElem?;intro i;rw [qhg (by rw [qcW hx];exact hy),qhg hx,qhg (by rw [qcW hy];exact hx),qhg hy];by_cases h1:a<=i/\i<a+x.length
 ·rw [if_pos h1,if_pos h1,if_neg (by omega)]
 ·rw [if_neg h1,if_neg h1]
theorem qqP{cs new:List V}{off:Nat}(h:off+new.length<=cs.length)(hc:qg3 cs=false)(hn:off=0->qg3 new=false):qg3 (qV cs off new)=false:=by
 have key:∀l l':List V,l[0]?=l'[0]?->qg3 l'=false->qg3 l=false:=λl l' e hl=>by
  cases l with
  |nil=>rfl
  |cons x l=>cases l' with
   |nil=>simp at e
   |cons y l' =>
    simp only [List.getElem?_cons_zero,qb]at e;subst e;cases x<;>first|rfl|(simp [qg3]at hl)
 by_cases h0:off=0/\0<new.length
 ·exact key _ new (by rw [qhg h,if_pos (by omega),h0.1]) (hn h0.1)
 ·exact key _ cs (by rw [qhg h,if_neg (by omega)]) hc
theorem qr4(s:Nat)(c c':List V):∀B:Level,qgu (qgu B s c) s c'=qgu B s c'
 |[]=>rfl
 |(k,d)::B=>by
  simp only [qgu];by_cases h1:k=s
  ·simp [qgu,h1]
  ·simp [qgu,h1,qr4 s c c' B]
theorem qu4(st:St)(r:Root)(c c':List V):(st.qu r c).qu r c'=st.qu r c':=by
 obtain ⟨l,s⟩:=r;unfold St.qu;by_cases h1:l=st.L.length
 ·simp only [h1,if_true,qr4]
 ·simp only [h1,if_false,List.length_modify];congr 1
  apply List.ext_getElem?;intro i;simp only [List.getElem?_modify];by_cases h3:l=i
  ·subst h3;cases st.L[l]? with
   |none=>rfl
   |some B=>simp [qr4]
  ·simp [h3]
theorem quF{t:TypeId}{cs cs2:List V}{off:Nat}(hl:cs2.length=cs.length)(h:(cs2.drop off).take (if q8 P t then P.cellsOf t else 1)=(cs.drop off).take (if q8 P t then P.cellsOf t else 1)) :
  qar P t (cs2.drop off)=qar P t (cs.drop off):=by
 unfold qar;cases P.underlying t with
 |none=>rfl
 |some d =>
  simp only
  by_cases ha:q8 P t=true
  ·simp only [ha,if_true]at h ⊢;rw [h];simp only [List.length_drop,hl]
  ·have ha':q8 P t=false:=by simpa using ha
   simp only [ha',qf,if_false]at h ⊢;have:∀l:List V,l.head?=(l.take 1).head?:=λl=>by cases l<;>rfl
   rw [this,h,<- this]
theorem qx0{g:Fl->Fl}{l:List V}(h:qg3 l=false):qg3 (reflagL g l)=false:=by
 cases l with
 |nil=>rfl
 |cons x l=>cases x with
  |lp=>simp [qg3]at h
  |mp=>simp [qg3]at h
  |room s n =>
   simp only [reflagL,V.reflag];by_cases h1:g .own=.own
   ·rw [if_pos h1];rfl
   ·rw [if_neg h1];by_cases h2:n=0
    ·rw [if_pos h2];rfl
    ·rw [if_neg h2];rfl
  |_=>rfl
theorem qC8{x:V}(h:x.oks=true):qg3 x.cells=false:=by
 unfold V.oks at h;cases hc:x.cells with
 |nil=>rfl
 |cons y l =>
  rw [hc]at h;simp only [List.all_cons,qe]at h;cases y<;>first|rfl|(simp [V.one]at h)
theorem qtF{cs new:List V}{off:Nat}(h:new.length<=(cs.drop off).length):(qV cs off new).length=cs.length:=by
 unfold qV;simp only [List.length_drop]at h;simp<;>omega
def qtS(P:Program)(H:Hints)(f:FuncId)(o:Oper)(xs:List V)(st m:St)(z:V)(r:Root)(off len:Nat)(wr:Bool):Prop :=
 ∃new cs,st.box r=some cs/\qg3 cs=false/\(wr=true->new.length=len/\off+len<=cs.length/\(off=0->qg3 new=false))/\m=(if wr then st.qu r (qV cs off new)else st) /\
   ∀(st2:St) cs2,st2.box r=some cs2->qg3 cs2=false->cs2.length=cs.length->(cs2.drop off).take len=(cs.drop off).take len->qfh P H f o xs st2=some (z,if wr then st2.qu r (qV cs2 off new)else st2,.root r off len wr)
theorem qCA{l:List V}{n:Nat}(h:qg3 l=false):qg3 (l.take n)=false:=by
 cases l with
 |nil=>simp [qg3]
 |cons x l=>cases n with
  |zero=>rfl
  |succ n=>cases x<;>first|rfl|(simp [qg3]at h)
theorem qCM{o:Oper}{t:TypeId}{ao:Operand}(hop:o.op=.load t ao){xs:List V}{st m:St}{z:V}{r:Root}{off len:Nat}{wr:Bool}(h:qfh P H f o xs st=some (z,m,.root r off len wr)):qtS P H f o xs st m z r off len wr:=by
 have hun:∀st xs,qfh P H f o xs st=match rootOf (.load t ao) xs with
   |none=>(match qbv P H f (qax H f o) (.load t ao) o.type xs none with
    |some (v,none)=>some (v,st,.none)
    |_=>none)
   |some r=>match qbv P H f (qax H f o) (.load t ao) o.type xs (st.box r)with
    |some (v,none)=>some (v,st,.root r (qav P (.load t ao) xs).1 (qav P (.load t ao) xs).2 false)
    |some (v,some c)=>if (qpM (.load t ao) xs).all (λp=>decide (p.lvl<=r.lvl))&&decide ((qav P (.load t ao) xs).1+(qav P (.load t ao) xs).2<=c.length)then some (v,st.qu r c,.root r (qav P (.load t ao) xs).1 (qav P (.load t ao) xs).2 true)else none
    |none=>none:=λst xs=>by unfold qfh;rw [hop,if_neg (by simp [qew])]
 rw [hun]at h;have hx:∃r' off',xs=[.ptr r' off']:=by
  split at h
  ·split at h
   ·simp at h
   ·cases h
  ·rename_i r' hr;obtain ⟨off',rest,rfl,_⟩:=qcU hr;cases rest with
   |nil=>exact ⟨_,_,rfl⟩
   |cons y l=>simp [qbv]at h
 obtain ⟨r',off',rfl⟩:=hx;simp only [rootOf]at h;cases hbx:st.box r' with
 |none=>rw [hbx]at h;simp [qbv]at h
 |some cs =>
  rw [hbx]at h;simp only [qbv,qav,qpM,List.all_nil,Bool.true_and]at h;have hrange:∀cs2:List V,cs2.length=cs.length->(cs2.drop off').take (if q8 P t then P.cellsOf t else 1)=(cs.drop off').take (if q8 P t then P.cellsOf t else 1)->qar P t (cs2.drop off')=qar P t (cs.drop off'):=λcs2 hl heq=>quF hl heq;have hun2:∀(st2:St) cs2,st2.box r'=some cs2->qg3 cs2=false->qfh P H f o [.ptr r' off'] st2=match (if qax H f o then (qar P t (cs2.drop off')).map λx=>(x,some (qV cs2 off' (reflagL qac ((cs2.drop off').take (if q8 P t then P.cellsOf t else 1)))))
    else ((qar P t (cs2.drop off')).map V.qap).map λx=>(x,none))with
   |some (v,none)=>some (v,st2,.root r' off' (if q8 P t then P.cellsOf t else 1) false)
   |some (v,some c)=>if decide (off'+(if q8 P t then P.cellsOf t else 1)<=c.length)=true then some (v,st2.qu r' c,.root r' off' (if q8 P t then P.cellsOf t else 1) true)else none
   |none=>none:=λst2 cs2 hb2 hlp2=>by
    rw [hun];simp only [rootOf,hb2,qbv,qav,qpM,List.all_nil,Bool.true_and,hlp2,qf,if_false];rfl
  obtain ⟨n,hn⟩:∃n,(if q8 P t=true then P.cellsOf t else 1)=n:=⟨_,rfl⟩
  simp only [hn]at h hrange hun2;cases hlp:qg3 cs with
  |true=>rw [hlp]at h;simp at h
  |false =>
   rw [hlp]at h;simp only [qf,if_false]at h;cases htk:qax H f o with
   |true =>
    simp only [htk,if_true]at h hun2;cases hof:qar P t (cs.drop off')with
    |none=>rw [hof]at h;simp at h
    |some y =>
     rw [hof]at h;simp only [qj]at h;split at h
     ·rename_i hle;simp only [decide_eq_true_eq]at hle;rw [qtF (by rw [q5];simp;omega)]at hle;simp only [qb,Prod.mk.injEq,Fp.root.injEq]at h;obtain ⟨h1,h2,h3,h4,h5,h6⟩:=h;subst h1;subst h2;subst h3;subst h4;subst h5;subst h6;refine ⟨reflagL qac ((cs.drop off').take n),cs,hbx,hlp,λ_=>⟨by rw [q5,List.length_take,List.length_drop];omega,hle,λh0=>?_⟩,rfl,?_⟩
      ·subst h0;exact qx0 (qCA (by simpa using hlp))
      ·intro st2 cs2 hb2 hlp2 hl2 heq;rw [hun2 st2 cs2 hb2 hlp2,hrange cs2 hl2 heq,hof,heq];simp only [qj];rw [if_pos]
       ·rfl
       ·simp only [decide_eq_true_eq];rw [qtF (by rw [q5,<- heq];simp;omega)];omega
     ·cases h
   |false =>
    simp only [htk,qf,if_false]at h hun2;cases hof:qar P t (cs.drop off')with
    |none=>rw [hof]at h;simp at h
    |some y =>
     rw [hof]at h;simp only [qj,qb,Prod.mk.injEq,Fp.root.injEq]at h;obtain ⟨h1,h2,h3,h4,h5,h6⟩:=h;subst h1;subst h2;subst h3;subst h4;subst h5;subst h6;refine ⟨[],cs,hbx,hlp,(λh=>by simp at h),rfl,?_⟩;intro st2 cs2 hb2 hlp2 hl2 heq;rw [hun2 st2 cs2 hb2 hlp2,hrange cs2 hl2 heq,hof];rfl
theorem qBn{o:Oper}{t:TypeId}{ao xo:Operand}(hop:o.op=.store t ao xo){xs:List V}{st m:St}{z:V}{r:Root}{off len:Nat}{wr:Bool}(h:qfh P H f o xs st=some (z,m,.root r off len wr)):qtS P H f o xs st m z r off len wr:=by
 have hun:∀st xs,qfh P H f o xs st=match rootOf (.store t ao xo) xs with
   |none=>(match qbv P H f (qax H f o) (.store t ao xo) o.type xs none with
    |some (v,none)=>some (v,st,.none)
    |_=>none)
   |some r=>match qbv P H f (qax H f o) (.store t ao xo) o.type xs (st.box r)with
    |some (v,none)=>some (v,st,.root r (qav P (.store t ao xo) xs).1 (qav P (.store t ao xo) xs).2 false)
    |some (v,some c)=>if (qpM (.store t ao xo) xs).all (λp=>decide (p.lvl<=r.lvl))&&decide ((qav P (.store t ao xo) xs).1+(qav P (.store t ao xo) xs).2<=c.length)then some (v,st.qu r c,.root r (qav P (.store t ao xo) xs).1 (qav P (.store t ao xo) xs).2 true)else none
    |none=>none:=λst xs=>by unfold qfh;rw [hop,if_neg (by simp [qew])]
 rw [hun]at h;have hx:∃r' off' x,xs=[.ptr r' off',x]:=by
  split at h
  ·split at h
   ·simp at h
   ·cases h
  ·rename_i r' hr;obtain ⟨off',rest,rfl,_⟩:=qcU hr
   match rest with
   |[x]=>exact ⟨_,_,_,rfl⟩
   |[]=>simp [qbv]at h
   |_::_::_=>simp [qbv]at h
 obtain ⟨r',off',x,rfl⟩:=hx;simp only [rootOf]at h;cases hbx:st.box r' with
 |none=>rw [hbx]at h;simp [qbv]at h
 |some cs =>
  rw [hbx]at h;simp only [qbv,qav,qpM]at h;by_cases hc:qg3 cs=false/\P.cellsOf t≠0/\x.cells.length=P.cellsOf t/\off'+x.cells.length<=cs.length/\x.oks=true
  ·rw [if_pos hc]at h;have h:(if ((x.qv.all λp=>decide (p.lvl<=r'.lvl))&&decide (off'+x.cells.length<=(qV cs off' x.cells).length))=true then some (V.undef,st.qu r' (qV cs off' x.cells),Fp.root r' off' x.cells.length true)else none)=some (z,m,Fp.root r off len wr):=h;by_cases hall:((x.qv.all λp=>decide (p.lvl<=r'.lvl))&&decide (off'+x.cells.length<=(qV cs off' x.cells).length))=true
   ·rw [if_pos hall]at h;simp only [qb,Prod.mk.injEq,Fp.root.injEq]at h;obtain ⟨h1,h2,h3,h4,h5,h6⟩:=h;subst h1;subst h2;subst h3;subst h4;subst h5;subst h6;refine ⟨x.cells,cs,hbx,hc.1,λ_=>⟨rfl,hc.2.2.2.1,λ_=>qC8 hc.2.2.2.2⟩,rfl,?_⟩;intro st2 cs2 hb2 hlp2 hl2 heq;rw [hun];simp only [rootOf,hb2,qbv,qav,qpM];rw [if_pos ⟨hlp2,hc.2.1,hc.2.2.1,by rw [hl2];exact hc.2.2.2.1,hc.2.2.2.2⟩];show (if ((x.qv.all λp=>decide (p.lvl<=r'.lvl))&&decide (off'+x.cells.length<=(qV cs2 off' x.cells).length))=true then some (V.undef,st2.qu r' (qV cs2 off' x.cells),Fp.root r' off' x.cells.length true)else none)=_;have hall2:((x.qv.all λp=>decide (p.lvl<=r'.lvl))&&decide (off'+x.cells.length<=(qV cs2 off' x.cells).length))=true:=by
     simp only [qe,decide_eq_true_eq]at hall ⊢;refine ⟨hall.1,?_⟩;rw [qcW (by rw [hl2];exact hc.2.2.2.1),hl2];exact hc.2.2.2.1
    rw [if_pos hall2];rfl
   ·rw [if_neg hall]at h;cases h
  ·rw [if_neg hc]at h;cases h
theorem qeG{o:Oper}{xs:List V}{st m:St}{z:V}{r:Root}{off len:Nat}{wr:Bool}(h:qcm P H C f o xs st=some (z,m,.root r off len wr)) :
  qlk o.op=true/\qtS P H f o xs st m z r off len wr:=by
 rcases qhE o.op with ⟨t,hop⟩|⟨t,a,hop⟩|⟨c,fo,hop,hc⟩|hd
 ·unfold qcm at h;simp only [hop]at h;split at h
  ·split at h<;>simp at h
  ·cases h
 ·unfold qcm at h;simp only [hop]at h;split at h
  ·split at h<;>simp at h
  ·cases h
 ·rw [qb5 hop hc]at h;cases xs with
  |nil=>cases h
  |cons fv args =>
   simp only at h;split at h
   ·rcases qnK h with ⟨_,_,hp,_⟩|⟨_,_,_,hp,_⟩<;>cases hp
   rename_i hbn;obtain ⟨⟨v,s⟩,h1,h2⟩:=qc.1 h;obtain ⟨_,_,hp⟩:=qff (congrArg some h2);split at hp
   ·cases hp
   ·split at hp<;>cases hp
 ·rw [qad hd]at h;refine ⟨hd,?_⟩;have hmo:¬ qew o.op xs=true:=λhm=>by
   unfold qfh at h;rw [if_pos hm]at h;rcases qil h with ⟨h1,_⟩|⟨_,_,_,h1,_⟩|⟨_,h1,_⟩<;>cases h1
  cases hr:rootOf o.op xs with
  |none =>
   unfold qfh at h;rw [if_neg hmo,hr]at h;simp only at h;split at h
   ·simp at h
   ·cases h
  |some r' =>
   obtain ⟨_,_,_,hop⟩:=qcU hr;rcases hop with ⟨t,a,hop⟩|⟨t,a,x,hop⟩
   ·exact qCM hop h
   ·exact qBn hop h
theorem qr3(s s':Nat)(hne:s≠s')(c c':List V):∀B:Level,qgu (qgu B s c) s' c'=qgu (qgu B s' c') s c
 |[]=>rfl
 |(k,d)::B=>by
  simp only [qgu];by_cases h1:k=s
  ·subst h1;simp [qgu,hne]
  ·by_cases h2:k=s'
   ·subst h2;simp [qgu,h1]
   ·simp [qgu,h1,h2,qr3 s s' hne c c' B]
theorem qja(st:St)(r r':Root)(hne:r≠r')(c c':List V):(st.qu r c).qu r' c'=(st.qu r' c').qu r c:=by
 obtain ⟨l,s⟩:=r;obtain ⟨l',s'⟩:=r';unfold St.qu;by_cases h1:l=st.L.length
 ·by_cases h2:l'=st.L.length
  ·subst h1;simp only [h2,if_true];congr 1
   exact qr3 s s' (λe=>hne (by simp [e,h2])) c c' st.B
  ·simp only [h1,h2,if_true,if_false,List.length_modify]
 ·by_cases h2:l'=st.L.length
  ·simp only [h1,h2,if_true,if_false,List.length_modify]
  ·simp only [h1,h2,if_false,List.length_modify];congr 1
   apply List.ext_getElem?;intro i;simp only [List.getElem?_modify];by_cases h3:l'=i
   ·by_cases h4:l=i
    ·subst h3;subst h4;cases st.L[l]? with
     |none=>rfl
     |some B=>simp [qr3 s s' (λe=>hne (by simp [e])) c c' B]
    ·simp [h3,h4]
   ·by_cases h4:l=i
    ·simp [h3,h4]
    ·simp [h3,h4]
theorem qjb{o:Oper}{xs:List V}{st m:St}{z:V}{r:Root}(h:qcm P H C f o xs st=some (z,m,.fresh r)) :
  ∃d c,r=⟨st.L.length,d⟩/\qz st.B d=none/\m={st with B:=qel d c st.B}/\∀st2:St,st2.L.length=st.L.length->qz st2.B d=none->qcm P H C f o xs st2=some (z,{st2 with B:=qel d c st2.B},.fresh r):=by
 rcases qhE o.op with ⟨t,hop⟩|⟨t,a,hop⟩|⟨c,fo,hop,hc⟩|hd
 ·unfold qcm at h;simp only [hop]at h;split at h
  ·rename_i d z0 hd hz;split at h
   ·rename_i hl;obtain ⟨rfl,rfl,hf⟩:=qff h;cases hf;refine ⟨d,z0.cells,rfl,by simpa using hl,rfl,λst2 h1 h2=>?_⟩;unfold qcm;simp only [hop,hd,hz,h2,h1,Option.isNone_none,if_true]
   ·cases h
  ·cases h
 ·unfold qcm at h;simp only [hop]at h;split at h
  ·rename_i d x hd;split at h
   ·rename_i hl;obtain ⟨rfl,rfl,hf⟩:=qff h;cases hf;refine ⟨d,x.cells,rfl,by simpa using hl.1,rfl,λst2 h1 h2=>?_⟩;unfold qcm;simp only [hop,hd];rw [if_pos ⟨by rw [h2];rfl,hl.2⟩,h1]
   ·cases h
  ·cases h
 ·rw [qb5 hop hc]at h;cases xs with
  |nil=>cases h
  |cons fv args =>
   simp only at h;split at h
   ·rename_i hbn;rcases qnK h with ⟨d',c',hf,h1,h2,h3⟩|⟨_,_,_,hf,_⟩
    rotate_left
    ·cases hf
    cases hf;refine ⟨d',c',rfl,h1,h2,λst2 h4 h5=>?_⟩;rw [qb5 hop hc];simp only [hbn,if_true];exact h3 st2 h4 h5
   rename_i hbn;obtain ⟨⟨v,s⟩,h1,h2⟩:=qc.1 h;obtain ⟨_,_,hp⟩:=qff (congrArg some h2);split at hp
   ·cases hp
   ·split at hp<;>cases hp
 ·rw [qad hd]at h;unfold qfh at h;split at h
  ·rename_i hmo;rcases qil h with ⟨h1,_⟩|⟨_,_,_,h1,_⟩|⟨d,h1,h2,h3,h4⟩
   ·cases h1
   ·cases h1
   ·cases h1;refine ⟨d,_,rfl,h2,h3,λst2 h5 h6=>?_⟩;rw [qad hd];unfold qfh;rw [if_pos hmo];exact h4 st2 h5 h6
  split at h
  ·split at h
   ·obtain ⟨_,_,hp⟩:=qff h;cases hp
   ·cases h
  ·split at h
   ·obtain ⟨_,_,hp⟩:=qff h;cases hp
   ·split at h
    ·obtain ⟨_,_,hp⟩:=qff h;cases hp
    ·cases h
   ·cases h
theorem qzL(st:St)(d:Nat)(c:List V)(r:Root)(hne:r≠⟨st.L.length,d⟩):({st with B:=qel d c st.B}:St).box r=st.box r:=by
 obtain ⟨l,s⟩:=r;unfold St.box;by_cases h:l=st.L.length
 ·subst h;have:d≠s:=λe=>hne (by rw [e]);simp only [if_true,qcQ this]
 ·simp only [if_neg h]
theorem qrM(st:St)(d:Nat)(c:List V)(r:Root)(c':List V)(hne:r≠⟨st.L.length,d⟩):({st with B:=qel d c st.B}:St).qu r c'={st.qu r c' with B:=qel d c (st.qu r c').B}:=by
 obtain ⟨l,s⟩:=r;unfold St.qu;by_cases h:l=st.L.length
 ·subst h;have:d≠s:=λe=>hne (by rw [e]);simp only [if_true,qw5 this]
 ·simp only [if_neg h]
theorem qjY(s d:Nat)(c:List V):∀B:Level,(qz (qgu B s c) d=none↔qz B d=none)
 |[]=>Iff.rfl
 |(k,e)::B=>by
  simp only [qgu];by_cases h1:k=s
  ·rw [if_pos h1];by_cases h2:k=d
   ·simp only [qz,if_pos h2];simp
   ·simp only [qz,if_neg h2]
  ·rw [if_neg h1];by_cases h2:k=d
   ·simp only [qz,if_pos h2]
   ·simp only [qz,if_neg h2];exact qjY s d c B
theorem qcE(st:St)(r:Root)(c:List V)(d:Nat):(qz (st.qu r c).B d=none↔qz st.B d=none)/\(st.qu r c).L.length=st.L.length:=by
 unfold St.qu;split
 ·exact ⟨qjY _ _ _ _,rfl⟩
 ·exact ⟨Iff.rfl,by simp⟩
theorem qoP{o:Oper}{xs:List V}{st m:St}{z:V}{q:Root}(h:qcm P H C f o xs st=some (z,m,.mapw q)) :
  ∃es es',st.box q=some [.mp es]/\m=st.qu q [.mp es']/\∀st2:St,st2.L.length=st.L.length->st2.box q=some [.mp es]->qcm P H C f o xs st2=some (z,st2.qu q [.mp es'],.mapw q):=by
 rcases qhE o.op with ⟨t,hop⟩|⟨t,a,hop⟩|⟨c,fo,hop,hc⟩|hd
 ·unfold qcm at h;simp only [hop]at h;split at h
  ·split at h<;>simp at h
  ·cases h
 ·unfold qcm at h;simp only [hop]at h;split at h
  ·split at h<;>simp at h
  ·cases h
 ·rw [qb5 hop hc]at h;cases xs with
  |nil=>cases h
  |cons fv args =>
   simp only at h;split at h
   ·rename_i hbn;rcases qnK h with ⟨_,_,hf,_⟩|⟨q',es,es',hf,h1,h2,h3⟩
    ·cases hf
    cases hf;refine ⟨es,es',h1,h2,λst2 h4 h5=>?_⟩;rw [qb5 hop hc];simp only [hbn,if_true];exact h3 st2 h4 h5
   obtain ⟨⟨v,s⟩,h1,h2⟩:=qc.1 h;obtain ⟨_,_,hp⟩:=qff (congrArg some h2);split at hp
   ·cases hp
   ·split at hp<;>cases hp
 ·rw [qad hd]at h;unfold qfh at h;split at h
  ·rename_i hmo;rcases qil h with ⟨h1,_⟩|⟨q',es,es',h1,h2,h3,h4⟩|⟨d,h1,_⟩
   ·cases h1
   ·cases h1;refine ⟨es,es',h2,h3,λst2 _ h6=>?_⟩;rw [qad hd];unfold qfh;rw [if_pos hmo];exact h4 st2 h6
   ·cases h1
  split at h
  ·split at h
   ·obtain ⟨_,_,hp⟩:=qff h;cases hp
   ·cases h
  ·split at h
   ·obtain ⟨_,_,hp⟩:=qff h;cases hp
   ·split at h
    ·obtain ⟨_,_,hp⟩:=qff h;cases hp
    ·cases h
   ·cases h
theorem qBk{o o':Oper}{xs xs':List V}{st m m':St}{z z':V}{fp fp':Fp}(h:qcm P H C f o xs st=some (z,m,fp))(h':qcm P H C f o' xs' m=some (z',m',fp'))(hc:fp.conflict fp'=false) :
  ∃m1,qcm P H C f o' xs' st=some (z',m1,fp')/\qcm P H C f o xs m1=some (z,m',fp):=by
 cases fp with
 |none =>
  obtain ⟨rfl,h2⟩:=qgQ h;exact ⟨m',h',h2 m'⟩
 |root r off len wr =>
  cases fp' with
  |none =>
   obtain ⟨rfl,h2⟩:=qgQ h';exact ⟨st,h2 st,h⟩
  |root r' off' len' wr' =>
   obtain ⟨hd,new,cs,hb,hlp,hw,hm,hK⟩:=qeG h;obtain ⟨hd',new',cs',hb',hlp',hw',hm',hK'⟩:=qeG h';simp only [Fp.conflict,Bool.and_eq_false_iff,decide_eq_false_iff_not,Bool.or_eq_false_iff,Bool.not_eq_false',Bool.or_eq_true,decide_eq_true_eq]at hc;by_cases hr:r=r'
   ·subst hr;by_cases hww:wr=false/\wr'=false
    ·obtain ⟨rfl,rfl⟩:=hww;simp only [qf,if_false]at hm hm';subst hm;subst hm';exact ⟨_,h',h⟩
    ·have hdis:off+len<=off'\/off'+len'<=off:=by
      rcases hc with (hc|hc)|hc
      ·exact absurd rfl hc
      ·exact absurd hc hww
      ·exact hc
     have hmb:m.box r=some (if wr then qV cs off new else cs):=by
      rw [hm];cases wr<;>simp [qab,hb]
     have hcs':cs'=if wr then qV cs off new else cs:=by rw [hmb]at hb';exact (Option.some.inj hb').symm
     have hl:cs.length=cs'.length:=by
      rw [hcs'];cases wr with
      |false=>rfl
      |true=>obtain ⟨h1,h2,_⟩:=hw rfl;simp only [if_true];rw [qcW (by omega)]
     have hk:(cs.drop off').take len'=(cs'.drop off').take len':=by
      rw [hcs'];cases wr with
      |false=>rfl
      |true=>obtain ⟨h1,h2,_⟩:=hw rfl;simp only [if_true];rw [qpj (by omega) (by omega)]
     have s1:=hK' st cs hb hlp hl hk;have hm1b:(if wr' then st.qu r (qV cs off' new')else st).box r=some (if wr' then qV cs off' new' else cs):=by
      cases wr'<;>simp [qab,hb]
     have hlp1:qg3 (if wr' then qV cs off' new' else cs)=false:=by
      cases wr' with
      |false=>exact hlp
      |true=>obtain ⟨h1,h2,h3⟩:=hw' rfl;simp only [if_true];exact qqP (by omega) hlp h3
     have hl1:(if wr' then qV cs off' new' else cs).length=cs.length:=by
      cases wr' with
      |false=>rfl
      |true=>obtain ⟨h1,h2,h3⟩:=hw' rfl;simp only [if_true];exact qcW (by omega)
     have hk1:((if wr' then qV cs off' new' else cs).drop off).take len=(cs.drop off).take len:=by
      cases wr' with
      |false=>rfl
      |true=>obtain ⟨h1,h2,h3⟩:=hw' rfl;simp only [if_true];exact qpj (by omega) (by omega)
     have s2:=hK _ _ hm1b hlp1 hl1 hk1;refine ⟨_,by rw [qad hd'];exact s1,?_⟩;rw [qad hd,s2];congr 2
     rw [Prod.mk.injEq];refine ⟨?_,rfl⟩;rw [hm',hm,hcs'];cases wr<;>cases wr'<;>simp only [qf,if_false,if_true,qu4]
     obtain ⟨h1,h2,_⟩:=hw rfl;obtain ⟨h3,h4,_⟩:=hw' rfl;rw [qyA (by omega) (by omega) (by omega)]
   ·have e1:∀(st:St) d,(st.qu r d).box r'=st.box r':=λst d=>by rw [qab,if_neg (Ne.symm hr)]
    have e2:∀(st:St) d,(st.qu r' d).box r=st.box r:=λst d=>by rw [qab,if_neg hr]
    have hbs:st.box r'=some cs':=by rw [<- hb',hm];cases wr<;>simp [e1]
    have s1:=hK' st cs' hbs hlp' rfl rfl;have s2:=hK (if wr' then st.qu r' (qV cs' off' new')else st) cs (by cases wr'<;>simp [e2,hb]) hlp rfl rfl;refine ⟨_,by rw [qad hd'];exact s1,?_⟩;rw [qad hd,s2,hm',hm];cases wr<;>cases wr'<;>simp [qja _ _ _ hr]
  |fresh q =>
   simp only [Fp.conflict,decide_eq_false_iff_not]at hc;obtain ⟨hd,new,cs,hb,hlp,hw,hm,hK⟩:=qeG h;obtain ⟨d,c,hq,hn,hm',hS⟩:=qjb h';have hLm:m.L.length=st.L.length:=by
    rw [hm];cases wr with
    |false=>rfl
    |true=>exact (qcE st r _ 0).2
   rw [hLm]at hq;have hne:r≠⟨st.L.length,d⟩:=λe=>hc (by rw [hq,e]);have hn0:qz st.B d=none:=by
    rw [hm]at hn;cases wr with
    |false=>exact hn
    |true=>exact (qcE st r _ d).1.1 hn
   refine ⟨_,hS st hLm.symm hn0,?_⟩;rw [qad hd,hK _ cs (by rw [qzL _ _ _ _ hne];exact hb) hlp rfl rfl,hm',hm];cases wr with
   |false=>rfl
   |true=>simp only [if_true];rw [qrM _ _ _ _ _ hne]
  |looks =>
   have hw:wr=false:=by simpa [Fp.conflict]using hc
   subst hw;obtain ⟨hd,new,cs,hb,hlp,hw,hm,hK⟩:=qeG h;simp only [qf,if_false]at hm;subst hm;obtain rfl:=qmf h';exact ⟨_,h',h⟩
  |all=>simp [Fp.conflict]at hc
  |mapw q =>
   obtain ⟨hd,new,cs,hb,hlp,hw,hm,hK⟩:=qeG h;obtain ⟨es,es',hq,hm',hS⟩:=qoP h';have hne:r≠q:=λe=>by
    subst e;rw [hm]at hq;cases wr with
    |false=>simp only [qf,if_false]at hq;rw [hb]at hq;cases hq;simp [qg3]at hlp
    |true =>
     obtain ⟨h1,h2,h3⟩:=hw rfl;simp only [if_true,qab,hb,qj,qb]at hq;have:=qqP (by omega) hlp h3;rw [hq]at this;simp [qg3]at this
   have hLm:m.L.length=st.L.length:=by
    rw [hm];cases wr with
    |false=>rfl
    |true=>exact (qcE st r _ 0).2
   have hq0:st.box q=some [.mp es]:=by
    rw [<- hq,hm];cases wr with
    |false=>rfl
    |true=>simp only [if_true];rw [qab,if_neg (Ne.symm hne)]
   refine ⟨_,hS st hLm.symm hq0,?_⟩;rw [qad hd,hK (st.qu q [.mp es']) cs (by rw [qab,if_neg hne];exact hb) hlp rfl rfl,hm',hm];cases wr<;>simp [qja _ _ _ hne]
 |mapw q =>
  obtain ⟨es,es',hq,hm,hS⟩:=qoP h;cases fp' with
  |none =>
   obtain ⟨rfl,h2⟩:=qgQ h';exact ⟨st,h2 st,h⟩
  |root r off len wr =>
   obtain ⟨hd,new,cs,hb,hlp,hw,hm',hK⟩:=qeG h';have hne:r≠q:=λe=>by
    subst e;rw [hm,qab,if_pos rfl,hq]at hb;simp only [qj,qb]at hb;rw [<- hb]at hlp;simp [qg3]at hlp
   have hb0:st.box r=some cs:=by rw [<- hb,hm,qab,if_neg hne]
   have hLs:(if wr then st.qu r (qV cs off new)else st).L.length=st.L.length:=by
    cases wr with
    |false=>rfl
    |true=>exact (qcE st r _ 0).2
   refine ⟨_,by rw [qad hd];exact hK st cs hb0 hlp rfl rfl,?_⟩;rw [hS _ hLs (by cases wr with
    |false=>exact hq
    |true=>simp only [if_true];rw [qab,if_neg (Ne.symm hne)];exact hq),hm',hm]
   cases wr<;>simp [qja _ _ _ hne]
  |mapw q' =>
   simp only [Fp.conflict,decide_eq_false_iff_not]at hc;obtain ⟨es2,es2',hq',hm',hS'⟩:=qoP h';have hLm:m.L.length=st.L.length:=by rw [hm];exact (qcE st q _ 0).2
   have hq0:st.box q'=some [.mp es2]:=by rw [<- hq',hm,qab,if_neg (Ne.symm hc)]
   refine ⟨_,hS' st hLm.symm hq0,?_⟩;rw [hS _ ((qcE st q' _ 0).2) (by rw [qab,if_neg hc];exact hq),hm',hm,qja _ _ _ (Ne.symm hc)]
  |_=>simp [Fp.conflict]at hc
 |looks =>
  obtain rfl:=qmf h;cases fp' with
  |none =>
   obtain ⟨rfl,h2⟩:=qgQ h';exact ⟨_,h2 _,h⟩
  |looks =>
   obtain rfl:=qmf h';exact ⟨_,h',h⟩
  |root r off len wr =>
   have hw:wr=false:=by simpa [Fp.conflict]using hc
   subst hw;obtain ⟨hd,new,cs,hb,hlp,hw,hm,hK⟩:=qeG h';simp only [qf,if_false]at hm;subst hm;exact ⟨_,h',h⟩
  |_=>simp [Fp.conflict]at hc
 |fresh q =>
  cases fp' with
  |none =>
   obtain ⟨rfl,h2⟩:=qgQ h';exact ⟨st,h2 st,h⟩
  |root r off len wr =>
   simp only [Fp.conflict,decide_eq_false_iff_not]at hc;obtain ⟨hd,new,cs,hb,hlp,hw,hm,hK⟩:=qeG h';obtain ⟨d,c,hq,hn,hm',hS⟩:=qjb h;have hne:r≠⟨st.L.length,d⟩:=λe=>hc (by rw [hq,e]);have hb0:st.box r=some cs:=by rw [hm',qzL _ _ _ _ hne]at hb;exact hb
   refine ⟨_,by rw [qad hd];exact hK st cs hb0 hlp rfl rfl,?_⟩;have hS':=hS (if wr then st.qu r (qV cs off new)else st) (by
    cases wr with
    |false=>rfl
    |true=>exact (qcE st r _ 0).2) (by
    cases wr with
    |false=>exact hn
    |true=>exact (qcE st r _ d).1.2 hn)
   rw [hS',hm,hm'];cases wr with
   |false=>rfl
   |true=>simp only [if_true];rw [qrM _ _ _ _ _ hne]
  |fresh q' =>
   simp only [Fp.conflict,decide_eq_false_iff_not]at hc;obtain ⟨d,c,hq,hn,hm,hS⟩:=qjb h;obtain ⟨d',c',hq',hn',hm',hS'⟩:=qjb h';have hL:m.L.length=st.L.length:=by rw [hm]
   have hdd:d≠d':=λe=>hc (by rw [hq,hq',hL,e]);rw [hm]at hn';simp only [qcQ hdd]at hn';refine ⟨{st with B:=qel d' c' st.B},hS' st hL.symm hn',?_⟩;rw [hS {st with B:=qel d' c' st.B} rfl (by simp only [qcQ (Ne.symm hdd)];exact hn),hm',hm];simp only
   rw [qv6 hdd]
  |_=>simp [Fp.conflict]at hc
 |all =>
  cases fp' with
  |none =>
   obtain ⟨rfl,h2⟩:=qgQ h';exact ⟨st,h2 st,h⟩
  |_=>simp [Fp.conflict]at hc
end
section
variable {P:Program} {H:Hints} {f:FuncId} {C:Orc}
mutual
theorem dull_of_owns:∀x:V,x.owns=false->x.reflag qac=x
 |.room ..,h=>by simp [V.owns]at h
 |.undef,_|.val _,_|.ptr ..,_|.yld _,_|.mref _,_|.bsl ..,_|.mp _,_|.lp ..,_=>by simp [V.reflag]
 |.cptr f l,h=>by
  simp only [V.owns,Bool.or_eq_false_iff,decide_eq_false_iff_not]at h;simp only [V.reflag,dullL_of_owns l h.2];congr 1
  cases f<;>simp_all [qac]
 |.sl f c l,h=>by
  simp only [V.owns,Bool.or_eq_false_iff,decide_eq_false_iff_not]at h;simp only [V.reflag,dullL_of_owns l h.2];have:qac f=f:=by cases f<;>simp_all [qac]
  rw [this]
 |.fn g a b,h=>by
  simp only [V.owns,Bool.or_eq_false_iff]at h;simp only [V.reflag,dullL_of_owns a h.1,dullL_of_owns b h.2]
 |.iface t x,h=>by simp only [V.owns]at h;simp only [V.reflag,dull_of_owns x h]
 |.agg l,h=>by simp only [V.owns]at h;simp only [V.reflag,dullL_of_owns l h]
 |.tuple l,h=>by simp only [V.owns]at h;simp only [V.reflag,dullL_of_owns l h]
theorem dullL_of_owns:∀l:List V,ownsL l=false->reflagL qac l=l
 |[],_=>rfl
 |x::l,h=>by
  simp only [ownsL,Bool.or_eq_false_iff]at h;simp only [reflagL,dull_of_owns x h.1,dullL_of_owns l h.2]
end
mutual
theorem dull_dull:∀x:V,(x.reflag qac).reflag qac=x.reflag qac
 |.room s n=>by
  simp only [V.reflag,qac];by_cases h:n=0
  ·simp [h,V.reflag,qac,reflagL]
  ·simp [h,V.reflag]
 |.undef|.val _|.ptr .. | .yld _|.mref _|.bsl .. | .mp _|.lp ..=>by simp [V.reflag]
 |.cptr f l=>by
  simp only [V.reflag,dullL_dull l];congr 1
  cases f<;>rfl
 |.sl f c l=>by
  simp only [V.reflag,dullL_dull l];have:qac (qac f)=qac f:=by cases f<;>rfl
  rw [this]
 |.fn g a b=>by simp only [V.reflag,dullL_dull a,dullL_dull b]
 |.iface t x=>by simp only [V.reflag,dull_dull x]
 |.agg l=>by simp only [V.reflag,dullL_dull l]
 |.tuple l=>by simp only [V.reflag,dullL_dull l]
theorem dullL_dull:∀l:List V,reflagL qac (reflagL qac l)=reflagL qac l
 |[]=>rfl
 |x::l=>by simp only [reflagL,dull_dull x,dullL_dull l]
end
theorem qh0:∀(T:List Tmp) (E:List V) (t:Nat),(qG E T)[t]?=if t∈T then E[t]?.map V.qap else E[t]?
 |[],E,t=>by simp [qG]
 |s::T,E,t=>by
  have h:(qG E (s::T))=qG (E.modify s V.qap) T:=rfl;rw [h,qh0 T,List.getElem?_modify];by_cases hst:s=t
  ·subst hst;simp only [if_true,qm,true_or,Option.map_eq_map];by_cases hm:s∈T
   ·rw [if_pos hm];cases E[s]? with
    |none=>rfl
    |some x=>simp only [qj,qb];exact dull_dull x
   ·rw [if_neg hm]
  ·have:(t∈s::T)↔t∈T:=by simp [Ne.symm hst]
   simp only [hst,if_false,this,Option.map_eq_map];split<;>simp
def qA9(d:Option Tmp)(z:V)(E:List V):List V:=match d with
 |some d=>E.set d z
 |none=>E
def qiY(P:Program)(H:Hints)(C:Orc)(f:FuncId)(o:Oper)(b:Bool)(xs:List V)(st:St):Option (V×St×Fp):=if b then qcm P H C f o xs st else some (.val undef,st,.none)
def qc4(H:Hints)(f:FuncId)(o:Oper)(b:Bool):List Tmp:=if b&&qax H f o then tmpsOf o else []
structure One (P:Program) (H:Hints) (C:Orc) (f:FuncId) (ops:Array Oper) (o:Oper) (st s:St) (ft:Foot) (b:Bool) (z:V) (m:St):Prop where
 wanted:qdY ops st.E o=some b
 nodup:b=true->qax H f o=true->qha (tmpsOf o)=true
 mem:qiY P H C f o b (o.op.operands.toList.map (rd H f o st.E)) st=some (z,m,ft.fp)
 res:s={m with E:=qA9 o.dst z (qG st.E (qc4 H f o b))}
 took:ft.took=if b then qhJ H f o st.E else []
 looks:ft.looks=qcw H f ops o
theorem put_eq(s:St)(d:Option Tmp)(z:V):s.put d z={s with E:=qA9 d z s.E}:=by cases d<;>rfl
theorem qe4{ops:Array Oper}{i:Nat}{st s:St}{ft:Foot}:qds P H C f ops i st=some (s,ft)↔∃o,ops[i]?=some o/\∃b z m,One P H C f ops o st s ft b z m:=by
 unfold qds;constructor
 ·intro h;cases ho:ops[i]? with
  |none=>rw [ho]at h;cases h
  |some o =>
   rw [ho]at h;simp only at h;refine ⟨o,rfl,?_⟩;cases hw:qdY ops st.E o with
   |none=>rw [hw]at h;cases h
   |some b =>
    rw [hw]at h;cases b with
    |false =>
     simp only [qb,Prod.mk.injEq]at h;obtain ⟨rfl,rfl⟩:=h;exact ⟨false,.val undef,st,hw,(λhb=>nomatch hb),rfl,by rw [put_eq];rfl,rfl,rfl⟩
    |true =>
     simp only at h;obtain ⟨⟨s1,fp⟩,h1,h2⟩:=qc.1 h;simp only [Prod.mk.injEq]at h2;obtain ⟨rfl,rfl⟩:=h2;unfold qgv at h1;split at h1
     ·cases h1
     ·rename_i hn;obtain ⟨⟨z,m,fp'⟩,h3,h4⟩:=qc.1 h1;simp only [Prod.mk.injEq]at h4;obtain ⟨rfl,rfl⟩:=h4;have hE:(if qax H f o=true then {st with E:=qG st.E (tmpsOf o)}else st)={st with E:=qG st.E (qc4 H f o true)}:=by
       unfold qc4;by_cases ht:qax H f o=true<;>simp [ht,qG]
      rw [hE,qyD]at h3;obtain ⟨⟨z1,m1,fp1⟩,h5,h6⟩:=qc.1 h3;simp only [Prod.mk.injEq]at h6;obtain ⟨rfl,rfl,rfl⟩:=h6;exact ⟨true,z1,m1,hw,λ_ ht=>by simpa [ht]using hn,h5,by rw [put_eq],rfl,rfl⟩
 ·rintro ⟨o,ho,b,z,m,h⟩;rw [ho];simp only [h.wanted];cases b with
  |false =>
   obtain ⟨rfl,rfl,hfp⟩:=qff (h.mem);have h1:=h.res;have h2:=h.took;have h3:=h.looks;simp only [qb,Prod.mk.injEq];refine ⟨by rw [h1,put_eq];rfl,?_⟩;cases ft;simp_all
  |true =>
   have h0:=h.mem;simp only [qiY,if_true]at h0;have hE:(if qax H f o=true then {st with E:=qG st.E (tmpsOf o)}else st)={st with E:=qG st.E (qc4 H f o true)}:=by
    unfold qc4;by_cases ht:qax H f o=true<;>simp [ht,qG]
   have h3:qgv P H C f o st=some (s,ft.fp):=by
    unfold qgv;rw [if_neg (by intro hc;simp only [qe,Bool.not_eq_true']at hc;rw [h.nodup rfl hc.1]at hc;cases hc.2),hE,qyD,h0];simp only [qj,qb,Prod.mk.injEq,and_true];rw [put_eq,h.res]
   simp only [h3,qj,qb,Prod.mk.injEq,true_and];have h1:=h.took;have h2:=h.looks;cases ft;simp_all
theorem qwx{o o':Oper}{b b':Bool}{xs xs':List V}{st m m':St}{z z':V}{fp fp':Fp}(h:qiY P H C f o b xs st=some (z,m,fp))(h':qiY P H C f o' b' xs' m=some (z',m',fp'))(hc:fp.conflict fp'=false) :
  ∃m1,qiY P H C f o' b' xs' st=some (z',m1,fp')/\qiY P H C f o b xs m1=some (z,m',fp):=by
 cases b with
 |false =>
  obtain ⟨rfl,rfl,rfl⟩:=qff h;exact ⟨m',h',rfl⟩
 |true =>
  cases b' with
  |false =>
   obtain ⟨rfl,rfl,rfl⟩:=qff h';exact ⟨st,rfl,h⟩
  |true=>exact qBk h h' hc
theorem qww(o:Oper)(b:Bool)(xs:List V)(st:St)(E:List V):qiY P H C f o b xs {st with E:=E}=(qiY P H C f o b xs st).map λ(z,m,fp)=>(z,{m with E:=E},fp):=by
 cases b
 ·rfl
 ·exact qyD ..
theorem getD_congr{E E':List V}{t:Nat}(h:E'[t]?=E[t]?):E'.getD t .undef=E.getD t .undef:=by
 rw [List.getD_eq_getElem?_getD,List.getD_eq_getElem?_getD,h]
def qjz(E E':List V)(t:Tmp):Prop:=(E'[t]?).map V.qap=(E[t]?).map V.qap
theorem qjz.of{E E':List V}{t:Tmp}(h:E'[t]?=E[t]?):qjz E E' t:=by unfold qjz;rw [h]
theorem qjz.getD{E E':List V}{t:Tmp}(h:qjz E E' t):(E'.getD t .undef).qap=(E.getD t .undef).qap:=by
 unfold qjz at h;rw [List.getD_eq_getElem?_getD,List.getD_eq_getElem?_getD];cases h1:E'[t]?<;>cases h2:E[t]?<;>rw [h1,h2]at h<;>simp at h ⊢
 exact h
theorem qtP{ops:Array Oper}{o:Oper}{E E':List V}(h:∀t∈qcw H f ops o,E'[t]?=E[t]?)(hd:∀t∈looksAt ops o,qjz E E' t) :
  qdY ops E' o=qdY ops E o/\o.op.operands.toList.map (rd H f o E')=o.op.operands.toList.map (rd H f o E)/\qhJ H f o E'=qhJ H f o E:=by
 have ht:qax H f o=true->∀t∈tmpsOf o,E'[t]?=E[t]?:=λhk t ht=>h t (List.mem_append_left _ (by rw [if_pos hk];exact ht));refine ⟨?_,?_,?_⟩
 ·unfold qdY;cases hg:o.guard with
  |none=>rfl
  |some gw =>
   obtain ⟨g,want⟩:=gw;simp only
   cases hb:(ops[g]?).bind (·.dst)with
   |none=>rfl
   |some t =>
    simp only
    rw [h t (List.mem_append_right _ (by rw [hg];simp [hb]))]
 ·refine List.map_congr_left λx hx=>?_;cases x with
  |tmp t =>
   have hm:t∈tmpsOf o:=List.mem_filterMap.2 ⟨.tmp t,hx,rfl⟩;by_cases hk:qax H f o=true
   ·have:E'.getD t .undef=E.getD t .undef:=getD_congr (ht hk t hm);simp only [rd,this]
   ·simp only [rd,hk,qf,if_false];exact (hd t (List.mem_append_left _ hm)).getD
  |_=>rfl
 ·unfold qhJ;split
  ·rename_i hk;refine List.filter_congr λt htm=>?_;rw [getD_congr (ht hk t htm)]
  ·rfl
theorem qmx{ops:Array Oper}{x y:Oper}(h:qdD ops x y=true) :
  (∀d,x.dst=some d->d∉looksAt ops y)/\(∀d,x.dst=some d->y.dst≠some d)/\(∀d,y.dst=some d->d∉looksAt ops x):=by
 refine ⟨λd hd=>?_,λd hd=>?_,λd hd=>?_⟩<;>simp [qdD,hd]at h
 ·exact h.1.1
 ·exact h.1.2
 ·exact h.2
theorem qoo{ops:Array Oper}{o:Oper}{t:Tmp}(h:t∈qcw H f ops o):t∈looksAt ops o:=by
 unfold qcw at h;unfold looksAt;rcases qk.1 h with h|h
 ·split at h
  ·exact List.mem_append_left _ h
  ·simp at h
 ·exact List.mem_append_right _ h
theorem qdq{l l':List Tmp}(h:meets l l'=false):∀t∈l,t∉l':=by
 intro t ht ht';have:=List.any_eq_false.1 h t ht;simp [ht']at this
theorem quQ(d:Option Tmp)(z:V)(E:List V)(t:Nat):(qA9 d z E)[t]?=if d=some t/\t<E.length then some z else E[t]?:=by
 cases d with
 |none=>simp [qA9]
 |some d =>
  simp only [qA9,List.getElem?_set,qb];by_cases h:d=t
  ·subst h;by_cases h2:d<E.length
   ·simp [h2]
   ·simp [h2]
  ·simp [h]
theorem qop{ops:Array Oper}{o y:Oper}{st:St}{b:Bool}{z:V}{took:List Tmp}(hd:∀d,o.dst=some d->d∉looksAt ops y)(htk:took=if b then qhJ H f o st.E else [])(hm:∀t∈took,t∉qcw H f ops y) :
  (∀t∈qcw H f ops y,(qA9 o.dst z (qG st.E (qc4 H f o b)))[t]?=st.E[t]?)/\∀t∈looksAt ops y,qjz st.E (qA9 o.dst z (qG st.E (qc4 H f o b))) t:=by
 refine ⟨λt ht=>?_,λt ht=>?_⟩
 ·rw [quQ,if_neg (λh=>hd t h.1 (qoo ht)),qh0];split
  ·rename_i hmem;unfold qc4 at hmem;split at hmem
   ·rename_i hb;simp only [qe]at hb;have hnt:t∉took:=λh=>hm t h ht;rw [htk,if_pos hb.1]at hnt;unfold qhJ at hnt;rw [if_pos hb.2]at hnt;simp only [List.mem_filter,hmem,true_and,Bool.not_eq_true]at hnt;cases hE:st.E[t]? with
    |none=>rfl
    |some x =>
     rw [List.getD_eq_getElem?_getD,hE]at hnt;simp only [qj,qb];exact dull_of_owns x hnt
   ·simp at hmem
  ·rfl
 ·unfold qjz;rw [quQ,if_neg (λh=>hd t h.1 ht),qh0];split
  ·cases st.E[t]? with
   |none=>rfl
   |some x=>simp only [qj,qb];exact dull_dull x
  ·rfl
theorem qky(E:List V)(T:List Tmp):(qG E T).length=E.length:=qbH T E
theorem qqa(d:Option Tmp)(z:V)(E:List V):(qA9 d z E).length=E.length:=by cases d<;>simp [qA9]
theorem qsa{ops:Array Oper}{o:Oper}{b:Bool}{t:Nat}(h:t∈qc4 H f o b):t∈looksAt ops o:=by
 unfold qc4 at h;split at h
 ·exact List.mem_append_left _ h
 ·simp at h
theorem qqg{ops:Array Oper}{i j:Nat}{x y:Oper}{st s1 s2:St}{fx fy:Foot}(hx:ops[j]?=some x)(hy:ops[i]?=some y)(hap:qdD ops x y=true)(h1:qds P H C f ops j st=some (s1,fx))(h2:qds P H C f ops i s1=some (s2,fy))
  (hcl:fx.qiD fy=false):∃s1',qds P H C f ops i st=some (s1',fy)/\qds P H C f ops j s1'=some (s2,fx):=by
 obtain ⟨x',hx',b,z,m,A⟩:=qe4.1 h1;obtain ⟨y',hy',b',z',m',B⟩:=qe4.1 h2;rw [hx]at hx';rw [hy]at hy';cases hx';cases hy'
 obtain ⟨d1,d2,d3⟩:=qmx hap;simp only [Foot.qiD,Bool.or_eq_false_iff]at hcl;obtain ⟨⟨hc,hm1⟩,hm2⟩:=hcl;have hm1':=qdq hm1;have hm2':=qdq hm2;rw [B.looks]at hm1';rw [A.looks]at hm2';have hk1:=qop (z:=z) d1 A.took hm1';have hE1:s1.E=qA9 x.dst z (qG st.E (qc4 H f x b)):=by rw [A.res]
 rw [<- hE1]at hk1;obtain ⟨v1,v2,v3⟩:=qtP (H:=H) (f:=f) hk1.1 hk1.2;have hmem:=B.mem;rw [v2]at hmem;have hs1:s1={m with E:=s1.E}:=by rw [hE1];exact A.res
 rw [hs1,qww]at hmem;obtain ⟨⟨z2,m2,fp2⟩,h3,h4⟩:=qc.1 hmem;simp only [Prod.mk.injEq]at h4;obtain ⟨rfl,hm'E,rfl⟩:=h4;obtain ⟨m1,h5,h6⟩:=qwx A.mem h3 hc;have hBt:fy.took=if b' then qhJ H f y st.E else []:=by rw [B.took,v3]
 have hk2:=qop (z:=z2) d3 hBt hm2';obtain ⟨u1,u2,u3⟩:=qtP (H:=H) (f:=f) hk2.1 hk2.2;let s1':St:={m1 with E:=qA9 y.dst z2 (qG st.E (qc4 H f y b'))}
 have e1:qds P H C f ops i st=some (s1',fy):=qe4.2 ⟨y,hy,b',z2,m1,by rw [<- v1];exact B.wanted,B.nodup,h5,rfl,hBt,B.looks⟩;refine ⟨s1',e1,qe4.2 ⟨x,hx,b,z,{m2 with E:=s1'.E},by rw [u1];exact A.wanted,A.nodup,?_,?_,by rw [A.took,u3],A.looks⟩⟩
 ·rw [u2];show qiY P H C f x b _ {m1 with E:=_}=_;rw [qww,h6];rfl
 ·rw [B.res,<- hm'E];simp only [St.mk.injEq,and_true];apply List.ext_getElem?;intro t;have hs1E:s1'.E=qA9 y.dst z2 (qG st.E (qc4 H f y b')):=rfl;rw [hs1E,hE1];simp only [quQ,qh0,qky,qqa];by_cases c1:x.dst=some t
  ·have n1:y.dst≠some t:=d2 t c1;have n2:t∉qc4 H f y b':=λh=>d1 t c1 (qsa h);simp [c1,n1,n2]
  ·by_cases c2:y.dst=some t
   ·have n2:t∉qc4 H f x b:=λh=>d3 t c2 (qsa h);simp [c1,c2,n2]
   ·simp only [c1,c2,false_and,if_false];by_cases c3:t∈qc4 H f x b<;>by_cases c4:t∈qc4 H f y b'<;>simp [c3,c4]
theorem qdH{ops:Array Oper}{i:Nat}{l:List Nat}{st s:St}{fps:List (Nat×Foot)}:qiM P H C f ops (i::l) st=some (s,fps)↔∃s1 ft fps',qds P H C f ops i st=some (s1,ft)/\qiM P H C f ops l s1=some (s,fps')/\fps=(i,ft)::fps':=by
 simp only [qiM];cases h:qds P H C f ops i st with
 |none=>simp
 |some p =>
  obtain ⟨s1,ft⟩:=p;simp only [qc,Prod.exists,qb,Prod.mk.injEq];constructor
  ·rintro ⟨a,b,h1,rfl,rfl⟩;exact ⟨s1,ft,b,⟨rfl,rfl⟩,h1,rfl⟩
  ·rintro ⟨a,b,c,⟨rfl,rfl⟩,h1,rfl⟩;exact ⟨s,c,h1,rfl,rfl⟩
theorem qth{ops:Array Oper}{i:Nat}{y:Oper}(hy:ops[i]?=some y){B:List Nat}:∀(A:List Nat) (st s:St) (fps:List (Nat×Foot)),qiM P H C f ops (A++i::B) st=some (s,fps) ->
  (∀j∈A,∃x,ops[j]?=some x/\qdD ops x y=true/\∀fx fy,(j,fx)∈fps->(i,fy)∈fps->fx.qiD fy=false) ->
  ∃fps',qiM P H C f ops (i::(A++B)) st=some (s,fps')/\∀p,p∈fps'↔p∈fps
 |[],st,s,fps,h,_=>⟨fps,h,λ_=>Iff.rfl⟩
 |j::A,st,s,fps,h,hA=>by
  rw [List.cons_append,qdH]at h;obtain ⟨s1,fj,fps1,h1,h2,rfl⟩:=h;obtain ⟨fps2,h3,h4⟩:=qth hy A s1 s fps1 h2 (λk hk=>by
   obtain ⟨x,hx,hd,hc⟩:=hA k (by simp [hk]);exact ⟨x,hx,hd,λfx fy h1 h2=>hc fx fy (by simp [h1]) (by simp [h2])⟩)
  rw [qdH]at h3;obtain ⟨s2,fi,fps3,h5,h6,rfl⟩:=h3;obtain ⟨x,hx,hd,hc⟩:=hA j (by simp);obtain ⟨s1',h7,h8⟩:=qqg hx hy hd h1 h5 (hc fj fi (by simp) (by
   have:=(h4 (i,fi)).1 (by simp);simp [this]))
  refine ⟨(i,fi)::(j,fj)::fps3,?_,λp=>?_⟩
  ·rw [qdH];exact ⟨s1',fi,(j,fj)::fps3,h7,by rw [List.cons_append,qdH];exact ⟨s2,fj,fps3,h8,h6,rfl⟩,rfl⟩
  ·have:=h4 p;simp only [qm]at this ⊢;rw [<- this];constructor
   ·rintro (h|h|h)<;>simp [h]
   ·rintro (h|h|h)<;>simp [h]
theorem qvW{ops:Array Oper}{i:Nat}{y:Oper}{st s:St}{ft:Foot}(hy:ops[i]?=some y)(h:qds P H C f ops i st=some (s,ft)) :
  (qmg H y.op=true->ft.fp=.none)/\(∀t∈ft.took,qax H f y=true/\t∈tmpsOf y)/\ft.looks=qcw H f ops y:=by
 obtain ⟨o,ho,b,z,m,A⟩:=qe4.1 h;rw [hy]at ho;cases ho;refine ⟨λhs=>?_,λt ht=>?_,A.looks⟩
 ·have hm:=A.mem;cases b with
  |false=>exact (qff hm).2.2.symm
  |true =>
   have hm:qcm P H C f y _ st=some (z,m,ft.fp):=hm;rcases qhE y.op with ⟨t,hop⟩|⟨t,a,hop⟩|⟨c,fo,hop,hc⟩|hd
   ·rw [hop]at hs;simp [qmg]at hs
   ·rw [hop]at hs;simp [qmg]at hs
   ·rw [hop]at hs;obtain ⟨cal,a1,a2⟩:=c;simp only at hc;subst hc;simp [qmg]at hs
   ·rw [qad hd]at hm;unfold qfh at hm;split at hm
    ·rename_i hmo;exfalso
     have hm:(none:Option (V×St×Fp))=some (z,m,ft.fp):=hm;cases hm
    split at hm
    ·split at hm
     ·exact (qff hm).2.2.symm
     ·cases hm
    ·rename_i r hr;obtain ⟨_,_,_,⟨t,a,hop⟩|⟨t,a,x,hop⟩⟩:=qcU hr<;>rw [hop]at hs<;>simp [qmg]at hs
 ·rw [A.took]at ht;split at ht
  ·unfold qhJ at ht;split at ht
   ·rename_i htk;exact ⟨htk,(List.mem_filter.1 ht).1⟩
   ·simp at ht
  ·simp at ht
theorem qsJ{ops:Array Oper}{i j:Nat}{x y:Oper}{s1 s1' s2 s2':St}{fx fy:Foot}(hx:ops[j]?=some x)(hy:ops[i]?=some y)(h:qds P H C f ops j s1=some (s1',fx))(h':qds P H C f ops i s2=some (s2',fy))
  (ht:qiy H f ops x y=true):fx.qiD fy=false:=by
 obtain ⟨a1,a2,a3⟩:=qvW hx h;obtain ⟨b1,b2,b3⟩:=qvW hy h';simp only [qiy,qe,Bool.or_eq_true,Bool.not_eq_true']at ht;obtain ⟨⟨h1,h2⟩,h3⟩:=ht;simp only [Foot.qiD,Bool.or_eq_false_iff];refine ⟨⟨?_,?_⟩,?_⟩
 ·rcases h1 with h1|h1
  ·rw [a1 h1];rfl
  ·rw [b1 h1];cases fx.fp<;>rfl
 ·rw [b3];refine List.any_eq_false.2 λt ht=>?_;obtain ⟨c1,c2⟩:=a2 t ht;rcases h2 with h2|h2|h2
  ·rw [c1]at h2;cases h2
  ·simpa using λh=>qdq h2 t c2 (qoo h)
  ·simpa using qdq h2 t c2
 ·rw [a3];refine List.any_eq_false.2 λt ht=>?_;obtain ⟨c1,c2⟩:=b2 t ht;rcases h3 with h3|h3|h3
  ·rw [c1]at h3;cases h3
  ·simpa using λh=>qdq h3 t c2 (qoo h)
  ·simpa using qdq h3 t c2
theorem qqA{ops:Array Oper}:∀(l:List Nat) (st s:St) (fps:List (Nat×Foot)),qiM P H C f ops l st=some (s,fps)->∀k ft,(k,ft)∈fps->k∈l/\∃s1 s2,qds P H C f ops k s1=some (s2,ft)
 |[],st,s,fps,h,k,ft,hk=>by simp only [qiM,qb,Prod.mk.injEq]at h;rw [<- h.2]at hk;simp at hk
 |i::l,st,s,fps,h,k,ft,hk=>by
  obtain ⟨s1,fi,fps',h1,h2,rfl⟩:=qdH.1 h;rcases qm.1 hk with hk|hk
  ·cases hk;exact ⟨by simp,_,_,h1⟩
  ·obtain ⟨h3,h4⟩:=qqA l s1 s fps' h2 k ft hk;exact ⟨by simp [h3],h4⟩
end
section
variable {P:Program} {H:Hints} {f:FuncId} {C:Orc} {w:World}
theorem qxi{st:St}{tmps:Array Value}{X:Cx}{O:Pl->List Nat}(h:Rel st tmps w X O){ops:Array Oper}{o:Oper}{b:Bool}(hw:qdY ops st.E o=some b):Region.wanted o (yielded ops tmps)=b:=by
 unfold qdY at hw;unfold Region.wanted;cases hg:o.guard with
 |none=>rw [hg]at hw;simpa using hw
 |some gw =>
  obtain ⟨g,want⟩:=gw;rw [hg]at hw;simp only at hw ⊢;cases hb:(ops[g]?).bind (·.dst)with
  |none=>rw [hb]at hw;cases hw
  |some t =>
   rw [hb]at hw;simp only at hw;split at hw
   ·rename_i c hE;obtain ⟨v,hv,hr⟩:=h.env t _ hE;simp only [Rep]at hr;obtain ⟨rfl,_⟩:=hr;have:yielded ops tmps g=some c:=by unfold yielded;rw [hb];simp only [qa,hv]
    rw [this];simp only [qb]at hw;rw [<- hw];cases c<;>cases want<;>rfl
   ·rename_i vs hE;obtain ⟨v,hv,hr⟩:=h.env t _ hE;simp only [Rep]at hr;obtain ⟨rfl,_⟩:=hr;have:yielded ops tmps g=none:=by unfold yielded;rw [hb];simp only [qa,hv]
    rw [this];split at hw
    ·simp only [qb]at hw;rw [<- hw];cases want<;>rfl
    ·cases hw
   ·cases hw
theorem qn1{F:Fence}(hFF:F=Fence.wide\/∃l,F=Fence.wide.inRound l)(g:FuncId):F.fn g:=by rcases hFF with rfl|⟨l,rfl⟩<;>trivial
theorem qGC(hC:OrcOk P C){F:Fence}(hFF:F=Fence.wide\/∃l,F=Fence.wide.inRound l){w0:World}{X0:Cx}{Md:Md}{n:Nat}{ops:Array Oper}{i:Nat}{st st':St}{ft:Foot}{a:Act}(hS:Sim w0 X0 Md n st a.tmps w)
  (hx:qds P H C f ops i st=some (st',ft)) {K:Act->World->Prop} {Q:Exit->Act->World->Prop} (hK:∀a' w',a'.defers=a.defers->Sim w0 X0 Md n st' a'.tmps w'->K a' w'):wpOpIn F 0 P ops Q i K a w:=by
 have hS':=hS;obtain ⟨X,O,h,hF⟩:=hS';unfold qds at hx;unfold wpOpIn;cases ho:ops[i]? with
 |none=>rw [ho]at hx;cases hx
 |some o =>
  rw [ho]at hx;simp only at hx ⊢;cases hw:qdY ops st.E o with
  |none=>rw [hw]at hx;cases hx
  |some b =>
   rw [hw]at hx;rw [qxi h hw];have hdef:∀v,(a.put o.dst v).defers=a.defers:=λv=>by cases o.dst<;>rfl
   cases b with
   |false =>
    simp only [qb,Prod.mk.injEq]at hx;obtain ⟨rfl,_⟩:=hx;simp only [qf,if_false];refine ⟨λg _=>qn1 hFF g,hK _ _ (hdef _) ⟨X,ql5 O [] o.dst st.E.length [],?_⟩⟩;rw [qhe];exact ⟨h.quP o.dst (by simp [Rep]) Lin.nil (by simp) (by simp [V.qv]),hF.quP o.dst (by simp)⟩
   |true =>
    simp only [if_true];obtain ⟨⟨s1,fp⟩,h1,h2⟩:=qc.1 hx;simp only [Prod.mk.injEq]at h2;obtain ⟨rfl,_⟩:=h2;exact qyE hC hFF hS (by unfold qnF;rw [h1];rfl) (λv w' hS'=>hK _ _ (hdef v) hS')
theorem qGH(hC:OrcOk P C){F:Fence}(hFF:F=Fence.wide\/∃l,F=Fence.wide.inRound l){w0:World}{X0:Cx}{Md:Md}{n:Nat}{ops:Array Oper}{Q:Exit->Act->World->Prop}:∀(l:List Nat) (st st':St) (fps:List (Nat×Foot)) (a:Act) (w:World),Sim w0 X0 Md n st a.tmps w ->
  qiM P H C f ops l st=some (st',fps)->(∀a' w',a'.defers=a.defers->Sim w0 X0 Md n st' a'.tmps w'->Q .normal a' w')->wpOpsIn F 0 P ops Q l a w
 |[],st,st',fps,a,w,hS,hx,hK=>by
  simp only [qiM,qb,Prod.mk.injEq]at hx;obtain ⟨rfl,_⟩:=hx;exact hK a w rfl hS
 |i::l,st,st',fps,a,w,hS,hx,hK=>by
  obtain ⟨s1,ft,fps',h1,h2,_⟩:=qdH.1 hx;rw [wpOpsIn_cons];exact qGC hC hFF hS h1 λa' w' hd hS'=>qGH hC hFF l s1 st' fps' a' w' hS' h2 λa2 w2 hd2=>hK a2 w2 (by rw [hd2,hd])
theorem qek{ops:Array Oper}:∀(l:List Nat) (st s:St),qhP P H C f ops l st=some s->∃fps,qiM P H C f ops l st=some (s,fps)
 |[],st,s,h=>by simp only [qhP,qb]at h;subst h;exact ⟨[],rfl⟩
 |i::l,st,s,h=>by
  simp only [qhP]at h;cases ho:ops[i]? with
  |none=>rw [ho]at h;cases h
  |some o =>
   rw [ho]at h;simp only at h;cases hw:qdY ops st.E o with
   |none=>rw [hw]at h;cases h
   |some b =>
    rw [hw]at h;cases b with
    |false =>
     simp only at h;obtain ⟨fps,h1⟩:=qek l _ s h;exact ⟨_,qdH.2 ⟨st.put o.dst (.val undef),⟨.none,[],qcw H f ops o⟩,fps,by unfold qds;rw [ho];simp only [hw],h1,rfl⟩⟩
    |true =>
     simp only at h;cases hs:qnF P H C f o st with
     |none=>rw [hs]at h;cases h
     |some st' =>
      rw [hs]at h;simp only at h;obtain ⟨fps,h1⟩:=qek l _ s h;unfold qnF at hs;obtain ⟨⟨s1,fp⟩,h2,rfl⟩:=qc.1 hs;exact ⟨_,qdH.2 ⟨s1,_,fps,by unfold qds;rw [ho];simp only [hw,h2];rfl,h1,rfl⟩⟩
theorem qgN{j:Nat}:∀{l:List Nat},j∈qhu l->j∈l
 |[],h=>h
 |x::l,h=>by
  simp only [qhu]at h;split at h
  ·exact List.mem_cons_of_mem _ (qgN h)
  ·rcases qm.1 h with rfl|h
   ·exact List.mem_cons_self
   ·exact List.mem_cons_of_mem _ (qgN h)
theorem qvz(l:List Oper)(o:Oper):qmo (l++[o])=qmo l++[qhu ((qcq o).flatMap λj=>j::(qmo l).getD j [])]:=by
 unfold qmo;rw [List.foldl_append];rfl
theorem qm9{α:Type}{p:List α->Prop}(h0:p [])(h1:∀l a,p l->p (l++[a])):∀l,p l:=by
 intro l;have:∀n (l:List α),l.length=n->p l:=by
  intro n;induction n with
  |zero=>intro l hl;rw [List.eq_nil_of_length_eq_zero hl];exact h0
  |succ n ih =>
   intro l hl;have hne:l≠[]:=λe=>by subst e;simp at hl
   rw [<- List.dropLast_concat_getLast hne];exact h1 _ _ (ih _ (by simp [hl]))
 exact this _ l rfl
theorem qiC:∀l:List Oper,(qmo l).length=l.length:=qm9 rfl (λl a ih=>by rw [qvz];simp [ih])
theorem qpN:∀(l:List Oper) (i:Nat) (o:Oper),l[i]?=some o->(∀j∈qcq o,j<i)->(qmo l).getD i []=qhu ((qcq o).flatMap λj=>j::(qmo l).getD j []):=by
 refine qm9 ?_ ?_
 ·intro i o h;simp at h
 ·intro l x ih i o h hb;rw [qvz];have hlt:i<(l++[x]).length:=(qn.1 h).1;simp only [List.length_append,List.length_singleton]at hlt;have hpre:∀j,j<i->(qmo l++[qhu ((qcq x).flatMap λj=>j::(qmo l).getD j [])]).getD j []=(qmo l).getD j []:=λj hj=>by
   rw [List.getD_eq_getElem?_getD,List.getD_eq_getElem?_getD,qh (by rw [qiC];omega)]
  have hfm:((qcq o).flatMap λj=>j::(qmo l++[qhu ((qcq x).flatMap λj=>j::(qmo l).getD j [])]).getD j [])=(qcq o).flatMap λj=>j::(qmo l).getD j []:=by
   generalize qhu ((qcq x).flatMap λj=>j::(qmo l).getD j [])=z at hpre ⊢;rw [List.flatMap_def,List.flatMap_def];congr 1
   refine List.map_congr_left λj hj=>?_;rw [hpre j (hb j hj)]
  rw [hfm];by_cases hi:i<l.length
  ·rw [qh hi]at h;rw [<- ih i o h hb,List.getD_eq_getElem?_getD,List.getD_eq_getElem?_getD,qh (by rw [qiC];exact hi)]
  ·have hi':i=l.length:=by omega
   subst hi';simp only [List.getElem?_append_right (Nat.le_refl _),Nat.sub_self,List.getElem?_cons_zero,qb]at h;subst h;rw [List.getD_eq_getElem?_getD,List.getElem?_append_right (by rw [qiC];exact Nat.le_refl _),qiC];simp
def Down(ops:Array Oper)(listed:Array Bool):Prop:=∀k o,ops[k]?=some o->listed.getD k true=true->∀j∈qcq o,listed.getD j true=true
theorem qku{o:Oper}{j:Nat}:j∈qcq o↔∃e∈o.after,Region.binds .any e=true/\e.on=j:=by
 unfold qcq;simp only [List.mem_map,List.mem_filter,Array.mem_toList_iff];constructor
 ·rintro ⟨e,⟨h1,h2⟩,h3⟩;exact ⟨e,h1,h2,h3⟩
 ·rintro ⟨e,h1,h2,h3⟩;exact ⟨e,⟨h1,h2⟩,h3⟩
theorem qkq{ops:Array Oper}{listed:Array Bool}(hsz:listed.size=ops.size)(hb:∀k o,ops[k]?=some o->∀j∈qcq o,j<k)(hd:Down ops listed):∀(k i:Nat) (o:Oper),i<=k->ops[i]?=some o->(∀j∈qcq o,listed.getD j true=true) ->
  ∀j∈(qmo ops.toList).getD i [],listed.getD j true=true:=by
 intro k;induction k with
 |zero =>
  intro i o hi ho hall j hj;rw [qpN ops.toList i o (by simpa using ho) (hb i o ho)]at hj;obtain ⟨e,he,_⟩:=List.mem_flatMap.1 (qgN hj);have:=hb i o ho e he;omega
 |succ k ih =>
  intro i o hi ho hall j hj;rw [qpN ops.toList i o (by simpa using ho) (hb i o ho)]at hj;obtain ⟨e,he,hj⟩:=List.mem_flatMap.1 (qgN hj);rcases qm.1 hj with rfl|hj
  ·exact hall _ he
  ·have hei:=hb i o ho e he;have hilt:i<ops.size:=(Array.getElem?_eq_some_iff.1 ho).1;obtain ⟨oe,hoe⟩:∃oe,ops[e]?=some oe:=⟨ops[e]'(by omega),Array.getElem?_eq_getElem (by omega)⟩
   exact ih e oe (by omega) hoe (hd e oe hoe (hall e he)) j hj
theorem qrp{U:List (Nat×Nat)}{fps:List (Nat×Foot)}(h:qj1 U fps=true):∀i j fi fj,(i,j)∈U->(i,fi)∈fps->(j,fj)∈fps->fi.qiD fj=false:=by
 intro i j fi fj hu hi hj;unfold qj1 at h;have h1:=List.all_eq_true.1 h (i,j) hu;have h2:=List.all_eq_true.1 h1 (i,fi) hi;simp only [bne_self_eq_false,Bool.false_or]at h2;have h3:=List.all_eq_true.1 h2 (j,fj) hj;simpa using h3
theorem qBd(hC:OrcOk P C){F:Fence}(hFF:F=Fence.wide\/∃l,F=Fence.wide.inRound l){w0:World}{X0:Cx}{Md:Md}{n:Nat}{ops:Array Oper}{U:List (Nat×Nat)}(hreg:qgI H f U ops=true){Q:Exit->Act->World->Prop} :
  ∀(fuel:Nat) (listed:Array Bool) (st st':St) (fps:List (Nat×Foot)) (a:Act) (w:World),listed.size=ops.size->Down ops listed->((List.range ops.size).filter λk=>!listed.getD k true).length<=fuel ->
   qiM P H C f ops ((List.range ops.size).filter λk=>!listed.getD k true) st=some (st',fps)->(∀i j fi fj,(i,j)∈U->(i,fi)∈fps->(j,fj)∈fps->fi.qiD fj=false) ->
   Sim w0 X0 Md n st a.tmps w->(∀a' w',a'.defers=a.defers->Sim w0 X0 Md n st' a'.tmps w'->Q .normal a' w')->wpAnyIn F 0 P .any ops Q fuel listed a w:=by
 have hrow:∀i y,ops[i]?=some y->(∀j∈qcq y,j<i)/\∀j,j<i->j∈(qmo ops.toList).getD i []\/∃x,ops[j]?=some x/\qdD ops x y=true/\(qiy H f ops x y=true\/(j,i)∈U):=by
  intro i y hy;have hilt:i<ops.size:=(Array.getElem?_eq_some_iff.1 hy).1;unfold qgI at hreg;have h1:=List.all_eq_true.1 hreg i (List.mem_range.2 hilt);rw [hy]at h1;simp only [qe]at h1;refine ⟨λj hj=>by simpa using List.all_eq_true.1 h1.1 j hj,λj hj=>?_⟩;have h2:=List.all_eq_true.1 h1.2 j (List.mem_range.2 hj);simp only [Bool.or_eq_true]at h2;rcases h2 with h2|h2
  ·exact .inl (by simpa using h2)
  ·right
   cases hx:ops[j]? with
   |none=>rw [hx]at h2;cases h2
   |some x =>
    rw [hx]at h2;simp only [qe,Bool.or_eq_true]at h2;exact ⟨x,rfl,h2.1,h2.2.imp id (by simp)⟩
 have hempty:∀(listed:Array Bool),listed.size=ops.size->Down ops listed->Region.ready .any ops listed=[]->((List.range ops.size).filter λk=>!listed.getD k true)=[]:=by
  intro listed hsz hd hr;cases hR:(List.range ops.size).filter λk=>!listed.getD k true with
  |nil=>rfl
  |cons k R =>
   exfalso
   have hsorted:((List.range ops.size).filter λk=>!listed.getD k true).Pairwise (· < ·):=List.Pairwise.filter _ List.pairwise_lt_range;have hk:k∈(List.range ops.size).filter λk=>!listed.getD k true:=by rw [hR];simp
   rw [hR]at hsorted;obtain ⟨hklt,hkun⟩:=List.mem_filter.1 hk;have hklt:=List.mem_range.1 hklt;obtain ⟨o,ho⟩:∃o,ops[k]?=some o:=⟨ops[k],Array.getElem?_eq_getElem hklt⟩
   have:k∈Region.ready .any ops listed:=by
    rw [mem_ready];refine ⟨by simpa using hkun,o,ho,λe he hb=>?_⟩;have hek:=(hrow k o ho).1 e.on (qku.2 ⟨e,he,hb,rfl⟩);cases hc:listed.getD e.on true with
    |true =>
     have:e.on<listed.size:=by omega
     simp [Array.getD,this]at hc ⊢;exact hc
    |false =>
     have hmem:e.on∈(List.range ops.size).filter λk=>!listed.getD k true:=List.mem_filter.2 ⟨List.mem_range.2 (by omega),by simp [hc]⟩;rw [hR]at hmem;rcases qm.1 hmem with h1|h1
     ·omega
     ·have:=(List.pairwise_cons.1 hsorted).1 _ h1;omega
   rw [hr]at this;simp at this
 intro fuel;induction fuel with
 |zero =>
  intro listed st st' fps a w hsz hd hlen hx hconf hS hQ;have hnil:((List.range ops.size).filter λk=>!listed.getD k true)=[]:=List.eq_nil_of_length_eq_zero (by omega);rw [hnil]at hx;simp only [qiM,qb,Prod.mk.injEq]at hx;obtain ⟨rfl,_⟩:=hx;refine ⟨?_,hQ a w rfl hS⟩;cases hr:Region.ready .any ops listed with
  |nil=>rfl
  |cons i R =>
   have hi:i∈Region.ready .any ops listed:=by rw [hr];simp
   obtain ⟨h1,o,ho,_⟩:=mem_ready.1 hi;have:i∈(List.range ops.size).filter λk=>!listed.getD k true:=List.mem_filter.2 ⟨List.mem_range.2 (Array.getElem?_eq_some_iff.1 ho).1,by simp [h1]⟩;rw [hnil]at this;simp at this
 |succ fuel ih =>
  intro listed st st' fps a w hsz hd hlen hx hconf hS hQ;refine ⟨λhr=>?_,λi hi=>?_⟩
  ·have hnil:=hempty listed hsz hd hr;rw [hnil]at hx;simp only [qiM,qb,Prod.mk.injEq]at hx;obtain ⟨rfl,_⟩:=hx;exact hQ a w rfl hS
  ·obtain ⟨hun,y,hy,hall⟩:=mem_ready.1 hi;have hilt:i<ops.size:=(Array.getElem?_eq_some_iff.1 hy).1;have hiR:i∈(List.range ops.size).filter λk=>!listed.getD k true:=List.mem_filter.2 ⟨List.mem_range.2 hilt,by simp [hun]⟩;have hsorted:((List.range ops.size).filter λk=>!listed.getD k true).Pairwise (· < ·):=List.Pairwise.filter _ List.pairwise_lt_range;obtain ⟨A,B,hAB⟩:=List.append_of_mem hiR;rw [hAB]at hx hsorted;obtain ⟨_,hs2,hs3⟩:=List.pairwise_append.1 hsorted;have hAi:∀j∈A,j<i:=λj hj=>hs3 j hj i (by simp);have hiB:∀j∈B,i<j:=λj hj=>(List.pairwise_cons.1 hs2).1 j hj;have hlistedE:∀j∈qcq y,listed.getD j true=true:=λj hj=>by
    obtain ⟨e,he,hb,rfl⟩:=qku.1 hj;have h1:=hall e he hb;have hlt:=(hrow i y hy).1 e.on hj;have:e.on<listed.size:=by omega
    simp [Array.getD,this]at h1 ⊢;exact h1
   have hanc:=qkq hsz (λk o ho=>(hrow k o ho).1) hd i i y (Nat.le_refl _) hy hlistedE;obtain ⟨fps',h1,h2⟩:=qth hy A st st' fps hx (λj hj=>by
    have hjR:j∈(List.range ops.size).filter λk=>!listed.getD k true:=by rw [hAB];simp [hj]
    have hjun:listed.getD j true=false:=by simpa using (List.mem_filter.1 hjR).2
    rcases (hrow i y hy).2 j (hAi j hj)with h3|⟨x,hx1,hx2,hx3⟩
    ·have:=hanc j h3;rw [hjun]at this;cases this
    ·refine ⟨x,hx1,hx2,λfx fy h4 h5=>?_⟩;rcases hx3 with hx3|hx3
     ·obtain ⟨_,_,_,e1⟩:=qqA _ _ _ _ hx j fx h4;obtain ⟨_,_,_,e2⟩:=qqA _ _ _ _ hx i fy h5;exact qsJ hx1 hy e1 e2 hx3
     ·exact hconf j i fx fy hx3 h4 h5)
   obtain ⟨s1,fi,fps2,h3,h4,rfl⟩:=qdH.1 h1;refine qGC hC hFF hS h3 λa' w' hdf hS'=>?_;have hR':((List.range ops.size).filter λk=>!(listed.setIfInBounds i true).getD k true)=A++B:=by
    have e1:((List.range ops.size).filter λk=>!(listed.setIfInBounds i true).getD k true)=((List.range ops.size).filter λk=>!listed.getD k true).filter (λk=>decide (k≠i)):=by
     rw [List.filter_filter];refine List.filter_congr λk hk=>?_;have hklt:=List.mem_range.1 hk;by_cases hki:k=i
     ·subst hki;have:k<listed.size:=by omega
      simp [Array.getD,this]
     ·rw [getD_set_ne true (Ne.symm hki)];simp [hki]
    rw [e1,hAB,List.filter_append,List.filter_cons];simp only [ne_eq,not_true_eq_false,decide_false,qf,if_false];rw [List.filter_eq_self.2 (λj hj=>by have:=hAi j hj;simp;omega),List.filter_eq_self.2 (λj hj=>by have:=hiB j hj;simp;omega)]
   have hd':Down ops (listed.setIfInBounds i true):=by
    intro k o ho hk j hj;by_cases hji:j=i
    ·subst hji;have:j<listed.size:=by omega
     simp [Array.getD,this]
    ·rw [getD_set_ne true (Ne.symm hji)];by_cases hki:k=i
     ·subst hki;rw [hy]at ho;cases ho;exact hlistedE j hj
     ·rw [getD_set_ne true (Ne.symm hki)]at hk;exact hd k o ho hk j hj
   refine ih (listed.setIfInBounds i true) s1 st' fps2 a' w' (by simp [hsz]) hd' ?_ (by rw [hR'];exact h4) (λi' j' fi' fj' hu h5 h6=>hconf i' j' fi' fj' hu ((h2 _).1 (by simp [h5])) ((h2 _).1 (by simp [h6]))) hS' (λa2 w2 hd2=>hQ a2 w2 (by rw [hd2,hdf]));rw [hR'];rw [hAB]at hlen;simp only [List.length_append,List.length_cons]at hlen ⊢;omega
theorem qFU{w0:World}{X0:Cx}{Md:Md}{n:Nat}{st:St}{tmps:Array Value}(hS:Sim w0 X0 Md n st tmps w):Sim w0 X0 Md n st tmps {w with drawn:=w.drawn+1}:=by
 obtain ⟨X,O,h,hF⟩:=hS;have heff:Eff w X {w with drawn:=w.drawn+1} X [] :=
  ⟨Nat.le_refl _,λ_ _ _=>rfl,λ_ _ _=>rfl,by simp,rfl,h.dom,rfl,rfl,rfl⟩
 have h1:=h.put (T:=[]) (Oin:=[]) (O':=[]) (z:=.undef) (v:=undef) none (by simp) heff (by simp [Rep]) Lin.nil (by simp) (by simp [V.qv]);have hF1:=Fr.put (z:=.undef) h hF (T:=[]) (Oin:=[]) (O':=[]) none (by simp) heff (by simp);exact ⟨X,_,h1,hF1⟩
theorem qhq(n:Nat):((List.range n).filter λk=>!(Array.replicate n false).getD k true)=List.range n:=by
 refine List.filter_eq_self.2 λk hk=>?_;have:=List.mem_range.1 hk;simp [Array.getD,this]
theorem qDt(hC:OrcOk P C)(hm:P.follows .mixedOrders=true){F:Fence}(hFF:F=Fence.wide\/∃l,F=Fence.wide.inRound l){w0:World}{X0:Cx}{Md:Md}{n:Nat}{bid id:Nat}{ops:Array Oper}{draw:Bool}{st st':St}{e:Ex}{a:Act}(hS:Sim w0 X0 Md n st a.tmps w)
  {st0:St} (hcl:st0.clear (H.pre f id)=some st) (hnt:qkn H ops draw=none) (hls:qAC H f ops=false) (hx:ex P H C f bid (.region id ops draw) st0=some (e,st')):(Code.region id ops draw).wpIn F 0 P (λe' a' w'=>e'=e.qxM/\a'.defers=a.defers/\Sim w0 X0 Md n st' a'.tmps w') a w:=by
 simp only [ex,hcl,hnt,hls,qf,if_false]at hx;cases draw with
 |false =>
  simp only [qf,if_false]at hx;obtain ⟨s,h1,h2⟩:=qc.1 hx;simp only [Prod.mk.injEq]at h2;obtain ⟨rfl,rfl⟩:=h2;obtain ⟨fps,h3⟩:=qek _ _ _ h1;exact wpIn_region (qGH hC hFF _ st s fps a w hS h3 λa' w' hd hS'=>⟨rfl,hd,hS'⟩)
 |true =>
  simp only [if_true]at hx;split at hx
  ·rename_i hreg;have key:∀fps,qiM P H C f ops (List.range ops.size) st=some (st',fps)->(∀i j fi fj,(i,j)∈H.pairs f id->(i,fi)∈fps->(j,fj)∈fps->fi.qiD fj=false)->e=.normal ->
     (Code.region id ops true).wpIn F 0 P (λe' a' w'=>e'=e.qxM/\a'.defers=a.defers/\Sim w0 X0 Md n st' a'.tmps w') a w:=λfps h3 hc he=>by
    subst he;refine wpIn_region_any hm (qBd hC hFF hreg ops.size _ st st' fps a _ (by simp) (λk o ho hk=>?_) (by rw [qhq];simp) (by rw [qhq];exact h3) hc (qFU hS) λa' w' hd hS'=>⟨rfl,hd,hS'⟩);have:=(Array.getElem?_eq_some_iff.1 ho).1;simp [Array.getD,this]at hk
   split at hx
   ·rename_i hU;obtain ⟨s,h1,h2⟩:=qc.1 hx;simp only [Prod.mk.injEq]at h2;obtain ⟨rfl,rfl⟩:=h2;obtain ⟨fps,h3⟩:=qek _ _ _ h1;exact key fps h3 (by rw [hU];simp) rfl
   ·split at hx
    ·rename_i s fps h3;split at hx
     ·rename_i hc;simp only [qb,Prod.mk.injEq]at hx;obtain ⟨rfl,rfl⟩:=hx;exact key fps h3 (qrp hc) rfl
     ·cases hx
    ·cases hx
  ·cases hx
end
section
variable {P:Program} {H:Hints} {f:FuncId} {C:Orc} {w:World} {X:Cx}
def qxp(O:Pl->List Nat)(r0:Root)(Oc:List Nat):Pl->List Nat:=λp=>if p=.box r0 then Oc else O p
theorem Rel.qBH{st:St}{tmps:Array Value}{O:Pl->List Nat}(h:Rel st tmps w X O){d:Nat}{c:List V}{o:Obj}(hnb:qz st.B d=none)
  (hc:qsH (w.alloc o) (X.setβ ⟨st.L.length,d⟩ w.heap.size) w.heap.size c []) (hp:∀r∈ptrsL c,(st.box r).isSome=true) :
  Rel {st with B:=(d,c)::st.B} tmps (w.alloc o) (X.setβ ⟨st.L.length,d⟩ w.heap.size) (qxp O ⟨st.L.length,d⟩ []):=by
 have hr0:st.box ⟨st.L.length,d⟩=none:=by simp [St.box,hnb]
 have hold:∀k,k<w.heap.size->(w.alloc o).heap[k]?=w.heap[k]?:=λk hk=>heap_alloc_old w _ hk;have hnotin:∀l:List Root,(∀r∈l,(st.box r).isSome=true)->(⟨st.L.length,d⟩:Root)∉l:=λl hl hm=>by have:=hl _ hm;rw [hr0]at this;simp at this
 have hext:∀{x:V} {u:Value} {A:List Nat},(∀r∈x.qv,(st.box r).isSome=true)->Rep w X x u A->Rep (w.alloc o) (X.setβ ⟨st.L.length,d⟩ w.heap.size) x u A:=λhx hr =>
  Rep.ext (ext_setβ (hnotin _ hx) h.dom hold) _ _ _ (λ_ h=>h) (by simp) hr
 have hextL:∀{l:List V} {us:List Value} {A:List Nat},(∀r∈ptrsL l,(st.box r).isSome=true)->RepL w X l us A->RepL (w.alloc o) (X.setβ ⟨st.L.length,d⟩ w.heap.size) l us A:=λhx hr =>
  RepL.ext (ext_setβ (hnotin _ hx) h.dom hold) _ _ _ (λ_ h=>h) (by simp) hr
 have hbox:∀r,({st with B:=(d,c)::st.B}:St).box r=if r=⟨st.L.length,d⟩then some c else st.box r:=λr=>qpP st d c r;have hlive:∀r,(st.box r).isSome=true->(({st with B:=(d,c)::st.B}:St).box r).isSome=true:=λr hr=>by
  rw [hbox];split
  ·rfl
  ·exact hr
 refine {size:=h.size,env:=?_,envD:=?_,box:=?_,boxD:=?_,inj:=?_,lin:=?_,dis:=?_,ptrE:=λr hr=>hlive r (h.ptrE r hr),ptrB:=?_,up:=?_,dom:=?_}
 ·intro s x hx;obtain ⟨v,hv,hr⟩:=h.env s x hx;refine ⟨v,hv,?_⟩;have e:qxp O ⟨st.L.length,d⟩ [] (.tmp s)=O (.tmp s):=by simp [qxp]
  rw [e];exact hext (λr hr=>h.ptrE r (qM.2 ⟨x,List.mem_of_getElem? hx,hr⟩)) hr
 ·intro s hs;simpa [qxp]using h.envD s hs
 ·intro r c1 hr;rw [hbox]at hr;by_cases e:r=⟨st.L.length,d⟩
  ·subst e;rw [if_pos rfl]at hr;cases hr;refine ⟨w.heap.size,by simp [Cx.setβ],by simp,?_,?_⟩
   ·cases hω:(X.setβ ⟨st.L.length,d⟩ w.heap.size).ω w.heap.size with
    |none=>rfl
    |some p=>have:=h.dom w.heap.size p.1 p.2 hω;omega
   ·rw [show qxp O ⟨st.L.length,d⟩ [] (.box ⟨st.L.length,d⟩)=[]from by simp [qxp]];exact hc
  ·rw [if_neg e]at hr;obtain ⟨k,hkb,hlt,hω,hbx⟩:=h.box r c1 hr;refine ⟨k,by simp [Cx.setβ,e,hkb],by simp;omega,hω,?_⟩;rw [show qxp O ⟨st.L.length,d⟩ [] (.box r)=O (.box r)from by simp [qxp,e]];exact hbx.qs7 (hold k hlt) (λl vals A hl _ hr'=>hextL (λr' hr'=>h.ptrB r c1 hr r' (hl r' hr')) hr')
 ·intro r hr;rw [hbox]at hr;split at hr
  ·cases hr
  ·rename_i e;simp [qxp,e,h.boxD r hr]
 ·intro r r' k h1 h2 h3 h4;rw [hbox]at h1 h2;simp only [Cx.setβ]at h3 h4;have hltk:∀r'',(st.box r'').isSome=true->X.β r''=some k->k<w.heap.size:=λr'' hs hb=>by
   obtain ⟨c'',hc''⟩:=Option.isSome_iff_exists.1 hs;obtain ⟨k',hk',hlt',_⟩:=h.box r'' c'' hc'';rw [hb]at hk';cases hk';exact hlt'
  split at h3
  ·rename_i e1;split at h4
   ·rename_i e2;rw [e1,e2]
   ·rename_i e2;rw [if_neg e2]at h2;cases h3;have:=hltk r' h2 h4;omega
  ·rename_i e1;rw [if_neg e1]at h1;split at h4
   ·cases h4;have:=hltk r h1 h3;omega
   ·rename_i e2;rw [if_neg e2]at h2;exact h.inj r r' k h1 h2 h3 h4
 ·intro p;unfold qxp;split
  ·exact Lin.nil
  ·exact h.lin p
 ·intro p q hpq k hkp hkq;unfold qxp at hkp hkq;split at hkp
  ·simp at hkp
  ·split at hkq
   ·simp at hkq
   ·exact h.dis p q hpq k hkp hkq
 ·intro r c1 hr r' hr';rw [hbox]at hr;split at hr
  ·cases hr;exact hlive r' (hp r' hr')
  ·exact hlive r' (h.ptrB r c1 hr r' hr')
 ·intro r c1 hr r' hr';rw [hbox]at hr;split at hr
  ·rename_i e;cases hr;subst e;have:=qvG (hp r' hr');simp only<;>omega
  ·exact h.up r c1 hr r' hr'
 ·intro k e fz hk;have:=h.dom k e fz hk;simp<;>omega
theorem Fr.qBH{w0:World}{X0:Cx}{M:Md}{n:Nat}{st:St}{tmps:Array Value}{O:Pl->List Nat}(h:Rel st tmps w X O)(hF:Fr w0 X0 M n st w X O){d:Nat}{c:List V}{o:Obj}(hnb:qz st.B d=none) :
  Fr w0 X0 M n {st with B:=(d,c)::st.B} (w.alloc o) (X.setβ ⟨st.L.length,d⟩ w.heap.size) (qxp O ⟨st.L.length,d⟩ []) where
 size:=by have:=hF.size;simp<;>omega
 kept:=λb hb hM=>by
  obtain ⟨h1,h2⟩:=hF.kept b hb hM;exact ⟨by rw [heap_alloc_old w _ (Nat.lt_of_lt_of_le hb hF.size),h1],h2⟩
 grew:=λb e fz hω=>by
  obtain ⟨e1,fz1,h1,h2,h3,h4⟩:=hF.grew b e fz hω;exact ⟨e1,fz1,h1,h2,h3,λi v hi hc=>by rw [cell_of_heap (heap_alloc_old w _ (h.dom b e1 fz1 h1))];exact h4 i v hi hc⟩
 β:=λr hr=>by
  have hl:=hF.lev;simp only [Cx.setβ];rw [if_neg (λe=>by rw [e]at hr;simp at hr;omega)];exact hF.β r hr
 own:=λp b hb=>by
  unfold qxp at hb;split at hb
  ·simp at hb
  ·exact hF.own p b hb
 boxM:=λr b hr hb=>by
  rw [show ({st with B:=(d,c)::st.B}:St).box r=if r=⟨st.L.length,d⟩then some c else st.box r from qpP st d c r]at hr;simp only [Cx.setβ]at hb;split at hb
  ·cases hb;exact .inl hF.size
  ·rename_i e;rw [if_neg e]at hr;exact hF.boxM r b hr hb
 lev:=hF.lev
 live:=λr hr=>by
  have hl:=hF.lev;rw [show ({st with B:=(d,c)::st.B}:St).box r=if r=⟨st.L.length,d⟩then some c else st.box r from qpP st d c r,if_neg (λe=>by rw [e]at hr;simp at hr;omega)];exact hF.live r hr
 os:=hF.os
 out:=hF.out
 tape:=hF.tape
 gl:=hF.gl
 gm:=hF.gm
theorem qbh(D:List Tmp)(s:Nat):∀B:Level,qz (q9 D B) s=if D.contains s then none else qz B s
 |[]=>by simp [q9,qz]
 |(k,c)::B=>by
  simp only [q9,qz];by_cases hk:D.contains k=true
  ·rw [if_pos hk,qbh D s B];by_cases hs:D.contains s=true
   ·rw [if_pos hs,if_pos hs]
   ·rw [if_neg hs,if_neg hs,if_neg (λe=>hs (by rw [<- e];exact hk))]
  ·rw [if_neg hk];simp only [qz,qbh D s B];by_cases hks:k=s
   ·subst hks;rw [if_pos rfl,if_neg hk,if_pos rfl]
   ·rw [if_neg hks,if_neg hks]
theorem qCY{B:Level}{r:Root}{s:Nat}{c:List V}(hl:qz B s=some c)(hr:r∈ptrsL c):r∈qpK B:=by
 induction B with
 |nil=>simp [qz]at hl
 |cons p B ih =>
  obtain ⟨k,d⟩:=p;simp only [qz]at hl;simp only [qpK,qk];split at hl
  ·cases hl;exact .inl hr
  ·exact .inr (ih hl)
def qvM(O:Pl->List Nat)(lvl:Nat)(D:List Tmp):Pl->List Nat
 |.tmp t=>O (.tmp t)
 |.box r=>if r.lvl=lvl/\D.contains r.slot=true then []else O (.box r)
theorem qEv(st:St)(D:List Tmp)(r:Root):({st with B:=q9 D st.B}:St).box r=if r.lvl=st.L.length/\D.contains r.slot=true then none else st.box r:=by
 unfold St.box;by_cases h:r.lvl=st.L.length
 ·simp only [h,if_true,true_and,qbh]
 ·simp only [h,if_false,false_and]
theorem qsN{w0:World}{X0:Cx}{M:Md}{n:Nat}{st:St}{tmps:Array Value}{O:Pl->List Nat}(h:Rel st tmps w X O)(hF:Fr w0 X0 M n st w X O){D:List Tmp}
  (hE:qeE st.L.length D (ptrsL st.E)=true) (hB:qeE st.L.length D (qpK (q9 D st.B))=true) :
  Rel {st with B:=q9 D st.B} tmps w X (qvM O st.L.length D)/\Fr w0 X0 M n {st with B:=q9 D st.B} w X (qvM O st.L.length D):=by
 have hbox:=qEv st D;have hsome:∀r c,({st with B:=q9 D st.B}:St).box r=some c->¬ (r.lvl=st.L.length/\D.contains r.slot=true)/\st.box r=some c:=λr c hr=>by
  rw [hbox]at hr;split at hr
  ·cases hr
  ·rename_i hn;exact ⟨hn,hr⟩
 have hsub:∀p k,k∈qvM O st.L.length D p->k∈O p:=λp k hk=>by
  cases p with
  |tmp t=>exact hk
  |box r =>
   simp only [qvM]at hk;split at hk
   ·simp at hk
   ·exact hk
 have hok:∀r,qeE st.L.length D [r]=true->(st.box r).isSome=true->(({st with B:=q9 D st.B}:St).box r).isSome=true:=λr hr hs=>by
  rw [hbox,if_neg]
  ·exact hs
  ·rintro ⟨h1,h2⟩;simp only [qeE,List.all_cons,List.all_nil,Bool.and_true,h1,bne_self_eq_false,h2,Bool.false_or,Bool.not_true]at hr;cases hr
 have hall:∀rs r,qeE st.L.length D rs=true->r∈rs->qeE st.L.length D [r]=true:=λrs r hrs hr=>by
  have:=List.all_eq_true.1 hrs r hr;simp only [qeE,List.all_cons,List.all_nil,Bool.and_true];exact this
 constructor
 ·refine {size:=h.size,env:=h.env,envD:=h.envD,box:=?_,boxD:=?_,inj:=?_,lin:=?_,dis:=?_,ptrE:=?_,ptrB:=?_,up:=?_,dom:=h.dom}
  ·intro r c hr;obtain ⟨h1,h2⟩:=hsome r c hr;simpa only [qvM,if_neg h1]using h.box r c h2
  ·intro r hr;rw [hbox]at hr;simp only [qvM];split
   ·rfl
   ·rename_i hn;rw [if_neg hn]at hr;exact h.boxD r hr
  ·intro r r' b h1 h2;obtain ⟨c,hc⟩:=Option.isSome_iff_exists.1 h1;obtain ⟨c',hc'⟩:=Option.isSome_iff_exists.1 h2;exact h.inj r r' b (by simp [(hsome r c hc).2]) (by simp [(hsome r' c' hc').2])
  ·intro p;cases p with
   |tmp t=>exact h.lin _
   |box r =>
    simp only [qvM];split
    ·exact Lin.nil
    ·exact h.lin _
  ·exact λp q hpq k hkp hkq=>h.dis p q hpq k (hsub p k hkp) (hsub q k hkq)
  ·exact λr hr=>hok r (hall _ r hE hr) (h.ptrE r hr)
  ·intro r c hr r' hr';obtain ⟨h1,h2⟩:=hsome r c hr;have h3:=h.ptrB r c h2 r' hr';by_cases hl:r.lvl=st.L.length
   ·refine hok r' (hall _ r' hB ?_) h3;rw [hbox,if_neg h1]at hr;have hlk:qz (q9 D st.B) r.slot=some c:=by
     rw [qbh,if_neg (λe=>h1 ⟨hl,e⟩)];unfold St.box at hr;rw [if_pos hl]at hr;exact hr
    exact qCY hlk hr'
   ·have h4:=h.up r c h2 r' hr';have h5:=qvG (st:=st) (r:=r) (by simp [h2]);rw [hbox,if_neg (λe=>by omega)];exact h3
  ·intro r c hr;exact h.up r c (hsome r c hr).2
 ·exact {
   size:=hF.size
   kept:=hF.kept
   grew:=hF.grew
   β:=hF.β
   own:=λp b hb=>hF.own p b (hsub p b hb)
   boxM:=λr b hr hb=>by
    obtain ⟨c,hc⟩:=Option.isSome_iff_exists.1 hr;exact hF.boxM r b (by simp [(hsome r c hc).2]) hb
   lev:=hF.lev
   live:=λr hr=>by
    have:=hF.lev;rw [hbox,if_neg (λe=>by omega)];exact hF.live r hr
   os:=hF.os
   out:=hF.out
   tape:=hF.tape
   gl:=hF.gl
   gm:=hF.gm}
def qqR:Option V->Bool
 |some .undef=>true
 |_=>false
theorem qx2{x:Option V}:qqR x=true↔x=some .undef:=by
 constructor
 ·intro h;unfold qqR at h;split at h
  ·rfl
  ·cases h
 ·rintro rfl;rfl
def qjL(O:Pl->List Nat)(E':List V):Pl->List Nat
 |.tmp t=>if qqR E'[t]?=true then []else O (.tmp t)
 |.box r=>O (.box r)
theorem forget{w0:World}{X0:Cx}{M:Md}{n:Nat}{st:St}{tmps:Array Value}{O:Pl->List Nat}(h:Rel st tmps w X O)(hF:Fr w0 X0 M n st w X O){E':List V}(hlen:E'.length=st.E.length)(hE:∀t:Nat,E'[t]?=st.E[t]?\/E'[t]?=some .undef) :
  Rel {st with E:=E'} tmps w X (qjL O E')/\Fr w0 X0 M n {st with E:=E'} w X (qjL O E'):=by
 have hsub:∀p k,k∈qjL O E' p->k∈O p:=λp k hk=>by
  cases p with
  |tmp t =>
   simp only [qjL]at hk;split at hk
   ·simp at hk
   ·exact hk
  |box r=>exact hk
 constructor
 ·refine {size:=by rw [hlen];exact h.size,env:=?_,envD:=?_,box:=h.box,boxD:=h.boxD,inj:=h.inj,lin:=?_,dis:=λp q hpq k hkp hkq=>h.dis p q hpq k (hsub p k hkp) (hsub q k hkq),ptrE:=?_,ptrB:=h.ptrB,up:=h.up,dom:=h.dom}
  ·intro t x hx;have hx':E'[t]?=some x:=hx;have hlt:t<tmps.size:=by rw [h.size,<- hlen];exact (qn.1 hx').1
   by_cases hu:x=.undef
   ·subst hu;refine ⟨tmps[t],Array.getElem?_eq_getElem hlt,?_⟩;simp only [qjL,hx',qqR,if_true,Rep]
   ·have h1:st.E[t]?=some x:=by
     rcases hE t with h1|h1
     ·rw [<- h1];exact hx'
     ·rw [hx']at h1;exact absurd (Option.some.inj h1) hu
    have h2:¬ qqR E'[t]?=true:=λe=>by rw [qx2,hx']at e;exact hu (Option.some.inj e)
    simpa only [qjL,if_neg h2]using h.env t x h1
  ·intro t ht;simp only [qjL];split
   ·rfl
   ·exact h.envD t (by rw [<- hlen];exact ht)
  ·intro p;cases p with
   |tmp t =>
    simp only [qjL];split
    ·exact Lin.nil
    ·exact h.lin _
   |box r=>exact h.lin _
  ·intro r hr;obtain ⟨x,hx,hr⟩:=qM.1 hr;obtain ⟨t,ht,hx⟩:=List.mem_iff_getElem.1 hx;have hx':E'[t]?=some x:=by rw [List.getElem?_eq_getElem ht,hx]
   rcases hE t with h1|h1
   ·exact h.ptrE r (qM.2 ⟨x,List.mem_of_getElem? (by rw [<- h1];exact hx'),hr⟩)
   ·rw [hx']at h1;cases h1;simp [V.qv]at hr
 ·exact {gl:=hF.gl,gm:=hF.gm,size:=hF.size,kept:=hF.kept,grew:=hF.grew,β:=hF.β,own:=λp b hb=>hF.own p b (hsub p b hb),boxM:=hF.boxM,lev:=hF.lev,live:=hF.live,os:=hF.os,out:=hF.out,tape:=hF.tape}
theorem qqp:∀(D:List Tmp) (E:List V),(qfo D E).length=E.length/\∀t:Nat,(qfo D E)[t]?=E[t]?\/(qfo D E)[t]?=some .undef
 |[],E=>⟨rfl,λ_=>.inl rfl⟩
 |d::D,E=>by
  obtain ⟨h1,h2⟩:=qqp D (E.set d .undef);have e:qfo (d::D) E=qfo D (E.set d .undef):=rfl;rw [e];refine ⟨by rw [h1];simp,λt=>?_⟩;rcases h2 t with h3|h3
  ·rw [h3,List.getElem?_set];by_cases hdt:d=t
   ·subst hdt;by_cases hlt:d<E.length
    ·simp [hlt]
    ·simp [hlt]
   ·simp [hdt]
  ·exact .inr h3
theorem qiE(D:List Tmp):∀B:Level,(q9 D B).length<=B.length/\((q9 D B).length=B.length->q9 D B=B)
 |[]=>⟨Nat.le_refl _,λ_=>rfl⟩
 |(k,c)::B=>by
  obtain ⟨h1,h2⟩:=qiE D B;simp only [q9];split
  ·exact ⟨by simp;omega,λh=>by simp at h;omega⟩
  ·exact ⟨by simpa using h1,λh=>by rw [h2 (by simpa using h)]⟩
theorem qkw{w0:World}{X0:Cx}{M:Md}{n:Nat}{st st':St}{D:List Tmp}{a:Act}(hS:qnN w0 X0 M n st a w)(hx:st.clear D=some st'):qnN w0 X0 M n st' a w:=by
 obtain ⟨X,O,h,hF,hM⟩:=hS;unfold St.clear at hx;simp only at hx;obtain ⟨hl,hE⟩:=qqp D st.E;obtain ⟨h1,hF1⟩:=forget h hF hl hE;split at hx
 ·rename_i hc;cases hx;by_cases hs:(q9 D st.B).length=st.B.length
  ·rw [(qiE D st.B).2 hs];exact ⟨X,_,h1,hF1,hM⟩
  ·rcases hc with hc|hc
   ·exact absurd hc hs
   ·simp only [qe]at hc;obtain ⟨h2,hF2⟩:=qsN h1 hF1 (D:=D) hc.1 hc.2;exact ⟨X,_,h2,hF2,hM⟩
 ·cases hx
theorem qFG{st:St}{tmps:Array Value}{O:Pl->List Nat}(h:Rel st tmps w X O):RepL w X (st.E.map V.qap) tmps.toList []:=by
 have key:∀(E:List V) (vs:List Value),E.length=vs.length->(∀(t:Nat) x,E[t]?=some x->∃v A,vs[t]?=some v/\Rep w X x v A)->RepL w X (E.map V.qap) vs []:=by
  intro E;induction E with
  |nil=>intro vs hl _;simp only [List.map_nil,RepL];exact ⟨List.eq_nil_of_length_eq_zero (by simpa using hl.symm),trivial⟩
  |cons x E ih =>
   intro vs hl hv;cases vs with
   |nil=>simp at hl
   |cons v vs =>
    simp only [qi,RepL];obtain ⟨v',A,h1,h2⟩:=hv 0 x rfl;simp only [List.getElem?_cons_zero,qb]at h1;subst h1;exact ⟨v,vs,[],[],rfl,rfl,qi7 h2,ih vs (by simpa using hl) λt y hy=>by simpa using hv (t+1) y (by simpa using hy)⟩
 refine key st.E tmps.toList (by simpa using h.size.symm) λt x hx=>?_;obtain ⟨v,hv,hr⟩:=h.env t x hx;exact ⟨v,_,by simpa using hv,hr⟩
theorem qtn{E:List V}{r:Root}(h:r∈ptrsL (E.map V.qap)):r∈ptrsL E:=by
 rw [show E.map V.qap=reflagL qac E from (qO _ _).symm,ptrsL_reflag]at h;exact h
theorem qtq{st:St}{a:Act}{O:Pl->List Nat}(h:Rel st a.tmps w X O)(x:Operand):Rep w X (rd H f default st.E x) (a.eval x) []:=by
 have htk:qax H f (default:Oper)=false:=by rfl
 obtain ⟨Oin,hrep,hs,_⟩:=qdu (H:=H) (f:=f) h default [x] (λht=>by rw [htk]at ht;cases ht);have:Oin=[]:=by
  cases Oin with
  |nil=>rfl
  |cons b l=>have:=(hs b (by simp)).1;rw [htk]at this;cases this
 subst this;simp only [qi,List.map_nil,RepL]at hrep;obtain ⟨u,vs,O1,O2,hu,hO,h1,_⟩:=hrep;simp only [List.nil_eq,List.append_eq_nil_iff]at hO;simp only [List.cons.injEq]at hu;rw [hu.1];rw [hO.1]at h1;exact h1
end
section
variable {P:Program} {H:Hints} {f:FuncId} {C:Orc} {w:World} {X:Cx}
theorem FOk.qED{F:Fence}{X0:Cx}{Md:Md}{n:Nat}(h:FOk F X0 Md n):F=Fence.wide\/∃l,F=Fence.wide.inRound l:=by
 rcases h.1 with h|⟨r,l,h,_⟩
 ·exact .inl h
 ·exact .inr ⟨l,h⟩
theorem qyQ{g:FuncId}{args:List V}{st s:St}{z:V}(h:qho C g args st=some (z,s)):s.E=st.E:=by
 unfold qho at h;split at h
 ·split at h
  ·cases h;rfl
  ·cases h
 split at h
 ·split at h
  ·split at h
   ·split at h
    ·split at h
     ·cases h;rfl
     ·cases h
    ·cases h
   ·cases h
  ·cases h
 ·split at h
  ·split at h
   ·split at h
    ·cases h;rfl
    ·cases h
   ·cases h
  ·cases h
theorem qwL{bx:Root->Option (List V)}{x:V}(hx:peekV bx x=none):∀l:List V,x∈l->peekL bx l=none
 |[],h=>by simp at h
 |y::l,h=>by
  simp only [peekL];rcases qm.1 h with rfl|h
  ·rw [hx]
  ·rw [qwL hx l h];split<;>simp_all
theorem qDi{bx:Root->Option (List V)}{r:Root}(first cap:List V):peekL bx (first++[.yld r]++cap)=none :=
 qwL (x:=.yld r) (by simp [peekV]) _ (by simp)
theorem qEA{F:Fence}{w0:World}{X0:Cx}{Md:Md}{n:Nat}{st:St}{a:Act}(hF:FOk F X0 Md n)(hS:qnN w0 X0 Md n st a w)(fn:FuncId){ps:Array Tmp}{t:Tmp}{ts:List Tmp}(hps:ps.toList=t::ts){asz bo:Code}(hnb:qz st.B t=none) :
  ∃l mark w1 X1 O1,(Instr.enterLoop fn a.tmps ps asz bo F.round).run P w=.ok (l,mark) w1/\Rel {st with B:=(t,[.lp .ready none f (st.E.map V.qap) (t::ts) asz bo])::st.B} a.tmps w1 X1 O1 /\
   Fr w0 X0 Md n {st with B:=(t,[.lp .ready none f (st.E.map V.qap) (t::ts) asz bo])::st.B} w1 X1 O1/\qfX w0 w1 X1 (mark++a.defers)/\X1.β ⟨st.L.length,t⟩=some l:=by
 obtain ⟨X,O,h,hFr,hM⟩:=hS
 have lay:∀(w':World) (O':Pl->List Nat) (df:Nat),Rel st a.tmps w' X O'->Fr w0 X0 Md n st w' X O' ->
   Rel {st with B:=(t,[.lp .ready none f (st.E.map V.qap) (t::ts) asz bo])::st.B} a.tmps (w'.alloc (.loop {state:=.ready,pending:=none,fn,tmps:=a.tmps,params:=ps,assign:=asz,body:=bo,defers:=df})) (X.setβ ⟨st.L.length,t⟩ w'.heap.size) (qxp O' ⟨st.L.length,t⟩ []) /\
   Fr w0 X0 Md n {st with B:=(t,[.lp .ready none f (st.E.map V.qap) (t::ts) asz bo])::st.B} (w'.alloc (.loop {state:=.ready,pending:=none,fn,tmps:=a.tmps,params:=ps,assign:=asz,body:=bo,defers:=df})) (X.setβ ⟨st.L.length,t⟩ w'.heap.size) (qxp O' ⟨st.L.length,t⟩ []):=by
  intro w' O' df h' hFr';have hptr:∀r∈ptrsL [V.lp .ready none f (st.E.map V.qap) (t::ts) asz bo],(st.box r).isSome=true:=λr hr=>by
   have:r∈ptrsL (st.E.map V.qap):=by simpa [ptrsL,V.qv]using hr
   exact h'.ptrE r (qtn this)
  refine ⟨h'.qBH hnb (.inr (.inl ⟨.ready,none,f,st.E.map V.qap,t::ts,asz,bo,_,rfl,heap_alloc_new w' _,rfl,rfl,rfl,hps,rfl,rfl,?_,rfl⟩)) hptr,Fr.qBH h' hFr' hnb⟩;refine RepL.ext (ext_setβ (R:=ptrsL (st.E.map V.qap)) (λhm=>?_) h'.dom (λk hk=>heap_alloc_old w' _ hk)) _ _ _ (λ_ h=>h) (by simp) (qFG h');have:=h'.ptrE _ (qtn hm);simp [St.box,hnb]at this
 have mk:∀(w':World) (D:List Deferred) (o:Obj),qfX w0 w' X D->qfX w0 (w'.alloc o) (X.setβ ⟨st.L.length,t⟩ w'.heap.size) D:=λw' D o hM' =>
  hM'.of λk hk _ _=>⟨heap_alloc_old w' _ (Array.getElem?_eq_some_iff.1 hk).1,rfl⟩
 rcases hF.1 with rfl|⟨r,l,rfl,hrl,hβ,hkd⟩
 ·-- outermost
  have heff:Eff w X (w.alloc (.deferred (some []))) X [] :=
   ⟨by simp,λb hb _=>heap_alloc_old w _ hb,λ_ _ _=>rfl,by simp,rfl,λb e fz hb=>by have:=h.dom b e fz hb;simp;omega,rfl,rfl,rfl⟩
  have h1:=h.put (T:=[]) (Oin:=[]) (O':=[]) (z:=.undef) (v:=undef) none (by simp) heff (by simp [Rep]) Lin.nil (by simp) (by simp [V.qv]);have hF1:=Fr.put (z:=.undef) h hFr (T:=[]) (Oin:=[]) (O':=[]) none (by simp) heff (by simp);change Rel st a.tmps _ X _ at h1
  change Fr w0 X0 Md n st _ X _ at hF1
  obtain ⟨h2,hF2⟩:=lay _ _ w.heap.size h1 hF1;refine ⟨_,_,_,_,_,run_enterLoop_outer fn a.tmps ps asz bo,h2,hF2,mk _ _ _ ?_,by simp [Cx.setβ]⟩;obtain ⟨ks,hD,hnd,hks⟩:=hM;refine ⟨w.heap.size::ks,by rw [hD];rfl,?_,λk hk=>?_⟩
  ·refine List.nodup_cons.2 ⟨λhm=>?_,hnd⟩;have:=(Array.getElem?_eq_some_iff.1 (hks _ hm).2.1).1;omega
  ·rcases qm.1 hk with rfl|hk
   ·refine ⟨hFr.size,heap_alloc_new w _,?_⟩;cases hω:X.ω w.heap.size with
    |none=>rfl
    |some p=>have:=h.dom w.heap.size p.1 p.2 hω;omega
   ·obtain ⟨h3,h4,h5⟩:=hks k hk;exact ⟨h3,by rw [heap_alloc_old w _ (Array.getElem?_eq_some_iff.1 h4).1];exact h4,h5⟩
 ·-- within a round
  have hb:X.β r=some l:=by rw [hFr.β r hrl,hβ]
  have hk:=hFr.live r hrl;rw [hkd]at hk;obtain ⟨c,hc,hlp⟩:=qc.1 hk;obtain ⟨b,hb',_,_,hbx⟩:=h.box r c hc;rw [hb]at hb';cases hb';have hlo:∃lo,w.heap[l]?=some (.loop lo):=by
   rcases hbx with ⟨cs,t,_,h2⟩|⟨s,pe,g,env,ps,asg,body,lo,_,h1,_⟩|⟨es,ents,ck,rfl,_⟩
   ·rw [qn5 h2]at hlp;cases hlp
   ·exact ⟨lo,h1⟩
   ·cases hlp
  obtain ⟨lo,hlo⟩:=hlo;obtain ⟨h2,hF2⟩:=lay w O lo.defers h hFr;exact ⟨_,_,_,_,_,run_enterLoop_inner hlo fn a.tmps ps asz bo,h2,hF2,mk _ _ _ hM,by simp [Cx.setβ]⟩
theorem qwQ(hC:OrcOk P C){bid:Nat}{g:Operand}{ps:Array Tmp}{asz bo:Code}{st st':St}{e:Ex}(hx:ex P H C f bid (.rangeFunc g ps asz bo) st=some (e,st')):qBE P (.rangeFunc g ps asz bo) st e st':=by
 intro F w0 X0 Md n a w hFO hS;show (Code.rangeFunc g ps asz bo).wpIn F 0 P _ a w;simp only [ex]at hx;split at hx
 ·rename_i h first cap t ts hfv hps;split at hx
  ·rename_i hnb;have hnb:qz st.B t=none:=by simpa using hnb
   split at hx
   ·rename_i z s hcall;split at hx
    ·rename_i hok;refine wpIn_rangeFunc λfn hfn=>?_;obtain ⟨l,mark,w1,X1,O1,hent,hR1,hF1,hM1,hβ1⟩:=qEA (P:=P) (f:=f) hFO hS fn hps (asz:=asz) (bo:=bo) hnb;obtain ⟨X,O,hR,hFr,_⟩:=hS
     have hg:=qtq (H:=H) (f:=f) hR1 g;have hE1:({st with B:=(t,[.lp .ready none f (st.E.map V.qap) (t::ts) asz bo])::st.B}:St).E=st.E:=rfl;rw [hE1,hfv]at hg;simp only [Rep]at hg;obtain ⟨va,vc,A1,A2,hgv,hA,ha1,ha2⟩:=hg;simp only [List.nil_eq,List.append_eq_nil_iff]at hA;obtain ⟨rfl,rfl⟩:=hA
     obtain ⟨Md2,hF3,_,lift⟩:=qDq (df:=mark++a.defers) hR1 hF1 hM1;have hlen:st.L.length=n:=hFr.lev;have hr0:st.box ⟨st.L.length,t⟩=none:=by simp [St.box,hnb]
     have hyl:({st with B:=(t,[.lp .ready none f (st.E.map V.qap) (t::ts) asz bo])::st.B}:St).box ⟨st.L.length,t⟩=some [.lp .ready none f (st.E.map V.qap) (t::ts) asz bo]:=by
      rw [qpP,if_pos rfl]
     have hargs:RepL w1 X1 (first++[.yld ⟨st.L.length,t⟩]++cap) (va++[.func (.yield l) #[] #[]]++vc) []:=by
      have h2:RepL w1 X1 [.yld ⟨st.L.length,t⟩] [.func (.yield l) #[] #[]] []:=by
       simp only [RepL,Rep];exact ⟨_,_,[],[],rfl,rfl,⟨rfl,l,hβ1,rfl⟩,rfl,rfl⟩
      exact qbk (qbk ha1 h2) ha2
     have hcall':qho C h (first++[.yld ⟨st.L.length,t⟩]++cap) {st with B:=(t,[.lp .ready none f (st.E.map V.qap) (t::ts) asz bo])::st.B}=some (z,s):=hcall;have hdoes:=qBY (d:=none) hC.call hR1 hF3 (T:=[]) rfl hargs (by simp) Lin.nil (λq hq=>by
      rw [qaP,qaP]at hq;simp only [qk]at hq;have hin:∀q,q∈(rd H f default st.E g).qv->(({st with B:=(t,[.lp .ready none f (st.E.map V.qap) (t::ts) asz bo])::st.B}:St).box q).isSome=true:=λq hq=>hR1.ptrE q (qrP (E:=st.E) hq);rcases hq with (hq|hq)|hq
      ·exact hin q (by rw [hfv];simp [V.qv,hq])
      ·simp only [ptrsL,V.qv,List.append_nil,List.mem_singleton]at hq;subst hq;rw [hyl];rfl
      ·exact hin q (by rw [hfv];simp [V.qv,hq])) hcall'
     rcases hdoes with ⟨hent2,hcalls⟩|⟨hno,_⟩
     ·have hres:(resolve a.eval (rangeCall g l) 0).run P w1=.ok {target:=.fn (.func h) vc.toArray,args:=va.toArray++#[.func (.yield l) #[] #[]]} w1:=by
       simp only [resolve,hgv,Deferred.ofValue,Sem.run_pure];congr 3
       simp [Act.eval]
      have harr:(va++[Value.func (.yield l) #[] #[]]++vc).toArray=va.toArray++#[Value.func (.yield l) #[] #[]]++vc.toArray:=by apply Array.ext';simp
      rw [harr]at hent2 hcalls;refine ⟨l,mark,w1,_,w1,h,_,w1,hent,hres,λ_ _=>qn1 hFO.qED _,hent2,λhd=>by rcases hFO.qED with rfl|⟨l,rfl⟩<;>simp [Fence.wide,Fence.inRound]at hd,?_⟩;have hpost:CallsIn Fence.wide (0-1) P h (va.toArray++#[.func (.yield l) #[] #[]]++vc.toArray) w1 (rangePost F 0 P l (λe' a' w'=>e'=e.qxM/\qnN w0 X0 Md n st' a' w') {a with defers:=mark++a.defers}):=by
       refine callsIn_wide.2 (hcalls.mono ?_);rintro e1 w3 ⟨v,rfl,X4,O4,hR4,hF4,hβ4⟩;change Rel s a.tmps w3 X4 O4 at hR4
       change Fr w1 X1 Md2 n s w3 X4 O4 at hF4
       have hsE:s.E=st.E:=(qyQ hcall' :)
       have hsL:s.L.length=st.L.length:=by rw [hF4.lev,hlen]
       have hb4:X4.β ⟨st.L.length,t⟩=some l:=by rw [hβ4 _ (Nat.le_refl _),hβ1]
       have key:∀s0 pe g0 env0 ps0 as0 bo0,qz s.B t=some [.lp s0 pe g0 env0 ps0 as0 bo0]->s0≠.busy ->
         ∃w4,(Instr.endLoop l).run P w3=.ok pe w4/\qnN w0 X0 Md n {st with L:=s.L,B:=q9 [t] s.B} {a with defers:=mark++a.defers} w4:=by
        intro s0 pe g0 env0 ps0 as0 bo0 hl0 hnbusy;have hbx:s.box ⟨st.L.length,t⟩=some [.lp s0 pe g0 env0 ps0 as0 bo0]:=by
         unfold St.box;rw [if_pos hsL.symm];exact hl0
        obtain ⟨lo,hw,hst0,hpe0,_,_,_,_,_,hset⟩:=qzu hR4 hF4 hbx hb4;obtain ⟨hR5,hF5⟩:=hset .exhausted pe;have hrun:=run_endLoop (P:=P) hw (by rw [hst0];exact hnbusy);have hs':s.qu ⟨st.L.length,t⟩ [.lp .exhausted pe g0 env0 ps0 as0 bo0]={s with B:=qgu s.B t [.lp .exhausted pe g0 env0 ps0 as0 bo0]}:=by
         unfold St.qu;rw [if_pos hsL.symm]
        rw [hs']at hR5 hF5;have hcl:∀(B:Level) c,q9 [t] (qgu B t c)=q9 [t] B:=by
         intro B c;induction B with
         |nil=>rfl
         |cons p B ih =>
          obtain ⟨k,d⟩:=p;simp only [qgu];by_cases hk:k=t
          ·subst hk;simp [q9]
          ·simp only [hk,if_false,q9,ih]
        obtain ⟨hR6,hF6⟩:=qsN hR5 hF5 (D:=[t]) (by
          show qeE s.L.length [t] (ptrsL s.E)=true;rw [hsE,hsL];refine List.all_eq_true.2 λr hr=>?_;have h1:=hR.ptrE r hr;by_cases h2:r.lvl=st.L.length
          ·have h3:r.slot≠t:=λe=>by
            have:r=⟨st.L.length,t⟩:=by cases r;simp_all
            rw [this,hr0]at h1;cases h1
           simp [h3]
          ·simp [h2]) (by
          show qeE s.L.length [t] (qpK (q9 [t] (qgu s.B t _)))=true;rw [hcl,hsL];exact hok)
        refine ⟨_,by rw [hrun,hpe0],?_⟩;refine lift _ a.tmps _ ⟨X4,qvM (qxm O4 ⟨st.L.length,t⟩ []) s.L.length [t],?_⟩;have hfin:({st with L:=s.L,B:=q9 [t] s.B}:St)={s with B:=q9 [t] (qgu s.B t [.lp .exhausted pe g0 env0 ps0 as0 bo0])}:=by rw [hcl,<- hsE]
        rw [hfin];exact ⟨hR6,hF6⟩
       show ∃jump w4,(Instr.endLoop l).run P w3=.ok jump w4/\_;split at hx
       ·rename_i g0 env0 ps0 as0 bo0 hl0;simp only [qb,Prod.mk.injEq]at hx;obtain ⟨rfl,rfl⟩:=hx;obtain ⟨w4,h1,h2⟩:=key _ _ _ _ _ _ _ hl0 (by simp);exact ⟨none,w4,h1,rfl,h2⟩
       ·rename_i g0 env0 ps0 as0 bo0 hl0;simp only [qb,Prod.mk.injEq]at hx;obtain ⟨rfl,rfl⟩:=hx;obtain ⟨w4,h1,h2⟩:=key _ _ _ _ _ _ _ hl0 (by simp);exact ⟨some .ret,w4,h1,wpIn_ret ⟨rfl,h2⟩⟩
       ·rename_i id g0 env0 ps0 as0 bo0 hl0;simp only [qb,Prod.mk.injEq]at hx;obtain ⟨rfl,rfl⟩:=hx;obtain ⟨w4,h1,h2⟩:=key _ _ _ _ _ _ _ hl0 (by simp);exact ⟨some (.exit id),w4,h1,wpIn_exit ⟨rfl,h2⟩⟩
       ·cases hx
      rcases hFO.qED with rfl|⟨l',rfl⟩
      ·exact hpost
      ·exact hpost
     ·rcases hno with hno|hno
      ·rw [qaP,qaP]at hno;simp [ptrsL,V.qv]at hno
      ·have:=qDi (bx:=({st with B:=(t,[.lp .ready none f (st.E.map V.qap) (t::ts) asz bo])::st.B}:St).box) (r:=⟨st.L.length,t⟩) first cap;rw [this]at hno;cases hno
    ·cases hx
   ·cases hx
  ·cases hx
 ·cases hx
end
section
variable {P:Program} {w w':World} {X:Cx}
structure Wrote (w:World) (X:Cx) (w':World) (b:Nat):Prop where
 ω:∃e,X.ω b=some (e,false)
 kept:∀k,k≠b->w'.heap[k]?=w.heap[k]?
mutual
theorem Rep.other{b:Nat}(h:Wrote w X w' b):∀(x:V) (v:Value) (O:List Nat),x.soft=false->b∉O->Rep w X x v O->Rep w' X x v O
 |.undef,_,_,_,_,hr=>by simpa only [Rep]using hr
 |.val _,_,_,_,_,hr=>by simpa only [Rep]using hr
 |.ptr ..,_,_,_,_,hr=>by simpa only [Rep]using hr
 |.yld _,_,_,_,_,hr=>by simpa only [Rep]using hr
 |.mref _,_,_,_,_,hr=>by simpa only [Rep]using hr
 |.bsl ..,_,_,_,_,hr=>by simpa only [Rep]using hr
 |.room s n,v,O,hs,hb,hr=>by
  simp only [Rep]at hr ⊢;obtain ⟨b1,cap,hv,hn,hs0,rfl,hω,c,t,hc,hsz⟩:=hr;exact ⟨b1,cap,hv,hn,hs0,rfl,hω,c,t,by rw [h.kept b1 (λe=>hb (by simp [e]))];exact hc,hsz⟩
 |.cptr f cs,v,O,hs,hb,hr=>by
  simp only [V.soft,Bool.or_eq_false_iff,decide_eq_false_iff_not]at hs;obtain ⟨hs1,hs2⟩:=hs;simp only [Rep]at hr ⊢;obtain ⟨h0,b1,off,vals,hv,hsg,⟨e,fz,hω,hle,hsh⟩,hl,hno⟩:=hr;have hf:f=.shared:=by cases f<;>simp_all
  have hne:b1≠b:=λe'=>by
   obtain ⟨e0,hω0⟩:=h.ω;rw [e',hω0]at hω;cases hω;exact absurd (hsh hf) (by simp)
  refine ⟨h0,b1,off,vals,hv,λi u hi=>?_,⟨e,fz,hω,hle,hsh⟩,RepL.other h cs vals [] hs2 (by simp) hl,hno⟩;rw [cell_of_heap (h.kept b1 hne)];exact hsg i u hi
 |.sl f c l,v,O,hs,hb,hr=>by
  simp only [V.soft,Bool.or_eq_false_iff]at hs;obtain ⟨hs1,hs2⟩:=hs;simp only [Rep]at hr ⊢;obtain ⟨hnp,hr⟩:=hr;refine ⟨hnp,?_⟩;rcases hr with hr|⟨b1,off,cap,s,vals,O',hv,hcap,hc,hlen,hs0,hxs,hsg,hf,he,ho,ho'⟩
  ·exact .inl hr
  ·have hne:l≠[]\/f=.own->b1≠b:=by
    intro hor e;subst e;obtain ⟨e0,hω0⟩:=h.ω;obtain ⟨e1,fz,hω1,_,hm⟩:=hf;rw [hω0]at hω1;cases hω1;cases f with
    |own=>exact hb (by rw [ho rfl];simp)
    |shared=>cases hm
    |qap =>
     rcases hor with hl|hl
     ·cases l with
      |nil=>exact hl rfl
      |cons a l=>simp at hs1
     ·cases hl
   refine .inr ⟨b1,off,cap,s,vals,O',hv,hcap,hc,hlen,hs0,hxs,?_,?_,RepE.other h s l vals O' hs2 ?_ he,ho,ho'⟩
   ·intro i u hi;cases l with
    |nil =>
     have:vals=[]:=List.eq_nil_of_length_eq_zero (by simpa using hlen);subst this;simp at hi
    |cons a l =>
     have:=hne (.inl (by simp));rw [cell_of_heap (h.kept b1 this)];exact hsg i u hi
   ·obtain ⟨e1,fz,hω1,hle,hm⟩:=hf;refine ⟨e1,fz,hω1,hle,?_⟩;cases f with
    |own =>
     obtain ⟨h1,h2,⟨c',t,h3,h4⟩,h5⟩:=hm;exact ⟨h1,h2,⟨c',t,by rw [h.kept b1 (hne (.inr rfl))];exact h3,h4⟩,h5⟩
    |qap=>trivial
    |shared=>exact hm
   ·intro hb';by_cases hown:f=.own
    ·exact hb (by rw [ho hown];simp [hb'])
    ·rw [(ho' hown).2]at hb';simp at hb'
 |.fn f a c,v,O,hs,hb,hr=>by
  simp only [V.soft,Bool.or_eq_false_iff]at hs;simp only [Rep]at hr ⊢;obtain ⟨va,vc,O1,O2,hv,rfl,h1,h2⟩:=hr;simp only [qk,not_or]at hb;exact ⟨va,vc,O1,O2,hv,rfl,RepL.other h a va O1 hs.1 hb.1 h1,RepL.other h c vc O2 hs.2 hb.2 h2⟩
 |.iface t x,v,O,hs,hb,hr=>by
  simp only [V.soft]at hs;simp only [Rep]at hr ⊢;obtain ⟨u,hv,h1⟩:=hr;exact ⟨u,hv,Rep.other h x u O hs hb h1⟩
 |.agg l,v,O,hs,hb,hr=>by
  simp only [V.soft]at hs;simp only [Rep]at hr ⊢;obtain ⟨vals,hv,h1⟩:=hr;exact ⟨vals,hv,RepL.other h l vals O hs hb h1⟩
 |.tuple l,v,O,hs,hb,hr=>by
  simp only [V.soft]at hs;simp only [Rep]at hr ⊢;obtain ⟨vals,hv,h1⟩:=hr;exact ⟨vals,hv,RepL.other h l vals O hs hb h1⟩
 |.lp ..,_,_,_,_,hr=>by simp only [Rep]at hr
 |.mp _,_,_,_,_,hr=>by simp only [Rep]at hr
theorem RepL.other{b:Nat}(h:Wrote w X w' b):∀(l:List V) (vals:List Value) (O:List Nat),softL l=false->b∉O->RepL w X l vals O->RepL w' X l vals O
 |[],_,_,_,_,hr=>by simpa only [RepL]using hr
 |x::l,vals,O,hs,hb,hr=>by
  simp only [softL,Bool.or_eq_false_iff]at hs;simp only [RepL]at hr ⊢;obtain ⟨u,vs,O1,O2,hv,rfl,h1,h2⟩:=hr;simp only [qk,not_or]at hb;exact ⟨u,vs,O1,O2,hv,rfl,Rep.other h x u O1 hs.1 hb.1 h1,RepL.other h l vs O2 hs.2 hb.2 h2⟩
theorem RepE.other{b:Nat}(h:Wrote w X w' b)(s:Nat):∀(l:List V) (vals:List Value) (O:List Nat),softL l=false->b∉O->RepE w X s l vals O->RepE w' X s l vals O
 |[],_,_,_,_,hr=>by simpa only [RepE]using hr
 |x::l,vals,O,hs,hb,hr=>by
  simp only [softL,Bool.or_eq_false_iff]at hs;simp only [RepE]at hr ⊢;obtain ⟨u,vs,O1,O2,hv,hsz,rfl,h1,h2⟩:=hr;simp only [qk,not_or]at hb;exact ⟨u,vs,O1,O2,hv,hsz,rfl,Rep.other h x u O1 hs.1 hb.1 h1,RepE.other h s l vs O2 hs.2 hb.2 h2⟩
end
theorem qnD{l:List V}(h:softL l=false):∀x∈l,x.soft=false:=by
 induction l with
 |nil=>simp
 |cons a l ih =>
  simp only [softL,Bool.or_eq_false_iff]at h;intro x hx;rcases qm.1 hx with rfl|hx
  ·exact h.1
  ·exact ih h.2 x hx
theorem qFX{l:List V}(h:∀x∈l,x.soft=false):softL l=false:=by
 induction l with
 |nil=>rfl
 |cons a l ih =>
  simp only [softL,Bool.or_eq_false_iff];exact ⟨h a (by simp),ih λx hx=>h x (by simp [hx])⟩
theorem RepE.hole{s:Nat}:∀{l:List V} {vals:List Value} {O:List Nat} (j:Nat) {e:V},RepE w X s l vals O->l[j]?=some e ->
  ∃u O1 Oe O2,O=O1++Oe++O2/\Rep w X e u Oe/\u.cells.size=s/\(∀i,i<s->vals[j*s+i]?=u.cells.toList[i]?)/\j*s+s<=vals.length /\
   ∀(w':World) (b:Nat) (e':V) (u':Value) (Oe':List Nat),Wrote w X w' b->b∉O1->b∉O2->softL (l.set j e')=false->Rep w' X e' u' Oe'->u'.cells.size=s ->
    ∃vals',RepE w' X s (l.set j e') vals' (O1++Oe'++O2)/\vals'.length=vals.length/\∀i,vals'[i]?=if j*s<=i/\i<j*s+s then u'.cells.toList[i-j*s]? else vals[i]?
 |[],vals,O,j,e,h,hj=>by simp at hj
 |y::l,vals,O,0,e,h,hj=>by
  simp only [RepE]at h;obtain ⟨u,vs,A,B,rfl,hsz,rfl,h1,h2⟩:=h;simp at hj;subst hj;have hl:u.cells.toList.length=s:=by simpa using hsz
  refine ⟨u,[],A,B,by simp,h1,hsz,λi hi=>?_,by simp [hsz],λw' b e' u' Oe' hw hb1 hb2 hs hr hsz'=>?_⟩
  ·rw [Nat.zero_mul,Nat.zero_add,qh (by omega)]
  ·simp only [List.set_cons_zero,softL,Bool.or_eq_false_iff]at hs;have hl':u'.cells.toList.length=s:=by simpa using hsz'
   refine ⟨u'.cells.toList++vs,?_,by simp [hsz,hsz'],λi=>?_⟩
   ·simp only [List.set_cons_zero,RepE,List.nil_append];exact ⟨u',vs,Oe',B,rfl,hsz',rfl,hr,RepE.other hw s l vs B hs.2 hb2 h2⟩
   ·simp only [Nat.zero_mul,Nat.zero_add,Nat.zero_le,true_and,Nat.sub_zero];split
    ·rw [qh (by omega)]
    ·rw [List.getElem?_append_right (by omega),List.getElem?_append_right (by omega),hl,hl']
 |y::l,vals,O,j+1,e,h,hj=>by
  simp only [RepE]at h;obtain ⟨u0,vs,A,B,rfl,hsz0,rfl,h1,h2⟩:=h;obtain ⟨u,O1,Oe,O2,rfl,hr,hsz,hc,hle,hk⟩:=RepE.hole (j:=j) h2 (by simpa using hj);have hl:u0.cells.toList.length=s:=by simpa using hsz0
  refine ⟨u,A++O1,Oe,O2,by simp,hr,hsz,λi hi=>?_,by rw [List.length_append,hl,Nat.succ_mul];omega,λw' b e' u' Oe' hw hb1 hb2 hs hr' hsz'=>?_⟩
  ·rw [show (j+1)*s+i=s+(j*s+i) by rw [Nat.succ_mul];omega,List.getElem?_append_right (by omega),hl,Nat.add_sub_cancel_left];exact hc i hi
  ·simp only [List.set_cons_succ,softL,Bool.or_eq_false_iff]at hs;simp only [qk,not_or]at hb1;obtain ⟨vals',h3,h4,h5⟩:=hk w' b e' u' Oe' hw hb1.2 hb2 hs.2 hr' hsz';refine ⟨u0.cells.toList++vals',?_,by simp [h4],λi=>?_⟩
   ·simp only [List.set_cons_succ,RepE];exact ⟨u0,vals',A,O1++Oe'++O2,rfl,hsz0,by simp,Rep.other hw y u0 A hs.1 hb1.1 h1,h3⟩
   ·rw [Nat.succ_mul];by_cases hi:i<s
    ·rw [if_neg (by omega),qh (by omega),qh (by omega)]
    ·rw [List.getElem?_append_right (by omega),List.getElem?_append_right (by omega),h5 (i-u0.cells.toList.length),hl];by_cases h6:j*s<=i-s/\i-s<j*s+s
     ·rw [if_pos h6,if_pos (by omega)];congr 1;omega
     ·rw [if_neg h6,if_neg (by omega)]
theorem RepL.hole:∀{l:List V} {vals:List Value} {O:List Nat} (j:Nat) {z:V},RepL w X l vals O->l[j]?=some z ->
  ∃u O1 Oz O2,O=O1++Oz++O2/\Rep w X z u Oz/\vals[j]?=some u /\
   ∀(w':World) (b:Nat) (z':V) (Oz':List Nat),Wrote w X w' b->b∉O1->b∉O2->softL (l.set j z')=false->Rep w' X z' u Oz'->RepL w' X (l.set j z') vals (O1++Oz'++O2)
 |[],vals,O,j,z,h,hj=>by simp at hj
 |y::l,vals,O,0,z,h,hj=>by
  simp only [RepL]at h;obtain ⟨u,vs,A,B,rfl,rfl,h1,h2⟩:=h;simp at hj;subst hj;refine ⟨u,[],A,B,by simp,h1,by simp,λw' b z' Oz' hw hb1 hb2 hs hr=>?_⟩;simp only [List.set_cons_zero,softL,Bool.or_eq_false_iff]at hs;simp only [List.set_cons_zero,RepL,List.nil_append];exact ⟨u,vs,Oz',B,rfl,rfl,hr,RepL.other hw l vs B hs.2 hb2 h2⟩
 |y::l,vals,O,j+1,z,h,hj=>by
  simp only [RepL]at h;obtain ⟨u0,vs,A,B,rfl,rfl,h1,h2⟩:=h;obtain ⟨u,O1,Oz,O2,rfl,hr,hv,hk⟩:=RepL.hole (j:=j) h2 (by simpa using hj);refine ⟨u,A++O1,Oz,O2,by simp,hr,by simpa using hv,λw' b z' Oz' hw hb1 hb2 hs hr'=>?_⟩;simp only [List.set_cons_succ,softL,Bool.or_eq_false_iff]at hs;simp only [qk,not_or]at hb1;simp only [List.set_cons_succ,RepL];exact ⟨u0,vs,A,O1++Oz'++O2,rfl,by simp,Rep.other hw y u0 A hs.1 hb1.1 h1,hk w' b z' Oz' hw hb1.2 hb2 hs.2 hr'⟩
theorem qwG{c:V}(h:c.one=true):c.cells=[c]:=by cases c<;>first|rfl|(simp [V.one]at h)
theorem qoA{e:V}{cs:List V}(h:∃l,e=.agg l):qfs e cs=.agg cs:=by obtain ⟨l,rfl⟩:=h;rfl
theorem qtr{e:V}{cs:List V}(h:∀l,e≠.agg l):qfs e cs=cs.headD .undef:=by cases e<;>first|rfl|exact absurd rfl (h _)
theorem qoD{e:V}{cs:List V}{vals:List Value}{O:List Nat}(hlen:cs.length=e.cells.length)(hone:cs.all V.one=true)(h:RepL w X cs vals O) :
  ∃u,Rep w X (qfs e cs) u O/\u.cells.toList=vals/\(qfs e cs).cells=cs/\(qfs e cs).soft=softL cs/\(qfs e cs).qv=ptrsL cs/\(qfs e cs).oks=true:=by
 by_cases hx:∃l,e=.agg l
 ·rw [qoA hx];refine ⟨.agg vals.toArray,?_,by simp [Value.cells],rfl,by simp [V.soft],by simp [V.qv],by simpa [V.oks,V.cells]using hone⟩;simp only [Rep];exact ⟨vals,rfl,h⟩
 ·have hx':∀l,e≠.agg l:=λl e'=>hx ⟨l,e'⟩;rw [qb0 hx']at hlen;rw [qtr hx']
  match cs,hlen with
  |[c],_ =>
   simp only [List.all_cons,List.all_nil,Bool.and_true]at hone;simp only [RepL]at h;obtain ⟨u,vs,O1,O2,rfl,rfl,h1,rfl,rfl⟩:=h;refine ⟨u,by simpa using h1,by rw [qdg (qmb hone h1)],qwG hone,by simp [softL],by simp [ptrsL],?_⟩;show c.oks=true;unfold V.oks;rw [qwG hone];simp [hone]
def SlF(w:World):Value->Path->Value->Prop
 |v,[],u=>u=v
 |v,(j,o,s)::p,u=>∃b off len cap z,v=.slice (some ⟨b,off,none⟩) len cap/\j<len/\w.cell? ⟨b,off+j*s+o,none⟩=some z/\SlF w z p u
theorem SlF.snoc{j o s:Nat}{z:Value}{b off len cap:Nat}:∀{p:Path} {v:Value},SlF w v p (.slice (some ⟨b,off,none⟩) len cap)->j<len->w.cell? ⟨b,off+j*s+o,none⟩=some z->SlF w v (p++[(j,o,s)]) z
 |[],v,h,hj,hc=>by
  simp only [SlF]at h;subst h;exact ⟨b,off,len,cap,z,rfl,hj,hc,rfl⟩
 |(j1,o1,s1)::p,v,h,hj,hc=>by
  simp only [SlF]at h;obtain ⟨b1,off1,len1,cap1,z1,h1,h2,h3,h4⟩:=h;exact ⟨b1,off1,len1,cap1,z1,h1,h2,h3,SlF.snoc h4 hj hc⟩
theorem qoL{α:Type}{cs new:List α}{off:Nat}(h:off+new.length<=cs.length)(i:Nat):(cs.take off++new++cs.drop (off+new.length))[i]?=if off<=i/\i<off+new.length then new[i-off]? else cs[i]?:=by
 have h1:(cs.take off).length=off:=by simp<;>omega
 by_cases hi:i<off
 ·rw [if_neg (by omega),List.append_assoc,qh (by omega),List.getElem?_take,if_pos hi]
 ·by_cases hj:i<off+new.length
  ·rw [if_pos ⟨by omega,hj⟩,qh (by simp;omega),List.getElem?_append_right (by omega),h1]
  ·rw [if_neg (by omega),List.getElem?_append_right (by simp;omega),List.getElem?_drop];congr 1
   simp<;>omega
theorem quK{c:Bool}{l:List V}{v:Value}{O:List Nat}{j s:Nat}{e:V}(h:Rep w X (.sl .own c l) v O)(he:l[j]?=some e)(hs:e.cells.length=s) :
  ∃b off cap vals O',v=.slice (some ⟨b,off,none⟩) l.length cap/\O=b::O'/\l.length<=cap/\(c=true->cap=l.length)/\vals.length=l.length*s/\0<s/\(∀x∈l,x.cells.length=s)/\Seg w b off vals /\
   X.ω b=some (off+vals.length,false)/\qEp w b off cap s/\(vals.length=0->cap=0)/\RepE w X s l vals O'/\ptrsL l=[]:=by
 simp only [Rep]at h;obtain ⟨hnp,h⟩:=h;rcases h with ⟨rfl,_⟩|⟨b,off,cap,s',vals,O',hv,hcap,hc,hlen,hs0,hxs,hsg,⟨e1,fz,hω,hle,h1,h2,h3,h4⟩,hE,ho,_⟩
 ·simp at he
 ·have:s'=s:=by rw [<- hs];exact (hxs e (List.mem_of_getElem? he)).symm
  subst this;subst h1;exact ⟨b,off,cap,vals,O',hv,ho trivial,hcap,hc,hlen,hs0,hxs,hsg,by rw [hω,h2],h3,h4,hE,hnp⟩
theorem qrC{c:Bool}{l:List V}{j s b off cap:Nat}{e':V}{vals vals':List Value}{O'':List Nat}(hcap:l.length<=cap)(hc:c=true->cap=l.length)(hlen:vals.length=l.length*s)(hs0:0<s)(hxs:∀x∈l,x.cells.length=s)
  (hω:X.ω b=some (off+vals.length,false)) (h0:vals.length=0->cap=0) (hnp:ptrsL l=[]) (he:e'.cells.length=s) (hep:e'.qv=[]) (hlen':vals'.length=vals.length) (hsg:Seg w' b off vals') (hsp:qEp w' b off cap s) (hE:RepE w' X s (l.set j e') vals' O'') :
  Rep w' X (.sl .own c (l.set j e')) (.slice (some ⟨b,off,none⟩) l.length cap) (b::O''):=by
 simp only [Rep,List.length_set];refine ⟨?_,.inr ⟨b,off,cap,s,vals',O'',rfl,hcap,hc,by rw [hlen',hlen],hs0,?_,hsg,⟨off+vals.length,false,hω,by omega,rfl,by omega,hsp,λh=>h0 (by omega)⟩,hE,λ_=>rfl,λh=>absurd rfl h⟩⟩
 ·rw [List.eq_nil_iff_forall_not_mem];intro r hr;obtain ⟨x,hx,hr1⟩:=qM.1 hr;rcases List.mem_or_eq_of_mem_set hx with hx|rfl
  ·have:r∈ptrsL l:=qM.2 ⟨x,hx,hr1⟩;rw [hnp]at this;simp at this
  ·rw [hep]at hr1;simp at hr1
 ·intro x hx;rcases List.mem_or_eq_of_mem_set hx with hx|rfl
  ·exact hxs x hx
  ·exact he
theorem qfH{l:List V}(h:ptrsL l=[]){e:V}(he:e∈l):e.qv=[]:=by
 rw [List.eq_nil_iff_forall_not_mem];intro r hr;have:r∈ptrsL l:=qM.2 ⟨e,he,hr⟩;rw [h]at this;simp at this
theorem qpg{l:List V}(h:∀x∈l,x.qv=[]):ptrsL l=[]:=by
 rw [List.eq_nil_iff_forall_not_mem];intro r hr;obtain ⟨x,hx,hr⟩:=qM.1 hr;rw [h x hx]at hr;simp at hr
theorem qhW{e:V}(h:e.qv=[]):ptrsL e.cells=[]:=by
 cases e<;>simp_all [V.cells,V.qv,ptrsL]
theorem qEi{ys:List V}{yv:List Value}{Oy:List Nat}(hyr:RepL w X ys yv Oy)(hyone:ys.all V.one=true)(hyp:ptrsL ys=[]){j o s:Nat}:∀(p:Path) (x y:V) (v:Value) (O:List Nat) {b off len cap:Nat},
  qvp ys (p++[(j,o,s)]) x=some y->y.soft=false->Rep w X x v O->Lin (O++Oy)->SlF w v p (.slice (some ⟨b,off,none⟩) len cap) ->
  b∈O/\j<len/\(∃e,X.ω b=some (e,false))/\(∃arr ty,w.heap[b]?=some (.cells arr ty (0,0))/\off+j*s+o+ys.length<=arr.size)/\y.one=true/\y.qv=[] /\
  ∀w',Wrote w X w' b->(∀i,w'.cell? ⟨b,i,none⟩=if off+j*s+o<=i/\i<off+j*s+o+ys.length then yv[i-(off+j*s+o)]? else w.cell? ⟨b,i,none⟩) ->
   (∀c t,w.heap[b]?=some (.cells c t (0,0))->∃c',w'.heap[b]?=some (.cells c' t (0,0))/\c'.size=c.size)->∃O',Rep w' X y v O'/\∀k,O'.count k<=O.count k+Oy.count k
 |[],x,y,v,O,b,off,len,cap,hu,hsoft,hr,hlin,hsl=>by
  simp only [List.nil_append]at hu;simp only [SlF]at hsl;unfold qvp at hu;split at hu
  ·rename_i heq;cases heq
  ·rename_i j' o' s' p' c l heq;simp only [List.cons.injEq,Prod.mk.injEq]at heq;obtain ⟨⟨rfl,rfl,rfl⟩,rfl⟩:=heq;split at hu
   ·rename_i e he;split at hu
    ·rename_i hck;obtain ⟨hes,hok⟩:=hck;simp only at hu;split at hu
     ·rename_i hle;simp only [qb]at hu;subst hu;obtain ⟨b1,off1,cap1,vals,O1,rfl,rfl,hcap,hc,hlen,hs0,hxs,hsg,hω,hsp,h0,hE,hnp⟩:=quK hr he hes;cases hsl;obtain ⟨u,A,Oe,B,rfl,hre,husz,hval,hjle,hclose⟩:=RepE.hole j hE he;obtain ⟨hcells,_⟩:=qfb hok hre;have hjl:j<l.length:=(qn.1 he).1;have hul:u.cells.toList.length=s:=by simpa using husz
      have hyl:yv.length=ys.length:=(qQ _ _ _ hyr).symm;have hbig:off+j*s+o+ys.length<=off+cap*s:=by
       have:(j+1)*s<=cap*s:=Nat.mul_le_mul_right s (by omega);rw [Nat.succ_mul]at this;omega
      obtain ⟨arr,ty,harr,hsize⟩:=hsp;have hone:(qV e.cells o ys).all V.one=true:=by
       rw [List.all_eq_true];intro z hz;unfold qV at hz;simp only [qk]at hz;have hok':∀z∈e.cells,z.one=true:=List.all_eq_true.1 hok;rcases hz with (hz|hz)|hz
       ·exact hok' z (List.mem_of_mem_take hz)
       ·exact List.all_eq_true.1 hyone z hz
       ·exact hok' z (List.mem_of_mem_drop hz)
      have hlen2:(qV e.cells o ys).length=e.cells.length:=qcW (by omega);have hep:∀z∈qV e.cells o ys,z.qv=[]:=by
       intro z hz;have hecp:=qhW (qfH hnp (List.mem_of_getElem? he));unfold qV at hz;simp only [qk]at hz;rcases hz with (hz|hz)|hz
       ·exact qfH hecp (List.mem_of_mem_take hz)
       ·exact qfH hyp hz
       ·exact qfH hecp (List.mem_of_mem_drop hz)
      refine ⟨by simp,hjl,⟨_,hω⟩,⟨arr,ty,harr,by omega⟩,rfl,by simp [V.qv],λw' hw hcell hobj=>?_⟩;obtain ⟨Ob,hspl,hcnt⟩:=qma (off:=o) hcells hyr;have hsoft2:softL (l.set j (qfs e (qV e.cells o ys)))=false:=by
       simp only [V.soft,Bool.or_eq_false_iff]at hsoft;exact hsoft.2
      have hlt:j<(l.set j (qfs e (qV e.cells o ys))).length:=by simpa using hjl
      have hbO:∀k,(b::(A++Oe++B)++Oy).count k<=1:=hlin;have hb1:=hbO b;simp only [List.cons_append,List.count_cons_self,List.count_append]at hb1;have hbOb:b∉Ob:=λhm=>by
       have:=hcnt b;have:=List.count_pos_iff.2 hm;omega
      obtain ⟨u0,hu0,_,_,hsf,_⟩:=qoD (e:=e) hlen2 hone hspl;have hcs:softL (qV e.cells o ys)=false:=by
       rw [<- hsf];exact qnD hsoft2 _ (List.mem_of_getElem? (by rw [List.getElem?_set_self hjl]))
      have hspl':=RepL.other hw _ _ _ hcs hbOb hspl;obtain ⟨u',hu',hu'c,hrc,_,hrp,_⟩:=qoD (e:=e) hlen2 hone hspl';obtain ⟨vals',hE',hl',hget⟩:=hclose w' b _ u' Ob hw (λhm=>by have:=List.count_pos_iff.2 hm;omega) (λhm=>by have:=List.count_pos_iff.2 hm;omega) hsoft2 hu' (by
       have:u'.cells.toList.length=s:=by rw [hu'c];simp<;>omega
       simpa using this)
      refine ⟨b::(A++Ob++B),qrC hcap hc hlen hs0 hxs hω h0 hnp (by rw [hrc,hlen2,hes]) (by rw [hrp];exact qpg hep) hl' ?_ ?_ hE',λk=>?_⟩
      ·intro i z hz;rw [hget i]at hz;rw [hcell (off+i)];by_cases hi:j*s<=i/\i<j*s+s
       ·rw [if_pos hi,hu'c,qoL (by omega)]at hz;by_cases hi2:o<=i-j*s/\i-j*s<o+yv.length
        ·rw [if_pos hi2]at hz;rw [if_pos (by omega)];rw [<- hz];congr 1;omega
        ·rw [if_neg hi2]at hz;rw [if_neg (by omega)];refine hsg i z ?_;have:=hval (i-j*s) (by omega);rw [show j*s+(i-j*s)=i by omega]at this;rw [this];exact hz
       ·rw [if_neg hi]at hz;rw [if_neg (by omega)];exact hsg i z hz
      ·obtain ⟨c',hc1,hc2⟩:=hobj arr ty harr;exact ⟨c',ty,hc1,by omega⟩
      ·have:=hcnt k;simp only [List.count_cons,List.count_append]at this ⊢;omega
     ·cases hu
    ·cases hu
   ·cases hu
  ·cases hu
 |(j1,o1,s1)::p,x,y,v,O,b,off,len,cap,hu,hsoft,hr,hlin,hsl=>by
  obtain ⟨q,qs,hq⟩:∃q qs,p++[(j,o,s)]=q::qs:=by
   cases p with
   |nil=>exact ⟨_,_,rfl⟩
   |cons a p=>exact ⟨_,_,rfl⟩
  simp only [List.cons_append]at hu;unfold qvp at hu;split at hu
  ·rename_i heq;cases heq
  ·rename_i j' o' s' p' c l heq;simp only [List.cons.injEq,Prod.mk.injEq]at heq;obtain ⟨⟨rfl,rfl,rfl⟩,rfl⟩:=heq;split at hu
   ·rename_i e he;split at hu
    ·rename_i hck;obtain ⟨hes,hok⟩:=hck;split at hu
     ·rename_i hnil;rw [hq]at hnil;cases hnil
     ·split at hu
      ·rename_i z hz;obtain ⟨z',hz',rfl⟩:=qc.1 hu;obtain ⟨b1,off1,cap1,vals,O1,rfl,rfl,hcap,hc,hlen,hs0,hxs,hsg,hω,hsp,h0,hE,hnp⟩:=quK hr he hes;obtain ⟨u,A,Oe,B,rfl,hre,husz,hval,hjle,hclose⟩:=RepE.hole j1 hE he;obtain ⟨hcells,_⟩:=qfb hok hre;have hjl:j1<l.length:=(qn.1 he).1;have hul:u.cells.toList.length=s1:=by simpa using husz
       obtain ⟨uz,A2,Oz,B2,rfl,hrz,huz,hclose2⟩:=RepL.hole o1 hcells hz;have ho1:o1<s1:=by rw [<- hul];exact (qn.1 huz).1
       simp only [SlF]at hsl;obtain ⟨b2,off2,len2,cap2,zz,heq,hj2,hc2,hsl2⟩:=hsl;cases heq;have hcell1:w.cell? ⟨b1,off1+j1*s1+o1,none⟩=some uz:=by
        rw [Nat.add_assoc];exact hsg _ _ (by rw [hval o1 ho1];exact huz)
       rw [hcell1]at hc2;cases hc2;have hsoft2:softL (l.set j1 (qfs e (e.cells.set o1 z')))=false:=by
        simp only [V.soft,Bool.or_eq_false_iff]at hsoft;exact hsoft.2
       have hbO:∀k,(b1::(A++(A2++Oz++B2)++B)++Oy).count k<=1:=hlin;have hoz:o1<e.cells.length:=(qn.1 hz).1
       have hstep:∀(hz's:z'.soft=false),_:=λhz's=>qEi hyr hyone hyp p z z' uz Oz (b:=b) (off:=off) (len:=len) (cap:=cap) hz' hz's hrz (λk=>by
        have:=hbO k;simp only [List.cons_append,List.count_cons,List.count_append]at this ⊢;omega) hsl2
       have hz's:z'.soft=false:=by
        have h1:(qfs e (e.cells.set o1 z')).soft=false:=qnD hsoft2 _ (List.mem_of_getElem? (by rw [List.getElem?_set_self hjl]));have hm:z'∈e.cells.set o1 z':=List.mem_of_getElem? (i:=o1) (by rw [List.getElem?_set_self hoz]);by_cases hx:∃l0,e=.agg l0
        ·rw [qoA hx]at h1;simp only [V.soft]at h1;exact qnD h1 _ hm
        ·have hx':∀l0,e≠.agg l0:=λl0 e'=>hx ⟨l0,e'⟩;rw [qtr hx']at h1;rw [qb0 hx']at h1 hoz;have:o1=0:=by simpa using hoz
         subst this;simpa using h1
       obtain ⟨hbz,hjlen,hωb,harr,hone',hptr',hk⟩:=hstep hz's;have hbc:=hbO b;have hbpos:=List.count_pos_iff.2 hbz;simp only [List.cons_append,List.count_cons,List.count_append]at hbc;have hbne:b≠b1:=λe'=>by subst e';simp at hbc;omega
       refine ⟨by simp [hbz],hjlen,hωb,harr,rfl,by simp [V.qv],λw' hw hcell hobj=>?_⟩;obtain ⟨Oz',hrz',hcnt⟩:=hk w' hw hcell hobj;have hone:(e.cells.set o1 z').all V.one=true:=by
        rw [List.all_eq_true];intro y hy;rcases List.mem_or_eq_of_mem_set hy with hy|rfl
        ·exact List.all_eq_true.1 hok y hy
        ·exact hone'
       have hcs:softL (e.cells.set o1 z')=false:=by
        have h1:(qfs e (e.cells.set o1 z')).soft=false:=qnD hsoft2 _ (List.mem_of_getElem? (by rw [List.getElem?_set_self hjl]));by_cases hx:∃l0,e=.agg l0
        ·rw [qoA hx]at h1;simpa only [V.soft]using h1
        ·have hx':∀l0,e≠.agg l0:=λl0 e'=>hx ⟨l0,e'⟩;rw [qb0 hx']at hoz ⊢;have:o1=0:=by simpa using hoz
         subst this;simp [softL,hz's]
       have hcl:=hclose2 w' b z' Oz' hw (λhm=>by have:=List.count_pos_iff.2 hm;omega) (λhm=>by have:=List.count_pos_iff.2 hm;omega) hcs hrz';obtain ⟨u',hu',hu'c,hrc,_,hrp,_⟩:=qoD (e:=e) (by simp) hone hcl;obtain ⟨vals',hE',hl',hget⟩:=hclose w' b _ u' _ hw (λhm=>by have:=List.count_pos_iff.2 hm;omega) (λhm=>by have:=List.count_pos_iff.2 hm;omega) hsoft2 hu' (by
        have:u'.cells.toList.length=s1:=by rw [hu'c];exact hul
        simpa using this)
       have hvals:∀i:Nat,vals'[i]?=vals[i]?:=λi=>by
        rw [hget i];split
        ·rename_i hi;rw [hu'c];have:=hval (i-j1*s1) (by omega);rw [show j1*s1+(i-j1*s1)=i by omega]at this;exact this.symm
        ·rfl
       have hepc:=qhW (qfH hnp (List.mem_of_getElem? he));refine ⟨b1::(A++(A2++Oz'++B2)++B),qrC hcap hc hlen hs0 hxs hω h0 hnp (by rw [hrc];simpa using hes) (by
        rw [hrp];refine qpg λy hy=>?_;rcases List.mem_or_eq_of_mem_set hy with hy|rfl
        ·exact qfH hepc hy
        ·exact hptr') hl' ?_ ?_ hE',λk=>?_⟩
       ·intro i y hy;rw [hvals i]at hy;rw [cell_of_heap (hw.kept b1 (Ne.symm hbne))];exact hsg i y hy
       ·obtain ⟨arr1,ty1,ha1,ha2⟩:=hsp;exact ⟨arr1,ty1,by rw [hw.kept b1 (Ne.symm hbne)];exact ha1,ha2⟩
       ·have:=hcnt k;simp only [List.count_cons,List.count_append]at this ⊢;omega
      ·cases hu
    ·cases hu
   ·cases hu
  ·cases hu
end
section
variable {P:Program} {H:Hints} {f:FuncId} {w w':World} {X:Cx}
theorem qBe{st':St}{tmps:Array Value}{Ob:Pl->List Nat}(hsize:tmps.size=st'.E.length)
  (henv:∀t x,st'.E[t]?=some x->∃v,tmps[t]?=some v/\∃A,Rep w' X x v A/\∀k,A.count k<=(Ob (.tmp t)).count k)
  (hbox:∀r c,st'.box r=some c->∃b,X.β r=some b/\b<w'.heap.size/\X.ω b=none/\∃A,qsH w' X b c A/\∀k,A.count k<=(Ob (.box r)).count k)
  (inj:∀r r' b,(st'.box r).isSome=true->(st'.box r').isSome=true->X.β r=some b->X.β r'=some b->r=r') (hlin:∀p,Lin (Ob p)) (hdis:∀p q,p≠q->∀b∈Ob p,b∉Ob q)
  (ptrE:∀r∈ptrsL st'.E,(st'.box r).isSome=true) (ptrB:∀r c,st'.box r=some c->∀r'∈ptrsL c,(st'.box r').isSome=true) (up:∀r c,st'.box r=some c->∀r'∈ptrsL c,r'.lvl<=r.lvl) (dom:Dom w' X) :
  ∃O',Rel st' tmps w' X O'/\∀p k,(O' p).count k<=(Ob p).count k:=by
 have key:∀p:Pl,∃A:List Nat,(∀k,A.count k<=(Ob p).count k)/\(match p with
   |.tmp t=>(∀x,st'.E[t]?=some x->∃v,tmps[t]?=some v/\Rep w' X x v A)/\(st'.E[t]?=none->A=[])
   |.box r=>(∀c,st'.box r=some c->∃b,X.β r=some b/\b<w'.heap.size/\X.ω b=none/\qsH w' X b c A)/\(st'.box r=none->A=[])):=by
  intro p;cases p with
  |tmp t =>
   cases hx:st'.E[t]? with
   |none=>exact ⟨[],by simp,And.intro (λx hx'=>by rw [hx]at hx';cases hx') (λ_=>rfl)⟩
   |some x =>
    obtain ⟨v,hv,A,hr,hc⟩:=henv t x hx;exact ⟨A,hc,And.intro (λy hy=>by rw [hx]at hy;cases hy;exact ⟨v,hv,hr⟩) (λh=>by rw [hx]at h;cases h)⟩
  |box r =>
   cases hx:st'.box r with
   |none=>exact ⟨[],by simp,And.intro (λx hx'=>by rw [hx]at hx';cases hx') (λ_=>rfl)⟩
   |some c =>
    obtain ⟨b,h1,h2,h3,A,h4,hc⟩:=hbox r c hx;exact ⟨A,hc,And.intro (λy hy=>by rw [hx]at hy;cases hy;exact ⟨b,h1,h2,h3,h4⟩) (λh=>by rw [hx]at h;cases h)⟩
 obtain ⟨O',hO'⟩:=Classical.axiomOfChoice key;have hR:Rel st' tmps w' X O':={
  size:=hsize
  env:=λt x hx=>(hO' (.tmp t)).2.1 x hx
  envD:=λt ht=>(hO' (.tmp t)).2.2 (List.getElem?_eq_none ht)
  box:=λr c hr=>(hO' (.box r)).2.1 c hr
  boxD:=λr hr=>(hO' (.box r)).2.2 hr
  inj:=inj
  lin:=λp k=>Nat.le_trans ((hO' p).1 k) (hlin p k)
  dis:=λp q hpq b hb hq=>hdis p q hpq b (List.count_pos_iff.1 (Nat.lt_of_lt_of_le (List.count_pos_iff.2 hb) ((hO' p).1 b))) (List.count_pos_iff.1 (Nat.lt_of_lt_of_le (List.count_pos_iff.2 hq) ((hO' q).1 b)))
  ptrE:=ptrE
  ptrB:=ptrB
  up:=up
  dom:=dom}
 exact ⟨O',hR,λp k=>(hO' p).1 k⟩
theorem quW{b:Nat}(h:Wrote w X w' b){x:V}{v:Value}{O:List Nat}(hb:b∉O)(hr:Rep w X x v O):∃A,Rep w' X x.qf5 v A/\∀k,A.count k<=O.count k:=by
 unfold V.qf5;cases hs:x.soft with
 |true=>exact ⟨[],by simp [Rep],by simp⟩
 |false=>exact ⟨O,by simpa using Rep.other h x v O hs hb hr,λ_=>Nat.le_refl _⟩
theorem qrU{b:Nat}(h:Wrote w X w' b):∀{l:List V} {vals:List Value} {O:List Nat},b∉O->RepL w X l vals O->∃A,RepL w' X (l.map V.qf5) vals A/\∀k,A.count k<=O.count k
 |[],vals,O,hb,hr=>⟨[],by simp only [RepL]at hr;simp [RepL,hr.1],by simp⟩
 |x::l,vals,O,hb,hr=>by
  simp only [RepL]at hr;obtain ⟨u,vs,O1,O2,rfl,rfl,h1,h2⟩:=hr;simp only [qk,not_or]at hb;obtain ⟨A,h3,h4⟩:=quW h hb.1 h1;obtain ⟨B,h5,h6⟩:=qrU h hb.2 h2;refine ⟨A++B,by simp only [qi,RepL];exact ⟨u,vs,A,B,rfl,rfl,h3,h5⟩,λk=>?_⟩;have:=h4 k;have:=h6 k;simp only [List.count_append]<;>omega
theorem qnr:∀{l:List V} {vals:List Value} {O:List Nat} (j:Nat) {z:V},RepL w X l vals O->l[j]?=some z ->
  ∃u O1 Oz O2,O=O1++Oz++O2/\Rep w X z u Oz/\vals[j]?=some u /\
   ∀(w':World) (b:Nat) (z':V) (Oz':List Nat),Wrote w X w' b->b∉O1->b∉O2->Rep w' X z' u Oz'->∃A,RepL w' X ((l.map V.qf5).set j z') vals A/\∀k,A.count k<=O1.count k+Oz'.count k+O2.count k
 |[],vals,O,j,z,h,hj=>by simp at hj
 |y::l,vals,O,0,z,h,hj=>by
  simp only [RepL]at h;obtain ⟨u,vs,A,B,rfl,rfl,h1,h2⟩:=h;simp at hj;subst hj;refine ⟨u,[],A,B,by simp,h1,by simp,λw' b z' Oz' hw hb1 hb2 hr=>?_⟩;obtain ⟨C,h3,h4⟩:=qrU hw hb2 h2;refine ⟨Oz'++C,by simp only [qi,List.set_cons_zero,RepL];exact ⟨u,vs,Oz',C,rfl,rfl,hr,h3⟩,λk=>?_⟩;have:=h4 k;simp only [List.count_append,List.count_nil]<;>omega
 |y::l,vals,O,j+1,z,h,hj=>by
  simp only [RepL]at h;obtain ⟨u0,vs,A,B,rfl,rfl,h1,h2⟩:=h;obtain ⟨u,O1,Oz,O2,rfl,hr,hv,hk⟩:=qnr (j:=j) h2 (by simpa using hj);refine ⟨u,A++O1,Oz,O2,by simp,hr,by simpa using hv,λw' b z' Oz' hw hb1 hb2 hr'=>?_⟩;simp only [qk,not_or]at hb1;obtain ⟨C,h3,h4⟩:=hk w' b z' Oz' hw hb1.2 hb2 hr';obtain ⟨D,h5,h6⟩:=quW hw hb1.1 h1;refine ⟨D++C,by simp only [qi,List.set_cons_succ,RepL];exact ⟨u0,vs,D,C,rfl,rfl,h5,h3⟩,λk=>?_⟩;have:=h4 k;have:=h6 k;simp only [List.count_append]<;>omega
theorem qv4{x:V}{r:Root}(h:r∈x.qf5.qv):r∈x.qv:=by
 unfold V.qf5 at h;split at h
 ·simp [V.qv]at h
 ·exact h
theorem qn3{l:List V}{r:Root}(h:r∈ptrsL (l.map V.qf5)):r∈ptrsL l:=by
 obtain ⟨x,hx,hr⟩:=qM.1 h;obtain ⟨y,hy,rfl⟩:=List.mem_map.1 hx;exact qM.2 ⟨y,hy,qv4 hr⟩
theorem qdK(s:Nat):∀B:Level,qz (qmE B) s=(qz B s).map (List.map V.qf5)
 |[]=>rfl
 |(k,c)::B=>by
  simp only [qmE,qi,qz];split
  ·rfl
  ·exact qdK s B
theorem qs9{s:Nat}{c:List V}:∀{B:Level},qwA B=true->qz B s=some c->qg3 c=false
 |[],_,h=>by simp [qz]at h
 |(k,c')::B,hn,h=>by
  simp only [qwA,List.all_cons,qe,Bool.not_eq_true']at hn;simp only [qz]at h;split at h
  ·cases h;exact hn.1
  ·exact qs9 hn.2 h
def qlz(w:World)(X:Cx)(tmps:Array Value):Rt->Value->Prop
 |.tmp r,v=>tmps.getD r undef=v
 |.box q off,v=>∃b,X.β q=some b/\w.cell? ⟨b,off,none⟩=some v
def qJh(w:World)(v0:Value):Path->Nat->Nat->Prop
 |[],_,_=>False
 |(j,o,s)::p,b,k=>∃off len cap,SlF w v0 p.reverse (.slice (some ⟨b,off,none⟩) len cap)/\j<len/\k=off+j*s+o
def rowAt(arr:Array Value)(k:Nat)(yv:List Value):Array Value:=(arr.toList.take k++yv++arr.toList.drop (k+yv.length)).toArray
theorem qxj{b k:Nat}{arr:Array Value}{ty:TypeId}{yv:List Value}(hω:∃e,X.ω b=some (e,false))(ha:w.heap[b]?=some (.cells arr ty (0,0)))(hle:k+yv.length<=arr.size) :
  Wrote w X (w.setRow b (rowAt arr k yv)) b/\(∀i,(w.setRow b (rowAt arr k yv)).cell? ⟨b,i,none⟩=if k<=i/\i<k+yv.length then yv[i-k]? else w.cell? ⟨b,i,none⟩) /\
   (∀c t,w.heap[b]?=some (.cells c t (0,0))->∃c',(w.setRow b (rowAt arr k yv)).heap[b]?=some (.cells c' t (0,0))/\c'.size=c.size):=by
 have hset:=setRow_heap w b arr (rowAt arr k yv) ty (0,0) ha;refine ⟨⟨hω,λk' hk'=>setRow_other w b k' _ hk'⟩,λi=>?_,λc t hc=>?_⟩
 ·simp only [World.cell?,hset,ha];have h1:(rowAt arr k yv)[i]?=(rowAt arr k yv).toList[i]?:=by simp
  have h2:arr[i]?=arr.toList[i]?:=by simp
  simp only [h1,h2];unfold rowAt;exact qoL (by simpa using hle) i
 ·rw [ha]at hc;cases hc;refine ⟨_,hset,?_⟩;unfold rowAt;simp<;>omega
theorem qke{a:Nat×Nat×Nat}{p:Path}:(a::p).reverse=p.reverse++[a]:=by simp
theorem qE7{w0:World}{X0:Cx}{Md:Md}{n:Nat}{st st':St}{D:List Deferred}{tmps:Array Value}{O:Pl->List Nat}(h:Rel st tmps w X O)(hF:Fr w0 X0 Md n st w X O)(hz:n=0->∀b e fz,X0.ω b=some (e,fz)->fz=true)(hM:qfX w0 w X D)(hL:st.L=[]){b:Nat}
  (hw:Wrote w X w' b) (hbO:∃p,b∈O p) (hsz:w'.heap.size=w.heap.size) (hos:w'.os=w.os) (hout:w'.output=w.output) (htape:w'.tape=w.tape)
  {Ob:Pl->List Nat} (hOb:∀p k,k∈Ob p->∃q,k∈O q) {O':Pl->List Nat} (hO':∀p k,(O' p).count k<=(Ob p).count k) (hL':st'.L=[]) (hlive:∀r,(st'.box r).map qaE=(st.box r).map qaE) :
  Fr w0 X0 Md n st' w' X O'/\qfX w0 w' X D:=by
 obtain ⟨p0,hp0⟩:=hbO;obtain ⟨e0,hω⟩:=hw.ω;have hn:n=0:=by rw [<- hF.lev,hL];rfl
 refine ⟨{gl:=hF.gl,gm:=hF.gm,size:=by rw [hsz];exact hF.size,kept:=?_,grew:=?_,β:=hF.β,own:=?_,boxM:=?_,lev:=by rw [hL',hn];rfl,live:=?_,os:=by rw [hos,hF.os],out:=by rw [hout,hF.out],tape:=by rw [htape,hF.tape]},?_⟩
 ·intro k hk hMk;obtain ⟨h1,h2⟩:=hF.kept k hk hMk;refine ⟨?_,h2⟩;by_cases hkb:k=b
  ·subst hkb;rcases hF.own p0 k hp0 with h3|h3
   ·omega
   ·exact absurd h3 hMk
  ·rw [hw.kept k hkb,h1]
 ·intro k e fz hω0;obtain ⟨e1,fz1,h1,h2,h3,h4⟩:=hF.grew k e fz hω0;refine ⟨e1,fz1,h1,h2,h3,λi v hi hc=>?_⟩;by_cases hkb:k=b
  ·subst hkb;have:=h3 (hz hn _ _ _ hω0);rw [hω]at h1;cases h1;cases this
  ·rw [cell_of_heap (hw.kept k hkb)];exact h4 i v hi hc
 ·intro p k hk;obtain ⟨q,hq⟩:=hOb p k (List.count_pos_iff.1 (Nat.lt_of_lt_of_le (List.count_pos_iff.2 hk) (hO' p k)));exact hF.own q k hq
 ·intro r k hr hb;refine hF.boxM r k ?_ hb;have:=congrArg Option.isSome (hlive r);simpa [hr]using this.symm
 ·intro r hr;rw [hlive];exact hF.live r hr
 ·exact hM.of λk hk hωk _=>⟨hw.kept k (λe=>by subst e;rw [hω]at hωk;cases hωk),rfl⟩
theorem qgq{st:St}(hL:st.L=[])(r:Root):st.box r=if r.lvl=0 then qz st.B r.slot else none:=by
 unfold St.box;simp [hL]
theorem qii(s s':Nat)(c:List V):∀B:Level,qz (qgu B s c) s'=if s'=s then (qz B s).map (λ_=>c)else qz B s'
 |[]=>by simp [qgu,qz]
 |(k,d)::B=>by
  simp only [qgu];by_cases h1:k=s
  ·subst h1;simp only [if_true,qz];by_cases h2:s'=k
   ·simp [h2]
   ·simp [h2,Ne.symm h2]
  ·simp only [h1,if_false,qz];rw [qii s s' c B];by_cases h2:s'=s
   ·subst h2;simp [h1]
   ·by_cases h3:k=s'
    ·simp [h3,h2]
    ·simp [h3,h2]
theorem qwc{c:List V}(h:qaE c=false):qaE (c.map V.qf5)=false:=by
 match c with
 |[]=>rfl
 |x::l =>
  simp only [qi];unfold V.qf5;split
  ·rfl
  ·cases x<;>first|rfl|(simp [qaE]at h)
theorem qo8{s:Nat}{c:List V}:∀{B:Level},qi1 B=true->qz B s=some c->qaE c=false
 |[],_,h=>by simp [qz]at h
 |(k,c')::B,hn,h=>by
  simp only [qi1,List.all_cons,qe,Bool.not_eq_true']at hn;simp only [qz]at h;split at h
  ·cases h;exact hn.1
  ·exact qo8 hn.2 h
theorem qwz{B:Level}(h:qwA B=true):qi1 B=true:=by
 unfold qwA at h;unfold qi1;rw [List.all_eq_true]at h ⊢;intro p hp;have:=h p hp;simp only [Bool.not_eq_true']at this ⊢;exact qjN this
theorem quw{w0:World}{X0:Cx}{Md:Md}{n:Nat}{st st':St}{D:List Deferred}{tmps:Array Value}{O:Pl->List Nat}(h:Rel st tmps w X O)(hF:Fr w0 X0 Md n st w X O)(hz:n=0->∀b e fz,X0.ω b=some (e,fz)->fz=true)(hM:qfX w0 w X D)(hL:st.L=[])(hnl:qi1 st.B=true)
  {b:Nat} (hw:Wrote w X w' b) (hsz:w'.heap.size=w.heap.size) (hos:w'.os=w.os) (hout:w'.output=w.output) (htape:w'.tape=w.tape)
  {T:List Tmp} {Ox:List Nat} (hin:∀k∈Ox,∃t∈T,k∈O (.tmp t)) (hlx:Lin Ox) {pl:Pl} (hpl:∀t∈T,pl≠.tmp t) (hb:b∈O pl) (hlen:st'.E.length=st.E.length) (hL':st'.L=[])
  (henv:∀t x',st'.E[t]?=some x'->(pl≠.tmp t/\∃x0,(qG st.E T)[t]?=some x0/\x'=x0.qf5)\/(pl=.tmp t/\x'.qv=[]/\∃v,tmps[t]?=some v/\∃A,Rep w' X x' v A/\∀k,A.count k<=(O pl).count k+Ox.count k))
  (hbs:∀q,(st'.box q).isSome=(st.box q).isSome)
  (hbox:∀q c',st'.box q=some c'->∃c,st.box q=some c/\((pl≠.box q/\c'=c.map V.qf5)\/(pl=.box q/\(qg3 c=false/\qg3 c'=false)/\(∀r∈ptrsL c',r∈ptrsL c)/\∀arr:List Value,RepL w X c arr (O (.box q))->(∀bq,X.β q=some bq->∀i,w.cell? ⟨bq,i,none⟩=arr[i]?)->∃A,RepL w' X c' arr A/\∀k,A.count k<=(O pl).count k+Ox.count k))) :
  ∃O',Rel st' tmps w' X O'/\Fr w0 X0 Md n st' w' X O'/\qfX w0 w' X D:=by
 have h1:=h.taken T;generalize hO1:ql5 O T none st.E.length []=O1 at h1;have hO1':∀p k,k∈O1 p->k∈O p/\∀t∈T,p≠.tmp t:=λp k hk=>by
  rw [<- hO1]at hk;cases p with
  |tmp t =>
   simp only [ql5]at hk;rw [if_neg (by simp)]at hk;split at hk
   ·simp at hk
   ·rename_i hn;exact ⟨hk,λt' ht' e=>hn (by cases e;exact ht')⟩
  |box r=>exact ⟨hk,λt' _ e=>by cases e⟩
 have hO1c:∀p k,(O1 p).count k<=(O p).count k:=λp k=>by
  rw [<- hO1];cases p with
  |tmp t =>
   simp only [ql5];rw [if_neg (by simp)];split
   ·simp
   ·exact Nat.le_refl _
  |box r=>exact Nat.le_refl _
 have hbn:∀p,p≠pl->b∉O1 p:=λp hp hk=>h.dis p pl hp b (hO1' p b hk).1 hb;have hxpl:∀k∈Ox,k∉O pl:=λk hk hkp=>by
  obtain ⟨t,ht,hkt⟩:=hin k hk;exact h.dis pl (.tmp t) (hpl t ht) k hkp hkt
 have hx1:∀k∈Ox,∀p,k∉O1 p:=λk hk p hkp=>by
  obtain ⟨t,ht,hkt⟩:=hin k hk;obtain ⟨h2,h3⟩:=hO1' p k hkp;exact h.dis p (.tmp t) (h3 t ht) k h2 hkt
 have hlpB:∀q c,st.box q=some c->qaE c=false:=λq c hq=>by
  rw [qgq hL]at hq;split at hq
  ·exact qo8 hnl hq
  ·cases hq
 have hrel:=qBe (w':=w') (X:=X) (tmps:=tmps) (st':=st') (Ob:=λp=>if p=pl then O pl++Ox else O1 p) (by rw [hlen];exact h.size) ?_ ?_ ?_ ?_ ?_ ?_ ?_ ?_ ?_
 ·obtain ⟨O',hR,hc⟩:=hrel;obtain ⟨hF',hM'⟩:=qE7 (st':=st') (O':=O') h hF hz hM hL hw ⟨pl,hb⟩ hsz hos hout htape (Ob:=λp=>if p=pl then O pl++Ox else O1 p) (λp k hk=>by
   by_cases hp:p=pl
   ·simp only [hp,if_true,qk]at hk;rcases hk with hk|hk
    ·exact ⟨pl,hk⟩
    ·obtain ⟨t,_,hkt⟩:=hin k hk;exact ⟨_,hkt⟩
   ·simp only [hp,if_false]at hk;exact ⟨p,(hO1' p k hk).1⟩) hc hL' (λq=>by
   cases hq:st.box q with
   |none =>
    have:=hbs q;rw [hq]at this;cases hq':st'.box q with
    |none=>rfl
    |some c=>rw [hq']at this;simp at this
   |some c =>
    have:=hbs q;rw [hq]at this;obtain ⟨c',hc'⟩:=Option.isSome_iff_exists.1 (by simpa using this:(st'.box q).isSome=true);obtain ⟨c2,h2,h3⟩:=hbox q c' hc';rw [hq]at h2;cases h2;rw [hc',qj,qj,hlpB q c hq];rcases h3 with ⟨_,rfl⟩|⟨_,h3,_⟩
    ·rw [qwc (hlpB q c hq)]
    ·rw [qjN h3.2])
  exact ⟨O',hR,hF',hM'⟩
 ·intro t x' hx';rcases henv t x' hx' with ⟨hne,x0,h2,rfl⟩|⟨rfl,_,v,hv,A,hr,hA⟩
  ·obtain ⟨v,hv,hr⟩:=h1.env t x0 h2;obtain ⟨A,h3,h4⟩:=quW hw (hbn _ (Ne.symm hne)) hr;exact ⟨v,hv,A,h3,by simpa [Ne.symm hne]using h4⟩
  ·exact ⟨v,hv,A,hr,λk=>by have:=hA k;simp only [if_true,List.count_append];exact this⟩
 ·intro q c' hq;obtain ⟨c,hc,hcase⟩:=hbox q c' hq;obtain ⟨bq,hβ,hlt,hω,hbx⟩:=h.box q c hc;obtain ⟨e0,hω0⟩:=hw.ω;have hne:bq≠b:=λe=>by subst e;rw [hω0]at hω;cases hω
  refine ⟨bq,hβ,by omega,hω,?_⟩;rcases hcase with ⟨hp,rfl⟩|⟨rfl,hlps,_,hk⟩
  ·rcases hbx with ⟨arr,ty,harr,hl⟩|⟨s,pe,g,env,ps,asg,body,lo,rfl,_⟩|⟨es,ents,clock,rfl,hm1,hm2,hm3⟩
   rotate_left
   ·have:=hlpB q _ hc;simp [qaE]at this
   ·exact ⟨[],.inr (.inr ⟨es,ents,clock,rfl,by rw [hw.kept bq hne];exact hm1,hm2,rfl⟩),by simp⟩
   obtain ⟨A,h3,h4⟩:=qrU hw (λhm=>h.dis (.box q) pl (Ne.symm hp) b hm hb) hl;refine ⟨A,.inl ⟨arr,ty,by rw [hw.kept bq hne];exact harr,h3⟩,λk=>?_⟩;rw [if_neg (Ne.symm hp),<- hO1];exact h4 k
  ·obtain ⟨arr,ty,harr,hl⟩:=hbx.cells hlps.1;obtain ⟨A,h3,h4⟩:=hk arr.toList hl (λbq' hβ' i=>by rw [hβ]at hβ';cases hβ';simp [World.cell?,harr]);refine ⟨A,.inl ⟨arr,ty,by rw [hw.kept bq hne];exact harr,h3⟩,λk=>?_⟩;have:=h4 k;simp only [if_true,List.count_append];exact this
 ·intro r r' k h2 h3 h4 h5;rw [hbs]at h2 h3;exact h.inj r r' k h2 h3 h4 h5
 ·intro p k;by_cases hp:p=pl
  ·simp only [hp,if_true,List.count_append];have h2:=h.lin pl k;have h3:=hlx k;by_cases hk:k∈Ox
   ·have:=List.count_eq_zero.2 (hxpl k hk);omega
   ·have:=List.count_eq_zero.2 hk;omega
  ·simp only [hp,if_false];exact Nat.le_trans (hO1c p k) (h.lin p k)
 ·intro p q hpq k hkp hkq;by_cases hp:p=pl
  ·have hq:q≠pl:=λe=>hpq (by rw [hp,e]);simp only [hp,if_true,qk]at hkp;simp only [hq,if_false]at hkq;rcases hkp with hkp|hkp
   ·exact h.dis pl q (Ne.symm hq) k hkp (hO1' q k hkq).1
   ·exact hx1 k hkp q hkq
  ·simp only [hp,if_false]at hkp;by_cases hq:q=pl
   ·simp only [hq,if_true,qk]at hkq;rcases hkq with hkq|hkq
    ·exact h.dis p pl hp k (hO1' p k hkp).1 hkq
    ·exact hx1 k hkq p hkp
   ·simp only [hq,if_false]at hkq;exact h.dis p q hpq k (hO1' p k hkp).1 (hO1' q k hkq).1
 ·intro r hr;rw [hbs];obtain ⟨x',hx',hr'⟩:=qM.1 hr;obtain ⟨t,ht⟩:=List.mem_iff_getElem?.1 hx';rcases henv t x' ht with ⟨_,x0,h2,rfl⟩|⟨_,h2,_⟩
  ·exact h1.ptrE r (qM.2 ⟨x0,List.mem_of_getElem? h2,qv4 hr'⟩)
  ·rw [h2]at hr';simp at hr'
 ·intro q c' hq r' hr';rw [hbs];obtain ⟨c,hc,⟨_,rfl⟩|⟨_,_,hp,_⟩⟩:=hbox q c' hq
  ·exact h.ptrB q c hc r' (qn3 hr')
  ·exact h.ptrB q c hc r' (hp r' hr')
 ·intro q c' hq r' hr';obtain ⟨c,hc,⟨_,rfl⟩|⟨_,_,hp,_⟩⟩:=hbox q c' hq
  ·exact h.up q c hc r' (qn3 hr')
  ·exact h.up q c hc r' (hp r' hr')
 ·intro k e fz hk;rw [hsz];exact h.dom k e fz hk
end
section
variable {P:Program} {H:Hints} {f:FuncId} {w w':World} {X:Cx}
theorem qJe{ys:List V}{p:Path}{E:List V}{r:Nat}{y:V}(h:qvp ys p (E.getD r .undef)=some y):E[r]?=some (E.getD r .undef):=by
 rw [List.getD_eq_getElem?_getD]at h ⊢;cases hr:E[r]? with
 |some x=>rfl
 |none =>
  rw [hr]at h;simp only [Option.getD_none]at h;cases p with
  |nil=>simp [qvp]at h
  |cons a p=>obtain ⟨j,o,s⟩:=a;simp [qvp]at h
theorem run_store{a:Act}{t:TypeId}{d:Tmp}{xo:Operand}{b k:Nat}{arr:Array Value}{ty:TypeId}(hs0:P.cellsOf t≠0)(hd:a.tmps.getD d undef=.pointer (some ⟨b,k,none⟩))(ha:w.heap[b]?=some (.cells arr ty (0,0)))
  (hl:(a.eval xo).cells.toList.length=P.cellsOf t) (hle:k+(a.eval xo).cells.toList.length<=arr.size) (hones:∀c∈(a.eval xo).cells.toList,c.oneCell'=true) :
  (Instr.storeAt t (a.eval (.tmp d)) (a.eval xo)).run P w=.ok () (w.setRow b (rowAt arr k (a.eval xo).cells.toList)):=by
 have hv:a.eval (.tmp d)=.pointer (some ⟨b,k,none⟩):=hd;have hst:=run_storeCells_at (P:=P) b k ty (a.eval xo).cells.toList 0 arr w ha (by omega) hones;simp only [Nat.add_zero]at hst;rw [hv];have:¬ ((a.eval xo).cells.size≠P.cellsOf t):=by rw [<- hl];simp
 simp only [Instr.storeAt,Instr.sureAddr,Sem.run_bind,Sem.run_pure,Result.andThen_ok,storeVar,qa0 hs0,if_neg this];exact hst
theorem qln{st:St}{q:Root}{c c':List V}{E:List V}(hL:st.L=[])(hq:st.box q=some c)(q':Root) :
  ({st with E:=E,B:=qgu (qmE st.B) q.slot c'}:St).box q'=if q'=q then some c' else (st.box q').map (List.map V.qf5):=by
 have hq0:q.lvl=0/\qz st.B q.slot=some c:=by
  rw [qgq hL]at hq;split at hq
  ·rename_i h0;exact ⟨h0,hq⟩
  ·cases hq
 rw [qgq (st:=({st with E:=E,B:=qgu (qmE st.B) q.slot c'}:St)) hL,qgq hL];simp only [qii,qdK];by_cases h0:q'.lvl=0
 ·rw [if_pos h0,if_pos h0];by_cases hs:q'.slot=q.slot
  ·have:q'=q:=by
    obtain ⟨l,s⟩:=q';obtain ⟨l',s'⟩:=q;simp only at h0 hs hq0;rw [h0,hs,hq0.1]
   rw [if_pos hs,if_pos this,hq0.2];rfl
  ·rw [if_neg hs,if_neg (λe=>hs (by rw [e]))]
 ·rw [if_neg h0,if_neg h0,if_neg (λe=>h0 (by rw [e];exact hq0.1))];rfl
theorem qJC{w0:World}{X0:Cx}{Md:Md}{n:Nat}{ops:Array Oper}{s:Nat}{o:Oper}{st st':St}{a:Act}{O:Pl->List Nat}(h:Rel st a.tmps w X O)(hF:Fr w0 X0 Md n st w X O)(hz:n=0->∀b e fz,X0.ω b=some (e,fz)->fz=true)(hM:qfX w0 w X a.defers)
  {t:TypeId} {d:Tmp} {xo:Operand} (hop:o.op=.store t (.tmp d) xo)
  (hpath:∀rt p,qcv P H f ops st.E ops.size s d=some (rt,p,true)->∃v0 b k,qlz w X a.tmps rt v0/\a.tmps.getD d undef=.pointer (some ⟨b,k,none⟩)/\qJh w v0 p b k)
  (hx:qlo P H f ops s o st=some st') :
  o.dst=none/\o.guard=none/\∃w' b,(Instr.storeAt t (a.eval (.tmp d)) (a.eval xo)).run P w=.ok () w'/\Wrote w X w' b/\w'.heap.size=w.heap.size/\∃O',Rel st' a.tmps w' X O'/\Fr w0 X0 Md n st' w' X O'/\qfX w0 w' X a.defers:=by
 unfold qlo at hx;rw [hop]at hx;simp only at hx;split at hx
 ·rename_i hcond;simp only [qe,decide_eq_true_eq,List.isEmpty_iff,Option.isNone_iff_eq_none]at hcond;obtain ⟨⟨⟨⟨⟨⟨⟨⟨hL,hnl⟩,hdst⟩,hgd⟩,hnd⟩,hs0⟩,hxl⟩,hxo⟩,hxp⟩:=hcond;have htk:qax H f o=true:=by simp [qax,hop,qyG]
  have hops:o.op.operands.toList=[.tmp d,xo]:=by rw [hop];rfl
  obtain ⟨Oin,hrep,hs,hlin⟩:=qdu (H:=H) (f:=f) h o o.op.operands.toList (λ_=>hnd);rw [hops]at hrep;simp only [qi,List.map_nil,RepL]at hrep;obtain ⟨u1,vs1,O1,O2,hu1,rfl,hr1,u,vs2,Ox,O4,hu2,rfl,hrx,rfl,rfl⟩:=hrep;simp only [List.cons.injEq]at hu1;obtain ⟨rfl,rfl⟩:=hu1;simp only [List.cons.injEq,and_true]at hu2;subst hu2;simp only [List.append_nil]at hs hlin;have hin:∀k∈Ox,∃t∈tmpsOf o,k∈O (.tmp t):=λk hk=>(hs k (by simp [hk])).2;have hlx:Lin Ox:=hlin.right;obtain ⟨hcells,hones⟩:=qfb hxo hrx;have hul:(a.eval xo).cells.toList.length=(rd H f o st.E xo).cells.length:=(qQ _ _ _ hcells).symm;have hyp:ptrsL (rd H f o st.E xo).cells=[]:=qhW hxp;refine ⟨hdst,hgd,?_⟩;have hplx:∀pl:Pl,(∀t∈tmpsOf o,pl≠.tmp t)->Lin (O pl++Ox):=λpl hpl k=>by
   rw [List.count_append];have h2:=h.lin pl k;have h3:=hlx k;by_cases hk:k∈Ox
   ·have:(O pl).count k=0:=List.count_eq_zero.2 λhkp=>by
     obtain ⟨t',ht',hkt⟩:=hin k hk;exact h.dis pl (.tmp t') (hpl t' ht') k hkp hkt
    omega
   ·have:=List.count_eq_zero.2 hk;omega
  split at hx
  ·-- the owner is a temporary
   rename_i r p hlk;obtain ⟨v0,b,k,hroot,hptr,hpr⟩:=hpath _ _ hlk;split at hx
   ·cases hx
   ·rename_i hrT;have hrT':r∉tmpsOf o:=by simpa using hrT
    split at hx
    ·rename_i y hy;split at hx
     ·cases hx
     ·rename_i hsoft;have hsoft:y.soft=false:=by simpa using hsoft
      simp only [qb]at hx;subst hx;have hE:=qJe hy;obtain ⟨v1,hv1,hr0⟩:=h.env r _ hE;have:v1=v0:=by
       simp only [qlz]at hroot;rw [<- hroot,Array.getD_eq_getD_getElem?,hv1];rfl
      subst this;cases p with
      |nil=>exact hpr.elim
      |cons q p =>
       obtain ⟨j,o',s'⟩:=q;obtain ⟨off,len,cap,hsl,hj,rfl⟩:=hpr;rw [qke]at hy;have hpl:∀t∈tmpsOf o,Pl.tmp r≠.tmp t:=λt' ht' e=>hrT' (by cases e;exact ht');obtain ⟨hbO,_,hω,⟨arr,ty,harr,hsize⟩,hy1,hyp',hk⟩:=qEi hcells hxo hyp _ _ _ _ _ hy hsoft hr0 (hplx _ hpl) hsl;obtain ⟨hW,hcell,hobj⟩:=qxj (X:=X) (k:=off+j*s'+o') (yv:=(a.eval xo).cells.toList) hω harr (by rw [hul];exact hsize);obtain ⟨A,hA,hcnt⟩:=hk _ hW (by rw [<- hul];exact hcell) hobj;refine ⟨_,b,run_store hs0 hptr harr (by rw [hul];exact hxl) (by rw [hul];exact hsize) hones,hW,by simp,?_⟩;refine quw h hF hz hM hL (qwz hnl) hW (by simp) rfl rfl rfl hin hlx hpl hbO (by simp [qbH]) hL ?_ (λq=>?_) (λq c' hq=>?_)
       ·intro t' x' hx';simp only [List.getElem?_set]at hx';by_cases hrt:r=t'
        ·subst hrt;rw [if_pos rfl]at hx';split at hx'
         ·cases hx'
          exact .inr ⟨rfl,hyp',v1,hv1,A,hA,hcnt⟩
         ·cases hx'
        ·rw [if_neg hrt,List.getElem?_map]at hx';obtain ⟨x0,h2,rfl⟩:=qc.1 hx';exact .inl ⟨λe=>hrt (by cases e;rfl),x0,h2,rfl⟩
       ·rw [qgq (st:=({st with E:=_,B:=qmE st.B}:St)) hL,qgq hL];simp only [qdK];split
        ·simp
        ·rfl
       ·rw [qgq (st:=({st with E:=_,B:=qmE st.B}:St)) hL]at hq;rw [qgq hL];simp only [qdK]at hq;split at hq
        ·rename_i h0;obtain ⟨c,hc,rfl⟩:=qc.1 hq;exact ⟨c,by rw [if_pos h0];exact hc,.inl ⟨by simp,rfl⟩⟩
        ·cases hq
    ·cases hx
  ·-- the owner is in a box
   rename_i q off0 p hlk;obtain ⟨v0,b,k,⟨bq,hβ,hroot⟩,hptr,hpr⟩:=hpath _ _ hlk;split at hx
   ·rename_i cs hcs;split at hx
    ·rename_i z hz0;split at hx
     ·rename_i y hy;split at hx
      ·cases hx
      ·rename_i hsoft;have hsoft:y.soft=false:=by simpa using hsoft
       simp only [qb]at hx;subst hx;obtain ⟨bq',hβ',hlt,hωq,hbx⟩:=h.box q cs hcs;rw [hβ]at hβ';cases hβ';have hq0:q.lvl=0/\qz st.B q.slot=some cs:=by
        have:=hcs;rw [qgq hL]at this;split at this
        ·rename_i h0;exact ⟨h0,this⟩
        ·cases this
       have hlp:qg3 cs=false:=qs9 hnl hq0.2;obtain ⟨arrq,tyq,harrq,hlq⟩:=hbx.cells hlp;obtain ⟨uz,A1,Oz,A2,hOq,hrz,huz,hclose⟩:=qnr off0 hlq hz0;have hv0:uz=v0:=by
        simp only [World.cell?,harrq]at hroot;have h2:arrq[off0]?=some uz:=by simpa using huz
        rw [h2]at hroot;exact Option.some.inj hroot
       subst hv0;cases p with
       |nil=>exact hpr.elim
       |cons e p =>
        obtain ⟨j,o',s'⟩:=e;obtain ⟨off,len,cap,hsl,hj,rfl⟩:=hpr;rw [qke]at hy;have hpl:∀t∈tmpsOf o,Pl.box q≠.tmp t:=λt' ht' e=>by cases e
        have hlinz:Lin (Oz++Ox):=λk=>by
         have:=hplx (.box q) hpl k;rw [hOq]at this;simp only [List.count_append]at this ⊢;omega
        obtain ⟨hbO,_,hω,⟨arr,ty,harr,hsize⟩,hy1,hyp',hk⟩:=qEi hcells hxo hyp _ _ _ _ _ hy hsoft hrz hlinz hsl;obtain ⟨hW,hcell,hobj⟩:=qxj (X:=X) (k:=off+j*s'+o') (yv:=(a.eval xo).cells.toList) hω harr (by rw [hul];exact hsize);obtain ⟨A,hA,hcnt⟩:=hk _ hW (by rw [<- hul];exact hcell) hobj;have hlq0:=h.lin (.box q) b;rw [hOq]at hlq0;simp only [List.count_append]at hlq0;have hbz:=List.count_pos_iff.2 hbO;obtain ⟨C,hC,hCc⟩:=hclose _ b y A hW (λhm=>by have:=List.count_pos_iff.2 hm;omega) (λhm=>by have:=List.count_pos_iff.2 hm;omega) hA;refine ⟨_,b,run_store hs0 hptr harr (by rw [hul];exact hxl) (by rw [hul];exact hsize) hones,hW,by simp,?_⟩;refine quw (pl:=.box q) h hF hz hM hL (qwz hnl) hW (by simp) rfl rfl rfl hin hlx hpl (by rw [hOq];simp [hbO]) (by simp [qbH]) hL ?_ (λq'=>?_) (λq' c' hq=>?_)
        ·intro t' x' hx';simp only [List.getElem?_map]at hx';obtain ⟨x0,h2,rfl⟩:=qc.1 hx';exact .inl ⟨by simp,x0,h2,rfl⟩
        ·rw [qln hL hcs];split
         ·rename_i e;rw [e,hcs];rfl
         ·simp
        ·rw [qln hL hcs]at hq;split at hq
         ·rename_i e;subst e;cases hq;refine ⟨cs,hcs,.inr ⟨rfl,?_,λr hr=>?_,λvals hvals hcellq=>?_⟩⟩
          ·exact ⟨hlp,qui hC⟩
          ·obtain ⟨x,hx,hr2⟩:=qM.1 hr;rcases List.mem_or_eq_of_mem_set hx with hx|rfl
           ·exact qn3 (qM.2 ⟨x,hx,hr2⟩)
           ·rw [hyp']at hr2;simp at hr2
          ·have:vals=arrq.toList:=by
            apply List.ext_getElem?;intro i;have:=hcellq bq hβ i;simp only [World.cell?,harrq]at this;rw [<- this];simp
           subst this;refine ⟨C,hC,λk=>?_⟩;have:=hCc k;have:=hcnt k;rw [hOq];simp only [List.count_append]<;>omega
         ·rename_i hne;obtain ⟨c,hc,rfl⟩:=qc.1 hq;exact ⟨c,hc,.inl ⟨λe=>hne (by cases e;rfl),rfl⟩⟩
     ·cases hx
    ·cases hx
   ·cases hx
  ·cases hx
 ·cases hx
end
section
variable {P:Program} {H:Hints} {f:FuncId} {w w':World} {X X':Cx}
def tv(tmps:Array Value)(t:Tmp):Value:=tmps.getD t undef
def evT(tmps:Array Value):Operand->Value
 |.tmp t=>tv tmps t
 |.const v=>v
 |_=>undef
def qgp(P:Program)(H:Hints)(f:FuncId)(E:List V)(o:Oper)(tmps:Array Value)(w:World)(X:Cx):Prop :=
 match o.op,o.dst with
 |.move (.tmp a),some d=>tv tmps d=tv tmps a
 |.indexAddr t (.tmp a) i,some d=>∀elem,P.underlying t=some (.slice elem)->∃b off len cap k n,tv tmps a=.slice (some ⟨b,off,none⟩) len cap/\evT tmps i=.int k n/\0<=n/\n<(len:Int)/\tv tmps d=.pointer (some ⟨b,off+n.toNat*P.cellsOf elem,none⟩)
 |.fieldAddr t (.tmp a) fd,some d=>∀b off o',tv tmps a=.pointer (some ⟨b,off,none⟩)->qpV P t fd=some o'->tv tmps d=.pointer (some ⟨b,off+o',none⟩)
 |.load t (.tmp a),some d=>q8 P t=false->if H.link f a=true then (∃b off v,tv tmps a=.pointer (some ⟨b,off,none⟩)/\w.cell? ⟨b,off,none⟩=some v/\tv tmps d=v/\∃e fz,X.ω b=some (e,fz)/\off<e)
   else ∀r o',E[a]?=some (.ptr r o')->∃b v,tv tmps a=.pointer (some ⟨b,o',none⟩)/\w.cell? ⟨b,o',none⟩=some v/\tv tmps d=v
 |_,_=>True
theorem qcC{o:Oper}{x:Operand}{t:Tmp}(hx:x∈o.op.operands.toList)(e:x=.tmp t):t∈tmpsOf o:=by
 subst e;exact List.mem_filterMap.2 ⟨.tmp t,hx,rfl⟩
theorem qvO{tmps tmps':Array Value}{i:Operand}(h:∀t,i=.tmp t->tv tmps' t=tv tmps t):evT tmps' i=evT tmps i:=by
 cases i<;>first|rfl|exact h _ rfl
theorem qgp.qs7{E E':List V}{o:Oper}{tmps tmps':Array Value}(h:qgp P H f E o tmps w X)(hd:∀d,o.dst=some d->tv tmps' d=tv tmps d)(ht:∀t∈tmpsOf o,tv tmps' t=tv tmps t)
  (hn:qkI H f o=true->(∀b e fz,X.ω b=some (e,fz)->∃e' fz',X'.ω b=some (e',fz')/\e<=e')/\∀b e fz i v,X.ω b=some (e,fz)->i<e->w.cell? ⟨b,i,none⟩=some v->w'.cell? ⟨b,i,none⟩=some v)
  (hb:qqn H f o=true->∀a∈tmpsOf o,∀r o',E'[a]?=some (.ptr r o')->E[a]?=some (.ptr r o')/\∀b,tv tmps a=.pointer (some ⟨b,o',none⟩)->w'.cell? ⟨b,o',none⟩=w.cell? ⟨b,o',none⟩):qgp P H f E' o tmps' w' X':=by
 unfold qgp at h ⊢;split
 ·rename_i a d hop hdst;rw [hop,hdst]at h;rw [hd d hdst,ht a (qcC (by rw [hop];exact List.mem_singleton.2 rfl) rfl)];exact h
 ·rename_i t a i d hop hdst;rw [hop,hdst]at h;intro elem hu;obtain ⟨b,off,len,cap,k,n,h1,h2,h3,h4,h5⟩:=h elem hu;refine ⟨b,off,len,cap,k,n,?_,?_,h3,h4,?_⟩
  ·rw [ht a (qcC (x:=.tmp a) (by rw [hop];show _∈[Operand.tmp a,i];simp) rfl)];exact h1
  ·rw [qvO (λt' e=>ht t' (qcC (by rw [hop];show i∈[Operand.tmp a,i];simp) e))];exact h2
  ·rw [hd d hdst];exact h5
 ·rename_i t a fd d hop hdst;rw [hop,hdst]at h;intro b off o' h1 h2;rw [ht a (qcC (by rw [hop];exact List.mem_singleton.2 rfl) rfl)]at h1;rw [hd d hdst];exact h b off o' h1 h2
 ·rename_i t a d hop hdst;rw [hop,hdst]at h;have ha:a∈tmpsOf o:=qcC (by rw [hop];exact List.mem_singleton.2 rfl) rfl;intro hag;have h:=h hag;by_cases hl:H.link f a=true
  ·rw [if_pos hl]at h ⊢;obtain ⟨b,off,v,h1,h2,h3,e,fz,h4,h5⟩:=h;obtain ⟨hω,hc⟩:=hn (by unfold qkI;rw [hop];exact hl);obtain ⟨e',fz',h6,h7⟩:=hω b e fz h4;exact ⟨b,off,v,by rw [ht a ha];exact h1,hc b e fz off v h4 h5 h2,by rw [hd d hdst];exact h3,e',fz',h6,by omega⟩
  ·rw [if_neg hl]at h ⊢;intro r o' hE;have hbl:qqn H f o=true:=by unfold qqn;rw [hop];simpa using hl
   obtain ⟨h1,h2⟩:=hb hbl a ha r o' hE;obtain ⟨b,v,h3,h4,h5⟩:=h r o' h1;exact ⟨b,v,by rw [ht a ha];exact h3,by rw [h2 b h3];exact h4,by rw [hd d hdst];exact h5⟩
 ·trivial
theorem qsL{ops:Array Oper}{d:Tmp}:∀{k c:Nat},qsp ops k d=some c->c<k/\∃o,ops[c]?=some o/\o.dst=some d
 |0,c,h=>by simp [qsp]at h
 |k+1,c,h=>by
  simp only [qsp]at h;split at h
  ·rename_i hk;cases h;cases ho:ops[k]? with
   |none=>rw [ho]at hk;simp at hk
   |some o=>rw [ho]at hk;exact ⟨by omega,o,rfl,by simpa using hk⟩
  ·obtain ⟨h1,h2⟩:=qsL h;exact ⟨by omega,h2⟩
theorem getD_at{tmps:Array Value}{t:Nat}{v:Value}(h:tmps[t]?=some v):tv tmps t=v:=by
 unfold tv;rw [Array.getD_eq_getD_getElem?,h];rfl
theorem qET{st:St}{tmps:Array Value}{O:Pl->List Nat}(h:Rel st tmps w X O){i:Operand}{j:Nat}(hi:idxOf st.E i=some j){k:IntKind}{n:Int}(hv:evT tmps i=.int k n):n.toNat=j:=by
 have key:∀x:V,qnc x=some j->∀v O,Rep w X x v O->v=.int k n->n.toNat=j:=by
  intro x hx v O hr hv;unfold qnc at hx;split at hx
  ·simp only [Rep]at hr;rw [hr.1]at hv;cases hv;split at hx
   ·exact Option.some.inj hx
   ·cases hx
  ·cases hx
 cases i with
 |tmp t =>
  simp only [idxOf]at hi;cases hE:st.E[t]? with
  |none=>rw [List.getD_eq_getElem?_getD,hE]at hi;simp [qnc]at hi
  |some x =>
   obtain ⟨v,h1,h2⟩:=h.env t x hE;rw [List.getD_eq_getElem?_getD,hE]at hi;exact key x (by simpa using hi) v _ h2 (by rw [<- getD_at h1];exact hv)
 |const u =>
  simp only [idxOf]at hi;exact key (.val u) hi u [] (by simp [Rep]) hv
 |_=>simp [idxOf]at hi
theorem qGy{ops:Array Oper}{st:St}{tmps:Array Value}{O:Pl->List Nat}(h:Rel st tmps w X O){s:Nat}{S:List Tmp}(hf:∀c oc,ops[c]?=some oc->qo6 H f oc=true->c<s->(∀d,oc.dst=some d->d∈S)->qgp P H f st.E oc tmps w X) :
  ∀(n k:Nat) (d:Tmp) (rt:Rt) (p:Path) (ptr:Bool),k<=s->(∀t∈qd8 H f ops n k d,t∈S)->qcv P H f ops st.E n k d=some (rt,p,ptr) ->
   ∃v0,qlz w X tmps rt v0/\(if ptr=true then ∃b k,tv tmps d=.pointer (some ⟨b,k,none⟩)/\qJh w v0 p b k else SlF w v0 p.reverse (tv tmps d)):=by
 intro n;induction n with
 |zero=>intro k d rt p ptr _ _ hx;simp [qcv]at hx
 |succ n ih =>
  intro k d rt p ptr hks hS hx;simp only [qcv]at hx;simp only [qd8]at hS;split at hx
  ·simp only [qb,Prod.mk.injEq]at hx;obtain ⟨rfl,rfl,rfl⟩:=hx;exact ⟨tv tmps d,rfl,by simp [SlF]⟩
  ·rename_i hlk;have hlk:H.link f d=true:=by simpa using hlk
   split at hx
   ·cases hx
   ·rename_i c hc;obtain ⟨hck,oc,hoc,hdst⟩:=qsL hc;have hfact:=hf c oc hoc (by unfold qo6;rw [hdst];exact hlk) (by omega) (λd' hd'=>by rw [hdst]at hd';cases hd';exact hS d (by simp));rw [hc]at hS;simp only [hlk,hoc,qj,Bool.true_eq_false,if_false]at hS;rw [hoc]at hx;simp only [qj]at hx;unfold qgp at hfact;split at hx
    ·-- move
     rename_i a hop;rw [Option.some.inj hop,hdst]at hfact;simp only at hfact;obtain ⟨v0,h1,h2⟩:=ih c a rt p ptr (by omega) (λt ht=>hS t (by rw [Option.some.inj hop];simp [ht])) hx;exact ⟨v0,h1,by rw [hfact];exact h2⟩
    ·-- indexAddr
     rename_i t a i hop;have hS':∀x∈qd8 H f ops n c a,x∈S:=λx hx=>hS x (by rw [Option.some.inj hop];simp [hx]);rw [Option.some.inj hop,hdst]at hfact;simp only at hfact;split at hx
     ·rename_i r q j elem hq hj hu;simp only [qb,Prod.mk.injEq]at hx;obtain ⟨rfl,rfl,rfl⟩:=hx;obtain ⟨v0,h1,h2⟩:=ih c a _ _ _ (by omega) hS' hq;simp only [qf,if_false]at h2;obtain ⟨b,off,len,cap,kk,m,h3,h4,h5,h6,h7⟩:=hfact elem hu;have hj':=qET h hj h4;rw [h3]at h2;refine ⟨v0,h1,?_⟩;simp only [if_true];refine ⟨b,_,h7,off,len,cap,h2,by omega,by rw [hj'];omega⟩
     ·cases hx
    ·-- fieldAddr
     rename_i t a fd hop;have hS':∀x∈qd8 H f ops n c a,x∈S:=λx hx=>hS x (by rw [Option.some.inj hop];simp [hx]);rw [Option.some.inj hop,hdst]at hfact;simp only at hfact;split at hx
     ·rename_i r j o sz q o' hq ho';simp only [qb,Prod.mk.injEq]at hx;obtain ⟨rfl,rfl,rfl⟩:=hx;obtain ⟨v0,h1,h2⟩:=ih c a _ _ _ (by omega) hS' hq;simp only [if_true]at h2 ⊢;obtain ⟨b,kk,h3,off,len,cap,h4,h5,rfl⟩:=h2;exact ⟨v0,h1,b,_,hfact b _ o' h3 ho',off,len,cap,h4,h5,by omega⟩
     ·cases hx
    ·-- load
     rename_i t a hop;rw [Option.some.inj hop,hdst]at hfact;simp only at hfact;split at hx
     ·cases hx
     ·rename_i hag;have hfact:=hfact (by simpa using hag);split at hx
      ·rename_i hla;rw [if_pos hla]at hfact;have hS':∀x∈qd8 H f ops n c a,x∈S:=λx hx=>hS x (by rw [Option.some.inj hop];simp [hla,hx]);split at hx
       ·rename_i r q hq;simp only [qb,Prod.mk.injEq]at hx;obtain ⟨rfl,rfl,rfl⟩:=hx;obtain ⟨v0,h1,h2⟩:=ih c a _ _ _ (by omega) hS' hq;simp only [if_true]at h2;obtain ⟨b,kk,h3,hpr⟩:=h2;obtain ⟨b',off',v,h4,h5,h6,_⟩:=hfact;rw [h3]at h4;cases h4;refine ⟨v0,h1,?_⟩;simp only [qf,if_false];cases q with
        |nil=>exact hpr.elim
        |cons e q =>
         obtain ⟨j,o,sz⟩:=e;obtain ⟨off,len,cap,h7,h8,rfl⟩:=hpr;rw [qke,h6];exact h7.snoc h8 h5
       ·cases hx
      ·rename_i hla;rw [if_neg hla]at hfact;split at hx
       ·rename_i r off hE;simp only [qb,Prod.mk.injEq]at hx;obtain ⟨rfl,rfl,rfl⟩:=hx;have hE':st.E[a]?=some (.ptr r off):=by
         rw [List.getD_eq_getElem?_getD]at hE;cases hh:st.E[a]? with
         |none=>rw [hh]at hE;simp at hE
         |some x=>rw [hh]at hE;simpa using hE
        obtain ⟨b,v,h3,h4,h5⟩:=hfact r off hE';obtain ⟨u,hu,hr⟩:=h.env a _ hE';simp only [Rep]at hr;obtain ⟨_,b',hb',rfl⟩:=hr;rw [getD_at hu]at h3;cases h3;exact ⟨v,⟨b,hb',h4⟩,by simp [SlF,h5]⟩
       ·cases hx
    ·cases hx
theorem qJz{ops:Array Oper}{st:St}{tmps:Array Value}{O:Pl->List Nat}(h:Rel st tmps w X O){s:Nat}(hf:∀c oc,ops[c]?=some oc->qo6 H f oc=true->c<s->qgp P H f st.E oc tmps w X) :
  ∀(n k:Nat) (d:Tmp) (rt:Rt) (p:Path) (ptr:Bool),k<=s->qcv P H f ops st.E n k d=some (rt,p,ptr) ->
   ∃v0,qlz w X tmps rt v0/\(if ptr=true then ∃b k,tv tmps d=.pointer (some ⟨b,k,none⟩)/\qJh w v0 p b k else SlF w v0 p.reverse (tv tmps d)):=by
 intro n k d rt p ptr hks hx;exact qGy (S:=qd8 H f ops n k d) h (s:=s) (λc oc hoc hl hc _=>hf c oc hoc hl hc) n k d rt p ptr hks (λ_ h=>h) hx
theorem qf7{ops:Array Oper}{E E':List V}:∀(n k:Nat) (d:Tmp),(∀t∈qd8 H f ops n k d,E'[t]?=E[t]?)->qcv P H f ops E' n k d=qcv P H f ops E n k d
 |0,k,d,h=>rfl
 |n+1,k,d,h=>by
  simp only [qcv];simp only [qd8]at h;split
  ·rfl
  ·rename_i hlk;have hlk:H.link f d=true:=by simpa using hlk
   simp only [hlk,Bool.true_eq_false,if_false]at h;cases hc:qsp ops k d with
   |none=>rfl
   |some c =>
    rw [hc]at h;simp only at h ⊢;split
    ·rename_i a hop;rw [hop]at h;exact qf7 n c a λt ht=>h t (by simp [ht])
    ·rename_i t a i hop;rw [hop]at h;have h1:qcv P H f ops E' n c a=qcv P H f ops E n c a:=qf7 n c a λt ht=>h t (by simp [ht]);have h2:idxOf E' i=idxOf E i:=by
      cases i with
      |tmp x =>
       simp only [idxOf];rw [getD_congr (h x (by simp))]
      |_=>rfl
     rw [h1,h2]
    ·rename_i t a fd hop;rw [hop]at h;rw [qf7 n c a λt ht=>h t (by simp [ht])]
    ·rename_i t a hop;rw [hop]at h;simp only at h;by_cases hla:H.link f a=true
     ·rw [if_pos hla,if_pos hla,qf7 n c a λt ht=>h t (by simp [hla,ht])]
     ·rw [if_neg hla,if_neg hla,getD_congr (h a (by simp))]
    ·rfl
theorem qg5{ops:Array Oper}{E:List V}:∀(n k:Nat) (d r:Tmp) (p:Path) (b:Bool),qcv P H f ops E n k d=some (.tmp r,p,b)->r∈qd8 H f ops n k d
 |0,k,d,r,p,b,hx=>by simp [qcv]at hx
 |n+1,k,d,r,p,b,hx=>by
  simp only [qcv]at hx;simp only [qd8];split at hx
  ·simp only [qb,Prod.mk.injEq,Rt.tmp.injEq]at hx;rw [hx.1];simp
  ·rename_i hlk;have hlk:H.link f d=true:=by simpa using hlk
   simp only [hlk,Bool.true_eq_false,if_false];cases hc:qsp ops k d with
   |none=>rw [hc]at hx;cases hx
   |some c =>
    rw [hc]at hx;simp only at hx ⊢;split at hx
    ·rename_i a hop;first|rw [hop]|skip
     simp [qg5 n c a r p b hx]
    ·rename_i t a i hop;first|rw [hop]|skip
     split at hx
     ·rename_i r' p' j elem hq hj hu;simp only [qb,Prod.mk.injEq]at hx;obtain ⟨rfl,_,_⟩:=hx;simp [qg5 n c a r _ _ hq]
     ·cases hx
    ·rename_i t a fd hop;first|rw [hop]|skip
     split at hx
     ·rename_i r' j o sz p' o' hq ho';simp only [qb,Prod.mk.injEq]at hx;obtain ⟨rfl,_,_⟩:=hx;simp [qg5 n c a r _ _ hq]
     ·cases hx
    ·rename_i t a hop;first|rw [hop]|skip
     split at hx
     ·cases hx
     ·by_cases hla:H.link f a=true
      ·rw [if_pos hla]at hx;split at hx
       ·rename_i r' p' hq;simp only [qb,Prod.mk.injEq]at hx;obtain ⟨rfl,_,_⟩:=hx;simp [hla,qg5 n c a r _ _ hq]
       ·cases hx
      ·rw [if_neg hla]at hx;split at hx<;>simp at hx
    ·cases hx
end
end Go.Ab
end
