/-
  ONE LAW OF A CHAPTER: its program side is run by an interpreter that is proved sound; what it computes is shown to be what the law says. No conditions. Part 3 of 8.
-/
import Derived.Test.YtofjnhppalciiaaMfb
set_option linter.unusedSimpArgs false
set_option linter.unusedVariables false
set_option linter.unnecessarySimpa false
section
namespace Go.Ab
open Go
section
variable {P:Program} {H:Hints} {f:FuncId} {w w':World} {X:Cx}
theorem qvu{st':St}{tmps:Array Value}{Ob:Pl->List Nat}(hsize:tmps.size=st'.E.length)
  (henv:∀t x,st'.E[t]?=some x->∃v,tmps[t]?=some v/\∃A,Rep w' X x v A/\∀k,A.count k<=(Ob (.tmp t)).count k)
  (hbox:∀r c,st'.box r=some c->∃b,X.β r=some b/\b<w'.heap.size/\X.ω b=none/\∃A,qnE w' X b c A/\∀k,A.count k<=(Ob (.box r)).count k)
  (inj:∀r r' b,(st'.box r).isSome=true->(st'.box r').isSome=true->X.β r=some b->X.β r'=some b->r=r') (hlin:∀p,Lin (Ob p)) (hdis:∀p q,p≠q->∀b∈Ob p,b∉Ob q)
  (ptrE:∀r∈ptrsL st'.E,(st'.box r).isSome=true) (ptrB:∀r c,st'.box r=some c->∀r'∈ptrsL c,(st'.box r').isSome=true) (up:∀r c,st'.box r=some c->∀r'∈ptrsL c,r'.lvl<=r.lvl) (dom:Dom w' X) :
  ∃O',Rel st' tmps w' X O'/\∀p k,(O' p).count k<=(Ob p).count k:=by
 have key:∀p:Pl,∃A:List Nat,(∀k,A.count k<=(Ob p).count k)/\(match p with
   |.tmp t=>(∀x,st'.E[t]?=some x->∃v,tmps[t]?=some v/\Rep w' X x v A)/\(st'.E[t]?=none->A=[])
   |.box r=>(∀c,st'.box r=some c->∃b,X.β r=some b/\b<w'.heap.size/\X.ω b=none/\qnE w' X b c A)/\(st'.box r=none->A=[])):=by
  intro p;cases p with
  |tmp t =>
   cases hx:st'.E[t]? with
   |none=>exact ⟨[],by simp,And.intro (λx hx'=>by rw [hx]at hx';cases hx') (λ_=>rfl)⟩
   |some x =>
    obtain ⟨v,hv,A,hr,hc⟩:=henv t x hx;exact ⟨A,hc,And.intro (λy hy=>by rw [hx]at hy;cases hy;exact ⟨v,hv,hr⟩) (λh=>by rw [hx]at h;cases h)⟩
  |box r =>
   cases hx:st'.box r with
   |none=>exact ⟨[],by simp,And.intro (λx hx'=>by rw [hx]at hx';cases hx') (λ_=>rfl)⟩
   |some c =>
    obtain ⟨b,h1,h2,h3,A,h4,hc⟩:=hbox r c hx;exact ⟨A,hc,And.intro (λy hy=>by rw [hx]at hy;cases hy;exact ⟨b,h1,h2,h3,h4⟩) (λh=>by rw [hx]at h;cases h)⟩
 obtain ⟨O',hO'⟩:=Classical.axiomOfChoice key;have hR:Rel st' tmps w' X O':={
  size:=hsize
  env:=λt x hx=>(hO' (.tmp t)).2.1 x hx
  envD:=λt ht=>(hO' (.tmp t)).2.2 (List.getElem?_eq_none ht)
  box:=λr c hr=>(hO' (.box r)).2.1 c hr
  boxD:=λr hr=>(hO' (.box r)).2.2 hr
  inj:=inj
  lin:=λp k=>Nat.le_trans ((hO' p).1 k) (hlin p k)
  dis:=λp q hpq b hb hq=>hdis p q hpq b (List.count_pos_iff.1 (Nat.lt_of_lt_of_le (List.count_pos_iff.2 hb) ((hO' p).1 b))) (List.count_pos_iff.1 (Nat.lt_of_lt_of_le (List.count_pos_iff.2 hq) ((hO' q).1 b)))
  ptrE:=ptrE
  ptrB:=ptrB
  up:=up
  dom:=dom}
 exact ⟨O',hR,λp k=>(hO' p).1 k⟩
theorem qpW{b:Nat}(h:Wrote w X w' b){x:V}{v:Value}{O:List Nat}(hb:b∉O)(hr:Rep w X x v O):∃A,Rep w' X x.qdH v A/\∀k,A.count k<=O.count k:=by
 unfold V.qdH;cases hs:x.soft with
 |true=>exact ⟨[],by simp [Rep],by simp⟩
 |false=>exact ⟨O,by simpa using Rep.other h x v O hs hb hr,λ_=>Nat.le_refl _⟩
theorem qne{b:Nat}(h:Wrote w X w' b):∀{l:List V} {vals:List Value} {O:List Nat},b∉O->RepL w X l vals O->∃A,RepL w' X (l.map V.qdH) vals A/\∀k,A.count k<=O.count k
 |[],vals,O,hb,hr=>⟨[],by simp only [RepL]at hr;simp [RepL,hr.1],by simp⟩
 |x::l,vals,O,hb,hr=>by
  simp only [RepL]at hr;obtain ⟨u,vs,O1,O2,rfl,rfl,h1,h2⟩:=hr;simp only [qj,not_or]at hb;obtain ⟨A,h3,h4⟩:=qpW h hb.1 h1;obtain ⟨B,h5,h6⟩:=qne h hb.2 h2;refine ⟨A++B,by simp only [qh,RepL];exact ⟨u,vs,A,B,rfl,rfl,h3,h5⟩,λk=>?_⟩;have:=h4 k;have:=h6 k;simp only [List.count_append]<;>omega
theorem qgl:∀{l:List V} {vals:List Value} {O:List Nat} (j:Nat) {z:V},RepL w X l vals O->l[j]?=some z ->
  ∃u O1 Oz O2,O=O1++Oz++O2/\Rep w X z u Oz/\vals[j]?=some u /\
   ∀(w':World) (b:Nat) (z':V) (Oz':List Nat),Wrote w X w' b->b∉O1->b∉O2->Rep w' X z' u Oz'->∃A,RepL w' X ((l.map V.qdH).set j z') vals A/\∀k,A.count k<=O1.count k+Oz'.count k+O2.count k
 |[],vals,O,j,z,h,hj=>by simp at hj
 |y::l,vals,O,0,z,h,hj=>by
  simp only [RepL]at h;obtain ⟨u,vs,A,B,rfl,rfl,h1,h2⟩:=h;simp at hj;subst hj;refine ⟨u,[],A,B,by simp,h1,by simp,λw' b z' Oz' hw hb1 hb2 hr=>?_⟩;obtain ⟨C,h3,h4⟩:=qne hw hb2 h2;refine ⟨Oz'++C,by simp only [qh,List.set_cons_zero,RepL];exact ⟨u,vs,Oz',C,rfl,rfl,hr,h3⟩,λk=>?_⟩;have:=h4 k;simp only [List.count_append,List.count_nil]<;>omega
 |y::l,vals,O,j+1,z,h,hj=>by
  simp only [RepL]at h;obtain ⟨u0,vs,A,B,rfl,rfl,h1,h2⟩:=h;obtain ⟨u,O1,Oz,O2,rfl,hr,hv,hk⟩:=qgl (j:=j) h2 (by simpa using hj);refine ⟨u,A++O1,Oz,O2,by simp,hr,by simpa using hv,λw' b z' Oz' hw hb1 hb2 hr'=>?_⟩;simp only [qj,not_or]at hb1;obtain ⟨C,h3,h4⟩:=hk w' b z' Oz' hw hb1.2 hb2 hr';obtain ⟨D,h5,h6⟩:=qpW hw hb1.1 h1;refine ⟨D++C,by simp only [qh,List.set_cons_succ,RepL];exact ⟨u0,vs,D,C,rfl,rfl,h5,h3⟩,λk=>?_⟩;have:=h4 k;have:=h6 k;simp only [List.count_append]<;>omega
theorem qqY{x:V}{r:Root}(h:r∈x.qdH.qp):r∈x.qp:=by
 unfold V.qdH at h;split at h
 ·simp [V.qp]at h
 ·exact h
theorem qke{l:List V}{r:Root}(h:r∈ptrsL (l.map V.qdH)):r∈ptrsL l:=by
 obtain ⟨x,hx,hr⟩:=qA.1 h;obtain ⟨y,hy,rfl⟩:=List.mem_map.1 hx;exact qA.2 ⟨y,hy,qqY hr⟩
theorem qch(s:Nat):∀B:Level,qu (qjh B) s=(qu B s).map (List.map V.qdH)
 |[]=>rfl
 |(k,c)::B=>by
  simp only [qjh,qh,qu];split
  ·rfl
  ·exact qch s B
theorem qkn{s:Nat}{c:List V}:∀{B:Level},qro B=true->qu B s=some c->qc7 c=false
 |[],_,h=>by simp [qu]at h
 |(k,c')::B,hn,h=>by
  simp only [qro,List.all_cons,qe,Bool.not_eq_true']at hn;simp only [qu]at h;split at h
  ·cases h;exact hn.1
  ·exact qkn hn.2 h
def qfM(w:World)(X:Cx)(tmps:Array Value):Rt->Value->Prop
 |.tmp r,v=>tmps.getD r undef=v
 |.box q off,v=>∃b,X.β q=some b/\w.cell? ⟨b,off,none⟩=some v
def qBV(w:World)(v0:Value):Path->Nat->Nat->Prop
 |[],_,_=>False
 |(j,o,s)::p,b,k=>∃off len cap,SlF w v0 p.reverse (.slice (some ⟨b,off,none⟩) len cap)/\j<len/\k=off+j*s+o
def rowAt(arr:Array Value)(k:Nat)(yv:List Value):Array Value:=(arr.toList.take k++yv++arr.toList.drop (k+yv.length)).toArray
theorem qr8{b k:Nat}{arr:Array Value}{ty:TypeId}{yv:List Value}(hω:∃e,X.ω b=some (e,false))(ha:w.heap[b]?=some (.cells arr ty (0,0)))(hle:k+yv.length<=arr.size) :
  Wrote w X (w.setRow b (rowAt arr k yv)) b/\(∀i,(w.setRow b (rowAt arr k yv)).cell? ⟨b,i,none⟩=if k<=i/\i<k+yv.length then yv[i-k]? else w.cell? ⟨b,i,none⟩) /\
   (∀c t,w.heap[b]?=some (.cells c t (0,0))->∃c',(w.setRow b (rowAt arr k yv)).heap[b]?=some (.cells c' t (0,0))/\c'.size=c.size):=by
 have hset:=setRow_heap w b arr (rowAt arr k yv) ty (0,0) ha;refine ⟨⟨hω,λk' hk'=>setRow_other w b k' _ hk'⟩,λi=>?_,λc t hc=>?_⟩
 ·simp only [World.cell?,hset,ha];have h1:(rowAt arr k yv)[i]?=(rowAt arr k yv).toList[i]?:=by simp
  have h2:arr[i]?=arr.toList[i]?:=by simp
  simp only [h1,h2];unfold rowAt;exact qkE (by simpa using hle) i
 ·rw [ha]at hc;cases hc;refine ⟨_,hset,?_⟩;unfold rowAt;simp<;>omega
theorem qdL{a:Nat×Nat×Nat}{p:Path}:(a::p).reverse=p.reverse++[a]:=by simp
theorem qzk{w0:World}{X0:Cx}{Md:Md}{n:Nat}{st st':St}{D:List Deferred}{tmps:Array Value}{O:Pl->List Nat}(h:Rel st tmps w X O)(hF:Fr w0 X0 Md n st w X O)(hz:n=0->∀b e fz,X0.ω b=some (e,fz)->fz=true)(hM:qdA w0 w X D)(hL:st.L=[]){b:Nat}
  (hw:Wrote w X w' b) (hbO:∃p,b∈O p) (hsz:w'.heap.size=w.heap.size) (hos:w'.os=w.os) (hout:w'.output=w.output) (htape:w'.tape=w.tape)
  {Ob:Pl->List Nat} (hOb:∀p k,k∈Ob p->∃q,k∈O q) {O':Pl->List Nat} (hO':∀p k,(O' p).count k<=(Ob p).count k) (hL':st'.L=[]) (hlive:∀r,(st'.box r).map q6=(st.box r).map q6) :
  Fr w0 X0 Md n st' w' X O'/\qdA w0 w' X D:=by
 obtain ⟨p0,hp0⟩:=hbO;obtain ⟨e0,hω⟩:=hw.ω;have hn:n=0:=by rw [<- hF.lev,hL];rfl
 refine ⟨{gl:=hF.gl,gm:=hF.gm,size:=by rw [hsz];exact hF.size,kept:=?_,grew:=?_,β:=hF.β,own:=?_,boxM:=?_,lev:=by rw [hL',hn];rfl,live:=?_,os:=by rw [hos,hF.os],out:=by rw [hout,hF.out],tape:=by rw [htape,hF.tape]},?_⟩
 ·intro k hk hMk;obtain ⟨h1,h2⟩:=hF.kept k hk hMk;refine ⟨?_,h2⟩;by_cases hkb:k=b
  ·subst hkb;rcases hF.own p0 k hp0 with h3|h3
   ·omega
   ·exact absurd h3 hMk
  ·rw [hw.kept k hkb,h1]
 ·intro k e fz hω0;obtain ⟨e1,fz1,h1,h2,h3,h4⟩:=hF.grew k e fz hω0;refine ⟨e1,fz1,h1,h2,h3,λi v hi hc=>?_⟩;by_cases hkb:k=b
  ·subst hkb;have:=h3 (hz hn _ _ _ hω0);rw [hω]at h1;cases h1;cases this
  ·rw [qD (hw.kept k hkb)];exact h4 i v hi hc
 ·intro p k hk;obtain ⟨q,hq⟩:=hOb p k (List.count_pos_iff.1 (Nat.lt_of_lt_of_le (List.count_pos_iff.2 hk) (hO' p k)));exact hF.own q k hq
 ·intro r k hr hb;refine hF.boxM r k ?_ hb;have:=congrArg Option.isSome (hlive r);simpa [hr]using this.symm
 ·intro r hr;rw [hlive];exact hF.live r hr
 ·exact hM.of λk hk hωk _=>⟨hw.kept k (λe=>by subst e;rw [hω]at hωk;cases hωk),rfl⟩
theorem qdC{st:St}(hL:st.L=[])(r:Root):st.box r=if r.lvl=0 then qu st.B r.slot else none:=by
 unfold St.box;simp [hL]
theorem qdl(s s':Nat)(c:List V):∀B:Level,qu (qdP B s c) s'=if s'=s then (qu B s).map (λ_=>c)else qu B s'
 |[]=>by simp [qdP,qu]
 |(k,d)::B=>by
  simp only [qdP];by_cases h1:k=s
  ·subst h1;simp only [if_true,qu];by_cases h2:s'=k
   ·simp [h2]
   ·simp [h2,Ne.symm h2]
  ·simp only [h1,if_false,qu];rw [qdl s s' c B];by_cases h2:s'=s
   ·subst h2;simp [h1]
   ·by_cases h3:k=s'
    ·simp [h3,h2]
    ·simp [h3,h2]
theorem qq4{c:List V}(h:q6 c=false):q6 (c.map V.qdH)=false:=by
 match c with
 |[]=>rfl
 |x::l =>
  simp only [qh];unfold V.qdH;split
  ·rfl
  ·cases x<;>first|rfl|(simp [q6]at h)
theorem qkZ{s:Nat}{c:List V}:∀{B:Level},qgf B=true->qu B s=some c->q6 c=false
 |[],_,h=>by simp [qu]at h
 |(k,c')::B,hn,h=>by
  simp only [qgf,List.all_cons,qe,Bool.not_eq_true']at hn;simp only [qu]at h;split at h
  ·cases h;exact hn.1
  ·exact qkZ hn.2 h
theorem qrn{B:Level}(h:qro B=true):qgf B=true:=by
 unfold qro at h;unfold qgf;rw [List.all_eq_true]at h ⊢;intro p hp;have:=h p hp;simp only [Bool.not_eq_true']at this ⊢;exact qgY this
theorem qpE{w0:World}{X0:Cx}{Md:Md}{n:Nat}{st st':St}{D:List Deferred}{tmps:Array Value}{O:Pl->List Nat}(h:Rel st tmps w X O)(hF:Fr w0 X0 Md n st w X O)(hz:n=0->∀b e fz,X0.ω b=some (e,fz)->fz=true)(hM:qdA w0 w X D)(hL:st.L=[])(hnl:qgf st.B=true)
  {b:Nat} (hw:Wrote w X w' b) (hsz:w'.heap.size=w.heap.size) (hos:w'.os=w.os) (hout:w'.output=w.output) (htape:w'.tape=w.tape)
  {T:List Tmp} {Ox:List Nat} (hin:∀k∈Ox,∃t∈T,k∈O (.tmp t)) (hlx:Lin Ox) {pl:Pl} (hpl:∀t∈T,pl≠.tmp t) (hb:b∈O pl) (hlen:st'.E.length=st.E.length) (hL':st'.L=[])
  (henv:∀t x',st'.E[t]?=some x'->(pl≠.tmp t/\∃x0,(qx st.E T)[t]?=some x0/\x'=x0.qdH)\/(pl=.tmp t/\x'.qp=[]/\∃v,tmps[t]?=some v/\∃A,Rep w' X x' v A/\∀k,A.count k<=(O pl).count k+Ox.count k))
  (hbs:∀q,(st'.box q).isSome=(st.box q).isSome)
  (hbox:∀q c',st'.box q=some c'->∃c,st.box q=some c/\((pl≠.box q/\c'=c.map V.qdH)\/(pl=.box q/\(qc7 c=false/\qc7 c'=false)/\(∀r∈ptrsL c',r∈ptrsL c)/\∀arr:List Value,RepL w X c arr (O (.box q))->(∀bq,X.β q=some bq->∀i,w.cell? ⟨bq,i,none⟩=arr[i]?)->∃A,RepL w' X c' arr A/\∀k,A.count k<=(O pl).count k+Ox.count k))) :
  ∃O',Rel st' tmps w' X O'/\Fr w0 X0 Md n st' w' X O'/\qdA w0 w' X D:=by
 have h1:=h.taken T;generalize hO1:qg9 O T none st.E.length []=O1 at h1;have hO1':∀p k,k∈O1 p->k∈O p/\∀t∈T,p≠.tmp t:=λp k hk=>by
  rw [<- hO1]at hk;cases p with
  |tmp t =>
   simp only [qg9]at hk;rw [if_neg (by simp)]at hk;split at hk
   ·simp at hk
   ·rename_i hn;exact ⟨hk,λt' ht' e=>hn (by cases e;exact ht')⟩
  |box r=>exact ⟨hk,λt' _ e=>by cases e⟩
 have hO1c:∀p k,(O1 p).count k<=(O p).count k:=λp k=>by
  rw [<- hO1];cases p with
  |tmp t =>
   simp only [qg9];rw [if_neg (by simp)];split
   ·simp
   ·exact Nat.le_refl _
  |box r=>exact Nat.le_refl _
 have hbn:∀p,p≠pl->b∉O1 p:=λp hp hk=>h.dis p pl hp b (hO1' p b hk).1 hb;have hxpl:∀k∈Ox,k∉O pl:=λk hk hkp=>by
  obtain ⟨t,ht,hkt⟩:=hin k hk;exact h.dis pl (.tmp t) (hpl t ht) k hkp hkt
 have hx1:∀k∈Ox,∀p,k∉O1 p:=λk hk p hkp=>by
  obtain ⟨t,ht,hkt⟩:=hin k hk;obtain ⟨h2,h3⟩:=hO1' p k hkp;exact h.dis p (.tmp t) (h3 t ht) k h2 hkt
 have hlpB:∀q c,st.box q=some c->q6 c=false:=λq c hq=>by
  rw [qdC hL]at hq;split at hq
  ·exact qkZ hnl hq
  ·cases hq
 have hrel:=qvu (w':=w') (X:=X) (tmps:=tmps) (st':=st') (Ob:=λp=>if p=pl then O pl++Ox else O1 p) (by rw [hlen];exact h.size) ?_ ?_ ?_ ?_ ?_ ?_ ?_ ?_ ?_
 ·obtain ⟨O',hR,hc⟩:=hrel;obtain ⟨hF',hM'⟩:=qzk (st':=st') (O':=O') h hF hz hM hL hw ⟨pl,hb⟩ hsz hos hout htape (Ob:=λp=>if p=pl then O pl++Ox else O1 p) (λp k hk=>by
   by_cases hp:p=pl
   ·simp only [hp,if_true,qj]at hk;rcases hk with hk|hk
    ·exact ⟨pl,hk⟩
    ·obtain ⟨t,_,hkt⟩:=hin k hk;exact ⟨_,hkt⟩
   ·simp only [hp,if_false]at hk;exact ⟨p,(hO1' p k hk).1⟩) hc hL' (λq=>by
   cases hq:st.box q with
   |none =>
    have:=hbs q;rw [hq]at this;cases hq':st'.box q with
    |none=>rfl
    |some c=>rw [hq']at this;simp at this
   |some c =>
    have:=hbs q;rw [hq]at this;obtain ⟨c',hc'⟩:=Option.isSome_iff_exists.1 (by simpa using this:(st'.box q).isSome=true);obtain ⟨c2,h2,h3⟩:=hbox q c' hc';rw [hq]at h2;cases h2;rw [hc',qi,qi,hlpB q c hq];rcases h3 with ⟨_,rfl⟩|⟨_,h3,_⟩
    ·rw [qq4 (hlpB q c hq)]
    ·rw [qgY h3.2])
  exact ⟨O',hR,hF',hM'⟩
 ·intro t x' hx';rcases henv t x' hx' with ⟨hne,x0,h2,rfl⟩|⟨rfl,_,v,hv,A,hr,hA⟩
  ·obtain ⟨v,hv,hr⟩:=h1.env t x0 h2;obtain ⟨A,h3,h4⟩:=qpW hw (hbn _ (Ne.symm hne)) hr;exact ⟨v,hv,A,h3,by simpa [Ne.symm hne]using h4⟩
  ·exact ⟨v,hv,A,hr,λk=>by have:=hA k;simp only [if_true,List.count_append];exact this⟩
 ·intro q c' hq;obtain ⟨c,hc,hcase⟩:=hbox q c' hq;obtain ⟨bq,hβ,hlt,hω,hbx⟩:=h.box q c hc;obtain ⟨e0,hω0⟩:=hw.ω;have hne:bq≠b:=λe=>by subst e;rw [hω0]at hω;cases hω
  refine ⟨bq,hβ,by omega,hω,?_⟩;rcases hcase with ⟨hp,rfl⟩|⟨rfl,hlps,_,hk⟩
  ·rcases hbx with ⟨arr,ty,harr,hl⟩|⟨s,pe,g,env,ps,asg,body,lo,rfl,_⟩|⟨es,ents,clock,rfl,hm1,hm2,hm3⟩
   rotate_left
   ·have:=hlpB q _ hc;simp [q6]at this
   ·exact ⟨[],.inr (.inr ⟨es,ents,clock,rfl,by rw [hw.kept bq hne];exact hm1,hm2,rfl⟩),by simp⟩
   obtain ⟨A,h3,h4⟩:=qne hw (λhm=>h.dis (.box q) pl (Ne.symm hp) b hm hb) hl;refine ⟨A,.inl ⟨arr,ty,by rw [hw.kept bq hne];exact harr,h3⟩,λk=>?_⟩;rw [if_neg (Ne.symm hp),<- hO1];exact h4 k
  ·obtain ⟨arr,ty,harr,hl⟩:=hbx.cells hlps.1;obtain ⟨A,h3,h4⟩:=hk arr.toList hl (λbq' hβ' i=>by rw [hβ]at hβ';cases hβ';simp [World.cell?,harr]);refine ⟨A,.inl ⟨arr,ty,by rw [hw.kept bq hne];exact harr,h3⟩,λk=>?_⟩;have:=h4 k;simp only [if_true,List.count_append];exact this
 ·intro r r' k h2 h3 h4 h5;rw [hbs]at h2 h3;exact h.inj r r' k h2 h3 h4 h5
 ·intro p k;by_cases hp:p=pl
  ·simp only [hp,if_true,List.count_append];have h2:=h.lin pl k;have h3:=hlx k;by_cases hk:k∈Ox
   ·have:=List.count_eq_zero.2 (hxpl k hk);omega
   ·have:=List.count_eq_zero.2 hk;omega
  ·simp only [hp,if_false];exact Nat.le_trans (hO1c p k) (h.lin p k)
 ·intro p q hpq k hkp hkq;by_cases hp:p=pl
  ·have hq:q≠pl:=λe=>hpq (by rw [hp,e]);simp only [hp,if_true,qj]at hkp;simp only [hq,if_false]at hkq;rcases hkp with hkp|hkp
   ·exact h.dis pl q (Ne.symm hq) k hkp (hO1' q k hkq).1
   ·exact hx1 k hkp q hkq
  ·simp only [hp,if_false]at hkp;by_cases hq:q=pl
   ·simp only [hq,if_true,qj]at hkq;rcases hkq with hkq|hkq
    ·exact h.dis p pl hp k (hO1' p k hkp).1 hkq
    ·exact hx1 k hkq p hkp
   ·simp only [hq,if_false]at hkq;exact h.dis p q hpq k (hO1' p k hkp).1 (hO1' q k hkq).1
 ·intro r hr;rw [hbs];obtain ⟨x',hx',hr'⟩:=qA.1 hr;obtain ⟨t,ht⟩:=List.mem_iff_getElem?.1 hx';rcases henv t x' ht with ⟨_,x0,h2,rfl⟩|⟨_,h2,_⟩
  ·exact h1.ptrE r (qA.2 ⟨x0,List.mem_of_getElem? h2,qqY hr'⟩)
  ·rw [h2]at hr';simp at hr'
 ·intro q c' hq r' hr';rw [hbs];obtain ⟨c,hc,⟨_,rfl⟩|⟨_,_,hp,_⟩⟩:=hbox q c' hq
  ·exact h.ptrB q c hc r' (qke hr')
  ·exact h.ptrB q c hc r' (hp r' hr')
 ·intro q c' hq r' hr';obtain ⟨c,hc,⟨_,rfl⟩|⟨_,_,hp,_⟩⟩:=hbox q c' hq
  ·exact h.up q c hc r' (qke hr')
  ·exact h.up q c hc r' (hp r' hr')
 ·intro k e fz hk;rw [hsz];exact h.dom k e fz hk
end
section
variable {P:Program} {H:Hints} {f:FuncId} {w w':World} {X:Cx}
theorem qAP{ys:List V}{p:Path}{E:List V}{r:Nat}{y:V}(h:qqm ys p (E.getD r .undef)=some y):E[r]?=some (E.getD r .undef):=by
 rw [List.getD_eq_getElem?_getD]at h ⊢;cases hr:E[r]? with
 |some x=>rfl
 |none =>
  rw [hr]at h;simp only [Option.getD_none]at h;cases p with
  |nil=>simp [qqm]at h
  |cons a p=>obtain ⟨j,o,s⟩:=a;simp [qqm]at h
theorem run_store{a:Act}{t:TypeId}{d:Tmp}{xo:Operand}{b k:Nat}{arr:Array Value}{ty:TypeId}(hs0:P.cellsOf t≠0)(hd:a.tmps.getD d undef=.pointer (some ⟨b,k,none⟩))(ha:w.heap[b]?=some (.cells arr ty (0,0)))
  (hl:(a.eval xo).cells.toList.length=P.cellsOf t) (hle:k+(a.eval xo).cells.toList.length<=arr.size) (hones:∀c∈(a.eval xo).cells.toList,c.oneCell'=true) :
  (Instr.storeAt t (a.eval (.tmp d)) (a.eval xo)).run P w=.ok () (w.setRow b (rowAt arr k (a.eval xo).cells.toList)):=by
 have hv:a.eval (.tmp d)=.pointer (some ⟨b,k,none⟩):=hd;have hst:=run_storeCells_at (P:=P) b k ty (a.eval xo).cells.toList 0 arr w ha (by omega) hones;simp only [Nat.add_zero]at hst;rw [hv];have:¬ ((a.eval xo).cells.size≠P.cellsOf t):=by rw [<- hl];simp
 simp only [Instr.storeAt,Instr.sureAddr,Sem.run_bind,Sem.run_pure,Result.andThen_ok,storeVar,qaE hs0,if_neg this];exact hst
theorem qif{st:St}{q:Root}{c c':List V}{E:List V}(hL:st.L=[])(hq:st.box q=some c)(q':Root) :
  ({st with E:=E,B:=qdP (qjh st.B) q.slot c'}:St).box q'=if q'=q then some c' else (st.box q').map (List.map V.qdH):=by
 have hq0:q.lvl=0/\qu st.B q.slot=some c:=by
  rw [qdC hL]at hq;split at hq
  ·rename_i h0;exact ⟨h0,hq⟩
  ·cases hq
 rw [qdC (st:=({st with E:=E,B:=qdP (qjh st.B) q.slot c'}:St)) hL,qdC hL];simp only [qdl,qch];by_cases h0:q'.lvl=0
 ·rw [if_pos h0,if_pos h0];by_cases hs:q'.slot=q.slot
  ·have:q'=q:=by
    obtain ⟨l,s⟩:=q';obtain ⟨l',s'⟩:=q;simp only at h0 hs hq0;rw [h0,hs,hq0.1]
   rw [if_pos hs,if_pos this,hq0.2];rfl
  ·rw [if_neg hs,if_neg (λe=>hs (by rw [e]))]
 ·rw [if_neg h0,if_neg h0,if_neg (λe=>h0 (by rw [e];exact hq0.1))];rfl
theorem qDa{w0:World}{X0:Cx}{Md:Md}{n:Nat}{ops:Array Oper}{s:Nat}{o:Oper}{st st':St}{a:Act}{O:Pl->List Nat}(h:Rel st a.tmps w X O)(hF:Fr w0 X0 Md n st w X O)(hz:n=0->∀b e fz,X0.ω b=some (e,fz)->fz=true)(hM:qdA w0 w X a.defers)
  {t:TypeId} {d:Tmp} {xo:Operand} (hop:o.op=.store t (.tmp d) xo)
  (hpath:∀rt p,qbp P H f ops st.E ops.size s d=some (rt,p,true)->∃v0 b k,qfM w X a.tmps rt v0/\a.tmps.getD d undef=.pointer (some ⟨b,k,none⟩)/\qBV w v0 p b k)
  (hx:qgz P H f ops s o st=some st') :
  o.dst=none/\o.guard=none/\∃w' b,(Instr.storeAt t (a.eval (.tmp d)) (a.eval xo)).run P w=.ok () w'/\Wrote w X w' b/\w'.heap.size=w.heap.size/\∃O',Rel st' a.tmps w' X O'/\Fr w0 X0 Md n st' w' X O'/\qdA w0 w' X a.defers:=by
 unfold qgz at hx;rw [hop]at hx;simp only at hx;split at hx
 ·rename_i hcond;simp only [qe,decide_eq_true_eq,List.isEmpty_iff,Option.isNone_iff_eq_none]at hcond;obtain ⟨⟨⟨⟨⟨⟨⟨⟨hL,hnl⟩,hdst⟩,hgd⟩,hnd⟩,hs0⟩,hxl⟩,hxo⟩,hxp⟩:=hcond;have htk:qah H f o=true:=by simp [qah,hop,qp7]
  have hops:o.op.operands.toList=[.tmp d,xo]:=by rw [hop];rfl
  obtain ⟨Oin,hrep,hs,hlin⟩:=qbz (H:=H) (f:=f) h o o.op.operands.toList (λ_=>hnd);rw [hops]at hrep;simp only [qh,List.map_nil,RepL]at hrep;obtain ⟨u1,vs1,O1,O2,hu1,rfl,hr1,u,vs2,Ox,O4,hu2,rfl,hrx,rfl,rfl⟩:=hrep;simp only [List.cons.injEq]at hu1;obtain ⟨rfl,rfl⟩:=hu1;simp only [List.cons.injEq,and_true]at hu2;subst hu2;simp only [List.append_nil]at hs hlin;have hin:∀k∈Ox,∃t∈tmpsOf o,k∈O (.tmp t):=λk hk=>(hs k (by simp [hk])).2;have hlx:Lin Ox:=hlin.right;obtain ⟨hcells,hones⟩:=qcw hxo hrx;have hul:(a.eval xo).cells.toList.length=(rd H f o st.E xo).cells.length:=(qE _ _ _ hcells).symm;have hyp:ptrsL (rd H f o st.E xo).cells=[]:=qef hxp;refine ⟨hdst,hgd,?_⟩;have hplx:∀pl:Pl,(∀t∈tmpsOf o,pl≠.tmp t)->Lin (O pl++Ox):=λpl hpl k=>by
   rw [List.count_append];have h2:=h.lin pl k;have h3:=hlx k;by_cases hk:k∈Ox
   ·have:(O pl).count k=0:=List.count_eq_zero.2 λhkp=>by
     obtain ⟨t',ht',hkt⟩:=hin k hk;exact h.dis pl (.tmp t') (hpl t' ht') k hkp hkt
    omega
   ·have:=List.count_eq_zero.2 hk;omega
  split at hx
  ·-- the owner is a temporary
   rename_i r p hlk;obtain ⟨v0,b,k,hroot,hptr,hpr⟩:=hpath _ _ hlk;split at hx
   ·cases hx
   ·rename_i hrT;have hrT':r∉tmpsOf o:=by simpa using hrT
    split at hx
    ·rename_i y hy;split at hx
     ·cases hx
     ·rename_i hsoft;have hsoft:y.soft=false:=by simpa using hsoft
      simp only [qb]at hx;subst hx;have hE:=qAP hy;obtain ⟨v1,hv1,hr0⟩:=h.env r _ hE;have:v1=v0:=by
       simp only [qfM]at hroot;rw [<- hroot,Array.getD_eq_getD_getElem?,hv1];rfl
      subst this;cases p with
      |nil=>exact hpr.elim
      |cons q p =>
       obtain ⟨j,o',s'⟩:=q;obtain ⟨off,len,cap,hsl,hj,rfl⟩:=hpr;rw [qdL]at hy;have hpl:∀t∈tmpsOf o,Pl.tmp r≠.tmp t:=λt' ht' e=>hrT' (by cases e;exact ht');obtain ⟨hbO,_,hω,⟨arr,ty,harr,hsize⟩,hy1,hyp',hk⟩:=qr3 hcells hxo hyp _ _ _ _ _ hy hsoft hr0 (hplx _ hpl) hsl;obtain ⟨hW,hcell,hobj⟩:=qr8 (X:=X) (k:=off+j*s'+o') (yv:=(a.eval xo).cells.toList) hω harr (by rw [hul];exact hsize);obtain ⟨A,hA,hcnt⟩:=hk _ hW (by rw [<- hul];exact hcell) hobj;refine ⟨_,b,run_store hs0 hptr harr (by rw [hul];exact hxl) (by rw [hul];exact hsize) hones,hW,by simp,?_⟩;refine qpE h hF hz hM hL (qrn hnl) hW (by simp) rfl rfl rfl hin hlx hpl hbO (by simp [qa0]) hL ?_ (λq=>?_) (λq c' hq=>?_)
       ·intro t' x' hx';simp only [List.getElem?_set]at hx';by_cases hrt:r=t'
        ·subst hrt;rw [if_pos rfl]at hx';split at hx'
         ·cases hx'
          exact .inr ⟨rfl,hyp',v1,hv1,A,hA,hcnt⟩
         ·cases hx'
        ·rw [if_neg hrt,List.getElem?_map]at hx';obtain ⟨x0,h2,rfl⟩:=qc.1 hx';exact .inl ⟨λe=>hrt (by cases e;rfl),x0,h2,rfl⟩
       ·rw [qdC (st:=({st with E:=_,B:=qjh st.B}:St)) hL,qdC hL];simp only [qch];split
        ·simp
        ·rfl
       ·rw [qdC (st:=({st with E:=_,B:=qjh st.B}:St)) hL]at hq;rw [qdC hL];simp only [qch]at hq;split at hq
        ·rename_i h0;obtain ⟨c,hc,rfl⟩:=qc.1 hq;exact ⟨c,by rw [if_pos h0];exact hc,.inl ⟨by simp,rfl⟩⟩
        ·cases hq
    ·cases hx
  ·-- the owner is in a box
   rename_i q off0 p hlk;obtain ⟨v0,b,k,⟨bq,hβ,hroot⟩,hptr,hpr⟩:=hpath _ _ hlk;split at hx
   ·rename_i cs hcs;split at hx
    ·rename_i z hz0;split at hx
     ·rename_i y hy;split at hx
      ·cases hx
      ·rename_i hsoft;have hsoft:y.soft=false:=by simpa using hsoft
       simp only [qb]at hx;subst hx;obtain ⟨bq',hβ',hlt,hωq,hbx⟩:=h.box q cs hcs;rw [hβ]at hβ';cases hβ';have hq0:q.lvl=0/\qu st.B q.slot=some cs:=by
        have:=hcs;rw [qdC hL]at this;split at this
        ·rename_i h0;exact ⟨h0,this⟩
        ·cases this
       have hlp:qc7 cs=false:=qkn hnl hq0.2;obtain ⟨arrq,tyq,harrq,hlq⟩:=hbx.cells hlp;obtain ⟨uz,A1,Oz,A2,hOq,hrz,huz,hclose⟩:=qgl off0 hlq hz0;have hv0:uz=v0:=by
        simp only [World.cell?,harrq]at hroot;have h2:arrq[off0]?=some uz:=by simpa using huz
        rw [h2]at hroot;exact Option.some.inj hroot
       subst hv0;cases p with
       |nil=>exact hpr.elim
       |cons e p =>
        obtain ⟨j,o',s'⟩:=e;obtain ⟨off,len,cap,hsl,hj,rfl⟩:=hpr;rw [qdL]at hy;have hpl:∀t∈tmpsOf o,Pl.box q≠.tmp t:=λt' ht' e=>by cases e
        have hlinz:Lin (Oz++Ox):=λk=>by
         have:=hplx (.box q) hpl k;rw [hOq]at this;simp only [List.count_append]at this ⊢;omega
        obtain ⟨hbO,_,hω,⟨arr,ty,harr,hsize⟩,hy1,hyp',hk⟩:=qr3 hcells hxo hyp _ _ _ _ _ hy hsoft hrz hlinz hsl;obtain ⟨hW,hcell,hobj⟩:=qr8 (X:=X) (k:=off+j*s'+o') (yv:=(a.eval xo).cells.toList) hω harr (by rw [hul];exact hsize);obtain ⟨A,hA,hcnt⟩:=hk _ hW (by rw [<- hul];exact hcell) hobj;have hlq0:=h.lin (.box q) b;rw [hOq]at hlq0;simp only [List.count_append]at hlq0;have hbz:=List.count_pos_iff.2 hbO;obtain ⟨C,hC,hCc⟩:=hclose _ b y A hW (λhm=>by have:=List.count_pos_iff.2 hm;omega) (λhm=>by have:=List.count_pos_iff.2 hm;omega) hA;refine ⟨_,b,run_store hs0 hptr harr (by rw [hul];exact hxl) (by rw [hul];exact hsize) hones,hW,by simp,?_⟩;refine qpE (pl:=.box q) h hF hz hM hL (qrn hnl) hW (by simp) rfl rfl rfl hin hlx hpl (by rw [hOq];simp [hbO]) (by simp [qa0]) hL ?_ (λq'=>?_) (λq' c' hq=>?_)
        ·intro t' x' hx';simp only [List.getElem?_map]at hx';obtain ⟨x0,h2,rfl⟩:=qc.1 hx';exact .inl ⟨by simp,x0,h2,rfl⟩
        ·rw [qif hL hcs];split
         ·rename_i e;rw [e,hcs];rfl
         ·simp
        ·rw [qif hL hcs]at hq;split at hq
         ·rename_i e;subst e;cases hq;refine ⟨cs,hcs,.inr ⟨rfl,?_,λr hr=>?_,λvals hvals hcellq=>?_⟩⟩
          ·exact ⟨hlp,qps hC⟩
          ·obtain ⟨x,hx,hr2⟩:=qA.1 hr;rcases List.mem_or_eq_of_mem_set hx with hx|rfl
           ·exact qke (qA.2 ⟨x,hx,hr2⟩)
           ·rw [hyp']at hr2;simp at hr2
          ·have:vals=arrq.toList:=by
            apply List.ext_getElem?;intro i;have:=hcellq bq hβ i;simp only [World.cell?,harrq]at this;rw [<- this];simp
           subst this;refine ⟨C,hC,λk=>?_⟩;have:=hCc k;have:=hcnt k;rw [hOq];simp only [List.count_append]<;>omega
         ·rename_i hne;obtain ⟨c,hc,rfl⟩:=qc.1 hq;exact ⟨c,hc,.inl ⟨λe=>hne (by cases e;rfl),rfl⟩⟩
     ·cases hx
    ·cases hx
   ·cases hx
  ·cases hx
 ·cases hx
end
section
variable {P:Program} {H:Hints} {f:FuncId} {w w':World} {X X':Cx}
def tv(tmps:Array Value)(t:Tmp):Value:=tmps.getD t undef
def evT(tmps:Array Value):Operand->Value
 |.tmp t=>tv tmps t
 |.const v=>v
 |_=>undef
def qdW(P:Program)(H:Hints)(f:FuncId)(E:List V)(o:Oper)(tmps:Array Value)(w:World)(X:Cx):Prop :=
 match o.op,o.dst with
 |.move (.tmp a),some d=>tv tmps d=tv tmps a
 |.indexAddr t (.tmp a) i,some d=>∀elem,P.underlying t=some (.slice elem)->∃b off len cap k n,tv tmps a=.slice (some ⟨b,off,none⟩) len cap/\evT tmps i=.int k n/\0<=n/\n<(len:Int)/\tv tmps d=.pointer (some ⟨b,off+n.toNat*P.cellsOf elem,none⟩)
 |.fieldAddr t (.tmp a) fd,some d=>∀b off o',tv tmps a=.pointer (some ⟨b,off,none⟩)->qlz P t fd=some o'->tv tmps d=.pointer (some ⟨b,off+o',none⟩)
 |.load t (.tmp a),some d=>qK P t=false->if H.link f a=true then (∃b off v,tv tmps a=.pointer (some ⟨b,off,none⟩)/\w.cell? ⟨b,off,none⟩=some v/\tv tmps d=v/\∃e fz,X.ω b=some (e,fz)/\off<e)
   else ∀r o',E[a]?=some (.ptr r o')->∃b v,tv tmps a=.pointer (some ⟨b,o',none⟩)/\w.cell? ⟨b,o',none⟩=some v/\tv tmps d=v
 |_,_=>True
theorem qa8{o:Oper}{x:Operand}{t:Tmp}(hx:x∈o.op.operands.toList)(e:x=.tmp t):t∈tmpsOf o:=by
 subst e;exact List.mem_filterMap.2 ⟨.tmp t,hx,rfl⟩
theorem qqM{tmps tmps':Array Value}{i:Operand}(h:∀t,i=.tmp t->tv tmps' t=tv tmps t):evT tmps' i=evT tmps i:=by
 cases i<;>first|rfl|exact h _ rfl
theorem qdW.qnD{E E':List V}{o:Oper}{tmps tmps':Array Value}(h:qdW P H f E o tmps w X)(hd:∀d,o.dst=some d->tv tmps' d=tv tmps d)(ht:∀t∈tmpsOf o,tv tmps' t=tv tmps t)
  (hn:qhC H f o=true->(∀b e fz,X.ω b=some (e,fz)->∃e' fz',X'.ω b=some (e',fz')/\e<=e')/\∀b e fz i v,X.ω b=some (e,fz)->i<e->w.cell? ⟨b,i,none⟩=some v->w'.cell? ⟨b,i,none⟩=some v)
  (hb:qlW H f o=true->∀a∈tmpsOf o,∀r o',E'[a]?=some (.ptr r o')->E[a]?=some (.ptr r o')/\∀b,tv tmps a=.pointer (some ⟨b,o',none⟩)->w'.cell? ⟨b,o',none⟩=w.cell? ⟨b,o',none⟩):qdW P H f E' o tmps' w' X':=by
 unfold qdW at h ⊢;split
 ·rename_i a d hop hdst;rw [hop,hdst]at h;rw [hd d hdst,ht a (qa8 (by rw [hop];exact List.mem_singleton.2 rfl) rfl)];exact h
 ·rename_i t a i d hop hdst;rw [hop,hdst]at h;intro elem hu;obtain ⟨b,off,len,cap,k,n,h1,h2,h3,h4,h5⟩:=h elem hu;refine ⟨b,off,len,cap,k,n,?_,?_,h3,h4,?_⟩
  ·rw [ht a (qa8 (x:=.tmp a) (by rw [hop];show _∈[Operand.tmp a,i];simp) rfl)];exact h1
  ·rw [qqM (λt' e=>ht t' (qa8 (by rw [hop];show i∈[Operand.tmp a,i];simp) e))];exact h2
  ·rw [hd d hdst];exact h5
 ·rename_i t a fd d hop hdst;rw [hop,hdst]at h;intro b off o' h1 h2;rw [ht a (qa8 (by rw [hop];exact List.mem_singleton.2 rfl) rfl)]at h1;rw [hd d hdst];exact h b off o' h1 h2
 ·rename_i t a d hop hdst;rw [hop,hdst]at h;have ha:a∈tmpsOf o:=qa8 (by rw [hop];exact List.mem_singleton.2 rfl) rfl;intro hag;have h:=h hag;by_cases hl:H.link f a=true
  ·rw [if_pos hl]at h ⊢;obtain ⟨b,off,v,h1,h2,h3,e,fz,h4,h5⟩:=h;obtain ⟨hω,hc⟩:=hn (by unfold qhC;rw [hop];exact hl);obtain ⟨e',fz',h6,h7⟩:=hω b e fz h4;exact ⟨b,off,v,by rw [ht a ha];exact h1,hc b e fz off v h4 h5 h2,by rw [hd d hdst];exact h3,e',fz',h6,by omega⟩
  ·rw [if_neg hl]at h ⊢;intro r o' hE;have hbl:qlW H f o=true:=by unfold qlW;rw [hop];simpa using hl
   obtain ⟨h1,h2⟩:=hb hbl a ha r o' hE;obtain ⟨b,v,h3,h4,h5⟩:=h r o' h1;exact ⟨b,v,by rw [ht a ha];exact h3,by rw [h2 b h3];exact h4,by rw [hd d hdst];exact h5⟩
 ·trivial
theorem qn2{ops:Array Oper}{d:Tmp}:∀{k c:Nat},qnI ops k d=some c->c<k/\∃o,ops[c]?=some o/\o.dst=some d
 |0,c,h=>by simp [qnI]at h
 |k+1,c,h=>by
  simp only [qnI]at h;split at h
  ·rename_i hk;cases h;cases ho:ops[k]? with
   |none=>rw [ho]at hk;simp at hk
   |some o=>rw [ho]at hk;exact ⟨by omega,o,rfl,by simpa using hk⟩
  ·obtain ⟨h1,h2⟩:=qn2 h;exact ⟨by omega,h2⟩
theorem qcI{tmps:Array Value}{t:Nat}{v:Value}(h:tmps[t]?=some v):tv tmps t=v:=by
 unfold tv;rw [Array.getD_eq_getD_getElem?,h];rfl
theorem qy9{st:St}{tmps:Array Value}{O:Pl->List Nat}(h:Rel st tmps w X O){i:Operand}{j:Nat}(hi:idxOf st.E i=some j){k:IntKind}{n:Int}(hv:evT tmps i=.int k n):n.toNat=j:=by
 have key:∀x:V,qjD x=some j->∀v O,Rep w X x v O->v=.int k n->n.toNat=j:=by
  intro x hx v O hr hv;unfold qjD at hx;split at hx
  ·simp only [Rep]at hr;rw [hr.1]at hv;cases hv;split at hx
   ·exact Option.some.inj hx
   ·cases hx
  ·cases hx
 cases i with
 |tmp t =>
  simp only [idxOf]at hi;cases hE:st.E[t]? with
  |none=>rw [List.getD_eq_getElem?_getD,hE]at hi;simp [qjD]at hi
  |some x =>
   obtain ⟨v,h1,h2⟩:=h.env t x hE;rw [List.getD_eq_getElem?_getD,hE]at hi;exact key x (by simpa using hi) v _ h2 (by rw [<- qcI h1];exact hv)
 |const u =>
  simp only [idxOf]at hi;exact key (.val u) hi u [] (by simp [Rep]) hv
 |_=>simp [idxOf]at hi
theorem qAy{ops:Array Oper}{st:St}{tmps:Array Value}{O:Pl->List Nat}(h:Rel st tmps w X O){s:Nat}{S:List Tmp}(hf:∀c oc,ops[c]?=some oc->qkX H f oc=true->c<s->(∀d,oc.dst=some d->d∈S)->qdW P H f st.E oc tmps w X) :
  ∀(n k:Nat) (d:Tmp) (rt:Rt) (p:Path) (ptr:Bool),k<=s->(∀t∈qcs H f ops n k d,t∈S)->qbp P H f ops st.E n k d=some (rt,p,ptr) ->
   ∃v0,qfM w X tmps rt v0/\(if ptr=true then ∃b k,tv tmps d=.pointer (some ⟨b,k,none⟩)/\qBV w v0 p b k else SlF w v0 p.reverse (tv tmps d)):=by
 intro n;induction n with
 |zero=>intro k d rt p ptr _ _ hx;simp [qbp]at hx
 |succ n ih =>
  intro k d rt p ptr hks hS hx;simp only [qbp]at hx;simp only [qcs]at hS;split at hx
  ·simp only [qb,Prod.mk.injEq]at hx;obtain ⟨rfl,rfl,rfl⟩:=hx;exact ⟨tv tmps d,rfl,by simp [SlF]⟩
  ·rename_i hlk;have hlk:H.link f d=true:=by simpa using hlk
   split at hx
   ·cases hx
   ·rename_i c hc;obtain ⟨hck,oc,hoc,hdst⟩:=qn2 hc;have hfact:=hf c oc hoc (by unfold qkX;rw [hdst];exact hlk) (by omega) (λd' hd'=>by rw [hdst]at hd';cases hd';exact hS d (by simp));rw [hc]at hS;simp only [hlk,hoc,qi,Bool.true_eq_false,if_false]at hS;rw [hoc]at hx;simp only [qi]at hx;unfold qdW at hfact;split at hx
    ·-- move
     rename_i a hop;rw [Option.some.inj hop,hdst]at hfact;simp only at hfact;obtain ⟨v0,h1,h2⟩:=ih c a rt p ptr (by omega) (λt ht=>hS t (by rw [Option.some.inj hop];simp [ht])) hx;exact ⟨v0,h1,by rw [hfact];exact h2⟩
    ·-- indexAddr
     rename_i t a i hop;have hS':∀x∈qcs H f ops n c a,x∈S:=λx hx=>hS x (by rw [Option.some.inj hop];simp [hx]);rw [Option.some.inj hop,hdst]at hfact;simp only at hfact;split at hx
     ·rename_i r q j elem hq hj hu;simp only [qb,Prod.mk.injEq]at hx;obtain ⟨rfl,rfl,rfl⟩:=hx;obtain ⟨v0,h1,h2⟩:=ih c a _ _ _ (by omega) hS' hq;simp only [qf,if_false]at h2;obtain ⟨b,off,len,cap,kk,m,h3,h4,h5,h6,h7⟩:=hfact elem hu;have hj':=qy9 h hj h4;rw [h3]at h2;refine ⟨v0,h1,?_⟩;simp only [if_true];refine ⟨b,_,h7,off,len,cap,h2,by omega,by rw [hj'];omega⟩
     ·cases hx
    ·-- fieldAddr
     rename_i t a fd hop;have hS':∀x∈qcs H f ops n c a,x∈S:=λx hx=>hS x (by rw [Option.some.inj hop];simp [hx]);rw [Option.some.inj hop,hdst]at hfact;simp only at hfact;split at hx
     ·rename_i r j o sz q o' hq ho';simp only [qb,Prod.mk.injEq]at hx;obtain ⟨rfl,rfl,rfl⟩:=hx;obtain ⟨v0,h1,h2⟩:=ih c a _ _ _ (by omega) hS' hq;simp only [if_true]at h2 ⊢;obtain ⟨b,kk,h3,off,len,cap,h4,h5,rfl⟩:=h2;exact ⟨v0,h1,b,_,hfact b _ o' h3 ho',off,len,cap,h4,h5,by omega⟩
     ·cases hx
    ·-- load
     rename_i t a hop;rw [Option.some.inj hop,hdst]at hfact;simp only at hfact;split at hx
     ·cases hx
     ·rename_i hag;have hfact:=hfact (by simpa using hag);split at hx
      ·rename_i hla;rw [if_pos hla]at hfact;have hS':∀x∈qcs H f ops n c a,x∈S:=λx hx=>hS x (by rw [Option.some.inj hop];simp [hla,hx]);split at hx
       ·rename_i r q hq;simp only [qb,Prod.mk.injEq]at hx;obtain ⟨rfl,rfl,rfl⟩:=hx;obtain ⟨v0,h1,h2⟩:=ih c a _ _ _ (by omega) hS' hq;simp only [if_true]at h2;obtain ⟨b,kk,h3,hpr⟩:=h2;obtain ⟨b',off',v,h4,h5,h6,_⟩:=hfact;rw [h3]at h4;cases h4;refine ⟨v0,h1,?_⟩;simp only [qf,if_false];cases q with
        |nil=>exact hpr.elim
        |cons e q =>
         obtain ⟨j,o,sz⟩:=e;obtain ⟨off,len,cap,h7,h8,rfl⟩:=hpr;rw [qdL,h6];exact h7.snoc h8 h5
       ·cases hx
      ·rename_i hla;rw [if_neg hla]at hfact;split at hx
       ·rename_i r off hE;simp only [qb,Prod.mk.injEq]at hx;obtain ⟨rfl,rfl,rfl⟩:=hx;have hE':st.E[a]?=some (.ptr r off):=by
         rw [List.getD_eq_getElem?_getD]at hE;cases hh:st.E[a]? with
         |none=>rw [hh]at hE;simp at hE
         |some x=>rw [hh]at hE;simpa using hE
        obtain ⟨b,v,h3,h4,h5⟩:=hfact r off hE';obtain ⟨u,hu,hr⟩:=h.env a _ hE';simp only [Rep]at hr;obtain ⟨_,b',hb',rfl⟩:=hr;rw [qcI hu]at h3;cases h3;exact ⟨v,⟨b,hb',h4⟩,by simp [SlF,h5]⟩
       ·cases hx
    ·cases hx
theorem qCk{ops:Array Oper}{st:St}{tmps:Array Value}{O:Pl->List Nat}(h:Rel st tmps w X O){s:Nat}(hf:∀c oc,ops[c]?=some oc->qkX H f oc=true->c<s->qdW P H f st.E oc tmps w X) :
  ∀(n k:Nat) (d:Tmp) (rt:Rt) (p:Path) (ptr:Bool),k<=s->qbp P H f ops st.E n k d=some (rt,p,ptr) ->
   ∃v0,qfM w X tmps rt v0/\(if ptr=true then ∃b k,tv tmps d=.pointer (some ⟨b,k,none⟩)/\qBV w v0 p b k else SlF w v0 p.reverse (tv tmps d)):=by
 intro n k d rt p ptr hks hx;exact qAy (S:=qcs H f ops n k d) h (s:=s) (λc oc hoc hl hc _=>hf c oc hoc hl hc) n k d rt p ptr hks (λ_ h=>h) hx
theorem qdJ{ops:Array Oper}{E E':List V}:∀(n k:Nat) (d:Tmp),(∀t∈qcs H f ops n k d,E'[t]?=E[t]?)->qbp P H f ops E' n k d=qbp P H f ops E n k d
 |0,k,d,h=>rfl
 |n+1,k,d,h=>by
  simp only [qbp];simp only [qcs]at h;split
  ·rfl
  ·rename_i hlk;have hlk:H.link f d=true:=by simpa using hlk
   simp only [hlk,Bool.true_eq_false,if_false]at h;cases hc:qnI ops k d with
   |none=>rfl
   |some c =>
    rw [hc]at h;simp only at h ⊢;split
    ·rename_i a hop;rw [hop]at h;exact qdJ n c a λt ht=>h t (by simp [ht])
    ·rename_i t a i hop;rw [hop]at h;have h1:qbp P H f ops E' n c a=qbp P H f ops E n c a:=qdJ n c a λt ht=>h t (by simp [ht]);have h2:idxOf E' i=idxOf E i:=by
      cases i with
      |tmp x =>
       simp only [idxOf];rw [getD_congr (h x (by simp))]
      |_=>rfl
     rw [h1,h2]
    ·rename_i t a fd hop;rw [hop]at h;rw [qdJ n c a λt ht=>h t (by simp [ht])]
    ·rename_i t a hop;rw [hop]at h;simp only at h;by_cases hla:H.link f a=true
     ·rw [if_pos hla,if_pos hla,qdJ n c a λt ht=>h t (by simp [hla,ht])]
     ·rw [if_neg hla,if_neg hla,getD_congr (h a (by simp))]
    ·rfl
theorem qex{ops:Array Oper}{E:List V}:∀(n k:Nat) (d r:Tmp) (p:Path) (b:Bool),qbp P H f ops E n k d=some (.tmp r,p,b)->r∈qcs H f ops n k d
 |0,k,d,r,p,b,hx=>by simp [qbp]at hx
 |n+1,k,d,r,p,b,hx=>by
  simp only [qbp]at hx;simp only [qcs];split at hx
  ·simp only [qb,Prod.mk.injEq,Rt.tmp.injEq]at hx;rw [hx.1];simp
  ·rename_i hlk;have hlk:H.link f d=true:=by simpa using hlk
   simp only [hlk,Bool.true_eq_false,if_false];cases hc:qnI ops k d with
   |none=>rw [hc]at hx;cases hx
   |some c =>
    rw [hc]at hx;simp only at hx ⊢;split at hx
    ·rename_i a hop;first|rw [hop]|skip
     simp [qex n c a r p b hx]
    ·rename_i t a i hop;first|rw [hop]|skip
     split at hx
     ·rename_i r' p' j elem hq hj hu;simp only [qb,Prod.mk.injEq]at hx;obtain ⟨rfl,_,_⟩:=hx;simp [qex n c a r _ _ hq]
     ·cases hx
    ·rename_i t a fd hop;first|rw [hop]|skip
     split at hx
     ·rename_i r' j o sz p' o' hq ho';simp only [qb,Prod.mk.injEq]at hx;obtain ⟨rfl,_,_⟩:=hx;simp [qex n c a r _ _ hq]
     ·cases hx
    ·rename_i t a hop;first|rw [hop]|skip
     split at hx
     ·cases hx
     ·by_cases hla:H.link f a=true
      ·rw [if_pos hla]at hx;split at hx
       ·rename_i r' p' hq;simp only [qb,Prod.mk.injEq]at hx;obtain ⟨rfl,_,_⟩:=hx;simp [hla,qex n c a r _ _ hq]
       ·cases hx
      ·rw [if_neg hla]at hx;split at hx<;>simp at hx
    ·cases hx
end
section
variable {P:Program} {H:Hints} {f:FuncId} {C:Orc} {w w':World} {X X':Cx}
theorem qjK{t:TypeId}{d:TypeDesc}{b off:Nat}{v:Value}(hu:P.underlying t=some d)(hag:qK P t=false)(hc:w.cell? ⟨b,off,none⟩=some v):(Instr.loadAt t (.pointer (some ⟨b,off,none⟩))).run P w=.ok v w:=by
 simp only [Instr.loadAt,Instr.sureAddr,Sem.run_bind,Sem.run_pure,Result.andThen_ok];refine qdM (vals:=[v]) hu (λi u hi=>?_) (by simp [hag]);cases i with
 |zero=>simp at hi;subst hi;simpa using hc
 |succ i=>simp at hi
theorem qCL{F:Fence}{o:Oper}{a:Act}{K:Act->World->Prop}{Q:Exit->Act->World->Prop}{v:Value}(hnd:∀c,o.op≠.defer c)(hrun:(execOp a.eval o).run P w=.ok (.value v) w') :
  o.wpIn F 0 P a w K Q↔(∀g,o.about P w a.eval=some g->F.fn g)/\K (a.put o.dst v) w':=by
 unfold Oper.wpIn;rw [Oper.semAt_eq _ _ _ hnd,hrun,Oper.uponIn_value]
theorem qrL(ρ:Operand->Value)(o:Oper){s:Sem Value}{v:Value}(h:execOp ρ o=(do pure (Next.value (<- s))))(hs:s.run P w=.ok v w'):(execOp ρ o).run P w=.ok (.value v) w':=by
 rw [h];exact qp0 hs
theorem qlb{o:Oper}{st st':St}{fp:Fp}(hx:qd3 P H C f o st=some (st',fp)) :
  (qah H f o=true->qeA (tmpsOf o)=true)/\∃z s,qbr P H C f o (o.op.operands.toList.map (rd H f o st.E)) {st with E:=qx st.E (if qah H f o=true then tmpsOf o else [])}=some (z,s,fp)/\st'=s.put o.dst z:=by
 unfold qd3 at hx;split at hx
 ·cases hx
 ·rename_i hn0;obtain ⟨⟨z,s,fp'⟩,hm,he⟩:=qc.1 hx;obtain ⟨rfl,rfl⟩:=Prod.mk.inj he;refine ⟨λht=>by simpa [ht]using hn0,z,s,?_,rfl⟩;rw [<- hm];congr 1
  split<;>rfl
theorem qut{w0:World}{X0:Cx}{Md:Md}{n:Nat}{st st':St}{a:Act}{O:Pl->List Nat}{o:Oper}{fp:Fp}(h:Rel st a.tmps w X O)(hF:Fr w0 X0 Md n st w X O)(hx:qd3 P H C f o st=some (st',fp))(ht:qc5 o.op=true) :
  (∀c,o.op≠.defer c)/\∃v w',(execOp a.eval o).run P w=.ok (.value v) w'/\∀b,b<w.heap.size->X.ω b=none->w'.heap[b]?=w.heap[b]?:=by
 obtain ⟨hn,z,s,hm,_⟩:=qlb hx;obtain ⟨Oin,hrep,hs,hlin⟩:=qbz (H:=H) (f:=f) h o _ hn;rcases qns hm with ⟨t,d,z0,hop,_⟩|⟨t,ao,d,x,hop,_⟩|⟨c,fo,fv,args,hop,hcal,_⟩|⟨hr,hsem,rfl,_⟩|⟨r,hr,hsem,rfl,_⟩|⟨r,c,hr,hsem,hall,rfl,_⟩|⟨c,fo,fv,args,hop,hcal,_⟩|⟨hmo,hmp⟩
 ·rw [hop]at ht;simp [qc5]at ht
 ·rw [hop]at ht;simp [qc5]at ht
 ·rw [hop]at ht;obtain ⟨cal,a1,a2⟩:=c;simp only at hcal;subst hcal;simp [qc5]at ht
 ·have hnd:∀c,o.op≠.defer c:=by intro c hc;rw [hc]at hsem;simp [qaQ]at hsem
  obtain ⟨v,w',X',O',hrun,heff,_⟩:=qt7 h.dom hlin hsem hrep;refine ⟨hnd,v,w',hrun,λb hb hω=>heff.kept b hb λhbO=>?_⟩;obtain ⟨e,he⟩:=repL_own _ _ _ hrep b hbO;rw [hω]at he;cases he
 ·obtain ⟨off,rest,hxs,hop⟩:=qbL hr;rcases hop with ⟨t,ao,hop⟩|⟨t,ao,xo,hop⟩
  ·have hops:o.op.operands.toList=[ao]:=by rw [hop];rfl
   rw [hops]at hrep hxs;simp only [qh,List.map_nil,List.cons.injEq]at hxs;obtain ⟨hx1,rfl⟩:=hxs;simp only [qh,List.map_nil,RepL]at hrep;obtain ⟨u,vs,O1,O2,hu,rfl,hr1,rfl,rfl⟩:=hrep;simp only [List.cons.injEq,and_true]at hu;subst hu;rw [hx1]at hr1;refine ⟨(by intro c hc;rw [hop]at hc;cases hc),?_⟩;have hbx:∃cs,st.box r=some cs:=by
    cases hh:st.box r with
    |some cs=>exact ⟨cs,rfl⟩
    |none=>rw [hops,qh,List.map_nil,hx1,hop,qcU,hh]at hsem;simp [qaQ]at hsem
   obtain ⟨cs,hcs⟩:=hbx;rw [hops,qh,List.map_nil,hx1,hop,qcU,hcs]at hsem;simp only [qaQ]at hsem;obtain ⟨v,hrun,_⟩:=qhk (dst:=o.dst) (tk:=qah H f o) h hF hr1 hcs hsem;exact ⟨v,w,by simp only [execOp,hop,Sem.run_bind,hrun,Result.andThen_ok,Sem.run_pure],λ_ _ _=>rfl⟩
  ·rw [hop]at ht;simp [qc5]at ht
 ·obtain ⟨off,rest,hxs,hop⟩:=qbL hr;rcases hop with ⟨t,ao,hop⟩|⟨t,ao,xo,hop⟩
  ·have hops:o.op.operands.toList=[ao]:=by rw [hop];rfl
   rw [hops]at hrep hxs;simp only [qh,List.map_nil,List.cons.injEq]at hxs;obtain ⟨hx1,rfl⟩:=hxs;simp only [qh,List.map_nil,RepL]at hrep;obtain ⟨u,vs,O1,O2,hu,rfl,hr1,rfl,rfl⟩:=hrep;simp only [List.cons.injEq,and_true]at hu;subst hu;rw [hx1]at hr1;refine ⟨(by intro c hc;rw [hop]at hc;cases hc),?_⟩;have hbx:∃cs,st.box r=some cs:=by
    cases hh:st.box r with
    |some cs=>exact ⟨cs,rfl⟩
    |none=>rw [hops,qh,List.map_nil,hx1,hop,qcU,hh]at hsem;simp [qaQ]at hsem
   obtain ⟨cs,hcs⟩:=hbx;rw [hops,qh,List.map_nil,hx1,hop,qcU,hcs]at hsem;simp only [qaQ]at hsem;obtain ⟨v,hrun,_⟩:=qhk (dst:=o.dst) (tk:=qah H f o) h hF hr1 hcs hsem;exact ⟨v,w,by simp only [execOp,hop,Sem.run_bind,hrun,Result.andThen_ok,Sem.run_pure],λ_ _ _=>rfl⟩
  ·rw [hop]at ht;simp [qc5]at ht
 ·rw [hop]at ht;obtain ⟨cal,a1,a2⟩:=c;simp only at hcal;subst hcal;simp [qc5]at ht
 ·obtain ⟨v,w',r,hrun,hr,hk,_⟩:=qon (n:=n) (h.taken (if qah H f o=true then tmpsOf o else [])) (Fr.taken h hF _) hrep hmp;obtain ⟨rfl,rfl⟩:=hk ht;exact ⟨λc hc=>(by rw [hc]at hmo;simp [qcJ]at hmo),v,_,hrun,λ_ _ _=>rfl⟩
theorem qz0(hC:OrcOk P C){F:Fence}(hFF:F=Fence.wide\/∃l,F=Fence.wide.inRound l){w0:World}{X0:Cx}{Md:Md}{n:Nat}{st st':St}{a:Act}{O:Pl->List Nat}{o:Oper}{fp:Fp}(h:Rel st a.tmps w X O)(hF:Fr w0 X0 Md n st w X O)
  (hx:qd3 P H C f o st=some (st',fp)) {K:Act->World->Prop} {Q:Exit->Act->World->Prop}
  (hK:∀v w',Sim w0 X0 Md n st' (a.put o.dst v).tmps w'->(qc5 o.op=true->(∀b,b<w.heap.size->X.ω b=none->w'.heap[b]?=w.heap[b]?)/\∀v0,(execOp a.eval o).run P w=.ok (.value v0) w->v=v0/\w'=w)->K (a.put o.dst v) w'):o.wpIn F 0 P a w K Q:=by
 have hstep:qjT P H C f o st=some st':=by unfold qjT;rw [hx];rfl
 cases ht:qc5 o.op with
 |false=>exact qtl hC hFF ⟨X,O,h,hF⟩ hstep λv w' hS=>hK v w' hS λh=>by rw [ht]at h;cases h
 |true =>
  obtain ⟨hnd,v,w1,hrun,hkept⟩:=qut h hF hx ht;have h1:o.wpIn F 0 P a w (λa' w'=>Sim w0 X0 Md n st' a'.tmps w') Q:=qtl hC hFF ⟨X,O,h,hF⟩ hstep λv w' hS=>hS;rw [qCL hnd hrun]at h1 ⊢;refine ⟨h1.1,hK v w1 h1.2 λ_=>⟨hkept,λv0 h0=>?_⟩⟩;rw [hrun]at h0;simp only [Result.ok.injEq,Next.value.injEq]at h0;exact h0
theorem qux{a:Act}{d:Option Tmp}{v:Value}{t:Tmp}(h:d≠some t):tv (a.put d v).tmps t=tv a.tmps t:=by
 unfold tv Act.put;cases d with
 |none=>rfl
 |some d =>
  have:d≠t:=λe=>h (by rw [e]);simp [Array.getD_eq_getD_getElem?,this]
theorem qny{a:Act}{d:Tmp}{v:Value}(h:d<a.tmps.size):tv (a.put (some d) v).tmps d=v:=by
 unfold tv Act.put;simp [Array.getD_eq_getD_getElem?,h]
theorem quK{w0:World}{X0:Cx}{Md:Md}{n:Nat}{st st':St}{a:Act}{O:Pl->List Nat}{o:Oper}{fp:Fp}(h:Rel st a.tmps w X O)(hF:Fr w0 X0 Md n st w X O)(hlk:qkX H f o=true)(hself:∀d,o.dst=some d->d∉tmpsOf o)(hgate:qdZ H f o st.E=true)
  (hx:qd3 P H C f o st=some (st',fp)) :
  (∀E' tmps' w' X',qdW P H f E' o tmps' w' X')\/(qc5 o.op=true/\∃v,(execOp a.eval o).run P w=.ok (.value v) w/\∀(E':List V) (X':Cx),(∀b e fz,X.ω b=some (e,fz)->∃e' fz',X'.ω b=some (e',fz')/\e<=e') ->
   (∀t∈tmpsOf o,∀r o',E'[t]?=some (.ptr r o')->st.E[t]?=some (.ptr r o'))->qdW P H f E' o (a.put o.dst v).tmps w X'):=by
 obtain ⟨hn,z,s,hm,_⟩:=qlb hx;obtain ⟨Oin,hrep,hs,hlin⟩:=qbz (H:=H) (f:=f) h o _ hn;obtain ⟨d,hdst⟩:∃d,o.dst=some d:=by
  cases hd:o.dst with
  |none=>unfold qkX at hlk;rw [hd]at hlk;cases hlk
  |some d=>exact ⟨d,rfl⟩
 have hgate':=hgate;unfold qdZ at hgate';rw [hlk,hdst]at hgate';simp only [Bool.not_true,Bool.false_or,qe,decide_eq_true_eq]at hgate';obtain ⟨hdlt,hgl⟩:=hgate';have hdsz:d<a.tmps.size:=by rw [h.size];exact hdlt
 have hdn:=hself d hdst;have htv:∀t∈tmpsOf o,∀v,tv (a.put o.dst v).tmps t=tv a.tmps t:=λt ht v=>qux (λe=>hdn (by rw [hdst]at e;cases e;exact ht));have htvd:∀v,tv (a.put o.dst v).tmps d=v:=λv=>by rw [hdst];exact qny hdsz
 have hev:∀t,a.eval (.tmp t)=tv a.tmps t:=λt=>rfl;by_cases hkind:(∃a0,o.op=.move (.tmp a0))\/(∃t a0 i,o.op=.indexAddr t (.tmp a0) i)\/(∃t a0 fd,o.op=.fieldAddr t (.tmp a0) fd)\/(∃t a0,o.op=.load t (.tmp a0))
 case neg =>
  left
  intro E' tmps' w' X';unfold qdW;split
  ·rename_i a0 _ hop _;exact absurd (.inl ⟨a0,hop⟩) hkind
  ·rename_i t a0 i _ hop _;exact absurd (.inr (.inl ⟨t,a0,i,hop⟩)) hkind
  ·rename_i t a0 fd _ hop _;exact absurd (.inr (.inr (.inl ⟨t,a0,fd,hop⟩))) hkind
  ·rename_i t a0 _ hop _;exact absurd (.inr (.inr (.inr ⟨t,a0,hop⟩))) hkind
  ·trivial
 case pos =>
 right
 rcases hkind with ⟨a0,hop⟩|⟨t,a0,i,hop⟩|⟨t,a0,fd,hop⟩|⟨t,a0,hop⟩
 ·refine ⟨by rw [hop];rfl,a.eval (.tmp a0),by simp [execOp,hop],λE' X' _ _=>?_⟩;unfold qdW;rw [hop,hdst];simp only
  rw [<- hdst,htvd,htv a0 (qa8 (by rw [hop];exact List.mem_singleton.2 rfl) rfl)];exact hev a0
 ·have hops:o.op.operands.toList=[.tmp a0,i]:=by rw [hop];rfl
  rw [hops]at hrep hm;simp only [qh,List.map_nil,RepL]at hrep;obtain ⟨u,vs,O1,O2,hu,rfl,hr1,u2,vs2,O3,O4,hu2,rfl,hr2,rfl,rfl⟩:=hrep;simp only [List.cons.injEq]at hu;obtain ⟨rfl,rfl⟩:=hu;simp only [List.cons.injEq,and_true]at hu2;subst hu2;have hy:∃y,qbi P t (rd H f o st.E (.tmp a0)) (rd H f o st.E i)=some y:=by
   rw [qZ (by rw [hop];rfl)]at hm;unfold qc8 at hm;rw [hop,if_neg (by simp [qcJ])]at hm;simp only [qh,List.map_nil,rootOf,qaQ]at hm;cases hv:qbi P t (rd H f o st.E (.tmp a0)) (rd H f o st.E i)with
   |none=>rw [hv]at hm;simp at hm
   |some y=>exact ⟨y,rfl⟩
  obtain ⟨y,hy⟩:=hy;obtain ⟨v',hrun,_⟩:=qk3 hy hr1 hr2;refine ⟨by rw [hop];rfl,v',qrL _ _ (by simp only [execOp,hop]) hrun,λE' X' _ _=>?_⟩;unfold qdW;rw [hop,hdst];simp only
  intro elem hul;rw [<- hdst,htvd,htv a0 (qa8 (x:=.tmp a0) (by rw [hops];simp) rfl)];have hev2:evT (a.put o.dst v').tmps i=evT a.tmps i:=qqM λt' e=>htv t' (qa8 (x:=i) (by rw [hops];simp) e) v';rw [hev2];have hy':=hy;unfold qbi at hy';split at hy'
  ·rename_i k m hi0;rw [hi0]at hr2;simp only [Rep]at hr2;obtain ⟨hiv,_⟩:=hr2;rw [hul]at hy';split at hy'
   ·rename_i hh _;cases hh
   ·rename_i hh _;cases hh
   ·rename_i el fl c l hh hx0;cases hh;split at hy'
    ·rename_i h0;split at hy'
     ·rename_i e he;split at hy'
      ·rename_i hc;obtain ⟨hlen,hok,hz0,_⟩:=hc;rw [hx0]at hr1;simp only [Rep]at hr1;obtain ⟨_,hr1⟩:=hr1;rcases hr1 with ⟨rfl,_⟩|⟨b,off,cap,sz,vals,O',hv1,hcap,_⟩
       ·simp at he
       ·have hlt:m<(l.length:Int):=by have:=(qm.1 he).1;omega
        have hrun2:(Instr.indexAt t (a.eval (.tmp a0)) (a.eval i)).run P w=.ok (.pointer (some ⟨b,off+m.toNat*P.cellsOf elem,none⟩)) w:=by
         rw [hv1,hiv];simp [Instr.indexAt,asIntOf,run_underlying hul,h0,hlt,qaE hz0,Addr.add_lit]
        rw [hrun]at hrun2;simp only [Result.ok.injEq,and_true]at hrun2;refine ⟨b,off,l.length,cap,k,m,by rw [<- hev];exact hv1,?_,h0,hlt,hrun2⟩;cases i with
        |tmp t'=>exact hiv
        |const u=>exact hiv
        |_=>simp only [rd]at hi0;cases hi0
      ·cases hy'
     ·cases hy'
    ·cases hy'
   ·cases hy'
  ·cases hy'
 ·have hops:o.op.operands.toList=[.tmp a0]:=by rw [hop];rfl
  rw [hops]at hrep hm;simp only [qh,List.map_nil,RepL]at hrep;obtain ⟨u,vs,O1,O2,hu,rfl,hr1,rfl,rfl⟩:=hrep;simp only [List.cons.injEq,and_true]at hu;subst hu;have hy:∃y,qcm P t (rd H f o st.E (.tmp a0)) fd=some y:=by
   rw [qZ (by rw [hop];rfl)]at hm;unfold qc8 at hm;rw [hop,if_neg (by simp [qcJ])]at hm;simp only [qh,List.map_nil,rootOf,qaQ]at hm;cases hv:qcm P t (rd H f o st.E (.tmp a0)) fd with
   |none=>rw [hv]at hm;simp at hm
   |some y=>exact ⟨y,rfl⟩
  obtain ⟨y,hy⟩:=hy;obtain ⟨v',hrun,_⟩:=qk2 hy hr1;refine ⟨by rw [hop];rfl,v',qrL _ _ (by simp only [execOp,hop]) hrun,λE' X' _ _=>?_⟩;unfold qdW;rw [hop,hdst];simp only
  intro b off o' hv1 ho';rw [<- hdst,htvd];rw [<- hdst,htv a0 (qa8 (x:=.tmp a0) (by rw [hops];simp) rfl)]at hv1;have hy':=hy;unfold qcm at hy';unfold qlz at ho';cases hul:P.underlying t with
  |none=>rw [hul]at hy';cases hy'
  |some td =>
   rw [hul]at hy' ho';cases td with
   |struct fields =>
    simp only at hy' ho';cases hf:fields[fd]? with
    |none=>rw [hf]at ho';cases ho'
    |some g =>
     rw [hf]at hy' ho';simp only [qi,qb]at ho';subst ho';simp only at hy';by_cases hz0:P.cellsOf g.type=0
     ·rw [if_pos hz0]at hy';cases hy'
     ·have hrun2:(Instr.fieldAt t (a.eval (.tmp a0)) fd).run P w=.ok (.pointer (some ⟨b,off+g.offset,none⟩)) w:=by
       rw [hev,hv1];simp [Instr.fieldAt,run_underlying hul,hf,Instr.sureAddr,fieldPlace,qaE hz0,hz0,Addr.add_lit]
      rw [hrun]at hrun2;simp only [Result.ok.injEq,and_true]at hrun2;exact hrun2
   |_=>cases ho'
 ·have hops:o.op.operands.toList=[.tmp a0]:=by rw [hop];rfl
  have htame:qc5 o.op=true:=by rw [hop];rfl
  obtain ⟨_,v,w1,hrun0,_⟩:=qut h hF hx htame;rw [hops]at hrep hm;simp only [qh,List.map_nil,RepL]at hrep;obtain ⟨u,vs,O1,O2,hu,rfl,hr1,rfl,rfl⟩:=hrep;simp only [List.cons.injEq,and_true]at hu;subst hu;have hma:a0∈tmpsOf o:=qa8 (x:=.tmp a0) (by rw [hops];simp) rfl
  have hcase:∃td,P.underlying t=some td/\((∃fl cs,rd H f o st.E (.tmp a0)=.cptr fl cs/\∃y,qad P t cs=some y)\/∃r off cs,rd H f o st.E (.tmp a0)=.ptr r off/\st.box r=some cs/\qc7 cs=false/\∃y,qad P t (cs.drop off)=some y):=by
   rw [qZ (by rw [hop];rfl)]at hm;unfold qc8 at hm;rw [hop,if_neg (by simp [qcJ])]at hm;simp only [qh,List.map_nil]at hm;have hu':∀cs y,qad P t cs=some y->∃td,P.underlying t=some td:=λcs y hy=>by
    unfold qad at hy;cases hul:P.underlying t with
    |none=>rw [hul]at hy;cases hy
    |some td=>exact ⟨td,rfl⟩
   cases hx0:rd H f o st.E (.tmp a0)with
   |cptr fl cs =>
    rw [hx0]at hm;simp only [rootOf,qaQ]at hm;cases hy:qad P t cs with
    |none=>rw [hy]at hm;simp at hm
    |some y=>obtain ⟨td,htd⟩:=hu' cs y hy;exact ⟨td,htd,.inl ⟨fl,cs,rfl,y,hy⟩⟩
   |ptr r off =>
    rw [hx0]at hm;simp only [rootOf,qaQ,qcU]at hm;cases hbx:st.box r with
    |none=>rw [hbx]at hm;simp at hm
    |some cs =>
     rw [hbx]at hm;simp only at hm;cases hlp:qc7 cs with
     |true=>rw [hlp]at hm;simp at hm
     |false =>
      cases hy:qad P t (cs.drop off)with
      |none=>rw [hlp,hy]at hm;simp at hm
      |some y=>obtain ⟨td,htd⟩:=hu' _ y hy;exact ⟨td,htd,.inr ⟨r,off,cs,rfl,hbx,hlp,y,hy⟩⟩
   |_=>rw [hx0]at hm;simp [rootOf,qaQ]at hm
  obtain ⟨td,htd,hcase⟩:=hcase
  have hw1:w1=w:=by
   rcases hcase with ⟨fl,cs,hx0,y,hy⟩|⟨r,off,cs,hx0,hbx,hlp,y,hy⟩
   ·rw [hx0]at hr1;simp only [Rep]at hr1;obtain ⟨_,b,off,vals,hv1,hseg,_,hl,_⟩:=hr1;obtain ⟨v2,_,_,_,hvv,_⟩:=qgn hy hl;have:(execOp a.eval o).run P w=.ok (.value v2) w:=qrL (s:=Instr.loadAt t (a.eval (.tmp a0))) _ _ (by simp only [execOp,hop]) (by
     rw [hv1];simp only [Instr.loadAt,Instr.sureAddr,Sem.run_bind,Sem.run_pure,Result.andThen_ok];exact qdM htd hseg hvv)
    rw [hrun0]at this;cases this;rfl
   ·rw [hx0]at hr1;obtain ⟨v2,hrun2,_⟩:=qhk (tk:=false) (t:=t) (ao:=.tmp a0) (dst:=none) (z:=y.qab) (c:=none) h hF hr1 hbx (by rw [hlp,hy];rfl);have:(execOp a.eval o).run P w=.ok (.value v2) w:=qrL _ _ (by simp only [execOp,hop]) hrun2;rw [hrun0]at this;cases this;rfl
  subst hw1;refine ⟨htame,v,hrun0,λE' X' hω hE=>?_⟩;have hload:∀{b off:Nat} {v2:Value},qK P t=false->tv a.tmps a0=.pointer (some ⟨b,off,none⟩)->w1.cell? ⟨b,off,none⟩=some v2->v=v2:=λhag hp hc=>by
   have:=qjK htd hag hc;have h2:=qrL (P:=P) (w:=w1) a.eval o (s:=Instr.loadAt t (a.eval (.tmp a0))) (by simp only [execOp,hop]) (by rw [hev,hp];exact this);rw [hrun0]at h2;cases h2;rfl
  unfold qdW;rw [hop,hdst];simp only
  intro hag;rw [<- hdst,htvd];by_cases hla:H.link f a0=true
  ·rw [if_pos hla];rw [hop]at hgl;simp only [hla,Bool.not_true,Bool.false_or]at hgl;have hcp:∃fl cs,rd H f o st.E (.tmp a0)=.cptr fl cs/\∃y,qad P t cs=some y:=by
    rcases hcase with h1|⟨r,off,cs,hx0,_⟩
    ·exact h1
    ·exfalso
     simp only [rd]at hx0;cases hE0:st.E.getD a0 .undef with
     |cptr fl l=>rw [hE0]at hx0;split at hx0<;>simp [V.qab,V.reflag]at hx0
     |_=>rw [hE0]at hgl;simp [qtS]at hgl
   obtain ⟨fl,cs,hx0,y,hy⟩:=hcp;rw [hx0]at hr1;simp only [Rep]at hr1;obtain ⟨_,b,off,vals,hv1,hseg,⟨e,fz,hωb,hle,_⟩,hl,_⟩:=hr1;have hy':=hy;unfold qad at hy';rw [htd]at hy';simp only [hag,qf,if_false]at hy';cases cs with
   |nil=>simp at hy'
   |cons c0 cs =>
    have hl':=qE _ _ _ hl;cases vals with
    |nil=>simp at hl'
    |cons v2 vals =>
     have hc:=hseg 0 v2 rfl;simp only [Nat.add_zero]at hc;obtain ⟨e',fz',h1,h2⟩:=hω b e fz hωb;have hvv:=hload hag (by rw [<- hev];exact hv1) hc;refine ⟨b,off,v2,?_,hc,hvv,e',fz',h1,?_⟩
     ·rw [htv a0 hma,<- hev];exact hv1
     ·simp only [List.length_cons]at hle;omega
  ·rw [if_neg hla];intro r o' hE';have hE0:=hE a0 hma r o' hE';obtain ⟨u0,hu0,hr0⟩:=h.env a0 _ hE0;simp only [Rep]at hr0;obtain ⟨_,b,hb,rfl⟩:=hr0;have hrd:rd H f o st.E (.tmp a0)=.ptr r o':=by
    simp only [rd,List.getD_eq_getElem?_getD,hE0,Option.getD_some];split<;>rfl
   rcases hcase with ⟨fl,cs,hx0,_⟩|⟨r2,off,cs,hx0,hbx,hlp,y,hy⟩
   ·rw [hrd]at hx0;cases hx0
   ·rw [hrd]at hx0;cases hx0;obtain ⟨b',hb',_,_,hbr⟩:=h.box r cs hbx;rw [hb]at hb';cases hb';obtain ⟨arr,ty,harr,hl⟩:=hbr.cells hlp;have hy':=hy;unfold qad at hy';rw [htd]at hy';simp only [hag,qf,if_false,List.head?_drop]at hy';obtain ⟨v2,Oi,hv2,_⟩:=qlL o' hl hy';have hc:w1.cell? ⟨b,o',none⟩=some v2:=by simp only [World.cell?,harr];simpa using hv2
    refine ⟨b,v2,?_,hc,hload hag (qcI hu0) hc⟩;rw [htv a0 hma];exact qcI hu0
end
section
variable {P:Program} {H:Hints} {f:FuncId} {C:Orc} {w w':World} {X X':Cx}
theorem RepE.swap{s:Nat}:∀{l:List V} {vals:List Value} {O:List Nat} (j:Nat) {e:V},RepE w X s l vals O->l[j]?=some e ->
  ∃u O1 Oe O2,O=O1++Oe++O2/\Rep w X e u Oe/\u.cells.size=s/\(∀i,i<s->vals[j*s+i]?=u.cells.toList[i]?) /\
   ∀(e':V) (Oe':List Nat),Rep w X e' u Oe'->RepE w X s (l.set j e') vals (O1++Oe'++O2)
 |[],vals,O,j,e,h,hj=>by simp at hj
 |y::l,vals,O,0,e,h,hj=>by
  simp only [RepE]at h;obtain ⟨u,vs,A,B,rfl,hsz,rfl,h1,h2⟩:=h;simp at hj;subst hj;have hl:u.cells.toList.length=s:=by simpa using hsz
  refine ⟨u,[],A,B,by simp,h1,hsz,λi hi=>?_,λe' Oe' hr=>?_⟩
  ·rw [Nat.zero_mul,Nat.zero_add,qg (by omega)]
  ·simp only [List.set_cons_zero,RepE,List.nil_append];exact ⟨u,vs,Oe',B,rfl,hsz,rfl,hr,h2⟩
 |y::l,vals,O,j+1,e,h,hj=>by
  simp only [RepE]at h;obtain ⟨u0,vs,A,B,rfl,hsz0,rfl,h1,h2⟩:=h;obtain ⟨u,O1,Oe,O2,rfl,hr,hsz,hc,hk⟩:=RepE.swap (j:=j) h2 (by simpa using hj);have hl:u0.cells.toList.length=s:=by simpa using hsz0
  refine ⟨u,A++O1,Oe,O2,by simp,hr,hsz,λi hi=>?_,λe' Oe' hr'=>?_⟩
  ·rw [show (j+1)*s+i=s+(j*s+i) by rw [Nat.succ_mul];omega,List.getElem?_append_right (by omega),hl,Nat.add_sub_cancel_left];exact hc i hi
  ·simp only [List.set_cons_succ,RepE];exact ⟨u0,vs,A,O1++Oe'++O2,rfl,hsz0,by simp,h1,hk e' Oe' hr'⟩
theorem qBB{j o s:Nat}{x u y:V}{v:Value}{O:List Nat}(hx:qz4 j o s x=some (u,y))(h:Rep w X x v O) :
  ∃uv A B,Rep w X u uv A/\Rep w X y v B/\(∀k,A.count k+B.count k<=O.count k)/\u.qp=[]/\y.qp=[]/\(∀z,SlF w v [(j,o,s)] z->z=uv):=by
 unfold qz4 at hx;split at hx
 ·rename_i c l;split at hx
  ·rename_i c' l' he;split at hx
   ·rename_i hos;obtain ⟨rfl,rfl⟩:=hos;simp only [qb,Prod.mk.injEq]at hx;obtain ⟨rfl,rfl⟩:=hx;obtain ⟨b,off,cap,vals,O',rfl,rfl,hcap,hc,hlen,hs0,hxs,hsg,hω,hsp,h0,hE,hnp⟩:=qpM (s:=1) h he (by rfl);obtain ⟨uv,O1,Oe,O2,rfl,hr,hsz,hat,hk⟩:=RepE.swap j hE he;have hr2:=hk _ _ (qgm hr);refine ⟨uv,Oe,b::(O1++[]++O2),hr,qmP hcap hc hlen hs0 hxs hω h0 hnp (by rfl) (by simp [V.qab,V.reflag,V.qp]) rfl hsg hsp hr2,λk=>?_,by simp [V.qp],by simp [V.qp],?_⟩
    ·simp only [List.count_cons,List.count_append,List.append_nil]<;>omega
    ·rintro z ⟨b1,off1,len1,cap1,z1,hv,hj,hcell,hz⟩;simp only [SlF]at hz;subst hz;simp only [Value.slice.injEq,qb,Addr.mk.injEq]at hv;obtain ⟨⟨rfl,rfl,_⟩,rfl,rfl⟩:=hv;have h1:=hat 0 (by omega);have huc:uv.cells.toList=[uv]:=by rw [qb3 (qiL (by rfl) hr)]
     rw [huc]at h1;have h2:=hsg (j*1+0) uv (by rw [h1];rfl);have h3:off+j*1+0=off+(j*1+0):=by omega
     rw [h3,h2]at hcell;cases hcell;rfl
   ·cases hx
  ·cases hx
 ·cases hx
theorem qwb{w0:World}{X0:Cx}{Md:Md}{n:Nat}{ops:Array Oper}{s:Nat}{o:Oper}{st st1:St}{tmps:Array Value}{O:Pl->List Nat}(h:Rel st tmps w X O)(hF:Fr w0 X0 Md n st w X O)
  (hpath:∀d rt p,qvR o=some d->qbp P H f ops st.E ops.size s d=some (rt,p,false)->∃v0,qfM w X tmps rt v0/\SlF w v0 p.reverse (tv tmps d)) (hx:qdB P H f ops s o st=some st1) :
  ∃O',Rel st1 tmps w X O'/\Fr w0 X0 Md n st1 w X O'/\∀(t:Nat) (r:Root) (off:Nat),st1.E[t]?=some (V.ptr r off)->st.E[t]?=some (V.ptr r off):=by
 have hap:∀{d:Tmp} {callee:Callee} {args:Array Operand} {argTypes:Array TypeId},o.op=.call {callee,args,argTypes}->(args[0]?:Option Operand)=some (.tmp d)->qvR o=some d:=λh1 h2=>by unfold qvR;rw [h1];simp only [h2]
 unfold qdB at hx;split at hx
 ·rename_i hop0;split at hx
  ·rename_i d hd0;split at hx
   ·rename_i r j c k hlk;split at hx
    ·cases hx
    ·rename_i hne;simp only [not_or,Nat.not_le]at hne;obtain ⟨hrd,hdl⟩:=hne;split at hx
     ·rename_i u y htk;simp only [qb]at hx;subst hx;obtain ⟨v0,hroot,hsl⟩:=hpath d _ _ (hap hop0 hd0) hlk;simp only [qfM]at hroot;have hr0:st.E[r]?=some (st.E.getD r .undef):=by
       cases hE:st.E[r]? with
       |none =>
        exfalso
        have:st.E.getD r .undef=.undef:=by simp [hE]
        rw [this]at htk;simp [qz4]at htk
       |some x=>simp [hE]
      obtain ⟨v,hv,hrep⟩:=h.env r _ hr0;have hv0:v0=v:=by rw [<- hroot];simp [hv]
      subst hv0;obtain ⟨uv,A,B,hu,hy,hcnt,hup,hyp,hz⟩:=qBB htk hrep;have hrl : @LT.lt Nat _ r st.E.length:=(qm.1 hr0).1;have htd:tv tmps d=uv:=hz _ hsl;have hds:d<tmps.size:=by rw [h.size];exact hdl
      have htd':tmps[d]?=some uv:=by
       rw [<- htd];unfold tv;simp [hds]
      let O':Pl->List Nat:=λp=>match p with
       |.tmp t=>if t=d then A else if t=r then B else O (.tmp t)
       |q=>O q
      have hAO:∀b∈A,b∈O (.tmp r):=λb hb=>List.count_pos_iff.1 (by have:=hcnt b;have:=List.count_pos_iff.2 hb;omega);have hBO:∀b∈B,b∈O (.tmp r):=λb hb=>List.count_pos_iff.1 (by have:=hcnt b;have:=List.count_pos_iff.2 hb;omega);have hAB:∀b∈A,b∉B:=λb hb hb'=>by
       have:=hcnt b;have:=List.count_pos_iff.2 hb;have:=List.count_pos_iff.2 hb';have:=h.lin (.tmp r) b;omega
      have hO'd:O' (.tmp d)=A:=by simp [O']
      have hO'r:O' (.tmp r)=B:=by simp [O',hrd]
      have hO'o:∀p,p≠.tmp d->p≠.tmp r->O' p=O p:=λp h1 h2=>by
       cases p with
       |tmp t =>
        have e1:t≠d:=λe=>h1 (by rw [e]);have e2:t≠r:=λe=>h2 (by rw [e]);simp [O',e1,e2]
       |box q=>rfl
      have hsrc:∀p b,b∈O' p->b∈O (if p=.tmp d then .tmp r else p):=λp b hb=>by
       by_cases h1:p=.tmp d
       ·subst h1;rw [hO'd]at hb;rw [if_pos rfl];exact hAO b hb
       ·rw [if_neg h1];by_cases h2:p=.tmp r
        ·subst h2;rw [hO'r]at hb;exact hBO b hb
        ·rw [hO'o p h1 h2]at hb;exact hb
      have hE1:∀t:Nat,((st.E.set r y).set d u)[t]?=if t=d then some u else if t=r then some y else st.E[t]?:=λt=>by
       by_cases h1:t=d
       ·subst h1;rw [if_pos rfl,List.getElem?_set_self (by simpa using hdl)]
       ·rw [if_neg h1,List.getElem?_set_ne (λe=>h1 e.symm)];by_cases h2:t=r
        ·subst h2;rw [if_pos rfl,List.getElem?_set_self hrl]
        ·rw [if_neg h2,List.getElem?_set_ne (λe=>h2 e.symm)]
      have hptr:∀(t:Nat) (q:Root) (off:Nat),((st.E.set r y).set d u)[t]?=some (V.ptr q off)->st.E[t]?=some (V.ptr q off):=λt q off ht=>by
       rw [hE1]at ht;split at ht
       ·cases ht;simp [V.qp]at hup
       ·split at ht
        ·cases ht;simp [V.qp]at hyp
        ·exact ht
      refine ⟨O',?_,?_,hptr⟩
      ·exact {
        size:=by rw [h.size];simp
        env:=λt x hx=>by
         have hx':((st.E.set r y).set d u)[t]?=some x:=hx;rw [hE1]at hx';by_cases h1:t=d
         ·subst h1;rw [if_pos rfl]at hx';cases hx';exact ⟨uv,htd',by rw [hO'd];exact hu⟩
         ·rw [if_neg h1]at hx';by_cases h2:t=r
          ·subst h2;rw [if_pos rfl]at hx';cases hx';exact ⟨v0,hv,by rw [hO'r];exact hy⟩
          ·rw [if_neg h2]at hx';obtain ⟨v,h3,h4⟩:=h.env t x hx';have e:O' (.tmp t)=O (.tmp t):=hO'o (.tmp t) (λe=>h1 (by cases e;rfl)) (λe=>h2 (by cases e;rfl));exact ⟨v,h3,by rw [e];exact h4⟩
        envD:=λt ht=>by
         have ht':st.E.length<=t:=by have:((st.E.set r y).set d u).length<=t:=ht;simpa using this
         have e:O' (.tmp t)=O (.tmp t):=hO'o (.tmp t) (λe=>by cases e;omega) (λe=>by cases e;omega);rw [e];exact h.envD t ht'
        box:=λq c hq=>by
         have:O' (.box q)=O (.box q):=rfl;rw [this];exact h.box q c hq
        boxD:=λq hq=>h.boxD q hq
        inj:=h.inj
        lin:=λp k=>by
         by_cases h1:p=.tmp d
         ·subst h1;rw [hO'd];have:=hcnt k;have:=h.lin (.tmp r) k;omega
         ·by_cases h2:p=.tmp r
          ·subst h2;rw [hO'r];have:=hcnt k;have:=h.lin (.tmp r) k;omega
          ·rw [hO'o p h1 h2];exact h.lin p k
        dis:=λp q hpq b hb hq=>by
         by_cases h1:p=.tmp d
         ·subst h1;by_cases h2:q=.tmp r
          ·subst h2;rw [hO'd]at hb;rw [hO'r]at hq;exact hAB b hb hq
          ·have h3:=hsrc (.tmp d) b hb;have h4:=hsrc q b hq;rw [if_pos rfl]at h3;rw [if_neg (λe=>hpq e.symm)]at h4;exact h.dis _ _ (λe=>h2 e.symm) b h3 h4
         ·by_cases h2:q=.tmp d
          ·subst h2;by_cases h3:p=.tmp r
           ·subst h3;rw [hO'd]at hq;rw [hO'r]at hb;exact hAB b hq hb
           ·have h4:=hsrc p b hb;have h5:=hsrc (.tmp d) b hq;rw [if_pos rfl]at h5;rw [if_neg h1]at h4;exact h.dis _ _ h3 b h4 h5
          ·have h4:=hsrc p b hb;have h5:=hsrc q b hq;rw [if_neg h1]at h4;rw [if_neg h2]at h5;exact h.dis _ _ hpq b h4 h5
        ptrE:=λq hq=>by
         obtain ⟨x,hx,hqx⟩:=qA.1 hq;obtain ⟨t,ht⟩:=List.mem_iff_getElem?.1 hx;rw [hE1]at ht;split at ht
         ·cases ht;rw [hup]at hqx;simp at hqx
         ·split at ht
          ·cases ht;rw [hyp]at hqx;simp at hqx
          ·exact h.ptrE q (qA.2 ⟨x,List.mem_of_getElem? ht,hqx⟩)
        ptrB:=h.ptrB
        up:=h.up
        dom:=h.dom}
      ·exact {
        size:=hF.size
        kept:=hF.kept
        grew:=hF.grew
        β:=hF.β
        own:=λp b hb=>hF.own _ b (hsrc p b hb)
        boxM:=hF.boxM
        lev:=hF.lev
        live:=hF.live
        os:=hF.os
        out:=hF.out
        tape:=hF.tape
        gl:=hF.gl
        gm:=hF.gm}
     ·cases hx
   ·cases hx
  ·cases hx
 ·cases hx
end
section
variable {P:Program} {H:Hints} {f:FuncId} {C:Orc} {w w':World} {X X':Cx}
def Inv(P:Program)(H:Hints)(f:FuncId)(ops:Array Oper)(done:Nat->Prop)(E:List V)(tmps:Array Value)(w:World)(X:Cx):Prop :=
 (∃(s:Nat) (o:Oper),ops[s]?=some o/\qfr H f o=true/\¬ done s)->∀(c:Nat) (oc:Oper),ops[c]?=some oc->qkX H f oc=true->done c->qdW P H f E oc tmps w X
def qsd(P:Program)(H:Hints)(f:FuncId)(ops:Array Oper)(done:Nat->Prop)(w0:World)(X0:Cx)(Md:Md)(n:Nat)(st:St)(a:Act)(w:World):Prop :=
 ∃X O,Rel st a.tmps w X O/\Fr w0 X0 Md n st w X O/\qdA w0 w X a.defers/\Inv P H f ops done st.E a.tmps w X
theorem qsd.qCU{ops:Array Oper}{done:Nat->Prop}{w0:World}{X0:Cx}{Md:Md}{n:Nat}{st:St}{a:Act}(h:qsd P H f ops done w0 X0 Md n st a w):qio w0 X0 Md n st a w:=by
 obtain ⟨X,O,h1,h2,h3,_⟩:=h;exact ⟨X,O,h1,h2,h3⟩
theorem qio.qDp{ops:Array Oper}{w0:World}{X0:Cx}{Md:Md}{n:Nat}{st:St}{a:Act}(h:qio w0 X0 Md n st a w):qsd P H f ops (λ_=>False) w0 X0 Md n st a w:=by
 obtain ⟨X,O,h1,h2,h3⟩:=h;exact ⟨X,O,h1,h2,h3,λ_ c oc _ _ hd=>hd.elim⟩
theorem qsd.mono{ops:Array Oper}{done done':Nat->Prop}{w0:World}{X0:Cx}{Md:Md}{n:Nat}{st:St}{a:Act}(h:qsd P H f ops done w0 X0 Md n st a w)(hd:∀i,i<ops.size->(done' i↔done i)):qsd P H f ops done' w0 X0 Md n st a w:=by
 obtain ⟨X,O,h1,h2,h3,h4⟩:=h;have hlt:∀{i:Nat} {o:Oper},ops[i]?=some o->i<ops.size:=λh=>(Array.getElem?_eq_some_iff.1 h).1;refine ⟨X,O,h1,h2,h3,λ⟨s,o,ho,hls,hs⟩ c oc hoc hlk hc=>h4 ⟨s,o,ho,hls,λh=>hs ((hd s (hlt ho)).2 h)⟩ c oc hoc hlk ((hd c (hlt hoc)).1 hc)⟩
theorem qek{ops:Array Oper}{i:Nat}{st st':St}{ft:Foot}(hx:qh6 P H C f ops i st=some (st',ft)) :
  ∃o,ops[i]?=some o/\((qfr H f o=true/\qgz P H f ops i o st=some st')\/(qfr H f o=false/\qlg H f o=true/\qkX H f o=false/\∃st1,qdB P H f ops i o st=some st1/\qgM P H C f ops i st1=some (st',ft)) \/
   (qfr H f o=false/\qlg H f o=false/\qdZ H f o st.E=true/\qgM P H C f ops i st=some (st',ft))):=by
 unfold qh6 at hx;cases ho:ops[i]? with
 |none=>rw [ho]at hx;cases hx
 |some o =>
  rw [ho]at hx;simp only at hx;refine ⟨o,rfl,?_⟩;cases hls:qfr H f o with
  |true =>
   rw [hls,if_pos rfl]at hx;obtain ⟨s,h1,h2⟩:=qc.1 hx;cases h2;exact .inl ⟨rfl,h1⟩
  |false =>
   rw [hls]at hx;simp only [qf,if_false]at hx;cases hap:qlg H f o with
   |true =>
    rw [hap]at hx;simp only [if_true]at hx;split at hx
    ·cases hx
    ·rename_i hk;obtain ⟨s1,h1,h2⟩:=qd.1 hx;exact .inr (.inl ⟨rfl,rfl,by simpa using hk,s1,h1,h2⟩)
   |false =>
    rw [hap]at hx;simp only [qf,if_false]at hx;split at hx
    ·rename_i hg;exact .inr (.inr ⟨rfl,rfl,hg,hx⟩)
    ·cases hx
theorem qs0{x:V}{r:Root}{o:Nat}(h:x.qab=.ptr r o):x=.ptr r o:=by
 cases x with
 |room s n =>
  simp only [V.qab,V.reflag,qX]at h;by_cases h2:n=0<;>simp [h2]at h
 |_=>simp_all [V.qab,V.reflag]
theorem qmY{x:V}{r:Root}{o:Nat}(h:x.qdH=.ptr r o):x=.ptr r o:=by
 unfold V.qdH at h;split at h
 ·cases h
 ·exact h
theorem qhG{E:List V}{T:List Tmp}{t:Nat}{r:Root}{o:Nat}(h:(qx E T)[t]?=some (.ptr r o)):E[t]?=some (.ptr r o):=by
 rw [qfp]at h;split at h
 ·obtain ⟨x,h1,h2⟩:=qc.1 h;rw [h1,qs0 h2]
 ·exact h
theorem qtt{ys:List V}{p:Path}{x y:V}(h:qqm ys p x=some y):∃c l,y=.sl .own c l:=by
 unfold qqm at h;split at h
 ·cases h
 ·split at h
  ·split at h
   ·split at h
    ·split at h
     ·cases h;exact ⟨_,_,rfl⟩
     ·cases h
    ·split at h
     ·obtain ⟨z,_,h2⟩:=qc.1 h;exact ⟨_,_,h2.symm⟩
     ·cases h
   ·cases h
  ·cases h
 ·cases h
theorem qDu{ops:Array Oper}{s:Nat}{o:Oper}{st st':St}(h:qgz P H f ops s o st=some st'){t:Nat}{r:Root}{off:Nat}(hE:st'.E[t]?=some (.ptr r off)):st.E[t]?=some (.ptr r off):=by
 unfold qgz at h;split at h
 ·simp only at h;split at h
  ·split at h
   ·rename_i r0 p hlk;split at h
    ·cases h
    ·split at h
     ·rename_i y hy;split at h
      ·cases h
      ·simp only [qb]at h;subst h;simp only [List.getElem?_set]at hE;split at hE
       ·split at hE
        ·obtain ⟨c,l,rfl⟩:=qtt hy;cases hE
        ·cases hE
       ·rw [List.getElem?_map]at hE;obtain ⟨x,h1,h2⟩:=qc.1 hE;rw [qmY h2]at h1;exact qhG h1
     ·cases h
   ·split at h
    ·split at h
     ·split at h
      ·split at h
       ·cases h
       ·simp only [qb]at h;subst h;simp only [List.getElem?_map]at hE;obtain ⟨x,h1,h2⟩:=qc.1 hE;rw [qmY h2]at h1;exact qhG h1
      ·cases h
     ·cases h
    ·cases h
   ·cases h
  ·cases h
 ·cases h
structure Fits (H:Hints) (f:FuncId) (ops:Array Oper) (done:Nat->Prop) (i:Nat):Prop where
 new:¬ done i
 after:∀(c:Nat) (oc o:Oper),ops[c]?=some oc->ops[i]?=some o->qkX H f oc=true->done c->qku H f oc o=true
 self:∀(o:Oper),ops[i]?=some o->qkX H f o=true->o.guard=none/\∀d,o.dst=some d->d∉tmpsOf o
 ls:∀(o:Oper),ops[i]?=some o->qfr H f o=true->∀(c:Nat) (oc:Oper),ops[c]?=some oc->qkX H f oc=true->c<i->done c
 apl:∀(o:Oper) (d:Tmp),ops[i]?=some o->qlg H f o=true->qvR o=some d->∀(c:Nat) (oc:Oper),ops[c]?=some oc->qkX H f oc=true->c<i->(∀x,oc.dst=some x->x∈qcs H f ops ops.size i d)->done c
 ap:∀(o:Oper),ops[i]?=some o->qlg H f o=true->∃(s:Nat) (os:Oper),ops[s]?=some os/\qfr H f os=true/\¬ done s
 lone:∀(c:Nat) (oc:Oper),ops[c]?=some oc->qkX H f oc=true->qhC H f oc=true->∀(s s':Nat) (o o':Oper),ops[s]?=some o->ops[s']?=some o'->qfr H f o=true->qfr H f o'=true->s=s'
theorem qrr{oc oi:Oper}(h:qku H f oc oi=true):(∀d,oi.dst=some d->oc.dst≠some d/\d∉tmpsOf oc)/\(qlW H f oc=true->qc5 oi.op=true\/qfr H f oi=true):=by
 unfold qku at h;simp only [qe,Bool.or_eq_true,Bool.not_eq_true']at h;refine ⟨λd hd=>?_,λhb=>?_⟩
 ·have h1:=h.1;rw [hd]at h1;simp at h1;exact ⟨h1.1,h1.2⟩
 ·rcases h.2 with (h2|h2)|h2
  ·rw [hb]at h2;cases h2
  ·exact .inl h2
  ·exact .inr h2
theorem qmd{F:Fence}{X0:Cx}{Md:Md}{n:Nat}(h:FOk F X0 Md n):F=Fence.wide\/∃l,F=Fence.wide.inRound l:=by
 rcases h.1 with h|⟨r,l,h,_⟩
 ·exact .inl h
 ·exact .inr ⟨l,h⟩
theorem qrv(hC:OrcOk P C){F:Fence}{w0:World}{X0:Cx}{Md:Md}{n:Nat}(hFO:FOk F X0 Md n){ops:Array Oper}{done:Nat->Prop}{i:Nat}{st st':St}{ft:Foot}{a:Act}(hS:qsd P H f ops done w0 X0 Md n st a w)
  {o:Oper} (ho:ops[i]?=some o) (hls:qfr H f o=false) (hgate:qdZ H f o st.E=true) (hx:qgM P H C f ops i st=some (st',ft)) (hfit:Fits H f ops done i) {K:Act->World->Prop} {Q:Exit->Act->World->Prop} (hK:∀a' w',qsd P H f ops (λk=>done k\/k=i) w0 X0 Md n st' a' w'->K a' w'):wpOpIn F 0 P ops Q i K a w:=by
 have hFF:=qmd hFO;obtain ⟨X,O,h,hF,hM,hI⟩:=hS;obtain ⟨Md2,hFb,hkd,lift⟩:=qxR h hF hM;obtain ⟨o',ho',b,z,m,A⟩:=qcE.1 hx;rw [ho]at ho';cases ho';have hE':∀t,o.dst≠some t->∀r off,st'.E[t]?=some (.ptr r off)->st.E[t]?=some (.ptr r off):=λt ht r off hE=>by
  rw [A.res]at hE;simp only [qm5]at hE;rw [if_neg (λhh=>ht hh.1)]at hE;exact qhG hE
 have key:∀(v:Value) (w':World),Sim w X Md2 n st' (a.put o.dst v).tmps w'->(qc5 o.op=true->∀b,b<w.heap.size->X.ω b=none->w'.heap[b]?=w.heap[b]?) ->
   (qkX H f o=true->∀X':Cx,(∀b e fz,X.ω b=some (e,fz)->∃e' fz',X'.ω b=some (e',fz')/\e<=e')->qdW P H f st'.E o (a.put o.dst v).tmps w' X') ->
   qsd P H f ops (λk=>done k\/k=i) w0 X0 Md n st' (a.put o.dst v) w':=by
  rintro v w' ⟨X',O',hR',hFr'⟩ htame hnew;obtain ⟨hF',hM'⟩:=lift _ _ _ _ hFr';have hdef:(a.put o.dst v).defers=a.defers:=by cases o.dst<;>rfl
  have hω:∀b e fz,X.ω b=some (e,fz)->∃e' fz',X'.ω b=some (e',fz')/\e<=e':=λb e fz hb=>by
   obtain ⟨e',fz',h1,h2,_⟩:=hFr'.grew b e fz hb;exact ⟨e',fz',h1,h2⟩
  refine ⟨X',O',hR',hF',by rw [hdef];exact hM',λ⟨s,os,hos,hlss,hs⟩ c oc hoc hlk hc=>?_⟩;have hfacts:=hI ⟨s,os,hos,hlss,λhd=>hs (.inl hd)⟩;rcases hc with hc|rfl
  ·obtain ⟨h1,h2⟩:=qrr (hfit.after c oc o hoc ho hlk hc);refine (hfacts c oc hoc hlk hc).qnD (λd hd=>qux (λe=>(h1 d e).1 hd)) (λt ht=>qux (λe=>(h1 t e).2 ht)) (λ_=>⟨hω,λb e fz k v hb hk hcell=>?_⟩) (λhbl t' ht' r o' hE=>?_)
   ·obtain ⟨e',fz',_,_,_,h4⟩:=hFr'.grew b e fz hb;exact h4 k v hk hcell
   ·have hE0:=hE' t' (λe=>(h1 t' e).2 ht') r o' hE;refine ⟨hE0,λb' hb'=>?_⟩;obtain ⟨u,hu,hr⟩:=h.env t' _ hE0;simp only [Rep]at hr;obtain ⟨_,b2,hb2,rfl⟩:=hr;rw [qcI hu]at hb';cases hb'
    have hlive:=h.ptrE r (qA.2 ⟨_,List.mem_of_getElem? hE0,by simp [V.qp]⟩);obtain ⟨cs,hcs⟩:=Option.isSome_iff_exists.1 hlive;obtain ⟨b3,hb3,hlt,hω0,_⟩:=h.box r cs hcs;rw [hb2]at hb3;cases hb3;have ht:qc5 o.op=true:=by
     rcases h2 hbl with h2|h2
     ·exact h2
     ·rw [hls]at h2;cases h2
    exact qD (htame ht _ hlt hω0)
  ·rw [ho]at hoc;cases hoc;exact hnew hlk X' hω
 unfold wpOpIn;rw [ho];simp only
 rw [qr7 h A.wanted];cases b with
 |false =>
  simp only [qf,if_false];refine ⟨λg _=>qkc hFF g,hK _ _ (key undef w ?_ (λ_ _ _ _=>rfl) (λhlk=>?_))⟩
  ·obtain ⟨rfl,rfl,_⟩:=qca A.mem;refine ⟨X,qg9 O [] o.dst st.E.length [],?_⟩;have hst':st'=st.put o.dst (.val undef):=by rw [A.res,put_eq];rfl
   rw [hst',qco];exact ⟨h.qiI o.dst (by simp [Rep]) Lin.nil (by simp) (by simp [V.qp]),hFb.qiI o.dst (by simp)⟩
  ·have:=(hfit.self o ho hlk).1;have hw:=A.wanted;unfold qcp at hw;rw [this]at hw;cases hw
 |true =>
  simp only [if_true];have hstep:qd3 P H C f o st=some (st',ft.fp):=by
   have h2:=hx;unfold qgM at h2;rw [ho]at h2;simp only [A.wanted]at h2;obtain ⟨⟨s1,fp⟩,h3,h4⟩:=qc.1 h2;simp only [Prod.mk.injEq]at h4;obtain ⟨rfl,rfl⟩:=h4;exact h3
  refine qz0 hC hFF h hFb hstep λv w' hSim ht=>hK _ _ (key v w' hSim (λh1=>(ht h1).1) λhlk X' hω=>?_);obtain ⟨_,hself⟩:=hfit.self o ho hlk;rcases quK h hFb hlk hself hgate hstep with hall|⟨htm,v0,hrun,hfact⟩
  ·exact hall _ _ _ _
  ·obtain ⟨rfl,rfl⟩:=(ht htm).2 v0 hrun;exact hfact _ _ hω (λt ht' r o' hE=>hE' t (λe=>hself t e ht') r o' hE)
theorem qsS(hC:OrcOk P C){F:Fence}{w0:World}{X0:Cx}{Md:Md}{n:Nat}(hFO:FOk F X0 Md n){ops:Array Oper}{done:Nat->Prop}{i:Nat}{st st':St}{ft:Foot}{a:Act}(hS:qsd P H f ops done w0 X0 Md n st a w)
  (hx:qh6 P H C f ops i st=some (st',ft)) (hfit:Fits H f ops done i) {K:Act->World->Prop} {Q:Exit->Act->World->Prop} (hK:∀a' w',qsd P H f ops (λk=>done k\/k=i) w0 X0 Md n st' a' w'->K a' w'):wpOpIn F 0 P ops Q i K a w:=by
 have hFF:=qmd hFO;have hS0:=hS;obtain ⟨X,O,h,hF,hM,hI⟩:=hS;obtain ⟨o,ho,⟨hls,hx⟩|⟨hls,hap,hnk,st1,hx1,hx⟩|⟨hls,hap,hgate,hx⟩⟩:=qek hx
 ·-- the store
  obtain ⟨t,d,xo,hop,hld⟩:∃t d xo,o.op=.store t (.tmp d) xo/\H.link f d=true:=by
   unfold qfr at hls;split at hls
   ·rename_i t d xo hop;exact ⟨t,d,xo,hop,hls⟩
   ·cases hls
  have hpend:∃(s:Nat) (o:Oper),ops[s]?=some o/\qfr H f o=true/\¬ done s:=⟨i,o,ho,hls,hfit.new⟩
  have hfacts:=hI hpend;have hpath:∀rt p,qbp P H f ops st.E ops.size i d=some (rt,p,true)->∃v0 b k,qfM w X a.tmps rt v0/\a.tmps.getD d undef=.pointer (some ⟨b,k,none⟩)/\qBV w v0 p b k:=λrt p hlk=>by
   obtain ⟨v0,h1,h2⟩:=qCk h (s:=i) (λc oc hoc hl hci=>hfacts c oc hoc hl (hfit.ls o ho hls c oc hoc hl hci)) ops.size i d rt p true (Nat.le_refl _) hlk;simp only [if_true]at h2;obtain ⟨b,k,h3,h4⟩:=h2;exact ⟨v0,b,k,h1,h3,h4⟩
  obtain ⟨hdst,hgd,w',b,hrun,hW,hsz,O',hR',hF',hM'⟩:=qDa h hF (λh0=>hFO.2 h0) hM hop hpath hx;unfold wpOpIn;rw [ho];have hwant:Region.wanted o (yielded ops a.tmps)=true:=by unfold Region.wanted;rw [hgd]
  simp only [hwant,if_true];refine ⟨λg _=>qkc hFF g,?_⟩;rw [Oper.semAt_eq _ _ _ (by intro c hc;rw [hop]at hc;cases hc)];have hrun':(execOp a.eval o).run P w=.ok .skip w':=by simp only [execOp,hop,Sem.run_bind,hrun,Result.andThen_ok,Sem.run_pure]
  rw [hrun',Oper.uponIn_skip];refine hK _ _ ?_;have hput:a.put o.dst undef=a:=by rw [hdst];rfl
  rw [hput];refine ⟨X,O',hR',hF',hM',λhp c oc hoc hlk hc=>?_⟩;have hci:done c:=by
   rcases hc with hc|rfl
   ·exact hc
   ·rw [ho]at hoc;cases hoc;unfold qkX at hlk;rw [hdst]at hlk;cases hlk
  refine (hfacts c oc hoc hlk hci).qnD (λ_ _=>rfl) (λ_ _=>rfl) (λhn=>?_) (λhb t' ht' r o' hE=>?_)
  ·obtain ⟨s,o2,ho2,hls2,hd2⟩:=hp;exact absurd (.inr (hfit.lone c oc hoc hlk hn s i o2 o ho2 ho hls2 hls)) hd2
  ·have hE0:=qDu hx hE;refine ⟨hE0,λb' hb'=>?_⟩;obtain ⟨u,hu,hr⟩:=h.env t' _ hE0;simp only [Rep]at hr;obtain ⟨_,b2,hb2,rfl⟩:=hr;rw [qcI hu]at hb';cases hb'
   have hlive:=h.ptrE r (qA.2 ⟨_,List.mem_of_getElem? hE0,by simp [V.qp]⟩);obtain ⟨cs,hcs⟩:=Option.isSome_iff_exists.1 hlive;obtain ⟨b3,hb3,_,hω,_⟩:=h.box r cs hcs;rw [hb2]at hb3;cases hb3;obtain ⟨e,he⟩:=hW.ω;exact qD (hW.kept _ (λe'=>by rw [e',he]at hω;cases hω))
 ·-- an append to what is taken out
  have hfacts:=hI (hfit.ap o ho hap);obtain ⟨O1,h1,hF1,hptr⟩:=qwb (P:=P) (H:=H) (f:=f) h hF (λd rt p hd hlk=>by
   obtain ⟨v0,h1,h2⟩:=qAy (S:=qcs H f ops ops.size i d) h (s:=i) (λc oc hoc hl hci hS=>hfacts c oc hoc hl (hfit.apl o d ho hap hd c oc hoc hl hci hS)) ops.size i d rt p false (Nat.le_refl _) (λ_ h=>h) hlk;exact ⟨v0,h1,by simpa using h2⟩) hx1
  refine qrv hC hFO (st:=st1) ⟨X,O1,h1,hF1,hM,λhp c oc hoc hlk hc=>?_⟩ ho hls (by unfold qdZ;rw [hnk];rfl) hx hfit hK;exact (hI hp c oc hoc hlk hc).qnD (λ_ _=>rfl) (λ_ _=>rfl) (λ_=>⟨λb e fz hb=>⟨e,fz,hb,Nat.le_refl _⟩,λb e fz k v _ _ hcell=>hcell⟩) (λ_ t' _ r o' hE=>⟨hptr t' r o' hE,λ_ _=>rfl⟩)
 ·exact qrv hC hFO hS0 ho hls hgate hx hfit hK
end
section
variable {P:Program} {H:Hints} {f:FuncId} {C:Orc} {w:World}
theorem qom{ops:Array Oper}{j:Nat}{x y:Oper}{st s1:St}{fx:Foot}(hx:ops[j]?=some x)(h1:qgM P H C f ops j st=some (s1,fx))(hd:∀d,x.dst=some d->d∉looksAt ops y)(hm:∀t∈fx.took,t∉qbu H f ops y) :
  (∀t∈looksAt ops y,qgP st.E s1.E t)/\s1.E.length=st.E.length:=by
 obtain ⟨x',hx',b,z,m,A⟩:=qcE.1 h1;rw [hx]at hx';cases hx';have hE1:s1.E=qvr x.dst z (qx st.E (qbY H f x b)):=by rw [A.res]
 rw [hE1];exact ⟨(qkp (z:=z) hd A.took hm).2,by rw [qlK,qhq]⟩
theorem qmm(x:V):qtS x.qab=qtS x:=by
 cases x with
 |room s n =>
  simp only [V.qab,V.reflag];split
  ·rfl
  ·split<;>rfl
 |_=>rfl
theorem qod{ops:Array Oper}{y:Oper}{E E':List V}(h:∀t∈looksAt ops y,qgP E E' t)(hl:E'.length=E.length):qdZ H f y E'=qdZ H f y E:=by
 unfold qdZ;rw [hl];congr 2
 split
 ·rename_i t a hop;have:=(h a (List.mem_append_left _ (qa8 (x:=.tmp a) (by rw [hop];exact List.mem_singleton.2 rfl) rfl))).getD;rw [<- qmm,this,qmm]
 ·rfl
def qvT(H:Hints)(f:FuncId)(o:Oper):Bool:=qfr H f o||qlg H f o
theorem qpK{ops:Array Oper}{i:Nat}{o:Oper}{st st':St}{ft:Foot}(ho:ops[i]?=some o)(hls:qvT H f o=false)(hg:qdZ H f o st.E=true)(h:qgM P H C f ops i st=some (st',ft)):qh6 P H C f ops i st=some (st',ft):=by
 simp only [qvT,Bool.or_eq_false_iff]at hls;unfold qh6;rw [ho];simp only [hls.1,hls.2,qf,if_false,hg,if_true];exact h
theorem qlJ{ops:Array Oper}{i:Nat}{o:Oper}{st st':St}{ft:Foot}(ho:ops[i]?=some o)(hls:qvT H f o=false)(h:qh6 P H C f ops i st=some (st',ft)):qdZ H f o st.E=true/\qgM P H C f ops i st=some (st',ft):=by
 simp only [qvT,Bool.or_eq_false_iff]at hls;obtain ⟨o',ho',⟨h1,_⟩|⟨_,h1,_⟩|⟨_,_,h1,h2⟩⟩:=qek h
 ·rw [ho]at ho';cases ho';rw [hls.1]at h1;cases h1
 ·rw [ho]at ho';cases ho';rw [hls.2]at h1;cases h1
 ·rw [ho]at ho';cases ho';exact ⟨h1,h2⟩
theorem qyl{ops:Array Oper}{i j:Nat}{x y:Oper}{st s1 s2:St}{fx fy:Foot}(hx:ops[j]?=some x)(hy:ops[i]?=some y)(hlx:qvT H f x=false)(hly:qvT H f y=false)(hap:qcb ops x y=true)(h1:qh6 P H C f ops j st=some (s1,fx))(h2:qh6 P H C f ops i s1=some (s2,fy))
  (hcl:fx.qfT fy=false):∃s1',qh6 P H C f ops i st=some (s1',fy)/\qh6 P H C f ops j s1'=some (s2,fx):=by
 obtain ⟨g1,r1⟩:=qlJ hx hlx h1;obtain ⟨g2,r2⟩:=qlJ hy hly h2;obtain ⟨s1',r3,r4⟩:=qlQ hx hy hap r1 r2 hcl;obtain ⟨d1,d2,d3⟩:=qi8 hap;obtain ⟨x',hx',b,z,m,A⟩:=qcE.1 r1;rw [hx]at hx';cases hx';obtain ⟨y',hy',b',z',m',B⟩:=qcE.1 r2;rw [hy]at hy';cases hy';simp only [Foot.qfT,Bool.or_eq_false_iff]at hcl;obtain ⟨⟨hc,hm1⟩,hm2⟩:=hcl;have hm1':=qb7 hm1;have hm2':=qb7 hm2;rw [B.looks]at hm1';rw [A.looks]at hm2';obtain ⟨k1,l1⟩:=qom (y:=y) hx r1 d1 hm1';obtain ⟨k2,l2⟩:=qom (y:=x) hy r3 d3 hm2';exact ⟨s1',qpK hy hly (by rw [<- qod (H:=H) (f:=f) k1 l1];exact g2) r3,qpK hx hlx (by rw [qod (H:=H) (f:=f) k2 l2];exact g1) r4⟩
theorem qyn{j o s:Nat}{x u y:V}(hx:qz4 j o s x=some (u,y)):y.qab=x.qab:=by
 unfold qz4 at hx;split at hx
 ·rename_i c l;split at hx
  ·rename_i c' l' he;split at hx
   ·simp only [qb,Prod.mk.injEq]at hx;obtain ⟨rfl,rfl⟩:=hx;show V.sl .qab c (reflagL qX (l.set j (V.qab (.sl .own c' l'))))=V.sl .qab c (reflagL qX l);rw [qz,qz];congr 1
    apply List.ext_getElem?;intro i;rw [List.getElem?_map,List.getElem?_map];by_cases hi:i=j
    ·subst hi;have hlt:i<l.length:=(qm.1 he).1;rw [List.getElem?_set_self hlt,he];show some (V.qab (V.qab (.sl .own c' l')))=some (V.qab (.sl .own c' l'));exact congrArg some (dull_dull _)
    ·rw [List.getElem?_set_ne (λe=>hi e.symm)]
   ·cases hx
  ·cases hx
 ·cases hx
theorem qeo{ops:Array Oper}{s:Nat}{o:Oper}{st g:St}(h:qdB P H f ops s o st=some g) :
  ∃d r j c k u y,qvR o=some d/\qbp P H f ops st.E ops.size s d=some (.tmp r,[(j,c,k)],false)/\r≠d/\d<st.E.length/\qz4 j c k (st.E.getD r .undef)=some (u,y)/\g={st with E:=(st.E.set r y).set d u}:=by
 unfold qdB at h;split at h
 ·rename_i hop;split at h
  ·rename_i d hd;split at h
   ·rename_i r j c k hlk;split at h
    ·cases h
    ·rename_i hne;simp only [not_or,Nat.not_le]at hne;split at h
     ·rename_i u y htk;simp only [qb]at h;exact ⟨d,r,j,c,k,u,y,by unfold qvR;rw [hop];simp only [hd],hlk,hne.1,hne.2,htk,h.symm⟩
     ·cases h
   ·cases h
  ·cases h
 ·cases h
theorem qqu{ops:Array Oper}{s:Nat}{o:Oper}{st:St}{d r:Tmp}{j c k:Nat}{u y:V}(hop:∃cl,o.op=.call cl)(hd:qvR o=some d)(hlk:qbp P H f ops st.E ops.size s d=some (.tmp r,[(j,c,k)],false))(hne:r≠d)(hl:d<st.E.length)(htk:qz4 j c k (st.E.getD r .undef)=some (u,y)) :
  qdB P H f ops s o st=some {st with E:=(st.E.set r y).set d u}:=by
 obtain ⟨cl,hop⟩:=hop;unfold qvR at hd;unfold qdB;rw [hop]at hd ⊢;simp only at hd ⊢;cases ha:(cl.args[0]?:Option Operand)with
 |none=>rw [ha]at hd;cases hd
 |some x =>
  rw [ha]at hd;cases x with
  |tmp t =>
   simp only [qb]at hd;subst hd;simp only [hlk,htk];rw [if_neg (by simp only [not_or,Nat.not_le];exact ⟨hne,hl⟩)]
  |_=>cases hd
theorem qjj{o:Oper}(h:qlg H f o=true):∃cl,o.op=.call cl:=by
 unfold qlg at h;split at h
 ·rename_i hop;exact ⟨_,hop⟩
 ·cases h
theorem qis{ops:Array Oper}{c:Nat}{oc oi:Oper}(h:qjg H f ops c oc oi=true):∃a x d,oi.op=.move (.tmp a)/\oi.dst=some x/\qvR oc=some d/\oi.guard=none/\qah H f oi=false/\qvT H f oi=false/\a≠d/\x∉qcs H f ops ops.size c d:=by
 unfold qjg at h;split at h
 ·rename_i a x d h1 h2 h3;simp only [qe,Bool.not_eq_true',decide_eq_true_eq]at h;obtain ⟨⟨⟨⟨⟨h4,h5⟩,h6⟩,h7⟩,h8⟩,h9⟩:=h;exact ⟨a,x,d,h1,h2,h3,by simpa using h4,h5,by simp [qvT,h6,h7],h8,by simpa using h9⟩
 ·cases h
theorem qlH{ops:Array Oper}{j:Nat}{x:Oper}{a:Tmp}(hx:ops[j]?=some x)(hop:x.op=.move (.tmp a))(hg:x.guard=none)(ht:qah H f x=false)(st:St) :
  qgM P H C f ops j st=some (st.put x.dst (st.E.getD a .undef).qab,⟨.none,[],qbu H f ops x⟩):=by
 unfold qgM;rw [hx];have hw:qcp ops st.E x=some true:=by unfold qcp;rw [hg]
 simp only [hw];have hs:qd3 P H C f x st=some (st.put x.dst (st.E.getD a .undef).qab,.none):=by
  unfold qd3;simp only [ht,Bool.false_and,qf,if_false];have hops:x.op.operands.toList=[.tmp a]:=by rw [hop];rfl
  rw [hops];simp only [qh,List.map_nil,rd,ht,qf,if_false];unfold qbr;rw [hop];rfl
 rw [hs];simp [qfa,ht]
theorem qwc{ops:Array Oper}{c:Nat}{oc:Oper}{st:St}{x d:Tmp}(z:V)(hap:qlg H f oc=true)(hd:qvR oc=some d)(hx:x∉qcs H f ops ops.size c d) :
  qdB P H f ops c oc (st.put (some x) z)=(qdB P H f ops c oc st).map λg=>g.put (some x) z:=by
 have hne:∀t∈qcs H f ops ops.size c d,(st.put (some x) z).E[t]?=st.E[t]?:=λt ht=>by
  show (st.E.set x z)[t]?=_;rw [List.getElem?_set_ne (λe=>hx (by rw [e];exact ht))]
 have hpath:=qdJ (P:=P) ops.size c d hne;have hlen:(st.put (some x) z).E.length=st.E.length:=List.length_set ..;have key:∀{st1:St} {r:Tmp} {p:Path} {b:Bool},qbp P H f ops st1.E ops.size c d=some (.tmp r,p,b)->x≠r:=λh e=>hx (by rw [e];exact qex _ _ _ _ _ _ h);cases hA:qdB P H f ops c oc st with
 |some g =>
  obtain ⟨d',r,j,k1,k2,u,y,h1,h2,h3,h4,h5,rfl⟩:=qeo hA;rw [hd]at h1;cases h1;have hxr:=key h2;have hxd:x≠d:=λe=>hx (by
   rw [e];cases hn:ops.size with
   |zero=>rw [hn]at h2;simp [qbp]at h2
   |succ n=>simp [qcs])
  have hr:(st.put (some x) z).E.getD r .undef=st.E.getD r .undef:=getD_congr (by show (st.E.set x z)[r]?=_;rw [List.getElem?_set_ne hxr]);rw [qqu (st:=st.put (some x) z) (qjj hap) hd (by rw [hpath];exact h2) h3 (by rw [hlen];exact h4) (by rw [hr];exact h5)];simp only [qi,St.put];congr 2
  rw [List.set_comm _ _ hxr,List.set_comm _ _ hxd]
 |none =>
  cases hB:qdB P H f ops c oc (st.put (some x) z)with
  |none=>rfl
  |some g =>
   exfalso
   obtain ⟨d',r,j,k1,k2,u,y,h1,h2,h3,h4,h5,rfl⟩:=qeo hB;rw [hd]at h1;cases h1;have hxr:=key h2;have hr:(st.put (some x) z).E.getD r .undef=st.E.getD r .undef:=getD_congr (by show (st.E.set x z)[r]?=_;rw [List.getElem?_set_ne hxr]);have:=qqu (st:=st) (qjj hap) hd (by rw [<- hpath];exact h2) h3 (by rw [<- hlen];exact h4) (by rw [<- hr];exact h5);rw [hA]at this;cases this
theorem qtz{ops:Array Oper}{c:Nat}{oc:Oper}{st g:St}{a d:Tmp}(hA:qdB P H f ops c oc st=some g)(hd:qvR oc=some d)(had:a≠d):(g.E.getD a .undef).qab=(st.E.getD a .undef).qab:=by
 obtain ⟨d',r,j,k1,k2,u,y,h1,h2,h3,h4,h5,rfl⟩:=qeo hA;rw [hd]at h1;cases h1;simp only
 have e1:((st.E.set r y).set d u).getD a .undef=(st.E.set r y).getD a .undef:=getD_congr (by rw [List.getElem?_set_ne (λe=>had e.symm)]);rw [e1];by_cases har:a=r
 ·subst har;by_cases hl : @LT.lt Nat _ a st.E.length
  ·have e2:(st.E.set a y).getD a .undef=y:=by simp [hl]
   rw [e2,qyn h5]
  ·have e2:(st.E.set a y).getD a .undef=st.E.getD a .undef:=by rw [List.set_eq_of_length_le (by omega)]
   rw [e2]
 ·have e2:(st.E.set r y).getD a .undef=st.E.getD a .undef:=getD_congr (by rw [List.getElem?_set_ne (λe=>har e.symm)]);rw [e2]
theorem qpJ{ops:Array Oper}{i:Nat}{o:Oper}{st st':St}{ft:Foot}(ho:ops[i]?=some o)(hap:qlg H f o=true):qh6 P H C f ops i st=some (st',ft)↔(qfr H f o=false/\qkX H f o=false/\∃g,qdB P H f ops i o st=some g/\qgM P H C f ops i g=some (st',ft)):=by
 have hls:qfr H f o=false:=by
  obtain ⟨cl,hop⟩:=qjj hap;unfold qfr;rw [hop]
 constructor
 ·intro h;obtain ⟨o',ho',⟨h1,_⟩|⟨_,_,h2,h3⟩|⟨_,h1,_⟩⟩:=qek h
  ·rw [ho]at ho';cases ho';rw [hls]at h1;cases h1
  ·rw [ho]at ho';cases ho';exact ⟨hls,h2,h3⟩
  ·rw [ho]at ho';cases ho';rw [hap]at h1;cases h1
 ·rintro ⟨_,h2,g,h3,h4⟩;unfold qh6;rw [ho];simp only [hls,hap,h2,h3,qf,if_false,if_true,qa];exact h4
theorem qqX{x:Oper}{a:Tmp}(hop:x.op=.move (.tmp a)){E E':List V}(hl:E'.length=E.length):qdZ H f x E'=qdZ H f x E:=by
 unfold qdZ;rw [hop,hl]
theorem qvH{ops:Array Oper}{i j:Nat}{x y:Oper}{st s1 s2:St}{fx fy:Foot}(hx:ops[j]?=some x)(hy:ops[i]?=some y)(hap:qlg H f y=true)(hfr:qjg H f ops i y x=true)(hda:qcb ops x y=true)(h1:qh6 P H C f ops j st=some (s1,fx))(h2:qh6 P H C f ops i s1=some (s2,fy))
  (hcl:fx.qfT fy=false):∃s1',qh6 P H C f ops i st=some (s1',fy)/\qh6 P H C f ops j s1'=some (s2,fx):=by
 obtain ⟨a,xd,d,hop,hdst,hd,hg,htk,hto,had,hxl⟩:=qis hfr;obtain ⟨g1,r1⟩:=qlJ hx hto h1;obtain ⟨hls,hlk,g,hA,r2⟩:=(qpJ hy hap).1 h2;rw [qlH hx hop hg htk]at r1;obtain ⟨rfl,rfl⟩:=Prod.mk.inj (Option.some.inj r1);rw [hdst,qwc _ hap hd hxl]at hA;obtain ⟨g0,hA0,rfl⟩:=qc.1 hA;have r3:qgM P H C f ops j g0=some (g0.put (some xd) (st.E.getD a .undef).qab,⟨.none,[],qbu H f ops x⟩):=by
  rw [qlH hx hop hg htk,hdst,qtz hA0 hd had]
 obtain ⟨s1',r4,r5⟩:=qlQ hx hy hda r3 r2 hcl;refine ⟨s1',(qpJ hy hap).2 ⟨hls,hlk,g0,hA0,r4⟩,qpK hx hto ?_ r5⟩;rw [qqX hop (E:=st.E)]
 ·exact g1
 ·obtain ⟨y',hy',b,z,m,A⟩:=qcE.1 r4;obtain ⟨_,r,_,_,_,u,yy,_,_,_,_,_,rfl⟩:=qeo hA0;rw [A.res];simp [qlK,qhq]
theorem qvG{ops:Array Oper}{i j:Nat}{x y:Oper}{st s1 s2:St}{fx fy:Foot}(hx:ops[j]?=some x)(hy:ops[i]?=some y)(hap:qlg H f x=true)(hfr:qjg H f ops j x y=true)(hda:qcb ops x y=true)(h1:qh6 P H C f ops j st=some (s1,fx))(h2:qh6 P H C f ops i s1=some (s2,fy))
  (hcl:fx.qfT fy=false):∃s1',qh6 P H C f ops i st=some (s1',fy)/\qh6 P H C f ops j s1'=some (s2,fx):=by
 obtain ⟨a,xd,d,hop,hdst,hd,hg,htk,hto,had,hxl⟩:=qis hfr;obtain ⟨hls,hlk,g,hA,r1⟩:=(qpJ hx hap).1 h1;obtain ⟨g2,r2⟩:=qlJ hy hto h2;obtain ⟨s1',r3,r4⟩:=qlQ hx hy hda r1 r2 hcl;have hfy:=r3;rw [qlH hy hop hg htk]at r3;obtain ⟨rfl,rfl⟩:=Prod.mk.inj (Option.some.inj r3);rw [hdst,qtz hA hd had]at r4;have hA2:qdB P H f ops j x (st.put (some xd) (st.E.getD a .undef).qab)=some (g.put (some xd) (st.E.getD a .undef).qab):=by
  rw [qwc _ hap hd hxl,hA];rfl
 refine ⟨st.put (some xd) (st.E.getD a .undef).qab,qpK hy hto ?_ (by rw [qlH hy hop hg htk,hdst]),(qpJ hx hap).2 ⟨hls,hlk,_,hA2,r4⟩⟩;rw [qqX hop (E:=s1.E)]
 ·exact g2
 ·obtain ⟨y',hy',b,z,m,A⟩:=qcE.1 r1;obtain ⟨_,r,_,_,_,u,yy,_,_,_,_,_,rfl⟩:=qeo hA;rw [A.res];simp [qlK,qhq]
def Two(H:Hints)(f:FuncId)(ops:Array Oper)(j i:Nat)(x y:Oper):Prop :=
 (qvT H f x=false/\qvT H f y=false)\/(qlg H f y=true/\qjg H f ops i y x=true)\/(qlg H f x=true/\qjg H f ops j x y=true)
theorem qz2{ops:Array Oper}{i j:Nat}{x y:Oper}{st s1 s2:St}{fx fy:Foot}(hx:ops[j]?=some x)(hy:ops[i]?=some y)(htwo:Two H f ops j i x y)(hda:qcb ops x y=true)(h1:qh6 P H C f ops j st=some (s1,fx))(h2:qh6 P H C f ops i s1=some (s2,fy))
  (hcl:fx.qfT fy=false):∃s1',qh6 P H C f ops i st=some (s1',fy)/\qh6 P H C f ops j s1'=some (s2,fx):=by
 rcases htwo with ⟨h3,h4⟩|⟨h3,h4⟩|⟨h3,h4⟩
 ·exact qyl hx hy h3 h4 hda h1 h2 hcl
 ·exact qvH hx hy h3 h4 hda h1 h2 hcl
 ·exact qvG hx hy h3 h4 hda h1 h2 hcl
theorem qAC{ops:Array Oper}{i:Nat}{o:Oper}{st st':St}{ft:Foot}(ho:ops[i]?=some o)(hls:qfr H f o=false)(h:qh6 P H C f ops i st=some (st',ft)):∃st1 st2,qgM P H C f ops i st1=some (st2,ft):=by
 obtain ⟨o',ho',⟨h1,_⟩|⟨_,_,_,g,_,h1⟩|⟨_,_,_,h1⟩⟩:=qek h
 ·rw [ho]at ho';cases ho';rw [hls]at h1;cases h1
 ·exact ⟨_,_,h1⟩
 ·exact ⟨_,_,h1⟩
theorem qcc{ops:Array Oper}{i:Nat}{l:List Nat}{st s:St}{fps:List (Nat×Foot)}:qdS P H C f ops (i::l) st=some (s,fps)↔∃s1 ft fps',qh6 P H C f ops i st=some (s1,ft)/\qdS P H C f ops l s1=some (s,fps')/\fps=(i,ft)::fps':=by
 simp only [qdS];cases h:qh6 P H C f ops i st with
 |none=>simp
 |some p =>
  obtain ⟨s1,ft⟩:=p;simp only [qc,Prod.exists,qb,Prod.mk.injEq];constructor
  ·rintro ⟨a,b,h1,rfl,rfl⟩;exact ⟨s1,ft,b,⟨rfl,rfl⟩,h1,rfl⟩
  ·rintro ⟨a,b,c,⟨rfl,rfl⟩,h1,rfl⟩;exact ⟨s,c,h1,rfl,rfl⟩
theorem qmG{ops:Array Oper}{i:Nat}{y:Oper}(hy:ops[i]?=some y){B:List Nat}:∀(A:List Nat) (st s:St) (fps:List (Nat×Foot)),qdS P H C f ops (A++i::B) st=some (s,fps) ->
  (∀j∈A,∃x,ops[j]?=some x/\Two H f ops j i x y/\qcb ops x y=true/\∀fx fy,(j,fx)∈fps->(i,fy)∈fps->fx.qfT fy=false) ->
  ∃fps',qdS P H C f ops (i::(A++B)) st=some (s,fps')/\∀p,p∈fps'↔p∈fps
 |[],st,s,fps,h,_=>⟨fps,h,λ_=>Iff.rfl⟩
 |j::A,st,s,fps,h,hA=>by
  rw [List.cons_append,qcc]at h;obtain ⟨s1,fj,fps1,h1,h2,rfl⟩:=h;obtain ⟨fps2,h3,h4⟩:=qmG hy A s1 s fps1 h2 (λk hk=>by
   obtain ⟨x,hx,hlx,hd,hc⟩:=hA k (by simp [hk]);exact ⟨x,hx,hlx,hd,λfx fy h1 h2=>hc fx fy (by simp [h1]) (by simp [h2])⟩)
  rw [qcc]at h3;obtain ⟨s2,fi,fps3,h5,h6,rfl⟩:=h3;obtain ⟨x,hx,hlx,hd,hc⟩:=hA j (by simp);obtain ⟨s1',h7,h8⟩:=qz2 hx hy hlx hd h1 h5 (hc fj fi (by simp) (by
   have:=(h4 (i,fi)).1 (by simp);simp [this]))
  refine ⟨(i,fi)::(j,fj)::fps3,?_,λp=>?_⟩
  ·rw [qcc];exact ⟨s1',fi,(j,fj)::fps3,h7,by rw [List.cons_append,qcc];exact ⟨s2,fj,fps3,h8,h6,rfl⟩,rfl⟩
  ·have:=h4 p;simp only [qk]at this ⊢;rw [<- this];constructor
   ·rintro (h|h|h)<;>simp [h]
   ·rintro (h|h|h)<;>simp [h]
theorem ql6{ops:Array Oper}:∀(l:List Nat) (st s:St) (fps:List (Nat×Foot)),qdS P H C f ops l st=some (s,fps)->∀k ft,(k,ft)∈fps->k∈l/\∃s1 s2,qh6 P H C f ops k s1=some (s2,ft)
 |[],st,s,fps,h,k,ft,hk=>by simp only [qdS,qb,Prod.mk.injEq]at h;rw [<- h.2]at hk;simp at hk
 |i::l,st,s,fps,h,k,ft,hk=>by
  obtain ⟨s1,fi,fps',h1,h2,rfl⟩:=qcc.1 h;rcases qk.1 hk with hk|hk
  ·cases hk;exact ⟨by simp,_,_,h1⟩
  ·obtain ⟨h3,h4⟩:=ql6 l s1 s fps' h2 k ft hk;exact ⟨by simp [h3],h4⟩
theorem qBZ{ops:List Oper}(hb:∀(k:Nat) (o:Oper),ops[k]?=some o->∀j∈qaM o,j<k):∀(n i:Nat) (o:Oper),i<=n->ops[i]?=some o->∀j∈(qdQ ops).getD i [],j<i:=by
 intro n;induction n with
 |zero =>
  intro i o hi ho j hj;rw [qi6 ops i o ho (hb i o ho)]at hj;obtain ⟨e,he,_⟩:=List.mem_flatMap.1 (qej hj);have:=hb i o ho e he;omega
 |succ n ih =>
  intro i o hi ho j hj;rw [qi6 ops i o ho (hb i o ho)]at hj;obtain ⟨e,he,hj⟩:=List.mem_flatMap.1 (qej hj);have hei:=hb i o ho e he;rcases qk.1 hj with rfl|hj
  ·exact hei
  ·have hlt:i<ops.length:=(qm.1 ho).1;have:=ih e ops[e] (by omega) (List.getElem?_eq_getElem (by omega)) j hj;omega
structure LinkOk (H:Hints) (f:FuncId) (ops:Array Oper) (bef:Nat->Nat->Prop):Prop where
 self:∀(c:Nat) (oc:Oper),ops[c]?=some oc->qkX H f oc=true->oc.guard=none/\∀d,oc.dst=some d->d∉tmpsOf oc
 after:∀(c i:Nat) (oc oi:Oper),ops[c]?=some oc->ops[i]?=some oi->qkX H f oc=true->i=c\/bef i c\/qku H f oc oi=true
 ls:∀(c i:Nat) (oc oi:Oper),ops[c]?=some oc->ops[i]?=some oi->qfr H f oc=true->i=c\/bef i c\/bef c i
 apt:∀(c i:Nat) (oc oi:Oper),ops[c]?=some oc->ops[i]?=some oi->qlg H f oc=true->i=c\/bef i c\/bef c i\/qjg H f ops c oc oi=true
 ap:∀(c:Nat) (oc:Oper),ops[c]?=some oc->qlg H f oc=true->∃(s:Nat) (os:Oper),ops[s]?=some os/\qfr H f os=true/\bef c s
 lone:∀(c:Nat) (oc:Oper),ops[c]?=some oc->qkX H f oc=true->qhC H f oc=true->∀(s s':Nat) (o o':Oper),ops[s]?=some o->ops[s']?=some o'->qfr H f o=true->qfr H f o'=true->s=s'
theorem quT{α:Type}{p:α->Bool}{l:List α}(h:(l.filter p).length<=1):∀{i j:Nat} {a b:α},l[i]?=some a->l[j]?=some b->p a=true->p b=true->i=j:=by
 induction l with
 |nil=>intro i j a b hi;simp at hi
 |cons x l ih =>
  intro i j a b hi hj ha hb;have hmem:∀{k:Nat} {c:α},l[k]?=some c->p c=true->0<(l.filter p).length:=λhk hc =>
   List.length_pos_of_mem (List.mem_filter.2 ⟨List.mem_of_getElem? hk,hc⟩)
  cases hx:p x with
  |true =>
   simp only [List.filter_cons,hx,if_true,List.length_cons]at h;cases i with
   |zero=>cases j with
    |zero=>rfl
    |succ j=>have:=hmem (by simpa using hj) hb;omega
   |succ i=>have:=hmem (by simpa using hi) ha;omega
  |false =>
   simp only [List.filter_cons,hx,qf,if_false]at h;cases i with
   |zero=>simp at hi;subst hi;rw [hx]at ha;cases ha
   |succ i=>cases j with
    |zero=>simp at hj;subst hj;rw [hx]at hb;cases hb
    |succ j=>exact congrArg Nat.succ (ih h (i:=i) (j:=j) (by simpa using hi) (by simpa using hj) ha hb)
theorem qiB{draw:Bool}{ops:Array Oper}(h:qjy H f draw ops=true):LinkOk H f ops (λi c=>qip draw (qdQ ops.toList) i c=true):=by
 have key:∀(c:Nat) (oc:Oper),ops[c]?=some oc->qmD H f draw (qdQ ops.toList) ops (decide ((ops.toList.filter (qfr H f)).length<=1)) c oc=true:=λc oc hoc=>by
  have hlt:c<ops.size:=(Array.getElem?_eq_some_iff.1 hoc).1;unfold qjy at h;have:=List.all_eq_true.1 h c (List.mem_range.2 hlt);rw [hoc]at this;exact this
 have part:∀(c:Nat) (oc:Oper),ops[c]?=some oc->_:=λc oc hoc=>by
  have:=key c oc hoc;unfold qmD at this;simp only [qe,Bool.or_eq_true,Bool.not_eq_true']at this;exact this
 refine {self:=λc oc hoc hlk=>?_,after:=λc i oc oi hoc hoi hlk=>?_,ls:=λc i oc oi hoc hoi hls=>?_,apt:=λc i oc oi hoc hoi hap=>?_,ap:=λc oc hoc hap=>?_,lone:=λc oc hoc hlk hn s s' o o' hs hs' hl hl'=>?_}
 ·obtain ⟨⟨⟨⟨h1,_⟩,_⟩,_⟩,_⟩:=part c oc hoc;rcases h1 with h1|h1
  ·rw [hlk]at h1;cases h1
  ·refine ⟨by simpa using h1.1.1,λd hd=>?_⟩;have:=h1.1.2;rw [hd]at this;simpa using this
 ·obtain ⟨⟨⟨⟨h1,_⟩,_⟩,_⟩,_⟩:=part c oc hoc;rcases h1 with h1|h1
  ·rw [hlk]at h1;cases h1
  ·have:=List.all_eq_true.1 h1.2 i (List.mem_range.2 (Array.getElem?_eq_some_iff.1 hoi).1);rw [hoi]at this;simp only [Bool.or_eq_true,beq_iff_eq]at this;rcases this with (h2|h2)|h2
   ·exact .inl h2
   ·exact .inr (.inl h2)
   ·exact .inr (.inr h2)
 ·obtain ⟨⟨⟨⟨_,h1⟩,_⟩,_⟩,_⟩:=part c oc hoc;rcases h1 with h1|h1
  ·rw [hls]at h1;cases h1
  ·have:=List.all_eq_true.1 h1.2 i (List.mem_range.2 (Array.getElem?_eq_some_iff.1 hoi).1);simp only [Bool.or_eq_true,beq_iff_eq]at this;rcases this with (h2|h2)|h2
   ·exact .inl h2
   ·exact .inr (.inl h2)
   ·exact .inr (.inr h2)
 ·obtain ⟨_,h1⟩:=part c oc hoc;rcases h1 with h1|h1
  ·rw [hap]at h1;cases h1
  ·have:=List.all_eq_true.1 h1 i (List.mem_range.2 (Array.getElem?_eq_some_iff.1 hoi).1);rw [hoi]at this;simp only [Bool.or_eq_true,beq_iff_eq]at this;rcases this with ((h2|h2)|h2)|h2
   ·exact .inl h2
   ·exact .inr (.inl h2)
   ·exact .inr (.inr (.inl h2))
   ·exact .inr (.inr (.inr h2))
 ·obtain ⟨⟨_,h1⟩,_⟩:=part c oc hoc;rcases h1 with h1|h1
  ·rw [hap]at h1;cases h1
  ·obtain ⟨s,_,h2⟩:=List.any_eq_true.1 h1;simp only [qe]at h2;cases hs:ops[s]? with
   |none=>rw [hs]at h2;cases h2.2
   |some os=>rw [hs]at h2;exact ⟨s,os,hs,h2.2,h2.1⟩
 ·obtain ⟨⟨⟨_,h1⟩,_⟩,_⟩:=part c oc hoc;rcases h1 with h1|h1
  ·rw [hlk,hn]at h1;cases h1
  ·simp only [decide_eq_true_eq]at h1;exact quT h1 (by simpa using hs) (by simpa using hs') hl hl'
theorem qx9(hC:OrcOk P C){F:Fence}{w0:World}{X0:Cx}{Md:Md}{n:Nat}(hFO:FOk F X0 Md n){ops:Array Oper}(hlk:qjy H f false ops=true){Q:Exit->Act->World->Prop}:∀(m i:Nat) (st st':St) (fps:List (Nat×Foot)) (a:Act) (w:World),i+m=ops.size ->
  qsd P H f ops (λk=>k<i) w0 X0 Md n st a w->qdS P H C f ops (List.range' i m) st=some (st',fps)->(∀a' w',qio w0 X0 Md n st' a' w'->Q .normal a' w')->wpOpsIn F 0 P ops Q (List.range' i m) a w
 |0,i,st,st',fps,a,w,_,hS,hx,hK=>by
  simp only [List.range'_zero,qdS,qb,Prod.mk.injEq]at hx;obtain ⟨rfl,_⟩:=hx;exact hK a w hS.qCU
 |m+1,i,st,st',fps,a,w,him,hS,hx,hK=>by
  rw [List.range'_succ]at hx ⊢;obtain ⟨s1,ft,fps',h1,h2,_⟩:=qcc.1 hx;rw [wpOpsIn_cons];have L:=qiB hlk;refine qsS hC hFO hS h1 ?_ λa' w' hS'=>qx9 hC hFO hlk m (i+1) s1 st' fps' a' w' (by omega) (hS'.mono λk _=>by omega) h2 hK;exact {
   new:=by omega
   after:=λc oc o hoc ho hl hc=>by
    rcases L.after c i oc o hoc ho hl with h3|h3|h3
    ·omega
    ·simp [qip]at h3;omega
    ·exact h3
   self:=λo ho hl=>L.self i o ho hl
   ls:=λo ho hl c oc hoc hlc hci=>hci
   apl:=λo d ho hap hd c oc hoc hlc hci hx=>hci
   ap:=λo ho hap=>by
    obtain ⟨s,os,h3,h4,h5⟩:=L.ap i o ho hap;refine ⟨s,os,h3,h4,?_⟩;simp [qip]at h5;omega
   lone:=L.lone}
theorem qs4(hC:OrcOk P C){F:Fence}{w0:World}{X0:Cx}{Md:Md}{n:Nat}(hFO:FOk F X0 Md n){ops:Array Oper}{U:List (Nat×Nat)}(hreg:qeb H f U ops=true)(hlk:qjy H f true ops=true){Q:Exit->Act->World->Prop} :
  ∀(fuel:Nat) (listed:Array Bool) (st st':St) (fps:List (Nat×Foot)) (a:Act) (w:World),listed.size=ops.size->Down ops listed->((List.range ops.size).filter λk=>!listed.getD k true).length<=fuel ->
   qdS P H C f ops ((List.range ops.size).filter λk=>!listed.getD k true) st=some (st',fps)->(∀i j fi fj,(i,j)∈U->(i,fi)∈fps->(j,fj)∈fps->fi.qfT fj=false) ->
   qsd P H f ops (λk=>listed.getD k true=true) w0 X0 Md n st a w->(∀a' w',qio w0 X0 Md n st' a' w'->Q .normal a' w')->wpAnyIn F 0 P .any ops Q fuel listed a w:=by
 have hrow:∀i y,ops[i]?=some y->(∀j∈qaM y,j<i)/\∀j,j<i->j∈(qdQ ops.toList).getD i []\/∃x,ops[j]?=some x/\qcb ops x y=true/\(qfJ H f ops x y=true\/(j,i)∈U):=by
  intro i y hy;have hilt:i<ops.size:=(Array.getElem?_eq_some_iff.1 hy).1;unfold qeb at hreg;have h1:=List.all_eq_true.1 hreg i (List.mem_range.2 hilt);rw [hy]at h1;simp only [qe]at h1;refine ⟨λj hj=>by simpa using List.all_eq_true.1 h1.1 j hj,λj hj=>?_⟩;have h2:=List.all_eq_true.1 h1.2 j (List.mem_range.2 hj);simp only [Bool.or_eq_true]at h2;rcases h2 with h2|h2
  ·exact .inl (by simpa using h2)
  ·right
   cases hx:ops[j]? with
   |none=>rw [hx]at h2;cases h2
   |some x =>
    rw [hx]at h2;simp only [qe,Bool.or_eq_true]at h2;exact ⟨x,rfl,h2.1,h2.2.imp id (by simp)⟩
 have hanclt:∀(c:Nat) (oc:Oper),ops[c]?=some oc->∀j∈(qdQ ops.toList).getD c [],j<c:=λc oc hoc =>
  qBZ (λk o ho=>(hrow k o (by simpa using ho)).1) c c oc (Nat.le_refl _) (by simpa using hoc)
 have L:=qiB hlk;have hbef:∀i c,qip true (qdQ ops.toList) i c=true↔i∈(qdQ ops.toList).getD c []:=λi c=>by simp [qip]
 have hempty:∀(listed:Array Bool),listed.size=ops.size->Down ops listed->Region.ready .any ops listed=[]->((List.range ops.size).filter λk=>!listed.getD k true)=[]:=by
  intro listed hsz hd hr;cases hR:(List.range ops.size).filter λk=>!listed.getD k true with
  |nil=>rfl
  |cons k R =>
   exfalso
   have hsorted:((List.range ops.size).filter λk=>!listed.getD k true).Pairwise (· < ·):=List.Pairwise.filter _ List.pairwise_lt_range;have hk:k∈(List.range ops.size).filter λk=>!listed.getD k true:=by rw [hR];simp
   rw [hR]at hsorted;obtain ⟨hklt,hkun⟩:=List.mem_filter.1 hk;have hklt:=List.mem_range.1 hklt;obtain ⟨o,ho⟩:∃o,ops[k]?=some o:=⟨ops[k],Array.getElem?_eq_getElem hklt⟩
   have:k∈Region.ready .any ops listed:=by
    rw [mem_ready];refine ⟨by simpa using hkun,o,ho,λe he hb=>?_⟩;have hek:=(hrow k o ho).1 e.on (qee.2 ⟨e,he,hb,rfl⟩);cases hc:listed.getD e.on true with
    |true =>
     have:e.on<listed.size:=by omega
     simp [Array.getD,this]at hc ⊢;exact hc
    |false =>
     have hmem:e.on∈(List.range ops.size).filter λk=>!listed.getD k true:=List.mem_filter.2 ⟨List.mem_range.2 (by omega),by simp [hc]⟩;rw [hR]at hmem;rcases qk.1 hmem with h1|h1
     ·omega
     ·have:=(List.pairwise_cons.1 hsorted).1 _ h1;omega
   rw [hr]at this;simp at this
 intro fuel;induction fuel with
 |zero =>
  intro listed st st' fps a w hsz hd hlen hx hconf hS hQ;have hnil:((List.range ops.size).filter λk=>!listed.getD k true)=[]:=List.eq_nil_of_length_eq_zero (by omega);rw [hnil]at hx;simp only [qdS,qb,Prod.mk.injEq]at hx;obtain ⟨rfl,_⟩:=hx;refine ⟨?_,hQ a w hS.qCU⟩;cases hr:Region.ready .any ops listed with
  |nil=>rfl
  |cons i R =>
   have hi:i∈Region.ready .any ops listed:=by rw [hr];simp
   obtain ⟨h1,o,ho,_⟩:=mem_ready.1 hi;have:i∈(List.range ops.size).filter λk=>!listed.getD k true:=List.mem_filter.2 ⟨List.mem_range.2 (Array.getElem?_eq_some_iff.1 ho).1,by simp [h1]⟩;rw [hnil]at this;simp at this
 |succ fuel ih =>
  intro listed st st' fps a w hsz hd hlen hx hconf hS hQ;refine ⟨λhr=>?_,λi hi=>?_⟩
  ·have hnil:=hempty listed hsz hd hr;rw [hnil]at hx;simp only [qdS,qb,Prod.mk.injEq]at hx;obtain ⟨rfl,_⟩:=hx;exact hQ a w hS.qCU
  ·obtain ⟨hun,y,hy,hall⟩:=mem_ready.1 hi;have hilt:i<ops.size:=(Array.getElem?_eq_some_iff.1 hy).1;have hiR:i∈(List.range ops.size).filter λk=>!listed.getD k true:=List.mem_filter.2 ⟨List.mem_range.2 hilt,by simp [hun]⟩;have hsorted:((List.range ops.size).filter λk=>!listed.getD k true).Pairwise (· < ·):=List.Pairwise.filter _ List.pairwise_lt_range;obtain ⟨A,B,hAB⟩:=List.append_of_mem hiR;rw [hAB]at hx hsorted;obtain ⟨_,hs2,hs3⟩:=List.pairwise_append.1 hsorted;have hAi:∀j∈A,j<i:=λj hj=>hs3 j hj i (by simp);have hiB:∀j∈B,i<j:=λj hj=>(List.pairwise_cons.1 hs2).1 j hj;have hlistedE:∀j∈qaM y,listed.getD j true=true:=λj hj=>by
    obtain ⟨e,he,hb,rfl⟩:=qee.1 hj;have h1:=hall e he hb;have hlt:=(hrow i y hy).1 e.on hj;have:e.on<listed.size:=by omega
    simp [Array.getD,this]at h1 ⊢;exact h1
   have hanc:=qfn hsz (λk o ho=>(hrow k o ho).1) hd i i y (Nat.le_refl _) hy hlistedE;obtain ⟨fps',h1,h2⟩:=qmG hy A st st' fps hx (λj hj=>by
    have hjR:j∈(List.range ops.size).filter λk=>!listed.getD k true:=by rw [hAB];simp [hj]
    have hjun:listed.getD j true=false:=by simpa using (List.mem_filter.1 hjR).2
    rcases (hrow i y hy).2 j (hAi j hj)with h3|⟨x,hx1,hx2,hx3⟩
    ·have:=hanc j h3;rw [hjun]at this;cases this
    ·have hnanc:j∉(qdQ ops.toList).getD i []:=λh3=>by have:=hanc j h3;rw [hjun]at this;cases this
     have hnanc2:i∉(qdQ ops.toList).getD j []:=λh3=>by have:=hanclt j x hx1 i h3;have:=hAi j hj;omega
     have hly:qfr H f y=false:=by
      cases hl:qfr H f y with
      |false=>rfl
      |true =>
       rcases L.ls i j y x hy hx1 hl with h3|h3|h3
       ·have:=hAi j hj;omega
       ·exact absurd ((hbef j i).1 h3) hnanc
       ·exact absurd ((hbef i j).1 h3) hnanc2
     have hlx:qfr H f x=false:=by
      cases hl:qfr H f x with
      |false=>rfl
      |true =>
       rcases L.ls j i x y hx1 hy hl with h3|h3|h3
       ·have:=hAi j hj;omega
       ·exact absurd ((hbef i j).1 h3) hnanc2
       ·exact absurd ((hbef j i).1 h3) hnanc
     have htwo:Two H f ops j i x y:=by
      cases hay:qlg H f y with
      |true =>
       rcases L.apt i j y x hy hx1 hay with h3|h3|h3|h3
       ·have:=hAi j hj;omega
       ·exact absurd ((hbef j i).1 h3) hnanc
       ·exact absurd ((hbef i j).1 h3) hnanc2
       ·exact .inr (.inl ⟨hay,h3⟩)
      |false =>
       cases hax:qlg H f x with
       |true =>
        rcases L.apt j i x y hx1 hy hax with h3|h3|h3|h3
        ·have:=hAi j hj;omega
        ·exact absurd ((hbef i j).1 h3) hnanc2
        ·exact absurd ((hbef j i).1 h3) hnanc
        ·exact .inr (.inr ⟨hax,h3⟩)
       |false=>exact .inl ⟨by simp [qvT,hlx,hax],by simp [qvT,hly,hay]⟩
     refine ⟨x,hx1,htwo,hx2,λfx fy h4 h5=>?_⟩;rcases hx3 with hx3|hx3
     ·obtain ⟨_,_,_,e1⟩:=ql6 _ _ _ _ hx j fx h4;obtain ⟨_,_,_,e2⟩:=ql6 _ _ _ _ hx i fy h5;obtain ⟨_,_,e1'⟩:=qAC hx1 hlx e1;obtain ⟨_,_,e2'⟩:=qAC hy hly e2;exact qnZ hx1 hy e1' e2' hx3
     ·exact hconf j i fx fy hx3 h4 h5)
   obtain ⟨s1,fi,fps2,h3,h4,rfl⟩:=qcc.1 h1;have hfit:Fits H f ops (λk=>listed.getD k true=true) i:={
    new:=by rw [hun];simp
    after:=λc oc o hoc ho hl hc=>by
     rcases L.after c i oc o hoc ho hl with h5|h5|h5
     ·subst h5;rw [hun]at hc;cases hc
     ·have hE:∀j∈qaM oc,listed.getD j true=true:=hd c oc hoc hc;have:=qfn hsz (λk o ho=>(hrow k o ho).1) hd c c oc (Nat.le_refl _) hoc hE i ((hbef i c).1 h5);rw [hun]at this;cases this
     ·exact h5
    self:=λo ho hl=>L.self i o ho hl
    ls:=λo ho hl c oc hoc hlc hci=>by
     rcases L.ls i c o oc ho hoc hl with h5|h5|h5
     ·omega
     ·exact hanc c ((hbef c i).1 h5)
     ·have:=hanclt c oc hoc i ((hbef i c).1 h5);omega
    apl:=λo d ho hap hd c oc hoc hlc hci hx=>by
     rcases L.apt i c o oc ho hoc hap with h5|h5|h5|h5
     ·omega
     ·exact hanc c ((hbef c i).1 h5)
     ·have:=hanclt c oc hoc i ((hbef i c).1 h5);omega
     ·obtain ⟨a,xd,d',_,hdst,hd',_,_,_,_,hxl⟩:=qis h5;rw [hd]at hd';cases hd';exact absurd (hx xd hdst) hxl
    ap:=λo ho hap=>by
     obtain ⟨s,os,h5,h6,h7⟩:=L.ap i o ho hap;refine ⟨s,os,h5,h6,λhs=>?_⟩;have hE:∀j∈qaM os,listed.getD j true=true:=hd s os h5 hs;have:=qfn hsz (λk o ho=>(hrow k o ho).1) hd s s os (Nat.le_refl _) h5 hE i ((hbef i s).1 h7);rw [hun]at this;cases this
    lone:=L.lone}
   refine qsS hC hFO hS h3 hfit λa' w' hS'=>?_;have hR':((List.range ops.size).filter λk=>!(listed.setIfInBounds i true).getD k true)=A++B:=by
    have e1:((List.range ops.size).filter λk=>!(listed.setIfInBounds i true).getD k true)=((List.range ops.size).filter λk=>!listed.getD k true).filter (λk=>decide (k≠i)):=by
     rw [List.filter_filter];refine List.filter_congr λk hk=>?_;have hklt:=List.mem_range.1 hk;by_cases hki:k=i
     ·subst hki;have:k<listed.size:=by omega
      simp [Array.getD,this]
     ·rw [getD_set_ne true (Ne.symm hki)];simp [hki]
    rw [e1,hAB,List.filter_append,List.filter_cons];simp only [ne_eq,not_true_eq_false,decide_false,qf,if_false];rw [List.filter_eq_self.2 (λj hj=>by have:=hAi j hj;simp;omega),List.filter_eq_self.2 (λj hj=>by have:=hiB j hj;simp;omega)]
   have hd':Down ops (listed.setIfInBounds i true):=by
    intro k o ho hk j hj;by_cases hji:j=i
    ·subst hji;have:j<listed.size:=by omega
     simp [Array.getD,this]
    ·rw [getD_set_ne true (Ne.symm hji)];by_cases hki:k=i
     ·subst hki;rw [hy]at ho;cases ho;exact hlistedE j hj
     ·rw [getD_set_ne true (Ne.symm hki)]at hk;exact hd k o ho hk j hj
   refine ih (listed.setIfInBounds i true) s1 st' fps2 a' w' (by simp [hsz]) hd' ?_ (by rw [hR'];exact h4) (λi' j' fi' fj' hu h5 h6=>hconf i' j' fi' fj' hu ((h2 _).1 (by simp [h5])) ((h2 _).1 (by simp [h6]))) (hS'.mono λk hk=>?_) hQ
   ·rw [hR'];rw [hAB]at hlen;simp only [List.length_append,List.length_cons]at hlen ⊢;omega
   ·by_cases hki:k=i
    ·subst hki;have:k<listed.size:=by omega
     simp [Array.getD,this]
    ·rw [getD_set_ne true (Ne.symm hki)];simp [hki]
theorem qrT{w0:World}{X0:Cx}{Md:Md}{n:Nat}{st:St}{a:Act}(hS:qio w0 X0 Md n st a w):qio w0 X0 Md n st a {w with drawn:=w.drawn+1}:=by
 obtain ⟨X,O,h,hF,hM⟩:=hS;have heff:Eff w X {w with drawn:=w.drawn+1} X [] :=
  ⟨Nat.le_refl _,λ_ _ _=>rfl,λ_ _ _=>rfl,by simp,rfl,h.dom,rfl,rfl,rfl⟩
 have h1:=h.put (T:=[]) (Oin:=[]) (O':=[]) (z:=.undef) (v:=undef) none (by simp) heff (by simp [Rep]) Lin.nil (by simp) (by simp [V.qp]);have hF1:=Fr.put (z:=.undef) h hF (T:=[]) (Oin:=[]) (O':=[]) none (by simp) heff (by simp);exact ⟨X,_,h1,hF1,hM.of λ_ _ _ _=>⟨rfl,rfl⟩⟩
theorem qxS(hC:OrcOk P C)(hm:P.follows .mixedOrders=true){F:Fence}{w0:World}{X0:Cx}{Md:Md}{n:Nat}(hFO:FOk F X0 Md n){bid id:Nat}{ops:Array Oper}{draw:Bool}{st st':St}{e:Ex}{a:Act}(hS:qio w0 X0 Md n st a w)
  {st0:St} (hcl:st0.clear (H.pre f id)=some st) (hnt:qgC H ops draw=none) (hls:qsz H f ops=true) (hpe:(H.perm f id).isEmpty=true) (hx:ex P H C f bid (.region id ops draw) st0=some (e,st')):(Code.region id ops draw).wpIn F 0 P (λe' a' w'=>e'=e.qqO/\qio w0 X0 Md n st' a' w') a w:=by
 simp only [ex,hcl,hnt,hls,hpe,if_true]at hx;split at hx
 ·rename_i hok;simp only [qe,Bool.or_eq_true,Bool.not_eq_true']at hok;obtain ⟨hlk,hreg⟩:=hok;split at hx
  ·rename_i s fps hex;split at hx
   ·rename_i hconf;simp only [qb,Prod.mk.injEq]at hx;obtain ⟨rfl,rfl⟩:=hx;cases draw with
    |false =>
     refine wpIn_region ?_;have hr:List.range ops.size=List.range' 0 ops.size:=List.range_eq_range';rw [hr]at hex ⊢;exact qx9 hC hFO hlk ops.size 0 st s fps a w (by omega) ((hS.qDp (P:=P) (H:=H) (f:=f) (ops:=ops)).mono λk _=>by simp) hex λa' w' hS'=>⟨rfl,hS'⟩
    |true =>
     have hreg':qeb H f (H.pairs f id) ops=true:=by simpa using hreg
     have hconf':qg4 (H.pairs f id) fps=true:=by simpa using hconf
     refine wpIn_region_any hm (qs4 hC hFO hreg' hlk ops.size _ st s fps a _ (by simp) (λk o ho hk=>?_) (by rw [qeT];simp) (by rw [qeT];exact hex) (qmJ hconf') (((qrT hS).qDp (P:=P) (H:=H) (f:=f) (ops:=ops)).mono λk hk=>?_) λa' w' hS'=>⟨rfl,hS'⟩)
     ·have:=(Array.getElem?_eq_some_iff.1 ho).1;simp [Array.getD,this]at hk
     ·simp [Array.getD,hk]
   ·cases hx
  ·cases hx
 ·cases hx
end
section
variable {P:Program} {H:Hints} {f:FuncId} {C:Orc} {w w':World} {X:Cx}
def qBX(w:World)(b off:Nat)(vs:List Value)(w':World):Prop :=
 ∃(w1:World) (n:Nat) (os:Array Obj),w'={w1 with drawn:=w1.drawn+n,heap:=w1.heap++os}/\w1.heap.size=w.heap.size/\(∀k,k≠b->w1.heap[k]?=w.heap[k]?) /\
  (∀arr ty,w.heap[b]?=some (.cells arr ty (0,0))->w1.heap[b]?=some (.cells (rowAt arr off vs) ty (0,0)))/\w1.os=w.os/\w1.output=w.output/\w1.tape=w.tape
def qAn(P:Program)(g:FuncId)(F:List Int->Option (List Int)):Prop :=
 ∀zs zs',F zs=some zs'->zs'.length=zs.length /\
  (zs≠[]->∀(w:World) (b off cap:Nat) (arr:Array Value) (ty:TypeId),w.heap[b]?=some (.cells arr ty (0,0))->off+zs.length<=arr.size->Seg w b off (zs.map (Value.int .i64))->zs.length<=cap ->
   qqq True P g #[.slice (some ⟨b,off,none⟩) zs.length cap] w λ_ w'=>qBX w b off (zs'.map (Value.int .i64)) w') /\
  (zs=[]->∀(w:World) (a:Option Addr) (cap:Nat),qqq True P g #[.slice a 0 cap] w λ_ w'=>∃(n:Nat) (os:Array Obj),w'={w with drawn:=w.drawn+n,heap:=w.heap++os})
def qo3(P:Program)(H:Hints):Prop:=∀g F,H.turn g=some F->qAn P g F
def qi4 (P : Program) (H : Hints) : Prop := (∀ (g : FuncId) (fn : Func), P.funcs[g]? = some fn -> fn.body.isSome = true -> (fn.name == "runtime.NumGoroutine") = false) /\ qo3 P H /\ qAm P H
theorem qrU{w0:World}{X0:Cx}{Md:Md}{n:Nat}{st:St}{a:Act}(hS:qio w0 X0 Md n st a w)(k:Nat)(os:Array Obj)(d:Option Tmp)(v:Value):qio w0 X0 Md n (st.put d .undef) (a.put d v) {w with drawn:=w.drawn+k,heap:=w.heap++os}:=by
 obtain ⟨X,O,h,hF,hM⟩:=hS;have hold:∀i,i<w.heap.size->(w.heap++os)[i]?=w.heap[i]?:=λi hi=>by rw [Array.getElem?_append_left hi]
 have heff:Eff w X {w with drawn:=w.drawn+k,heap:=w.heap++os} X [] :=
  ⟨by simp,λb hb _=>hold b hb,λ_ _ _=>rfl,by simp,rfl,λb e fz hb=>by have:=h.dom b e fz hb;simp;omega,rfl,rfl,rfl⟩
 have h1:=h.put (T:=[]) (Oin:=[]) (O':=[]) (z:=.undef) (v:=v) d (by simp) heff (by simp [Rep]) Lin.nil (by simp) (by simp [V.qp]);have hF1:=Fr.put (z:=.undef) h hF (T:=[]) (Oin:=[]) (O':=[]) d (by simp) heff (by simp);have hdef:(a.put d v).defers=a.defers:=by cases d<;>rfl
 refine ⟨X,_,?_,hF1,?_⟩
 ·rw [qco];exact h1
 ·rw [hdef];exact hM.of λk' hk _ _=>⟨hold k' (Array.getElem?_eq_some_iff.1 hk).1,rfl⟩
theorem qq2:∀{l:List V} {zs:List Int},qmj l=some zs->l=qc0 zs
 |[],zs,h=>by simp only [qmj,qb]at h;subst h;rfl
 |x::l,zs,h=>by
  unfold qmj at h;split at h
  ·rename_i heq;simp at heq
  ·rename_i n l' heq;obtain ⟨m,hm,rfl⟩:=qc.1 h;simp only [List.cons.injEq]at heq;obtain ⟨rfl,rfl⟩:=heq;rw [qq2 hm];rfl
  ·cases h
theorem qrG:∀{s:Nat} {zs:List Int} {vals:List Value} {O:List Nat},RepE w X s (qc0 zs) vals O->vals=zs.map (Value.int .i64)/\O=[]
 |s,[],vals,O,h=>by simpa only [qc0,List.map_nil,RepE]using h
 |s,n::zs,vals,O,h=>by
  simp only [qc0,qh,RepE]at h;obtain ⟨u,vs',O1,O2,rfl,_,rfl,h1,h2⟩:=h;obtain ⟨rfl,rfl⟩:=qrG (zs:=zs) h2;simp only [Rep]at h1;obtain ⟨rfl,rfl⟩:=h1;exact ⟨rfl,rfl⟩
theorem qoD:∀(zs:List Int),RepE w X 1 (qc0 zs) (zs.map (Value.int .i64)) []
 |[]=>by simp [RepE,qc0]
 |n::zs=>by
  simp only [qc0,qh,RepE];exact ⟨.int .i64 n,_,[],[],rfl,rfl,rfl,by simp [Rep],qoD zs⟩
theorem qrA:∀zs:List Int,ptrsL (qc0 zs)=[]
 |[]=>rfl
 |n::zs=>by simp only [qc0,qh,ptrsL,V.qp,List.nil_append];exact qrA zs
theorem quW(zs:List Int):∀x∈qc0 zs,x.cells.length=1:=by
 intro x hx;obtain ⟨n,_,rfl⟩:=List.mem_map.1 hx;rfl
theorem qkt(zs:List Int):(qc0 zs).length=zs.length:=by simp [qc0]
theorem qlP{α:Type}:∀{l:List α} {i:Nat} {x:α},l[i]?=some x->l.set i x=l
 |[],i,x,h=>by simp at h
 |y::l,0,x,h=>by simp at h;subst h;rfl
 |y::l,i+1,x,h=>by simp only [List.set_cons_succ,qlP (by simpa using h:l[i]?=some x)]
theorem qts{ops:Array Oper}{draw:Bool}{F:List Int->Option (List Int)}{t e:Tmp}{d:Option Tmp}(h:qgC H ops draw=some (F,t,e,d)) :
  draw=false/\∃m o c g,ops=#[m,o]/\m.op=.move (.tmp t)/\m.dst=some e/\m.guard=none/\t≠e/\o.op=.call c/\c.callee=.value (.func g)/\c.args=#[.tmp e]/\H.turn g=some F/\o.guard=none/\o.dst=d:=by
 unfold qgC at h;split at h
 ·rename_i m o hops;split at h
  ·rename_i t' e' g args _ hm hd hg hop hgo;split at h
   ·rename_i e2 F' hargs hF;split at h
    ·rename_i hc;obtain ⟨rfl,hne⟩:=hc;simp only [qb,Prod.mk.injEq]at h;obtain ⟨rfl,rfl,rfl,rfl⟩:=h;refine ⟨rfl,m,o,_,g,?_,hm,hd,hg,hne,hop,rfl,?_,hF,hgo,rfl⟩
     ·apply Array.ext';simpa using hops
     ·apply Array.ext';simpa using hargs
    ·cases h
   ·cases h
  ·cases h
 ·cases h
theorem qyB{G:List Int->Option (List Int)}{g:FuncId}(hTg:qAn P g G){F:Fence}{w0:World}{X0:Cx}{Md:Md}{n:Nat}(hFO:FOk F X0 Md n){st s:St}{a:Act}{t:Tmp}{d:Option Tmp}(hS:qio w0 X0 Md n st a w)(hx1:qhQ G t d st=some s) :
  qqq True P g #[a.tmps.getD t undef] w (λv w'=>qio w0 X0 Md n s (a.put d v) w'):=by
 have hS0:=hS;obtain ⟨X,O,h,hF,hM⟩:=hS;unfold qhQ at hx1;split at hx1
 ·rename_i hL;simp only [qe,List.isEmpty_iff]at hL;obtain ⟨hL,hnl⟩:=hL;have empty:∀(a0:Option Addr) (cap:Nat) (zs':List Int),a.tmps.getD t undef=.slice a0 0 cap->G []=some zs'->qqq True P g #[a.tmps.getD t undef] w (λv w'=>qio w0 X0 Md n (st.put d .undef) (a.put d v) w'):=by
   intro a0 cap zs' hv hG0;obtain ⟨_,_,h3⟩:=hTg [] zs' hG0;rw [hv];refine (h3 rfl w a0 cap).mono (λh=>h) ?_;rintro v w' ⟨k,os,rfl⟩;exact qrU hS0 k os d v
  have hgetD:∀x,st.E.getD t .undef=x->x≠.undef->∃v,st.E[t]?=some x/\a.tmps[t]?=some v/\a.tmps.getD t undef=v/\Rep w X x v (O (.tmp t)):=by
   intro x hx hne;rw [List.getD_eq_getElem?_getD]at hx;cases hE:st.E[t]? with
   |none=>rw [hE]at hx;simp at hx;exact absurd hx.symm hne
   |some y =>
    rw [hE]at hx;simp at hx;subst hx;obtain ⟨v,hv,hr⟩:=h.env t y hE;exact ⟨v,rfl,hv,by rw [Array.getD_eq_getD_getElem?,hv];rfl,hr⟩
  split at hx1
  ·rename_i c' l hE;obtain ⟨v,hEt,hvt,hv,hr⟩:=hgetD _ hE (by simp);split at hx1
   ·rename_i zs hzs;have hl:=qq2 hzs;subst hl;split at hx1
    ·rename_i zs' hG1;split at hx1
     ·rename_i hz0;have hz0:zs=[]:=by simpa using hz0
      subst hz0;simp only [qb]at hx1;subst hx1;have hve:∃a0 cap,v=.slice a0 0 cap:=by
       simp only [Rep]at hr;rcases hr.2 with ⟨_,_,rfl|⟨hh,_⟩⟩|⟨b,off,cap,s,vals,O',rfl,_⟩
       ·exact ⟨none,0,rfl⟩
       ·exact absurd rfl hh
       ·exact ⟨_,cap,rfl⟩
      obtain ⟨a0,cap,rfl⟩:=hve;have hz':zs'=[]:=List.length_eq_zero_iff.1 (hTg [] zs' hG1).1;have hset:st.E.set t (.sl .own c' (qc0 zs'))=st.E:=by
       subst hz';exact qlP hEt
      rw [hset];exact empty a0 cap zs' hv hG1
     ·rename_i hz0;have hz0:zs≠[]:=by simpa using hz0
      simp only [qb]at hx1;subst hx1;obtain ⟨hlen',h2,_⟩:=hTg zs zs' hG1;simp only [Rep]at hr;obtain ⟨hnp,hr⟩:=hr;rcases hr with ⟨hl0,_⟩|⟨b,off,cap,s1,vals,O',rfl,hcap,hc,hlen,hs0,hxs,hsg,⟨e1,fz,hω,hle,h1a,h1b,⟨arr,ty,harr,hsz⟩,h1d⟩,hRE,hO,_⟩
      ·have:=qkt zs;rw [hl0]at this;exact absurd (List.length_eq_zero_iff.1 this.symm) hz0
      ·subst h1a;obtain ⟨rfl,rfl⟩:=qrG hRE;rw [qkt]at hcap hc hlen hv hvt;have hs1:s1=1:=by
        obtain ⟨z,hz⟩:=List.exists_mem_of_ne_nil _ hz0;exact (hxs (.val (.int .i64 z)) (List.mem_map.2 ⟨z,hz,rfl⟩)).symm
       subst hs1;rw [List.length_map]at hle h1b h1d;have hfit:off+zs.length<=arr.size:=by omega
       have hcall:=h2 hz0 w b off cap arr ty harr hfit hsg hcap;rw [hv];refine hcall.mono (λh=>h) ?_;rintro v2 w2 ⟨w1,k,os,rfl,hsz1,hk1,hb1,hos,hout,htape⟩;have hb1':=hb1 arr ty harr;have hW:Wrote w X w1 b:=⟨⟨e1,hω⟩,hk1⟩
       have hOt:O (.tmp t)=[b]:=hO trivial;have hA:Rep w1 X (.sl .own c' (qc0 zs')) (.slice (some ⟨b,off,none⟩) zs.length cap) [b]:=by
        simp only [Rep];rw [qkt,hlen'];refine ⟨qrA zs',.inr ⟨b,off,cap,1,zs'.map (Value.int .i64),[],rfl,hcap,hc,by simp [hlen'],by simp,quW zs',?_,⟨e1,false,hω,by rw [List.length_map];omega,rfl,by rw [List.length_map];omega,⟨_,ty,hb1',by unfold rowAt;simp;omega⟩,λh0=>h1d (by rw [List.length_map]at h0;omega)⟩,qoD zs',λ_=>rfl,λhh=>absurd rfl hh⟩⟩;intro i u hi;have hi':=(qm.1 hi).1;rw [List.length_map]at hi';simp only [World.cell?,hb1'];have e2:(rowAt arr off (zs'.map (Value.int .i64)))[off+i]?=(rowAt arr off (zs'.map (Value.int .i64))).toList[off+i]?:=by simp
        simp only [Option.isSome_none,qf,if_false];rw [e2];unfold rowAt;rw [qkE (by simp;omega),if_pos ⟨by omega,by simp;omega⟩,Nat.add_sub_cancel_left];exact hi
       obtain ⟨O2,hR2,hF2,hM2⟩:=qpE (st':={st with E:=(st.E.map V.qdH).set t (.sl .own c' (qc0 zs')),B:=qjh st.B}) h hF (λh0=>hFO.2 h0) hM hL hnl hW hsz1 hos hout htape (T:=[]) (Ox:=[]) (pl:=.tmp t) (by simp) Lin.nil (by simp) (by rw [hOt];simp) (by simp) hL
        (λt' x' hx'=>by
         simp only [List.getElem?_set]at hx';by_cases hrt:t=t'
         ·subst hrt;rw [if_pos rfl]at hx';split at hx'
          ·cases hx'
           exact .inr ⟨rfl,by simp only [V.qp],_,hvt,[b],hA,λk=>by rw [hOt];simp⟩
          ·cases hx'
         ·rw [if_neg hrt,List.getElem?_map]at hx';obtain ⟨x0,h2,rfl⟩:=qc.1 hx';exact .inl ⟨λe=>hrt (by cases e;rfl),x0,by rw [qsp];exact h2,rfl⟩)
        (λq=>by
         rw [qdC (st:=({st with E:=_,B:=qjh st.B}:St)) hL,qdC hL];simp only [qch];split
         ·simp
         ·rfl)
        (λq c' hq=>by
         rw [qdC (st:=({st with E:=_,B:=qjh st.B}:St)) hL]at hq;rw [qdC hL];simp only [qch]at hq;split at hq
         ·rename_i h0;obtain ⟨c,hc,rfl⟩:=qc.1 hq;exact ⟨c,by rw [if_pos h0];exact hc,.inl ⟨by simp,rfl⟩⟩
         ·cases hq)
       exact qrU (w:=w1) ⟨X,O2,hR2,hF2,hM2⟩ k os d v2
    ·cases hx1
   ·cases hx1
  ·rename_i hE;obtain ⟨v,_,_,hv,hr⟩:=hgetD _ hE (by simp);simp only [Rep]at hr;obtain ⟨zs',hG0,hs⟩:=qc.1 hx1;subst hs;exact empty none 0 zs' (by rw [hv];exact hr.1) hG0
  ·cases hx1
 ·cases hx1
theorem qzT{w0:World}{X0:Cx}{Md:Md}{n:Nat}{st:St}{a:Act}(hS:qio w0 X0 Md n st a w)(d:Option Tmp)(v:Value):qio w0 X0 Md n (st.put d .undef) (a.put d v) w:=by
 obtain ⟨X,O,h,hF,hM⟩:=hS;have hdef:(a.put d v).defers=a.defers:=by cases d<;>rfl
 refine ⟨X,qg9 O [] d st.E.length [],?_,hF.qiI d (by simp),by rw [hdef];exact hM⟩;rw [qco];exact h.qiI d (by simp [Rep]) Lin.nil (by simp) (by simp [V.qp])
theorem qs6(hT:qo3 P H){F:Fence}{w0:World}{X0:Cx}{Md:Md}{n:Nat}(hFO:FOk F X0 Md n){bid id:Nat}{ops:Array Oper}{draw:Bool}{st st':St}{e:Ex}{a:Act}{p}(hS:qio w0 X0 Md n st a w)
  {st0:St} (hcl:st0.clear (H.pre f id)=some st) (hnt:qgC H ops draw=some p) (hx:ex P H C f bid (.region id ops draw) st0=some (e,st')):(Code.region id ops draw).wpIn F 0 P (λe' a' w'=>e'=e.qqO/\qio w0 X0 Md n st' a' w') a w:=by
 obtain ⟨G,t,e1,d⟩:=p;simp only [ex,hcl,hnt]at hx;split at hx
 ·rename_i hlt;obtain ⟨s,hx1,hx2⟩:=qc.1 hx;simp only [Prod.mk.injEq]at hx2;obtain ⟨rfl,rfl⟩:=hx2;obtain ⟨rfl,m,o,c,g,rfl,hmop,hmd,hmg,hne,hop,hcal,hargs,hG,hgd,rfl⟩:=qts hnt;have hFF:=qmd hFO;have hsz:e1<a.tmps.size:=by
   obtain ⟨X,O,h,_,_⟩:=hS;rw [h.size];exact hlt
  refine wpIn_region ?_;have hr:List.range (#[m,o]:Array Oper).size=[0,1]:=rfl;rw [hr,wpOpsIn_cons];unfold wpOpIn;have hm0:(#[m,o]:Array Oper)[0]?=some m:=rfl;rw [hm0];have hwant:Region.wanted m (yielded #[m,o] a.tmps)=true:=by unfold Region.wanted;rw [hmg]
  simp only [hwant,if_true];refine ⟨λg _=>qkc hFF g,?_⟩;rw [Oper.semAt_eq _ _ _ (by intro c hc;rw [hmop]at hc;cases hc)];have hrun1:(execOp a.eval m).run P w=.ok (.value (a.tmps.getD t undef)) w:=by simp only [execOp,hmop,Sem.run_pure]<;>rfl
  rw [hrun1,Oper.uponIn_value,hmd];have hS1:=qzT hS (some e1) (a.tmps.getD t undef);have hv1:(a.put (some e1) (a.tmps.getD t undef)).tmps.getD e1 undef=a.tmps.getD t undef:=qny hsz;have hv2:(a.put (some e1) (a.tmps.getD t undef)).tmps.getD t undef=a.tmps.getD t undef:=qux (by intro h;cases h;exact hne rfl);have key:=qyB (hT g G hG) hFO hS1 hx1;rw [hv2]at key;generalize ha1:a.put (some e1) (a.tmps.getD t undef)=a1 at key hv1;rw [wpOpsIn_cons];unfold wpOpIn;have ho:(#[m,o]:Array Oper)[1]?=some o:=rfl;rw [ho];have hwant2:Region.wanted o (yielded #[m,o] a1.tmps)=true:=by unfold Region.wanted;rw [hgd]
  simp only [hwant2,if_true];refine ⟨λg _=>qkc hFF g,?_⟩;rw [Oper.semAt_eq _ _ _ (by intro c hc;rw [hop]at hc;cases hc)];have hexec:execOp a1.eval o=(do let d <- resolve a1.eval c o.type;invoke d.target d.args):=by simp only [execOp,hop]
  have hres:resolve a1.eval c o.type=Deferred.ofValue (a1.eval (.func g)) (c.args.map a1.eval):=by simp only [resolve,hcal]
  have hev:a1.eval (.func g)=.func (.func g) #[] #[]:=rfl;rw [hexec,hres,hev,hargs];have hrun:(Deferred.ofValue (.func (.func g) #[] #[]) ((#[.tmp e1]:Array Operand).map a1.eval) >>= λd=>invoke d.target d.args).run P w=(callFunc g #[a.tmps.getD t undef]).run P w:=by
   simp only [Deferred.ofValue,Sem.run_bind,Sem.run_pure,Result.andThen_ok,invoke];congr 2
   apply Array.ext';simp [Act.eval,hv1]
  rw [hrun];refine qgt hFF (key.mono (λh=>h) λv w' hS'=>?_);exact ⟨rfl,hS'⟩
 ·cases hx
end
section
variable {P:Program}
def Calm{α:Type}(P:Program)(s:Sem α):Prop:=∀(w:World) (a:α) (w1:World),s.run P w=.ok a w1->w1=w/\∀w2,s.run P w2=.ok a w2
def quC{α:Type}(P:Program)(s:Sem α):Prop:=∀(w:World) (a:α) (w1:World),s.run P w≠.ok a w1
theorem quC.calm{α:Type}{s:Sem α}(h:quC P s):Calm P s:=λw a w1 e=>absurd e (h w a w1)
theorem qaX{α:Type}(a:α):Calm P (pure a:Sem α):=λw b w1 h=>by
 have h:Result.ok a w=.ok b w1:=h;cases h;exact ⟨rfl,λ_=>rfl⟩
theorem qbb{α:Type}(h:Halt):quC P (.halt h:Sem α):=λw a w1 e=>by
 have e:(Result.halt h w:Result α)=.ok a w1:=e;cases e
theorem Calm.bind{α β:Type}{s:Sem α}{f:α->Sem β}(hs:Calm P s)(hf:∀a,Calm P (f a)):Calm P (s >>= f):=λw b w1 h=>by
 rw [Sem.run_bind]at h;cases hr:s.run P w with
 |halt x w'=>rw [hr]at h;cases h
 |ok a w' =>
  rw [hr,Result.andThen_ok]at h;obtain ⟨rfl,h2⟩:=hs w a w' hr;obtain ⟨rfl,h3⟩:=hf a _ b w1 h;exact ⟨rfl,λw2=>by rw [Sem.run_bind,h2 w2,Result.andThen_ok,h3 w2]⟩
theorem quC.bind{α β:Type}{s:Sem α}{f:α->Sem β}(hf:∀a,quC P (f a)):quC P (s >>= f):=λw b w1 h=>by
 rw [Sem.run_bind]at h;cases hr:s.run P w with
 |halt x w'=>rw [hr]at h;cases h
 |ok a w'=>rw [hr,Result.andThen_ok]at h;exact hf a w' b w1 h
theorem qkS:Calm P program:=λw a w1 h=>by
 have h:Result.ok P w=.ok a w1:=h;cases h;exact ⟨rfl,λ_=>rfl⟩
theorem qeq(t:TypeId):Calm P (underlying t):=by
 unfold underlying;refine qkS.bind λp=>?_;cases p.underlying t with
 |none=>exact (qbb _).calm
 |some d=>exact qaX d
theorem qpd(t:TypeId):Calm P (typeInfo t):=by
 unfold typeInfo;refine qkS.bind λp=>?_;cases p.info? t with
 |none=>exact (qbb _).calm
 |some d=>exact qaX d
theorem qlY(t:TypeId):Calm P (sizeOf t):=by
 unfold sizeOf;exact (qpd t).bind λ_=>qaX _
theorem qfS(v:Value):Calm P (Instr.sureAddr v):=by
 unfold Instr.sureAddr;split
 ·exact qaX _
 ·exact (qbb _).calm
theorem qqD(v:Value):Calm P (asIntOf v):=by
 unfold asIntOf;split
 ·exact qaX _
 ·exact (qbb _).calm
 ·exact (qbb _).calm
theorem qdo{α:Type}(e:RuntimeError):quC P (runtimePanic e:Sem α):=by
 unfold runtimePanic;refine quC.bind λp=>?_;dsimp only;cases e<;>first|exact qbb _|(refine quC.bind λ_=>quC.bind λ_=>?_;exact qbb _)
theorem qln{α:Type}(k:IntKind)(x y:Int)(c:BoundsCode):quC P (boundsPanic k x y c:Sem α):=by
 unfold boundsPanic;dsimp only;split<;>exact quC.bind λ_=>qdo _
theorem qqF(t:TypeId)(x ix:Value):Calm P (Instr.indexAt t x ix):=by
 unfold Instr.indexAt;refine (qqD ix).bind λki=>?_;refine (qeq t).bind λd=>?_
 extract_lets jp
 have hj:∀q,Calm P (jp q):=by
  rintro ⟨base,len,elem⟩;simp only [jp];refine (qeq t).bind λd2=>?_;repeat' split
  all_goals first
   |exact (qlY _).bind λ_=>qaX _
   |exact (qbb _).calm
   |exact (qln _ _ _ _).calm
 split
 ·exact (qfS _).bind λ_=>(qaX _).bind λ_=>hj _
 ·exact (qaX _).bind λ_=>hj _
 ·exact (quC.calm (qbb _)).bind λ_=>hj _
theorem qsk(op:BinOp)(t:TypeId)(k k':IntKind)(a b:Int)(x y:Operand):Calm P (do eqGuard op t x y (.int k a) (.int k' b);binOp op t (.int k a) (.int k' b)):=by
 refine Calm.bind ?_ λ_=>?_
 ·unfold eqGuard;cases op<;>exact qaX _
 ·have hs:Calm P (Op.shift op k a k' b):=by
   unfold Op.shift;split
   ·exact (qdo _).calm
   ·cases op<;>first|exact qaX _|exact (qbb _).calm
  have hm : Calm P (if k ≠ k' then stuck "BinOp: operands of different kinds" else
    match op with
    |.add|.sub|.mul=>Op.intArith op k a b
    |.quo|.rem=>Op.intDiv op k a b
    |.and|.or|.xor|.andNot=>Op.intBits op k a b
    |_=>Op.intCmp op a b):=by
   split
   ·exact (qbb _).calm
   ·have hd:∀o,Calm P (Op.intDiv o k a b):=λo=>by
     unfold Op.intDiv;split
     ·exact (qdo _).calm
     ·cases o<;>first|exact qaX _|exact (qbb _).calm
    cases op<;>first|exact hd _|exact qaX _|exact (qbb _).calm
  cases op<;>first|exact hs|exact hm
theorem Calm.qB7{α β:Type}{s:Sem α}{f:α->Sem β}(hs:Calm P s)(hf:∀w a w1,s.run P w=.ok a w1->Calm P (f a)):Calm P (s >>= f):=λw b w1 h=>by
 rw [Sem.run_bind]at h;cases hr:s.run P w with
 |halt x w'=>rw [hr]at h;cases h
 |ok a w' =>
  rw [hr,Result.andThen_ok]at h;have hc:=hf w a w' hr;obtain ⟨rfl,h2⟩:=hs w a w' hr;obtain ⟨rfl,h3⟩:=hc _ b w1 h;exact ⟨rfl,λw2=>by rw [Sem.run_bind,h2 w2,Result.andThen_ok,h3 w2]⟩
theorem qqE{s:TypeId}{f:Nat}(h:qA7 P s f=true)(x:Value):Calm P (Instr.fieldAt s x f):=by
 unfold Instr.fieldAt;refine (qeq s).qB7 λw d w1 hd=>?_;have hu:P.underlying s=some d:=by
  unfold underlying at hd;rw [Sem.run_bind] at hd;have hd : (match P.underlying s with | some d => (pure d : Sem TypeDesc) | none => stuck "no such type").run P w = .ok d w1 := hd;cases hh : P.underlying s with
  |none=>rw [hh]at hd;exact absurd hd (qbb _ _ _ _)
  |some d'=>rw [hh]at hd;have hd:Result.ok d' w=.ok d w1:=hd;cases hd;rfl
 unfold qA7 at h;rw [hu]at h;split
 ·rename_i fields;simp only at h;cases hf:fields[f]? with
  |none=>rw [hf]at h;cases h
  |some fd =>
   rw [hf]at h;simp only at h;refine (qfS x).bind λa=>?_;refine Calm.bind ?_ λ_=>qaX _;unfold fieldPlace;refine (qlY _).qB7 λw n w1 hn=>?_;have hn0:n≠0:=by
    unfold sizeOf typeInfo at hn;cases hi:P.info? fd.type with
    |none=>rw [hi]at h;cases h
    |some i =>
     rw [hi] at h;have hn : (do let i <- (match P.info? fd.type with | some i => (pure i : Sem TypeInfo) | none => stuck "no such type"); pure i.size : Sem Nat).run P w = .ok n w1 := hn;rw [hi] at hn;have hn : Result.ok i.size w = .ok n w1 := hn;cases hn;simpa using h
   rw [if_neg hn0];exact qaX _
 ·exact (qbb _).calm
def qia(ρ:Operand->Value)(o:Oper):Prop:=∀op t x y t2,o.op=.binOp op t x y t2->∃k a k' b,ρ x=.int k a/\ρ y=.int k' b
theorem qj5{s:Sem Value}(h:Calm P s):Calm P (do pure (Next.value (<- s))):=h.bind λ_=>qaX _
theorem qhI{o:Oper}{ρ:Operand->Value}(hq:qhb P o=true)(hi:qia ρ o):Calm P (execOp ρ o):=by
 unfold qhb at hq;simp only [qe]at hq;have hq:=hq.2;split at hq
 ·rename_i x hop;simp only [execOp,hop];exact qaX _
 ·rename_i t x ix hop;simp only [execOp,hop];exact qj5 (qqF _ _ _)
 ·rename_i op t x y t2 hop;obtain ⟨k,a,k',b,h1,h2⟩:=hi _ _ _ _ _ hop;simp only [execOp,hop,h1,h2];exact qj5 (qsk op t k k' a b x y)
 ·rename_i s x f hop;simp only [execOp,hop];exact qj5 (qqE hq _)
 ·cases hq
def qCA:Next->Option Value
 |.value v=>some v
 |.skip=>some undef
 |_=>none
def cx1(P:Program)(o:Oper)(s:Act×World):Option (Act×World):=match (execOp s.1.eval o).run P s.2 with
 |.ok n w'=>(qCA n).map λv=>(s.1.put o.dst v,w')
 |.halt ..=>none
theorem qet{o:Oper}{s s':Act×World}:cx1 P o s=some s'↔∃n v w',(execOp s.1.eval o).run P s.2=.ok n w'/\qCA n=some v/\s'=(s.1.put o.dst v,w'):=by
 unfold cx1;cases h:(execOp s.1.eval o).run P s.2 with
 |halt x w=>simp
 |ok n w' =>
  simp only [qc,Result.ok.injEq];constructor
  ·rintro ⟨v,h1,rfl⟩;exact ⟨n,v,w',⟨rfl,rfl⟩,h1,rfl⟩
  ·rintro ⟨_,v,_,⟨rfl,rfl⟩,h1,rfl⟩;exact ⟨v,h1,rfl⟩
structure Apt (x y:Oper):Prop where
 xy:∀d,x.dst=some d->Operand.tmp d∉y.op.operands
 yx:∀d,y.dst=some d->Operand.tmp d∉x.op.operands
 ne:∀d,x.dst=some d->y.dst≠some d
 sx:∀cs b,x.op≠.select cs b
 sy:∀cs b,y.op≠.select cs b
theorem qtJ{x:Oper}{a:Act}{d:Option Tmp}{v:Value}(hs:∀cs b,x.op≠.select cs b)(h:∀t,d=some t->Operand.tmp t∉x.op.operands):execOp (a.put d v).eval x=execOp a.eval x :=
 execOp_congr x hs λo ho=>Act.eval_put λt ht e=>h t ht (e▸ho)
theorem qnt{x y:Oper}{a:Act}{w:World}{s1 s2:Act×World}(ha:Apt x y)(h1:cx1 P x (a,w)=some s1)(h2:cx1 P y s1=some s2)
  (hw:∀n w1 m w2,(execOp a.eval x).run P w=.ok n w1->(execOp a.eval y).run P w1=.ok m w2->∃w1',(execOp a.eval y).run P w=.ok m w1'/\(execOp a.eval x).run P w1'=.ok n w2) :
  ∃s1',cx1 P y (a,w)=some s1'/\cx1 P x s1'=some s2:=by
 obtain ⟨n,v,w1,r1,e1,rfl⟩:=qet.1 h1;obtain ⟨m,u,w2,r2,e2,rfl⟩:=qet.1 h2;simp only at r1 r2;rw [qtJ ha.sy ha.xy]at r2;obtain ⟨w1',r3,r4⟩:=hw n w1 m w2 r1 r2;refine ⟨(a.put y.dst u,w1'),qet.2 ⟨m,u,w1',r3,e2,rfl⟩,qet.2 ⟨n,v,w2,?_,e1,?_⟩⟩
 ·simp only;rw [qtJ ha.sx ha.yx];exact r4
 ·simp only;rw [Act.put_comm a v u ha.ne]
theorem qBz{x y:Oper}{a:Act}{w:World}{s1 s2:Act×World}(ha:Apt x y)(hq:qhb P x=true)(hi:qia a.eval x)(h1:cx1 P x (a,w)=some s1)(h2:cx1 P y s1=some s2) :
  ∃s1',cx1 P y (a,w)=some s1'/\cx1 P x s1'=some s2 :=
 qnt ha h1 h2 λn w1 m w2 r1 r2=>by
  obtain ⟨rfl,h3⟩:=qhI hq hi w n w1 r1;exact ⟨w2,r2,h3 w2⟩
theorem qBA{x y:Oper}{a:Act}{w:World}{s1 s2:Act×World}(ha:Apt x y)(hq:qhb P y=true)(hi:qia a.eval y)(h1:cx1 P x (a,w)=some s1)(h2:cx1 P y s1=some s2) :
  ∃s1',cx1 P y (a,w)=some s1'/\cx1 P x s1'=some s2 :=
 qnt ha h1 h2 λn w1 m w2 r1 r2=>by
  obtain ⟨rfl,h3⟩:=qhI hq hi w1 m w2 r2;exact ⟨w,h3 w,r1⟩
def cxs(P:Program)(ops:Array Oper):List Nat->Act×World->Option (Act×World)
 |[],s=>some s
 |i::l,s=>match ops[i]? with
  |some o=>(cx1 P o s).bind (cxs P ops l)
  |none=>none
theorem qcB{ops:Array Oper}{i:Nat}{l:List Nat}{s t:Act×World}:cxs P ops (i::l) s=some t↔∃o s1,ops[i]?=some o/\cx1 P o s=some s1/\cxs P ops l s1=some t:=by
 simp only [cxs];cases h:ops[i]? with
 |none=>simp
 |some o =>
  simp only [qd,qb];constructor
  ·rintro ⟨s1,h1,h2⟩;exact ⟨o,s1,rfl,h1,h2⟩
  ·rintro ⟨_,s1,rfl,h1,h2⟩;exact ⟨s1,h1,h2⟩
def Comm(P:Program)(ops:Array Oper)(Inv:Act×World->Prop)(fin:Act×World)(j i:Nat)(rest:List Nat):Prop :=
 ∀(x y:Oper) (s s1 s2:Act×World),ops[j]?=some x->ops[i]?=some y->Inv s->cx1 P x s=some s1->cx1 P y s1=some s2->cxs P ops rest s2=some fin->∃s1',cx1 P y s=some s1'/\cx1 P x s1'=some s2
def qAR(P:Program)(ops:Array Oper)(Inv:Act×World->Prop)(fin:Act×World)(i:Nat)(rest:List Nat):Prop :=
 ∀(o:Oper) (s s':Act×World),ops[i]?=some o->Inv s->cx1 P o s=some s'->cxs P ops rest s'=some fin->Inv s'
theorem qtH{ops:Array Oper}{Inv:Act×World->Prop}{fin:Act×World}{i:Nat}{B:List Nat}:∀(A:List Nat) (s:Act×World),(∀A1 j A2,A=A1++j::A2->qAR P ops Inv fin j (A2++i::B))->Inv s->cxs P ops (A++i::B) s=some fin ->
  (∀A1 j A2,A=A1++j::A2->Comm P ops Inv fin j i (A2++B))->cxs P ops (i::(A++B)) s=some fin
 |[],s,_,_,h,_=>h
 |j::A,s,hK,hI,h,hA=>by
  rw [List.cons_append,qcB]at h;obtain ⟨x,s1,hx,h1,h2⟩:=h;have h3:=qtH A s1 (λA1 k A2 e=>hK (j::A1) k A2 (by rw [e];rfl)) (hK [] j A rfl x s s1 hx hI h1 h2) h2 λA1 k A2 e=>hA (j::A1) k A2 (by rw [e];rfl);rw [qcB]at h3;obtain ⟨y,s2,hy,h4,h5⟩:=h3;obtain ⟨s1',h6,h7⟩:=hA [] j A rfl x y s s1 s2 hx hy hI h1 h4 h5;rw [qcB];exact ⟨y,s1',hy,h6,by rw [List.cons_append,qcB];exact ⟨x,s2,hx,h7,h5⟩⟩
theorem qfC{o:Oper}(h:qbX P o=true):o.guard=none/\(∀c,o.op≠.call c)/\(∀c,o.op≠.defer c)/\∀cs b,o.op≠.select cs b:=by
 unfold qbX qhb at h;simp only [qe,Option.isNone_iff_eq_none,Bool.or_eq_true]at h;refine ⟨h.1,λc e=>?_,λc e=>?_,λcs b e=>?_⟩<;>rw [e]at h<;>simp at h
theorem qCK{F:Fence}{ops:Array Oper}{Q:Exit->Act->World->Prop}{i:Nat}{o:Oper}{s s':Act×World}{K:Act->World->Prop}(ho:ops[i]?=some o)(hp:qbX P o=true)(h:cx1 P o s=some s')(hK:K s'.1 s'.2):wpOpIn F 0 P ops Q i K s.1 s.2:=by
 obtain ⟨hg,hc,hd,_⟩:=qfC hp;obtain ⟨n,v,w',hr,hv,rfl⟩:=qet.1 h;unfold wpOpIn;rw [ho];have hwant:Region.wanted o (yielded ops s.1.tmps)=true:=by unfold Region.wanted;rw [hg]
 simp only [hwant,if_true];refine ⟨λf hf=>?_,?_⟩
 ·unfold Oper.about at hf;cases hop:o.op<;>rw [hop]at hf<;>first|cases hf|exact absurd hop (hc _)
 ·rw [Oper.semAt_eq _ _ _ hd,hr];cases n<;>simp only [qCA,qb,reduceCtorEq]at hv
  ·subst hv;rw [Oper.uponIn_value];exact hK
  ·subst hv;rw [Oper.uponIn_skip];exact hK
theorem qgV{p:Nat->Bool}{l A B:List Nat}{i:Nat}(hnd:l.Nodup)(h:l.filter p=A++i::B):∃A' B',l=A'++i::B'/\A=A'.filter p/\B=B'.filter p:=by
 have hi:i∈l:=(List.mem_filter.1 (by rw [h];simp:i∈l.filter p)).1;have hpi:p i=true:=(List.mem_filter.1 (by rw [h];simp:i∈l.filter p)).2;obtain ⟨A',B',rfl⟩:=List.append_of_mem hi;have hnd':(A'.filter p++i::B'.filter p).Nodup:=by
  have:=hnd.filter p
  rwa [List.filter_append,List.filter_cons,if_pos hpi]at this
 rw [List.filter_append,List.filter_cons,if_pos hpi]at h;refine ⟨A',B',rfl,?_⟩;have key:∀(X Y U W:List Nat),(X++i::Y).Nodup->X++i::Y=U++i::W->U=X/\W=Y:=by
  intro X;induction X with
  |nil =>
   intro Y U W hn e;cases U with
   |nil=>simp at e;exact ⟨rfl,e.symm⟩
   |cons u U =>
    simp only [List.nil_append,List.cons_append,List.cons.injEq]at e;obtain ⟨rfl,e⟩:=e;simp only [List.nil_append,List.nodup_cons]at hn;exact absurd (by rw [e];simp) hn.1
  |cons x X ih =>
   intro Y U W hn e;cases U with
   |nil =>
    simp only [List.nil_append,List.cons_append,List.cons.injEq]at e;obtain ⟨rfl,e⟩:=e;simp only [List.cons_append,List.nodup_cons]at hn;exact absurd (by simp) hn.1
   |cons u U =>
    simp only [List.cons_append,List.cons.injEq]at e;obtain ⟨rfl,e⟩:=e;simp only [List.cons_append,List.nodup_cons]at hn;obtain ⟨h1,h2⟩:=ih Y U W hn.2 e;exact ⟨by rw [h1],h2⟩
 obtain ⟨h1,h2⟩:=key _ _ _ _ hnd' h;exact ⟨h1,h2⟩
theorem qcM{j:Nat}:∀{l:List Nat},j∈l->j∈qdX l
 |x::l,h=>by
  unfold qdX;split
  ·rename_i hc;rcases qk.1 h with rfl|h
   ·exact qcM (by simpa using hc)
   ·exact qcM h
  ·rcases qk.1 h with rfl|h
   ·simp
   ·exact List.mem_cons_of_mem _ (qcM h)
theorem qB0{ops:Array Oper}(hb:∀(k:Nat) (o:Oper),ops[k]?=some o->∀j∈qaM o,j<k)(k:Nat)(o:Oper)(ho:ops[k]?=some o)(j:Nat)(hj:j∈qaM o):j∈(qdQ ops.toList).getD k []:=by
 rw [qi6 ops.toList k o (by simpa using ho) (hb k o ho)];exact qcM (List.mem_flatMap.2 ⟨j,hj,by simp⟩)
theorem qB3{F:Fence}{ops:Array Oper}{Q:Exit->Act->World->Prop}{fin:Act×World}{π:List Nat}(hall:∀i,i<ops.size->i∈π)(hnd:π.Nodup)
  (hb:∀(k:Nat) (o:Oper),ops[k]?=some o->∀j∈qaM o,j<k) (hext:∀A i B,π=A++i::B->∀y:Oper,ops[i]?=some y->∀j∈(qdQ ops.toList).getD i [],j∈A)
  (hpl:∀(i:Nat) (o:Oper),ops[i]?=some o->qbX P o=true) {Inv:Act×World->Prop} (hinv:∀(i:Nat) (rest:List Nat),(∀k∈rest,k∉(qdQ ops.toList).getD i [])->qAR P ops Inv fin i rest)
  (hcomm:∀A j B i C D,π=A++j::(B++i::C)->j∉(qdQ ops.toList).getD i []->i∉(qdQ ops.toList).getD j []->(∀k∈D,(k∈B\/k∈C)/\k∉(qdQ ops.toList).getD i []/\k∉(qdQ ops.toList).getD j [])->Comm P ops Inv fin j i D) (hQ:Q .normal fin.1 fin.2) :
  ∀(fuel:Nat) (listed:Array Bool) (s:Act×World),listed.size=ops.size->Down ops listed->(π.filter λk=>!listed.getD k true).length<=fuel->Inv s->cxs P ops (π.filter λk=>!listed.getD k true) s=some fin->wpAnyIn F 0 P .any ops Q fuel listed s.1 s.2:=by
 have hready:∀(listed:Array Bool),listed.size=ops.size->Down ops listed->Region.ready .any ops listed=[]->(π.filter λk=>!listed.getD k true)=[]:=by
  intro listed hsz hd hr;cases hR:π.filter λk=>!listed.getD k true with
  |nil=>rfl
  |cons k R =>
   exfalso
   obtain ⟨A,B,hπ,hA,_⟩:=qgV (A:=[]) hnd hR;have hk:=(List.mem_filter.1 (by rw [hR];simp:k∈π.filter λk=>!listed.getD k true)).2;have hun:listed.getD k true=false:=by simpa using hk
   have hlt:k<ops.size:=by
    false_or_by_contra
    simp [Array.getD,show ¬ k<listed.size by omega]at hun
   obtain ⟨o,ho⟩:∃o,ops[k]?=some o:=⟨ops[k],Array.getElem?_eq_getElem hlt⟩
   have:k∈Region.ready .any ops listed:=by
    rw [mem_ready];refine ⟨by simpa using hun,o,ho,λe he hbd=>?_⟩;have hek:e.on∈qaM o:=qee.2 ⟨e,he,hbd,rfl⟩;have hlt2:=hb k o ho e.on hek;have hinA:e.on∈A:=hext A k B hπ o ho e.on (qB0 hb k o ho e.on hek);have hnl:¬ (λk=>!listed.getD k true) e.on=true:=λhh=>by
     have:e.on∈A.filter λk=>!listed.getD k true:=List.mem_filter.2 ⟨hinA,hh⟩;rw [<- hA]at this;simp at this
    have hlist:listed.getD e.on true=true:=by simpa using hnl
    have:e.on<listed.size:=by omega
    simp [Array.getD,this]at hlist ⊢;exact hlist
   rw [hr]at this;simp at this
 intro fuel;induction fuel with
 |zero =>
  intro listed s hsz hd hlen hI hx;have hnil:(π.filter λk=>!listed.getD k true)=[]:=List.eq_nil_of_length_eq_zero (by omega);rw [hnil]at hx;simp only [cxs,qb]at hx;subst hx;refine ⟨?_,hQ⟩;cases hr:Region.ready .any ops listed with
  |nil=>rfl
  |cons i R =>
   have hi:i∈Region.ready .any ops listed:=by rw [hr];simp
   obtain ⟨h1,o,ho,_⟩:=mem_ready.1 hi;have:i∈π.filter λk=>!listed.getD k true:=List.mem_filter.2 ⟨hall i (Array.getElem?_eq_some_iff.1 ho).1,by simp [h1]⟩;rw [hnil]at this;simp at this
 |succ fuel ih =>
  intro listed s hsz hd hlen hI hx;refine ⟨λhr=>?_,λi hi=>?_⟩
  ·rw [hready listed hsz hd hr]at hx;simp only [cxs,qb]at hx;subst hx;exact hQ
  ·obtain ⟨hun,y,hy,hall2⟩:=mem_ready.1 hi;have hilt:i<ops.size:=(Array.getElem?_eq_some_iff.1 hy).1;have hiR:i∈π.filter λk=>!listed.getD k true:=List.mem_filter.2 ⟨hall i hilt,by simp [hun]⟩;obtain ⟨A,B,hAB⟩:=List.append_of_mem hiR;obtain ⟨A',B',hπ,hA,hB⟩:=qgV hnd hAB;have hlistedE:∀j∈qaM y,listed.getD j true=true:=λj hj=>by
    obtain ⟨e,he,hbd,rfl⟩:=qee.1 hj;have h1:=hall2 e he hbd;have hlt:=hb i y hy e.on hj;have:e.on<listed.size:=by omega
    simp [Array.getD,this]at h1 ⊢;exact h1
   have hanc:=qfn hsz hb hd i i y (Nat.le_refl _) hy hlistedE;rw [hAB]at hx;have hun2:∀k,k∈A\/k∈B->listed.getD k true=false:=λk hk=>by
    have:k∈π.filter λk=>!listed.getD k true:=by rw [hAB];rcases hk with hk|hk<;>simp [hk]
    simpa using (List.mem_filter.1 this).2
   have hnai:∀k,k∈A\/k∈B->k∉(qdQ ops.toList).getD i []:=λk hk h3=>by
    have:=hanc k h3;rw [hun2 k hk]at this;cases this
   have hlater:∀(X:List Nat) (j:Nat) (Y:List Nat),π=X++j::Y->listed.getD j true=false->∀k∈Y,k∉(qdQ ops.toList).getD j []:=λX j Y hπ2 hjun k hk h3=>by
    have hjlt:∃x,ops[j]?=some x:=by
     cases hx2:ops[j]? with
     |some x=>exact ⟨x,rfl⟩
     |none =>
      have:¬ j<listed.size:=by
       rw [hsz];intro hh;rw [Array.getElem?_eq_getElem hh]at hx2;cases hx2
      simp [Array.getD,this]at hjun
    obtain ⟨x,hx2⟩:=hjlt;have h4:=hext X j Y hπ2 x hx2 k h3;rw [hπ2]at hnd;exact (List.nodup_append.1 hnd).2.2 k h4 k (by simp [hk]) rfl
   have hsub:∀A1 j A2,A=A1++j::A2->∃A1' A2',π=A1'++j::(A2'++i::B')/\A2=A2'.filter (λk=>!listed.getD k true):=λA1 j A2 e=>by
    obtain ⟨A1',A2',hA',_,hA2⟩:=qgV (l:=A') (p:=λk=>!listed.getD k true) (A:=A1) (B:=A2) (i:=j) ((List.nodup_append.1 (hπ▸hnd)).1) (by rw [<- hA,e]);exact ⟨A1',A2',by rw [hπ,hA'];simp,hA2⟩
   have hfront:=qtH A s (λA1 j A2 e=>by
    obtain ⟨A1',A2',hπ2,hA2⟩:=hsub A1 j A2 e;refine hinv j _ λk hk=>hlater A1' j _ hπ2 (hun2 j (.inl (by rw [e];simp))) k ?_;rcases qj.1 hk with hk|hk
    ·rw [hA2]at hk;simp [(List.mem_filter.1 hk).1]
    ·rcases qk.1 hk with rfl|hk
     ·simp
     ·rw [hB]at hk;simp [(List.mem_filter.1 hk).1]) hI hx λA1 j A2 e=>by
    obtain ⟨A1',A2',hπ2,hA2⟩:=hsub A1 j A2 e;have hjA:j∈A:=by rw [e];simp
    have hjun:=hun2 j (.inl hjA);have hk2:∀k∈A2++B,k∈A2'\/k∈B':=λk hk=>by
     rcases qj.1 hk with hk|hk
     ·rw [hA2]at hk;exact .inl (List.mem_filter.1 hk).1
     ·rw [hB]at hk;exact .inr (List.mem_filter.1 hk).1
    refine hcomm A1' j A2' i B' (A2++B) hπ2 (hnai j (.inl hjA)) (hlater A1' j _ hπ2 hjun i (by simp)) (λk hk=>⟨hk2 k hk,hnai k ?_,hlater A1' j _ hπ2 hjun k ?_⟩)
    ·rcases qj.1 hk with hk|hk
     ·exact .inl (by rw [e];simp [hk])
     ·exact .inr hk
    ·rcases hk2 k hk with hk|hk<;>simp [hk]
   rw [qcB]at hfront;obtain ⟨y',s1,hy',h1,h2⟩:=hfront;rw [hy]at hy';cases hy';have hR':(π.filter λk=>!(listed.setIfInBounds i true).getD k true)=A++B:=by
    have e1:(π.filter λk=>!(listed.setIfInBounds i true).getD k true)=(π.filter λk=>!listed.getD k true).filter (λk=>decide (k≠i)):=by
     rw [List.filter_filter];refine List.filter_congr λk hk=>?_;by_cases hki:k=i
     ·subst hki;have:k<listed.size:=by omega
      simp [Array.getD,this]
     ·rw [getD_set_ne true (Ne.symm hki)];simp [hki]
    have hnd2:(A++i::B).Nodup:=hAB▸hnd.filter _;rw [e1,hAB,List.filter_append,List.filter_cons];simp only [ne_eq,not_true_eq_false,decide_false,qf,if_false];have eA:A.filter (λk=>decide (¬ k=i))=A:=List.filter_eq_self.2 λj hj=>by
     have:=(List.nodup_append.1 hnd2).2.2 j hj i (by simp);simpa using this
    have eB:B.filter (λk=>decide (¬ k=i))=B:=List.filter_eq_self.2 λj hj=>by
     have:=(List.nodup_cons.1 (List.nodup_append.1 hnd2).2.1).1;simp only [decide_not,Bool.not_eq_eq_eq_not,Bool.not_true,decide_eq_false_iff_not];rintro rfl;exact this hj
    rw [eA,eB]
   have hd':Down ops (listed.setIfInBounds i true):=by
    intro k o ho hk j hj;by_cases hji:j=i
    ·subst hji;have:j<listed.size:=by omega
     simp [Array.getD,this]
    ·rw [getD_set_ne true (Ne.symm hji)];by_cases hki:k=i
     ·subst hki;rw [hy]at ho;cases ho;exact hlistedE j hj
     ·rw [getD_set_ne true (Ne.symm hki)]at hk;exact hd k o ho hk j hj
   refine qCK (s':=s1) hy (hpl i y hy) h1 (ih (listed.setIfInBounds i true) s1 (by simp [hsz]) hd' ?_ (hinv i (A++B) (λk hk=>hnai k (qj.1 hk)) y s s1 hy hI h1 h2) (by rw [hR'];exact h2));rw [hR'];rw [hAB]at hlen;simp only [List.length_append,List.length_cons]at hlen ⊢;omega
def qv1(P:Program)(w0:World)(SB:Nat->Option Nat)(a:Act)(o:Oper):Prop :=
 ∀t ad,o.op=.load t ad->∃b k v d,a.eval ad=.pointer (some ⟨b,k,none⟩)/\SB b=none/\w0.cell? ⟨b,k,none⟩=some v/\P.underlying t=some d/\qK P t=false
def qv4(P:Program)(SB:Nat->Option Nat)(a:Act)(o:Oper):Prop :=
 ∀t ad xo,o.op=.store t ad xo->∃d b k n,ad=.tmp d/\P.cellsOf t≠0/\a.eval (.tmp d)=.pointer (some ⟨b,k,none⟩)/\SB b=some n/\(a.eval xo).cells.toList.length=P.cellsOf t/\k+(a.eval xo).cells.toList.length<=n/\∀c∈(a.eval xo).cells.toList,c.oneCell'=true
def qyG(w0:World)(SB:Nat->Option Nat)(w:World):Prop:=(∀b,SB b=none->w.heap[b]?=w0.heap[b]?)/\∀b n,SB b=some n->∃arr ty,w.heap[b]?=some (.cells arr ty (0,0))/\arr.size=n
theorem qwr{w w0:World}{b k:Nat}(h:w.heap[b]?=w0.heap[b]?):w.cell? ⟨b,k,none⟩=w0.cell? ⟨b,k,none⟩:=by
 simp only [World.cell?,h]
theorem qnm{w0 w:World}{SB:Nat->Option Nat}{a a':Act}{o:Oper}{t:TypeId}{ad:Operand}(hop:o.op=.load t ad)(hI:qyG w0 SB w)(hF:qv1 P w0 SB a' o)(he:∀x∈o.op.operands,a.eval x=a'.eval x):∃v,∀w,qyG w0 SB w->(execOp a.eval o).run P w=.ok (.value v) w:=by
 obtain ⟨b,k,v,d,h1,h2,h3,h4,h5⟩:=hF t ad hop;refine ⟨v,λw hI=>?_⟩;have e1:a.eval ad=.pointer (some ⟨b,k,none⟩):=by rw [he ad (by rw [hop];simp [Op.operands]),h1]
 have hc:w.cell? ⟨b,k,none⟩=some v:=by rw [qwr (hI.1 b h2),h3]
 have:=qjK (P:=P) h4 h5 hc;simp only [execOp,hop,e1,Sem.run_bind,this,Result.andThen_ok,Sem.run_pure]
theorem qs9{w0:World}{SB:Nat->Option Nat}{a a':Act}{o:Oper}{t:TypeId}{ad xo:Operand}(hop:o.op=.store t ad xo)(hF:qv4 P SB a' o)(he:∀x∈o.op.operands,a.eval x=a'.eval x) :
  ∀w,qyG w0 SB w->∃w',(execOp a.eval o).run P w=.ok .skip w'/\qyG w0 SB w':=by
 obtain ⟨d,b,k,n,rfl,h1,h2,h3,h4,h5,h6⟩:=hF t ad xo hop;intro w hI;have e1:a.eval (.tmp d)=.pointer (some ⟨b,k,none⟩):=by rw [he (.tmp d) (by rw [hop];simp [Op.operands]),h2]
 have e2:a.eval xo=a'.eval xo:=he xo (by rw [hop];simp [Op.operands]);obtain ⟨arr,ty,h7,h8⟩:=hI.2 b n h3;rw [<- e2]at h4 h5 h6;have hr:=run_store (P:=P) (a:=a) (d:=d) (xo:=xo) h1 e1 h7 h4 (by omega) h6;have hrun:(execOp a.eval o).run P w=.ok .skip (w.setRow b (rowAt arr k (a.eval xo).cells.toList)):=by
  simp only [execOp,hop,Sem.run_bind,hr,Result.andThen_ok,Sem.run_pure]
 refine ⟨_,hrun,λb' hb'=>?_,λb' n' hb'=>?_⟩
 ·rw [setRow_other w b b' _ (by rintro rfl;rw [h3]at hb';cases hb')];exact hI.1 b' hb'
 ·by_cases hbb:b'=b
  ·subst hbb;rw [h3]at hb';cases hb';refine ⟨_,ty,setRow_heap w b' arr _ ty (0,0) h7,?_⟩;have h9:k+(a.eval xo).cells.size<=arr.size:=by rw [h8];simpa using h5
   unfold rowAt;simp<;>omega
  ·rw [setRow_other w b b' _ hbb];exact hI.2 b' n' hb'
theorem qpf{ops:Array Oper}{t:Tmp}:∀{l:List Nat} {s fin:Act×World},cxs P ops l s=some fin->(∀k∈l,∀o,ops[k]?=some o->o.dst≠some t)->fin.1.eval (.tmp t)=s.1.eval (.tmp t)
 |[],s,fin,h,_=>by simp only [cxs,qb]at h;rw [h]
 |i::l,s,fin,h,hl=>by
  obtain ⟨o,s1,ho,h1,h2⟩:=qcB.1 h;obtain ⟨n,v,w',_,_,rfl⟩:=qet.1 h1;rw [qpf h2 λk hk=>hl k (by simp [hk])];exact Act.eval_put λd hd e=>by cases e;exact hl i (by simp) o ho hd
structure RegOk (P:Program) (ops:Array Oper):Prop where
 plain:∀(i:Nat) (o:Oper),ops[i]?=some o->qbX P o=true
 self:∀(i:Nat) (o:Oper),ops[i]?=some o->∀d,o.dst=some d->Operand.tmp d∉o.op.operands
 stable:∀(c k:Nat) (oc ok:Oper),ops[c]?=some oc->ops[k]?=some ok->∀t,ok.dst=some t->Operand.tmp t∈oc.op.operands->k∈(qdQ ops.toList).getD c []
def qDx(o:Oper):Prop:=∃t ad,o.op=.load t ad
def qCj(o:Oper):Prop:=∃t ad xo,o.op=.store t ad xo
structure FinOk (P:Program) (ops:Array Oper) (w0:World) (SB:Nat->Option Nat) (a:Act):Prop where
 ints:∀(c:Nat) (o:Oper),ops[c]?=some o->qia a.eval o
 ld:∀(c:Nat) (o:Oper),ops[c]?=some o->qv1 P w0 SB a o
 st:∀(c:Nat) (o:Oper),ops[c]?=some o->qv4 P SB a o
theorem qeE{o:Oper}(h:qbX P o=true):qhb P o=true\/qDx o\/qCj o:=by
 unfold qbX at h;simp only [qe,Bool.or_eq_true]at h;rcases h.2 with h|h
 ·exact .inl h
 ·split at h
  ·rename_i t ad hop;exact .inr (.inl ⟨t,ad,hop⟩)
  ·rename_i t ad xo hop;exact .inr (.inr ⟨t,ad,xo,hop⟩)
  ·cases h
theorem qhw{o:Oper}{a a':Act}(h:qia a'.eval o)(he:∀x∈o.op.operands,a.eval x=a'.eval x):qia a.eval o:=λop t x y t2 hop=>by
 obtain ⟨k,n,k',m,h1,h2⟩:=h op t x y t2 hop;exact ⟨k,n,k',m,by rw [he x (by rw [hop];simp [Op.operands]),h1],by rw [he y (by rw [hop];simp [Op.operands]),h2]⟩
theorem qni{ops:Array Oper}(hR:RegOk P ops){l:List Nat}{s fin:Act×World}(h:cxs P ops l s=some fin){c:Nat}{oc:Oper}(hc:ops[c]?=some oc)(hl:∀k∈l,k∉(qdQ ops.toList).getD c []):∀x∈oc.op.operands,s.1.eval x=fin.1.eval x:=λx hx=>by
 cases x with
 |tmp t=>exact (qpf h λk hk o ho e=>hl k hk (hR.stable c k oc o hc ho t e hx)).symm
 |_=>rfl
theorem qzc{ops:Array Oper}{w0:World}{SB:Nat->Option Nat}{fin:Act×World}(hR:RegOk P ops)(hF:FinOk P ops w0 SB fin.1)(i:Nat)(rest:List Nat)(hrest:∀k∈rest,k∉(qdQ ops.toList).getD i []):qAR P ops (λs=>qyG w0 SB s.2) fin i rest:=by
 intro o s s' ho hI h1 h2;have he':=qni hR h2 ho hrest;obtain ⟨n,v,w',hr,hv,rfl⟩:=qet.1 h1;have he:∀x∈o.op.operands,s.1.eval x=fin.1.eval x:=λx hx=>by
  rw [<- he' x hx];exact (Act.eval_put λd hd e=>hR.self i o ho d hd (e▸hx)).symm
 show qyG w0 SB w';rcases qeE (hR.plain i o ho)with hq|⟨t,ad,hop⟩|⟨t,ad,xo,hop⟩
 ·obtain ⟨rfl,_⟩:=qhI hq (qhw (hF.ints i o ho) he) s.2 n w' hr;exact hI
 ·obtain ⟨v',h3⟩:=qnm (P:=P) hop hI (hF.ld i o ho) he;rw [h3 _ hI]at hr;cases hr;exact hI
 ·obtain ⟨w2,h3,h4⟩:=qs9 (P:=P) (w0:=w0) hop (hF.st i o ho) he s.2 hI;rw [h3]at hr;cases hr;exact h4
theorem qA1{ops:Array Oper}{w0:World}{SB:Nat->Option Nat}{fin:Act×World}(hR:RegOk P ops)(hF:FinOk P ops w0 SB fin.1){j i:Nat}{D:List Nat}(hpair:∀x y,ops[j]?=some x->ops[i]?=some y->Apt x y/\¬ (qCj x/\qCj y))
  (hD:∀k∈D,k∉(qdQ ops.toList).getD i []/\k∉(qdQ ops.toList).getD j []):Comm P ops (λs=>qyG w0 SB s.2) fin j i D:=by
 intro x y s s1 s2 hx hy hI h1 h2 h3;obtain ⟨ha,hns⟩:=hpair x y hx hy;obtain ⟨n,v,w1,r1,e1,rfl⟩:=qet.1 h1;obtain ⟨m,u,w2,r2,e2,rfl⟩:=qet.1 h2;have hex:∀z∈x.op.operands,s.1.eval z=fin.1.eval z:=λz hz=>by
  rw [<- qni hR h3 hx (λk hk=>(hD k hk).2) z hz];simp only
  rw [Act.eval_put λd hd e=>ha.yx d hd (e▸hz),Act.eval_put λd hd e=>hR.self j x hx d hd (e▸hz)]
 have hey:∀z∈y.op.operands,s.1.eval z=fin.1.eval z:=λz hz=>by
  rw [<- qni hR h3 hy (λk hk=>(hD k hk).1) z hz];simp only
  rw [Act.eval_put λd hd e=>hR.self i y hy d hd (e▸hz),Act.eval_put λd hd e=>ha.xy d hd (e▸hz)]
 obtain ⟨a,w⟩:=s;simp only at hI hex hey;rcases qeE (hR.plain j x hx)with hq|hx2
 ·exact qBz ha hq (qhw (hF.ints j x hx) hex) h1 h2
 rcases qeE (hR.plain i y hy)with hq|hy2
 ·exact qBA ha hq (qhw (hF.ints i y hy) hey) h1 h2
 refine qnt ha h1 h2 λn w1 m w2 r1 r2=>?_;rcases hx2 with ⟨t,ad,hop⟩|⟨t,ad,xo,hop⟩<;>rcases hy2 with ⟨t',ad',hop'⟩|⟨t',ad',xo',hop'⟩
 ·obtain ⟨v1,g1⟩:=qnm (P:=P) hop hI (hF.ld j x hx) hex;obtain ⟨v2,g2⟩:=qnm (P:=P) hop' hI (hF.ld i y hy) hey;rw [g1 _ hI]at r1;cases r1;rw [g2 _ hI]at r2;cases r2;exact ⟨w,g2 _ hI,g1 _ hI⟩
 ·obtain ⟨v1,g1⟩:=qnm (P:=P) hop hI (hF.ld j x hx) hex;obtain ⟨w3,g2,g3⟩:=qs9 (P:=P) (w0:=w0) hop' (hF.st i y hy) hey w hI;rw [g1 _ hI]at r1;cases r1;rw [g2]at r2;cases r2;exact ⟨_,g2,g1 _ g3⟩
 ·obtain ⟨w3,g2,g3⟩:=qs9 (P:=P) (w0:=w0) hop (hF.st j x hx) hex w hI;obtain ⟨v1,g1⟩:=qnm (P:=P) hop' hI (hF.ld i y hy) hey;rw [g2]at r1;cases r1;rw [g1 _ g3]at r2;cases r2;exact ⟨w,g1 _ hI,g2⟩
 ·exact absurd ⟨⟨t,ad,xo,hop⟩,⟨t',ad',xo',hop'⟩⟩ hns
theorem qhH{s:Sem Value}{w w':World}{n:Next}(h:(do pure (Next.value (<- s)):Sem Next).run P w=.ok n w'):∃v,n=.value v:=by
 rw [Sem.run_bind]at h;cases hr:s.run P w with
 |halt x w2=>rw [hr]at h;cases h
 |ok v w2 =>
  rw [hr,Result.andThen_ok]at h;have h:Result.ok (Next.value v) w2=.ok n w':=h;cases h;exact ⟨v,rfl⟩
theorem qxJ{s:Sem Unit}{w w':World}{n:Next}(h:(do s;pure Next.skip:Sem Next).run P w=.ok n w'):n=.skip:=by
 rw [Sem.run_bind]at h;cases hr:s.run P w with
 |halt x w2=>rw [hr]at h;cases h
 |ok v w2 =>
  rw [hr,Result.andThen_ok]at h;have h:Result.ok Next.skip w2=.ok n w':=h;cases h;rfl
theorem qvp{o:Oper}{ρ:Operand->Value}{w w':World}{n:Next}(hp:qbX P o=true)(h:(execOp ρ o).run P w=.ok n w'):∃v,qCA n=some v:=by
 rcases qeE hp with hq|⟨t,ad,hop⟩|⟨t,ad,xo,hop⟩
 ·unfold qhb at hq;simp only [qe]at hq;have hq:=hq.2;split at hq
  ·rename_i x hop;simp only [execOp,hop]at h;have h:Result.ok (Next.value (ρ x)) w=.ok n w':=h;cases h;exact ⟨_,rfl⟩
  ·rename_i t x ix hop;simp only [execOp,hop]at h;obtain ⟨v,rfl⟩:=qhH h;exact ⟨v,rfl⟩
  ·rename_i op t x y t2 hop;simp only [execOp,hop]at h;obtain ⟨v,rfl⟩:=qhH h;exact ⟨v,rfl⟩
  ·rename_i s x f hop;simp only [execOp,hop]at h;obtain ⟨v,rfl⟩:=qhH h;exact ⟨v,rfl⟩
  ·cases hq
 ·simp only [execOp,hop]at h;obtain ⟨v,rfl⟩:=qhH h;exact ⟨v,rfl⟩
 ·simp only [execOp,hop]at h;obtain rfl:=qxJ h;exact ⟨_,rfl⟩
theorem qww{F:Fence}{ops:Array Oper}{Q:Exit->Act->World->Prop}{i:Nat}{o:Oper}{s:Act×World}{K:Act->World->Prop}(ho:ops[i]?=some o)(hp:qbX P o=true)(hQ:∀c a w,¬ Q (.panic c) a w)(h:wpOpIn F 0 P ops Q i K s.1 s.2):∃s',cx1 P o s=some s'/\K s'.1 s'.2:=by
 obtain ⟨hg,hc,hd,_⟩:=qfC hp;unfold wpOpIn at h;rw [ho]at h;have hwant:Region.wanted o (yielded ops s.1.tmps)=true:=by unfold Region.wanted;rw [hg]
 simp only [hwant,if_true]at h;have h:=h.2;rw [Oper.semAt_eq _ _ _ hd]at h;cases hr:(execOp s.1.eval o).run P s.2 with
 |halt x w' =>
  rw [hr]at h;cases x<;>simp only [Oper.uponIn]at h
  exact absurd h (hQ _ _ _)
 |ok n w' =>
  rw [hr]at h;obtain ⟨v,hv⟩:=qvp hp hr;refine ⟨(s.1.put o.dst v,w'),qet.2 ⟨n,v,w',hr,hv,rfl⟩,?_⟩;cases n<;>simp only [qCA,qb,reduceCtorEq]at hv
  ·subst hv;rw [Oper.uponIn_value]at h;exact h
  ·subst hv;rw [Oper.uponIn_skip]at h;exact h
theorem qwx{ops ops':Array Oper}{g:Nat->Nat}:∀(l:List Nat) (s:Act×World),(∀k∈l,ops'[k]?=ops[g k]?)->cxs P ops (l.map g) s=cxs P ops' l s
 |[],s,_=>rfl
 |i::l,s,h=>by
  simp only [qh,cxs];rw [h i (by simp)];cases ops[g i]? with
  |none=>rfl
  |some o =>
   simp only
   cases cx1 P o s with
   |none=>rfl
   |some s1=>exact qwx l s1 λk hk=>h k (by simp [hk])
theorem qlx{o y:Oper}(h:qnJ o y=false):∀d,o.dst=some d->Operand.tmp d∉y.op.operands:=λd hd hm=>by
 unfold qnJ at h;rw [hd]at h;have:d∈tmpsOf y:=qa8 (by simpa using hm) rfl;simp [this]at h
theorem qqQ{asz:List (List Nat)}:∀{l done:List Nat},qCP asz done l=true->∀A i B,l=A++i::B->∀j∈asz.getD i [],j∈done++A
 |[],done,_,A,i,B,e,j,_=>by simp at e
 |x::l,done,h,A,i,B,e,j,hj=>by
  simp only [qCP,qe]at h;cases A with
  |nil =>
   simp only [List.nil_append,List.cons.injEq]at e;obtain ⟨rfl,rfl⟩:=e;have:=List.all_eq_true.1 h.1 j hj;simpa using this
  |cons a A =>
   simp only [List.cons_append,List.cons.injEq]at e;obtain ⟨rfl,e⟩:=e;have:=qqQ h.2 A i B e j hj;simpa using this
theorem qmT{ops:Array Oper}{π:List Nat}(h:qt8 P ops π=true) :
  (∀i,i<ops.size->i∈π)/\(π.Nodup/\π.length<=ops.size)/\(∀(k:Nat) (o:Oper),ops[k]?=some o->∀j∈qaM o,j<k)/\(∀A i B,π=A++i::B->∀y:Oper,ops[i]?=some y->∀j∈(qdQ ops.toList).getD i [],j∈A)/\RegOk P ops /\
   ∀(j i:Nat) (x y:Oper),ops[j]?=some x->ops[i]?=some y->j≠i->j∉(qdQ ops.toList).getD i []->i∉(qdQ ops.toList).getD j []->Apt x y/\¬ (qCj x/\qCj y):=by
 unfold qt8 at h;simp only [qe,decide_eq_true_eq]at h;obtain ⟨⟨⟨h1,h2⟩,h3⟩,h4⟩:=h;have hlt:∀{k:Nat} {o:Oper},ops[k]?=some o->k<ops.size:=λho=>(Array.getElem?_eq_some_iff.1 ho).1;have row:∀(k:Nat) (o:Oper),ops[k]?=some o->(qbX P o=true/\(∀j∈qaM o,j<k)/\qnJ o o=false)/\∀(j:Nat) (x:Oper),ops[j]?=some x->(qnJ x o=true->j∈(qdQ ops.toList).getD k [])/\(j=k\/j∈(qdQ ops.toList).getD k []\/k∈(qdQ ops.toList).getD j []\/qC0 x o=true):=λk o ho=>by
  have:=List.all_eq_true.1 h4 k (List.mem_range.2 (hlt ho));rw [ho]at this;simp only [qe,Bool.not_eq_true']at this;obtain ⟨⟨⟨g1,g2⟩,g3⟩,g4⟩:=this;refine ⟨⟨g1,λj hj=>by simpa using List.all_eq_true.1 g2 j hj,g3⟩,λj x hx=>?_⟩;have:=List.all_eq_true.1 g4 j (List.mem_range.2 (hlt hx));rw [hx]at this;simp only [qe,Bool.or_eq_true,Bool.not_eq_true',beq_iff_eq]at this;refine ⟨λhd=>?_,?_⟩
  ·rcases this.1 with g|g
   ·rw [hd]at g;cases g
   ·simpa using g
  ·rcases this.2 with ((g|g)|g)|g
   ·exact .inl g
   ·exact .inr (.inl (by simpa using g))
   ·exact .inr (.inr (.inl (by simpa using g)))
   ·exact .inr (.inr (.inr g))
 refine ⟨λi hi=>by simpa using List.all_eq_true.1 h2 i (List.mem_range.2 hi),h1,λk o ho=>(row k o ho).1.2.1,λA i B e y hy j hj=>by simpa using qqQ h3 A i B e j hj,
  {
   plain:=λi o ho=>(row i o ho).1.1
   self:=λi o ho=>qlx (row i o ho).1.2.2
   stable:=λc k oc ok hc hk t ht hm=>((row c oc hc).2 k ok hk).1 (by
    unfold qnJ;rw [ht];simpa using qa8 (o:=oc) (by simpa using hm) rfl)},λj i x y hx hy hne hj hi=>?_⟩
 rcases ((row i y hy).2 j x hx).2 with g|g|g|g
 ·exact absurd g hne
 ·exact absurd g hj
 ·exact absurd g hi
 ·unfold qC0 at g;simp only [qe,Bool.not_eq_true',Bool.or_eq_true,Option.isNone_iff_eq_none,bne_iff_ne,ne_eq]at g;obtain ⟨⟨⟨g1,g2⟩,g3⟩,g4⟩:=g;refine ⟨⟨qlx g1,qlx g2,λd hd e=>?_,(qfC (row j x hx).1.1).2.2.2,(qfC (row i y hy).1.1).2.2.2⟩,λ⟨⟨_,_,_,e1⟩,⟨_,_,_,e2⟩⟩=>?_⟩
  ·rcases g3 with g3|g3
   ·rw [hd]at g3;cases g3
   ·exact g3 (hd.trans e.symm)
  ·simp [qBh,e1,e2]at g4
theorem qzD{F:Fence}{ops:Array Oper}{π:List Nat}(h:qt8 P ops π=true){Q:Exit->Act->World->Prop}{s fin:Act×World}{SB:Nat->Option Nat}(hx:cxs P ops π s=some fin)(hF:FinOk P ops s.2 SB fin.1)(hI:qyG s.2 SB s.2)(hQ:Q .normal fin.1 fin.2) :
  wpAnyIn F 0 P .any ops Q ops.size (Array.replicate ops.size false) s.1 s.2:=by
 obtain ⟨h1,⟨h2,hlen⟩,h3,h4,hR,hP⟩:=qmT h;have hin:∀k∈π,∃o,ops[k]?=some o:=by
  have:∀(l:List Nat) (s:Act×World),cxs P ops l s=some fin->∀k∈l,∃o,ops[k]?=some o:=by
   intro l;induction l with
   |nil=>intro s _ k hk;simp at hk
   |cons i l ih =>
    intro s hs k hk;obtain ⟨o,s1,ho,_,hs1⟩:=qcB.1 hs;rcases qk.1 hk with rfl|hk
    ·exact ⟨o,ho⟩
    ·exact ih s1 hs1 k hk
  exact this π s hx
 have hfil:(π.filter λk=>!(Array.replicate ops.size false).getD k true)=π:=List.filter_eq_self.2 λk hk=>by
  obtain ⟨o,ho⟩:=hin k hk;have:=(Array.getElem?_eq_some_iff.1 ho).1;simp [Array.getD,this]
 refine qB3 h1 h2 h3 h4 hR.plain (Inv:=λt=>qyG s.2 SB t.2) (λi rest hr=>qzc hR hF i rest hr) (λA j B i C D e hj hi hD=>?_) hQ ops.size _ s (by simp) (λk o ho hk=>?_) (by rw [hfil];exact hlen) hI (by rw [hfil];exact hx)
 ·refine qA1 hR hF (λx y hx hy=>hP j i x y hx hy ?_ hj hi) λk hk=>(hD k hk).2;rintro rfl;rw [e]at h2;have:=(List.nodup_cons.1 (List.nodup_append.1 h2).2.1).1;exact this (by simp)
 ·have:=(Array.getElem?_eq_some_iff.1 ho).1;simp [Array.getD,this]at hk
end
section
variable {P:Program} {H:Hints} {f:FuncId} {C:Orc} {w:World} {X:Cx}
def qv2(P:Program)(w:World)(X:Cx)(a:Act)(t:TypeId)(d:Tmp)(xo:Operand):Prop :=
 ∃b k arr ty,a.tmps.getD d undef=.pointer (some ⟨b,k,none⟩)/\w.heap[b]?=some (.cells arr ty (0,0))/\P.cellsOf t≠0/\(a.eval xo).cells.toList.length=P.cellsOf t/\k+(a.eval xo).cells.toList.length<=arr.size/\(∀c∈(a.eval xo).cells.toList,c.oneCell'=true)/\∃e,X.ω b=some (e,false)
theorem qzj{ops:Array Oper}{s:Nat}{o:Oper}{st st':St}{a:Act}{O:Pl->List Nat}(h:Rel st a.tmps w X O)
  {t:TypeId} {d:Tmp} {xo:Operand} (hop:o.op=.store t (.tmp d) xo)
  (hpath:∀rt p,qbp P H f ops st.E ops.size s d=some (rt,p,true)->∃v0 b k,qfM w X a.tmps rt v0/\a.tmps.getD d undef=.pointer (some ⟨b,k,none⟩)/\qBV w v0 p b k)
  (hx:qgz P H f ops s o st=some st'):qv2 P w X a t d xo:=by
 unfold qgz at hx;rw [hop]at hx;simp only at hx;split at hx
 ·rename_i hcond;simp only [qe,decide_eq_true_eq,List.isEmpty_iff,Option.isNone_iff_eq_none]at hcond;obtain ⟨⟨⟨⟨⟨⟨⟨⟨hL,hnl⟩,hdst⟩,hgd⟩,hnd⟩,hs0⟩,hxl⟩,hxo⟩,hxp⟩:=hcond;have htk:qah H f o=true:=by simp [qah,hop,qp7]
  have hops:o.op.operands.toList=[.tmp d,xo]:=by rw [hop];rfl
  obtain ⟨Oin,hrep,hs,hlin⟩:=qbz (H:=H) (f:=f) h o o.op.operands.toList (λ_=>hnd);rw [hops]at hrep;simp only [qh,List.map_nil,RepL]at hrep;obtain ⟨u1,vs1,O1,O2,hu1,rfl,hr1,u,vs2,Ox,O4,hu2,rfl,hrx,rfl,rfl⟩:=hrep;simp only [List.cons.injEq]at hu1;obtain ⟨rfl,rfl⟩:=hu1;simp only [List.cons.injEq,and_true]at hu2;subst hu2;simp only [List.append_nil]at hs hlin;have hin:∀k∈Ox,∃t∈tmpsOf o,k∈O (.tmp t):=λk hk=>(hs k (by simp [hk])).2;have hlx:Lin Ox:=hlin.right;obtain ⟨hcells,hones⟩:=qcw hxo hrx;have hul:(a.eval xo).cells.toList.length=(rd H f o st.E xo).cells.length:=(qE _ _ _ hcells).symm;have hyp:ptrsL (rd H f o st.E xo).cells=[]:=qef hxp;have hplx:∀pl:Pl,(∀t∈tmpsOf o,pl≠.tmp t)->Lin (O pl++Ox):=λpl hpl k=>by
   rw [List.count_append];have h2:=h.lin pl k;have h3:=hlx k;by_cases hk:k∈Ox
   ·have:(O pl).count k=0:=List.count_eq_zero.2 λhkp=>by
     obtain ⟨t',ht',hkt⟩:=hin k hk;exact h.dis pl (.tmp t') (hpl t' ht') k hkp hkt
    omega
   ·have:=List.count_eq_zero.2 hk;omega
  split at hx
  ·rename_i r p hlk;obtain ⟨v0,b,k,hroot,hptr,hpr⟩:=hpath _ _ hlk;split at hx
   ·cases hx
   ·rename_i hrT;have hrT':r∉tmpsOf o:=by simpa using hrT
    split at hx
    ·rename_i y hy;split at hx
     ·cases hx
     ·rename_i hsoft;have hsoft:y.soft=false:=by simpa using hsoft
      have hE:=qAP hy;obtain ⟨v1,hv1,hr0⟩:=h.env r _ hE;have:v1=v0:=by
       simp only [qfM]at hroot;rw [<- hroot,Array.getD_eq_getD_getElem?,hv1];rfl
      subst this;cases p with
      |nil=>exact hpr.elim
      |cons q p =>
       obtain ⟨j,o',s'⟩:=q;obtain ⟨off,len,cap,hsl,hj,rfl⟩:=hpr;rw [qdL]at hy;have hpl:∀t∈tmpsOf o,Pl.tmp r≠.tmp t:=λt' ht' e=>hrT' (by cases e;exact ht');obtain ⟨hbO,_,hω,⟨arr,ty,harr,hsize⟩,_⟩:=qr3 hcells hxo hyp _ _ _ _ _ hy hsoft hr0 (hplx _ hpl) hsl;exact ⟨b,_,arr,ty,hptr,harr,hs0,by rw [hul];exact hxl,by rw [hul];exact hsize,hones,hω⟩
    ·cases hx
  ·rename_i q off0 p hlk;obtain ⟨v0,b,k,⟨bq,hβ,hroot⟩,hptr,hpr⟩:=hpath _ _ hlk;split at hx
   ·rename_i cs hcs;split at hx
    ·rename_i z hz0;split at hx
     ·rename_i y hy;split at hx
      ·cases hx
      ·rename_i hsoft;have hsoft:y.soft=false:=by simpa using hsoft
       obtain ⟨bq',hβ',hlt,hωq,hbx⟩:=h.box q cs hcs;rw [hβ]at hβ';cases hβ';have hq0:q.lvl=0/\qu st.B q.slot=some cs:=by
        have:=hcs;rw [qdC hL]at this;split at this
        ·rename_i h0;exact ⟨h0,this⟩
        ·cases this
       have hlp:qc7 cs=false:=qkn hnl hq0.2;obtain ⟨arrq,tyq,harrq,hlq⟩:=hbx.cells hlp;obtain ⟨uz,A1,Oz,A2,hOq,hrz,huz,hclose⟩:=qgl off0 hlq hz0;have hv0:uz=v0:=by
        simp only [World.cell?,harrq]at hroot;have h2:arrq[off0]?=some uz:=by simpa using huz
        rw [h2]at hroot;exact Option.some.inj hroot
       subst hv0;cases p with
       |nil=>exact hpr.elim
       |cons e p =>
        obtain ⟨j,o',s'⟩:=e;obtain ⟨off,len,cap,hsl,hj,rfl⟩:=hpr;rw [qdL]at hy;have hpl:∀t∈tmpsOf o,Pl.box q≠.tmp t:=λt' ht' e=>by cases e
        have hlinz:Lin (Oz++Ox):=λk=>by
         have:=hplx (.box q) hpl k;rw [hOq]at this;simp only [List.count_append]at this ⊢;omega
        obtain ⟨hbO,_,hω,⟨arr,ty,harr,hsize⟩,_⟩:=qr3 hcells hxo hyp _ _ _ _ _ hy hsoft hrz hlinz hsl;exact ⟨b,_,arr,ty,hptr,harr,hs0,by rw [hul];exact hxl,by rw [hul];exact hsize,hones,hω⟩
     ·cases hx
    ·cases hx
   ·cases hx
  ·cases hx
 ·cases hx
theorem qpg{ops:Array Oper}{i:Nat}{o:Oper}{t:Act×World}(ho:ops[i]?=some o):∀{l:List Nat} {s s1:Act×World},cxs P ops l s=some s1->cx1 P o s1=some t->cxs P ops (l++[i]) s=some t
 |[],s,s1,h,h1=>by
  simp only [cxs,qb]at h;subst h;exact qcB.2 ⟨o,t,ho,h1,rfl⟩
 |j::l,s,s1,h,h1=>by
  obtain ⟨x,s2,hx,h2,h3⟩:=qcB.1 h;rw [List.cons_append];exact qcB.2 ⟨x,s2,hx,h2,qpg ho h3 h1⟩
def qCZ(P:Program)(H:Hints)(C:Orc)(f:FuncId)(ops:Array Oper)(s0:Act×World)(st':St)(fin:Act×World)(c:Nat):Prop :=
 ∀(o:Oper) t d xo,ops[c]?=some o->qfr H f o=true->o.op=.store t (.tmp d) xo->∃(m:Nat) (st:St) (fps:List (Nat×Foot)) (s:Act×World) (X:Cx) (O:Pl->List Nat),c+m=ops.size/\cxs P ops (List.range' 0 c) s0=some s/\Rel st s.1.tmps s.2 X O/\qv2 P s.2 X s.1 t d xo /\
  cxs P ops (List.range' c m) s=some fin/\qdS P H C f ops (List.range' c m) st=some (st',fps)
theorem walk(hC:OrcOk P C){FF:Fence}{w0:World}{X0:Cx}{Md:Md}{n:Nat}(hFO:FOk FF X0 Md n){ops:Array Oper}(hlk:qjy H f false ops=true)(hp:∀(i:Nat) (o:Oper),ops[i]?=some o->qbX P o=true){s0:Act×World}:∀(m i:Nat) (st st':St) (fps:List (Nat×Foot)) (s:Act×World),i+m=ops.size->cxs P ops (List.range' 0 i) s0=some s ->
  qsd P H f ops (λk=>k<i) w0 X0 Md n st s.1 s.2->qdS P H C f ops (List.range' i m) st=some (st',fps)->∃fin,cxs P ops (List.range' i m) s=some fin/\qio w0 X0 Md n st' fin.1 fin.2/\∀c,i<=c->qCZ P H C f ops s0 st' fin c
 |0,i,st,st',fps,s,him,h0,hS,hx=>by
  simp only [List.range'_zero,qdS,qb,Prod.mk.injEq]at hx;obtain ⟨rfl,_⟩:=hx;refine ⟨s,rfl,hS.qCU,λc hc o t d xo ho=>?_⟩;have:=(Array.getElem?_eq_some_iff.1 ho).1;omega
 |m+1,i,st,st',fps,s,him,h0,hS,hx=>by
  have hx0:=hx;rw [List.range'_succ]at hx;obtain ⟨s1,ft,fps',h1,h2,_⟩:=qcc.1 hx;have L:=qiB hlk;have hi:i<ops.size:=by omega
  have ho:ops[i]?=some ops[i]:=Array.getElem?_eq_getElem hi;have hfit:Fits H f ops (λk=>k<i) i:={
   new:=by omega
   after:=λc oc o hoc ho hl hc=>by
    rcases L.after c i oc o hoc ho hl with h3|h3|h3
    ·omega
    ·simp [qip]at h3;omega
    ·exact h3
   self:=λo ho hl=>L.self i o ho hl
   ls:=λo ho hl c oc hoc hlc hci=>hci
   apl:=λo d ho hap hd c oc hoc hlc hci hx=>hci
   ap:=λo ho hap=>by
    obtain ⟨s,os,h3,h4,h5⟩:=L.ap i o ho hap;refine ⟨s,os,h3,h4,?_⟩;simp [qip]at h5;omega
   lone:=L.lone}
  have hwp:wpOpIn FF 0 P ops (λe _ _=>e=.normal) i (λa' w'=>qsd P H f ops (λk=>k<i\/k=i) w0 X0 Md n s1 a' w') s.1 s.2:=qsS hC hFO hS h1 hfit λ_ _ h=>h;obtain ⟨s2,g1,g2⟩:=qww ho (hp i _ ho) (λc a w h=>by cases h) hwp;obtain ⟨fin,g3,g4,g5⟩:=walk hC hFO hlk hp m (i+1) s1 st' fps' s2 (by omega) (by rw [List.range'_1_concat,Nat.zero_add];exact qpg ho h0 g1) (g2.mono λk _=>by omega) h2;have hcx:cxs P ops (List.range' i (m+1)) s=some fin:=by
   rw [List.range'_succ];exact qcB.2 ⟨_,s2,ho,g1,g3⟩
  refine ⟨fin,hcx,g4,λc hc=>?_⟩;by_cases hci:c=i
  ·subst hci;intro o t d xo ho' hls hop;rw [ho]at ho';cases ho';obtain ⟨X,O,hR,hF,hM,hI⟩:=hS;refine ⟨m+1,st,fps,s,X,O,him,h0,hR,?_,hcx,hx0⟩;obtain ⟨o2,ho2,⟨_,hx1⟩|⟨hn,_⟩|⟨hn,_⟩⟩:=qek h1
   ·rw [ho]at ho2;cases ho2;have hfacts:=hI ⟨c,_,ho,hls,by omega⟩;refine qzj (o:=ops[c]) hR hop (λrt p hlk=>?_) hx1;obtain ⟨v0,h3,h4⟩:=qCk hR (s:=c) (λc' oc hoc hl hci=>hfacts c' oc hoc hl hci) ops.size c d rt p true (Nat.le_refl _) hlk;simp only [if_true]at h4;obtain ⟨b,k,h5,h6⟩:=h4;exact ⟨v0,b,k,h3,h5,h6⟩
   ·rw [ho]at ho2;cases ho2;rw [hls]at hn;cases hn
   ·rw [ho]at ho2;cases ho2;rw [hls]at hn;cases hn
  ·exact g5 c (by omega)
theorem qCs{ops:Array Oper}{i:Nat}{st st':St}{ft:Foot}(hp:∀(i:Nat) (o:Oper),ops[i]?=some o->qbX P o=true)(hx:qh6 P H C f ops i st=some (st',ft)){t:Nat}{r:Root}{off:Nat}(hd:∀o,ops[i]?=some o->o.dst≠some t)(hE:st'.E[t]?=some (.ptr r off)):st.E[t]?=some (.ptr r off):=by
 obtain ⟨o,ho,⟨_,hx⟩|⟨_,hap,_⟩|⟨_,_,_,hx⟩⟩:=qek hx
 ·exact qDu hx hE
 ·obtain ⟨cl,hop⟩:=qjj hap;exact absurd hop ((qfC (hp i o ho)).2.1 cl)
 ·obtain ⟨o',ho',b,z,m,A⟩:=qcE.1 hx;rw [ho]at ho';cases ho';rw [A.res]at hE;simp only [qm5]at hE;rw [if_neg (λhh=>hd o ho hh.1)]at hE;exact qhG hE
theorem qwG{ops:Array Oper}(hp:∀(i:Nat) (o:Oper),ops[i]?=some o->qbX P o=true){t:Nat}{r:Root}{off:Nat}:∀(l:List Nat) (st st':St) (fps:List (Nat×Foot)),qdS P H C f ops l st=some (st',fps)->(∀k∈l,∀o,ops[k]?=some o->o.dst≠some t)->st'.E[t]?=some (.ptr r off)->st.E[t]?=some (.ptr r off)
 |[],st,st',fps,hx,_,hE=>by simp only [qdS,qb,Prod.mk.injEq]at hx;rw [hx.1];exact hE
 |i::l,st,st',fps,hx,hd,hE=>by
  obtain ⟨s1,ft,fps',h1,h2,_⟩:=qcc.1 hx;exact qCs hp h1 (hd i (by simp)) (qwG hp l s1 st' fps' h2 (λk hk=>hd k (by simp [hk])) hE)
theorem qw2{st:St}{a:Act}{O:Pl->List Nat}(h:Rel st a.tmps w X O){x:Operand}(hx:qBR st.E x=true):∃k n,a.eval x=.int k n:=by
 unfold qBR at hx;split at hx
 ·rename_i t;split at hx
  ·rename_i k n hE;obtain ⟨u,hu,hr⟩:=h.env t _ hE;simp only [Rep]at hr;refine ⟨k,n,?_⟩;show tv a.tmps t=_;rw [qcI hu];exact hr.1
  ·cases hx
 ·exact ⟨_,_,rfl⟩
 ·cases hx
theorem qmX{st:St}{a:Act}{O:Pl->List Nat}(h:Rel st a.tmps w X O){t:Nat}{r:Root}{off:Nat}(hE:st.E[t]?=some (.ptr r off)):∃b cs,a.eval (.tmp t)=.pointer (some ⟨b,off,none⟩)/\X.β r=some b/\X.ω b=none/\st.box r=some cs:=by
 obtain ⟨u,hu,hr⟩:=h.env t _ hE;simp only [Rep]at hr;obtain ⟨_,b,hb,rfl⟩:=hr;have hlive:=h.ptrE r (qA.2 ⟨_,List.mem_of_getElem? hE,by simp [V.qp]⟩);obtain ⟨cs,hcs⟩:=Option.isSome_iff_exists.1 hlive;obtain ⟨b2,hb2,_,hω,_⟩:=h.box r cs hcs;rw [hb]at hb2;cases hb2;exact ⟨b,cs,qcI hu,hb,hω,hcs⟩
theorem qva{t:TypeId}{d:TypeDesc}(hu:P.underlying t=some d)(hag:qK P t=false){v u:Value}{w1:World}(h:(Instr.loadAt t v).run P w=.ok u w1):w1=w:=by
 unfold Instr.loadAt at h;rw [Sem.run_bind]at h;cases hs:(Instr.sureAddr v).run P w with
 |halt x w'=>rw [hs]at h;cases h
 |ok a w' =>
  obtain ⟨rfl,_⟩:=qfS v w a w' hs;rw [hs,Result.andThen_ok]at h;have hi:(isAgg t).run P w'=.ok false w':=by rw [qhP hu,hag]
  unfold loadVar at h;rw [Sem.run_bind,hi,Result.andThen_ok]at h;simp only [qf,if_false,load,Sem.run]at h;split at h
  ·cases h;rfl
  ·split at h
   ·cases h;rfl
   ·cases h
def shp(w:World)(b:Nat):Option (Nat×(Nat×Nat)):=match w.heap[b]? with
 |some (.cells arr _ z)=>some (arr.size,z)
 |_=>none
theorem qyW{o:Oper}{a:Act}{s':Act×World}(hp:qbX P o=true)(hi:qia a.eval o)(hl:∀t ad,o.op=.load t ad->∃d,P.underlying t=some d/\qK P t=false)
  (hs:∀t ad xo,o.op=.store t ad xo->∃d X,ad=.tmp d/\qv2 P w X a t d xo) (h:cx1 P o (a,w)=some s') (b:Nat):shp s'.2 b=shp w b:=by
 obtain ⟨n,v,w',hr,hv,rfl⟩:=qet.1 h;simp only at hr;show shp w' b=shp w b;rcases qeE hp with hq|⟨t,ad,hop⟩|⟨t,ad,xo,hop⟩
 ·obtain ⟨rfl,_⟩:=qhI hq hi w n w' hr;rfl
 ·obtain ⟨d,hu,hag⟩:=hl t ad hop;simp only [execOp,hop]at hr;rw [Sem.run_bind]at hr;cases hlr:(Instr.loadAt t (a.eval ad)).run P w with
  |halt x w2=>rw [hlr]at hr;cases hr
  |ok u w2 =>
   obtain rfl:=qva hu hag hlr;rw [hlr,Result.andThen_ok]at hr;have hr:Result.ok (Next.value u) w2=.ok n w':=hr;cases hr;rfl
 ·obtain ⟨d,X,rfl,bs,k,arr,ty,h1,h2,h3,h4,h5,h6,_⟩:=hs t ad xo hop;have hrun:=run_store (P:=P) (a:=a) (d:=d) (xo:=xo) h3 h1 h2 h4 h5 h6;have hrun2:(execOp a.eval o).run P w=.ok .skip (w.setRow bs (rowAt arr k (a.eval xo).cells.toList)):=by
   simp only [execOp,hop,Sem.run_bind,hrun,Result.andThen_ok,Sem.run_pure]
  rw [hrun2]at hr;cases hr;unfold shp;by_cases hb:b=bs
  ·subst hb;rw [setRow_heap w b arr _ ty (0,0) h2,h2];have h9:k+(a.eval xo).cells.size<=arr.size:=by simpa using h5
   simp only [qb,Prod.mk.injEq,and_true];unfold rowAt;simp<;>omega
  ·rw [setRow_other w bs b _ hb]
end
section
variable {P:Program} {H:Hints} {f:FuncId} {C:Orc} {w:World} {X:Cx}
theorem qth{ops:Array Oper}(h:qrX ops=true){i k:Nat}{o x:Oper}(ho:ops[i]?=some o)(hx:ops[k]?=some x)(hk:i<=k):∀d,x.dst=some d->Operand.tmp d∉o.op.operands:=by
 have hi:=(Array.getElem?_eq_some_iff.1 ho).1;have hk':=(Array.getElem?_eq_some_iff.1 hx).1;have h1:=List.all_eq_true.1 h i (List.mem_range.2 hi);rw [ho]at h1;have h2:=List.all_eq_true.1 h1 k (List.mem_range.2 hk');rw [hx]at h2;simp only [Bool.or_eq_true,decide_eq_true_eq,Bool.not_eq_true']at h2;rcases h2 with h2|h2
 ·omega
 ·exact qlx h2
theorem qpj{ops:Array Oper}(hst:qrX ops=true){i m:Nat}{s fin:Act×World}(h:cxs P ops (List.range' i m) s=some fin){o:Oper}(ho:ops[i]?=some o):∀x∈o.op.operands,s.1.eval x=fin.1.eval x:=λx hx=>by
 cases x with
 |tmp t=>exact (qpf h λk hk ok hok e=>by
   have:i<=k:=(List.mem_range'_1.1 hk).1;exact qth hst ho hok this t e hx).symm
 |_=>rfl
theorem qxb{o:Oper}(h:qea P H f o=true){t:TypeId}{ad:Operand}(hop:o.op=.load t ad):∃a d,ad=.tmp a/\P.underlying t=some d/\qK P t=false:=by
 unfold qea at h;rw [hop]at h;cases ad with
 |tmp a =>
  simp only [qe,Bool.not_eq_true']at h;obtain ⟨d,hd⟩:=Option.isSome_iff_exists.1 h.1;exact ⟨a,d,rfl,hd,h.2⟩
 |_=>cases h
theorem qpB{o:Oper}(h:qea P H f o=true){t:TypeId}{ad xo:Operand}(hop:o.op=.store t ad xo):∃d,ad=.tmp d/\qfr H f o=true:=by
 unfold qea at h;rw [hop]at h;cases ad with
 |tmp a=>exact ⟨a,rfl,h⟩
 |_=>cases h
theorem qmC{ops:Array Oper}(h:ops.toList.all (qea P H f)=true){i:Nat}{o:Oper}(ho:ops[i]?=some o):qea P H f o=true :=
 List.all_eq_true.1 h o (Array.mem_toList_iff.2 (Array.mem_of_getElem? ho))
theorem qiO{ops:Array Oper}(hst:qrX ops=true)(hp:∀(i:Nat) (o:Oper),ops[i]?=some o->qbX P o=true)(hkind:ops.toList.all (qea P H f)=true){s0 fin:Act×World}{st':St}
  (hi:∀(i:Nat) (o:Oper),ops[i]?=some o->qia fin.1.eval o) (hS:∀c,qCZ P H C f ops s0 st' fin c):∀(m i:Nat) (s:Act×World),i+m=ops.size->cxs P ops (List.range' 0 i) s0=some s->cxs P ops (List.range' i m) s=some fin->∀b,shp fin.2 b=shp s.2 b
 |0,i,s,_,_,h,b=>by
  simp only [List.range'_zero,cxs,qb]at h;rw [h]
 |m+1,i,s,him,h0,h,b=>by
  have hall:=h;rw [List.range'_succ]at h;obtain ⟨o,s1,ho,h1,h2⟩:=qcB.1 h;rw [qiO hst hp hkind hi hS m (i+1) s1 (by omega) (by rw [List.range'_1_concat,Nat.zero_add];exact qpg ho h0 h1) h2 b];obtain ⟨a,w⟩:=s;have hk:=qmC hkind ho;refine qyW (hp i o ho) (qhw (hi i o ho) (qpj hst hall ho)) (λt ad hop=>?_) (λt ad xo hop=>?_) h1 b
  ·obtain ⟨_,d,_,h3,h4⟩:=qxb hk hop;exact ⟨d,h3,h4⟩
  ·obtain ⟨d,rfl,hls⟩:=qpB hk hop;obtain ⟨m',st,fps,s',X,O,_,h3,_,h4,_⟩:=hS i o t d xo ho hls hop;rw [h0]at h3;cases h3;exact ⟨d,X,rfl,h4⟩
theorem qwh{ops:Array Oper}{E:List V}{r:Root}(h:qyN ops E r=true):∃t off,(∀(k:Nat) (o:Oper),ops[k]?=some o->o.dst≠some t)/\E[t]?=some (.ptr r off):=by
 unfold qyN at h;obtain ⟨o,_,h1⟩:=List.any_eq_true.1 h;obtain ⟨t,_,h2⟩:=List.any_eq_true.1 h1;simp only [qe]at h2;obtain ⟨h3,h4⟩:=h2;unfold qAx at h4;split at h4
 ·rename_i r' off hE;simp only [decide_eq_true_eq]at h4;subst h4;refine ⟨t,off,λk o ho=>?_,hE⟩;have:=List.all_eq_true.1 h3 o (Array.mem_toList_iff.2 (Array.mem_of_getElem? ho));simpa using this
 ·cases h4
def Wr(P:Program)(ops:Array Oper)(s0:Act×World)(b:Nat):Prop:=∃(c:Nat) (s:Act×World) (o:Oper) (t:TypeId) (d:Tmp) (xo:Operand) (k:Nat),cxs P ops (List.range' 0 c) s0=some s/\ops[c]?=some o/\o.op=.store t (.tmp d) xo/\s.1.eval (.tmp d)=.pointer (some ⟨b,k,none⟩)
open Classical in
noncomputable def qya(P:Program)(ops:Array Oper)(s0:Act×World)(b:Nat):Option Nat:=if Wr P ops s0 b then (shp s0.2 b).map (·.1)else none
theorem qrW{ops:Array Oper}{s0:Act×World}{b:Nat}(h:Wr P ops s0 b):qya P ops s0 b=(shp s0.2 b).map (·.1):=if_pos h
theorem qrV{ops:Array Oper}{s0:Act×World}{b:Nat}(h:¬ Wr P ops s0 b):qya P ops s0 b=none:=if_neg h
theorem qrS{w:World}{b n:Nat}{z:Nat×Nat}(h:shp w b=some (n,z)):∃arr ty,w.heap[b]?=some (.cells arr ty z)/\arr.size=n:=by
 unfold shp at h;split at h
 ·rename_i arr ty z' hb;simp only [qb,Prod.mk.injEq]at h;obtain ⟨rfl,rfl⟩:=h;exact ⟨arr,ty,hb,rfl⟩
 ·cases h
theorem qAI{w:World}{b:Nat}{arr:Array Value}{ty:TypeId}{z:Nat×Nat}(h:w.heap[b]?=some (.cells arr ty z)):shp w b=some (arr.size,z):=by
 unfold shp;rw [h]
theorem qA6{ops:Array Oper}(hst:qrX ops=true)(hp:∀(i:Nat) (o:Oper),ops[i]?=some o->qbX P o=true)(hkind:ops.toList.all (qea P H f)=true){s0 fin:Act×World}{st':St}{O:Pl->List Nat}
  (hcx:cxs P ops (List.range' 0 ops.size) s0=some fin) (hR:Rel st' fin.1.tmps fin.2 X O) (hend:qpO ops st'=true) (hS:∀c,qCZ P H C f ops s0 st' fin c) :
  qyG s0.2 (qya P ops s0) s0.2/\∀(i:Nat) (o:Oper),ops[i]?=some o->qia fin.1.eval o/\qv1 P s0.2 (qya P ops s0) fin.1 o/\qv4 P (qya P ops s0) fin.1 o:=by
 have hone:∀(i:Nat) (o:Oper),ops[i]?=some o->qmU ops st' o=true:=λi o ho =>
  List.all_eq_true.1 hend o (Array.mem_toList_iff.2 (Array.mem_of_getElem? ho))
 have hi:∀(i:Nat) (o:Oper),ops[i]?=some o->qia fin.1.eval o:=λi o ho op t x y t2 hop=>by
  have h1:=hone i o ho;unfold qmU at h1;rw [hop]at h1;simp only [qe]at h1;obtain ⟨k,n,h2⟩:=qw2 hR h1.1;obtain ⟨k',n',h3⟩:=qw2 hR h1.2;exact ⟨k,n,k',n',h2,h3⟩
 have hsh0:∀b,shp fin.2 b=shp s0.2 b:=qiO hst hp hkind hi hS ops.size 0 s0 (by omega) rfl hcx
 have hwr:∀(c:Nat) (s:Act×World) (o:Oper) (t:TypeId) (d:Tmp) (xo:Operand) (b k:Nat),cxs P ops (List.range' 0 c) s0=some s->ops[c]?=some o->o.op=.store t (.tmp d) xo->s.1.eval (.tmp d)=.pointer (some ⟨b,k,none⟩) ->
   ∃arr ty,s.2.heap[b]?=some (.cells arr ty (0,0))/\shp s0.2 b=some (arr.size,(0,0)):=λc s o t d xo b k h0 ho hop hev=>by
  obtain ⟨d',e1,hls⟩:=qpB (qmC hkind ho) hop;cases e1;obtain ⟨m,st,fps,s',X',O',hcm,g0,g1,⟨b',k',arr,ty,e1,e2,_⟩,g3,_⟩:=hS c o t d xo ho hls hop;rw [h0]at g0;cases g0;have:Value.pointer (some ⟨b,k,none⟩)=.pointer (some ⟨b',k',none⟩):=hev.symm.trans e1;cases this;exact ⟨arr,ty,e2,by rw [<- hsh0 b,qiO hst hp hkind hi hS m c s hcm h0 g3 b,qAI e2]⟩
 refine ⟨⟨λb _=>rfl,λb n hb=>?_⟩,λi o ho=>⟨hi i o ho,λt ad hop=>?_,λt ad xo hop=>?_⟩⟩
 ·by_cases hw:Wr P ops s0 b
  ·rw [qrW hw]at hb;obtain ⟨c,s,o,t,d,xo,k,h0,ho,hop,hev⟩:=hw;obtain ⟨arr,ty,_,h1⟩:=hwr c s o t d xo b k h0 ho hop hev;rw [h1]at hb;simp only [qi,qb]at hb;subst hb;obtain ⟨arr0,ty0,h2,h3⟩:=qrS h1;exact ⟨arr0,ty0,h2,h3⟩
  ·rw [qrV hw]at hb;cases hb
 ·obtain ⟨a,d,rfl,hu,hag⟩:=qxb (qmC hkind ho) hop;have h1:=hone i o ho;unfold qmU at h1;rw [hop]at h1;simp only at h1;split at h1
  ·rename_i r off hE;simp only [qe]at h1;obtain ⟨hbase,hbox⟩:=h1;obtain ⟨t0,off0,hfree,hE0⟩:=qwh hbase;obtain ⟨b,cs,e1,e2,e3,e4⟩:=qmX hR hE;obtain ⟨b0,cs0,f1,f2,f3,f4⟩:=qmX hR hE0;rw [e2]at f2;cases f2;rw [e4]at hbox;simp only [qe,Bool.not_eq_true',decide_eq_true_eq]at hbox;obtain ⟨hlp,hoff⟩:=hbox;obtain ⟨b2,hb2,hlt,hω,hbx⟩:=hR.box r cs e4;rw [e2]at hb2;cases hb2;obtain ⟨arrq,tyq,harrq,hlq⟩:=hbx.cells hlp;have hlen:=qE _ _ _ hlq;obtain ⟨arr0,ty0,g1,g2⟩:=qrS ((hsh0 b).symm.trans (qAI harrq));have hsz:off<arr0.size:=by rw [g2];simp only [Array.length_toList]at hlen;omega
   refine ⟨b,off,arr0[off],d,e1,?_,?_,hu,hag⟩
   ·refine qrV λ⟨c,s,o2,t2,d2,xo2,k2,h0,ho2,hop2,hev2⟩=>?_;obtain ⟨d',e5,hls⟩:=qpB (qmC hkind ho2) hop2;cases e5;obtain ⟨m,st,fps,s',X',O',hcm,g0,gR,⟨b',k',arr,ty,i1,i2,_,_,_,_,e6,i3⟩,gx,gE⟩:=hS c o2 t2 d2 xo2 ho2 hls hop2;rw [h0]at g0;cases g0;have:Value.pointer (some ⟨b,k2,none⟩)=.pointer (some ⟨b',k',none⟩):=hev2.symm.trans i1;cases this;have hEc:=qwG hp _ _ _ _ gE (λk _ o' ho'=>hfree k o' ho') hE0;obtain ⟨bc,csc,j1,j2,j3,j4⟩:=qmX gR hEc;have:=qpf (t:=t0) gx λk _ o' ho'=>hfree k o' ho';rw [f1,j1]at this;cases this;rw [i3]at j3;cases j3
   ·simp only [World.cell?,g1];simp [hsz]
  ·cases h1
 ·obtain ⟨d,rfl,hls⟩:=qpB (qmC hkind ho) hop;obtain ⟨m,st,fps,s,X',O',hcm,g0,gR,⟨b,k,arr,ty,i1,i2,i3,i4,i5,i6,e6,i7⟩,gx,gE⟩:=hS i o t d xo ho hls hop;have ev1:=qpj hst gx ho (.tmp d) (by rw [hop];simp [Op.operands]);have ev2:=qpj hst gx ho xo (by rw [hop];simp [Op.operands]);obtain ⟨arr',ty',k1,k2⟩:=hwr i s o t d xo b k g0 ho hop i1;rw [i2]at k1;cases k1;refine ⟨d,b,k,arr.size,rfl,i3,ev1.symm.trans i1,?_,by rw [<- ev2];exact i4,by rw [<- ev2];exact i5,by rw [<- ev2];exact i6⟩;rw [qrW ⟨i,s,o,t,d,xo,k,g0,ho,hop,i1⟩,k2];rfl
theorem qmS{ops:Array Oper}{π:List Nat}(hlt:∀i∈π,i<ops.size){k:Nat}(hk:k<π.length):(qfk ops π)[k]?=ops[π.getD k 0]?:=by
 unfold qfk;have h1:π[k]<ops.size:=hlt _ (List.getElem_mem hk);simp [hk,Array.getD,h1]
theorem qhF(ops:Array Oper)(π:List Nat):(qfk ops π).size=π.length:=by simp [qfk]
theorem qxL(π:List Nat):(List.range' 0 π.length).map (λk=>π.getD k 0)=π:=by
 apply List.ext_getElem?;intro i;by_cases hi:i<π.length
 ·simp [hi]
 ·simp [hi]
theorem qs5(hC:OrcOk P C)(hm:P.follows .mixedOrders=true){F:Fence}{w0:World}{X0:Cx}{Md:Md}{n:Nat}(hFO:FOk F X0 Md n){bid id:Nat}{ops:Array Oper}{draw:Bool}{st st':St}{e:Ex}{a:Act}(hS:qio w0 X0 Md n st a w)
  {st0:St} (hcl:st0.clear (H.pre f id)=some st) (hnt:qgC H ops draw=none) (hls:qsz H f ops=true) (hpe:(H.perm f id).isEmpty=false) (hx:ex P H C f bid (.region id ops draw) st0=some (e,st')):(Code.region id ops draw).wpIn F 0 P (λe' a' w'=>e'=e.qqO/\qio w0 X0 Md n st' a' w') a w:=by
 simp only [ex,hcl,hnt,hls,hpe,if_true,qf,if_false]at hx;unfold qpQ at hx;split at hx
 ·rename_i hc;unfold qpR at hc;simp only [qe]at hc;obtain ⟨rfl,⟨hin,hpo⟩,hlk,hst,hkind⟩:=hc;generalize hπ:H.perm f id=π at *;have hlt:∀i∈π,i<ops.size:=λi hi=>by simpa using List.all_eq_true.1 hin i hi
  obtain ⟨hall,_,_,_,hR,_⟩:=qmT hpo;have hp:∀(i:Nat) (o:Oper),(qfk ops π)[i]?=some o->qbX P o=true:=λi o ho=>by
   have hi:=(Array.getElem?_eq_some_iff.1 ho).1;rw [qhF]at hi;rw [qmS hlt hi]at ho;exact hR.plain _ o ho
  split at hx
  ·rename_i s fps hex;split at hx
   ·rename_i hend;simp only [qb,Prod.mk.injEq]at hx;obtain ⟨rfl,rfl⟩:=hx;refine wpIn_region_any hm ?_;have hr:List.range (qfk ops π).size=List.range' 0 (qfk ops π).size:=List.range_eq_range';rw [hr]at hex;obtain ⟨fin,hcx,hfin,hSt⟩:=walk hC hFO hlk hp (qfk ops π).size 0 st s fps (a,{w with drawn:=w.drawn+1}) (by omega) rfl (((qrT hS).qDp (P:=P) (H:=H) (f:=f) (ops:=qfk ops π)).mono λk _=>by simp) hex;obtain ⟨X,O,hRel,hFr,hMk⟩:=hfin;obtain ⟨hI,hF⟩:=qA6 hst hp hkind hcx hRel hend λc=>hSt c (Nat.zero_le c);have hcx2:cxs P ops π (a,{w with drawn:=w.drawn+1})=some fin:=by
     have:=qwx (P:=P) (ops:=ops) (ops':=qfk ops π) (g:=λk=>π.getD k 0) (List.range' 0 (qfk ops π).size) (a,{w with drawn:=w.drawn+1}) λk hk=>by
      have:=(List.mem_range'_1.1 hk).2;rw [qhF]at this;exact qmS hlt (by omega)
     rw [qhF,qxL]at this;rw [this,<- qhF ops π];exact hcx
    have hback:∀(c:Nat) (o:Oper),ops[c]?=some o->∃i,(qfk ops π)[i]?=some o:=λc o ho=>by
     have hc:=hall c (Array.getElem?_eq_some_iff.1 ho).1;obtain ⟨i,hi,he⟩:=List.getElem_of_mem hc;refine ⟨i,?_⟩;rw [qmS hlt hi];simp [hi,he,ho]
    refine qzD (s:=(a,{w with drawn:=w.drawn+1})) hpo hcx2 {ints:=λc o ho=>?_,ld:=λc o ho=>?_,st:=λc o ho=>?_} hI ⟨rfl,X,O,hRel,hFr,hMk⟩
    ·obtain ⟨i,hi⟩:=hback c o ho;exact (hF i o hi).1
    ·obtain ⟨i,hi⟩:=hback c o ho;exact (hF i o hi).2.1
    ·obtain ⟨i,hi⟩:=hback c o ho;exact (hF i o hi).2.2
   ·cases hx
  ·cases hx
 ·cases hx
end
section
variable {P:Program} {H:Hints} {f:FuncId} {C:Orc} {w:World} {X:Cx}
theorem qyZ(hC:OrcOk P C)(hm:P.follows .mixedOrders=true)(hT:qo3 P H):∀(c:Code) (bid:Nat) (st:St) (e:Ex) (st':St),ex P H C f bid c st=some (e,st')->qvX P c st e st':=by
 intro c;induction c with
 |skip =>
  intro bid st e st' hx F w0 X0 Md n a w hF hS;simp only [ex,qb,Prod.mk.injEq]at hx;obtain ⟨rfl,rfl⟩:=hx;exact wpIn_skip ⟨rfl,hS⟩
 |region id ops draw =>
  intro bid st e st' hx F w0 X0 Md n a w hF hS;cases hcl:st.clear (H.pre f id)with
  |none=>simp only [ex,hcl]at hx;cases hx
  |some st1 =>
  replace hS:=qhp hS hcl
  cases hnt:qgC H ops draw with
  |some p=>exact qs6 hT hF hS hcl hnt hx
  |none =>
  cases hls:qsz H f ops with
  |true=>cases hpe:(H.perm f id).isEmpty with
   |true=>exact qxS hC hm hF hS hcl hnt hls hpe hx
   |false=>exact qs5 hC hm hF hS hcl hnt hls hpe hx
  |false =>
  obtain ⟨X,Md2,hS2,_,_,lift⟩:=qCz hS;refine wpIn_mono (qxT hC hm hF.qy0 hS2 hcl hnt hls hx) ?_;rintro e' a' w' ⟨rfl,hd,hS'⟩;have:=lift _ _ _ hS';rw [<- hd]at this;exact ⟨rfl,this⟩
 |seq x y ihx ihy =>
  intro bid st e st' hx F w0 X0 Md n a w hF hS;simp only [ex]at hx;refine wpIn_seq ?_;cases h1:ex P H C f bid x st with
  |none=>rw [h1]at hx;cases hx
  |some p =>
   obtain ⟨e1,s⟩:=p;rw [h1]at hx;refine wpIn_mono (ihx bid st e1 s h1 F w0 X0 Md n a w hF hS).wp ?_;rintro e' a' w' ⟨rfl,hS'⟩;cases e1 with
   |normal=>exact (ihy bid s e st' hx F w0 X0 Md n a' w' hF hS').wp
   |exit id=>simp only [qb,Prod.mk.injEq]at hx;obtain ⟨rfl,rfl⟩:=hx;exact ⟨rfl,hS'⟩
   |ret=>simp only [qb,Prod.mk.injEq]at hx;obtain ⟨rfl,rfl⟩:=hx;exact ⟨rfl,hS'⟩
 |cond c x y ihx ihy =>
  intro bid st e st' hx F w0 X0 Md n a w hF hS;simp only [ex]at hx;split at hx
  ·rename_i t ht;have hev:a.eval c=.bool t:=by
    obtain ⟨X,O,hR,_⟩:=hS;have:=qoz (H:=H) (f:=f) hR c;rw [ht]at this;simp only [Rep]at this;exact this.1
   refine wpIn_cond hev ?_;cases t with
   |true=>exact (ihx bid st e st' hx F w0 X0 Md n a w hF hS).wp
   |false=>exact (ihy bid st e st' hx F w0 X0 Md n a w hF hS).wp
  ·cases hx
 |block id c ih =>
  intro bid st e st' hx F w0 X0 Md n a w hF hS;simp only [ex]at hx;refine wpIn_block ?_;cases h1:ex P H C f id c st with
  |none=>rw [h1]at hx;cases hx
  |some p =>
   obtain ⟨e1,s⟩:=p;rw [h1]at hx;refine wpIn_mono (ih id st e1 s h1 F w0 X0 Md n a w hF hS).wp ?_;rintro e' a' w' ⟨rfl,hS'⟩;cases e1 with
   |normal=>simp only [qb,Prod.mk.injEq]at hx;obtain ⟨rfl,rfl⟩:=hx;exact ⟨rfl,hS'⟩
   |ret=>simp only [qb,Prod.mk.injEq]at hx;obtain ⟨rfl,rfl⟩:=hx;exact ⟨rfl,hS'⟩
   |exit i =>
    simp only at hx;simp only [Ex.qqO,Exit.inBlock];by_cases hi:i=id
    ·rw [if_pos hi]at hx ⊢;simp only [qb,Prod.mk.injEq]at hx;obtain ⟨rfl,rfl⟩:=hx;exact ⟨rfl,hS'⟩
    ·rw [if_neg hi]at hx ⊢;simp only [qb,Prod.mk.injEq]at hx;obtain ⟨rfl,rfl⟩:=hx;exact ⟨rfl,hS'⟩
 |loop c ih =>
  intro bid st e st' hx F w0 X0 Md n a w hF hS;simp only [ex]at hx;split at hx
  ·rename_i st1 hcl;have hS1:=qhp hS hcl;refine qgQ.close ?_;cases h1:ex P H C f bid c st1 with
   |none=>rw [h1]at hx;cases hx
   |some p =>
    obtain ⟨e1,s⟩:=p;rw [h1]at hx;refine wpIn_mono (ih bid st1 e1 s h1 F w0 X0 Md n a w hF hS1).wp ?_;rintro e' a' w' ⟨rfl,hS'⟩;cases e1 with
    |normal=>exact hC.code _ _ _ _ _ _ hx F w0 X0 Md n a' w' hF hS'
    |exit id=>simp only [qb,Prod.mk.injEq]at hx;obtain ⟨rfl,rfl⟩:=hx;exact ⟨rfl,hS'⟩
    |ret=>simp only [qb,Prod.mk.injEq]at hx;obtain ⟨rfl,rfl⟩:=hx;exact ⟨rfl,hS'⟩
  ·cases hx
 |rangeFunc g ps asz bo iha ihb =>
  intro bid st e st' hx;exact qrC hC hx
 |exit id =>
  intro bid st e st' hx F w0 X0 Md n a w hF hS;simp only [ex,qb,Prod.mk.injEq]at hx;obtain ⟨rfl,rfl⟩:=hx;exact wpIn_exit ⟨rfl,hS⟩
 |ret =>
  intro bid st e st' hx F w0 X0 Md n a w hF hS;simp only [ex,qb,Prod.mk.injEq]at hx;obtain ⟨rfl,rfl⟩:=hx;exact wpIn_ret ⟨rfl,hS⟩
 |_=>intro bid st e st' hx;simp [ex]at hx
end
section
variable {P:Program} {H:Hints} {f:FuncId} {C:Orc} {w:World} {X:Cx}
def qqk:Bool×Nat×Nat->Pl
 |(false,t,_)=>.tmp t
 |(true,l,s)=>.box ⟨l,s⟩
def qrK(tmps:Array Value):ResultVar->Sem Value
 |.tmp t=>pure (tmps.getD t undef)
 |.cell a t=>do loadVar t (<- asAddr (tmps.getD a undef))
theorem qtN{st:St}{tmps:Array Value}{O:Pl->List Nat}(h:Rel st tmps w X O)(t:Nat):Rep w X (st.E.getD t .undef) (tmps.getD t undef) (O (.tmp t)):=by
 by_cases hlt:t<st.E.length
 ·obtain ⟨v,hv,hr⟩:=h.env t _ (List.getElem?_eq_getElem hlt);have e1:tmps.getD t undef=v:=by rw [Array.getD_eq_getD_getElem?,hv];rfl
  have e2:st.E.getD t .undef=st.E[t]:=by simp [hlt]
  rw [e1,e2];exact hr
 ·have e2:st.E.getD t .undef=.undef:=by simp [List.getElem?_eq_none (Nat.not_lt.1 hlt)]
  rw [e2,h.envD t (by omega)];simp [Rep]
theorem qvx{st:St}{tmps:Array Value}{O:Pl->List Nat}(h:Rel st tmps w X O){rv:ResultVar}{x:V}(hx:qc2 P st rv=some x) :
  ∃v Ox,(qrK tmps rv).run P w=.ok v w/\Rep w X x v Ox/\(∀b,Ox.count b<=(O (qqk (qM st rv))).count b)/\∀r∈x.qp,(st.box r).isSome=true:=by
 cases rv with
 |tmp t =>
  simp only [qc2,qb]at hx;subst hx;exact ⟨_,_,rfl,qtN h t,λb=>Nat.le_refl _,λr hr=>h.ptrE r (qmh hr)⟩
 |cell a t =>
  simp only [qc2]at hx;split at hx
  ·rename_i r off hE;split at hx
   ·rename_i cs hcs;split at hx
    ·cases hx
    ·rename_i hlp;have ha:=qtN h a;rw [hE]at ha;simp only [Rep]at ha;obtain ⟨_,b,hb,hv⟩:=ha;obtain ⟨b',hb',hlt,hω,hbx⟩:=h.box r cs hcs;obtain rfl:b=b':=by rw [hb]at hb';exact Option.some.inj hb'
     obtain ⟨arr,ty,hw,hl⟩:=hbx.cells (by simpa using hlp);have hseg:Seg w b off (arr.toList.drop off):=qjN hw;obtain ⟨v,Ox,Ob,hrep,hvv,⟨d,hd⟩,_,hcnt⟩:=qhd hx hl;have hkey:qqk (qM st (.cell a t))=.box r:=by simp only [qM,hE,qqk]
     refine ⟨v,Ox,?_,hrep,λk=>by rw [hkey];have:=hcnt k;omega,λr' hr'=>h.ptrB r cs hcs r' (qcD (qby hx r' hr'))⟩;simp only [qrK,hv,asAddr,Sem.run_bind,Sem.run_pure,Result.andThen_ok];exact qdM hd hseg hvv
   ·cases hx
  ·cases hx
theorem qoH{st:St}{tmps:Array Value}{O:Pl->List Nat}(h:Rel st tmps w X O):∀(l:List ResultVar) (rs:List V),qfb (l.map (qc2 P st))=some rs ->
  ∃vals Or,(l.mapM (qrK tmps)).run P w=.ok vals w/\RepL w X rs vals Or/\(∀b,Or.count b<=(l.map λr=>(O (qqk (qM st r))).count b).sum)/\∀r∈ptrsL rs,(st.box r).isSome=true
 |[],rs,hx=>by
  simp only [List.map_nil,qfb,qb]at hx;subst hx;exact ⟨[],[],rfl,by simp [RepL],by simp,by simp [ptrsL]⟩
 |rv::l,rs,hx=>by
  simp only [qh]at hx;cases h1:qc2 P st rv with
  |none=>rw [h1]at hx;simp [qfb]at hx
  |some x =>
   rw [h1]at hx;simp only [qfb]at hx;obtain ⟨rs',h2,rfl⟩:=qc.1 hx;obtain ⟨v,Ox,hr,hrep,hc,hp⟩:=qvx h h1;obtain ⟨vals,Or,hr',hrep',hc',hp'⟩:=qoH h l rs' h2;refine ⟨v::vals,Ox++Or,?_,by simp only [RepL];exact ⟨v,vals,Ox,Or,rfl,rfl,hrep,hrep'⟩,λb=>?_,λr hr=>?_⟩
   ·simp only [List.mapM_cons,Sem.run_bind,hr,Result.andThen_ok,hr',Sem.run_pure]
   ·simp only [qh,List.sum_cons,List.count_append];have:=hc b;have:=hc' b;omega
   ·simp only [ptrsL,qj]at hr;rcases hr with hr|hr
    ·exact hp r hr
    ·exact hp' r hr
theorem qzE{st:St}{r r':ResultVar}(h:qqk (qM st r)=qqk (qM st r')):qM st r=qM st r':=by
 have key:∀r:ResultVar,(∃t,qM st r=(false,t,0))\/∃l s,qM st r=(true,l,s):=λr=>by
  cases r with
  |tmp t=>exact .inl ⟨t,rfl⟩
  |cell a t=>right;simp only [qM];split<;>exact ⟨_,_,rfl⟩
 rcases key r with ⟨t,e⟩|⟨l,s,e⟩<;>rcases key r' with ⟨t',e'⟩|⟨l',s',e'⟩<;>rw [e,e']at h ⊢<;>simp_all [qqk]
theorem qus{α:Type}(c:α->Nat):∀l:List α,(∀x∈l,c x=0)->(l.map c).sum=0
 |[],_=>rfl
 |x::l,h=>by
  simp only [qh,List.sum_cons,h x (by simp),qus c l λy hy=>h y (by simp [hy])]
theorem qoQ{O:Pl->List Nat}(hl:∀p,Lin (O p))(hd:∀p q,p≠q->∀b∈O p,b∉O q){st:St}(b:Nat):∀(l:List ResultVar),distinct (l.map (qM st))=true->(l.map λr=>(O (qqk (qM st r))).count b).sum<=1
 |[],_=>by simp
 |r::l,h=>by
  simp only [qh,distinct,qe,Bool.not_eq_true']at h;have ih:=qoQ hl hd b l h.2;simp only [qh,List.sum_cons];by_cases hb:b∈O (qqk (qM st r))
  ·have h1:=hl (qqk (qM st r)) b;have h0:(l.map λr=>(O (qqk (qM st r))).count b).sum=0:=by
    have:∀r'∈l,(O (qqk (qM st r'))).count b=0:=λr' hr'=>List.count_eq_zero.2 λhb'=>by
     have hne:qqk (qM st r)≠qqk (qM st r'):=λe=>by
      have:=qzE e;have hm:qM st r∈l.map (qM st):=by rw [this];exact List.mem_map.2 ⟨r',hr',rfl⟩
      have h2:=h.1;simp only [List.contains_eq_mem,decide_eq_false_iff_not]at h2;exact h2 hm
     exact hd _ _ hne b hb hb'
    exact qus _ l this
   omega
  ·have:(O (qqk (qM st r))).count b=0:=List.count_eq_zero.2 hb;omega
theorem qhM{rs:List V}{vals:List Value}{Or:List Nat}(h:RepL w X rs vals Or):Rep w X (packed rs) (if hs:vals.toArray.size=1 then vals.toArray[0]else .tuple vals.toArray) Or:=by
 match rs,vals,h with
 |[],vals,h=>simp only [RepL]at h;obtain ⟨rfl,rfl⟩:=h;simp [packed,Rep,RepL]
 |[r],vals,h =>
  simp only [RepL]at h;obtain ⟨u,vs,O1,O2,rfl,rfl,h1,rfl,rfl⟩:=h;simpa [packed]using h1
 |r::r'::rs,vals,h =>
  have hl:=qE _ _ _ h;have hne:¬ vals.toArray.size=1:=by simp at hl ⊢;omega
  rw [dif_neg hne];simp only [packed,Rep];exact ⟨vals,rfl,h⟩
theorem qkY{fn:Func}{tmps:Array Value}{R:Ending->World->Prop}:∀(ks:List Nat) (w:World),ks.Nodup->(∀k∈ks,w.heap[k]?=some (.deferred (some []))) ->
  (∀w':World,w'.heap.size=w.heap.size->(∀k,k∉ks->w'.heap[k]?=w.heap[k]?)->w'.os=w.os->w'.output=w.output->w'.tape=w.tape->∃v,(results fn tmps).run P w'=.ok v w'/\R (.returned v) w') ->
  LeavesInM Fence.wide 0 P fn tmps R (ks.map λk=>{target:=.collected k,args:=#[]}) .returning w
 |[],w,_,_,hR=>hR w rfl (λ_ _=>rfl) rfl rfl rfl
 |k::ks,w,hnd,hk,hR=>by
  have hw:=hk k (by simp);obtain ⟨hnk,hnd'⟩:=List.nodup_cons.1 hnd;refine ⟨by simp,.inl ⟨k,w.putObj k (.deferred none),rfl,run_takeDeferred hw,?_⟩⟩;refine qkY ks _ hnd' (λk' hk'=>?_) (λw' h1 h2 h3 h4 h5=>?_)
  ·rw [World.putObj_heap_other (λe=>hnk (by rw [<- e];exact hk'))];exact hk k' (by simp [hk'])
  ·refine hR w' (by rw [h1];simp [World.putObj]) (λk' hk'=>?_) h3 h4 h5;simp only [qk,not_or]at hk';rw [h2 k' hk'.2,World.putObj_heap_other hk'.1]
end
section
variable {P:Program} {H:Hints} {f:FuncId} {w:World} {X:Cx}
theorem qAY(c:List V)(r:Root):qbc [[(0,c)]] r=if r=⟨0,0⟩then some c else none:=by
 obtain ⟨l,s⟩:=r;unfold qbc;cases l with
 |zero =>
  simp only [List.getElem?_cons_zero,qu];by_cases h:(0:Nat)=s
  ·subst h;simp
  ·rw [if_neg h,if_neg (λe=>h (by cases e;rfl))]
 |succ l=>rw [if_neg (λe=>by cases e)];simp
theorem qwn{M:List Level}{q:Root}{c:List V}(c':List V)(h:qbc M q=some c)(r:Root):qbc (qAH M q c') r=if r=q then some c' else qbc M r:=by
 obtain ⟨l,s⟩:=r;obtain ⟨ql,qs⟩:=q;unfold qbc at h;simp only at h;unfold qbc qAH;simp only [List.getElem?_modify];by_cases hl:ql=l
 ·subst hl;cases hM:M[ql]? with
  |none=>rw [hM]at h;cases h
  |some B =>
   rw [hM]at h;simp only at h;simp only [if_true,qi];show qu (qdP B qs c') s=_;rw [qdl];by_cases hs:s=qs
   ·subst hs;rw [h];simp
   ·rw [if_neg hs,if_neg (λe=>hs (by cases e;rfl))]
 ·simp only [hl,if_false];rw [if_neg (λe=>hl (by cases e;rfl))];cases M[l]?<;>rfl
theorem qq5{c:List V}(h:qc7 c=false):q6 c=false:=by
 cases c with
 |nil=>rfl
 |cons v l=>cases v<;>first|rfl|(simp [qc7]at h)
theorem quY{g:FuncId}{off:Nat}{rest c c':List V}{r:V}(h:qa4 P g (.ptr ⟨0,0⟩ off::rest) [[(0,c)]] r [[(0,c')]])(hrest:ptrsL rest=[])(hc:ptrsL c=[])(hlp:qc7 c=false)
  (hr:r.qp=[]) (hro:r.owns=false) (hc':ptrsL c'=[]) (hlp':qc7 c'=false) {M:List Level} {q:Root} (hq:qbc M q=some c):qa4 P g (.ptr q off::rest) M r (qAH M q c'):=by
 intro w X vals O ha hgl hL hp hfz;obtain ⟨b,hβ,hlt,hωb,hbx⟩:=hL.box q c hq;simp only [RepL]at ha;obtain ⟨v1,vs,O1,O2,rfl,hO,h1,h2⟩:=ha;have hO2:O2=[]:=by
  have:=congrArg List.length hO;simp only [List.length_nil,List.length_append]at this;exact List.eq_nil_of_length_eq_zero (by omega)
 subst hO2;simp only [Rep]at h1;obtain ⟨rfl,b1,hb1,hv1⟩:=h1;obtain rfl:b1=b:=by rw [hβ]at hb1;exact (Option.some.inj hb1).symm
 have hext:Ext [] w X w {β:=λr=>if r=⟨0,0⟩then some b1 else none,ω:=X.ω} (λ_=>False) :=
  {β:=by simp,ω:=λb e fz hω=>⟨e,fz,hω,Nat.le_refl _,id,λ_=>⟨rfl,rfl⟩⟩,cell:=λ_ _ _ _ _ _ _ h=>h,obj:=λb e fz c t _ _ h=>⟨c,h,rfl⟩}
 have hown:=hL.own;have hargs:RepL w {β:=λr=>if r=⟨0,0⟩then some b1 else none,ω:=X.ω} (.ptr ⟨0,0⟩ off::rest) (v1::vs) []:=by
  simp only [RepL];refine ⟨v1,vs,[],[],rfl,rfl,?_,RepL.ext hext rest vs [] (by rw [hrest];simp) (by simp) h2⟩;simp only [Rep];exact ⟨trivial,b1,by simp,hv1⟩
 obtain ⟨cs,t,hwb,hcs⟩:=hbx.cells hlp;have hL0:LRel [[(0,c)]] w {β:=λr=>if r=⟨0,0⟩then some b1 else none,ω:=X.ω} (λr=>if r=⟨0,0⟩then O q else []):={
  box:=λr c2 hr2=>by
   rw [qAY]at hr2;split at hr2
   ·rename_i e;cases hr2;subst e;exact ⟨b1,by simp,hlt,hωb,.inl ⟨cs,t,hwb,by rw [if_pos rfl];exact RepL.ext hext _ _ _ (by rw [hc];simp) (by simp) hcs⟩⟩
   ·cases hr2
  boxD:=λr hr2=>by
   rw [qAY]at hr2;split at hr2
   ·cases hr2
   ·rename_i e;simp only [if_neg e]
  inj:=λr r' b h1 h2 _ _=>by
   rw [qAY]at h1 h2;split at h1
   ·split at h2
    ·rename_i e1 e2;rw [e1,e2]
    ·cases h2
   ·cases h1
  lin:=λr=>by
   split
   ·exact hL.lin q
   ·exact Lin.nil
  dis:=λr r' hne b hb=>by
   split at hb
   ·rename_i e;rw [if_neg (λe'=>hne (by rw [e,e']))];simp
   ·simp at hb
  ptrB:=λr c2 hr2 r' hr'=>by
   rw [qAY]at hr2;split at hr2
   ·cases hr2;rw [hc]at hr';simp at hr'
   ·cases hr2
  up:=λr c2 hr2 r' hr'=>by
   rw [qAY]at hr2;split at hr2
   ·cases hr2;rw [hc]at hr';simp at hr'
   ·cases hr2
  dom:=hL.dom}
 have hok:=h w _ (v1::vs) _ hargs hgl hL0 (λr hr2=>by
  simp only [ptrsL,V.qp,hrest,List.append_nil,List.mem_singleton]at hr2;subst hr2;rw [qAY,if_pos rfl];rfl) (λe=>by cases e)
 refine hok.mono (λe=>by cases e) ?_;rintro v w' ⟨X',O',Or,hrep,hLR,hlin,hfree,hpr,hlen,hloop,haft⟩;have hOr:Or=[]:=rep_noowns r v Or hro hrep;subst hOr;obtain ⟨b',hβ',hlt',hωb',hbx'⟩:=hLR.box ⟨0,0⟩ c' (by rw [qAY,if_pos rfl]);have hbb:b'=b1:=by
  have h1:=haft.β ⟨0,0⟩ (by simp);rw [hβ']at h1;simpa using h1
 subst hbb;have hMod:∀k,Mod [[(0,c)]] {β:=λr=>if r=⟨0,0⟩then some b' else none,ω:=X.ω} (λr=>if r=⟨0,0⟩then O q else []) k->k=b'\/k∈O q:=by
  rintro k (⟨r',h1,h2⟩|⟨r',h1⟩)
  ·simp only at h2;split at h2
   ·exact .inl (Option.some.inj h2).symm
   ·cases h2
  ·simp only at h1;split at h1
   ·exact .inr h1
   ·simp at h1
 have hkept:∀k,k<w.heap.size->k≠b'->k∉O q->w'.heap[k]?=w.heap[k]?/\X'.ω k=X.ω k:=λk hk h1 h2=>haft.kept k hk λhm=>(hMod k hm).elim h1 h2;have hOqω:∀k∈O q,∃e,X.ω k=some (e,false):=hown q;have hE:∀R,Ext R w X w' {β:=X.β,ω:=X'.ω} (λk=>k∈O q):=λR=>{
  β:=λ_ _=>rfl
  ω:=λk e fz hω=>by
   obtain ⟨e',fz',h1,h2,h3,_⟩:=haft.grew k e fz hω;refine ⟨e',fz',h1,h2,h3,λhn=>?_⟩;have hk:=(hkept k (hL.dom k e fz hω) (λe0=>by subst e0;rw [hωb]at hω;cases hω) hn).2;rw [show X'.ω k=some (e',fz')from h1,hω]at hk;cases hk;exact ⟨rfl,rfl⟩
  cell:=λk e fz i v hω hi hv=>by
   obtain ⟨_,_,_,_,_,h4⟩:=haft.grew k e fz hω;exact h4 i v hi hv
  obj:=λk e fz c2 t2 hn hω hw=>by
   have hk:=(hkept k (hL.dom k e fz hω) (λe0=>by subst e0;rw [hωb]at hω;cases hω) hn).1;exact ⟨c2,by rw [hk];exact hw,rfl⟩}
 have hE0:Ext [] w' X' w' {β:=X.β,ω:=X'.ω} (λ_=>False) :=
  {β:=by simp,ω:=λk e fz hω=>⟨e,fz,hω,Nat.le_refl _,id,λ_=>⟨rfl,rfl⟩⟩,cell:=λ_ _ _ _ _ _ _ h=>h,obj:=λb e fz c t _ _ h=>⟨c,h,rfl⟩}
 have hbs:=qwn c' hq;have hsome:∀r,(qbc (qAH M q c') r).isSome=true->(qbc M r).isSome=true:=λr h1=>by
  rw [hbs]at h1;split at h1
  ·rename_i e;subst e;rw [hq];rfl
  ·exact h1
 obtain ⟨cs',t',hwb',hcs'⟩:=hbx'.cells hlp';have hO'ω:∀k∈O' ⟨0,0⟩,∃e,X'.ω k=some (e,false):=hLR.own ⟨0,0⟩;have hfar:∀k∈O' ⟨0,0⟩,∀r,r≠q->k∉O r:=λk hk r hne hkr=>by
  obtain ⟨e,he⟩:=hown r k hkr;rcases haft.own k (.inr ⟨_,hk⟩)with h1|h1
  ·have:=hL.dom k e _ he;omega
  ·rcases hMod k h1 with rfl|h1
   ·rw [hωb]at he;cases he
   ·exact hL.dis _ _ (λe=>hne e.symm) k h1 hkr
 refine ⟨{β:=X.β,ω:=X'.ω},λr=>if r=q then O' ⟨0,0⟩else O r,[],?_,?_,Lin.nil,by simp,by rw [hr];simp,by simp [qAH],?_,?_⟩
 ·exact Rep.ext hE0 _ _ _ (by rw [hr];simp) (by simp) hrep
 ·exact {
   box:=λr c2 hr2=>by
    rw [hbs]at hr2;by_cases e:r=q
    ·subst e;rw [if_pos rfl]at hr2;cases hr2;exact ⟨b',hβ,by have:=haft.size;omega,hωb',.inl ⟨cs',t',hwb',by rw [if_pos rfl];exact RepL.ext hE0 _ _ _ (by rw [hc'];simp) (by simp) hcs'⟩⟩
    ·rw [if_neg e]at hr2;obtain ⟨b2,k1,k2,k3,k4⟩:=hL.box r c2 hr2;have hne:b2≠b':=λe2=>e (hL.inj r q b2 (by rw [hr2];rfl) (by rw [hq];rfl) k1 (by rw [e2];exact hβ));have hnO:b2∉O q:=λhm=>by obtain ⟨e3,h3⟩:=hOqω b2 hm;rw [k3]at h3;cases h3
     obtain ⟨g1,g2⟩:=hkept b2 k2 hne hnO;refine ⟨b2,k1,by have:=haft.size;omega,by show X'.ω b2=none;rw [g2];exact k3,?_⟩;rw [if_neg e];exact qnE.qnD k4 g1 λl vals O3 _ hsub hl=>RepL.ext (hE (ptrsL l)) l vals O3 (λr hr=>hr) (λk hk=>λhkq=>hL.dis r q e k (hsub k hk) hkq) hl
   boxD:=λr hr2=>by
    rw [hbs]at hr2;split at hr2
    ·cases hr2
    ·rename_i e;simp only [if_neg e];exact hL.boxD r hr2
   inj:=λr r' b h1 h2 h3 h4=>hL.inj r r' b (hsome r h1) (hsome r' h2) h3 h4
   lin:=λr=>by
    by_cases e:r=q
    ·simp only [if_pos e];exact hLR.lin _
    ·simp only [if_neg e];exact hL.lin r
   dis:=λr r' hne k hk=>by
    by_cases e:r=q
    ·simp only [if_pos e]at hk;have e':r'≠q:=λe'=>hne (by rw [e,e']);simp only [if_neg e'];exact hfar k hk r' e'
    ·simp only [if_neg e]at hk;by_cases e':r'=q
     ·simp only [if_pos e'];exact λhk'=>hfar k hk' r e hk
     ·simp only [if_neg e'];exact hL.dis r r' hne k hk
   ptrB:=λr c2 hr2 r' hr'=>by
    rw [hbs]at hr2;by_cases e:r=q
    ·rw [if_pos e]at hr2;cases hr2;rw [hc']at hr';simp at hr'
    ·rw [if_neg e]at hr2;have:=hL.ptrB r c2 hr2 r' hr';rw [hbs];split
     ·rfl
     ·exact this
   up:=λr c2 hr2 r' hr'=>by
    rw [hbs]at hr2;by_cases e:r=q
    ·rw [if_pos e]at hr2;cases hr2;rw [hc']at hr';simp at hr'
    ·rw [if_neg e]at hr2;exact hL.up r c2 hr2 r' hr'
   dom:=hLR.dom}
 ·intro r;rw [hbs];split
  ·rename_i e;subst e;rw [hq,qi,qi,qq5 hlp,qq5 hlp']
  ·rfl
 ·exact {
   size:=haft.size
   kept:=λk hk hn=>hkept k hk (λe=>hn (.inl ⟨q,by rw [hq];rfl,by rw [e];exact hβ⟩)) (λhm=>hn (.inr ⟨q,hm⟩))
   grew:=haft.grew
   β:=λ_ _=>rfl
   own:=λk hk=>by
    rcases hk with hk|⟨r,hk⟩
    ·simp at hk
    ·by_cases e:r=q
     ·simp only [if_pos e]at hk;rcases haft.own k (.inr ⟨_,hk⟩)with h1|h1
      ·exact .inl h1
      ·rcases hMod k h1 with rfl|h1
       ·exact .inr (.inl ⟨q,by rw [hq];rfl,hβ⟩)
       ·exact .inr (.inr ⟨q,h1⟩)
     ·simp only [if_neg e]at hk;exact .inr (.inr ⟨r,hk⟩)
   os:=haft.os
   out:=haft.out
   tape:=haft.tape}
theorem qC6{g:FuncId}{run:List V->List Level->Option (V×List Level)}(hrun:∀args M r M',run args M=some (r,M')->qa4 P g args M r M'){args:List V}{M M':List Level}{r:V}
  (h:ioF run args M=some (r,M')):qa4 P g args M r M':=by
 unfold ioF at h;split at h
 rotate_left
 ·cases h
 rename_i q off rest;split at h
 rotate_left
 ·cases h
 rename_i hrest;split at h
 rotate_left
 ·cases h
 rename_i c hq;split at h
 rotate_left
 ·cases h
 rename_i hc;split at h
 rotate_left
 ·cases h
 rename_i r0 c' hr0;split at h
 rotate_left
 ·cases h
 rename_i hg;obtain ⟨rfl,rfl⟩:=Prod.mk.inj (Option.some.inj h);simp only [qe,Bool.not_eq_true',List.isEmpty_iff]at hrest hc hg;exact quY (hrun _ _ _ _ hr0) hrest hc.2 hc.1 hg.1.1.1 hg.1.1.2 hg.2 hg.1.2 hq
end
section
variable {P:Program} {H:Hints} {f:FuncId} {C:Orc} {w:World} {X:Cx}
theorem Rel.same{st:St}{tmps:Array Value}{O:Pl->List Nat}{w':World}(h:Rel st tmps w X O)(hsz:w'.heap.size=w.heap.size)
  (hω:∀k e fz,X.ω k=some (e,fz)->w'.heap[k]?=w.heap[k]?) (hb:∀k c A,qnE w X k c A->w'.heap[k]?=w.heap[k]?):Rel st tmps w' X O:=by
 have hext:∀R,Ext R w X w' X (λ_=>False):=λR=>{
  β:=λ_ _=>rfl
  ω:=λb e fz h=>⟨e,fz,h,Nat.le_refl _,id,λ_=>⟨rfl,rfl⟩⟩
  cell:=λb e fz i v h _ hc=>by rw [qD (hω b e fz h)];exact hc
  obj:=λb e fz c t _ h hc=>⟨c,by rw [hω b e fz h];exact hc,rfl⟩}
 exact {
  size:=h.size
  env:=λt x hx=>by
   obtain ⟨v,hv,hr⟩:=h.env t x hx;exact ⟨v,hv,Rep.ext (hext _) _ _ _ (λ_ h=>h) (by simp) hr⟩
  envD:=h.envD
  box:=λr c hr=>by
   obtain ⟨b,h1,h2,h3,h4⟩:=h.box r c hr;exact ⟨b,h1,by omega,h3,h4.qnD (hb b c _ h4) λl vals A _ _ hr=>RepL.ext (hext _) _ _ _ (λ_ h=>h) (by simp) hr⟩
  boxD:=h.boxD
  inj:=h.inj
  lin:=h.lin
  dis:=h.dis
  ptrE:=h.ptrE
  ptrB:=h.ptrB
  up:=h.up
  dom:=λb e fz hb=>by have:=h.dom b e fz hb;omega}
theorem qyh{α:Type}(c:α->Nat):∀l:List α,0<(l.map c).sum->∃x∈l,0<c x
 |[],h=>by simp at h
 |x::l,h=>by
  simp only [qh,List.sum_cons]at h;by_cases hx:0<c x
  ·exact ⟨x,by simp,hx⟩
  ·obtain ⟨y,hy,hc⟩:=qyh c l (by omega);exact ⟨y,by simp [hy],hc⟩
theorem qoG:∀n,RepL w X (List.replicate n .undef) (List.replicate n undef) []
 |0=>by simp [RepL]
 |n+1=>by
  simp only [List.replicate_succ,RepL];exact ⟨undef,_,[],[],rfl,rfl,by simp [Rep],qoG n⟩
theorem qox:∀n,ptrsL (List.replicate n .undef)=[]
 |0=>rfl
 |n+1=>by simp [List.replicate_succ,ptrsL,V.qp,qox n]
theorem qs8{fn:Func}{tmps:Array Value}{vals:List Value}(h:(fn.results.toList.mapM (qrK tmps)).run P w=.ok vals w) :
  (results fn tmps).run P w=.ok (if hs:vals.toArray.size=1 then vals.toArray[0]else .tuple vals.toArray) w:=by
 have e:results fn tmps=(fn.results.mapM (qrK tmps) >>= λvs=>pure (if h:vs.size=1 then vs[0]else .tuple vs)):=by
  unfold results;refine congrArg (λ(g:ResultVar->Sem Value)=>(fn.results.mapM g >>= λvs=>pure (if h:vs.size=1 then vs[0]else .tuple vs))) ?_;funext r;cases r<;>rfl
 rw [e,Array.mapM_eq_mapM_toList];simp [h]
theorem qnk(hC:OrcOk P C)(hm:P.follows .mixedOrders=true)(qce:qi4 P H){g:FuncId}{args:List V}{M:List Level}{R:World->Cx->(Root->List Nat)->Value->World->Prop}{fn:Func}{c:Code}{e:Ex}{st:St}{rs:List V}
  (hfn:P.funcs[g]?=some fn) (hbody:fn.body=some c) (hex:ex P H C g 0 c {E:=args++List.replicate (fn.ntmps-args.length) .undef,L:=M,B:=[]}=some (e,st)) (he:e=.normal\/e=.ret) (hrs:qfb (fn.results.toList.map (qc2 P st))=some rs)
  (hfin:∀(w:World) (X:Cx) (O:Root->List Nat) (w2:World) (X1:Cx) (O1:Pl->List Nat) (tmps:Array Value) (vs:List Value) (Or:List Nat),LRel M w X O->(M=[]->∀b e fz,X.ω b=some (e,fz)->fz=true)->Rel st tmps w2 X1 O1->Fr w X (Mod M X O) M.length st w2 X1 O1->RepL w2 X1 rs vs Or ->
   (∀b,Or.count b<=(fn.results.toList.map λrv=>(O1 (qqk (qM st rv))).count b).sum)->(∀q∈ptrsL rs,(st.box q).isSome=true)->R w X O (if hs:vs.toArray.size=1 then vs.toArray[0]else .tuple vs.toArray) w2) :
  ∀(w:World) (X:Cx) (vals:List Value) (O:Root->List Nat),RepL w X args vals []->qnG w X->LRel M w X O->(∀q∈ptrsL args,(qbc M q).isSome=true)->(M=[]->∀b e fz,X.ω b=some (e,fz)->fz=true) ->
  qqq (M=[]) P g vals.toArray w λv w'=>R w X O v w':=by
 intro w X vals O ha hgl hL hp hfz;left
 have hbs:fn.body.isNone=false:=by rw [hbody];rfl
 refine ⟨?_,?_⟩
 ·simp only [callFunc,Sem.run_bind,run_program,Result.andThen_ok,hfn,qce.1 g fn hfn (by rw [hbody];rfl),hbs,qf,if_false,Sem.run_pure]
 ·refine callsIn_wide.1 (callsIn_of_wp_marks (n:=0) hfn hbody trivial ?_);have hlen:=qE _ _ _ ha;have hE:RepL w X (args++List.replicate (fn.ntmps-args.length) .undef) (vals.toArray++Array.replicate (fn.ntmps-vals.toArray.size) undef).toList []:=by
   have:=qaK ha (qoG (w:=w) (X:=X) (fn.ntmps-args.length));simpa [hlen]using this
  obtain ⟨hR0,hF0⟩:=qrF hgl hL (tmps:=vals.toArray++Array.replicate (fn.ntmps-vals.toArray.size) undef) hE (λq hq=>by
   rw [qay,qox,List.append_nil]at hq;exact hp q hq)
  refine wpIn_mono (qyZ hC hm qce.2.1 c 0 _ e st hex Fence.wide w X _ _ {tmps:=_,defers:=[]} w ⟨.inl rfl,λh0=>hfz (List.eq_nil_of_length_eq_zero h0)⟩ ⟨X,_,hR0,hF0,[],rfl,.nil,by simp⟩).wp ?_;rintro e' a' w1 ⟨rfl,X1,O1,hR,hF,ks,hD,hnd,hks⟩;have hgoal:LeavesInM Fence.wide 0 P fn a'.tmps (λe w'=>∃v,e=.returned v/\R w X O v w') a'.defers .returning w1:=by
   rw [hD];refine qkY ks w1 hnd (λk hk=>(hks k hk).2.1) λw2 hsz hsame hos hout htape=>?_;have hωs:∀k e fz,X1.ω k=some (e,fz)->w2.heap[k]?=w1.heap[k]?:=λk e fz hω=>hsame k λhk=>by rw [(hks k hk).2.2]at hω;cases hω
   have hR2:Rel st a'.tmps w2 X1 O1:=hR.same hsz hωs λk c A hb=>hsame k λhk=>qt3 hb (hks k hk).2.1 rfl;have hF2:Fr w X (Mod M X O) M.length st w2 X1 O1:={
    size:=by have:=hF.size;omega
    kept:=λb hb hM=>by
     obtain ⟨h1,h2⟩:=hF.kept b hb hM;exact ⟨by rw [hsame b λhk=>by have:=(hks b hk).1;omega,h1],h2⟩
    grew:=λb e fz hω=>by
     obtain ⟨e1,fz1,h1,h2,h3,h4⟩:=hF.grew b e fz hω;exact ⟨e1,fz1,h1,h2,h3,λi v hi hc=>by rw [qD (hωs b e1 fz1 h1)];exact h4 i v hi hc⟩
    β:=hF.β
    own:=hF.own
    boxM:=hF.boxM
    lev:=hF.lev
    live:=hF.live
    os:=by rw [hos,hF.os]
    out:=by rw [hout,hF.out]
    tape:=by rw [htape,hF.tape]
    gl:=hF.gl
    gm:=hF.gm}
   obtain ⟨vs,Or,hrun,hrep,hcnt,hpl⟩:=qoH hR2 fn.results.toList rs hrs;exact ⟨_,qs8 hrun,_,rfl,hfin w X O w2 X1 O1 a'.tmps vs Or hL hfz hR2 hF2 hrep hcnt hpl⟩
  rcases he with rfl|rfl
  ·exact hgoal
  ·exact hgoal
theorem qx3(hC:OrcOk P C)(hm:P.follows .mixedOrders=true)(qce:qi4 P H){g:FuncId}{args:List V}{M M':List Level}{r:V}
  (hx:qzN P H C g args M=some (r,M')):qa4 P g args M r M':=by
 unfold qzN at hx;split at hx
 ·rename_i fn hfn;split at hx
  ·rename_i c hbody;split at hx
   ·rename_i e st hex;split at hx
    ·rename_i he;split at hx
     ·rename_i rs hrs;split at hx
      ·rename_i hchk;obtain ⟨rfl,rfl⟩:=Prod.mk.inj (Option.some.inj hx);simp only [qe]at hchk;obtain ⟨hptr,hkeys⟩:=hchk;simp only [qok,qe]at hkeys;obtain ⟨hdist,hklv⟩:=hkeys;refine qnk (R:=λw X O v w'=>qCX _ _ _ w X O v w') hC hm qce hfn hbody hex he hrs λw X O w2 X1 O1 tmps vs Or hL hfz hR2 hF2 hrep hcnt hpl=>?_;have hlin:Lin Or:=λb=>Nat.le_trans (hcnt b) (qoQ hR2.lin hR2.dis b _ hdist);have hwhere:∀b∈Or,∃p,b∈O1 p/\∀q:Root,q.lvl<M.length->p≠.box q:=λb hb=>by
        have h1:=List.count_pos_iff.2 hb;obtain ⟨rv,hrv,h2⟩:=qyh _ _ (Nat.lt_of_lt_of_le h1 (hcnt b));refine ⟨_,List.count_pos_iff.1 h2,λq hq e=>?_⟩;have h3:=List.all_eq_true.1 hklv (qM st rv) (List.mem_map.2 ⟨rv,hrv,rfl⟩);generalize hkey:qM st rv=key at e h3;obtain ⟨kb,kl,ks'⟩:=key;cases kb with
        |false=>simp [qqk]at e
        |true =>
         simp only [qqk,Pl.box.injEq]at e;simp only [Bool.not_true,Bool.false_or,decide_eq_true_eq]at h3;rw [<- e]at hq;simp only at hq;omega
       obtain ⟨hlr,hlen',hkind⟩:=qna hR2 hF2;have hplv:∀q∈ptrsL rs,(qbc st.L q).isSome=true:=λq hq=>by
        have h1:=List.all_eq_true.1 hptr q hq;rw [qde,if_pos (by rw [hlen'];simpa using h1)];exact hpl q hq
       by_cases hset:(M.isEmpty&&!ownsL rs)=true
       ·rw [if_pos hset];simp only [qe,Bool.not_eq_true']at hset;have hM:M=[]:=by simpa using hset.1
        have hOr:Or=[]:=repL_noowns rs vs Or hset.2 hrep;subst hOr;subst hM;have hL0:st.L=[]:=List.eq_nil_of_length_eq_zero (by rw [hlen'];rfl);have hnoM:∀b,¬ Mod [] X O b:=λb hb=>by
         rcases hb with ⟨q,h1,_⟩|⟨q,h1⟩
         ·simp [qbc]at h1
         ·rw [hL.boxD q (by simp [qbc])]at h1;simp at h1
        have hold:∀b,b<w.heap.size->X1.ω b=X.ω b:=λb hb=>(hF2.kept b hb (hnoM b)).2;let X2:Cx:={β:=X1.β,ω:=λb=>(X1.ω b).map λp=>(p.1,true)}
        have hX2:∀b e fz,X1.ω b=some (e,fz)->X2.ω b=some (e,true):=λb e fz h=>by simp [X2,h]
        have hX2o:∀b,b<w.heap.size->X2.ω b=X.ω b:=λb hb=>by
         show (X1.ω b).map _=_;rw [hold b hb];cases hω:X.ω b with
         |none=>rfl
         |some p=>obtain ⟨e,fz⟩:=p;have:=hfz rfl b e fz hω;subst this;rfl
        have hrep2:RepL w2 X2 (reflagL qhu rs) vs []:=RepL.flags' (X:=X1) (X':=X2) (S:=λ_=>False) {β:=rfl,own:=λf=>by cases f<;>simp [qhu],ω:=λb e fz h=>⟨true,hX2 b e fz h,λh=>h.elim⟩,sh:=λf b e fz h _ _ _=>hX2 b e fz h} _ _ _ (by simp) hrep;refine ⟨X2,λ_=>[],[],qhM hrep2,?_,Lin.nil,by simp,?_,hlen',hkind,?_⟩
        ·rw [hL0];exact {
             box:=λr c hc=>by simp [qbc]at hc,boxD:=λ_ _=>rfl,inj:=λr r' b h1=>by simp [qbc]at h1,lin:=λ_=>Lin.nil,dis:=λ_ _ _ _ h=>by simp at h,ptrB:=λr c hc=>by simp [qbc]at hc,up:=λr c hc=>by simp [qbc]at hc
             dom:=λb e fz hω=>by
              obtain ⟨p,hp,_⟩:=qc.1 hω;exact hR2.dom b p.1 p.2 hp}
        ·intro q hq;have:q∈ptrsL rs:=by
          have hpk:∀l:List V,q∈(packed l).qp->q∈ptrsL l:=λl hq=>by
           match l,hq with
           |[],hq=>simpa [packed,V.qp]using hq
           |[x],hq=>simpa [packed,ptrsL]using hq
           |x::y::l,hq=>simpa only [packed,V.qp]using hq
          have:=hpk _ hq;rw [ptrsL_reflag]at this;exact this
         exact hplv q this
        ·exact {
          size:=hF2.size
          kept:=λb hb hM=>⟨(hF2.kept b hb hM).1,hX2o b hb⟩
          grew:=λb e fz hω=>by
           have hb:=hL.dom b e fz hω;exact ⟨e,fz,by rw [hX2o b hb];exact hω,Nat.le_refl _,id,λi v hi hc=>by rw [qD (hF2.kept b hb (hnoM b)).1];exact hc⟩
          β:=hF2.β
          own:=λb hb=>by
           rcases hb with hb|⟨q,hb⟩<;>simp at hb
          os:=hF2.os
          out:=hF2.out
          tape:=hF2.tape}
       ·rw [if_neg hset];refine ⟨X1,qid M.length O1,Or,qhM hrep,hlr,hlin,λq b hb hbq=>?_,λq hq=>?_,hlen',hkind,qAt hF2 λb hb=>?_⟩
        ·obtain ⟨p,h1,h2⟩:=hwhere b hb;unfold qid at hbq;split at hbq
         ·rename_i hq;exact hR2.dis p (.box q) (h2 q hq) b h1 hbq
         ·simp at hbq
        ·have hpk:∀l:List V,q∈(packed l).qp->q∈ptrsL l:=λl hq=>by
          match l,hq with
          |[],hq=>simpa [packed,V.qp]using hq
          |[x],hq=>simpa [packed,ptrsL]using hq
          |x::y::l,hq=>simpa only [packed,V.qp]using hq
         exact hplv q (hpk _ hq)
        ·rcases hb with hb|⟨q,hb⟩
         ·obtain ⟨p,h1,_⟩:=hwhere b hb;exact ⟨p,h1⟩
         ·exact ⟨.box q,qor hb⟩
      ·split at hx
       ·rename_i hchk;simp only [qe,List.isEmpty_iff]at hchk;obtain ⟨hM,_⟩:=hchk;split at hx
        ·rename_i xs hxs;split at hx
         ·rename_i hxp;obtain ⟨rfl,rfl⟩:=Prod.mk.inj (Option.some.inj hx);refine qnk (R:=λw X O v w'=>qCX _ _ _ w X O v w') hC hm qce hfn hbody hex he hrs λw X O w2 X1 O1 tmps vs Or hL hfz hR2 hF2 hrep hcnt hpl=>?_;subst hM;obtain ⟨hlr,hlen',hkind⟩:=qna hR2 hF2;have hL0:st.L=[]:=List.eq_nil_of_length_eq_zero (by rw [hlen'];rfl);have hnoM:∀b,¬ Mod [] X O b:=λb hb=>by
           rcases hb with ⟨q,h1,_⟩|⟨q,h1⟩
           ·simp [qbc]at h1
           ·rw [hL.boxD q (by simp [qbc])]at h1;simp at h1
          have hold:∀b,b<w.heap.size->X1.ω b=X.ω b:=λb hb=>(hF2.kept b hb (hnoM b)).2;let X2:Cx:={β:=X1.β,ω:=λb=>match X1.ω b with
           |some p=>some (p.1,true)
           |none=>if w.heap.size<=b then (match w2.heap[b]? with
            |some (.cells arr _ _)=>some (arr.size,true)
            |_=>none)else none}
          have hX2:∀b e fz,X1.ω b=some (e,fz)->X2.ω b=some (e,true):=λb e fz h=>by simp [X2,h]
          have hX2o:∀b,b<w.heap.size->X2.ω b=X.ω b:=λb hb=>by
           show (match X1.ω b with
            |some p=>some (p.1,true)
            |none=>if w.heap.size<=b then (match w2.heap[b]? with
             |some (.cells arr _ _)=>some (arr.size,true)
             |_=>none)else none)=_
           rw [hold b hb];cases hω:X.ω b with
           |none=>simp only;rw [if_neg (by omega)]
           |some p=>obtain ⟨e,fz⟩:=p;have:=hfz rfl b e fz hω;subst this;rfl
          have hfl:Flags qJ X1 X2 (λ_=>True) true :=
           {β:=rfl,own:=λf=>by simp [qJ],dul:=λ_ _=>rfl,ω:=λ_ b e fz h=>⟨true,hX2 b e fz h⟩,sh:=λf b e fz h _ _ _ _=>hX2 b e fz h}
          have hrep2:RepL w2 X2 xs vs []:=peekL_okX (Ob:=λq=>O1 (.box q)) hfl (λq c hq=>by
           obtain ⟨b,h1,h2,h3,h4⟩:=hR2.box q c hq;refine ⟨b,h1,h2,h3,h4,λarr t m h5=>?_⟩;have hge:w.heap.size<=b:=by
            rcases hF2.boxM q b (by rw [hq];rfl) h1 with h6|h6
            ·exact h6
            ·exact absurd h6 (hnoM b)
           show (match X1.ω b with
            |some p=>some (p.1,true)
            |none=>if w.heap.size<=b then (match w2.heap[b]? with
             |some (.cells arr _ _)=>some (arr.size,true)
             |_=>none)else none)=_
           rw [h3];simp only
           rw [if_pos hge,h5]) _ _ _ _ hxs hrep
          refine ⟨X2,λ_=>[],[],qhM hrep2,?_,Lin.nil,by simp,?_,hlen',hkind,?_⟩
          ·rw [hL0];exact {
               box:=λr c hc=>by simp [qbc]at hc,boxD:=λ_ _=>rfl,inj:=λr r' b h1=>by simp [qbc]at h1,lin:=λ_=>Lin.nil,dis:=λ_ _ _ _ h=>by simp at h,ptrB:=λr c hc=>by simp [qbc]at hc,up:=λr c hc=>by simp [qbc]at hc
               dom:=λb e fz hω=>by
                cases h1:X1.ω b with
                |some p=>exact hR2.dom b p.1 p.2 h1
                |none =>
                 have h2:(if w.heap.size<=b then (match w2.heap[b]? with
                  |some (.cells arr _ _)=>some (arr.size,true)
                  |_=>none)else none)=some (e,fz):=by
                  have h3:X2.ω b=some (e,fz):=hω;simpa [X2,h1]using h3
                 split at h2
                 ·split at h2
                  ·rename_i h9;exact (Array.getElem?_eq_some_iff.1 h9).1
                  ·cases h2
                 ·cases h2}
          ·intro q hq;exfalso
           have hpk:∀l:List V,q∈(packed l).qp->q∈ptrsL l:=λl hq=>by
            match l,hq with
            |[],hq=>simpa [packed,V.qp]using hq
            |[x],hq=>simpa [packed,ptrsL]using hq
            |x::y::l,hq=>simpa only [packed,V.qp]using hq
           have:=hpk _ hq;rw [List.isEmpty_iff]at hxp;rw [hxp]at this;cases this
          ·exact {
            size:=hF2.size
            kept:=λb hb hM=>⟨(hF2.kept b hb hM).1,hX2o b hb⟩
            grew:=λb e fz hω=>by
             have hb:=hL.dom b e fz hω;exact ⟨e,fz,by rw [hX2o b hb];exact hω,Nat.le_refl _,id,λi v hi hc=>by rw [qD (hF2.kept b hb (hnoM b)).1];exact hc⟩
            β:=hF2.β
            own:=λb hb=>by
             rcases hb with hb|⟨q,hb⟩<;>simp at hb
            os:=hF2.os
            out:=hF2.out
            tape:=hF2.tape}
         ·cases hx
        ·cases hx
       ·cases hx
     ·cases hx
    ·cases hx
   ·cases hx
  ·cases hx
 ·cases hx
theorem qyO(hC:OrcOk P C)(hm:P.follows .mixedOrders=true)(qce:qi4 P H){g:FuncId}{args:List V}{r:V}{s:Nat}{es:List (Value×Value)}
  (hx:qwj P H C g args=some (r,s,es)):qvW P g args r s es:=by
 unfold qwj at hx;split at hx
 ·rename_i fn hfn;split at hx
  ·rename_i c hbody;split at hx
   ·rename_i e st hex;split at hx
    ·rename_i he;split at hx
     ·rename_i rs hrs;split at hx
      ·rename_i xs hxs;split at hx
       ·rename_i r0 hptr;split at hx
        ·rename_i hl0;split at hx
         ·rename_i es0 hbx;split at hx
          ·rename_i hom;simp only [qb,Prod.mk.injEq]at hx;obtain ⟨rfl,rfl,rfl⟩:=hx;have hpk:∀(l:List V) (q:Root),q∈(packed l).qp->q∈ptrsL l:=λl q hq=>by
            match l,hq with
            |[],hq=>simpa [packed,V.qp]using hq
            |[x],hq=>simpa [packed,ptrsL]using hq
            |x::y::l,hq=>simpa only [packed,V.qp]using hq
           have hpo:∀l:List V,onlyMapsL l=true->(packed l).onlyMaps=true:=λl hl=>by
            match l,hl with
            |[],hl=>rfl
            |[x],hl=>simpa [packed,onlyMapsL]using hl
            |x::y::l,hl=>simpa only [packed,V.onlyMaps]using hl
           have hr0:r0=⟨0,r0.slot⟩:=by cases r0;simp only at hl0;subst hl0;rfl
           refine ⟨hpo _ hom,λk hk=>?_,λw X vals ha hgl hd hp hfz=>?_⟩
           ·have h1:=hpk _ _ hk;rw [hptr,List.mem_singleton]at h1;rw [h1];exact hr0
           ·have hL:LRel [] w X (λ_=>[]) :=
             {box:=λr c hc=>by simp [qbc]at hc,boxD:=λ_ _=>rfl,inj:=λr r' b h1=>by simp [qbc]at h1,lin:=λ_=>Lin.nil,dis:=λ_ _ _ _ h=>by simp at h,ptrB:=λr c hc=>by simp [qbc]at hc,up:=λr c hc=>by simp [qbc]at hc,dom:=hd}
            refine (qnk (M:=[]) (R:=λw X O v w'=>(∀r,O r=[])->∃X' b ents ck,Rep w' X' (packed xs) v []/\Dom w' X'/\X'.β ⟨0,r0.slot⟩=some b/\w.heap.size<=b/\b<w'.heap.size/\X'.ω b=none/\w'.heap[b]?=some (.map ents ck)/\ents.toList.map kv=es0 /\
             Aft w X (Mod [] X (λ_=>[])) 0 w' X' (λ_=>False)) hC hm qce hfn hbody hex he hrs ?_ w X vals (λ_=>[]) ha hgl hL (by rw [hp];simp) (λ_=>hfz)).mono (λ_=>trivial) (λv w' h=>h λ_=>rfl)
            clear hL ha hgl hd hp hfz;intro w X O w2 X1 O1 tmps vs Or hL hfz hR2 hF2 hrep hcnt hpl hO;have hnoM:∀b,¬ Mod [] X O b:=λb hb=>by
             rcases hb with ⟨q,h1,_⟩|⟨q,h1⟩
             ·simp [qbc]at h1
             ·rw [hL.boxD q (by simp [qbc])]at h1;simp at h1
            have hold:∀b,b<w.heap.size->X1.ω b=X.ω b:=λb hb=>(hF2.kept b hb (hnoM b)).2;let X2:Cx:={β:=X1.β,ω:=λb=>match X1.ω b with
             |some p=>some (p.1,true)
             |none=>if w.heap.size<=b then (match w2.heap[b]? with
              |some (.cells arr _ _)=>some (arr.size,true)
              |_=>none)else none}
            have hX2:∀b e fz,X1.ω b=some (e,fz)->X2.ω b=some (e,true):=λb e fz h=>by simp [X2,h]
            have hX2o:∀b,b<w.heap.size->X2.ω b=X.ω b:=λb hb=>by
             show (match X1.ω b with
              |some p=>some (p.1,true)
              |none=>if w.heap.size<=b then (match w2.heap[b]? with
               |some (.cells arr _ _)=>some (arr.size,true)
               |_=>none)else none)=_
             rw [hold b hb];cases hω:X.ω b with
             |none=>simp only;rw [if_neg (by omega)]
             |some p=>obtain ⟨e,fz⟩:=p;have:=hfz rfl b e fz hω;subst this;rfl
            have hfl:Flags qJ X1 X2 (λ_=>True) true :=
             {β:=rfl,own:=λf=>by simp [qJ],dul:=λ_ _=>rfl,ω:=λ_ b e fz h=>⟨true,hX2 b e fz h⟩,sh:=λf b e fz h _ _ _ _=>hX2 b e fz h}
            have hrep2:RepL w2 X2 xs vs []:=peekL_okX (Ob:=λq=>O1 (.box q)) hfl (λq c hq=>by
             obtain ⟨b,h1,h2,h3,h4⟩:=hR2.box q c hq;refine ⟨b,h1,h2,h3,h4,λarr t m h5=>?_⟩;have hge:w.heap.size<=b:=by
              rcases hF2.boxM q b (by rw [hq];rfl) h1 with h6|h6
              ·exact h6
              ·exact absurd h6 (hnoM b)
             show (match X1.ω b with
              |some p=>some (p.1,true)
              |none=>if w.heap.size<=b then (match w2.heap[b]? with
               |some (.cells arr _ _)=>some (arr.size,true)
               |_=>none)else none)=_
             rw [h3];simp only
             rw [if_pos hge,h5]) _ _ _ _ hxs hrep
            obtain ⟨b,hβ,hlt,hω,hbxr⟩:=hR2.box r0 _ hbx;obtain ⟨ents,ck,hw,hes,_⟩:=hbxr.map;have hge:w.heap.size<=b:=by
             rcases hF2.boxM r0 b (by rw [hbx];rfl) hβ with h6|h6
             ·exact h6
             ·exact absurd h6 (hnoM b)
            refine ⟨X2,b,ents,ck,qhM hrep2,λb e fz hω=>?_,by rw [<- hr0];exact hβ,hge,hlt,by simp [X2,hω,hw],hw,hes,?_⟩
            ·cases h1:X1.ω b with
             |some p=>exact hR2.dom b p.1 p.2 h1
             |none =>
              have h2:(if w.heap.size<=b then (match w2.heap[b]? with
               |some (.cells arr _ _)=>some (arr.size,true)
               |_=>none)else none)=some (e,fz):=by
               have h3:X2.ω b=some (e,fz):=hω;simpa [X2,h1]using h3
              split at h2
              ·split at h2
               ·rename_i h9;exact (Array.getElem?_eq_some_iff.1 h9).1
               ·cases h2
              ·cases h2
            ·exact {
              size:=hF2.size
              kept:=λb hb hM=>⟨(hF2.kept b hb (hnoM b)).1,hX2o b hb⟩
              grew:=λb e fz hω=>by
               have hb:=hL.dom b e fz hω;exact ⟨e,fz,by rw [hX2o b hb];exact hω,Nat.le_refl _,id,λi v hi hc=>by rw [qD (hF2.kept b hb (hnoM b)).1];exact hc⟩
              β:=λr hr=>hF2.β r hr
              own:=λb hb=>hb.elim
              os:=hF2.os
              out:=hF2.out
              tape:=hF2.tape}
          ·cases hx
         ·cases hx
        ·cases hx
       ·cases hx
      ·cases hx
     ·cases hx
    ·cases hx
   ·cases hx
  ·cases hx
 ·cases hx
theorem qph{v:V}(h:v≠.val (.slice none 0 0)):v.qcS=v:=by
 unfold V.qcS;split
 ·exact absurd rfl h
 ·rfl
theorem qxV{w:World}{X:Cx}{x:V}{v:Value}{O:List Nat}(h:Rep w X x v O):Rep w X x.qcS v O/\x.qcS.qp=x.qp:=by
 by_cases hx:x=.val (.slice none 0 0)
 ·subst hx;simp only [Rep]at h;obtain ⟨rfl,rfl⟩:=h;exact ⟨by simp [V.qcS,Rep,ptrsL],by simp [V.qcS,V.qp,ptrsL]⟩
 ·rw [qph hx];exact ⟨h,rfl⟩
theorem qoE{w:World}{X:Cx}:∀{l:List V} {vals:List Value} {O:List Nat},RepL w X l vals O->RepL w X (l.map V.qcS) vals O/\ptrsL (l.map V.qcS)=ptrsL l
 |[],_,_,h=>⟨h,rfl⟩
 |x::l,vals,O,h=>by
  simp only [RepL]at h;obtain ⟨u,vs,O1,O2,rfl,rfl,h1,h2⟩:=h;obtain ⟨a1,a2⟩:=qxV h1;obtain ⟨b1,b2⟩:=qoE h2;exact ⟨by simp only [qh,RepL];exact ⟨u,vs,O1,O2,rfl,rfl,a1,b1⟩,by simp only [qh,ptrsL,a2,b2]⟩
theorem quI{g:FuncId}{args:List V}{M M':List Level}{r:V}(h:qa4 P g (dnA H g args) M r M'):qa4 P g args M r M':=by
 unfold dnA at h;cases hd:H.qcS g with
 |false=>rw [hd]at h;exact h
 |true =>
  rw [hd]at h;intro w X vals O ha hgl hL hp hfz;obtain ⟨h1,h2⟩:=qoE ha;exact h w X vals O h1 hgl hL (λq hq=>hp q (by rw [<- h2];exact hq)) hfz
theorem ql3{v:V}(h:v≠.val (.slice none 0 0)):v.qbj=v:=by
 unfold V.qbj;split
 ·exact absurd rfl h
 ·rfl
theorem qvw{w:World}{X:Cx}{x:V}{v:Value}{O:List Nat}(h:Rep w X x v O):Rep w X x.qbj v O/\x.qbj.qp=x.qp:=by
 by_cases hx:x=.val (.slice none 0 0)
 ·subst hx;simp only [Rep]at h;obtain ⟨rfl,rfl⟩:=h;exact ⟨by simp [V.qbj,Rep,ptrsL],by simp [V.qbj,V.qp,ptrsL]⟩
 ·rw [ql3 hx];exact ⟨h,rfl⟩
theorem qnc{w:World}{X:Cx}:∀{l:List V} {vals:List Value} {O:List Nat},RepL w X l vals O->RepL w X (l.map V.qbj) vals O/\ptrsL (l.map V.qbj)=ptrsL l
 |[],_,_,h=>⟨h,rfl⟩
 |x::l,vals,O,h=>by
  simp only [RepL]at h;obtain ⟨u,vs,O1,O2,rfl,rfl,h1,h2⟩:=h;obtain ⟨a1,a2⟩:=qvw h1;obtain ⟨b1,b2⟩:=qnc h2;exact ⟨by simp only [qh,RepL];exact ⟨u,vs,O1,O2,rfl,rfl,a1,b1⟩,by simp only [qh,ptrsL,a2,b2]⟩
theorem qsj{g:FuncId}{args:List V}{M M':List Level}{r:V}(h:qa4 P g (args.map V.qbj) M r M'):qa4 P g args M r M':=by
 intro w X vals O ha hgl hL hp hfz;obtain ⟨h1,h2⟩:=qnc ha;exact h w X vals O h1 hgl hL (λq hq=>hp q (by rw [<- h2];exact hq)) hfz
mutual
theorem rep_denilD{w:World}{X:Cx}:∀(x:V) (v:Value) (O:List Nat),Rep w X x v O->Rep w X x.denilD v O/\x.denilD.qp=x.qp
 |.agg l,v,O,h=>by
  simp only [Rep]at h;obtain ⟨vals,rfl,h⟩:=h;obtain ⟨h1,h2⟩:=repL_denilD l vals O h;exact ⟨by simp only [V.denilD,Rep];exact ⟨vals,rfl,h1⟩,by simp only [V.denilD,V.qp,h2]⟩
 |.tuple l,v,O,h=>by
  simp only [Rep]at h;obtain ⟨vals,rfl,h⟩:=h;obtain ⟨h1,h2⟩:=repL_denilD l vals O h;exact ⟨by simp only [V.denilD,Rep];exact ⟨vals,rfl,h1⟩,by simp only [V.denilD,V.qp,h2]⟩
 |.val u,v,O,h=>by
  by_cases hu:u=.slice none 0 0
  ·subst hu;simp only [Rep]at h;obtain ⟨rfl,rfl⟩:=h;exact ⟨by simp [V.denilD,Rep,ptrsL],by simp [V.denilD,V.qp,ptrsL]⟩
  ·have e:(V.val u).denilD=.val u:=by
    unfold V.denilD;split<;>first|rfl|(rename_i e;cases e;exact absurd rfl hu)|(rename_i e;cases e)
   rw [e];exact ⟨h,rfl⟩
 |.undef,v,O,h=>⟨h,rfl⟩
 |.ptr ..,v,O,h=>⟨h,rfl⟩
 |.cptr ..,v,O,h=>⟨h,rfl⟩
 |.sl ..,v,O,h=>⟨h,rfl⟩
 |.room ..,v,O,h=>⟨h,rfl⟩
 |.fn ..,v,O,h=>⟨h,rfl⟩
 |.yld _,v,O,h=>⟨h,rfl⟩
 |.iface ..,v,O,h=>⟨h,rfl⟩
 |.mref _,v,O,h=>⟨h,rfl⟩
 |.bsl ..,v,O,h=>⟨h,rfl⟩
 |.mp _,v,O,h=>⟨h,rfl⟩
 |.lp ..,v,O,h=>⟨h,rfl⟩
theorem repL_denilD{w:World}{X:Cx}:∀(l:List V) (vals:List Value) (O:List Nat),RepL w X l vals O->RepL w X (denilDL l) vals O/\ptrsL (denilDL l)=ptrsL l
 |[],_,_,h=>⟨h,rfl⟩
 |x::l,vals,O,h=>by
  simp only [RepL]at h;obtain ⟨u,vs,O1,O2,rfl,rfl,h1,h2⟩:=h;obtain ⟨a1,a2⟩:=rep_denilD x u O1 h1;obtain ⟨b1,b2⟩:=repL_denilD l vs O2 h2;exact ⟨by simp only [denilDL,RepL];exact ⟨u,vs,O1,O2,rfl,rfl,a1,b1⟩,by simp only [denilDL,ptrsL,a2,b2]⟩
end
theorem qyT{g:FuncId}{args:List V}{M M':List Level}{r:V}(h:qa4 P g args M r M'):qa4 P g args M (dnR H g r) M':=by
 unfold dnR;cases H.denr g with
 |false=>exact h
 |true =>
  intro w X vals O ha hgl hL hp hfz;refine (h w X vals O ha hgl hL hp hfz).mono id ?_;rintro v w' ⟨X',O',Or,hrep,h2,h3,h4,h5,h6⟩;obtain ⟨g1,g2⟩:=rep_denilD r v Or hrep;exact ⟨X',O',Or,g1,h2,h3,h4,by simp only [cond_true,g2];exact h5,h6⟩
theorem qsT(hm:P.follows .mixedOrders=true)(qce:qi4 P H){lib:FuncId->Option (List V->Option V)}
  (hlib:∀g h args r,lib g=some h->h args=some r->qa4 P g args [] r []):∀n,OrcOk P (qnS P H lib n)
 |0=>⟨λ_ _ _ _ _ h=>by simp [qnS]at h,λ_ _ _ _ _ _ h=>by simp [qnS]at h,λ_ _ _ _ _ h=>by simp [qnS]at h,λ_ _ h=>by simp [qnS]at h⟩
 |n+1=>by
  have ih:=qsT hm qce hlib n;refine ⟨λg args M r M' h=>?_,λf bid c st e st' h=>qyZ ih hm qce.2.1 c bid st e st' h,λg args r s es h=>qyO ih hm qce h,λg c h=>qce.2.2 g c h⟩;simp only [qnS]at h;split at h
  ·rename_i h0 hl;split at h
   ·rename_i hM;obtain ⟨v,h1,h2⟩:=qc.1 h;obtain ⟨rfl,rfl⟩:=Prod.mk.inj h2;have:M=[]:=by simpa using hM
    subst this;exact hlib g h0 args v hl h1
   ·cases h
  ·split at h
   ·exact qC6 (λargs M r M' h=>qsj (qx3 ih hm qce h)) h
   ·obtain ⟨⟨r0,M0⟩,h1,h2⟩:=qc.1 h;obtain ⟨rfl,rfl⟩:=Prod.mk.inj h2;exact qyT (quI (qx3 ih hm qce h1))
end
end Go.Ab
end
section
namespace Go.Tx
section
structure Mask where
 bits:Nat
 deriving DecidableEq
def Mask.has(m:Mask)(t:Nat):Bool:=Nat.testBit m.bits t
instance:Membership Nat Mask:=⟨λm t=>m.has t=true⟩
instance (t:Nat) (m:Mask):Decidable (t∈m):=inferInstanceAs (Decidable (m.has t=true))
def Mask.empty:Mask:=⟨0⟩
def Mask.ins(t:Nat)(m:Mask):Mask:=⟨Nat.lor m.bits (Nat.shiftLeft 1 t)⟩
def Mask.union(a b:Mask):Mask:=⟨Nat.lor a.bits b.bits⟩
instance:Append Mask:=⟨Mask.union⟩
def Mask.sub(a b:Mask):Bool:=Nat.beq (Nat.lor a.bits b.bits) b.bits
def Mask.ofList(l:List Nat):Mask:=l.foldr Mask.ins .empty
theorem Mask.mem_iff{m:Mask}{t:Nat}:t∈m↔m.has t=true:=Iff.rfl
@[simp] theorem Mask.mem_empty {t:Nat}:¬ t∈Mask.empty:=by
 rw [Mask.mem_iff];unfold Mask.has Mask.empty;simp
@[simp] theorem Mask.mem_ins {m:Mask} {t u:Nat}:u∈Mask.ins t m↔u=t\/u∈m:=by
 rw [Mask.mem_iff,Mask.mem_iff];unfold Mask.has Mask.ins;have e:Nat.lor m.bits (Nat.shiftLeft 1 t)=m.bits ||| (1 <<< t):=rfl
 simp only [e,Nat.testBit_or,Bool.or_eq_true,Nat.one_shiftLeft,Nat.testBit_two_pow,decide_eq_true_eq];constructor
 ·rintro (h|h)
  ·exact .inr h
  ·exact .inl h.symm
 ·rintro (h|h)
  ·exact .inr h.symm
  ·exact .inl h
@[simp] theorem Mask.mem_append {a b:Mask} {t:Nat}:t∈a++b↔t∈a\/t∈b:=by
 show t∈Mask.union a b↔_;rw [Mask.mem_iff,Mask.mem_iff,Mask.mem_iff];unfold Mask.has Mask.union;have e:Nat.lor a.bits b.bits=a.bits ||| b.bits:=rfl
 simp only [e,Nat.testBit_or,Bool.or_eq_true]
@[simp] theorem Mask.mem_ofList {l:List Nat} {t:Nat}:t∈Mask.ofList l↔t∈l:=by
 induction l with
 |nil=>simp [Mask.ofList]
 |cons a l ih =>
  have:Mask.ofList (a::l)=Mask.ins a (Mask.ofList l):=rfl;rw [this,Mask.mem_ins,ih];simp
theorem Mask.qyg{a b:Mask}(h:a.sub b=true){t:Nat}(ht:t∈a):t∈b:=by
 unfold Mask.sub at h;have h1:=Nat.eq_of_beq_eq_true h;rw [Mask.mem_iff]at ht ⊢;unfold Mask.has at ht ⊢;rw [<- h1];have e:Nat.lor a.bits b.bits=a.bits ||| b.bits:=rfl
 rw [e,Nat.testBit_or,ht];rfl
theorem Mask.qCE{a b:Mask}(h:∀t,t∈a->t∈b):a.sub b=true:=by
 unfold Mask.sub;have:Nat.lor a.bits b.bits=b.bits:=by
  apply Nat.eq_of_testBit_eq;intro i;have e:Nat.lor a.bits b.bits=a.bits ||| b.bits:=rfl
  rw [e,Nat.testBit_or];have h1:=h i;rw [Mask.mem_iff,Mask.mem_iff]at h1;unfold Mask.has at h1;cases ha:a.bits.testBit i with
  |false=>rfl
  |true=>rw [h1 ha];rfl
 rw [this];exact Nat.beq_refl _
inductive Tr (α:Type) where
 |nil
 |node (v:α) (l r:Tr α)
section
variable {α:Type} (d:α)
noncomputable def Tr.get(t:Tr α):Nat->α :=
 Tr.rec (motive:=λ_=>Nat->α) (λ_=>d) (λv l r gl gr i=>Bool.rec (motive:=λ_=>α) (Bool.rec (motive:=λ_=>α) (gr (Nat.pred (Nat.div i 2))) (gl (Nat.div i 2)) (Nat.beq (Nat.mod i 2) 1)) v (Nat.beq i 0)) t
noncomputable def Tr.one(k:Nat):Nat->α->Tr α :=
 Nat.rec (motive:=λ_=>Nat->α->Tr α) (λ_ _=>.nil) (λ_ g i v=>Bool.rec (motive:=λ_=>Tr α) (Bool.rec (motive:=λ_=>Tr α) (.node d .nil (g (Nat.pred (Nat.div i 2)) v)) (.node d (g (Nat.div i 2) v) .nil) (Nat.beq (Nat.mod i 2) 1)) (.node v .nil .nil) (Nat.beq i 0)) k
noncomputable def Tr.set(t:Tr α):Nat->α->Tr α :=
 Tr.rec (motive:=λ_=>Nat->α->Tr α) (λi v=>Tr.one d (Nat.succ i) i v) (λu l r gl gr i v=>Bool.rec (motive:=λ_=>Tr α) (Bool.rec (motive:=λ_=>Tr α) (.node u l (gr (Nat.pred (Nat.div i 2)) v)) (.node u (gl (Nat.div i 2) v) r) (Nat.beq (Nat.mod i 2) 1)) (.node v l r) (Nat.beq i 0)) t
theorem Tr.get_nil(i:Nat):(Tr.nil:Tr α).get d i=d:=rfl
theorem qwp{β:Type}(a b:β)(c:Bool):Bool.rec (motive:=λ_=>β) b a c=if c=true then a else b:=by cases c<;>rfl
theorem Tr.qbZ(v:α)(l r:Tr α)(i:Nat):(Tr.node v l r).get d i=if i=0 then v else if i % 2=1 then l.get d (i / 2)else r.get d (i / 2-1):=by
 have e:(Tr.node v l r).get d i=Bool.rec (motive:=λ_=>α) (Bool.rec (motive:=λ_=>α) (r.get d (Nat.pred (Nat.div i 2))) (l.get d (Nat.div i 2)) (Nat.beq (Nat.mod i 2) 1)) v (Nat.beq i 0):=rfl;rw [e,qwp,qwp];simp only [Nat.beq_eq];rfl
theorem Tr.qzt(k i:Nat)(v:α):Tr.one d (k+1) i v=if i=0 then .node v .nil .nil else if i % 2=1 then .node d (Tr.one d k (i / 2) v) .nil else .node d .nil (Tr.one d k (i / 2-1) v):=by
 have e:Tr.one d (k+1) i v=Bool.rec (motive:=λ_=>Tr α) (Bool.rec (motive:=λ_=>Tr α) (.node d .nil (Tr.one d k (Nat.pred (Nat.div i 2)) v)) (.node d (Tr.one d k (Nat.div i 2) v) .nil) (Nat.beq (Nat.mod i 2) 1)) (.node v .nil .nil) (Nat.beq i 0):=rfl;rw [e,qwp,qwp];simp only [Nat.beq_eq];rfl
theorem Tr.set_nil(i:Nat)(v:α):(Tr.nil:Tr α).set d i v=Tr.one d (i+1) i v:=rfl
theorem Tr.qzS(u:α)(l r:Tr α)(i:Nat)(v:α):(Tr.node u l r).set d i v=if i=0 then .node v l r else if i % 2=1 then .node u (l.set d (i / 2) v) r else .node u l (r.set d (i / 2-1) v):=by
 have e:(Tr.node u l r).set d i v=Bool.rec (motive:=λ_=>Tr α) (Bool.rec (motive:=λ_=>Tr α) (.node u l (r.set d (Nat.pred (Nat.div i 2)) v)) (.node u (l.set d (Nat.div i 2) v) r) (Nat.beq (Nat.mod i 2) 1)) (.node v l r) (Nat.beq i 0):=rfl;rw [e,qwp,qwp];simp only [Nat.beq_eq];rfl
theorem half(i j:Nat):(i % 2=1->j % 2=1->(i=j↔i / 2=j / 2))/\(i≠0->j≠0->i % 2≠1->j % 2≠1->(i=j↔i / 2-1=j / 2-1)):=by
 constructor<;>intros<;>omega
theorem Tr.qsy:∀(k i:Nat) (v:α) (j:Nat),i<k->(Tr.one d k i v).get d j=if i=j then v else d
 |0,i,v,j,h=>by omega
 |k+1,i,v,j,h=>by
  rw [Tr.qzt];obtain ⟨h1,h2⟩:=half i j;by_cases i0:i=0
  ·rw [if_pos i0,Tr.qbZ];by_cases j0:j=0
   ·rw [if_pos j0,if_pos (show i=j by omega)]
   ·rw [if_neg j0,if_neg (show ¬ i=j by omega)];by_cases jo:j % 2=1
    ·rw [if_pos jo];rfl
    ·rw [if_neg jo];rfl
  ·rw [if_neg i0];by_cases io:i % 2=1
   ·rw [if_pos io,Tr.qbZ];by_cases j0:j=0
    ·rw [if_pos j0,if_neg (show ¬ i=j by omega)]
    ·rw [if_neg j0];by_cases jo:j % 2=1
     ·rw [if_pos jo,Tr.qsy k _ v _ (by omega)];simp only [h1 io jo]
     ·rw [if_neg jo,if_neg (show ¬ i=j by omega)];rfl
   ·rw [if_neg io,Tr.qbZ];by_cases j0:j=0
    ·rw [if_pos j0,if_neg (show ¬ i=j by omega)]
    ·rw [if_neg j0];by_cases jo:j % 2=1
     ·rw [if_pos jo,if_neg (show ¬ i=j by omega)];rfl
     ·rw [if_neg jo,Tr.qsy k _ v _ (by omega)];simp only [h2 i0 j0 io jo]
theorem Tr.qpo:∀(t:Tr α) (i:Nat) (v:α) (j:Nat),(t.set d i v).get d j=if i=j then v else t.get d j
 |.nil,i,v,j=>by rw [Tr.set_nil,Tr.qsy d _ _ _ _ (by omega),Tr.get_nil]
 |.node u l r,i,v,j=>by
  rw [Tr.qzS];obtain ⟨h1,h2⟩:=half i j;by_cases i0:i=0
  ·rw [if_pos i0,Tr.qbZ,Tr.qbZ];by_cases j0:j=0
   ·rw [if_pos j0,if_pos (show i=j by omega)]
   ·rw [if_neg j0,if_neg j0,if_neg (show ¬ i=j by omega)]
  ·rw [if_neg i0];by_cases io:i % 2=1
   ·rw [if_pos io,Tr.qbZ,Tr.qbZ];by_cases j0:j=0
    ·rw [if_pos j0,if_pos j0,if_neg (show ¬ i=j by omega)]
    ·rw [if_neg j0,if_neg j0];by_cases jo:j % 2=1
     ·rw [if_pos jo,if_pos jo,Tr.qpo l];simp only [h1 io jo]
     ·rw [if_neg jo,if_neg jo,if_neg (show ¬ i=j by omega)]
   ·rw [if_neg io,Tr.qbZ,Tr.qbZ];by_cases j0:j=0
    ·rw [if_pos j0,if_pos j0,if_neg (show ¬ i=j by omega)]
    ·rw [if_neg j0,if_neg j0];by_cases jo:j % 2=1
     ·rw [if_pos jo,if_pos jo,if_neg (show ¬ i=j by omega)]
     ·rw [if_neg jo,if_neg jo,Tr.qpo r];simp only [h2 i0 j0 io jo]
noncomputable def Tr.fill(n:Nat)(f:Nat->α->α)(k:Nat):Nat->Nat->Tr α :=
 Nat.rec (motive:=λ_=>Nat->Nat->Tr α) (λ_ _=>.nil) (λ_ g a b=>Bool.rec (motive:=λ_=>Tr α) .nil (.node (f b d) (g (Nat.mul 2 a) (Nat.add a b)) (g (Nat.mul 2 a) (Nat.add (Nat.mul 2 a) b))) (Nat.ble (Nat.succ b) n)) k
noncomputable def Tr.qsK(n:Nat)(f:Nat->α->α)(t:Tr α):Nat->Nat->Tr α :=
 Tr.rec (motive:=λ_=>Nat->Nat->Tr α) (λa b=>Tr.fill d n f n a b) (λv l r gl gr a b=>.node (f b v) (gl (Nat.mul 2 a) (Nat.add a b)) (gr (Nat.mul 2 a) (Nat.add (Nat.mul 2 a) b))) t
noncomputable def Tr.allI(p:Nat->α->Bool)(t:Tr α):Nat->Nat->Bool :=
 Tr.rec (motive:=λ_=>Nat->Nat->Bool) (λa b=>true) (λv l r gl gr a b=>Bool.rec (motive:=λ_=>Bool) false (Bool.rec (motive:=λ_=>Bool) false (gr (Nat.mul 2 a) (Nat.add (Nat.mul 2 a) b)) (gl (Nat.mul 2 a) (Nat.add a b))) (p b v)) t
noncomputable def Tr.qxl(p:α->Bool)(t:Tr α):Nat->Nat->Nat :=
 Tr.rec (motive:=λ_=>Nat->Nat->Nat) (λa b=>0) (λv l r gl gr a b=>Nat.lor (Nat.lor (gl (Nat.mul 2 a) (Nat.add a b)) (gr (Nat.mul 2 a) (Nat.add (Nat.mul 2 a) b))) (Bool.rec (motive:=λ_=>Nat) 0 (Nat.shiftLeft 1 b) (p v))) t
theorem Tr.qpm(n:Nat)(f:Nat->α->α):∀(k a b j:Nat),1<=a->n<=b+k->a*j+b<n->(Tr.fill d n f k a b).get d j=f (a*j+b) d
 |0,a,b,j,ha,hk,hj=>by have:=Nat.le_add_left b (a*j);omega
 |k+1,a,b,j,ha,hk,hj=>by
  have hb:b<n:=by have:=Nat.le_add_left b (a*j);omega
  have e:Tr.fill d n f (k+1) a b=Bool.rec (motive:=λ_=>Tr α) .nil (.node (f b d) (Tr.fill d n f k (2*a) (a+b)) (Tr.fill d n f k (2*a) (2*a+b))) (Nat.ble (b+1) n):=rfl;rw [e,qwp,if_pos (by rw [Nat.ble_eq];omega),Tr.qbZ];by_cases j0:j=0
  ·rw [if_pos j0];subst j0;simp
  ·rw [if_neg j0];by_cases jo:j % 2=1
   ·have e1:2*a*(j / 2)+(a+b)=a*j+b:=by
     have:j=2*(j / 2)+1:=by omega
     conv=>rhs;rw [this]
     rw [Nat.mul_add,<- Nat.mul_assoc,Nat.mul_comm a 2];omega
    rw [if_pos jo,Tr.qpm n f k _ _ _ (by omega) (by omega) (by omega),e1]
   ·have e1:2*a*(j / 2-1)+(2*a+b)=a*j+b:=by
     have:j=2*(j / 2-1)+2:=by omega
     conv=>rhs;rw [this]
     rw [Nat.mul_add,<- Nat.mul_assoc,Nat.mul_comm a 2];omega
    rw [if_neg jo,Tr.qpm n f k _ _ _ (by omega) (by omega) (by omega),e1]
theorem Tr.qpn(n:Nat)(f:Nat->α->α):∀(t:Tr α) (a b j:Nat),1<=a->a*j+b<n->(t.qsK d n f a b).get d j=f (a*j+b) (t.get d j)
 |.nil,a,b,j,ha,hj=>Tr.qpm d n f n a b j ha (by omega) hj
 |.node v l r,a,b,j,ha,hj=>by
  have e:(Tr.node v l r).qsK d n f a b=.node (f b v) (l.qsK d n f (2*a) (a+b)) (r.qsK d n f (2*a) (2*a+b)):=rfl;rw [e,Tr.qbZ,Tr.qbZ];by_cases j0:j=0
  ·rw [if_pos j0,if_pos j0];subst j0;simp
  ·rw [if_neg j0,if_neg j0];by_cases jo:j % 2=1
   ·have e1:2*a*(j / 2)+(a+b)=a*j+b:=by
     have:j=2*(j / 2)+1:=by omega
     conv=>rhs;rw [this]
     rw [Nat.mul_add,<- Nat.mul_assoc,Nat.mul_comm a 2];omega
    rw [if_pos jo,if_pos jo,Tr.qpn n f l _ _ _ (by omega) (by omega),e1]
   ·have e1:2*a*(j / 2-1)+(2*a+b)=a*j+b:=by
     have:j=2*(j / 2-1)+2:=by omega
     conv=>rhs;rw [this]
     rw [Nat.mul_add,<- Nat.mul_assoc,Nat.mul_comm a 2];omega
    rw [if_neg jo,if_neg jo,Tr.qpn n f r _ _ _ (by omega) (by omega),e1]
theorem Tr.qo4{p:Nat->α->Bool}(hp:∀i,p i d=true):∀(t:Tr α) (a b j:Nat),t.allI p a b=true->p (a*j+b) (t.get d j)=true
 |.nil,a,b,j,h=>hp _
 |.node v l r,a,b,j,h=>by
  have e:(Tr.node v l r).allI p a b=Bool.rec (motive:=λ_=>Bool) false (Bool.rec (motive:=λ_=>Bool) false (r.allI p (2*a) (2*a+b)) (l.allI p (2*a) (a+b))) (p b v):=rfl;rw [e,qwp,qwp]at h;have hv:p b v=true:=by
   cases hh:p b v with
   |true=>rfl
   |false=>rw [hh]at h;simp at h
  have hl:l.allI p (2*a) (a+b)=true:=by
   cases hh:l.allI p (2*a) (a+b)with
   |true=>rfl
   |false=>rw [hh]at h;simp at h
  have hr:r.allI p (2*a) (2*a+b)=true:=by rw [hv,hl]at h;simpa using h
  rw [Tr.qbZ];by_cases j0:j=0
  ·rw [if_pos j0];subst j0;simpa using hv
  ·rw [if_neg j0];by_cases jo:j % 2=1
   ·have e1:2*a*(j / 2)+(a+b)=a*j+b:=by
     have:j=2*(j / 2)+1:=by omega
     conv=>rhs;rw [this]
     rw [Nat.mul_add,<- Nat.mul_assoc,Nat.mul_comm a 2];omega
    rw [if_pos jo,<- e1];exact Tr.qo4 hp l _ _ _ hl
   ·have e1:2*a*(j / 2-1)+(2*a+b)=a*j+b:=by
     have:j=2*(j / 2-1)+2:=by omega
     conv=>rhs;rw [this]
     rw [Nat.mul_add,<- Nat.mul_assoc,Nat.mul_comm a 2];omega
    rw [if_neg jo,<- e1];exact Tr.qo4 hp r _ _ _ hr
theorem Tr.qmE{p:α->Bool}(hp:p d=false):∀(t:Tr α) (a b j:Nat),p (t.get d j)=true->(t.qxl p a b).testBit (a*j+b)=true
 |.nil,a,b,j,h=>by rw [Tr.get_nil,hp]at h;cases h
 |.node v l r,a,b,j,h=>by
  have e:(Tr.node v l r).qxl p a b=(l.qxl p (2*a) (a+b) ||| r.qxl p (2*a) (2*a+b)) ||| Bool.rec (motive:=λ_=>Nat) 0 (1 <<< b) (p v):=rfl
  rw [e,qwp,Nat.testBit_or,Nat.testBit_or];rw [Tr.qbZ]at h;by_cases j0:j=0
  ·rw [if_pos j0]at h;subst j0;rw [h];simp [Nat.one_shiftLeft]
  ·rw [if_neg j0]at h;by_cases jo:j % 2=1
   ·have e1:2*a*(j / 2)+(a+b)=a*j+b:=by
     have:j=2*(j / 2)+1:=by omega
     conv=>rhs;rw [this]
     rw [Nat.mul_add,<- Nat.mul_assoc,Nat.mul_comm a 2];omega
    rw [if_pos jo]at h;have:=Tr.qmE hp l (2*a) (a+b) _ h;rw [e1]at this;rw [this];rfl
   ·have e1:2*a*(j / 2-1)+(2*a+b)=a*j+b:=by
     have:j=2*(j / 2-1)+2:=by omega
     conv=>rhs;rw [this]
     rw [Nat.mul_add,<- Nat.mul_assoc,Nat.mul_comm a 2];omega
    rw [if_neg jo]at h;have:=Tr.qmE hp r (2*a) (2*a+b) _ h;rw [e1]at this;rw [this];simp
end
end
end Go.Tx
end
